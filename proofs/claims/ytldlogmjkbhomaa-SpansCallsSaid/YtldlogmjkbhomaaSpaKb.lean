/- The law's Do: a call on the runs and on the document's pages; their answers agree. -/
import Derived.Test.YtldlogmjkbhomaaSpaJb
import Derived.Test.YtldlogmjkbhomaaSpaTb
set_option linter.unusedSimpArgs false
namespace Go.Proofs.Ytldlogmjkbhomaa.Spa
open Go.RowKit Go.Proofs.Ytldlogmjkbhomaa.Aid
abbrev CTd : TypeId := 93
theorem Two.step {w0 w w1 : World} {p q P : Nat} {F G : List Nat} {xs ys : List Rn} (h : Two w0 w p F q G P xs) (k : Spw w p F P ys w1) : ∃ F', Hold w0 w1 p F' P ys ∧ RfAt w1 q G P xs ∧ (∀ x ∈ F', x ∉ G) ∧ (∀ x ∈ G, w0.heap.size ≤ x) := by
  obtain ⟨F', h1, h2, h3⟩ := h.hold.wrote k
  refine ⟨F', h1, h.ref.kept h2 fun x hx hf => h.dis x hf hx, fun x hx hg => ?_, h.base⟩
  rcases h3 x hx with e | e
  · exact h.dis x e hg
  · have := h.ref.flt x hg
    omega
theorem two_of {w0 w1 w2 : World} {p q P : Nat} {F G : List Nat} {ys : List Rn} (h : Hold w0 w1 p F P ys) (r : RfAt w2 q G P ys) (k : Kept G w1 w2) (hd : ∀ x ∈ F, x ∉ G) (hb : ∀ x ∈ G, w0.heap.size ≤ x) : Two w0 w2 p F q G P ys :=
  ⟨⟨h.sp.kept k hd, h.base, h.below.trans (k.below h.below.size hb)⟩, r, hd, hb⟩
set_option maxHeartbeats 1000000 in
theorem do_calls (w0 w : World) (p : Nat) (F : List Nat) (q : Nat) (G : List Nat) (P : Nat) (xs : List Rn) (h : Two w0 w p F q G P xs) (g : Bool) (n a : Int) :
    Calls Try.prog 48 #[.pointer (some ⟨p, 0, none⟩), .pointer (some ⟨q, 0, none⟩), .agg #[.bool g, .int .i64 n, .int .i64 a]] w fun e w' => e = .returned (.bool true) ∧ ∃ (ys : List Rn) (F' : List Nat), Two w0 w' p F' q G P ys := by
  have HT := Lib.hid h
  clear h
  go_enter Try.func48, Try.ntmps48
  go_upto_region 1 with fail
  have hb0 := (Below.refl w.heap.size w).alloc (Nat.le_refl _) (.cells #[.bool g, .int .i64 n, .int .i64 a] CTd)
  have HK := Lib.hid (Blk.new w #[.bool g, .int .i64 n, .int .i64 a] CTd)
  have H4 := Lib.hid (HT.out.on hb0)
  have HN := Lib.hid (show w.heap.size ∉ F ∧ w.heap.size ∉ G from ⟨fun hx => Nat.lt_irrefl _ (HT.out.hold.sp.flt _ hx), fun hx => Nat.lt_irrefl _ (HT.out.ref.flt _ hx)⟩)
  clear hb0 HT
  generalize w.alloc (.cells #[.bool g, .int .i64 n, .int .i64 a] CTd) = w4 at HK H4 ⊢
  generalize w.heap.size = cb at HK HN ⊢
  have d0 := HK.out.cell (o := 0) rfl
  have d1 := HK.out.cell (o := 1) rfl
  have d2 := HK.out.cell (o := 2) rfl
  cases g with
  | true =>
    clear d2
    go_wp2_with fail
    refine (give_calls w4 p F P xs H4.out.hold.sp n).mono ?_
    rintro e w5 ⟨rfl, hS⟩
    obtain ⟨F5, hH5, hR5, hD5, hB5⟩ := H4.out.step hS
    obtain ⟨_, _, hK5, _⟩ := H4.out.hold.wrote hS
    have H5 := Lib.hid (And.intro hH5 (And.intro hD5 hB5))
    have d1 := (HK.out.kept hK5 HN.out.1).cell (o := 1) rfl
    clear hS hH5 hK5 d0 H4 hD5 hB5
    go_wp2_with fail
    refine (rgive_calls w5 q G P xs hR5 n).mono ?_
    rintro e w6 ⟨rfl, hR6, hK6⟩
    have H6 := Lib.hid (two_of H5.out.1 hR6 hK6 H5.out.2.1 H5.out.2.2)
    clear hR5 hR6 hK6 d1 H5 HK
    go_wp2_with fail
    go_ret
    exact ⟨ret_bool (by simp), _, _, H6.out⟩
  | false =>
    go_wp2_with fail
    refine (take_calls w4 p F P xs H4.out.hold.sp n a).mono ?_
    rintro e w5 ⟨rfl, hS⟩
    obtain ⟨F5, hH5, hR5, hD5, hB5⟩ := H4.out.step hS
    obtain ⟨_, _, hK5, _⟩ := H4.out.hold.wrote hS
    have H5 := Lib.hid (And.intro hH5 (And.intro hD5 hB5))
    have d1 := (HK.out.kept hK5 HN.out.1).cell (o := 1) rfl
    have d2 := (HK.out.kept hK5 HN.out.1).cell (o := 2) rfl
    clear hS hH5 hK5 d0 H4 hD5 hB5
    go_wp2_with fail
    refine (rtake_calls w5 q G P xs hR5 n a).mono ?_
    rintro e w6 ⟨rfl, hR6, hK6⟩
    have H6 := Lib.hid (two_of H5.out.1 hR6 hK6 H5.out.2.1 H5.out.2.2)
    clear hR5 hR6 hK6 d1 d2 H5 HK
    go_wp2_with fail
    go_ret
    exact ⟨ret_bool (by simp), _, _, H6.out⟩
end Go.Proofs.Ytldlogmjkbhomaa.Spa
