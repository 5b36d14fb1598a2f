/- Slabs of the new layout: push, Take, Some. -/
import Derived.Test.YtloflnachpjlgaaNewH
set_option linter.unusedSimpArgs false
namespace Go.Proofs.Ytloflnachpjlgaa.New
open Go.RowKit Go.Proofs.Ytloflnachpjlgaa.Aid Go.Proofs.Ytloflnachpjlgaa.Cell
theorem own_kept {w w' : World} {base : Nat} {e : TypeId} {q : IntKind} {v : Value} {xs : List Int} {F : List Nat} (h : Own w base e q v xs) (k : Kept F w w') (hF : ∀ y ∈ F, y < base) : Own w' base e q v xs := by
  obtain ⟨h1, h2⟩ := h
  refine ⟨h1, ?_⟩
  rcases h2 with h2 | ⟨g, cap, cur, hv, hg, hh, r⟩
  · exact .inl h2
  · refine .inr ⟨g, cap, cur, hv, hg, ?_, r⟩
    rw [k.block g ?_ ?_]
    · exact hh
    · rcases Nat.lt_or_ge g w.heap.size with hlt | hge
      · exact hlt
      · rw [Array.getElem?_eq_none hge] at hh; cases hh
    · intro hx
      have := hF g hx
      omega
theorem OkN.bytes {x : Sn} {bs bs' : List Int} (h : OkN x bs) (hl : bs'.length = bs.length) (hb : Byt bs') : OkN x bs' := ⟨by rw [hl]; exact h.hi, by rw [hl]; exact h.sm, hb, h.cl, h.z1, h.z2, h.nz, h.h1, h.h2, h.ct⟩
section
variable (w : World) (p mp mg mc : Nat) (x : Sn) (bs : List Int) (h : SnP w p mp mg mc x bs)
include h
set_option maxHeartbeats 1000000 in
theorem push_calls (s : Nat) (hs : s < x.n) (hok : OkN (pushX x s) (layB x bs s)) : Calls Try.prog 56 #[.pointer (some ⟨p, 0, none⟩), .int .i64 s] w fun e w' => e = .returned (.tuple #[]) ∧ SnP w' p mp mg mc (pushX x s) (layB x bs s) ∧ Kept [p, mg] w w' := by
  have HW := Lib.hid (fun W => word_calls (s : Int) x.head x.c W)
  rw [h.ok.word hs, if_pos rfl] at HW
  have hfit := h.ok.fit hs
  have hsm := h.ok.sm
  have hat := h.ok.at_ hs
  have HS := Lib.hid (fun W hb => store_yes W mp mg mc bs (x.b + s * x.z) 8 (wordV s x.head x.c) ((h.below hb).mem) rfl hfit)
  have hlb : lay bs (x.b + s * x.z) (bytesTo (wordV s x.head x.c) 8) = layB x bs s := rfl
  rw [hlb] at HS
  clear hlb
  obtain ⟨_, _, c2, _, _, c5, _⟩ := h.cells
  have H := Lib.hid h
  have HC := Lib.hid (fun (W : World) (hb : Below w.heap.size w W) => (h.below hb).cells)
  have HOK := Lib.hid (And.intro hok (h.ok.bytes (layB_len h.ok hs) (layB_byt h.ok hs)))
  have hmv : ((s : Int) * (x.z : Int)) = ((s * x.z : Nat) : Int) := by simp
  have hmul : IntKind.i64.wrap ((s : Int) * (x.z : Int)) = ((s * x.z : Nat) : Int) := by
    rw [hmv]
    exact IntWalk.i64_in _ (by omega)
  have hcnt : IntKind.i64.wrap ((x.cnt : Int) + 1) = ((pushX x s).cnt : Int) := by
    have h1 := hok.ct
    have h2 := h.ok.many.1
    have h3 : (pushX x s).n = x.n := rfl
    have h4 : (pushX x s).cnt = x.cnt + 1 := rfl
    rw [show ((x.cnt : Int) + 1) = ((pushX x s).cnt : Int) by omega]
    exact IntWalk.i64_in _ (by omega)
  have hadd : IntKind.i64.wrap ((x.b : Int) + ((s * x.z : Nat) : Int)) = ((x.b + s * x.z : Nat) : Int) := by
    rw [show (x.b : Int) + ((s * x.z : Nat) : Int) = ((x.b + s * x.z : Nat) : Int) by omega]
    exact IntWalk.i64_in _ (by omega)
  clear h hmv hok hfit hsm hat hs
  generalize x.b + s * x.z = ad at *
  generalize s * x.z = m at *
  generalize wordV s x.head x.c = wv at *
  go_enter Try.func56, Try.ntmps56
  go_upto_region 0 with fail
  have H0 := Lib.hid ((Below.refl w.heap.size w).drew)
  go_region_held3 (fun w' => w'.cell? ⟨p, 2, none⟩ = some (.int .i64 x.c) ∧ w'.cell? ⟨p, 5, none⟩ = some (.int .i64 x.head))
    (first | exact ⟨(HC.out _ H0.out).2.2.1, (HC.out _ H0.out).2.2.2.2.2.1⟩ | exact ⟨(HC.out _ H1.out).2.2.1, (HC.out _ H1.out).2.2.2.2.2.1⟩)
    ((go_at_call 10; (with_reducible refine (Calls.mono (HW.out _) ?_)); rintro e w1 ⟨rfl, hb⟩; have H1 := Lib.hid (below_then H0.out hb); clear hb))
  clear c2 c5
  go_upto_region 1 with fail
  have H2 := Lib.hid (H1.out.drew)
  go_region_held3 (fun w' => w'.cell? ⟨p, 0, none⟩ = some (.pointer (some ⟨mp, 0, none⟩)) ∧ w'.cell? ⟨p, 1, none⟩ = some (.int .i64 x.b) ∧ w'.cell? ⟨p, 3, none⟩ = some (.int .i64 x.z))
    (first | exact ⟨(HC.out _ H2.out).1, (HC.out _ H2.out).2.1, (HC.out _ H2.out).2.2.2.1⟩ | exact ⟨H3.out.cells.1, H3.out.cells.2.1, H3.out.cells.2.2.2.1⟩)
    ((go_at_call 28; (with_reducible refine (Calls.mono (HS.out _ H2.out) ?_)); rintro e w3 ⟨rfl, hcell, hK⟩; have H3 := Lib.hid (show SnP w3 p mp mg mc x (layB x bs s) from ⟨(H.out.below H2.out).head.kept hK (by simp; exact H.out.n2), hcell, H.out.n1, H.out.n2, HOK.out.2⟩); have HK3 := Lib.hid ((Kept.of_below H2.out [mg]).trans hK); clear hcell hK))
  obtain ⟨_, _, _, _, _, _, d6⟩ := H3.out.cells
  have f5 := H3.out.head.free 5
  have f6 := H3.out.head.free 6
  go_wp2_with fail
  go_end0
  have ht := H3.out.turn (pushX x s) rfl rfl rfl rfl HOK.out.1
  exact ⟨rfl, ht.1, (HK3.out.mono (by simp)).trans (ht.2.mono (by simp))⟩
/-- What Take answers. -/
def TakeIs (w : World) (p mp mg mc : Nat) (x : Sn) (bs : List Int) (o : Option (List Nat)) (e : Ending) (w' : World) : Prop := match o with
  | none => e = .returned (.tuple #[.int .i64 (-1), .int .i64 10]) ∧ Below w.heap.size w w'
  | some [] => e = .returned (.tuple #[.int .i64 (-1), .int .i64 18]) ∧ Below w.heap.size w w'
  | some (k :: _) => e = .returned (.tuple #[.int .i64 ((x.b : Int) + ((k * x.z : Nat) : Int)), .int .i64 0]) ∧ SnP w' p mp mg mc (popX x bs) bs ∧ Kept [p] w w'
theorem take_calls : Calls Try.prog 35 #[.pointer (some ⟨p, 0, none⟩)] w (TakeIs w p mp mg mc x bs (listO x bs)) := by
  have HK := Lib.hid (check_calls w p mp mg mc x bs h)
  have H := Lib.hid h
  have HC := Lib.hid (fun (W : World) (hb : Below w.heap.size w W) => (h.below hb).cells)
  clear h
  cases ho : listO x bs with
  | none =>
    rw [ho] at HK
    rw [if_neg (by simp)] at HK
    go_enter Try.func35, Try.ntmps35
    go_wp2_with fail
    refine HK.out.mono ?_
    rintro e w1 ⟨rfl, hb⟩
    have H1 := Lib.hid hb
    clear hb
    go_wp2_with fail
    go_ret2
    exact ⟨rfl, H1.out⟩
  | some M =>
    rw [ho] at HK
    rw [if_pos (show (some M).isSome = true from rfl)] at HK
    have hL := listO_iff.1 ho
    cases M with
    | nil =>
      have hc : x.cnt = 0 := by have := hL.len; simpa using this.symm
      go_enter Try.func35, Try.ntmps35
      go_wp2_with fail
      refine HK.out.mono ?_
      rintro e w1 ⟨rfl, hb⟩
      have H1 := Lib.hid hb
      obtain ⟨_, _, _, _, _, _, d6⟩ := HC.out w1 hb
      rw [hc] at d6
      clear hb hc
      go_wp2_with fail
      go_ret2
      exact ⟨rfl, H1.out⟩
    | cons k L =>
      have hc : ((x.cnt : Int) == 0) = false := by
        have := hL.len
        rw [List.length_cons] at this
        rw [beq_eq_false_iff_ne]
        omega
      have HL := Lib.hid hL
      clear hL
      go_enter Try.func35, Try.ntmps35
      go_wp2_with fail
      refine HK.out.mono ?_
      rintro e w1 ⟨rfl, hb⟩
      have H1 := Lib.hid hb
      obtain ⟨_, _, _, _, _, _, d6⟩ := HC.out w1 hb
      clear hb
      go_wp2_with fail
      refine (pop_calls w1 p mp mg mc x bs (H.out.below H1.out) k L HL.out).mono ?_
      rintro e w2 ⟨rfl, hS, hK⟩
      have H2 := Lib.hid (And.intro hS ((Kept.of_below H1.out [p]).trans hK))
      clear hS hK
      go_wp2_with fail
      go_ret2
      exact ⟨rfl, H2.out⟩
end
end Go.Proofs.Ytloflnachpjlgaa.New
