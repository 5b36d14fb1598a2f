/- Items in lists in memory (two rows of records of three numbers), and the contracts of package ring's methods that read. -/
import Derived.Test.YtldlogmjkbhomaaProg
import Derived.Test.YtldlogmjkbhomaaRngP
import Derived.Test.YtldlogmjkbhomaaAidRecs
import Derived.Laws.Rows
import Derived.Deep.RegionHeld3
import Derived.Deep.RegionWith
import Derived.Deep.DeepCutAuto
import Derived.BigQuiet
import Derived.Outline
namespace Go.Proofs.Ytldlogmjkbhomaa.Rng
open Go.RowKit Go.Proofs.Ytldlogmjkbhomaa.Aid
abbrev RT : TypeId := 137
abbrev KT : TypeId := 131
abbrev NT : TypeId := 135
def enc3 (r : R3) : List Value := [.int .i64 r.a, .int .i64 r.b, .int .i64 r.c]
theorem enc3_len (r : R3) : (enc3 r).length = 3 := rfl
theorem enc3_one (r : R3) : ∀ v ∈ enc3 r, v.oneCell' = true := by
  intro v hv
  simp [enc3] at hv
  rcases hv with rfl | rfl | rfl <;> rfl
def itemsL (s : RgS) (L N : Nat) : List R3 := (List.range N).map (lk s L)
def endR (s : RgS) (l : Nat) : R3 := ⟨headI (s l), lastI (s l), ((s l).length : Nat)⟩
def endsL (s : RgS) (L : Nat) : List R3 := (List.range L).map (endR s)
theorem itemsL_len (s : RgS) (L N : Nat) : (itemsL s L N).length = N := by simp [itemsL]
theorem endsL_len (s : RgS) (L : Nat) : (endsL s L).length = L := by simp [endsL]
theorem itemsL_at (s : RgS) (L : Nat) {N i : Nat} (h : i < N) : (itemsL s L N)[i]? = some (lk s L i) := by simp [itemsL, h]
theorem endsL_at (s : RgS) {L l : Nat} (h : l < L) : (endsL s L)[l]? = some (endR s l) := by simp [endsL, h]
/-- Where the parts lie. -/
structure Parts (w : World) (p : Nat) (F : List Nat) (N L : Nat) (s : RgS) (A : Option Addr) (gi ci gl cl : Nat) : Prop where
  head : Blk w p #[.slice A N ci, .slice (some ⟨gl, 0, none⟩) L cl] RT
  items : 0 ≤ N → A = some ⟨gi, 0, none⟩ ∧ Recs enc3 3 w KT gi ci (itemsL s L N) ∧ gi ∈ F ∧ gi ≠ p ∧ gi ≠ gl
  ends : Recs enc3 3 w NT gl cl (endsL s L)
  ins : p ∈ F ∧ gl ∈ F
  ne : p ≠ gl
  flt : ∀ x ∈ F, x < w.heap.size
/-- Rings: their struct in block p, all their blocks in F. -/
structure RngAt (w : World) (p : Nat) (F : List Nat) (N L : Nat) (s : RgS) : Prop where
  ok : OkG N L s
  ex : ∃ A gi ci gl cl, Parts w p F N L s A gi ci gl cl
section
variable {w w' : World} {p N L : Nat} {F : List Nat} {s : RgS} {A : Option Addr} {gi ci gl cl : Nat}
theorem Parts.same (h : Parts w p F N L s A gi ci gl cl) (hz : w.heap.size ≤ w'.heap.size) (hb : ∀ i, i < w.heap.size → i ∈ F → w'.heap[i]? = w.heap[i]?) : Parts w' p F N L s A gi ci gl cl :=
  ⟨(hb p h.head.lt h.ins.1).trans h.head, fun hN => by
    obtain ⟨h1, h2, h3⟩ := h.items hN
    exact ⟨h1, h2.same (hb gi h2.lt h3.1), h3⟩, h.ends.same (hb gl h.ends.lt h.ins.2), h.ins, h.ne, fun x hx => Nat.lt_of_lt_of_le (h.flt x hx) hz⟩
theorem RngAt.kept (h : RngAt w p F N L s) {G : List Nat} (k : Kept G w w') (hF : ∀ x ∈ F, x ∉ G) : RngAt w' p F N L s := by
  obtain ⟨A, gi, ci, gl, cl, h1⟩ := h.ex
  exact ⟨h.ok, A, gi, ci, gl, cl, h1.same k.size fun i hi hF' => k.block i hi (hF i hF')⟩
theorem RngAt.below (h : RngAt w p F N L s) (k : Below w.heap.size w w') : RngAt w' p F N L s := by
  obtain ⟨A, gi, ci, gl, cl, h1⟩ := h.ex
  exact ⟨h.ok, A, gi, ci, gl, cl, h1.same k.size fun i hi _ => k.block i hi⟩
theorem RngAt.flt (h : RngAt w p F N L s) : ∀ x ∈ F, x < w.heap.size := by
  obtain ⟨A, gi, ci, gl, cl, h1⟩ := h.ex
  exact h1.flt
theorem RngAt.drew (h : RngAt w p F N L s) : RngAt w.drew p F N L s := h.below (Below.refl _ _).drew
theorem Parts.c0 (h : Parts w p F N L s A gi ci gl cl) : w.cell? ⟨p, 0, none⟩ = some (.slice A N ci) := h.head.cell rfl
theorem Parts.c1 (h : Parts w p F N L s A gi ci gl cl) : w.cell? ⟨p, 1, none⟩ = some (.slice (some ⟨gl, 0, none⟩) L cl) := h.head.cell rfl
theorem Parts.item (h : Parts w p F N L s A gi ci gl cl) {i : Nat} (hi : i < N) : w.cell? ⟨gi, i * 3, none⟩ = some (.int .i64 (lk s L i).a) ∧ w.cell? ⟨gi, i * 3 + 1, none⟩ = some (.int .i64 (lk s L i).b) ∧ w.cell? ⟨gi, i * 3 + 2, none⟩ = some (.int .i64 (lk s L i).c) := by
  obtain ⟨_, hR, _⟩ := h.items (by omega)
  have hx := itemsL_at s L hi
  exact ⟨hR.at_ enc3_len (j := 0) hx rfl, hR.at_ enc3_len (j := 1) hx rfl, hR.at_ enc3_len (j := 2) hx rfl⟩
theorem Parts.list (h : Parts w p F N L s A gi ci gl cl) {l : Nat} (hl : l < L) : w.cell? ⟨gl, l * 3, none⟩ = some (.int .i64 (headI (s l))) ∧ w.cell? ⟨gl, l * 3 + 1, none⟩ = some (.int .i64 (lastI (s l))) ∧ w.cell? ⟨gl, l * 3 + 2, none⟩ = some (.int .i64 ((s l).length : Nat)) := by
  have hx := endsL_at s hl
  exact ⟨h.ends.at_ enc3_len (j := 0) hx rfl, h.ends.at_ enc3_len (j := 1) hx rfl, h.ends.at_ enc3_len (j := 2) hx rfl⟩
end
/-- A place's address, or none. -/
def atP (g n : Nat) (i : Int) : Value := if 0 ≤ i ∧ i < n then .pointer (some ⟨g, i.toNat * 3, none⟩) else .pointer none
theorem atP_in {g n i : Nat} (h : i < n) : atP g n (i : Int) = .pointer (some ⟨g, i * 3, none⟩) := by
  unfold atP
  rw [if_pos ⟨by omega, by omega⟩, Int.toNat_natCast]
theorem atP_out {g n : Nat} {i : Int} (h : ¬ (0 ≤ i ∧ i < n)) : atP g n i = .pointer none := by unfold atP; rw [if_neg h]
section
variable (w : World) (p : Nat) (F : List Nat) (N L : Nat) (s : RgS)
theorem item_calls (A : Option Addr) (gi ci gl cl : Nat) (i : Int) (h : Parts w p F N L s A gi ci gl cl) (hN : N ≤ 4096) :
    Calls Try.prog 74 #[.pointer (some ⟨p, 0, none⟩), .int .i64 i] w fun e w' => e = .returned (atP gi N i) ∧ w = w' := by
  have c0 := h.c0
  by_cases h0 : 0 ≤ i
  · by_cases h1 : i < (N : Int)
    · obtain ⟨k, rfl⟩ := Int.eq_ofNat_of_zero_le h0
      rw [atP_in (by omega)]
      obtain ⟨rfl, _⟩ := h.items (by omega)
      clear h
      go_enter Try.func74, Try.ntmps74
      go_wp2
      go_ret
      exact ⟨rfl, rfl⟩
    · rw [atP_out (by omega)]
      clear h
      go_enter Try.func74, Try.ntmps74
      go_wp2
      go_ret
      exact ⟨rfl, rfl⟩
  · rw [atP_out (by omega)]
    clear h
    go_enter Try.func74, Try.ntmps74
    go_wp2
    go_ret
    exact ⟨rfl, rfl⟩
theorem list_calls (A : Option Addr) (gi ci gl cl : Nat) (i : Int) (h : Parts w p F N L s A gi ci gl cl) :
    Calls Try.prog 75 #[.pointer (some ⟨p, 0, none⟩), .int .i64 i] w fun e w' => e = .returned (atP gl L i) ∧ w = w' := by
  have c1 := h.c1
  by_cases h0 : 0 ≤ i
  · by_cases h1 : i < (L : Int)
    · obtain ⟨k, rfl⟩ := Int.eq_ofNat_of_zero_le h0
      rw [atP_in (by omega)]
      clear h
      go_enter Try.func75, Try.ntmps75
      go_wp2
      go_ret
      exact ⟨rfl, rfl⟩
    · rw [atP_out (by omega)]
      clear h
      go_enter Try.func75, Try.ntmps75
      go_wp2
      go_ret
      exact ⟨rfl, rfl⟩
  · rw [atP_out (by omega)]
    clear h
    go_enter Try.func75, Try.ntmps75
    go_wp2
    go_ret
    exact ⟨rfl, rfl⟩
end
/-- The list, and the place, that a number names. -/
def lsI (s : RgS) (L : Nat) (l : Int) : List Nat := if 0 ≤ l ∧ l < L then s l.toNat else []
def lkI (s : RgS) (N L : Nat) (i : Int) : R3 := if 0 ≤ i ∧ i < N then lk s L i.toNat else ⟨-1, -1, -1⟩
section
variable (w : World) (p : Nat) (F : List Nat) (N L : Nat) (s : RgS) (i : Int) (h : RngAt w p F N L s)
include h
theorem next_calls : Calls Try.prog 36 #[.pointer (some ⟨p, 0, none⟩), .int .i64 i] w fun e w' => e = .returned (.int .i64 (lkI s N L i).c) ∧ w = w' := by
  obtain ⟨A, gi, ci, gl, cl, hP⟩ := h.ex
  have HI := Lib.hid (item_calls w p F N L s A gi ci gl cl i hP h.ok.n)
  unfold lkI
  by_cases hi : 0 ≤ i ∧ i < (N : Int)
  · rw [if_pos hi]
    obtain ⟨k, rfl⟩ := Int.eq_ofNat_of_zero_le hi.1
    rw [atP_in (by omega)] at HI
    obtain ⟨k0, k1, k2⟩ := hP.item (show k < N by omega)
    rw [Int.toNat_natCast]
    clear h hP hi
    go_enter Try.func36, Try.ntmps36
    go_wp2_with fail
    refine HI.out.mono ?_
    rintro e w1 ⟨rfl, rfl⟩
    go_wp2_with fail
    go_ret
    exact ⟨rfl, rfl⟩
  · rw [if_neg hi]
    rw [atP_out hi] at HI
    clear h hP hi
    go_enter Try.func36, Try.ntmps36
    go_wp2_with fail
    refine HI.out.mono ?_
    rintro e w1 ⟨rfl, rfl⟩
    go_wp2_with fail
    go_ret
    exact ⟨rfl, rfl⟩
theorem in_calls : Calls Try.prog 35 #[.pointer (some ⟨p, 0, none⟩), .int .i64 i] w fun e w' => e = .returned (.int .i64 (lkI s N L i).a) ∧ w = w' := by
  obtain ⟨A, gi, ci, gl, cl, hP⟩ := h.ex
  have HI := Lib.hid (item_calls w p F N L s A gi ci gl cl i hP h.ok.n)
  unfold lkI
  by_cases hi : 0 ≤ i ∧ i < (N : Int)
  · rw [if_pos hi]
    obtain ⟨k, rfl⟩ := Int.eq_ofNat_of_zero_le hi.1
    rw [atP_in (by omega)] at HI
    obtain ⟨k0, k1, k2⟩ := hP.item (show k < N by omega)
    rw [Int.toNat_natCast]
    clear h hP hi
    go_enter Try.func35, Try.ntmps35
    go_wp2_with fail
    refine HI.out.mono ?_
    rintro e w1 ⟨rfl, rfl⟩
    go_wp2_with fail
    go_ret
    exact ⟨rfl, rfl⟩
  · rw [if_neg hi]
    rw [atP_out hi] at HI
    clear h hP hi
    go_enter Try.func35, Try.ntmps35
    go_wp2_with fail
    refine HI.out.mono ?_
    rintro e w1 ⟨rfl, rfl⟩
    go_wp2_with fail
    go_ret
    exact ⟨rfl, rfl⟩
theorem first_calls : Calls Try.prog 37 #[.pointer (some ⟨p, 0, none⟩), .int .i64 i] w fun e w' => e = .returned (.int .i64 (headI (lsI s L i))) ∧ w = w' := by
  obtain ⟨A, gi, ci, gl, cl, hP⟩ := h.ex
  have HI := Lib.hid (list_calls w p F N L s A gi ci gl cl i hP)
  unfold lsI
  by_cases hi : 0 ≤ i ∧ i < (L : Int)
  · rw [if_pos hi]
    obtain ⟨k, rfl⟩ := Int.eq_ofNat_of_zero_le hi.1
    rw [atP_in (by omega)] at HI
    obtain ⟨k0, k1, k2⟩ := hP.list (show k < L by omega)
    rw [Int.toNat_natCast]
    clear h hP hi
    go_enter Try.func37, Try.ntmps37
    go_wp2_with fail
    refine HI.out.mono ?_
    rintro e w1 ⟨rfl, rfl⟩
    go_wp2_with fail
    go_ret
    exact ⟨rfl, rfl⟩
  · rw [if_neg hi]
    rw [atP_out hi] at HI
    clear h hP hi
    go_enter Try.func37, Try.ntmps37
    go_wp2_with fail
    refine HI.out.mono ?_
    rintro e w1 ⟨rfl, rfl⟩
    go_wp2_with fail
    go_ret
    exact ⟨rfl, rfl⟩
theorem len_calls : Calls Try.prog 38 #[.pointer (some ⟨p, 0, none⟩), .int .i64 i] w fun e w' => e = .returned (.int .i64 ((lsI s L i).length : Nat)) ∧ w = w' := by
  obtain ⟨A, gi, ci, gl, cl, hP⟩ := h.ex
  have HI := Lib.hid (list_calls w p F N L s A gi ci gl cl i hP)
  unfold lsI
  by_cases hi : 0 ≤ i ∧ i < (L : Int)
  · rw [if_pos hi]
    obtain ⟨k, rfl⟩ := Int.eq_ofNat_of_zero_le hi.1
    rw [atP_in (by omega)] at HI
    obtain ⟨k0, k1, k2⟩ := hP.list (show k < L by omega)
    rw [Int.toNat_natCast]
    clear h hP hi
    go_enter Try.func38, Try.ntmps38
    go_wp2_with fail
    refine HI.out.mono ?_
    rintro e w1 ⟨rfl, rfl⟩
    go_wp2_with fail
    go_ret
    exact ⟨rfl, rfl⟩
  · rw [if_neg hi]
    rw [atP_out hi] at HI
    clear h hP hi
    go_enter Try.func38, Try.ntmps38
    go_wp2_with fail
    refine HI.out.mono ?_
    rintro e w1 ⟨rfl, rfl⟩
    go_wp2_with fail
    go_ret
    exact ⟨rfl, rfl⟩
end
end Go.Proofs.Ytldlogmjkbhomaa.Rng
