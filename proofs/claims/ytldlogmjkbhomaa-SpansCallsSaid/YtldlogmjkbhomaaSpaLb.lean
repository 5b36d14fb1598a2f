/- The walk of SpansCalls. -/
import Derived.Test.YtldlogmjkbhomaaSpaKb
import Derived.Test.YtldlogmjkbhomaaSpaY
set_option linter.unusedSimpArgs false
namespace Go.Proofs.Ytldlogmjkbhomaa.Spa
open Go.RowKit Go.Proofs.Ytldlogmjkbhomaa.Aid
theorem take_can (n a : Int) (xs : List Rn) : decide (takeE n a xs = 0) = (bestA n a xs).isSome := by
  cases h : bestA n a xs with
  | none =>
    rw [(takeS_none h).2.2]
    by_cases hr : rightR n a = true
    · rw [if_pos hr]; rfl
    · rw [if_neg hr]; rfl
  | some k =>
    have hr : rightR n a = true := by
      unfold bestA at h
      by_cases hr : rightR n a = true
      · exact hr
      · rw [if_neg hr] at h
        cases h
    unfold takeE
    rw [if_pos hr, h]
    rfl
theorem Hold.kept {w0 w1 w2 : World} {p P : Nat} {F G : List Nat} {ys : List Rn} (h : Hold w0 w1 p F P ys) (k : Kept G w1 w2) (hd : ∀ x ∈ F, x ∉ G) (hb : ∀ x ∈ G, w0.heap.size ≤ x) : Hold w0 w2 p F P ys :=
  ⟨h.sp.kept k hd, h.base, h.below.trans (k.below h.below.size hb)⟩
/-- What the walk knows of the two rows of runs. -/
structure Seen (w : World) (A : Option Addr) (g2 : Nat) (xs : List Rn) : Prop where
  ours : ∀ k, k < xs.length → ∃ g, A = some ⟨g, 0, none⟩ ∧ w.cell? ⟨g, k * 3, none⟩ = some (.int .i64 (xs.getD k r0).p) ∧ w.cell? ⟨g, k * 3 + 1, none⟩ = some (.int .i64 (xs.getD k r0).n) ∧ w.cell? ⟨g, k * 3 + 2, none⟩ = some (.bool (xs.getD k r0).t)
  refs : ∀ k, k < xs.length → w.cell? ⟨g2, k * 3, none⟩ = some (.int .i64 (xs.getD k r0).p) ∧ w.cell? ⟨g2, k * 3 + 1, none⟩ = some (.int .i64 (xs.getD k r0).n) ∧ w.cell? ⟨g2, k * 3 + 2, none⟩ = some (.bool (xs.getD k r0).t)
theorem cell_on {w w' : World} {g o : Nat} {v : Value} (h : w.cell? ⟨g, o, none⟩ = some v) (k : Below w.heap.size w w') : w'.cell? ⟨g, o, none⟩ = some v :=
  (k.cell (p := ⟨g, o, none⟩) (World.block_lt_of_cell? _ _ h)).trans h
theorem Seen.on {w w' : World} {A : Option Addr} {g2 : Nat} {xs : List Rn} (h : Seen w A g2 xs) (k : Below w.heap.size w w') : Seen w' A g2 xs :=
  ⟨fun j hj => by
    obtain ⟨g, e, c0, c1, c2⟩ := h.ours j hj
    exact ⟨g, e, cell_on c0 k, cell_on c1 k, cell_on c2 k⟩, fun j hj => by
    obtain ⟨c0, c1, c2⟩ := h.refs j hj
    exact ⟨cell_on c0 k, cell_on c1 k, cell_on c2 k⟩⟩
theorem seen_of {w w1 : World} {A : Option Addr} {g2 c2 : Nat} {xs : List Rn} (h : ∀ k, k < xs.length → ∃ g, A = some ⟨g, 0, none⟩ ∧ w.cell? ⟨g, k * 3, none⟩ = some (.int .i64 (xs.getD k r0).p) ∧ w.cell? ⟨g, k * 3 + 1, none⟩ = some (.int .i64 (xs.getD k r0).n) ∧ w.cell? ⟨g, k * 3 + 2, none⟩ = some (.bool (xs.getD k r0).t)) (hb : Below w.heap.size w w1) (hR : Recs encR 3 w1 RT2 g2 c2 xs) : Seen w1 A g2 xs :=
  ⟨fun j hj => by
    obtain ⟨g, e, c0, c1, c2⟩ := h j hj
    exact ⟨g, e, cell_on c0 hb, cell_on c1 hb, cell_on c2 hb⟩, fun j hj => recs3d hR hj⟩
/-- What Find answers. -/
def findB (ask : Int) (P : Nat) : Bool := decide (0 ≤ ask) && decide (ask < P)
theorem find_any (w : World) (p : Nat) (F : List Nat) (P : Nat) (xs : List Rn) (h : SpAt w p F P xs) (page : Int) :
    Calls Try.prog 51 #[.pointer (some ⟨p, 0, none⟩), .int .i64 page] w fun e w' => ∃ r : Rn, e = .returned (.tuple #[.agg #[.int .i64 r.p, .int .i64 r.n, .bool r.t], .bool (findB page P)]) ∧ (findB page P = true → ∃ k, k < xs.length ∧ ((xs.getD k r0).p : Int) ≤ page ∧ page < (xs.getD k r0).p + (xs.getD k r0).n ∧ r = xs.getD k r0) ∧ Below w.heap.size w w' := by
  by_cases hp : page < 0 ∨ (P : Int) ≤ page
  · refine (find_no w p F P xs h page hp).mono ?_
    rintro e w' ⟨rfl, hb⟩
    have hf : findB page P = false := by unfold findB; simp; omega
    exact ⟨r0, by rw [hf]; rfl, fun h => (by rw [hf] at h; cases h), hb⟩
  · obtain ⟨i, rfl⟩ := Int.eq_ofNat_of_zero_le (show 0 ≤ page by omega)
    obtain ⟨k, hk, h1, h2⟩ := has_page xs h.ok.ch i (by omega) (by omega)
    refine (find_yes w p F P xs h k i hk h1 h2).mono ?_
    rintro e w' ⟨rfl, hb⟩
    have hf : findB (i : Int) P = true := by unfold findB; simp; omega
    exact ⟨xs.getD k r0, by rw [hf], fun _ => ⟨k, hk, by omega, by omega, rfl⟩, hb⟩
end Go.Proofs.Ytldlogmjkbhomaa.Spa
