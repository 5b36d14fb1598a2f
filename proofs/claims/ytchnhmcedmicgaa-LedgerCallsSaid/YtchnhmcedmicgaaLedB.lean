/- The contracts of package ledger: Seen, set, Reserve, Release, Shift. -/
import Derived.Test.YtchnhmcedmicgaaLedA
import Derived.Deep.DeepCutAuto
import Derived.Deep.RegionWith
namespace Go.Proofs.Ytchnhmcedmicgaa.Led
open Go.RowKit Go.Proofs.Ytchnhmcedmicgaa.Aid
abbrev MT : TypeId := 114
theorem LedAt.look {w : World} {p mb : Nat} {cap : Int} {s : Run} (h : LedAt w p mb cap s) {r : List Int} (hr : okL .i64 8 r) : (Instr.lookup MT (.map (some mb)) (.agg (rv r)) false).run Try.prog w = .ok (.int .i64 (s.hist.count r : Nat)) w := by
  obtain ⟨n, g, h1, _, h3⟩ := h.map
  have := (h1.look keyAs8 huM huI (zero_int w) hr).1
  rw [keL_rv r hr.1, h3] at this
  exact this
theorem LedAt.bump {w : World} {p mb : Nat} {cap : Int} {s : Run} (h : LedAt w p mb cap s) {r : List Int} (hr : okL .i64 8 r) :
    ∃ (v0 : Value) (st : Nat) (w1 w2 : World), (Instr.mapEntry MT (.map (some mb)) (.agg (rv r))).run Try.prog w = .ok (.tuple #[v0, .int .i64 st]) w1 ∧
      (Instr.lookup MT (.map (some mb)) (.agg (rv r)) false).run Try.prog w = .ok (.int .i64 (s.hist.count r : Nat)) w ∧ (Instr.lookup MT (.map (some mb)) (.agg (rv r)) false).run Try.prog w1 = .ok (.int .i64 (s.hist.count r : Nat)) w1 ∧ Kept [mb] w w1 ∧
      (Instr.entryStore MT (.map (some mb)) (.int .i64 st) (.int .i64 ((s.hist.count r : Nat) + 1))).run Try.prog w1 = .ok () w2 ∧ Kept [mb] w w2 ∧
      ∃ n g, MapI w2 Try.prog 24 3 .i64 (keL .i64) (okL .i64 8) mb n g ∧ n ≤ s.hist.length + 1 ∧ ∀ r', (g r').getD 0 = ((s.hist ++ [r]).count r' : Nat) := by
  obtain ⟨n, g, h1, h2, h3⟩ := h.map
  have hsm := h.small
  obtain ⟨v0, st, w1, e1, e2, e3, k1, hst⟩ := h1.bump keyAs8 lawK8 huM huI zero_int (by unfold maxLen; omega) hr
  have hc : s.hist.count r ≤ s.hist.length := List.count_le_length
  obtain ⟨w2, e4, hM, k2⟩ := hst ((s.hist.count r : Nat) + 1) (by simp [Lit.wf, IntKind.min, IntKind.max, IntKind.signed, IntKind.bits]; omega)
  rw [keL_rv r hr.1] at e1 e2 e3
  rw [h3] at e2 e3
  refine ⟨v0, st, w1, w2, e1, e2, e3, k1, e4, k2, _, _, hM, by split <;> omega, fun r' => ?_⟩
  unfold upd
  rw [List.count_append]
  by_cases e : r' = r
  · subst e
    rw [if_pos rfl]
    simp
  · rw [if_neg e, h3]
    have : List.count r' [r] = 0 := List.count_eq_zero.2 (by simpa using e)
    rw [this]; rfl
theorem box_row (w : World) (r : List Int) : Blk (w.alloc (.cells (rv r) 24)) w.heap.size (rv r) 24 := Blk.new w _ _
theorem seen_calls (w : World) (p mb : Nat) (cap : Int) (s : Run) (r : List Int) (hr : okL .i64 8 r) (h : LedAt w p mb cap s) :
    Calls Try.prog 26 #[.pointer (some ⟨p, 0, none⟩), .agg (rv r)] w fun e w' => e = .returned (.int .i64 (s.hist.count r : Nat)) ∧ Below w.heap.size w w' := by
  have HL := Lib.hid (h.below ((Below.refl _ _).alloc (Nat.le_refl _) (.cells (rv r) 24)))
  have HB := Lib.hid (box_row w r)
  have c10 := HL.out.cells.c10
  have hl := HL.out.drew.look hr
  have hb := (Below.refl w.heap.size w).alloc (Nat.le_refl _) (.cells (rv r) 24)
  generalize s.hist.count r = c at hl ⊢
  clear h hr
  unfold rv at hl c10 hb HL HB ⊢
  go_enter Try.func26, Try.ntmps26
  go_wp2_with fail
  generalize w.alloc (.cells #[.int .i64 (g8 r 0), .int .i64 (g8 r 1), .int .i64 (g8 r 2), .int .i64 (g8 r 3), .int .i64 (g8 r 4), .int .i64 (g8 r 5), .int .i64 (g8 r 6), .int .i64 (g8 r 7)] 24) = w1 at HL HB c10 hl hb ⊢
  go_region_held3 (fun w' => w'.cell? ⟨p, 10, none⟩ = some (.map (some mb)) ∧ (Instr.lookup MT (.map (some mb)) (.agg #[.int .i64 (g8 r 0), .int .i64 (g8 r 1), .int .i64 (g8 r 2), .int .i64 (g8 r 3), .int .i64 (g8 r 4), .int .i64 (g8 r 5), .int .i64 (g8 r 6), .int .i64 (g8 r 7)]) false).run Try.prog w' = .ok (.int .i64 (c : Int)) w' ∧ w'.cell? ⟨w.heap.size, 0, none⟩ = some (.int .i64 (g8 r 0)) ∧ w'.cell? ⟨w.heap.size, 1, none⟩ = some (.int .i64 (g8 r 1)) ∧ w'.cell? ⟨w.heap.size, 2, none⟩ = some (.int .i64 (g8 r 2)) ∧ w'.cell? ⟨w.heap.size, 3, none⟩ = some (.int .i64 (g8 r 3)) ∧ w'.cell? ⟨w.heap.size, 4, none⟩ = some (.int .i64 (g8 r 4)) ∧ w'.cell? ⟨w.heap.size, 5, none⟩ = some (.int .i64 (g8 r 5)) ∧ w'.cell? ⟨w.heap.size, 6, none⟩ = some (.int .i64 (g8 r 6)) ∧ w'.cell? ⟨w.heap.size, 7, none⟩ = some (.int .i64 (g8 r 7)))
    (exact ⟨c10, hl, HB.out.cell (o := 0) rfl, HB.out.cell (o := 1) rfl, HB.out.cell (o := 2) rfl, HB.out.cell (o := 3) rfl, HB.out.cell (o := 4) rfl, HB.out.cell (o := 5) rfl, HB.out.cell (o := 6) rfl, HB.out.cell (o := 7) rfl⟩) (fail)
  go_wp2_with fail
  go_ret
  exact ⟨rfl, hb.drew⟩
end Go.Proofs.Ytchnhmcedmicgaa.Led
