/- Layer 6: the tables, and the lists' own calls: BinarySearch, Index, Contains, First over any list. -/
import Derived.Test.YthkpfeikpmcpeaaTabP
import Derived.Test.YthkpfeikpmcpeaaAidRows
set_option linter.unusedVariables false
namespace Go.Proofs.Ythkpfeikpmcpeaa.Tbb
open Go.RowKit Go.Proofs.Ythkpfeikpmcpeaa.Aid Go.Proofs.Ythkpfeikpmcpeaa.Tab
def tabN : List Int := [8, 16, 24, 32, 48, 64, 96, 128, 192, 256, 384, 512]
/-- The sizes of a layout's classes. -/
def tb (v : Int) : List Int := if v = 0 then tab else if v = 1 then tabN else []
theorem info_int : (Try.prog.info? 3).map (fun i => (i.zero, i.size, i.bytes)) = some (some (.int .i64 0), 1, 8) := by kernel_rfl
theorem own_lit1 (w : World) (base : Nat) (hb : base ≤ w.heap.size) (e : TypeId) (q : IntKind) (x : Int) : Own (w.alloc (.cells #[.int q x] e)) base e q (.slice (some ⟨w.heap.size, 0, none⟩) 1 1) [x] :=
  ⟨by simp, .inr ⟨w.heap.size, 1, #[.int q x], rfl, hb, heap_alloc_new w _, Nat.le_refl _, by decide, by simp, by simp⟩⟩
set_option maxRecDepth 100000 in
set_option maxHeartbeats 4000000 in
theorem table_calls (w : World) : Calls Try.prog 58 #[] w fun e w' => ∃ v, e = .returned v ∧ Own w' w.heap.size 3 .i64 v tabN ∧ Below w.heap.size w w' := by
  go_enter Try.func58, Try.ntmps58
  go_wp2
  go_loopw [1, 2] (fun v n wr => ∃ (i : Nat), n = .int .i64 ((2 ^ (i + 4) : Nat) : Int) ∧ i ≤ 6 ∧ Own wr w.heap.size 3 .i64 v (tabN.take (1 + 2 * i)) ∧ Below w.heap.size w wr) (fun _ n _ => 2048 - (intOf n).toNat)
  case atStart => exact ⟨0, rfl, by omega, own_lit1 _ _ (Nat.le_refl _) _ _ _, (Below.refl _ _).alloc (Nat.le_refl _) _⟩
  case round =>
    obtain ⟨i, rfl, hi, hown, hb⟩ := hrel
    have hsz := hb.size
    rcases (by omega : i = 0 ∨ i = 1 ∨ i = 2 ∨ i = 3 ∨ i = 4 ∨ i = 5 ∨ i = 6) with rfl | rfl | rfl | rfl | rfl | rfl | rfl
    · have hown : Own wr w.heap.size 3 .i64 _ [8] := hown
      clear hi
      have hb := hb
      rw [show ((2 ^ (0 + 4) : Nat) : Int) = 16 from rfl]
      go_wp2_with (first
        | (at_builtin; refine append_int rfl _ _ 23 rfl w.heap.size 3 .i64 8 Try.underlying23 info_int _ _ rfl hown _ rfl (by decide) (by decide) hsz ?_; intro v1 w1 hown1 hb1 _; have hbw1 := hb.trans hb1; have hsz1 := hbw1.size)
        | (at_builtin; refine append_int rfl _ _ 23 rfl w.heap.size 3 .i64 8 Try.underlying23 info_int _ _ rfl hown1 _ rfl (by decide) (by decide) hsz1 ?_; intro v2 w2 hown2 hb2 _))
      go_roundw
      case rel => exact ⟨1, by go_num, by omega, hown2, hbw1.trans hb2⟩
      case measure => simp [intOf]
    · have hown : Own wr w.heap.size 3 .i64 _ [8, 16, 24] := hown
      clear hi
      have hb := hb
      rw [show ((2 ^ (1 + 4) : Nat) : Int) = 32 from rfl]
      go_wp2_with (first
        | (at_builtin; refine append_int rfl _ _ 23 rfl w.heap.size 3 .i64 8 Try.underlying23 info_int _ _ rfl hown _ rfl (by decide) (by decide) hsz ?_; intro v1 w1 hown1 hb1 _; have hbw1 := hb.trans hb1; have hsz1 := hbw1.size)
        | (at_builtin; refine append_int rfl _ _ 23 rfl w.heap.size 3 .i64 8 Try.underlying23 info_int _ _ rfl hown1 _ rfl (by decide) (by decide) hsz1 ?_; intro v2 w2 hown2 hb2 _))
      go_roundw
      case rel => exact ⟨2, by go_num, by omega, hown2, hbw1.trans hb2⟩
      case measure => simp [intOf]
    · have hown : Own wr w.heap.size 3 .i64 _ [8, 16, 24, 32, 48] := hown
      clear hi
      have hb := hb
      rw [show ((2 ^ (2 + 4) : Nat) : Int) = 64 from rfl]
      go_wp2_with (first
        | (at_builtin; refine append_int rfl _ _ 23 rfl w.heap.size 3 .i64 8 Try.underlying23 info_int _ _ rfl hown _ rfl (by decide) (by decide) hsz ?_; intro v1 w1 hown1 hb1 _; have hbw1 := hb.trans hb1; have hsz1 := hbw1.size)
        | (at_builtin; refine append_int rfl _ _ 23 rfl w.heap.size 3 .i64 8 Try.underlying23 info_int _ _ rfl hown1 _ rfl (by decide) (by decide) hsz1 ?_; intro v2 w2 hown2 hb2 _))
      go_roundw
      case rel => exact ⟨3, by go_num, by omega, hown2, hbw1.trans hb2⟩
      case measure => simp [intOf]
    · have hown : Own wr w.heap.size 3 .i64 _ [8, 16, 24, 32, 48, 64, 96] := hown
      clear hi
      have hb := hb
      rw [show ((2 ^ (3 + 4) : Nat) : Int) = 128 from rfl]
      go_wp2_with (first
        | (at_builtin; refine append_int rfl _ _ 23 rfl w.heap.size 3 .i64 8 Try.underlying23 info_int _ _ rfl hown _ rfl (by decide) (by decide) hsz ?_; intro v1 w1 hown1 hb1 _; have hbw1 := hb.trans hb1; have hsz1 := hbw1.size)
        | (at_builtin; refine append_int rfl _ _ 23 rfl w.heap.size 3 .i64 8 Try.underlying23 info_int _ _ rfl hown1 _ rfl (by decide) (by decide) hsz1 ?_; intro v2 w2 hown2 hb2 _))
      go_roundw
      case rel => exact ⟨4, by go_num, by omega, hown2, hbw1.trans hb2⟩
      case measure => simp [intOf]
    · have hown : Own wr w.heap.size 3 .i64 _ [8, 16, 24, 32, 48, 64, 96, 128, 192] := hown
      clear hi
      have hb := hb
      rw [show ((2 ^ (4 + 4) : Nat) : Int) = 256 from rfl]
      go_wp2_with (first
        | (at_builtin; refine append_int rfl _ _ 23 rfl w.heap.size 3 .i64 8 Try.underlying23 info_int _ _ rfl hown _ rfl (by decide) (by decide) hsz ?_; intro v1 w1 hown1 hb1 _; have hbw1 := hb.trans hb1; have hsz1 := hbw1.size)
        | (at_builtin; refine append_int rfl _ _ 23 rfl w.heap.size 3 .i64 8 Try.underlying23 info_int _ _ rfl hown1 _ rfl (by decide) (by decide) hsz1 ?_; intro v2 w2 hown2 hb2 _))
      go_roundw
      case rel => exact ⟨5, by go_num, by omega, hown2, hbw1.trans hb2⟩
      case measure => simp [intOf]
    · have hown : Own wr w.heap.size 3 .i64 _ [8, 16, 24, 32, 48, 64, 96, 128, 192, 256, 384] := hown
      clear hi
      have hb := hb
      rw [show ((2 ^ (5 + 4) : Nat) : Int) = 512 from rfl]
      go_wp2_with (first
        | (at_builtin; refine append_int rfl _ _ 23 rfl w.heap.size 3 .i64 8 Try.underlying23 info_int _ _ rfl hown _ rfl (by decide) (by decide) hsz ?_; intro v1 w1 hown1 hb1 _; have hbw1 := hb.trans hb1; have hsz1 := hbw1.size))
      go_roundw
      case rel => exact ⟨6, by go_num, by omega, hown1, hbw1⟩
      case measure => simp [intOf]
    · have hown : Own wr w.heap.size 3 .i64 _ [8, 16, 24, 32, 48, 64, 96, 128, 192, 256, 384, 512] := hown
      clear hi
      have hb := hb
      rw [show ((2 ^ (6 + 4) : Nat) : Int) = 1024 from rfl]
      go_wp2
      refine bodyPost_ret (results_tmp rfl _ _ _) rfl ?_
      exact ⟨_, rfl, hown, hb⟩
end Go.Proofs.Ythkpfeikpmcpeaa.Tbb
