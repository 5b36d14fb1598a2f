/- Layer 15: the sizes of the new layout's classes. -/
import Derived.Test.YtloflnachpjlgaaNewG
set_option linter.unusedVariables false
namespace Go.Proofs.Ytloflnachpjlgaa.New
open Go.RowKit Go.Proofs.Ytloflnachpjlgaa.Aid Go.Proofs.Ytloflnachpjlgaa.Cell
def tabN : List Int := [8, 16, 24, 32, 48, 64, 96, 128, 192, 256, 384, 512]
/-- A class's size. -/
def sizeN (c : Int) : Int := if 0 ≤ c ∧ c < tabN.length then tabN.getD c.toNat 0 else 0
theorem sizeN_bounds (c : Int) : sizeN c = 0 ∨ (0 ≤ c ∧ c < 12) ∧ 8 ≤ sizeN c ∧ sizeN c ≤ 512 := by
  unfold sizeN
  split
  · rename_i h
    obtain ⟨k, rfl⟩ := Int.eq_ofNat_of_zero_le h.1
    have hk : k < 12 := by
      have h2 : (k : Int) < 12 := h.2
      omega
    refine .inr ⟨⟨by omega, by omega⟩, ?_⟩
    rw [Int.toNat_natCast]
    rcases (by omega : k = 0 ∨ k = 1 ∨ k = 2 ∨ k = 3 ∨ k = 4 ∨ k = 5 ∨ k = 6 ∨ k = 7 ∨ k = 8 ∨ k = 9 ∨ k = 10 ∨ k = 11) with rfl | rfl | rfl | rfl | rfl | rfl | rfl | rfl | rfl | rfl | rfl | rfl <;> decide
  · exact .inl rfl
theorem own_lit1 (w : World) (base : Nat) (hb : base ≤ w.heap.size) (e : TypeId) (q : IntKind) (x : Int) : Own (w.alloc (.cells #[.int q x] e)) base e q (.slice (some ⟨w.heap.size, 0, none⟩) 1 1) [x] :=
  ⟨by simp, .inr ⟨w.heap.size, 1, #[.int q x], rfl, hb, heap_alloc_new w _, Nat.le_refl _, by decide, by simp, by simp⟩⟩
set_option maxRecDepth 100000 in
set_option maxHeartbeats 4000000 in
theorem table_calls (w : World) : Calls Try.prog 100 #[] w fun e w' => ∃ v, e = .returned v ∧ Own w' w.heap.size 3 .i64 v tabN ∧ Below w.heap.size w w' := by
  go_enter Try.func100, Try.ntmps100
  go_wp2
  go_loopw [1, 2] (fun v n wr => ∃ (i : Nat), n = .int .i64 ((2 ^ (i + 4) : Nat) : Int) ∧ i ≤ 6 ∧ Own wr w.heap.size 3 .i64 v (tabN.take (1 + 2 * i)) ∧ Below w.heap.size w wr) (fun _ n _ => 2048 - (intOf n).toNat)
  case atStart => exact ⟨0, rfl, by omega, own_lit1 _ _ (Nat.le_refl _) _ _ _, (Below.refl _ _).alloc (Nat.le_refl _) _⟩
  case round =>
    obtain ⟨i, rfl, hi, hown, hb⟩ := hrel
    have hsz := hb.size
    rcases (by omega : i = 0 ∨ i = 1 ∨ i = 2 ∨ i = 3 ∨ i = 4 ∨ i = 5 ∨ i = 6) with rfl | rfl | rfl | rfl | rfl | rfl | rfl
    · have hown : Own wr w.heap.size 3 .i64 _ [8] := hown
      clear hi
      have hb := hb
      rw [show ((2 ^ (0 + 4) : Nat) : Int) = 16 from rfl]
      go_wp2_with (first
        | (at_builtin; refine append_int rfl _ _ 30 rfl w.heap.size 3 .i64 8 Try.underlying30 info_int _ _ rfl hown _ rfl (by decide) (by decide) hsz ?_; intro v1 w1 hown1 hb1 _; have hbw1 := hb.trans hb1; have hsz1 := hbw1.size)
        | (at_builtin; refine append_int rfl _ _ 30 rfl w.heap.size 3 .i64 8 Try.underlying30 info_int _ _ rfl hown1 _ rfl (by decide) (by decide) hsz1 ?_; intro v2 w2 hown2 hb2 _))
      go_roundw
      case rel => exact ⟨1, by go_num, by omega, hown2, hbw1.trans hb2⟩
      case measure => simp [intOf]
    · have hown : Own wr w.heap.size 3 .i64 _ [8, 16, 24] := hown
      clear hi
      have hb := hb
      rw [show ((2 ^ (1 + 4) : Nat) : Int) = 32 from rfl]
      go_wp2_with (first
        | (at_builtin; refine append_int rfl _ _ 30 rfl w.heap.size 3 .i64 8 Try.underlying30 info_int _ _ rfl hown _ rfl (by decide) (by decide) hsz ?_; intro v1 w1 hown1 hb1 _; have hbw1 := hb.trans hb1; have hsz1 := hbw1.size)
        | (at_builtin; refine append_int rfl _ _ 30 rfl w.heap.size 3 .i64 8 Try.underlying30 info_int _ _ rfl hown1 _ rfl (by decide) (by decide) hsz1 ?_; intro v2 w2 hown2 hb2 _))
      go_roundw
      case rel => exact ⟨2, by go_num, by omega, hown2, hbw1.trans hb2⟩
      case measure => simp [intOf]
    · have hown : Own wr w.heap.size 3 .i64 _ [8, 16, 24, 32, 48] := hown
      clear hi
      have hb := hb
      rw [show ((2 ^ (2 + 4) : Nat) : Int) = 64 from rfl]
      go_wp2_with (first
        | (at_builtin; refine append_int rfl _ _ 30 rfl w.heap.size 3 .i64 8 Try.underlying30 info_int _ _ rfl hown _ rfl (by decide) (by decide) hsz ?_; intro v1 w1 hown1 hb1 _; have hbw1 := hb.trans hb1; have hsz1 := hbw1.size)
        | (at_builtin; refine append_int rfl _ _ 30 rfl w.heap.size 3 .i64 8 Try.underlying30 info_int _ _ rfl hown1 _ rfl (by decide) (by decide) hsz1 ?_; intro v2 w2 hown2 hb2 _))
      go_roundw
      case rel => exact ⟨3, by go_num, by omega, hown2, hbw1.trans hb2⟩
      case measure => simp [intOf]
    · have hown : Own wr w.heap.size 3 .i64 _ [8, 16, 24, 32, 48, 64, 96] := hown
      clear hi
      have hb := hb
      rw [show ((2 ^ (3 + 4) : Nat) : Int) = 128 from rfl]
      go_wp2_with (first
        | (at_builtin; refine append_int rfl _ _ 30 rfl w.heap.size 3 .i64 8 Try.underlying30 info_int _ _ rfl hown _ rfl (by decide) (by decide) hsz ?_; intro v1 w1 hown1 hb1 _; have hbw1 := hb.trans hb1; have hsz1 := hbw1.size)
        | (at_builtin; refine append_int rfl _ _ 30 rfl w.heap.size 3 .i64 8 Try.underlying30 info_int _ _ rfl hown1 _ rfl (by decide) (by decide) hsz1 ?_; intro v2 w2 hown2 hb2 _))
      go_roundw
      case rel => exact ⟨4, by go_num, by omega, hown2, hbw1.trans hb2⟩
      case measure => simp [intOf]
    · have hown : Own wr w.heap.size 3 .i64 _ [8, 16, 24, 32, 48, 64, 96, 128, 192] := hown
      clear hi
      have hb := hb
      rw [show ((2 ^ (4 + 4) : Nat) : Int) = 256 from rfl]
      go_wp2_with (first
        | (at_builtin; refine append_int rfl _ _ 30 rfl w.heap.size 3 .i64 8 Try.underlying30 info_int _ _ rfl hown _ rfl (by decide) (by decide) hsz ?_; intro v1 w1 hown1 hb1 _; have hbw1 := hb.trans hb1; have hsz1 := hbw1.size)
        | (at_builtin; refine append_int rfl _ _ 30 rfl w.heap.size 3 .i64 8 Try.underlying30 info_int _ _ rfl hown1 _ rfl (by decide) (by decide) hsz1 ?_; intro v2 w2 hown2 hb2 _))
      go_roundw
      case rel => exact ⟨5, by go_num, by omega, hown2, hbw1.trans hb2⟩
      case measure => simp [intOf]
    · have hown : Own wr w.heap.size 3 .i64 _ [8, 16, 24, 32, 48, 64, 96, 128, 192, 256, 384] := hown
      clear hi
      have hb := hb
      rw [show ((2 ^ (5 + 4) : Nat) : Int) = 512 from rfl]
      go_wp2_with (first
        | (at_builtin; refine append_int rfl _ _ 30 rfl w.heap.size 3 .i64 8 Try.underlying30 info_int _ _ rfl hown _ rfl (by decide) (by decide) hsz ?_; intro v1 w1 hown1 hb1 _; have hbw1 := hb.trans hb1; have hsz1 := hbw1.size))
      go_roundw
      case rel => exact ⟨6, by go_num, by omega, hown1, hbw1⟩
      case measure => simp [intOf]
    · have hown : Own wr w.heap.size 3 .i64 _ [8, 16, 24, 32, 48, 64, 96, 128, 192, 256, 384, 512] := hown
      clear hi
      have hb := hb
      rw [show ((2 ^ (6 + 4) : Nat) : Int) = 1024 from rfl]
      go_wp2
      refine bodyPost_ret (results_tmp rfl _ _ _) rfl ?_
      exact ⟨_, rfl, hown, hb⟩
theorem sizes_calls (w : World) : Calls Try.prog 94 #[.int .i64 1] w fun e w' => ∃ A c, e = .returned (.slice A tabN.length c) ∧ Ints w' .i64 A tabN ∧ Below w.heap.size w w' := by
  go_enter Try.func94, Try.ntmps94
  go_wp2_with (first
    | (go_at_call 100; refine (table_calls _).mono ?_; rintro e w1 ⟨v1, rfl, hown, hb1⟩))
  go_ret
  obtain ⟨A, c, rfl, hi⟩ := hown.shape
  exact ⟨A, c, rfl, hi, hb1⟩
set_option maxRecDepth 100000 in
theorem tsize_calls (c : Int) (w : World) : Calls Try.prog 82 #[.int .i64 1, .int .i64 c] w fun e w' => e = .returned (.int .i64 (sizeN c)) ∧ Below w.heap.size w w' := by
  unfold sizeN
  have S := Lib.hid sizes_calls
  have hl : tabN.length ≤ 16 := by decide
  generalize tabN = xs at S hl ⊢
  by_cases h : 0 ≤ c ∧ c < xs.length
  · rw [if_pos h]
    obtain ⟨k, rfl⟩ := Int.eq_ofNat_of_zero_le h.1
    rw [Int.toNat_natCast]
    have hk1 : (k : Int) < xs.length := h.2
    have hk0 : 0 ≤ (k : Int) := h.1
    have HG := Lib.hid (fun (w3 : World) (A : Option Addr) (h : Ints w3 .i64 A xs) => h k (by omega))
    generalize xs.getD k 0 = s at HG ⊢
    clear h
    go_enter Try.func82, Try.ntmps82
    go_wp2_with (first
      | (go_at_call 94; refine (S.out _).mono ?_; rintro e w1 ⟨A, cc, rfl, hI, hb1⟩; obtain ⟨b, o, rfl, hbl, hc0⟩ := HG.out _ _ hI))
    go_ret
    exact ⟨rfl, hb1⟩
  · rw [if_neg h]
    by_cases h0 : c < 0
    · clear h
      go_enter Try.func82, Try.ntmps82
      go_wp2_with (first
        | (go_at_call 94; refine (S.out _).mono ?_; rintro e w1 ⟨A, cc, rfl, hI, hb1⟩))
      go_ret
      exact ⟨rfl, hb1⟩
    · have h1 : (xs.length : Int) ≤ c := by omega
      clear h
      go_enter Try.func82, Try.ntmps82
      go_wp2_with (first
        | (go_at_call 94; refine (S.out _).mono ?_; rintro e w1 ⟨A, cc, rfl, hI, hb1⟩))
      go_ret
      exact ⟨rfl, hb1⟩
def tabNC : Array Value := #[.int .i64 8, .int .i64 16, .int .i64 24, .int .i64 32, .int .i64 48, .int .i64 64, .int .i64 96, .int .i64 128, .int .i64 192, .int .i64 256, .int .i64 384, .int .i64 512]
theorem tabN_Ints (w : World) (T : TypeId) : Ints (w.alloc (.cells tabNC T)) .i64 (some ⟨w.heap.size, 0, none⟩) tabN := fun k hk => by
  refine ⟨w.heap.size, 0, rfl, by simp, ?_⟩
  have h16 : k < 12 := hk
  unfold tabNC tabN
  rcases (by omega : k = 0 ∨ k = 1 ∨ k = 2 ∨ k = 3 ∨ k = 4 ∨ k = 5 ∨ k = 6 ∨ k = 7 ∨ k = 8 ∨ k = 9 ∨ k = 10 ∨ k = 11) with rfl | rfl | rfl | rfl | rfl | rfl | rfl | rfl | rfl | rfl | rfl | rfl
  all_goals go_simp
  all_goals rfl
theorem r6sizes_calls (w : World) : Calls Try.prog 84 #[.int .i64 1] w fun e w' => ∃ A c, e = .returned (.slice A tabN.length c) ∧ Ints w' .i64 A tabN ∧ Below w.heap.size w w' := by
  go_enter Try.func84, Try.ntmps84
  go_wp2
  go_ret
  exact ⟨_, _, rfl, tabN_Ints w _, (Below.refl _ _).alloc (Nat.le_refl _) _⟩
set_option maxRecDepth 100000 in
theorem rsize_calls (c : Int) (w : World) : Calls Try.prog 57 #[.int .i64 1, .int .i64 c] w fun e w' => e = .returned (.int .i64 (sizeN c)) ∧ Below w.heap.size w w' := by
  unfold sizeN
  have S := Lib.hid r6sizes_calls
  have hl : tabN.length ≤ 16 := by decide
  generalize tabN = xs at S hl ⊢
  by_cases h : 0 ≤ c ∧ c < xs.length
  · rw [if_pos h]
    obtain ⟨k, rfl⟩ := Int.eq_ofNat_of_zero_le h.1
    rw [Int.toNat_natCast]
    have hk1 : (k : Int) < xs.length := h.2
    have hk0 : 0 ≤ (k : Int) := h.1
    have HG := Lib.hid (fun (w3 : World) (A : Option Addr) (h : Ints w3 .i64 A xs) => h k (by omega))
    generalize xs.getD k 0 = s at HG ⊢
    clear h
    go_enter Try.func57, Try.ntmps57
    go_wp2_with (first
      | (go_at_call 84; refine (S.out _).mono ?_; rintro e w1 ⟨A, cc, rfl, hI, hb1⟩; obtain ⟨b, o, rfl, hbl, hc0⟩ := HG.out _ _ hI))
    go_ret
    exact ⟨rfl, hb1⟩
  · rw [if_neg h]
    by_cases h0 : c < 0
    · clear h
      go_enter Try.func57, Try.ntmps57
      go_wp2_with (first
        | (go_at_call 84; refine (S.out _).mono ?_; rintro e w1 ⟨A, cc, rfl, hI, hb1⟩))
      go_ret
      exact ⟨rfl, hb1⟩
    · have h1 : (xs.length : Int) ≤ c := by omega
      clear h
      go_enter Try.func57, Try.ntmps57
      go_wp2_with (first
        | (go_at_call 84; refine (S.out _).mono ?_; rintro e w1 ⟨A, cc, rfl, hI, hb1⟩))
      go_ret
      exact ⟨rfl, hb1⟩
end Go.Proofs.Ytloflnachpjlgaa.New
