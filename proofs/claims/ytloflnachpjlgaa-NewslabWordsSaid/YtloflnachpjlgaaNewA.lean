/- Layer 15: the contracts of Word and Unword, and of the document's Word. -/
import Derived.Test.YtloflnachpjlgaaNewP
import Derived.Deep.QuietTactic
import Derived.BigQuiet
import Derived.IntWalk
set_option linter.unusedSimpArgs false
namespace Go.Proofs.Ytloflnachpjlgaa.New
open Go.RowKit Go.Proofs.Ytloflnachpjlgaa.Aid Go.Proofs.Ytloflnachpjlgaa.Pack
theorem within_calls (n a b : Int) (w : World) : Calls Try.prog 48 #[.int .i64 n, .int .i64 a, .int .i64 b] w fun e w' => e = .returned (.bool (decide (a ≤ n ∧ n ≤ b))) ∧ w = w' := by
  by_cases h1 : a ≤ n
  · by_cases h2 : n ≤ b
    · rw [show decide (a ≤ n ∧ n ≤ b) = true by simp [h1, h2]]
      go_enter Try.func48, Try.ntmps48
      go_wp2_with fail
      go_ret
      exact ⟨ret_bool (by simp [h1, h2]), rfl⟩
    · rw [show decide (a ≤ n ∧ n ≤ b) = false by simp [h2]]
      go_enter Try.func48, Try.ntmps48
      go_wp2_with fail
      go_ret
      exact ⟨ret_bool (by simp [h1, h2]), rfl⟩
  · rw [show decide (a ≤ n ∧ n ≤ b) = false by simp [h1]]
    go_enter Try.func48, Try.ntmps48
    go_wp2_with fail
    go_ret
    exact ⟨ret_bool (by simp [h1]), rfl⟩
theorem fields_calls (w : World) : Calls Try.prog 50 #[] w fun e w' => ∃ A, e = .returned (.slice A 4 4) ∧ Pairs w' A fieldsL ∧ Below w.heap.size w w' := by
  go_enter Try.func50, Try.ntmps50
  go_wp2_with fail
  go_ret
  refine ⟨_, rfl, ?_, (Below.refl _ _).alloc (Nat.le_refl _) _⟩
  intro k hk
  have h4 : k < 4 := hk
  refine ⟨w.heap.size, 0, rfl, by simp, ?_⟩
  unfold fieldsL
  rcases (by omega : k = 0 ∨ k = 1 ∨ k = 2 ∨ k = 3) with rfl | rfl | rfl | rfl
  all_goals (constructor <;> go_simp <;> rfl)
theorem ints4u (w : World) (T : TypeId) (a b c d : Int) : Ints (w.alloc (.cells #[.int .u64 a, .int .u64 b, .int .u64 c, .int .u64 d] T)) .u64 (some ⟨w.heap.size, 0, none⟩) [a, b, c, d] := by
  intro k hk
  refine ⟨_, _, rfl, by simp, ?_⟩
  have : k = 0 ∨ k = 1 ∨ k = 2 ∨ k = 3 := by simp at hk; omega
  rcases this with rfl | rfl | rfl | rfl <;> go_simp
theorem word_no (s n c : Int) (w : World) (h : wordB s n c = false) : Calls Try.prog 10 #[.int .i64 s, .int .i64 n, .int .i64 c] w fun e w' => e = .returned (.tuple #[.int .u64 0, .bool false]) ∧ Below w.heap.size w w' := by
  by_cases h1 : 0 ≤ s ∧ s ≤ 127
  · by_cases h2 : -1 ≤ n ∧ n ≤ 127
    · have h3 : ¬ (0 ≤ c ∧ c ≤ 11) := fun h3 => by
        rw [wordB_iff.2 ⟨h1, h2, h3⟩] at h
        cases h
      have W1 := Lib.hid (fun W => within_calls s 0 127 W)
      have W2 := Lib.hid (fun W => within_calls n (-1) 127 W)
      have W3 := Lib.hid (fun W => within_calls c 0 11 W)
      rw [show decide (0 ≤ s ∧ s ≤ 127) = true by simpa using h1] at W1
      rw [show decide (-1 ≤ n ∧ n ≤ 127) = true by simpa using h2] at W2
      rw [show decide (0 ≤ c ∧ c ≤ 11) = false by simpa using h3] at W3
      clear h h1 h2 h3
      go_enter Try.func10, Try.ntmps10
      go_wp2_with fail
      refine (W1.out w).mono ?_
      rintro e w1 ⟨rfl, rfl⟩
      go_wp2_with fail
      refine (W2.out w).mono ?_
      rintro e w1 ⟨rfl, rfl⟩
      go_wp2_with fail
      refine (W3.out w).mono ?_
      rintro e w1 ⟨rfl, rfl⟩
      go_wp2_with fail
      go_ret2
      exact ⟨rfl, Below.refl _ _⟩
    · have W1 := Lib.hid (fun W => within_calls s 0 127 W)
      have W2 := Lib.hid (fun W => within_calls n (-1) 127 W)
      rw [show decide (0 ≤ s ∧ s ≤ 127) = true by simpa using h1] at W1
      rw [show decide (-1 ≤ n ∧ n ≤ 127) = false by simpa using h2] at W2
      clear h h1 h2
      go_enter Try.func10, Try.ntmps10
      go_wp2_with fail
      refine (W1.out w).mono ?_
      rintro e w1 ⟨rfl, rfl⟩
      go_wp2_with fail
      refine (W2.out w).mono ?_
      rintro e w1 ⟨rfl, rfl⟩
      go_wp2_with fail
      go_ret2
      exact ⟨rfl, Below.refl _ _⟩
  · have W1 := Lib.hid (fun W => within_calls s 0 127 W)
    rw [show decide (0 ≤ s ∧ s ≤ 127) = false by simpa using h1] at W1
    clear h h1
    go_enter Try.func10, Try.ntmps10
    go_wp2_with fail
    refine (W1.out w).mono ?_
    rintro e w1 ⟨rfl, rfl⟩
    go_wp2_with fail
    go_ret2
    exact ⟨rfl, Below.refl _ _⟩
theorem word_yes (s n c : Int) (w : World) (h : wordB s n c = true) : Calls Try.prog 10 #[.int .i64 s, .int .i64 n, .int .i64 c] w fun e w' => e = .returned (.tuple #[.int .u64 (wordV s n c), .bool true]) ∧ Below w.heap.size w w' := by
  obtain ⟨h1, h2, h3⟩ := wordB_iff.1 h
  obtain ⟨s', rfl⟩ := Int.eq_ofNat_of_zero_le h1.1
  obtain ⟨c', rfl⟩ := Int.eq_ofNat_of_zero_le h3.1
  obtain ⟨a, ha⟩ := Int.eq_ofNat_of_zero_le (show 0 ≤ n + 1 by omega)
  obtain rfl : n = (a : Int) - 1 := by omega
  have W1 := Lib.hid (fun W => within_calls (s' : Int) 0 127 W)
  have W2 := Lib.hid (fun W => within_calls ((a : Int) - 1) (-1) 127 W)
  have W3 := Lib.hid (fun W => within_calls (c' : Int) 0 11 W)
  rw [show decide ((0 : Int) ≤ (s' : Int) ∧ (s' : Int) ≤ 127) = true by simpa using h1] at W1
  rw [show decide (-1 ≤ (a : Int) - 1 ∧ (a : Int) - 1 ≤ 127) = true by simpa using h2] at W2
  rw [show decide ((0 : Int) ≤ (c' : Int) ∧ (c' : Int) ≤ 11) = true by simpa using h3] at W3
  have hp := pack_word (a := a) (s := s') (c := c') (by omega) (by omega) (by omega)
  have hwv : wordV (s' : Int) ((a : Int) - 1) (c' : Int) = ((a + 256 * s' + 65536 * c' + 7382074224233414656 : Nat) : Int) := by unfold wordV; omega
  rw [hwv]
  have e1 : wrap64 (a : Int) = (a : Int) := by unfold wrap64; omega
  have e2 : IntKind.u64.wrap (a : Int) = (a : Int) := by rw [u64_wrap]; omega
  have e3 : IntKind.u64.wrap (s' : Int) = (s' : Int) := by rw [u64_wrap]; omega
  have e4 : IntKind.u64.wrap (c' : Int) = (c' : Int) := by rw [u64_wrap]; omega
  have HP := Lib.hid hp
  clear h h1 h2 h3 ha hp hwv
  go_enter Try.func10, Try.ntmps10
  go_wp2_with fail
  refine (W1.out w).mono ?_
  rintro e w1 ⟨rfl, rfl⟩
  go_wp2_with fail
  refine (W2.out w).mono ?_
  rintro e w1 ⟨rfl, rfl⟩
  go_wp2_with fail
  refine (W3.out w).mono ?_
  rintro e w1 ⟨rfl, rfl⟩
  go_wp2_with fail
  refine (fields_calls w).mono ?_
  rintro e w2 ⟨A, rfl, hP, hb⟩
  have H2 := Lib.hid (And.intro hP hb)
  clear hP hb
  go_wp2_with fail
  have hba := (Below.refl w2.heap.size w2).alloc (Nat.le_refl _) (.cells #[.int .u64 (a : Int), .int .u64 (s' : Int), .int .u64 (c' : Int), .int .u64 440005911841] 22)
  refine (pack_calls fieldsL A 4 [(a : Int), (s' : Int), (c' : Int), 440005911841] _ 4 _ (H2.out.1.below hba) (ints4u w2 22 (a : Int) (s' : Int) (c' : Int) 440005911841) (by decide) apart_fields rfl).mono ?_
  rw [HP.out]
  rintro e w3 ⟨rfl, hb⟩
  have H3 := Lib.hid ((H2.out.2.trans (hba.mono H2.out.2.size)).trans (hb.mono (by have := H2.out.2.size; have := hba.size; omega)))
  clear hb hba H2
  go_wp2_with fail
  go_ret2
  exact ⟨rfl, H3.out⟩
theorem word_calls (s n c : Int) (w : World) : Calls Try.prog 10 #[.int .i64 s, .int .i64 n, .int .i64 c] w fun e w' => e = .returned (.tuple #[.int .u64 (if wordB s n c = true then wordV s n c else 0), .bool (wordB s n c)]) ∧ Below w.heap.size w w' := by
  cases h : wordB s n c with
  | true => exact word_yes s n c w h
  | false => exact word_no s n c w h
/-- Unword. -/
theorem unword_calls (x : Nat) (hx : x < 18446744073709551616) (w : World) : Calls Try.prog 12 #[.int .u64 x] w fun e w' => e = .returned (.tuple (if wordOk x = true then #[.int .i64 (slotOf x : Nat), .int .i64 (nextOf x), .int .i64 (classOf x : Nat), .bool true] else #[.int .i64 0, .int .i64 0, .int .i64 0, .bool false])) ∧ Below w.heap.size w w' := by
  have g0 : getV (x : Int) ((0 : Int), (8 : Int)) = ((x % 256 : Nat) : Int) := by
    have := get_nat (s := 0) (n := 8) hx (by decide) (by decide)
    simpa using this
  have g1 : getV (x : Int) ((8 : Int), (8 : Int)) = ((x / 256 % 256 : Nat) : Int) := get_nat (s := 8) (n := 8) hx (by decide) (by decide)
  have g2 : getV (x : Int) ((16 : Int), (8 : Int)) = ((x / 65536 % 256 : Nat) : Int) := get_nat (s := 16) (n := 8) hx (by decide) (by decide)
  have HG := Lib.hid (fun (W : World) (A : Option Addr) (h : Ints W .u64 A (fieldsL.map (getV (x : Int)))) => (show ∃ b o, A = some ⟨b, o, none⟩ ∧ W.cell? ⟨b, o, none⟩ = some (.int .u64 ((x % 256 : Nat) : Int)) ∧ W.cell? ⟨b, o + 1, none⟩ = some (.int .u64 ((x / 256 % 256 : Nat) : Int)) ∧ W.cell? ⟨b, o + 2, none⟩ = some (.int .u64 ((x / 65536 % 256 : Nat) : Int)) from by
    obtain ⟨b, o, rfl, _, h0⟩ := h 0 (by simp [fieldsL])
    obtain ⟨b1, o1, e1, _, h1⟩ := h 1 (by simp [fieldsL])
    obtain ⟨b2, o2, e2, _, h2⟩ := h 2 (by simp [fieldsL])
    injection e1 with e1
    injection e1 with e1a e1b _
    injection e2 with e2
    injection e2 with e2a e2b _
    subst e1a e1b e2a e2b
    refine ⟨b, o, rfl, ?_, ?_, ?_⟩
    · rw [← g0]; exact h0
    · rw [← g1]; exact h1
    · rw [← g2]; exact h2))
  have hs : slotOf x = x / 256 % 256 := rfl
  have hn : nextOf x = ((x % 256 : Nat) : Int) - 1 := rfl
  have hc : classOf x = x / 65536 % 256 := rfl
  have HW := Lib.hid (fun W => word_calls (slotOf x : Nat) (nextOf x) (classOf x : Nat) W)
  have HOK := Lib.hid (show wordOk x = (wordB (slotOf x : Nat) (nextOf x) (classOf x : Nat) && (wordV (slotOf x : Nat) (nextOf x) (classOf x : Nat) == (x : Int))) from rfl)
  rw [hs, hn, hc] at *
  have b0 : x % 256 < 256 := by omega
  have b1 : x / 256 % 256 < 256 := by omega
  have b2 : x / 65536 % 256 < 256 := by omega
  clear hs hn hc g0 g1 g2
  generalize x % 256 = a at *
  generalize x / 256 % 256 = s at *
  generalize x / 65536 % 256 = c at *
  generalize hWV : wordV (s : Int) ((a : Int) - 1) (c : Int) = wv at *
  generalize hWB : wordB (s : Int) ((a : Int) - 1) (c : Int) = wb at *
  generalize hWO : wordOk x = wo at *
  clear hWV hWB hWO
  have e1 : wrap64 (a : Int) = (a : Int) := by unfold wrap64; omega
  have e2 : IntKind.i64.wrap (a : Int) = (a : Int) := IntWalk.i64_in _ (by omega)
  have e3 : IntKind.i64.wrap ((a : Int) - 1) = (a : Int) - 1 := IntWalk.i64_in _ (by omega)
  have e4 : IntKind.i64.wrap (s : Int) = (s : Int) := IntWalk.i64_in _ (by omega)
  have e5 : IntKind.i64.wrap (c : Int) = (c : Int) := IntWalk.i64_in _ (by omega)
  clear b0 b1 b2 e1
  go_enter Try.func12, Try.ntmps12
  go_wp2_with fail
  refine (fields_calls w).mono ?_
  rintro e w2 ⟨A, rfl, hP, hb⟩
  have H2 := Lib.hid (And.intro hP hb)
  clear hP hb
  go_wp2_with fail
  refine (unpack_calls (x : Int) fieldsL A 4 w2 H2.out.1 (by decide) apart_fields).mono ?_
  rintro e w3 ⟨v, rfl, hown, hb⟩
  obtain ⟨A3, c3, rfl, hI⟩ := hown.shape
  obtain ⟨b, o, rfl, d0, d1, d2⟩ := HG.out w3 _ hI
  have H3 := Lib.hid (H2.out.2.trans (hb.mono H2.out.2.size))
  rw [show (fieldsL.map (getV (x : Int))).length = 4 from rfl]
  clear hown hI hb H2 HG
  go_wp2_with fail
  go_quiet (fail)
  go_wp2_with fail
  have HB := Lib.hid (below_drewN H3.out nq)
  refine (HW.out _).mono ?_
  rintro e w4 ⟨rfl, hb⟩
  have H4 := Lib.hid (below_then HB.out hb)
  clear hb H3 HB d0 d1 d2 HW
  have hok := HOK.out
  cases wb with
  | false =>
    have hw : wo = false := by rw [hok]; rfl
    subst hw
    clear hok
    go_wp2_with fail
    refine bodyPost_ret (v := .tuple #[.int .i64 0, .int .i64 0, .int .i64 0, .bool false]) (by simp [results, Try.results12, go_sem]) rfl ⟨rfl, H4.out⟩
  | true =>
    by_cases hx2 : wv = (x : Int)
    · have hw : wo = true := by rw [hok, hx2]; simp
      subst hw
      subst hx2
      clear hok
      go_wp2_with fail
      refine bodyPost_ret (v := .tuple #[.int .i64 (s : Int), .int .i64 ((a : Int) - 1), .int .i64 (c : Int), .bool true]) (by simp [results, Try.results12, go_sem]) rfl ⟨rfl, H4.out⟩
    · have hw : wo = false := by rw [hok]; simpa using hx2
      have hne : (wv != (x : Int)) = true := by simpa using hx2
      subst hw
      clear hok hx2
      go_wp2_with fail
      refine bodyPost_ret (v := .tuple #[.int .i64 0, .int .i64 0, .int .i64 0, .bool false]) (by simp [results, Try.results12, go_sem]) rfl ⟨rfl, H4.out⟩
end Go.Proofs.Ytloflnachpjlgaa.New
