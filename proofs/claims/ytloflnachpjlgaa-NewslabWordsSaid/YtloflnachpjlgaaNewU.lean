/- NewslabWords: the walk. -/
import Derived.Test.YtloflnachpjlgaaNewS
set_option linter.unusedSimpArgs false
namespace Go.Proofs.Ytloflnachpjlgaa.New
open Go.RowKit Go.Proofs.Ytloflnachpjlgaa.Aid Go.Proofs.Ytloflnachpjlgaa.Cell
/-- What Unword answers. -/
theorem unword_ok {x : Nat} (hx : x < 18446744073709551616) (h : wordOk x = true) (w : World) : Calls Try.prog 12 #[.int .u64 x] w fun e w' => e = .returned (.tuple #[.int .i64 (slotOf x : Nat), .int .i64 (nextOf x), .int .i64 (classOf x : Nat), .bool true]) ∧ Below w.heap.size w w' := by
  have := unword_calls x hx w
  rw [h, if_pos rfl] at this
  exact this
theorem unword_no {x : Nat} (hx : x < 18446744073709551616) (h : wordOk x = false) (w : World) : Calls Try.prog 12 #[.int .u64 x] w fun e w' => e = .returned (.tuple #[.int .i64 0, .int .i64 0, .int .i64 0, .bool false]) ∧ Below w.heap.size w w' := by
  have := unword_calls x hx w
  rw [h, if_neg (by decide)] at this
  exact this
theorem wordOk_iff {x : Nat} (h : wordOk x = true) : wordB (slotOf x : Nat) (nextOf x) (classOf x : Nat) = true ∧ wordV (slotOf x : Nat) (nextOf x) (classOf x : Nat) = (x : Int) := by
  unfold wordOk at h
  simpa using h
theorem wordNo {x : Nat} (h : wordOk x = false) (hm : x / 16777216 = 440005911841) : wordB (slotOf x : Nat) (nextOf x) (classOf x : Nat) = false := by
  unfold wordOk at h
  rw [word_marked hm] at h
  simpa using h
set_option maxHeartbeats 4000000 in
theorem words_walk (s n c : Int) (x : Nat) (hx : x < 18446744073709551616) (w : World) : Calls Try.prog 3 #[.int .i64 s, .int .i64 n, .int .i64 c, .int .u64 x] w fun e w' => e = .returned (.bool true) ∧ Below w.heap.size w w' := by
  have HX := Lib.hid hx
  have HWC := Lib.hid (fun W => word_calls s n c W)
  have HRC := Lib.hid (fun W => rword_calls s n c W)
  have d0 : ((x / 16777216 : Nat) : Int) = (x : Int) / 16777216 := by simp
  clear hx
  cases hB : wordB s n c with
  | false =>
    rw [hB, if_neg (by decide)] at HWC HRC
    clear hB
    go_enter Try.func3, Try.ntmps3
    go_wp2_with fail
    refine (alive_calls w).mono ?_
    rintro e w1 ⟨rfl, hb⟩
    have H1 := Lib.hid hb
    clear hb
    go_wp2_with fail
    refine (HWC.out w1).mono ?_
    rintro e w2 ⟨rfl, hb⟩
    have H2 := Lib.hid (below_then H1.out hb)
    clear hb H1
    go_wp2_with fail
    refine (HRC.out w2).mono ?_
    rintro e w3 ⟨rfl, rfl⟩
    clear HWC HRC
    cases hk : wordOk x with
    | true =>
      obtain ⟨k1, k2⟩ := wordOk_iff hk
      have HK := Lib.hid hk
      clear hk d0
      go_wp2_with fail
      refine (unword_ok HX.out HK.out w2).mono ?_
      rintro e w4 ⟨rfl, hb⟩
      have H4 := Lib.hid (below_then H2.out hb)
      clear hb
      go_wp2_with fail
      have HR := rword_yes _ _ _ w4 k1
      rw [k2] at HR
      refine HR.mono ?_
      rintro e w5 ⟨rfl, rfl⟩
      clear HR k1 k2
      go_wp2_with fail
      go_ret
      exact ⟨ret_bool (by simp), H4.out⟩
    | false =>
      have HK := Lib.hid hk
      clear hk
      by_cases hm : x / 16777216 = 440005911841
      · have HR := Lib.hid (fun W => rword_no _ _ _ W (wordNo HK.out hm))
        have b1 : Go.bits .and .u64 ((x : Int) / 256) 255 = ((slotOf x : Nat) : Int) := by
          rw [show (x : Int) / 256 = ((x / 256 : Nat) : Int) by simp, show (255 : Int) = ((255 : Nat) : Int) from rfl, u64_and_nat _ _ (by have := HX.out; omega) (by decide), show (255 : Nat) = 2 ^ 8 - 1 from rfl, Nat.and_two_pow_sub_one_eq_mod]
          rfl
        have b2 : Go.bits .and .u64 (x : Int) 255 = ((x % 256 : Nat) : Int) := by
          rw [show (255 : Int) = ((255 : Nat) : Int) from rfl, u64_and_nat _ _ (by have := HX.out; omega) (by decide), show (255 : Nat) = 2 ^ 8 - 1 from rfl, Nat.and_two_pow_sub_one_eq_mod]
        have b3 : Go.bits .and .u64 ((x : Int) / 65536) 255 = ((classOf x : Nat) : Int) := by
          rw [show (x : Int) / 65536 = ((x / 65536 : Nat) : Int) by simp, show (255 : Int) = ((255 : Nat) : Int) from rfl, u64_and_nat _ _ (by have := HX.out; omega) (by decide), show (255 : Nat) = 2 ^ 8 - 1 from rfl, Nat.and_two_pow_sub_one_eq_mod]
          rfl
        have b4 : wrap64 ((slotOf x : Nat) : Int) = ((slotOf x : Nat) : Int) := by unfold slotOf wrap64; omega
        have b5 : wrap64 ((classOf x : Nat) : Int) = ((classOf x : Nat) : Int) := by unfold classOf wrap64; omega
        rw [show nextOf x = (x : Int) % 256 - 1 by unfold nextOf; simp] at HR
        go_wp2_with fail
        refine (unword_no HX.out HK.out w2).mono ?_
        rintro e w4 ⟨rfl, hb⟩
        have H4 := Lib.hid (below_then H2.out hb)
        clear hb
        go_wp2_with fail
        refine (HR.out w4).mono ?_
        rintro e w5 ⟨rfl, rfl⟩
        clear HR b1 b2 b3 b4 b5 d0 hm
        go_wp2_with fail
        go_ret
        exact ⟨ret_bool (by simp), H4.out⟩
      · have hm2 : ((x : Int) / 16777216 == 440005911841) = false := by rw [beq_eq_false_iff_ne]; omega
        clear hm d0
        go_wp2_with fail
        refine (unword_no HX.out HK.out w2).mono ?_
        rintro e w4 ⟨rfl, hb⟩
        have H4 := Lib.hid (below_then H2.out hb)
        clear hb
        go_wp2_with fail
        go_ret
        exact ⟨ret_bool (by simp), H4.out⟩
  | true =>
    obtain ⟨W, hW, hWl, hs, hn, hcl, hok⟩ := word_of hB
    rw [hB, if_pos rfl, hW] at HWC HRC
    have HU := Lib.hid (fun W2 => unword_ok hWl hok W2)
    rw [hs, hn, hcl] at HU
    clear hB hW hWl hs hn hcl hok
    go_enter Try.func3, Try.ntmps3
    go_wp2_with fail
    refine (alive_calls w).mono ?_
    rintro e w1 ⟨rfl, hb⟩
    have H1 := Lib.hid hb
    clear hb
    go_wp2_with fail
    refine (HWC.out w1).mono ?_
    rintro e w2 ⟨rfl, hb⟩
    have H2 := Lib.hid (below_then H1.out hb)
    clear hb H1
    go_wp2_with fail
    refine (HRC.out w2).mono ?_
    rintro e w3 ⟨rfl, rfl⟩
    clear HWC HRC
    go_wp2_with fail
    refine (HU.out w2).mono ?_
    rintro e w3 ⟨rfl, hb⟩
    replace H2 := Lib.hid (below_then H2.out hb)
    clear hb HU
    generalize w3 = w2 at H2 ⊢
    cases hk : wordOk x with
    | true =>
      obtain ⟨k1, k2⟩ := wordOk_iff hk
      have HK := Lib.hid hk
      clear hk d0
      go_wp2_with fail
      refine (unword_ok HX.out HK.out w2).mono ?_
      rintro e w4 ⟨rfl, hb⟩
      have H4 := Lib.hid (below_then H2.out hb)
      clear hb
      go_wp2_with fail
      have HR := rword_yes _ _ _ w4 k1
      rw [k2] at HR
      refine HR.mono ?_
      rintro e w5 ⟨rfl, rfl⟩
      clear HR k1 k2
      go_wp2_with fail
      go_ret
      exact ⟨ret_bool (by simp), H4.out⟩
    | false =>
      have HK := Lib.hid hk
      clear hk
      by_cases hm : x / 16777216 = 440005911841
      · have HR := Lib.hid (fun W => rword_no _ _ _ W (wordNo HK.out hm))
        have b1 : Go.bits .and .u64 ((x : Int) / 256) 255 = ((slotOf x : Nat) : Int) := by
          rw [show (x : Int) / 256 = ((x / 256 : Nat) : Int) by simp, show (255 : Int) = ((255 : Nat) : Int) from rfl, u64_and_nat _ _ (by have := HX.out; omega) (by decide), show (255 : Nat) = 2 ^ 8 - 1 from rfl, Nat.and_two_pow_sub_one_eq_mod]
          rfl
        have b2 : Go.bits .and .u64 (x : Int) 255 = ((x % 256 : Nat) : Int) := by
          rw [show (255 : Int) = ((255 : Nat) : Int) from rfl, u64_and_nat _ _ (by have := HX.out; omega) (by decide), show (255 : Nat) = 2 ^ 8 - 1 from rfl, Nat.and_two_pow_sub_one_eq_mod]
        have b3 : Go.bits .and .u64 ((x : Int) / 65536) 255 = ((classOf x : Nat) : Int) := by
          rw [show (x : Int) / 65536 = ((x / 65536 : Nat) : Int) by simp, show (255 : Int) = ((255 : Nat) : Int) from rfl, u64_and_nat _ _ (by have := HX.out; omega) (by decide), show (255 : Nat) = 2 ^ 8 - 1 from rfl, Nat.and_two_pow_sub_one_eq_mod]
          rfl
        have b4 : wrap64 ((slotOf x : Nat) : Int) = ((slotOf x : Nat) : Int) := by unfold slotOf wrap64; omega
        have b5 : wrap64 ((classOf x : Nat) : Int) = ((classOf x : Nat) : Int) := by unfold classOf wrap64; omega
        rw [show nextOf x = (x : Int) % 256 - 1 by unfold nextOf; simp] at HR
        go_wp2_with fail
        refine (unword_no HX.out HK.out w2).mono ?_
        rintro e w4 ⟨rfl, hb⟩
        have H4 := Lib.hid (below_then H2.out hb)
        clear hb
        go_wp2_with fail
        refine (HR.out w4).mono ?_
        rintro e w5 ⟨rfl, rfl⟩
        clear HR b1 b2 b3 b4 b5 d0 hm
        go_wp2_with fail
        go_ret
        exact ⟨ret_bool (by simp), H4.out⟩
      · have hm2 : ((x : Int) / 16777216 == 440005911841) = false := by rw [beq_eq_false_iff_ne]; omega
        clear hm d0
        go_wp2_with fail
        refine (unword_no HX.out HK.out w2).mono ?_
        rintro e w4 ⟨rfl, hb⟩
        have H4 := Lib.hid (below_then H2.out hb)
        clear hb
        go_wp2_with fail
        go_ret
        exact ⟨ret_bool (by simp), H4.out⟩
theorem words_law (w : World) (s n c v : Int) (hv : 0 ≤ v ∧ v < 18446744073709551616) : Calls Try.prog 3 #[.int .i64 s, .int .i64 n, .int .i64 c, .int .u64 v] w fun e w' => e = .returned (.bool true) ∧ Below w.heap.size w w' := by
  obtain ⟨x, rfl⟩ := Int.eq_ofNat_of_zero_le hv.1
  exact words_walk s n c x (by omega) w
end Go.Proofs.Ytloflnachpjlgaa.New
