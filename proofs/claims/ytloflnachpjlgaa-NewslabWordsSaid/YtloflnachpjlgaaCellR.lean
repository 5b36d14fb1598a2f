/- The contracts of the reference's functions of layer 2. -/
import Derived.Test.YtloflnachpjlgaaCellC
import Derived.Test.YtloflnachpjlgaaSameB
import Derived.Test.YtloflnachpjlgaaAidI64
namespace Go.Proofs.Ytloflnachpjlgaa.Cell
open Go.RowKit Go.Proofs.Ytloflnachpjlgaa.Aid
theorem in_calls (s a n : Int) (w : World) (h0 : 0 ≤ s) (h1 : s ≤ 1000000000) :
    Calls Try.prog 96 #[.int .i64 s, .int .i64 a, .int .i64 n] w fun e w' => e = .returned (.bool (partB s a n)) ∧ w = w' := by
  by_cases h2 : 0 ≤ n
  · by_cases h3 : 0 ≤ a
    · by_cases h4 : a ≤ s
      · by_cases h5 : n ≤ s - a
        all_goals
          go_enter Try.func96, Try.ntmps96
          go_wp2
          go_ret
          exact ⟨ret_bool (by unfold partB; simp [*]; try omega), rfl⟩
      · go_enter Try.func96, Try.ntmps96
        go_wp2
        go_ret
        exact ⟨ret_bool (by unfold partB; simp [*]; try omega), rfl⟩
    · go_enter Try.func96, Try.ntmps96
      go_wp2
      go_ret
      exact ⟨ret_bool (by unfold partB; simp [*]; try omega), rfl⟩
  · go_enter Try.func96, Try.ntmps96
    go_wp2
    go_ret
    exact ⟨ret_bool (by unfold partB; simp [*]; try omega), rfl⟩
theorem width_calls (k : Int) (w : World) :
    Calls Try.prog 101 #[.int .i64 k] w fun e w' => e = .returned (.bool (widthB k)) ∧ w = w' := by
  by_cases h1 : k = 1
  · subst h1
    go_enter Try.func101, Try.ntmps101
    go_wp2
    go_ret
    exact ⟨rfl, rfl⟩
  · have e1 : (k == 1) = false := by simpa using h1
    by_cases h2 : k = 2
    · subst h2
      go_enter Try.func101, Try.ntmps101
      go_wp2
      go_ret
      exact ⟨rfl, rfl⟩
    · have e2 : (k == 2) = false := by simpa using h2
      by_cases h3 : k = 4
      · subst h3
        go_enter Try.func101, Try.ntmps101
        go_wp2
        go_ret
        exact ⟨rfl, rfl⟩
      · have e3 : (k == 4) = false := by simpa using h3
        clear h1 h2 h3
        go_enter Try.func101, Try.ntmps101
        go_wp2
        go_ret
        exact ⟨ret_bool (by unfold widthB; simp [*]), rfl⟩
/-- The number of bytes, the least first. -/
def num : List Int → Int
  | [] => 0
  | x :: l => x + 256 * num l
theorem num_bounds : ∀ l : List Int, Byt l → 0 ≤ num l ∧ num l < ((256 ^ l.length : Nat) : Int)
  | [], _ => by simp [num]
  | x :: l, h => by
    have h1 := h 0 (by simp)
    have h2 : Byt l := fun k hk => by simpa using h (k + 1) (by simpa using hk)
    have h3 := num_bounds l h2
    simp only [List.getD_cons_zero] at h1
    rw [List.length_cons, Nat.pow_succ]
    unfold num
    omega
theorem Byt.drop {l : List Int} (h : Byt l) (j : Nat) : Byt (l.drop j) := fun k hk => by
  simp only [List.length_drop] at hk
  have := h (j + k) (by omega)
  simpa [List.getD_eq_getElem?_getD] using this
theorem num_small (l : List Int) (h : Byt l) (hl : l.length ≤ 8) : num l < 18446744073709551616 := by
  have h1 := (num_bounds l h).2
  have h2 : 256 ^ l.length ≤ 256 ^ 8 := Nat.pow_le_pow_right (by decide) hl
  have h3 : (256 : Nat) ^ 8 = 18446744073709551616 := by decide
  omega
set_option maxHeartbeats 1000000 in
theorem rload_yes (w : World) (bs : List Int) (A : Option Addr) (c a k : Nat) (h : Ints w .u8 A bs) (hb : Byt bs) (hk : widthB k = true) (hn : a + k ≤ bs.length) (hs : bs.length ≤ 1048576) :
    Calls Try.prog 97 #[.slice A bs.length c, .int .i64 a, .int .i64 k] w fun e w' => e = .returned (.tuple #[.int .u64 (num (sub bs a k)), .int .i64 0]) ∧ w = w' := by
  have hk8 : 1 ≤ k ∧ k ≤ 8 := by have := width_cases hk; omega
  have hp : partB bs.length a k = true := by unfold partB; simp; omega
  have hl := sub_len bs a k hn
  have hsb := hb.sub a k hn
  have HI := Lib.hid h
  have HB := Lib.hid hsb
  have HP := Lib.hid hp
  have HK := Lib.hid hk
  have Hl := Lib.hid hl
  clear h hsb hp hk hl hb
  go_enter Try.func97, Try.ntmps97
  go_wp2_with (first | (go_at_call 101; refine (width_calls _ _).mono ?_; rw [HK.out]; rintro e w' ⟨rfl, rfl⟩) | (go_at_call 96; refine (in_calls _ _ _ _ (by omega) (by omega)).mono ?_; rw [HP.out]; rintro e w' ⟨rfl, rfl⟩))
  go_loop [8, 9] (fun v i => ∃ j : Nat, j ≤ k ∧ i = .int .i64 ((j : Int) - 1) ∧ v = .int .u64 (num ((sub bs a k).drop j))) (fun _ i => ((intOf i) + 1).toNat)
  case atStart => exact ⟨k, Nat.le_refl _, rfl, by rw [List.drop_eq_nil_of_le (by rw [Hl.out]; omega)]; rfl⟩
  case round =>
    obtain ⟨j, hj, rfl, rfl⟩ := hrel
    by_cases h0 : j = 0
    · subst h0
      go_wp2
      go_ret2
      exact ⟨rfl, rfl⟩
    · obtain ⟨i, rfl⟩ : ∃ i, j = i + 1 := ⟨j - 1, by omega⟩
      have hij : ((i + 1 : Nat) : Int) - 1 = (i : Int) := by omega
      rw [hij]
      have hi0 : (0 : Int) ≤ (i : Int) := by omega
      have hdr : (sub bs a k).drop i = bs.getD (a + i) 0 :: (sub bs a k).drop (i + 1) := by
        rw [drop_int (by rw [Hl.out]; omega), sub_get _ _ _ _ (by omega)]
      have hb1 := num_bounds _ (HB.out.drop (i + 1))
      have hlen : ((sub bs a k).drop (i + 1)).length ≤ 7 := by rw [List.length_drop, Hl.out]; omega
      have hpow : 256 ^ ((sub bs a k).drop (i + 1)).length ≤ 256 ^ 7 := Nat.pow_le_pow_right (by decide) hlen
      have h7 : (256 : Nat) ^ 7 = 72057594037927936 := by decide
      have hx := HB.out i (by rw [Hl.out]; omega)
      rw [sub_get _ _ _ _ (by omega)] at hx
      obtain ⟨b, o, rfl, hlt, hc⟩ := HI.out (a + i) (by omega)
      have hnum : num ((sub bs a k).drop i) = bs.getD (a + i) 0 + 256 * num ((sub bs a k).drop (i + 1)) := by rw [hdr]; rfl
      have HN := Lib.hid hnum
      clear hnum hdr
      generalize num ((sub bs a k).drop (i + 1)) = m at HN hb1
      generalize bs.getD (a + i) 0 = x at HN hx hc
      have hm0 : 0 ≤ m := hb1.1
      have hm1 : m ≤ 72057594037927936 := by omega
      obtain ⟨hx0, hx1⟩ := hx
      have e1 : IntKind.u64.wrap (m * 256) = m * 256 := by simp [IntKind.wrap, IntKind.bits, IntKind.signed]; omega
      have e2 : IntKind.u64.wrap (m * 256 + x) = m * 256 + x := by simp [IntKind.wrap, IntKind.bits, IntKind.signed]; omega
      have E1 := Lib.hid e1
      have E2 := Lib.hid e2
      clear hb1 hlen hpow h7 hij e1 e2
      go_wp2
      go_round
      case rel => exact ⟨i, by omega, by go_num, by rw [HN.out]; first | rw [E1.out, E2.out, Int.mul_comm, Int.add_comm] | go_num⟩
      case measure => simp [intOf]; try omega
theorem rload_no (w : World) (bs : List Int) (A : Option Addr) (c : Nat) (a k : Int) (hn : (widthB k && partB bs.length a k) = false) (hs : bs.length ≤ 1048576) :
    Calls Try.prog 97 #[.slice A bs.length c, .int .i64 a, .int .i64 k] w fun e w' => e = .returned (.tuple #[.int .u64 0, .int .i64 11]) ∧ w = w' := by
  cases hw : widthB k
  · have HK := Lib.hid hw
    clear hw hn
    go_enter Try.func97, Try.ntmps97
    go_wp2_with (first | (go_at_call 101; refine (width_calls _ _).mono ?_; rw [HK.out]; rintro e w' ⟨rfl, rfl⟩))
    go_ret2
    exact ⟨rfl, rfl⟩
  · rw [hw, Bool.true_and] at hn
    have HK := Lib.hid hw
    have HP := Lib.hid hn
    clear hw hn
    go_enter Try.func97, Try.ntmps97
    go_wp2_with (first | (go_at_call 101; refine (width_calls _ _).mono ?_; rw [HK.out]; rintro e w' ⟨rfl, rfl⟩) | (go_at_call 96; refine (in_calls _ _ _ _ (by omega) (by omega)).mono ?_; rw [HP.out]; rintro e w' ⟨rfl, rfl⟩))
    go_ret2
    exact ⟨rfl, rfl⟩
/-- Behind a slice of bytes that is no nil. -/
theorem fresh_of_own {w w' : World} {s : Value} {xs : List Int} (h : Own w' w.heap.size 5 .u8 s xs) (hn : s ≠ .slice none 0 0) (hb : Below w.heap.size w w') : Fresh xs w (.returned s) w' := by
  obtain ⟨g, c, rfl, _, hr, hg⟩ := Row.of_own h hn
  exact ⟨g, c, rfl, hr, hg, hb⟩
theorem Own.ne_nil {w : World} {base : Nat} {e : TypeId} {q : IntKind} {s : Value} {xs : List Int} (h : Own w base e q s xs) (hl : 0 < xs.length) : s ≠ .slice none 0 0 := by
  rintro rfl
  obtain ⟨g, c, h1, _⟩ := World.ownsRow.form h hl
  cases h1
set_option maxHeartbeats 1000000 in
theorem rbytes_calls (w : World) (v : Int) (k : Nat) (h1 : 1 ≤ k) (hk : k ≤ 8) :
    Calls Try.prog 86 #[.int .u64 v, .int .i64 k] w (Fresh (bytesTo v k) w) := by
  go_enter Try.func86, Try.ntmps86
  go_wp2_with fail
  go_loopw [5, 6] (fun s i wr => ∃ (j : Nat), i = .int .i64 j ∧ j ≤ k ∧ Own wr w.heap.size 5 .u8 s (bytesTo v j) ∧ Below w.heap.size w wr) (fun _ i _ => k - (intOf i).toNat)
  case atStart => exact ⟨0, rfl, by omega, Own.lit0 w _ (Nat.le_refl _) _ .u8, (Below.refl _ _).alloc (Nat.le_refl _) _⟩
  case round =>
    obtain ⟨j, rfl, hj, hown, hb⟩ := hrel
    have hsz := hb.size
    have HO := Lib.hid hown
    have HL := Lib.hid hb
    clear hown hb
    by_cases hlt : j < k
    · have hlj := bytesTo_len v j
      have hjl : (bytesTo v j).length ≤ 8 := by omega
      have Hs := Lib.hid (bytesTo_succ v j)
      clear hlj
      generalize bytesTo v j = bs at HO hjl Hs
      go_wp2_with (at_builtin; refine append_int rfl _ _ 45 rfl w.heap.size 5 .u8 1 Try.underlying45 info_u8 _ bs rfl HO.out (IntKind.u8.wrap (v / 2 ^ (8 * j))) rfl (by omega) (by omega) hsz ?_)
      intro v1 w1 hown1 hb1 _
      have HO1 := Lib.hid hown1
      have HL1 := Lib.hid (HL.out.trans hb1)
      clear hown1 hb1
      go_wp2_with fail
      go_roundw
      case rel => exact ⟨j + 1, by go_num, by omega, by rw [Hs.out]; exact HO1.out, HL1.out⟩
      case measure => simp [intOf]; omega
    · obtain rfl : j = k := by omega
      go_wp2
      go_ret
      exact fresh_of_own HO.out (Own.ne_nil HO.out (by rw [bytesTo_len]; omega)) HL.out
theorem ints_take {w : World} {q : IntKind} {ad : Addr} {bs : List Int} (h : Ints w q (some ad) bs) (n : Nat) : Ints w q (some ad) (bs.take n) := fun k hk => by
  simp only [List.length_take] at hk
  obtain ⟨b, o, e, hlt, hc⟩ := h k (by omega)
  refine ⟨b, o, e, hlt, ?_⟩
  rw [hc]
  simp [List.getD_eq_getElem?_getD, show k < n by omega]
theorem ints_drop {w : World} {q : IntKind} {b o : Nat} {bs : List Int} (h : Ints w q (some ⟨b, o, none⟩) bs) (n : Nat) : Ints w q (some ⟨b, o + n, none⟩) (bs.drop n) := fun k hk => by
  simp only [List.length_drop] at hk
  obtain ⟨b', o', e, hlt, hc⟩ := h (n + k) (by omega)
  cases e
  refine ⟨b, o + n, rfl, hlt, ?_⟩
  rw [Nat.add_assoc, hc]
  simp [List.getD_eq_getElem?_getD]
theorem ints_nil (w : World) (q : IntKind) (A : Option Addr) : Ints w q A [] := fun k hk => by simp at hk
set_option maxHeartbeats 4000000 in
theorem rput_len (w : World) (b o c : Nat) (bs : List Int) (a : Nat) (A : Option Addr) (c1 : Nat) (xs : List Int) (h : Ints w .u8 (some ⟨b, o, none⟩) bs) (hx : Ints w .u8 A xs) (hA : A = none → c1 = 0) (hc : bs.length ≤ c) (hn : a + xs.length ≤ bs.length) (hs : bs.length ≤ 1048576) :
    Calls Try.prog 85 #[.slice (some ⟨b, o, none⟩) bs.length c, .int .i64 a, .slice A xs.length c1] w (ReadGives (lay bs a xs) w) := by
  have hp : partB bs.length a xs.length = true := by unfold partB; simp; omega
  have HP := Lib.hid hp
  have HX := Lib.hid hx
  have HI := Lib.hid h
  clear hp h hx
  go_enter Try.func85, Try.ntmps85
  go_wp2_with fail
  refine (in_calls _ _ _ _ (by omega) (by omega)).mono ?_
  rw [HP.out]
  rintro e w' ⟨rfl, rfl⟩
  have hlt : (bs.take a).length = a := by simp; omega
  go_wp2_with (at_builtin; refine append_all rfl _ _ 45 rfl w.heap.size 5 .u8 1 Try.underlying45 info_u8 _ [] rfl (Own.lit0 w w.heap.size (Nat.le_refl _) 5 .u8) (bs.take a) ⟨b, o, none⟩ c (by rw [hlt]; rfl) ((ints_take HI.out a).below ((Below.refl _ _).alloc (Nat.le_refl _) _)) (by simp; omega) (by simp; omega) (by simp) ?_)
  intro v1 w1 hown1 hb1 _ hn1
  have hb1' : Below w.heap.size w w1 := ((Below.refl _ _).alloc (Nat.le_refl _) _).trans hb1
  have HO1 := Lib.hid hown1
  have HB1 := Lib.hid hb1'
  have hs1 := hb1'.size
  have HN1 := Lib.hid hn1
  clear hown1 hb1 hb1' hn1
  go_wp2_with (at_builtin; refine append_any rfl _ _ 45 rfl w.heap.size 5 .u8 1 Try.underlying45 info_u8 _ (bs.take a) rfl HO1.out xs A _ c1 rfl rfl hA (HX.out.below HB1.out) (by omega) (by omega) hs1 ?_)
  intro v2 w2 hown2 hb2 _ hn2
  have hb2' : Below w.heap.size w w2 := HB1.out.trans hb2
  have HO2 := Lib.hid hown2
  have HB2 := Lib.hid hb2'
  have hs2 := hb2'.size
  have HN2 := Lib.hid (show v2 ≠ .slice none 0 0 from hn2 HN1.out)
  have hld : (bs.drop (a + xs.length)).length = bs.length - (a + xs.length) := by simp
  have hla : (bs.take a ++ xs).length = a + xs.length := by simp; omega
  have Hld := Lib.hid hld
  clear hown2 hb2 hb2' hn2 hlt hld HO1 HN1
  by_cases hca : c = a + xs.length
  · have hd0 : bs.drop (a + xs.length) = [] := List.drop_eq_nil_of_le (by omega)
    have Hca := Lib.hid hca
    have Hd0 := Lib.hid hd0
    clear hd0
    go_wp2_with (at_builtin; refine append_any rfl _ _ 45 rfl w.heap.size 5 .u8 1 Try.underlying45 info_u8 _ (bs.take a ++ xs) rfl HO2.out [] (some ⟨b, o, none⟩) _ _ rfl (by simp; omega) (fun h => by cases h) (ints_nil _ _ _) (by simp; omega) (by simp; omega) hs2 ?_)
    intro v3 w3 hown3 hb3 _ hn3
    have hlay : bs.take a ++ xs = lay bs a xs := by unfold lay; rw [Hd0.out, List.append_nil]
    obtain ⟨g, c3, rfl, hl3, hr3, hg3⟩ := Row.of_own hown3 (hn3 HN2.out)
    have hb3' : Below w.heap.size w w3 := HB2.out.trans hb3
    have HR := Lib.hid hr3
    have Hlay := Lib.hid hlay
    have Hl3 := Lib.hid hl3
    clear hown3 hr3 hlay hl3 hn3 hca
    go_wp2_with fail
    go_ret2
    refine ⟨g, c3, ret_slice_i ?_, ?_, hg3, hb3'⟩
    · first | (rw [← Hlay.out]; done) | (rw [← Hlay.out]; simp)
    · first | exact HR.out | (rw [← Hlay.out]; simpa using HR.out)
  · have hlay : bs.take a ++ xs ++ bs.drop (a + xs.length) = lay bs a xs := rfl
    go_wp2_with (at_builtin; refine append_any rfl _ _ 45 rfl w.heap.size 5 .u8 1 Try.underlying45 info_u8 _ (bs.take a ++ xs) rfl HO2.out (bs.drop (a + xs.length)) (some ⟨b, o + (a + xs.length), none⟩) _ _ rfl (by simp) (fun h => by cases h) ((ints_drop HI.out (a + xs.length)).below HB2.out) (by simp; omega) (by simp; omega) hs2 ?_)
    intro v3 w3 hown3 hb3 _ hn3
    obtain ⟨g, c3, rfl, hl3, hr3, hg3⟩ := Row.of_own hown3 (hn3 HN2.out)
    have hb3' : Below w.heap.size w w3 := HB2.out.trans hb3
    have HR := Lib.hid hr3
    have Hlay := Lib.hid hlay
    clear hown3 hr3 hlay hl3 hn3
    go_wp2_with fail
    go_ret2
    refine ⟨g, c3, ret_slice_i ?_, ?_, hg3, hb3'⟩
    · first | (rw [← Hlay.out]; done) | (rw [← Hlay.out]; simp)
    · first | exact HR.out | (rw [← Hlay.out]; simpa using HR.out)
theorem rput_yes (w : World) (b o c : Nat) (bs : List Int) (a : Nat) (A : Option Addr) (c1 : Nat) (xs : List Int) (m : Nat) (hm : xs.length = m) (h : Ints w .u8 (some ⟨b, o, none⟩) bs) (hx : Ints w .u8 A xs) (hA : A = none → c1 = 0) (hc : bs.length ≤ c) (hn : a + xs.length ≤ bs.length) (hs : bs.length ≤ 1048576) :
    Calls Try.prog 85 #[.slice (some ⟨b, o, none⟩) bs.length c, .int .i64 a, .slice A m c1] w (ReadGives (lay bs a xs) w) := by
  subst hm
  exact rput_len w b o c bs a A c1 xs h hx hA hc hn hs
theorem rput_no (w : World) (B : Option Addr) (c : Nat) (bs : List Int) (a : Int) (A : Option Addr) (c1 n : Nat) (hn : partB bs.length a n = false) (hs : bs.length ≤ 1048576) :
    Calls Try.prog 85 #[.slice B bs.length c, .int .i64 a, .slice A n c1] w fun e w' => e = .returned (.tuple #[.slice B bs.length c, .int .i64 11]) ∧ w = w' := by
  have HP := Lib.hid hn
  clear hn
  go_enter Try.func85, Try.ntmps85
  go_wp2_with fail
  refine (in_calls _ _ _ _ (by omega) (by omega)).mono ?_
  rw [HP.out]
  rintro e w' ⟨rfl, rfl⟩
  go_wp2_with fail
  go_ret2
  exact ⟨rfl, rfl⟩
/-- What the program gathers is the number. -/
theorem or_add (x y : Nat) (n : Nat) (h : x < 2 ^ n) : x ||| (y * 2 ^ n) = x + y * 2 ^ n := by
  rw [Nat.or_comm, Nat.mul_comm, ← Nat.two_pow_add_eq_or_of_lt h, Nat.add_comm]
theorem u64_or_nat (x y : Nat) (hx : x < 18446744073709551616) (hy : y < 18446744073709551616) : Go.bits .or .u64 (x : Int) (y : Int) = ((x ||| y : Nat) : Int) := by
  apply R_inj (R_bits _ _ _)
  · unfold R
    have := Nat.or_lt_two_pow (n := 64) (x := x) (y := y) (by omega) (by omega)
    omega
  · rw [B_or, B_nat, B_nat, B_nat, BitVec.ofNat_or]
theorem or_num (bs : List Int) (a : Nat) : ∀ k, k ≤ 8 → a + k ≤ bs.length → Byt bs → orTo bs a k = num (sub bs a k)
  | 0, _, _, _ => rfl
  | k + 1, hk, hn, hb => by
    have ih := or_num bs a k (by omega) (by omega) hb
    have hs : sub bs a (k + 1) = sub bs a k ++ [bs.getD (a + k) 0] := by
      unfold sub
      rw [List.take_succ_eq_append_getElem (by simp; omega)]
      simp [List.getD_eq_getElem?_getD, show a + k < bs.length by omega]
    have hx := hb (a + k) (by omega)
    have hnb := num_bounds _ (hb.sub a k (by omega))
    rw [sub_len _ _ _ (by omega)] at hnb
    have hna : ∀ (l : List Int) (x : Int), num (l ++ [x]) = num l + x * ((256 ^ l.length : Nat) : Int) := by
      intro l x
      induction l with
      | nil => simp [num]
      | cons y l ih' =>
        rw [List.cons_append, num, ih', num, List.length_cons, Nat.pow_succ]
        rw [Int.natCast_mul, Int.mul_add]
        simp only [Int.add_assoc]
        congr 2
        rw [← Int.mul_assoc, Int.mul_comm 256 x, Int.mul_assoc, Int.mul_comm 256]
        rfl
    rw [orTo, ih, hs, hna, sub_len _ _ _ (by omega)]
    generalize bs.getD (a + k) 0 = x at hx
    generalize num (sub bs a k) = m at hnb
    obtain ⟨x, rfl⟩ := Int.eq_ofNat_of_zero_le hx.1
    obtain ⟨m, rfl⟩ := Int.eq_ofNat_of_zero_le hnb.1
    have e256 : (256 : Nat) ^ k = 2 ^ (8 * k) := by rw [show (256 : Nat) = 2 ^ 8 from rfl, ← Nat.pow_mul]
    rw [e256] at hnb ⊢
    have hle : 2 ^ (8 * k) ≤ 2 ^ 56 := Nat.pow_le_pow_right (by decide) (by omega)
    have hm : m < 2 ^ (8 * k) := by omega
    have hmul : x * 2 ^ (8 * k) < 2 ^ 64 := by
      have h1 : x * 2 ^ (8 * k) ≤ 255 * 2 ^ (8 * k) := Nat.mul_le_mul_right _ (by omega)
      have h2 : 255 * 2 ^ (8 * k) ≤ 255 * 2 ^ 56 := Nat.mul_le_mul_left _ hle
      have h3 : 255 * 2 ^ 56 < 2 ^ 64 := by decide
      omega
    have hw : IntKind.u64.wrap ((x : Int) * 2 ^ (8 * k)) = ((x * 2 ^ (8 * k) : Nat) : Int) := by
      rw [u64_wrap]
      have : ((x : Int) * 2 ^ (8 * k)) = ((x * 2 ^ (8 * k) : Nat) : Int) := by simp
      rw [this]
      have h64 : (2 : Nat) ^ 64 = 18446744073709551616 := by decide
      rw [h64] at hmul
      omega
    rw [hw, u64_or_nat _ _ (by have h56 : (2 : Nat) ^ 56 = 72057594037927936 := by decide
                               omega) (by have h64 : (2 : Nat) ^ 64 = 18446744073709551616 := by decide
                                          omega), or_add _ _ _ hm]
    simp
end Go.Proofs.Ytloflnachpjlgaa.Cell
