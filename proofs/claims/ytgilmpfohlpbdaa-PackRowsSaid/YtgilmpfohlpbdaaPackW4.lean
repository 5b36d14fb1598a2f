/- Layer 1: the law PackRows, walked: it returns true and leaves old memory alone. -/
import Derived.Test.YtgilmpfohlpbdaaPackS
import Derived.Test.YtgilmpfohlpbdaaPackV
import Derived.Outline
namespace Go.Proofs.Ytgilmpfohlpbdaa.Pack
open Go.RowKit Go.Proofs.Ytgilmpfohlpbdaa.Aid
/-- A bit of a field's value. -/
theorem getV_bit (x : Int) (hx : R x) (f : Int × Int) (h : rightB f.1 f.2 = true) (j : Nat) (hj : j < 64) : (B (getV x f)).getLsbD j = (decide ((j : Int) < f.2) && (B x).getLsbD (f.1.toNat + j)) := by
  obtain ⟨h1, h2, h3, h4, h5⟩ := rightB_true h
  unfold getV
  rw [B_and, BitVec.getLsbD_and, mask_bit f.2 h1 h2 j hj, shr_B x hx _ (by omega), BitVec.getLsbD_ushiftRight, Bool.and_comm]
theorem packGo_R : ∀ (xs : List (Int × Int)) (vs : List Int) (x W : Int), R x → packGo x xs vs = some W → R W
  | [], _, x, W, hx, h => by
    simp only [packGo] at h
    injection h with h; subst h; exact hx
  | _ :: _, [], x, W, hx, h => by
    simp only [packGo] at h
    injection h with h; subst h; exact hx
  | (s, n) :: t, v :: u, x, W, _, h => by
    simp only [packGo] at h
    split at h
    · exact packGo_R t u _ W (R_putV _ _ _ _) h
    · cases h
/-- What is packed stands in the word as it was. -/
theorem packed : ∀ (xs : List (Int × Int)) (vs : List Int) (x u W : Int), R x → (∀ k, k < vs.length → R (vs.getD k 0)) → apartGo u xs = true → packGo x xs vs = some W →
    (∀ j, j < 64 → (B u).getLsbD j = true → (B W).getLsbD j = (B x).getLsbD j) ∧ ∀ k, k < xs.length → k < vs.length → getV W (xs.getD k (0, 0)) = vs.getD k 0
  | [], _, x, u, W, _, _, _, h => by
    simp only [packGo] at h
    injection h with h; subst h
    exact ⟨fun _ _ _ => rfl, fun k hk => by simp at hk⟩
  | _ :: _, [], x, u, W, _, _, _, h => by
    simp only [packGo] at h
    injection h with h; subst h
    exact ⟨fun _ _ _ => rfl, fun k _ hk => by simp at hk⟩
  | (s, n) :: t, v :: vs, x, u, W, hx, hR, ha, h => by
    simp only [apartGo, Bool.and_eq_true, Bool.not_eq_true'] at ha
    obtain ⟨hr, hno, ha⟩ := ha
    simp only [packGo] at h
    by_cases hp : putB s n v = true
    · rw [if_pos hp] at h
      obtain ⟨_, hva⟩ := putB_true hp
      obtain ⟨h1, h2, h3, h4, h5⟩ := rightB_true hr
      have hRv : R v := hR 0 (by simp)
      have hW := packGo_R t vs _ W (R_putV _ _ _ _) h
      obtain ⟨q1, q2⟩ := packed t vs (putV x s n v) _ W (R_putV _ _ _ _) (fun k hk => hR (k + 1) (by simp; omega)) ha h
      have own : ∀ j : Nat, j < 64 → s ≤ (j : Int) → (j : Int) < s + n → (B W).getLsbD j = (B v).getLsbD (j - s.toNat) := by
        intro j hj hs hn
        have hu1 : (B (Go.bits .or .u64 u (IntKind.u64.wrap (maskV n * 2 ^ s.toNat)))).getLsbD j = true := by
          rw [B_or, BitVec.getLsbD_or, field_bit s n hr j hj, decide_eq_true (And.intro hs hn), Bool.or_true]
        rw [q1 j hj hu1, putV_bit x s n v hr hRv hva j hj, if_pos ⟨hs, hn⟩]
      constructor
      · intro j hj hu
        have hu1 : (B (Go.bits .or .u64 u (IntKind.u64.wrap (maskV n * 2 ^ s.toNat)))).getLsbD j = true := by
          rw [B_or, BitVec.getLsbD_or, hu]; rfl
        rw [q1 j hj hu1, putV_bit x s n v hr hRv hva j hj, if_neg ?_]
        intro hin
        have hz : Go.bits .and .u64 u (IntKind.u64.wrap (maskV n * 2 ^ s.toNat)) = 0 := by simpa using hno
        have := (word_zero (R_bits _ _ _)).1 hz j hj
        rw [B_and, BitVec.getLsbD_and, hu, field_bit s n hr j hj, decide_eq_true hin] at this
        cases this
      · intro k hk hk'
        cases k with
        | zero =>
          show getV W (s, n) = v
          apply R_ext (R_bits _ _ _) hRv
          intro j hj
          have := getV_bit W hW (s, n) hr j hj
          rw [show (B (Go.bits .and .u64 (W / 2 ^ (s, n).fst.toNat) (maskV (s, n).snd))).getLsbD j = _ from this]
          by_cases hn : (j : Int) < n
          · rw [decide_eq_true (show (j : Int) < (s, n).2 from hn), Bool.true_and, own (s.toNat + j) (by omega) (by omega) (by omega)]
            congr 1
            show s.toNat + j - s.toNat = j
            omega
          · rw [decide_eq_false (show ¬ (j : Int) < (s, n).2 from hn), Bool.false_and, not_above hRv h1 h2 hva j (by omega)]
        | succ k =>
          exact q2 k (by simpa using hk) (by simpa using hk')
    · rw [if_neg hp] at h; cases h
/-- Unpack, as the law meets it. -/
def UnpackGives (ys : List Int) (w : World) (e : Ending) (w' : World) : Prop :=
  ∃ A c, e = .returned (.tuple #[.slice A ys.length c, .bool true]) ∧ Ints w' .u64 A ys ∧ Below w.heap.size w w'
theorem unpack_gives (x : Int) (xs : List (Int × Int)) (A : Option Addr) (c : Nat) (w : World) (hS : Pairs w A xs) (hl : xs.length ≤ 1000000) (ha : apartGo 0 xs = true) :
    Calls Try.prog 69 #[.int .u64 x, .slice A xs.length c] w (UnpackGives (xs.map (getV x)) w) := by
  refine (unpack_calls x xs A c w hS (by omega) ha).mono ?_
  rintro e w' ⟨v, rfl, hown, hb⟩
  obtain ⟨A1, c1, rfl, hi⟩ := hown.shape
  exact ⟨A1, c1, rfl, hi, hb⟩
/-- The law's copy of a row, as the law meets it. -/
def OfGives (xs : List (Int × Int)) (w : World) (e : Ending) (w' : World) : Prop := ∃ A c, e = .returned (.slice A xs.length c) ∧ Pairs w' A xs ∧ Below w.heap.size w w'
theorem of_gives (xs : List (Int × Int)) (A : Option Addr) (c : Nat) (w : World) (hS : Pairs w A xs) (hl : xs.length ≤ 1000000) : Calls Try.prog 66 #[.slice A xs.length c] w (OfGives xs w) := by
  refine (of_calls xs A c w hS hl).mono ?_
  rintro e w' ⟨v, rfl, hown, hb⟩
  obtain ⟨A1, c1, rfl, hp⟩ := hown.pairs
  exact ⟨A1, c1, rfl, hp, hb⟩
theorem apart_any (xs : List (Int × Int)) (A : Option Addr) (c : Nat) (w : World) (hS : Pairs w A xs) (hl : xs.length ≤ 1000000) :
    Calls Try.prog 70 #[.slice A xs.length c] w fun e w' => e = .returned (.bool (apartGo 0 xs)) ∧ Below w.heap.size w w' := apart_calls xs A c w hS (by omega)
set_option maxRecDepth 100000 in
set_option maxHeartbeats 4000000 in
theorem rows_small (xs : List (Int × Int)) (A : Option Addr) (c : Nat) (vs : List Int) (A' : Option Addr) (c' : Nat) (x : Int) (w : World) (hS : Pairs w A xs) (hV : Ints w .u64 A' vs) (hR : ∀ k, k < vs.length → R (vs.getD k 0)) (hx : R x)
    (hl : xs.length ≤ 70) (hl' : vs.length ≤ 70) :
    Calls Try.prog 11 #[.slice A xs.length c, .slice A' vs.length c', .int .u64 x] w fun e w' => e = .returned (.bool true) ∧ Below w.heap.size w w' := by
  have HR := Lib.hid hR
  have Hx := Lib.hid hx
  have hbig : xs.length ≤ 1000000 := by omega
  clear hR hx
  cases hap : apartGo 0 xs
  · have hpk : packAll xs vs = none := by unfold packAll; rw [if_neg (by simp [hap])]
    have P1 : ∀ W, Pairs W A xs → Ints W .u64 A' vs → Calls Try.prog 67 #[.slice A xs.length c, .slice A' vs.length c'] W fun e w' => e = .returned (.tuple #[.int .u64 0, .bool false]) ∧ Below W.heap.size W w' := fun W h1 h2 => by
      have h := pack_any xs A c vs A' c' W h1 h2 hbig; rwa [hpk] at h
    have P2 : ∀ W B' c2, Pairs W B' xs → Ints W .u64 A' vs → Calls Try.prog 68 #[.slice B' xs.length c2, .slice A' vs.length c'] W fun e w' => e = .returned (.tuple #[.int .u64 0, .bool false]) ∧ Below W.heap.size W w' := fun W B' c2 h1 h2 => by
      have h := rpack_any xs B' c2 vs A' c' W h1 h2 HR.out hbig; rwa [hpk] at h
    have HP1 := Lib.hid P1
    have HP2 := Lib.hid P2
    clear P1 P2 hpk
    go_enter Try.func11, Try.ntmps11
    go_wp2_with fail
    refine (alive_calls _).mono ?_
    rintro e w1 ⟨rfl, hb1⟩
    have S1 := hS.below hb1
    have V1 := hV.below hb1
    go_wp2_with fail
    refine (of_gives xs A c w1 S1 hbig).mono ?_
    rintro e w2 ⟨A2, c2, rfl, S2, hb2⟩
    have hw2 := below_then hb1 hb2
    go_wp2_with fail
    refine (rapart_any xs A2 c2 w2 S2 hbig).mono ?_
    rintro e w3 ⟨rfl, hb3⟩
    have hw3 := below_then hw2 hb3
    go_wp2_with fail
    refine (HP1.out w3 (hS.below hw3) (hV.below hw3)).mono ?_
    rintro e w4 ⟨rfl, hb4⟩
    have hw4 := below_then hw3 hb4
    go_wp2_with fail
    refine (of_gives xs A c w4 (hS.below hw4) hbig).mono ?_
    rintro e w5 ⟨A5, c5, rfl, S5, hb5⟩
    have hw5 := below_then hw4 hb5
    go_wp2_with fail
    refine (HP2.out w5 _ _ S5 (hV.below hw5)).mono ?_
    rintro e w6 ⟨rfl, hb6⟩
    have hw6 := below_then hw5 hb6
    go_wp2_with fail
    refine (unpack_no x xs A c w6 (hS.below hw6) (by omega) hap).mono ?_
    rintro e w7 ⟨rfl, hb7⟩
    have hw7 := below_then hw6 hb7
    go_wp2_with fail
    refine (apart_any xs A c w7 (hS.below hw7) hbig).mono ?_
    rintro e w8 ⟨rfl, hb8⟩
    have hw8 := below_then hw7 hb8
    go_wp2_with fail
    refine wp_loop_rounds 1 ?_
    rw [rounds_succ]
    go_wp2
    go_ret
    exact ⟨rfl, hw8⟩
  · have P1 : ∀ W, Pairs W A xs → Ints W .u64 A' vs → Calls Try.prog 67 #[.slice A xs.length c, .slice A' vs.length c'] W fun e w' => e = .returned (.tuple #[.int .u64 ((packAll xs vs).getD 0), .bool (packAll xs vs).isSome]) ∧ Below W.heap.size W w' := fun W h1 h2 =>
      pack_any xs A c vs A' c' W h1 h2 hbig
    have P2 : ∀ W B' c2, Pairs W B' xs → Ints W .u64 A' vs → Calls Try.prog 68 #[.slice B' xs.length c2, .slice A' vs.length c'] W fun e w' => e = .returned (.tuple #[.int .u64 ((packAll xs vs).getD 0), .bool (packAll xs vs).isSome]) ∧ Below W.heap.size W w' := fun W B' c2 h1 h2 =>
      rpack_any xs B' c2 vs A' c' W h1 h2 HR.out hbig
    have hright := Lib.hid (apartGo_right xs 0 hap)
    have hback : ∀ W, packAll xs vs = some W → xs.length = vs.length ∧ ∀ k, k < xs.length → getV W (xs.getD k (0, 0)) = vs.getD k 0 := by
      intro W h
      unfold packAll at h
      split at h
      · rename_i hc
        exact ⟨hc.2, fun k hk => (packed xs vs 0 0 W R_zero HR.out hap h).2 k hk (by omega)⟩
      · cases h
    have Hback := Lib.hid hback
    clear hback
    generalize packAll xs vs = o at P1 P2 Hback
    have HP1 := Lib.hid P1
    have HP2 := Lib.hid P2
    clear P1 P2
    go_enter Try.func11, Try.ntmps11
    go_wp2_with fail
    refine (alive_calls _).mono ?_
    rintro e w1 ⟨rfl, hb1⟩
    have S1 := hS.below hb1
    go_wp2_with fail
    refine (of_gives xs A c w1 S1 hbig).mono ?_
    rintro e w2 ⟨A2, c2, rfl, S2, hb2⟩
    have hw2 := below_then hb1 hb2
    go_wp2_with fail
    refine (rapart_any xs A2 c2 w2 S2 hbig).mono ?_
    rintro e w3 ⟨rfl, hb3⟩
    have hw3 := below_then hw2 hb3
    go_wp2_with fail
    refine (HP1.out w3 (hS.below hw3) (hV.below hw3)).mono ?_
    rintro e w4 ⟨rfl, hb4⟩
    have hw4 := below_then hw3 hb4
    go_wp2_with fail
    refine (of_gives xs A c w4 (hS.below hw4) hbig).mono ?_
    rintro e w5 ⟨A5, c5, rfl, S5, hb5⟩
    have hw5 := below_then hw4 hb5
    go_wp2_with fail
    refine (HP2.out w5 _ _ S5 (hV.below hw5)).mono ?_
    rintro e w6 ⟨rfl, hb6⟩
    have hw6 := below_then hw5 hb6
    go_wp2_with fail
    refine (unpack_gives x xs A c w6 (hS.below hw6) hbig hap).mono ?_
    rintro e w7 ⟨A7, c7, rfl, L7, hb7⟩
    have hw7 := below_then hw6 hb7
    have L8 := fun w' hb => L7.below (w' := w') hb
    clear L7 S1 S2 S5 hb1 hb2 hb3 hb4 hb5 hb6 hb7 hw2 hw3 hw4 hw5 hw6
    rw [List.length_map]
    go_wp2_with fail
    refine (apart_any xs A c w7 (hS.below hw7) hbig).mono ?_
    rintro e w8 ⟨rfl, hb8⟩
    have hw8 := below_then hw7 hb8
    have L9 := L8 w8 hb8
    clear L8 hb8 hw7
    cases o with
    | none =>
      go_wp2_with fail
      go_loopw [14] (fun i wr => ∃ (k : Nat), i = .int .i64 k ∧ k ≤ xs.length ∧ Below w8.heap.size w8 wr) (fun i _ => xs.length - (intOf i).toNat)
      case atStart => exact ⟨0, rfl, by omega, Below.refl _ _⟩
      case round =>
        obtain ⟨k, rfl, hk, hb⟩ := hrel
        by_cases hlt : k < xs.length
        · have hrk := hright.out k hlt
          obtain ⟨b, o, rfl, hbl, hc0, hc1⟩ := (hS k hlt)
          obtain ⟨b', o', rfl, hbl', hc2⟩ := L9 k (by simpa using hlt)
          have hv : (xs.map (getV x)).getD k 0 = (getR x (xs.getD k (0, 0)).1 (xs.getD k (0, 0)).2).1 := by
            rw [List.getD_eq_getElem?_getD, List.getElem?_map, List.getElem?_eq_getElem hlt]
            unfold getR
            rw [if_pos hrk, List.getD_eq_getElem?_getD, List.getElem?_eq_getElem hlt]
            rfl
          rw [hv] at hc2
          clear hv hrk
          generalize xs.getD k (0, 0) = y at hc0 hc1 hc2
          obtain ⟨s, n⟩ := y
          have hk0 : wr.cell? ⟨b, o + k * 2, none⟩ = some (.int .i64 s) := (hb.cell (p := ⟨b, _, none⟩) (Nat.lt_of_lt_of_le hbl hw8.size)).trans ((hw8.cell (p := ⟨b, _, none⟩) hbl).trans hc0)
          have hk1 : wr.cell? ⟨b, o + k * 2 + 1, none⟩ = some (.int .i64 n) := (hb.cell (p := ⟨b, _, none⟩) (Nat.lt_of_lt_of_le hbl hw8.size)).trans ((hw8.cell (p := ⟨b, _, none⟩) hbl).trans hc1)
          have hk2 : wr.cell? ⟨b', o' + k, none⟩ = some (.int .u64 (getR x s n).1) := (hb.cell (p := ⟨b', _, none⟩) hbl').trans hc2
          clear hc0 hc1 hc2
          have hz := hw8.size
          have hz' := hb.size
          have hi0 : (0 : Int) ≤ (k : Int) := Int.natCast_nonneg _
          have hi1 : (k : Int) < (xs.length : Int) := by omega
          go_wp2_with fail
          go_region_held3 (fun w' => w'.cell? ⟨b, o + k * 2, none⟩ = some (.int .i64 s) ∧ w'.cell? ⟨b, o + k * 2 + 1, none⟩ = some (.int .i64 n) ∧ w'.cell? ⟨b', o' + k, none⟩ = some (.int .u64 (getR x s n).1))
            (first | go_keep | exact ⟨((bcell hb3).1 _ _ (show _ < wr.heap.size by omega)).trans hk0, ((bcell hb3).1 _ _ (show _ < wr.heap.size by omega)).trans hk1, ((bcell hb3).1 _ _ (show _ < wr.heap.size by omega)).trans hk2⟩)
            ((go_at_call 54; refine (rget_any _ _ _ Hx.out _).mono ?_; rintro e w3 ⟨rfl, hb3⟩))
          have hh : w3.cell? ⟨b', o' + k, none⟩ = some (.int .u64 (getR x s n).1) := ((bcell hb3).1 _ _ (show _ < wr.heap.size by omega)).trans hk2
          go_wp2
          go_roundw
          case rel => exact ⟨k + 1, by go_num, by omega, hb.drew.trans (hb3.mono hz')⟩
          case measure => simp [intOf]; omega
        · go_wp2_with fail
          go_ret
          exact ⟨rfl, below_then hw8 hb⟩
    | some W =>
      obtain ⟨hlen, hval⟩ := Hback.out W rfl
      have Hlen := Lib.hid hlen
      have Hval := Lib.hid hval
      have hlv : ((xs.length : Int) != vs.length) = false := by rw [hlen]; simp
      clear hlen hval Hback
      go_wp2_with fail
      go_loopw [14] (fun i wr => ∃ (k : Nat), i = .int .i64 k ∧ k ≤ xs.length ∧ Below w8.heap.size w8 wr) (fun i _ => xs.length - (intOf i).toNat)
      case atStart => exact ⟨0, rfl, by omega, Below.refl _ _⟩
      case round =>
        obtain ⟨k, rfl, hk, hb⟩ := hrel
        by_cases hlt : k < xs.length
        · have hrk := hright.out k hlt
          obtain ⟨b, o, rfl, hbl, hc0, hc1⟩ := (hS k hlt)
          obtain ⟨b', o', rfl, hbl', hc2⟩ := L9 k (by simpa using hlt)
          have hv : (xs.map (getV x)).getD k 0 = (getR x (xs.getD k (0, 0)).1 (xs.getD k (0, 0)).2).1 := by
            rw [List.getD_eq_getElem?_getD, List.getElem?_map, List.getElem?_eq_getElem hlt]
            unfold getR
            rw [if_pos hrk, List.getD_eq_getElem?_getD, List.getElem?_eq_getElem hlt]
            rfl
          rw [hv] at hc2
          clear hv hrk
          generalize xs.getD k (0, 0) = y at hc0 hc1 hc2
          obtain ⟨s, n⟩ := y
          have hk0 : wr.cell? ⟨b, o + k * 2, none⟩ = some (.int .i64 s) := (hb.cell (p := ⟨b, _, none⟩) (Nat.lt_of_lt_of_le hbl hw8.size)).trans ((hw8.cell (p := ⟨b, _, none⟩) hbl).trans hc0)
          have hk1 : wr.cell? ⟨b, o + k * 2 + 1, none⟩ = some (.int .i64 n) := (hb.cell (p := ⟨b, _, none⟩) (Nat.lt_of_lt_of_le hbl hw8.size)).trans ((hw8.cell (p := ⟨b, _, none⟩) hbl).trans hc1)
          have hk2 : wr.cell? ⟨b', o' + k, none⟩ = some (.int .u64 (getR x s n).1) := (hb.cell (p := ⟨b', _, none⟩) hbl').trans hc2
          clear hc0 hc1 hc2
          have hz := hw8.size
          have hz' := hb.size
          have hi0 : (0 : Int) ≤ (k : Int) := Int.natCast_nonneg _
          have hi1 : (k : Int) < (xs.length : Int) := by omega
          go_wp2_with fail
          go_region_held3 (fun w' => w'.cell? ⟨b, o + k * 2, none⟩ = some (.int .i64 s) ∧ w'.cell? ⟨b, o + k * 2 + 1, none⟩ = some (.int .i64 n) ∧ w'.cell? ⟨b', o' + k, none⟩ = some (.int .u64 (getR x s n).1))
            (first | go_keep | exact ⟨((bcell hb3).1 _ _ (show _ < wr.heap.size by omega)).trans hk0, ((bcell hb3).1 _ _ (show _ < wr.heap.size by omega)).trans hk1, ((bcell hb3).1 _ _ (show _ < wr.heap.size by omega)).trans hk2⟩)
            ((go_at_call 54; refine (rget_any _ _ _ Hx.out _).mono ?_; rintro e w3 ⟨rfl, hb3⟩))
          have hh : w3.cell? ⟨b', o' + k, none⟩ = some (.int .u64 (getR x s n).1) := ((bcell hb3).1 _ _ (show _ < wr.heap.size by omega)).trans hk2
          go_wp2
          go_roundw
          case rel => exact ⟨k + 1, by go_num, by omega, hb.drew.trans (hb3.mono hz')⟩
          case measure => simp [intOf]; omega
        · go_wp2_with fail
          refine (unpack_gives W xs A c wr (hS.below (below_then hw8 hb)) hbig hap).mono ?_
          rintro e w9 ⟨A9, c9, rfl, M9, hb9⟩
          have hw9 := below_then (below_then hw8 hb) hb9
          clear hw8 hb hb9 L9
          rw [List.length_map]
          go_wp2_with fail
          go_loopw [19] (fun i wr => ∃ (k nq : Nat), i = .int .i64 k ∧ k ≤ xs.length ∧ wr = w9.drewN nq) (fun i _ => xs.length - (intOf i).toNat)
          case atStart => exact ⟨0, 0, rfl, by omega, rfl⟩
          case round =>
            obtain ⟨j, nq, rfl, hj, rfl⟩ := hrel
            by_cases hjt : j < xs.length
            · have hjv : j < vs.length := by have := Hlen.out; omega
              obtain ⟨b, o, rfl, hbl, hc0⟩ := M9 j (by simpa using hjt)
              obtain ⟨b', o', rfl, hbl', hc1⟩ := hV j hjv
              have hv : (xs.map (getV W)).getD j 0 = vs.getD j 0 := by
                rw [← Hval.out j hjt, List.getD_eq_getElem?_getD, List.getElem?_map, List.getElem?_eq_getElem hjt, List.getD_eq_getElem?_getD, List.getElem?_eq_getElem hjt]
                rfl
              rw [hv] at hc0
              clear hv
              generalize vs.getD j 0 = y at hc0 hc1
              have hk0 : w9.cell? ⟨b', o' + j, none⟩ = some (.int .u64 y) := (hw9.cell (p := ⟨b', _, none⟩) hbl').trans hc1
              clear hc1
              have hi0 : (0 : Int) ≤ (j : Int) := Int.natCast_nonneg _
              have hi1 : (j : Int) < (xs.length : Int) := by omega
              have hi2 : (j : Int) < (vs.length : Int) := by omega
              go_wp2_with fail
              go_quiet (fail)
              go_wp2
              go_roundw
              case rel => exact ⟨j + 1, _, by go_num, by omega, rfl⟩
              case measure => simp [intOf]; omega
            · go_wp2
              go_ret
              exact ⟨rfl, below_drewN hw9 _⟩
set_option maxRecDepth 100000 in
theorem rows_walk (w : World) (xs : List (Int × Int)) (A : Option Addr) (c : Nat) (vs : List Int) (A' : Option Addr) (c' : Nat) (x : Int) (hS : Pairs w A xs) (hlx : xs.length ≤ maxLen) (hV : Ints w .u64 A' vs) (hlv : vs.length ≤ maxLen)
    (hW : ∀ k, k < vs.length → (Lit.int .u64 (vs.getD k 0)).wf = true) (hx : 0 ≤ x ∧ x < 18446744073709551616) :
    Calls Try.prog 11 #[.slice A xs.length c, .slice A' vs.length c', .int .u64 x] w fun e w' => e = .returned (.bool true) ∧ Below w.heap.size w w' := by
  by_cases h1 : xs.length ≤ 70
  · by_cases h2 : vs.length ≤ 70
    · refine rows_small xs A c vs A' c' x w hS hV (fun k hk => ?_) hx h1 h2
      have := hW k hk
      generalize vs.getD k 0 = y at this ⊢
      simp [Lit.wf, IntKind.min, IntKind.max, IntKind.signed, IntKind.bits] at this
      unfold R; omega
    · clear hW hx
      go_enter Try.func11, Try.ntmps11
      go_wp2_with (go_at_call 52; refine (alive_calls _).mono ?_; rintro e w1 ⟨rfl, hb1⟩)
      go_ret
      exact ⟨rfl, hb1⟩
  · clear hW hx
    go_enter Try.func11, Try.ntmps11
    go_wp2_with (go_at_call 52; refine (alive_calls _).mono ?_; rintro e w1 ⟨rfl, hb1⟩)
    go_ret
    exact ⟨rfl, hb1⟩
end Go.Proofs.Ytgilmpfohlpbdaa.Pack
