/- The contracts of the reference's functions of layer 3: a row is a list of truths in memory. -/
import Derived.Test.YtknieebmcpgppaaDoorBitF
namespace Go.Proofs.YtknieebmcpgppaaDoor.Bit
open Go.RowKit Go.Proofs.YtknieebmcpgppaaDoor.Aid
/-- A list of truths in a block of the call's own. -/
def BoolsAt (w : World) (g c : Nat) (l : List Bool) : Prop := Row w 4 g c (l.map .bool)
theorem BoolsAt.cell {w : World} {g c : Nat} {l : List Bool} (h : BoolsAt w g c l) {k : Nat} (hk : k < l.length) : w.cell? ⟨g, k, none⟩ = some (.bool (l.getD k false)) := by
  rw [Row.cell h (by simpa using hk)]
  simp [List.getD_eq_getElem?_getD, hk]
theorem BoolsAt.free {w : World} {g c : Nat} {l : List Bool} (h : BoolsAt w g c l) (k : Nat) : w.frozen? ⟨g, k, none⟩ = false := Row.free h k
theorem BoolsAt.kept {w w' : World} {g c : Nat} {l : List Bool} (h : BoolsAt w g c l) {F : List Nat} (k : Kept F w w') (hb : g ∉ F) : BoolsAt w' g c l := Row.kept h k hb
theorem BoolsAt.below {w w' : World} {g c : Nat} {l : List Bool} (h : BoolsAt w g c l) (k : Below w.heap.size w w') : BoolsAt w' g c l := Row.below h k
theorem BoolsAt.put {w : World} {g c : Nat} {l : List Bool} (h : BoolsAt w g c l) (k : Nat) (b : Bool) : BoolsAt (w.setCell ⟨g, k, none⟩ (.bool b)) g c (l.set k b) := by
  have := Row.store h k (.bool b)
  rw [← List.map_set] at this
  exact this
theorem BoolsAt.lt {w : World} {g c : Nat} {l : List Bool} (h : BoolsAt w g c l) : g < w.heap.size := Row.lt h
set_option maxHeartbeats 1000000 in
theorem rlist_calls (w : World) (g c : Nat) (l : List Bool) (h : BoolsAt w g c l) (hl : l.length ≤ 4096) :
    Calls Tryd.prog 13 #[.slice (some ⟨g, 0, none⟩) l.length c] w fun e w' => ∃ v, e = .returned v ∧ Own w' w.heap.size 3 .i64 v (listL l) ∧ Below w.heap.size w w' := by
  have H := Lib.hid h
  clear h
  go_enter Tryd.func13, Tryd.ntmps13
  go_wp2_with fail
  go_loopw [3, 4] (fun s i wr => ∃ k : Nat, k ≤ l.length ∧ i = .int .i64 k ∧ Own wr w.heap.size 3 .i64 s (bitsTo l k) ∧ Below w.heap.size w wr) (fun _ i _ => l.length - (intOf i).toNat)
  case atStart => exact ⟨0, by omega, rfl, Own.lit0 w _ (Nat.le_refl _) _ .i64, (Below.refl _ _).alloc (Nat.le_refl _) _⟩
  case round =>
    obtain ⟨k, hk, rfl, hown, hb⟩ := hrel
    have HO := Lib.hid hown
    have HB := Lib.hid hb
    have hsz := hb.size
    clear hown hb
    by_cases hlt : k < l.length
    · have hc := (H.out.below HB.out).cell hlt
      have HS := Lib.hid (bitsTo_succ l k)
      have hbl := bitsTo_len l k
      generalize l.getD k false = b at hc HS
      generalize bitsTo l k = bs at HO HS hbl
      cases b
      · go_wp2_with fail
        go_roundw
        case rel => exact ⟨k + 1, by omega, by go_num, by rw [HS.out, if_neg (by decide), List.append_nil]; exact HO.out, HB.out⟩
        case measure => simp [intOf]; omega
      · go_wp2_with (at_builtin; refine append_int rfl _ _ 30 rfl w.heap.size 3 .i64 8 Tryd.underlying30 info_int _ bs rfl HO.out (k : Int) rfl (by omega) (by omega) hsz ?_)
        intro v1 w1 hown1 hb1 _
        have HO1 := Lib.hid hown1
        have HB1 := Lib.hid (HB.out.trans hb1)
        clear hown1 hb1
        go_wp2_with fail
        go_roundw
        case rel => exact ⟨k + 1, by omega, by go_num, by rw [HS.out]; first | (rw [if_true]; exact HO1.out) | (rw [if_pos rfl]; exact HO1.out), HB1.out⟩
        case measure => simp [intOf]; omega
    · obtain rfl : k = l.length := by omega
      go_wp2_with fail
      go_ret
      exact ⟨_, rfl, HO.out, HB.out⟩
set_option maxHeartbeats 1000000 in
theorem rfirst_calls (w : World) (g c : Nat) (l : List Bool) (fr : Int) (s : Bool) (h : BoolsAt w g c l) (hl : l.length ≤ 4096) (hf : fr ≤ 9223372036854775807) :
    Calls Tryd.prog 21 #[.slice (some ⟨g, 0, none⟩) l.length c, .int .i64 fr, .bool s] w fun e w' => e = .returned (.int .i64 (first l fr.toNat s)) ∧ w = w' := by
  have H := Lib.hid h
  clear h
  generalize hi : fr.toNat = i
  have Hi := Lib.hid hi
  clear hi
  go_enter Tryd.func21, Tryd.ntmps21
  go_upto_region 1 with fail
  go_cut [7] (fun s1 wc => s1 = .int .i64 (i : Int) ∧ w = wc)
  case first =>
    all_goals (go_wp2_with fail)
    all_goals (go_meet; exact ⟨ret_i (by have := Hi.out; omega), rfl⟩)
  case rest =>
    obtain ⟨rfl, rfl⟩ := hcut
    have hi0 : (0 : Int) ≤ (i : Int) := by omega
    have hi1 : (i : Int) ≤ 9223372036854775807 := by have := Hi.out; omega
    go_wp2_with fail
    go_loop [7] (fun s7 => ∃ k : Nat, i ≤ k ∧ (k ≤ l.length ∨ k = i) ∧ s7 = .int .i64 k ∧ ∀ j, i ≤ j → j < k → j < l.length → l.getD j false ≠ s) (fun s7 => l.length - (intOf s7).toNat)
    case atStart => exact ⟨i, Nat.le_refl _, .inr rfl, rfl, fun j h1 h2 _ => by omega⟩
    case round =>
      obtain ⟨k, hk0, hk1, rfl, hall⟩ := hrel
      have HA := Lib.hid hall
      clear hall
      by_cases hlt : k < l.length
      · have hc := H.out.cell hlt
        by_cases hs : l.getD k false = s
        · have HS := Lib.hid hs
          rw [hs] at hc
          clear hs
          have e1 : (s == s) = true := by simp
          have HF := Lib.hid (first_eq (.inr ⟨k, rfl, hk0, hlt, HS.out, fun j h1 h2 => HA.out j h1 h2 (by omega)⟩ : IsFirst l i s (k : Int)))
          go_wp2_with fail
          go_ret
          exact ⟨ret_int HF.out, rfl⟩
        · have HS := Lib.hid hs
          have e1 : (l.getD k false == s) = false := by simpa using hs
          clear hs
          generalize hb : l.getD k false = b at hc e1
          have Hb := Lib.hid hb
          clear hb
          go_wp2_with fail
          go_round
          case rel =>
            refine ⟨k + 1, by omega, by omega, by go_num, fun j h1 h2 h3 => ?_⟩
            by_cases hj : j = k
            · subst hj; exact HS.out
            · exact HA.out j h1 (by omega) h3
          case measure => simp [intOf]; omega
      · go_wp2_with fail
        go_ret
        exact ⟨ret_int (first_eq (.inl ⟨rfl, fun j h1 h2 => HA.out j h1 (by omega) h2⟩)), rfl⟩
set_option maxHeartbeats 2000000 in
theorem rrun_calls (w : World) (g c : Nat) (l : List Bool) (fr n : Int) (h : BoolsAt w g c l) (hl : l.length ≤ 4096) (hf : fr ≤ 9223372036854775807) (hn2 : n ≤ 9223372036854775807) :
    Calls Tryd.prog 24 #[.slice (some ⟨g, 0, none⟩) l.length c, .int .i64 fr, .int .i64 n] w fun e w' => e = .returned (.int .i64 (run l fr.toNat n)) ∧ w = w' := by
  have H := Lib.hid h
  clear h
  by_cases hn : n < 1
  · have hr : run l fr.toNat n = -1 := by unfold run; rw [if_pos hn]
    rw [hr]
    clear hr
    go_enter Tryd.func24, Tryd.ntmps24
    go_wp2_with fail
    go_ret
    exact ⟨rfl, rfl⟩
  · have hn1 : 1 ≤ n := by omega
    obtain ⟨m, rfl⟩ := Int.eq_ofNat_of_zero_le (show 0 ≤ n by omega)
    generalize hi : fr.toNat = f
    have Hi := Lib.hid hi
    clear hi
    go_enter Tryd.func24, Tryd.ntmps24
    go_upto_region 3 with fail
    go_cut [7] (fun s1 wc => s1 = .int .i64 (f : Int) ∧ w = wc)
    case first =>
      all_goals (go_wp2_with fail)
      all_goals (go_meet; exact ⟨ret_i (by have := Hi.out; omega), rfl⟩)
    case rest =>
      obtain ⟨rfl, rfl⟩ := hcut
      have hi0 : (0 : Int) ≤ (f : Int) := by omega
      have hi1 : (f : Int) ≤ 9223372036854775807 := by have := Hi.out; omega
      go_wp2_with fail
      go_loop [7] (fun s7 => ∃ k : Nat, f ≤ k ∧ (k : Int) ≤ 9223372036854775807 ∧ s7 = .int .i64 k ∧ ∀ i, f ≤ i → i < k → i + m ≤ l.length → ¬ ClearAt l i m) (fun s7 => l.length + 1 - (intOf s7).toNat)
      case atStart => exact ⟨f, Nat.le_refl _, hi1, rfl, fun i h1 h2 _ => by omega⟩
      case round =>
        obtain ⟨k, hk0, hk1, rfl, hall⟩ := hrel
        have HA := Lib.hid hall
        clear hall
        by_cases hle : (k : Int) ≤ (l.length : Int) - (m : Int)
        · have hkm : k + m ≤ l.length := by omega
          have hk9 : (0 : Int) ≤ (k : Int) := by omega
          go_wp2_with fail
          go_loop [8] (fun s8 => ∃ d : Nat, d ≤ m ∧ s8 = .int .i64 d ∧ ∀ j, k ≤ j → j < k + d → l.getD j false = false) (fun s8 => m - (intOf s8).toNat)
          case atStart => exact ⟨0, by omega, rfl, fun j h1 h2 => by omega⟩
          case round =>
            obtain ⟨d, hd, rfl, hcl⟩ := hrel
            have HC := Lib.hid hcl
            clear hcl
            have hd0 : (0 : Int) ≤ (d : Int) := by omega
            by_cases hdm : (d : Int) < (m : Int)
            · have hc := H.out.cell (k := k + d) (by omega)
              cases hb : l.getD (k + d) false
              · rw [hb] at hc
                have Hb := Lib.hid hb
                clear hb
                go_wp2_with fail
                go_round
                case rel =>
                  refine ⟨d + 1, by omega, by go_num, fun j h1 h2 => ?_⟩
                  by_cases hj : j = k + d
                  · subst hj; exact Hb.out
                  · exact HC.out j h1 (by omega)
                case measure => simp [intOf]; omega
              · rw [hb] at hc
                have Hb := Lib.hid hb
                clear hb
                have e1 : ((d : Int) == (m : Int)) = false := by rw [beq_eq_false_iff_ne]; omega
                go_wp2_with fail
                go_round
                case rel =>
                  refine ⟨k + 1, by omega, by omega, by go_num, fun i h1 h2 h3 hcl => ?_⟩
                  by_cases hik : i = k
                  · subst hik
                    have := hcl (i + d) (by omega) (by omega)
                    rw [Hb.out] at this; cases this
                  · exact HA.out i h1 (by omega) h3 hcl
                case measure => simp [intOf]; omega
            · obtain rfl : d = m := by omega
              have e1 : ((d : Int) == (d : Int)) = true := by simp
              go_wp2_with fail
              go_ret
              exact ⟨ret_int (run_eq hn1 (.inr ⟨k, rfl, hk0, by omega, fun j h1 h2 => HC.out j h1 (by omega), fun i h1 h2 => by rw [Int.toNat_natCast]; exact HA.out i h1 h2 (by omega)⟩)), rfl⟩
        · have hle' : (l.length : Int) - (m : Int) < (k : Int) := by omega
          go_wp2_with fail
          go_ret
          exact ⟨ret_int (run_eq hn1 (.inl ⟨rfl, fun i h1 h2 => by rw [Int.toNat_natCast] at h2 ⊢; exact HA.out i h1 (by omega) h2⟩)), rfl⟩
end Go.Proofs.YtknieebmcpgppaaDoor.Bit
