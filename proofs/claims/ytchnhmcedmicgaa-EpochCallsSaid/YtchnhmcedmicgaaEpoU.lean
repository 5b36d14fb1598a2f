/- The contract of the law's own vector. -/
import Derived.Test.YtchnhmcedmicgaaEpoT
namespace Go.Proofs.Ytchnhmcedmicgaa.Epo
open Go.RowKit Go.Proofs.Ytchnhmcedmicgaa.Aid
/-- Numbers as an array: those that fit. -/
def cut (xs : List Int) : List Int := xs.take 64
theorem cut_len (xs : List Int) : (cut xs).length ≤ 64 := by simp [cut]; omega
theorem pad_take (xs : List Int) (k : Nat) (h1 : k < xs.length) (h2 : k < 64) : (pad (xs.take k)).set k (g64 xs k) = pad (xs.take (k + 1)) := by
  have hl : (xs.take k).length = k := by simp; omega
  unfold pad
  rw [List.set_append_right _ _ (by omega), hl, Nat.sub_self, List.take_succ_eq_append_getElem h1, List.append_assoc]
  congr 1
  rw [show 64 - k = (63 - k) + 1 by omega, List.replicate_succ, List.set_cons_zero]
  simp [g64, List.getD_eq_getElem?_getD, h1]
  omega
theorem pad_nil : pad [] = List.replicate 64 0 := rfl
theorem zeros_pad : zeros = ((pad []).map (Value.int .u64)).toArray := by
  rw [pad_nil, List.map_replicate]
  rfl
theorem zeros_ones : zeros.all (·.oneCell') = true := by rw [zeros_pad]; exact ones_nums .u64 (pad [])
theorem zeros_size : zeros.size = 64 := by rw [zeros_pad]; simp [pad_nil]
theorem st1 (W : World) (b o : Nat) (x : Int) (v : Value) (hc : W.cell? ⟨b, o, none⟩ = some v) (hf : W.frozen? ⟨b, o, none⟩ = false) : (Instr.storeAt 59 (.pointer (some ⟨b, o, none⟩)) (.int .u64 x)).run Try.prog W = .ok () (W.setCell ⟨b, o, none⟩ (.int .u64 x)) := by go_simp
/-- Two blocks of zeros: what the function begins with. -/
theorem begun (w w1 : World) (q1 : Nat) (hk1 : Below w.heap.size w w1) (hB1 : Blk w1 q1 zeros VT) : ∃ w3, (Instr.storeAt VT (.pointer (some ⟨w1.heap.size, 0, none⟩)) (.agg zeros)).run Try.prog (w1.alloc (.cells zeros VT)) = .ok () w3 ∧
    Blk w3 q1 zeros VT ∧ Blk w3 w1.heap.size zeros VT ∧ Below w.heap.size w w3 := by
  have hB2 := Blk.new w1 zeros VT
  have hk2 := hk1.alloc hk1.size (.cells zeros VT)
  have hB12 := hB1.alloc (.cells zeros VT)
  have hlt := hB1.lt
  have hB3 := hB2.setCells zeros.toList 0 (by simp)
  rw [lay_all _ _ (by simp)] at hB3
  have e := run_storeAt_mid (P := Try.prog) (w1.alloc (.cells zeros VT)) w1.heap.size 0 VT zeros (hB2.there (by simp)) (hiV.trans (congrArg some zeros_size.symm)) zeros_ones
  exact ⟨_, e, hB12.setCells_other (b' := w1.heap.size) (by omega) zeros.toList 0, hB3, below_kept hk2 ((Kept.refl [w1.heap.size] (w1.alloc (.cells zeros VT))).setCells (b := w1.heap.size) (.inl (by simp)) zeros.toList 0) hk2.size (by simpa using hk1.size)⟩
set_option maxRecDepth 8000 in
set_option maxHeartbeats 4000000 in
attribute [-go_sem] Instr.storeAt in
theorem lvector_calls (w : World) (A : Option Addr) (ca : Nat) (xs : List Int) (h : Ints w .u64 A xs) (hlen : xs.length ≤ maxLen) :
    Calls Try.prog 33 #[.slice A xs.length ca] w fun e w' => e = .returned (vv (cut xs)) ∧ Below w.heap.size w w' := by
  have HX := Lib.hid h
  have HLN := Lib.hid hlen
  have hB1 := (Blk.new w zeros VT)
  have hk1 := ((Below.refl w.heap.size w).alloc (Nat.le_refl _) (.cells zeros VT))
  have e1 := begun w _ _ hk1 hB1
  clear h hlen
  unfold zeros at e1 hB1 hk1
  go_enter Try.func33, Try.ntmps33
  go_upto_region 1 with fail
  generalize w.alloc (.cells #[.int .u64 0, .int .u64 0, .int .u64 0, .int .u64 0, .int .u64 0, .int .u64 0, .int .u64 0, .int .u64 0, .int .u64 0, .int .u64 0, .int .u64 0, .int .u64 0, .int .u64 0, .int .u64 0, .int .u64 0, .int .u64 0, .int .u64 0, .int .u64 0, .int .u64 0, .int .u64 0, .int .u64 0, .int .u64 0, .int .u64 0, .int .u64 0, .int .u64 0, .int .u64 0, .int .u64 0, .int .u64 0, .int .u64 0, .int .u64 0, .int .u64 0, .int .u64 0, .int .u64 0, .int .u64 0, .int .u64 0, .int .u64 0, .int .u64 0, .int .u64 0, .int .u64 0, .int .u64 0, .int .u64 0, .int .u64 0, .int .u64 0, .int .u64 0, .int .u64 0, .int .u64 0, .int .u64 0, .int .u64 0, .int .u64 0, .int .u64 0, .int .u64 0, .int .u64 0, .int .u64 0, .int .u64 0, .int .u64 0, .int .u64 0, .int .u64 0, .int .u64 0, .int .u64 0, .int .u64 0, .int .u64 0, .int .u64 0, .int .u64 0, .int .u64 0] VT) = w1 at hB1 hk1 e1 ⊢
  obtain ⟨q1, hq1⟩ : ∃ q, q = w.heap.size := ⟨_, rfl⟩
  have HQ := Lib.hid (show w.heap.size ≤ q1 by omega)
  obtain ⟨w3, e3, hb1, hb2, hk⟩ := e1
  rw [← hq1] at hB1 hb1 ⊢
  have HQ2 := Lib.hid (show w.heap.size ≤ w1.heap.size ∧ q1 ≠ w1.heap.size from ⟨hk1.size, by have := hB1.lt; omega⟩)
  clear hq1 hB1 hk1
  have HB1 := Lib.hid hb1
  have HB2 := Lib.hid hb2
  have HK := Lib.hid hk
  clear hb1 hb2 hk
  go_upto_region 2 with fail
  generalize w1.heap.size = q2 at HB2 HQ2 e3 ⊢
  clear e3
  have e0 : zeros = ((pad (xs.take 0)).map (Value.int .u64)).toArray := zeros_pad
  have HB3 := Lib.hid (show Blk w3 q2 ((pad (xs.take 0)).map (Value.int .u64)).toArray VT from by rw [← e0]; exact HB2.out)
  clear e0 HB2
  go_wp2_with fail
  go_loopw [4] (fun i wr => ∃ k : Nat, k ≤ xs.length ∧ k ≤ 64 ∧ i = .int .i64 k ∧ Blk wr q1 zeros VT ∧ Blk wr q2 ((pad (xs.take k)).map (Value.int .u64)).toArray VT ∧ Below w.heap.size w wr) (fun i _ => 64 - (intOf i).toNat)
  case atStart => exact ⟨0, by omega, by omega, rfl, HB1.out, HB3.out, HK.out⟩
  case round =>
    obtain ⟨k, hk, hk64, rfl, hb1, hb2, hb⟩ := hrel
    have H1 := Lib.hid hb1
    have H2 := Lib.hid hb2
    have H3 := Lib.hid hb
    clear hb1 hb2 hb
    have hk0 : (0 : Int) ≤ (k : Int) := by omega
    by_cases hlt : k < xs.length ∧ k < 64
    · have hk1 : (k : Int) < (xs.length : Int) := by omega
      have hk2 : (k : Int) < 64 := by omega
      obtain ⟨b, o, rfl, hlb, ck⟩ := HX.out.below H3.out k hlt.1
      have hpl : (pad (xs.take k)).length = 64 := pad_len _ (by simp; omega)
      have hst := st1 wr q2 k (g64 xs k) (.int .u64 (g64 (pad (xs.take k)) k)) (H2.out.cell (by simp [g64, List.getD_eq_getElem?_getD, hpl, hlt.2])) (H2.out.free k)
      rw [show xs.getD k 0 = g64 xs k from rfl] at ck
      have HP := Lib.hid (pad_take xs k hlt.1 hlt.2)
      clear hlt hpl
      go_wp2_with fail
      go_roundw
      case rel => exact ⟨k + 1, by omega, by omega, by go_num, H1.out.other (a := ⟨q2, k, none⟩) HQ2.out.2 _, by have := H2.out.set k (.int .u64 (g64 xs k)); rw [List.setIfInBounds_toArray, ← List.map_set, HP.out] at this; exact this, H3.out.setCell (p := ⟨q2, k, none⟩) HQ2.out.1 _⟩
      case measure => simp [intOf]; omega
    · have hcut : xs.take k = cut xs := by
        unfold cut
        rcases (show k = xs.length ∨ k = 64 by omega) with rfl | rfl
        · rw [List.take_of_length_le (Nat.le_refl _), List.take_of_length_le hk64]
        · rfl
      rw [hcut] at H2
      have hl : ((pad (cut xs)).map (Value.int .u64)).length = 64 := by simp [pad_len _ (cut_len xs)]
      have hone : ∀ v ∈ ((pad (cut xs)).map (Value.int .u64)), v.oneCell' = true := by
        intro v hv
        obtain ⟨x, _, rfl⟩ := List.mem_map.1 hv
        rfl
      have hr : wr.rangeAt q2 0 ((pad (cut xs)).map (Value.int .u64)) := H2.out.range fun j v hj => by rw [Nat.zero_add]; simpa using hj
      have HV := Lib.hid (show vv (cut xs) = .agg ((pad (cut xs)).map (Value.int .u64)).toArray from rfl)
      generalize (pad (cut xs)).map (Value.int .u64) = cs at hl hone hr H2 HV
      have HT := Lib.hid (show wr.there q1 0 cs.toArray.size from H1.out.there (by simp [hl, zeros_size]))
      have HS := Lib.hid (show Blk (wr.setCells q1 0 cs) q1 cs.toArray VT from by
        have := H1.out.setCells cs 0 (by simp [hl, zeros_size])
        rw [lay_all _ _ (by simp [hl, zeros_size])] at this
        exact this)
      have HF := Lib.hid (below_kept H3.out ((Kept.refl [q1] wr).setCells (b := q1) (.inl (by simp)) cs 0) H3.out.size (by simpa using HQ.out))
      clear hcut H1 H2
      by_cases hlt1 : k < xs.length
      · obtain rfl : k = 64 := by omega
        have hk1 : (64 : Int) < (xs.length : Int) := by omega
        go_wp2_with (first
          | (refine wpList_load_mid rfl _ _ rfl _ _ rfl cs _ hr huV rfl (hiV.trans (congrArg some hl.symm)) ?_)
          | (refine wpList_store_mid rfl _ _ _ rfl _ _ cs.toArray rfl rfl HT.out (hiV.trans (congrArg some (by simp [hl]))) (all_oneCell_toArray hone) ?_)
          | fail)
        refine bodyPost_ret_by (results_cell_row rfl _ _ q1 VT cs.toArray _ _ rfl HS.out huV rfl (hiV.trans (congrArg some (by simp [hl])))) rfl ?_
        exact ⟨by rw [HV.out], HF.out⟩
      · obtain rfl : k = xs.length := by omega
        go_wp2_with (first
          | (refine wpList_load_mid rfl _ _ rfl _ _ rfl cs _ hr huV rfl (hiV.trans (congrArg some hl.symm)) ?_)
          | (refine wpList_store_mid rfl _ _ _ rfl _ _ cs.toArray rfl rfl HT.out (hiV.trans (congrArg some (by simp [hl]))) (all_oneCell_toArray hone) ?_)
          | fail)
        refine bodyPost_ret_by (results_cell_row rfl _ _ q1 VT cs.toArray _ _ rfl HS.out huV rfl (hiV.trans (congrArg some (by simp [hl])))) rfl ?_
        exact ⟨by rw [HV.out], HF.out⟩
end Go.Proofs.Ytchnhmcedmicgaa.Epo
