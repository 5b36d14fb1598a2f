/- The contracts of package epoch's New and Clone. -/
import Derived.Test.YtchnhmcedmicgaaEpoC
namespace Go.Proofs.Ytchnhmcedmicgaa.Epo
open Go.RowKit Go.Proofs.Ytchnhmcedmicgaa.Aid
theorem pad0 (n : Nat) (h : n ≤ 64) : pad (List.replicate n 0) = List.replicate 64 0 := by
  unfold pad
  rw [List.length_replicate, List.replicate_append_replicate, show n + (64 - n) = 64 by omega]
theorem zero64_wf : okL .u64 64 (List.replicate 64 0) := ⟨by simp, fun x hx => by rw [(List.mem_replicate.1 hx).2]; decide⟩
set_option maxRecDepth 20000 in
theorem hdr_new (n mb : Nat) : ((Try.zeroCells120.setIfInBounds 1 (.int .i64 (n : Int))).setIfInBounds 66 (.map (some mb))) = (hdr 0 n (List.replicate 64 0) mb).toArray := rfl
set_option maxRecDepth 8000 in
set_option maxHeartbeats 1000000 in
theorem new_yes (w : World) (n : Nat) (h1 : 1 ≤ n) (h2 : n ≤ 64) :
    Calls Try.prog 28 #[.int .i64 n] w fun e w' => ∃ p mb, e = .returned (.tuple #[.pointer (some ⟨p, 0, none⟩), .int .i64 0]) ∧ EpAt w' p mb n (run0 n) ∧ w.heap.size ≤ p ∧ w.heap.size ≤ mb ∧ Below w.heap.size w w' := by
  have hmm := @run_makeMap Try.prog
  have HM0 := Lib.hid (MapI.made w Try.prog VT 3 .i64 (keL .u64) (okL .u64 64))
  have hba := (Below.refl w.heap.size w).alloc (Nat.le_refl _) (.map #[] 0)
  have g1 : ¬ (n : Int) < 1 := by omega
  have g2 : ¬ (64 : Int) < n := by omega
  go_enter Try.func28, Try.ntmps28
  go_wp2_with (first
    | (refine at_insert _ rfl _ _ _ _ rfl keyAsV huM huI (by decide) HM0.out rfl (List.replicate 64 0) zero64_wf 1 (by decide) rfl rfl ?_; intro w1 hM1 hk1)
    | fail)
  go_ret2
  have hb1 : Below w.heap.size w w1 := below_kept hba hk1 (by simp) (by simp)
  refine ⟨_, rfl, _, ⟨?_, ?_, run0_ok n h1 h2, ⟨1, _, hM1.alloc _, Nat.le_refl _, fun r => ?_⟩, by simp [run0]⟩, hb1.size, Nat.le_refl _, hb1.alloc hb1.size _⟩
  · have := Blk.new w1 ((Try.zeroCells120.setIfInBounds 1 (.int .i64 (n : Int))).setIfInBounds 66 (.map (some w.heap.size))) 120
    have e : pad (run0 n).row = List.replicate 64 0 := pad0 n h2
    rw [e]
    rw [hdr_new] at this
    rw [hdr_new]
    exact this
  · have := hM1.lt; omega
  · unfold upd
    have e : List.map pad (run0 n).hist = [List.replicate 64 0] := by
      show [pad (List.replicate n 0)] = _
      rw [pad0 n h2]
    rw [e]
    by_cases e : r = List.replicate 64 0
    · subst e
      rw [if_pos rfl]
      simp
    · rw [if_neg e]
      have : List.count r [List.replicate 64 0] = 0 := List.count_eq_zero.2 (by simpa using e)
      rw [this]; rfl
theorem new_no (w : World) (n : Int) (h : n < 1 ∨ 64 < n) :
    Calls Try.prog 28 #[.int .i64 n] w fun e w' => e = .returned (.tuple #[.pointer none, .int .i64 11]) ∧ w = w' := by
  by_cases h0 : n < 1
  · clear h
    go_enter Try.func28, Try.ntmps28
    go_wp2
    go_ret2
    exact ⟨rfl, rfl⟩
  · have h1 : 64 < n := by omega
    clear h
    go_enter Try.func28, Try.ntmps28
    go_wp2
    go_ret2
    exact ⟨rfl, rfl⟩
set_option maxRecDepth 10000 in
theorem mclone_calls (w : World) (b : Nat) (es : Array MapEntry) (clock : Nat) (hb : w.heap[b]? = some (.map es clock)) :
    Calls Try.prog 75 #[.map (some b)] w fun e w' => e = .returned (.map (some w.heap.size)) ∧ w' = w.alloc (.map es clock) := by
  have hq := fun w => run_eql_map_nil_sl (P := Try.prog) w 118 _ _ (some b) huM
  go_enter Try.func75, Try.ntmps75
  go_wp2
  rw [run_callFunc_extern Try.func92 (by kernel_rfl) (by kernel_rfl) (by kernel_rfl) (e := Extern.MapsClone.clone) (by kernel_rfl), run_maps_clone_sl w 118 hb]
  simp only [Result.andThen]
  rw [Oper.upon_value]
  go_wp2
  rw [run_typeAssert_map_sl _ 118 20 _ _ _ huM]
  simp only [Result.andThen]
  rw [Oper.upon_value]
  go_wp2
  go_ret
  exact ⟨rfl, rfl⟩
theorem hdr_len {now : Int} {n : Nat} {v : List Int} {mb : Nat} (h : v.length = 64) : (hdr now n v mb).length = 67 := by simp [hdr, h]
theorem hdr_one {now : Int} {n : Nat} {v : List Int} {mb : Nat} : ∀ x ∈ hdr now n v mb, x.oneCell' = true := by
  intro x hx
  unfold hdr at hx
  rcases List.mem_cons.1 hx with rfl | hx
  · rfl
  rcases List.mem_cons.1 hx with rfl | hx
  · rfl
  rcases List.mem_append.1 hx with hx | hx
  · obtain ⟨y, _, rfl⟩ := List.mem_map.1 hx
    rfl
  · simp at hx
    subst hx
    rfl
theorem hdr_remap {now : Int} {n : Nat} {v : List Int} {mb mb' : Nat} (h : v.length = 64) : (hdr now n v mb).set 66 (.map (some mb')) = hdr now n v mb' := by
  unfold hdr
  rw [List.set_cons_succ, List.set_cons_succ, List.set_append_right _ _ (by simp [h])]
  simp [h]
theorem hiE : (Try.prog.info? 120).map (·.size) = some 67 := by kernel_rfl
def zeroE : Array Value := #[.int .u64 0, .int .i64 0, .int .u64 0, .int .u64 0, .int .u64 0, .int .u64 0, .int .u64 0, .int .u64 0, .int .u64 0, .int .u64 0, .int .u64 0, .int .u64 0, .int .u64 0, .int .u64 0, .int .u64 0, .int .u64 0, .int .u64 0, .int .u64 0, .int .u64 0, .int .u64 0, .int .u64 0, .int .u64 0, .int .u64 0, .int .u64 0, .int .u64 0, .int .u64 0, .int .u64 0, .int .u64 0, .int .u64 0, .int .u64 0, .int .u64 0, .int .u64 0, .int .u64 0, .int .u64 0, .int .u64 0, .int .u64 0, .int .u64 0, .int .u64 0, .int .u64 0, .int .u64 0, .int .u64 0, .int .u64 0, .int .u64 0, .int .u64 0, .int .u64 0, .int .u64 0, .int .u64 0, .int .u64 0, .int .u64 0, .int .u64 0, .int .u64 0, .int .u64 0, .int .u64 0, .int .u64 0, .int .u64 0, .int .u64 0, .int .u64 0, .int .u64 0, .int .u64 0, .int .u64 0, .int .u64 0, .int .u64 0, .int .u64 0, .int .u64 0, .int .u64 0, .int .u64 0, .map none]
set_option maxRecDepth 8000 in
set_option maxHeartbeats 1000000 in
theorem clone_calls (w : World) (p mb n : Nat) (s : ERun) (h : EpAt w p mb n s) :
    Calls Try.prog 45 #[.pointer (some ⟨p, 0, none⟩)] w fun e w' => ∃ p' mb', e = .returned (.pointer (some ⟨p', 0, none⟩)) ∧ EpAt w' p' mb' n s ∧ w.heap.size ≤ p' ∧ w.heap.size ≤ mb' ∧ Below w.heap.size w w' := by
  have hl : (hdr s.now n (pad s.row) mb).length = 67 := hdr_len h.plen
  have hone : ∀ v ∈ hdr s.now n (pad s.row) mb, v.oneCell' = true := hdr_one
  have hr : w.rangeAt p 0 (hdr s.now n (pad s.row) mb) := h.head.range fun j v hj => by rw [Nat.zero_add]; simpa using hj
  have HB := Lib.hid (Blk.new w zeroE 120)
  have HK := Lib.hid ((Below.refl w.heap.size w).alloc (Nat.le_refl _) (.cells zeroE 120))
  have HE := Lib.hid h
  have HC := Lib.hid (rfl : hdr s.now n (pad s.row) mb = hdr s.now n (pad s.row) mb)
  revert HC
  generalize hcs : hdr s.now n (pad s.row) mb = cs at hl hone hr
  intro _
  have HCS := Lib.hid hcs
  have HT := Lib.hid (show (w.alloc (.cells zeroE 120)).there w.heap.size 0 cs.toArray.size from HB.out.there (by simp [hl, zeroE]))
  clear h hcs
  unfold zeroE at HB HK HT
  go_enter Try.func45, Try.ntmps45
  go_upto_region 1 with fail
  go_cut [3] (fun t wc => t = .pointer (some ⟨w.heap.size, 0, none⟩) ∧ wc = (w.alloc (.cells #[.int .u64 0, .int .i64 0, .int .u64 0, .int .u64 0, .int .u64 0, .int .u64 0, .int .u64 0, .int .u64 0, .int .u64 0, .int .u64 0, .int .u64 0, .int .u64 0, .int .u64 0, .int .u64 0, .int .u64 0, .int .u64 0, .int .u64 0, .int .u64 0, .int .u64 0, .int .u64 0, .int .u64 0, .int .u64 0, .int .u64 0, .int .u64 0, .int .u64 0, .int .u64 0, .int .u64 0, .int .u64 0, .int .u64 0, .int .u64 0, .int .u64 0, .int .u64 0, .int .u64 0, .int .u64 0, .int .u64 0, .int .u64 0, .int .u64 0, .int .u64 0, .int .u64 0, .int .u64 0, .int .u64 0, .int .u64 0, .int .u64 0, .int .u64 0, .int .u64 0, .int .u64 0, .int .u64 0, .int .u64 0, .int .u64 0, .int .u64 0, .int .u64 0, .int .u64 0, .int .u64 0, .int .u64 0, .int .u64 0, .int .u64 0, .int .u64 0, .int .u64 0, .int .u64 0, .int .u64 0, .int .u64 0, .int .u64 0, .int .u64 0, .int .u64 0, .int .u64 0, .int .u64 0, .map none] 120)).setCells w.heap.size 0 cs)
  case first =>
    go_wp2_with (first
      | (refine wpList_load_mid rfl _ _ rfl _ _ rfl cs _ hr Try.underlying120 rfl (hiE.trans (congrArg some hl.symm)) ?_)
      | (refine wpList_store_mid rfl _ _ _ rfl _ _ cs.toArray rfl rfl HT.out (hiE.trans (congrArg some (by simp [hl]))) (all_oneCell_toArray hone) ?_)
      | fail)
    go_meet
    exact ⟨rfl, rfl⟩
  case rest =>
  obtain ⟨rfl, hwc⟩ := hcut
  have hB2 := HB.out.setCells cs 0 (by simp [hl])
  rw [lay_all _ _ (by simp [hl]), ← hwc] at hB2
  have hb2 : Below w.heap.size w wc := by
    rw [hwc]
    exact below_kept HK.out ((Kept.refl [w.heap.size] _).setCells (.inl (by simp)) cs 0) HK.out.size (by simp)
  clear HB HK HT hwc hone hr
  have HE2 := Lib.hid (HE.out.below hb2)
  obtain ⟨q, hq⟩ : ∃ q, q = w.heap.size := ⟨_, rfl⟩
  rw [← hq] at hB2 ⊢
  have HQ := Lib.hid (show w.heap.size ≤ q by omega)
  clear hq
  have cm := HE2.out.cm
  obtain ⟨m, g, hM, hn, hg⟩ := HE2.out.map
  obtain ⟨es, clock, hes, hM2⟩ := hM.copy
  have HM2 := Lib.hid hM2
  have HB1 := Lib.hid hB2
  have Hb2 := Lib.hid hb2
  have HMC := Lib.hid (mclone_calls wc mb es clock hes)
  have f66 := (hB2.alloc (.map es clock)).free 66
  have d66 : (wc.alloc (.map es clock)).cell? ⟨q, 66, none⟩ = some (.map (some mb)) := (hB2.alloc (.map es clock)).cell (by rw [← HCS.out]; have := hdr_map (now := s.now) (n := n) (mb := mb) HE.out.plen; simpa using this)
  have HN := Lib.hid (And.intro hn hg)
  clear hM hM2 hB2 hes hb2 hn hg
  go_wp2_with fail
  refine HMC.out.mono ?_
  rintro e w2 ⟨rfl, rfl⟩
  go_wp2_with fail
  go_ret
  have hqm : q ≠ wc.heap.size := by have := HB1.out.lt; omega
  have hbb := (Hb2.out.alloc Hb2.out.size (.map es clock)).setCell (p := ⟨q, 66, none⟩) HQ.out (.map (some wc.heap.size))
  have hP := (HB1.out.alloc (.map es clock)).set 66 (.map (some wc.heap.size))
  rw [List.setIfInBounds_toArray, ← HCS.out, hdr_remap HE.out.plen] at hP
  exact ⟨q, wc.heap.size, rfl, ⟨hP, hqm, HE.out.ok, ⟨m, g, HM2.out.other (a := ⟨q, 66, none⟩) (Ne.symm hqm) _, HN.out.1, HN.out.2⟩, HE.out.small⟩, HQ.out, Hb2.out.size, hbb⟩
end Go.Proofs.Ytchnhmcedmicgaa.Epo
