/- The contracts of package epoch's Vector, Times, Least, Behind, Settled. -/
import Derived.Test.YtchnhmcedmicgaaEpoA
namespace Go.Proofs.Ytchnhmcedmicgaa.Epo
open Go.RowKit Go.Proofs.Ytchnhmcedmicgaa.Aid
/-- A row of the program's as a value. -/
def vv (r : List Int) : Value := keL .u64 (pad r)
def zeros : Array Value := #[.int .u64 0, .int .u64 0, .int .u64 0, .int .u64 0, .int .u64 0, .int .u64 0, .int .u64 0, .int .u64 0, .int .u64 0, .int .u64 0, .int .u64 0, .int .u64 0, .int .u64 0, .int .u64 0, .int .u64 0, .int .u64 0, .int .u64 0, .int .u64 0, .int .u64 0, .int .u64 0, .int .u64 0, .int .u64 0, .int .u64 0, .int .u64 0, .int .u64 0, .int .u64 0, .int .u64 0, .int .u64 0, .int .u64 0, .int .u64 0, .int .u64 0, .int .u64 0, .int .u64 0, .int .u64 0, .int .u64 0, .int .u64 0, .int .u64 0, .int .u64 0, .int .u64 0, .int .u64 0, .int .u64 0, .int .u64 0, .int .u64 0, .int .u64 0, .int .u64 0, .int .u64 0, .int .u64 0, .int .u64 0, .int .u64 0, .int .u64 0, .int .u64 0, .int .u64 0, .int .u64 0, .int .u64 0, .int .u64 0, .int .u64 0, .int .u64 0, .int .u64 0, .int .u64 0, .int .u64 0, .int .u64 0, .int .u64 0, .int .u64 0, .int .u64 0]
theorem lay_all (cs : Array Value) (vs : List Value) (h : cs.size = vs.length) : layA cs 0 vs = vs.toArray := by
  unfold layA
  congr 1
  apply List.ext_getElem?
  intro i
  rw [lay_get? _ _ _ _ (by simp [h]), if_neg (by omega)]
  by_cases hi : i < 0 + vs.length
  · rw [if_pos hi, Nat.sub_zero]
  · rw [if_neg hi, List.getElem?_eq_none (by simp; omega), List.getElem?_eq_none (by omega)]
set_option maxRecDepth 8000 in
theorem vector_calls (w : World) (p mb n : Nat) (s : ERun) (h : EpAt w p mb n s) :
    Calls Try.prog 32 #[.pointer (some ⟨p, 0, none⟩)] w fun e w' => e = .returned (vv s.row) ∧ Below w.heap.size w w' := by
  have hB := Lib.hid (Blk.new w zeros VT)
  have hk := Lib.hid ((Below.refl w.heap.size w).alloc (Nat.le_refl _) (.cells zeros VT))
  have hr := (h.below hk.out).range
  have hl : ((pad s.row).map (Value.int .u64)).length = 64 := by simp [h.plen]
  have hone : ∀ v ∈ ((pad s.row).map (Value.int .u64)), v.oneCell' = true := by
    intro v hv
    obtain ⟨x, _, rfl⟩ := List.mem_map.1 hv
    rfl
  unfold vv keL
  generalize (pad s.row).map (Value.int .u64) = cs at hr hl hone ⊢
  unfold zeros at hB hk hr
  clear h
  go_enter Try.func32, Try.ntmps32
  go_upto_region 1 with fail
  generalize w.alloc (.cells #[.int .u64 0, .int .u64 0, .int .u64 0, .int .u64 0, .int .u64 0, .int .u64 0, .int .u64 0, .int .u64 0, .int .u64 0, .int .u64 0, .int .u64 0, .int .u64 0, .int .u64 0, .int .u64 0, .int .u64 0, .int .u64 0, .int .u64 0, .int .u64 0, .int .u64 0, .int .u64 0, .int .u64 0, .int .u64 0, .int .u64 0, .int .u64 0, .int .u64 0, .int .u64 0, .int .u64 0, .int .u64 0, .int .u64 0, .int .u64 0, .int .u64 0, .int .u64 0, .int .u64 0, .int .u64 0, .int .u64 0, .int .u64 0, .int .u64 0, .int .u64 0, .int .u64 0, .int .u64 0, .int .u64 0, .int .u64 0, .int .u64 0, .int .u64 0, .int .u64 0, .int .u64 0, .int .u64 0, .int .u64 0, .int .u64 0, .int .u64 0, .int .u64 0, .int .u64 0, .int .u64 0, .int .u64 0, .int .u64 0, .int .u64 0, .int .u64 0, .int .u64 0, .int .u64 0, .int .u64 0, .int .u64 0, .int .u64 0, .int .u64 0, .int .u64 0] VT) = w1 at hB hk hr ⊢
  obtain ⟨q, hqq⟩ : ∃ q, q = w.heap.size := ⟨_, rfl⟩
  rw [← hqq] at hB ⊢
  have HQ := Lib.hid (Nat.le_of_eq hqq.symm)
  clear hqq
  have HT := Lib.hid (show w1.there q 0 cs.toArray.size from hB.out.there (by simp [hl]))
  go_wp2_with (first
    | (refine wpList_load_mid rfl _ _ rfl _ _ rfl cs _ hr huV rfl (hiV.trans (congrArg some hl.symm)) ?_)
    | (refine wpList_store_mid rfl _ _ _ rfl _ _ cs.toArray rfl rfl HT.out (hiV.trans (congrArg some (by simp [hl]))) (all_oneCell_toArray hone) ?_)
    | fail)
  have hB2 := hB.out.setCells cs 0 (by simp [hl])
  rw [lay_all _ _ (by simp [hl])] at hB2
  refine bodyPost_ret_by (results_cell_row rfl _ _ q VT cs.toArray _ _ rfl hB2 huV rfl (hiV.trans (congrArg some (by simp [hl])))) rfl ?_
  exact ⟨rfl, below_kept hk.out ((Kept.refl [q] w1).setCells (.inl (by simp)) cs 0) hk.out.size (by simpa using HQ.out)⟩
set_option maxRecDepth 8000 in
theorem times_calls (w : World) (p mb n : Nat) (s : ERun) (r : List Int) (h : EpAt w p mb n s) (hr : okL .u64 64 r) :
    Calls Try.prog 42 #[.pointer (some ⟨p, 0, none⟩), keL .u64 r] w fun e w' => e = .returned (.int .i64 ((s.hist.map pad).count r : Nat)) ∧ Below w.heap.size w w' := by
  have hk := (Below.refl w.heap.size w).alloc (Nat.le_refl _) (.cells (r.map (Value.int .u64)).toArray VT)
  have hB := Blk.new w (r.map (Value.int .u64)).toArray VT
  have hE := h.below hk
  have hc := hE.cm
  have hlk := hE.drew.look hr
  have hl : (r.map (Value.int .u64)).length = 64 := by simp [hr.1]
  have hrg : (w.alloc (.cells (r.map (Value.int .u64)).toArray VT)).rangeAt w.heap.size 0 (r.map (Value.int .u64)) := hB.range fun j v hj => by rw [Nat.zero_add]; simpa using hj
  unfold keL at hlk ⊢
  have HK := Lib.hid hk
  clear hk hB hE hr h
  generalize (s.hist.map pad).count r = cn at hlk ⊢
  generalize r.map (Value.int .u64) = cs at hlk HK hc hl hrg ⊢
  have hu := huV
  have hi := hiV.trans (congrArg some hl.symm)
  go_enter Try.func42, Try.ntmps42
  go_wp2_with fail
  generalize w.alloc (.cells cs.toArray VT) = w1 at HK hc hlk hrg ⊢
  obtain ⟨q, hqq⟩ : ∃ q, q = w.heap.size := ⟨_, rfl⟩
  rw [← hqq] at hrg ⊢
  clear hqq
  go_region_held3 (fun w' => w'.cell? ⟨p, 66, none⟩ = some (.map (some mb)) ∧ w'.rangeAt q 0 cs) (exact ⟨hc, hrg⟩) (fail)
  go_wp2_with fail
  go_ret
  exact ⟨rfl, HK.out.drew⟩
end Go.Proofs.Ytchnhmcedmicgaa.Epo
