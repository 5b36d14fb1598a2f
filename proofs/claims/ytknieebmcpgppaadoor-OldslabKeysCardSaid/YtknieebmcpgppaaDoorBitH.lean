/- The contract of package bits' Key. -/
import Derived.Test.YtknieebmcpgppaaDoorBitG
import Derived.Deep.RegionLaw
import Derived.Laws.CopyOwn
namespace Go.Proofs.YtknieebmcpgppaaDoor.Bit
open Go.RowKit Go.Proofs.YtknieebmcpgppaaDoor.Aid
/-- A row's first four words. -/
def keyV (l : List Bool) : Array Value := #[.int .u64 (Bit.word l 0), .int .u64 (Bit.word l 1), .int .u64 (Bit.word l 2), .int .u64 (Bit.word l 3)]
def zero4 : List Value := [.int .u64 0, .int .u64 0, .int .u64 0, .int .u64 0]
theorem word_out (l : List Bool) (k : Nat) (h : nwords l.length ≤ k) : Bit.word l k = 0 := by
  refine R_ext (R_word _ _) R_zero fun j hj => ?_
  rw [word_bit _ _ _ hj, List.getD_eq_getElem?_getD, List.getElem?_eq_none (by unfold nwords at h; omega)]
  simp [B_zero]
/-- The words that are copied. -/
def keyCs (l : List Bool) : List Value := ((words l).take 4).map (.int .u64)
theorem keyCs_len (l : List Bool) : (keyCs l).length = Nat.min (nwords l.length) 4 := by
  unfold keyCs
  rw [List.length_map, List.length_take, words_len]
  exact Nat.min_comm _ _
theorem splice_key (l : List Bool) : (splice zero4 0 (keyCs l)).toArray = keyV l := by
  have h4 : ∀ k, k < 4 → (splice zero4 0 (keyCs l))[k]? = some (.int .u64 (Bit.word l k)) := by
    intro k hk
    have hlen := keyCs_len l
    unfold splice
    rw [List.take_zero, List.nil_append]
    by_cases h : k < nwords l.length
    · rw [List.getElem?_append_left (by rw [hlen]; show k < min (nwords l.length) 4; omega)]
      unfold keyCs
      rw [List.getElem?_map, List.getElem?_take_of_lt hk, List.getElem?_eq_getElem (by rw [words_len]; exact h)]
      simp [words]
    · have hm : (keyCs l).length = nwords l.length := by rw [hlen]; show min (nwords l.length) 4 = _; omega
      rw [List.getElem?_append_right (by omega), List.getElem?_drop, word_out l k (by omega), hm]
      unfold zero4
      have : 0 + nwords l.length + (k - nwords l.length) = k := by omega
      rw [this]
      match k, hk with
      | 0, _ => rfl
      | 1, _ => rfl
      | 2, _ => rfl
      | 3, _ => rfl
  have hl : (splice zero4 0 (keyCs l)).length = 4 := by
    rw [length_splice]
    · rfl
    · rw [keyCs_len, Nat.zero_add]
      exact Nat.min_le_right _ _
  apply Array.ext'
  show splice zero4 0 (keyCs l) = [.int .u64 (Bit.word l 0), .int .u64 (Bit.word l 1), .int .u64 (Bit.word l 2), .int .u64 (Bit.word l 3)]
  apply List.ext_getElem?
  intro k
  by_cases hk : k < 4
  · rw [h4 k hk]
    match k, hk with
    | 0, _ => rfl
    | 1, _ => rfl
    | 2, _ => rfl
    | 3, _ => rfl
  · rw [List.getElem?_eq_none (by rw [hl]; omega), List.getElem?_eq_none (by simp; omega)]
set_option maxHeartbeats 2000000 in
theorem key_calls (w : World) (p g c : Nat) (l : List Bool) (h : RowAt w p g c l) :
    Calls Tryd.prog 26 #[.pointer (some ⟨p, 0, none⟩)] w fun e w' => e = .returned (.agg (keyV l)) ∧ Below w.heap.size w w' := by
  have H := Lib.hid h
  clear h
  have hkv : keyV l = #[.int .u64 (Bit.word l 0), .int .u64 (Bit.word l 1), .int .u64 (Bit.word l 2), .int .u64 (Bit.word l 3)] := rfl
  generalize h0 : Bit.word l 0 = x0 at hkv
  generalize h1 : Bit.word l 1 = x1 at hkv
  generalize h2 : Bit.word l 2 = x2 at hkv
  generalize h3 : Bit.word l 3 = x3 at hkv
  rw [hkv]
  have HKV := Lib.hid hkv
  clear hkv h0 h1 h2 h3
  go_enter Tryd.func26, Tryd.ntmps26
  go_wp2_with fail
  have hG := Blk.new (w.alloc (.cells #[.int .u64 0, .int .u64 0, .int .u64 0, .int .u64 0] 46)) #[.int .u64 0, .int .u64 0, .int .u64 0, .int .u64 0] 46
  have hF := (Blk.new w #[.int .u64 0, .int .u64 0, .int .u64 0, .int .u64 0] 46).alloc (.cells #[.int .u64 0, .int .u64 0, .int .u64 0, .int .u64 0] 46)
  have hR := (H.out.alloc (.cells #[.int .u64 0, .int .u64 0, .int .u64 0, .int .u64 0] 46)).alloc (.cells #[.int .u64 0, .int .u64 0, .int .u64 0, .int .u64 0] 46)
  have hbW := ((Below.refl w.heap.size w).alloc (Nat.le_refl _) (.cells #[.int .u64 0, .int .u64 0, .int .u64 0, .int .u64 0] 46)).alloc (by simp) (.cells #[.int .u64 0, .int .u64 0, .int .u64 0, .int .u64 0] 46)
  rw [World.size_alloc] at hG
  generalize hq : w.heap.size = q at *
  generalize (w.alloc (.cells #[.int .u64 0, .int .u64 0, .int .u64 0, .int .u64 0] 46)).alloc (.cells #[.int .u64 0, .int .u64 0, .int .u64 0, .int .u64 0] 46) = W at hG hF hR hbW ⊢
  have HG := Lib.hid hG
  have HF := Lib.hid hF
  have HR := Lib.hid hR
  have HbW := Lib.hid hbW
  have Hq := Lib.hid hq
  obtain ⟨c0, c1⟩ := hR.facts
  have hkl := keyCs_len l
  have Hkl := Lib.hid hkl
  clear hG hF hR hbW hq H hkl
  generalize hm : nwords l.length = m at c1
  have Hm := Lib.hid hm
  clear hm
  have hsrc : ∀ (j : Nat) (v : Value), (keyCs l)[j]? = some v → W.drew.cell? ((⟨g, 0, none⟩ : Addr).add j) = some v := by
    intro j v hj
    have hjl : j < (keyCs l).length := (List.getElem?_eq_some_iff.1 hj).1
    rw [Hkl.out] at hjl
    have hj4 : j < nwords l.length := Nat.lt_of_lt_of_le hjl (Nat.min_le_left _ _)
    have hj5 : j < 4 := Nat.lt_of_lt_of_le hjl (Nat.min_le_right _ _)
    rw [Go.WideShapes.add_plain, Nat.zero_add]
    have h1 := HR.out.word hj4
    have h2 : (keyCs l)[j]? = some (.int .u64 (Bit.word l j)) := by
      unfold keyCs
      rw [List.getElem?_map, List.getElem?_take_of_lt hj5, List.getElem?_eq_getElem (by rw [words_len]; exact hj4)]
      simp [words]
    rw [h2] at hj
    cases hj
    exact h1
  have HSrc := Lib.hid hsrc
  have HFit := Lib.hid (show 0 + (keyCs l).length ≤ zero4.length by rw [Hkl.out, Nat.zero_add]; exact Nat.min_le_right _ _)
  have HOne := Lib.hid (show ∀ v ∈ keyCs l, v.oneCell' = true by
    intro v hv
    unfold keyCs at hv
    obtain ⟨y, _, rfl⟩ := List.mem_map.1 hv
    rfl)
  have HLen := Lib.hid (show (keyCs l).length = Nat.min m 4 by rw [Hkl.out, Hm.out])
  clear hsrc
  go_region_law (refine step_copy_splice rfl (.tmp 4) (.tmp 8) _ _ rfl 44 Tryd.underlying32 (by kernel_rfl) (some ⟨q + 1, 0, none⟩) (some ⟨g, 0, none⟩) 4 4 m c rfl rfl (q + 1) 0 zero4 46 HG.out (keyCs l) HLen.out (fun _ => ⟨rfl, _, rfl, HSrc.out⟩) HFit.out HOne.out (q + 1) W ((Below.refl _ _).drew) (Nat.le_refl _) ?_; intro w4 hg4 hb4)
  have hk4 := hg4.out
  rw [splice_key, HKV.out] at hk4
  have HK4 := Lib.hid (show Blk w4 (q + 1) #[.int .u64 x0, .int .u64 x1, .int .u64 x2, .int .u64 x3] 46 from hk4)
  have HF4 := Lib.hid (show Blk w4 q #[.int .u64 0, .int .u64 0, .int .u64 0, .int .u64 0] 46 from (hb4.block q (by omega)).trans HF.out)
  have hbw4 : Below q w w4 := HbW.out.trans (hb4.mono (by omega))
  clear hk4 hg4 c0 c1
  have d0 : w4.cell? ⟨q + 1, 0, none⟩ = some (.int .u64 x0) := HK4.out.cell (o := 0) rfl
  have d1 : w4.cell? ⟨q + 1, 1, none⟩ = some (.int .u64 x1) := HK4.out.cell (o := 1) rfl
  have d2 : w4.cell? ⟨q + 1, 2, none⟩ = some (.int .u64 x2) := HK4.out.cell (o := 2) rfl
  have d3 : w4.cell? ⟨q + 1, 3, none⟩ = some (.int .u64 x3) := HK4.out.cell (o := 3) rfl
  have e0 : w4.cell? ⟨q, 0, none⟩ = some (.int .u64 0) := HF4.out.cell (o := 0) rfl
  have e1 : w4.cell? ⟨q, 1, none⟩ = some (.int .u64 0) := HF4.out.cell (o := 1) rfl
  have e2 : w4.cell? ⟨q, 2, none⟩ = some (.int .u64 0) := HF4.out.cell (o := 2) rfl
  have e3 : w4.cell? ⟨q, 3, none⟩ = some (.int .u64 0) := HF4.out.cell (o := 3) rfl
  have f0 := HF4.out.free 0
  have f1 := HF4.out.free 1
  have f2 := HF4.out.free 2
  have f3 := HF4.out.free 3
  go_wp2_with fail
  have hB := (((HF4.out.set 0 (.int .u64 x0)).set 1 (.int .u64 x1)).set 2 (.int .u64 x2)).set 3 (.int .u64 x3)
  have hbw5 := (((hbw4.setCell (p := ⟨q, 0, none⟩) (Nat.le_refl _) (.int .u64 x0)).setCell (p := ⟨q, 1, none⟩) (Nat.le_refl _) (.int .u64 x1)).setCell (p := ⟨q, 2, none⟩) (Nat.le_refl _) (.int .u64 x2)).setCell (p := ⟨q, 3, none⟩) (Nat.le_refl _) (.int .u64 x3)
  generalize (((w4.setCell ⟨q, 0, none⟩ (.int .u64 x0)).setCell ⟨q, 1, none⟩ (.int .u64 x1)).setCell ⟨q, 2, none⟩ (.int .u64 x2)).setCell ⟨q, 3, none⟩ (.int .u64 x3) = w5 at hB hbw5 ⊢
  have r0 : w5.cell? ⟨q, 0, none⟩ = some (.int .u64 x0) := hB.cell rfl
  have r1 : w5.cell? ⟨q, 1, none⟩ = some (.int .u64 x1) := hB.cell rfl
  have r2 : w5.cell? ⟨q, 2, none⟩ = some (.int .u64 x2) := hB.cell rfl
  have r3 : w5.cell? ⟨q, 3, none⟩ = some (.int .u64 x3) := hB.cell rfl
  have hQ := Hq.out
  refine bodyPost_ret (v := .agg #[.int .u64 x0, .int .u64 x1, .int .u64 x2, .int .u64 x3]) (by simp [results, Tryd.results26, go_sem, r0, r1, r2, r3]) rfl ⟨rfl, by rw [hQ]; exact hbw5⟩
end Go.Proofs.YtknieebmcpgppaaDoor.Bit
