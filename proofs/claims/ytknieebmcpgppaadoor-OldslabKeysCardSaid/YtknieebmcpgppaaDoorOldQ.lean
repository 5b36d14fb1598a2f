/- Plain words for OldslabKeys; a map from keys. -/
import Derived.Test.YtknieebmcpgppaaDoorOldX
set_option linter.unusedSimpArgs false
namespace Go.Proofs.YtknieebmcpgppaaDoor.Old
open Go.RowKit Go.Proofs.YtknieebmcpgppaaDoor.Aid Go.Proofs.YtknieebmcpgppaaDoor.Bit
theorem setB_yes {l : List Bool} {k : Int} (h : setB l k true = true) : ∃ j : Nat, k = (j : Int) ∧ j < l.length ∧ l.getD j false = false ∧ setL l k true = l.set j true := by
  unfold setB at h
  rw [Bool.and_eq_true] at h
  obtain ⟨h1, h2⟩ := h
  have h3 : 0 ≤ k ∧ k < l.length := by unfold inR at h1; simpa using h1
  obtain ⟨j, rfl⟩ := Int.eq_ofNat_of_zero_le h3.1
  refine ⟨j, rfl, by omega, by simpa using h2, ?_⟩
  unfold setL
  rw [h1]
  rfl
theorem set_yes {l : List Bool} {j : Nat} (hj : j < l.length) (h : l.getD j false = false) : setB l (j : Int) true = true ∧ setL l (j : Int) true = l.set j true := by
  refine ⟨?_, ?_⟩
  · unfold setB
    rw [inR_nat _ _ hj, Int.toNat_natCast, h]
    rfl
  · unfold setL
    rw [inR_nat _ _ hj]
    rfl
theorem set_stays {l : List Bool} {i j : Nat} (h : l.getD j false = true) : (l.set i true).getD j false = true := by
  rw [List.getD_eq_getElem?_getD] at h ⊢
  rw [List.getElem?_set]
  split
  · rename_i e
    subst e
    split
    · rfl
    · rename_i hl
      rw [List.getElem?_eq_none (by omega)] at h
      exact h
  · exact h
theorem with_stays : ∀ (r : List Int) {l l' : List Bool} {j : Nat}, withO l r = some l' → l.getD j false = true → l'.getD j false = true
  | [], l, l', j, h, hj => by cases h; exact hj
  | k :: r, l, l', j, h, hj => by
    unfold withO at h
    split at h
    · rename_i hs
      obtain ⟨i, _, _, _, h4⟩ := setB_yes hs
      rw [h4] at h
      exact with_stays r h (set_stays hj)
    · cases h
theorem with_cnt : ∀ (r : List Int) {l l' : List Bool}, withO l r = some l' → cntL l' = cntL l + r.length
  | [], l, l', h => by cases h; rfl
  | k :: r, l, l', h => by
    unfold withO at h
    split at h
    · rename_i hs
      obtain ⟨i, _, h2, h3, h4⟩ := setB_yes hs
      rw [h4] at h
      rw [with_cnt r h, List.length_cons]
      have : cntL (l.set i true) = cntL l + 1 := by
        unfold cntL
        rw [cnt_set l i h3, List.length_set, if_pos ⟨h2, h2⟩]
      omega
    · cases h
theorem with_in : ∀ (r : List Int) {l l' : List Bool}, withO l r = some l' → ∀ i, i < r.length → ∃ j : Nat, r.getD i 0 = (j : Int) ∧ j < l.length ∧ l'.getD j false = true
  | [], l, l', _, i, hi => by simp at hi
  | k :: r, l, l', h, i, hi => by
    unfold withO at h
    split at h
    · rename_i hs
      obtain ⟨j, h1, h2, h3, h4⟩ := setB_yes hs
      rw [h4] at h
      cases i with
      | zero => exact ⟨j, by simpa using h1, h2, with_stays r h (by simp [List.getD_eq_getElem?_getD, h2])⟩
      | succ i =>
        obtain ⟨j2, e1, e2, e3⟩ := with_in r h i (by simpa using hi)
        exact ⟨j2, by simpa using e1, by rw [List.length_set] at e2; exact e2, e3⟩
    · cases h
theorem list_nodup (l : List Bool) : (listL l).Nodup := by
  unfold listL bitsTo
  refine List.Pairwise.map _ (fun a b hab => ?_) ((List.nodup_range).filter _)
  intro e
  exact hab (by omega)
theorem pre_get (l : List Bool) {i j : Nat} (hj : j < l.length) : (pre l i).getD j false = true ↔ (j : Int) ∈ (listL l).take i := by
  unfold pre
  rw [fold_get _ _ _ (by simpa using hj)]
  have h4 : (List.replicate l.length false).getD j false = false := by simp [List.getD_eq_getElem?_getD, List.getElem?_replicate, hj]
  rw [h4]
  constructor
  · rintro (h | ⟨v, hv, e⟩)
    · cases h
    · have hm := List.mem_of_mem_take hv
      unfold listL bitsTo at hm
      obtain ⟨k, _, e2⟩ := List.mem_map.1 hm
      have : v = (j : Int) := by omega
      rw [← this]
      exact hv
  · exact fun h => .inr ⟨_, h, by simp⟩
theorem with_pre (l : List Bool) : ∀ d i, i + d = (listL l).length → withO (pre l i) ((listL l).drop i) = some l
  | 0, i, h => by
    obtain rfl : i = (listL l).length := by omega
    rw [List.drop_length, pre_end]
    rfl
  | d + 1, i, h => by
    have hi : i < (listL l).length := by omega
    obtain ⟨j, hj, hjl⟩ := list_in l hi
    have hn : (pre l i).getD j false = false := by
      cases hc : (pre l i).getD j false
      · rfl
      · have h1 := (pre_get l hjl).1 hc
        have h2 := list_nodup l
        rw [← List.take_append_drop i (listL l), drop_at hi, hj] at h2
        have h3 := (List.nodup_append.1 h2).2.2 _ h1 _ (List.mem_cons_self ..)
        exact absurd rfl h3
    obtain ⟨s1, s2⟩ := set_yes (by rw [pre_len]; exact hjl) hn
    rw [withO_step hi, hj, s1, if_pos rfl, s2, ← pre_succ l hi hj]
    exact with_pre l d (i + 1) (by omega)
theorem with_list (l : List Bool) : withO (List.replicate l.length false) (listL l) = some l := by
  have := with_pre l (listL l).length 0 (by omega)
  exact this
theorem give_set {x : Sb} (h : OkB x) {j : Nat} (hj : j < x.l.length) (hb : x.l.getD j false = true) : giveE x x.l ((x.b : Int) + (j : Int) * (x.z : Int)) = 0 := by
  have hs : slotO x ((x.b : Int) + (j : Int) * (x.z : Int)) = some j := slotO_at h hj (by push_cast; rfl)
  unfold giveE
  rw [hs]
  show (if setB x.l (j : Int) false = true then (0 : Int) else 19) = 0
  rw [if_pos]
  unfold setB
  rw [inR_nat _ _ hj, Int.toNat_natCast, hb]
  rfl
/-- One more for a key. -/
theorem bump_key {W : World} {mb n : Nat} {g : List Int → Option Int} (HM : MapI W Tryd.prog 46 3 .i64 (keL .u64) (okL .u64 4) mb n g) (l : List Bool) (cv : Int) (hcv : cv = (g (keyL4 l)).getD 0) (hb : 0 ≤ cv ∧ cv ≤ 5) (hn : n < 10) :
    ∀ w18, Below W.heap.size W w18 → ∃ (v0 : Value) (st : Nat) (w19 w20 : World),
      (Instr.mapEntry 50 (.map (some mb)) (.agg (keyV l))).run Tryd.prog w18 = .ok (.tuple #[v0, .int .i64 st]) w19 ∧
      (Instr.lookup 50 (.map (some mb)) (.agg (keyV l)) false).run Tryd.prog w18 = .ok (.int .i64 cv) w18 ∧
      (Instr.lookup 50 (.map (some mb)) (.agg (keyV l)) false).run Tryd.prog w19 = .ok (.int .i64 cv) w19 ∧
      (Instr.entryStore 50 (.map (some mb)) (.int .i64 st) (.int .i64 (IntKind.i64.wrap (cv + 1)))).run Tryd.prog w19 = .ok () w20 ∧
      MapI w20 Tryd.prog 46 3 .i64 (keL .u64) (okL .u64 4) mb (if (g (keyL4 l)).isSome = true then n else n + 1) (upd g (keyL4 l) (some (cv + 1))) ∧ Kept [mb] w18 w20 := by
  intro w18 hb18
  obtain ⟨v0, st, w19, e1, e2, e3, _, hst⟩ := (HM.below hb18).bump keyAs4 lawK4 Tryd.underlying50 Tryd.underlying3 zero_int (by unfold maxLen; omega) (keyL4_ok l)
  obtain ⟨w20, e4, hM2, hk2⟩ := hst (cv + 1) (by simp [Lit.wf, IntKind.min, IntKind.max, IntKind.signed, IntKind.bits]; omega)
  rw [← hcv] at e2 e3
  exact ⟨v0, st, w19, w20, e1, e2, e3, by rw [IntWalk.i64_in _ (by omega)]; exact e4, hM2, hk2⟩
theorem bump_first {W : World} {mb : Nat} (HM : MapI W Tryd.prog 46 3 .i64 (keL .u64) (okL .u64 4) mb 0 (fun _ => none)) (l : List Bool) :
    ∀ w18, Below W.heap.size W w18 → ∃ (v0 : Value) (st : Nat) (w19 w20 : World),
      (Instr.mapEntry 50 (.map (some mb)) (.agg (keyV l))).run Tryd.prog w18 = .ok (.tuple #[v0, .int .i64 st]) w19 ∧
      (Instr.lookup 50 (.map (some mb)) (.agg (keyV l)) false).run Tryd.prog w18 = .ok (.int .i64 0) w18 ∧
      (Instr.lookup 50 (.map (some mb)) (.agg (keyV l)) false).run Tryd.prog w19 = .ok (.int .i64 0) w19 ∧
      (Instr.entryStore 50 (.map (some mb)) (.int .i64 st) (.int .i64 (IntKind.i64.wrap 1))).run Tryd.prog w19 = .ok () w20 ∧
      MapI w20 Tryd.prog 46 3 .i64 (keL .u64) (okL .u64 4) mb 1 (upd (fun _ => none) (keyL4 l) (some 1)) ∧ Kept [mb] w18 w20 := by
  intro w18 hb
  obtain ⟨v0, st, w19, w20, e1, e2, e3, e4, hM, hk⟩ := bump_key HM l 0 rfl (by omega) (by omega) w18 hb
  rw [Int.zero_add] at e4 hM
  exact ⟨v0, st, w19, w20, e1, e2, e3, e4, hM, hk⟩
theorem bump_second {W : World} {mb : Nat} {la lb : List Bool} (HM : MapI W Tryd.prog 46 3 .i64 (keL .u64) (okL .u64 4) mb 1 (upd (fun _ => none) (keyL4 la) (some 1))) (hl : la.length = lb.length) (h64 : la.length ≤ 64) :
    ∃ cv : Int, (0 ≤ cv ∧ cv ≤ 1) ∧ ∀ w18, Below W.heap.size W w18 → ∃ (v0 : Value) (st : Nat) (w19 w20 : World),
      (Instr.mapEntry 50 (.map (some mb)) (.agg (keyV lb))).run Tryd.prog w18 = .ok (.tuple #[v0, .int .i64 st]) w19 ∧
      (Instr.lookup 50 (.map (some mb)) (.agg (keyV lb)) false).run Tryd.prog w18 = .ok (.int .i64 cv) w18 ∧
      (Instr.lookup 50 (.map (some mb)) (.agg (keyV lb)) false).run Tryd.prog w19 = .ok (.int .i64 cv) w19 ∧
      (Instr.entryStore 50 (.map (some mb)) (.int .i64 st) (.int .i64 (IntKind.i64.wrap (cv + 1)))).run Tryd.prog w19 = .ok () w20 ∧
      (∃ g, MapI w20 Tryd.prog 46 3 .i64 (keL .u64) (okL .u64 4) mb (if la = lb then 1 else 2) g) ∧ Kept [mb] w18 w20 := by
  obtain ⟨cv, hcv⟩ : ∃ cv, cv = ((upd (fun _ => none) (keyL4 la) (some (1 : Int))) (keyL4 lb)).getD 0 := ⟨_, rfl⟩
  have hcv1 : 0 ≤ cv ∧ cv ≤ 1 := by rw [hcv]; unfold upd; split <;> simp
  refine ⟨cv, hcv1, fun w18 hb => ?_⟩
  obtain ⟨v0, st, w19, w20, e1, e2, e3, e4, hM, hk⟩ := bump_key HM lb cv hcv (by omega) (by omega) w18 hb
  have hn : (if ((upd (fun _ => none) (keyL4 la) (some (1 : Int))) (keyL4 lb)).isSome = true then 1 else 1 + 1) = (if la = lb then 1 else 2) := by
    have hk := keyL4_inj lb la (by omega) (by omega)
    unfold upd
    by_cases e : la = lb
    · rw [if_pos e, if_pos (hk.2 e.symm)]
      rfl
    · rw [if_neg e, if_neg (fun e2 => e (hk.1 e2).symm)]
      rfl
  rw [hn] at hM
  exact ⟨v0, st, w19, w20, e1, e2, e3, e4, ⟨_, hM⟩, hk⟩
end Go.Proofs.YtknieebmcpgppaaDoor.Old
