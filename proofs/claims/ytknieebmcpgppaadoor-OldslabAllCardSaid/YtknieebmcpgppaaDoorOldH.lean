/- Plain words for OldslabAll: all slots are taken one after the other; given back in any order, each once. -/
import Derived.Test.YtknieebmcpgppaaDoorOldX
set_option linter.unusedSimpArgs false
namespace Go.Proofs.YtknieebmcpgppaaDoor.Old
open Go.RowKit Go.Proofs.YtknieebmcpgppaaDoor.Aid Go.Proofs.YtknieebmcpgppaaDoor.Bit
def fillL (n i : Nat) : List Bool := List.replicate i true ++ List.replicate (n - i) false
theorem fill_len {n i : Nat} (h : i ≤ n) : (fillL n i).length = n := by unfold fillL; simp; omega
theorem fill_get {n i j : Nat} (_hj : j < n) (_hi : i ≤ n) : (fillL n i).getD j false = decide (j < i) := by
  unfold fillL
  rw [List.getD_eq_getElem?_getD, List.getElem?_append]
  simp only [List.length_replicate]
  by_cases h : j < i
  · simp [h]
  · simp only [h, if_false]
    rw [List.getElem?_replicate]
    split <;> simp
theorem fill_first {n i : Nat} (h : i < n) : first (fillL n i) 0 false = (i : Int) :=
  (first_eq (.inr ⟨i, rfl, by omega, by rw [fill_len (by omega)]; exact h, by rw [fill_get h (by omega)]; simp, fun j _ hj => by rw [fill_get (by omega) (by omega)]; simp [hj]⟩)).symm
theorem fill_end (n : Nat) : first (fillL n n) 0 false = -1 :=
  (first_eq (.inl ⟨rfl, fun j _ hj => by rw [fill_len (Nat.le_refl n)] at hj; rw [fill_get hj (Nat.le_refl n)]; simp [hj]⟩)).symm
theorem fill_set {n i : Nat} (h : i < n) : setL (fillL n i) (i : Int) true = fillL n (i + 1) := by
  have hl : i < (fillL n i).length := by rw [fill_len (by omega)]; exact h
  have hs : setL (fillL n i) (i : Int) true = (fillL n i).set i true := by unfold setL; rw [inR_nat _ _ hl]; rfl
  rw [hs]
  refine list_ext _ _ (by rw [List.length_set, fill_len (by omega), fill_len (by omega)]) fun j hj => ?_
  rw [List.length_set, fill_len (by omega)] at hj
  rw [fill_get hj (by omega)]
  by_cases e : i = j
  · subst e
    simp [List.getD_eq_getElem?_getD, hl]
  · have h2 := fill_get (i := i) hj (by omega)
    rw [List.getD_eq_getElem?_getD] at h2
    rw [List.getD_eq_getElem?_getD, List.getElem?_set_ne e, h2]
    rw [Bool.eq_iff_iff, decide_eq_true_eq, decide_eq_true_eq]
    omega
/-- A slab of which so many slots are taken. -/
def fx (x : Sb) (i : Nat) : Sb := { x with l := fillL x.l.length i }
theorem fx_ok {x : Sb} (h : OkB x) {i : Nat} (hi : i ≤ x.l.length) : OkB (fx x i) := h.with (fill_len hi)
theorem fx_take {x : Sb} {i : Nat} (hi : i < x.l.length) : takeX (fx x i) = fx x (i + 1) ∧ takeA (fx x i) = ((x.b + i * x.z : Nat) : Int) ∧ takeE (fx x i) = 0 := by
  have hf : first (fx x i).l 0 false = (i : Int) := fill_first hi
  refine ⟨?_, ?_, ?_⟩
  · unfold takeX
    rw [hf]
    show ({ x with l := setL (fillL x.l.length i) (i : Int) true } : Sb) = { x with l := fillL x.l.length (i + 1) }
    rw [fill_set hi]
  · unfold takeA
    rw [hf, if_neg (by omega)]
    show (x.b : Int) + (i : Int) * (x.z : Int) = _
    push_cast
    rfl
  · unfold takeE
    rw [hf, if_neg (by omega)]
theorem fx_full {x : Sb} : takeX (fx x x.l.length) = fx x x.l.length ∧ takeA (fx x x.l.length) = -1 ∧ takeE (fx x x.l.length) = 18 := by
  have hf : first (fx x x.l.length).l 0 false = -1 := fill_end _
  refine ⟨?_, by unfold takeA; rw [hf, if_pos rfl], by unfold takeE; rw [hf, if_pos rfl]⟩
  unfold takeX
  rw [hf, show setL (fx x x.l.length).l (-1) true = (fx x x.l.length).l by unfold setL; rw [inR_no _ _ (.inl (by omega))]; rfl]
theorem fx_slot {x : Sb} (h : OkB x) {i j : Nat} (hi : i < x.l.length) (hj : j ≤ x.l.length) : slotO (fx x j) ((x.b + i * x.z : Nat) : Int) = some i :=
  slotO_at (fx_ok h hj) (show i < (fx x j).l.length by rw [show (fx x j).l.length = x.l.length from fill_len hj]; exact hi) rfl
theorem fill_cntTo {n i : Nat} (hi : i ≤ n) : ∀ m, m ≤ n → cntTo (fillL n i) m = min m i
  | 0, _ => by simp [cntTo, cnt]
  | m + 1, hm => by
    rw [cntTo_succ, fill_cntTo hi m (by omega), fill_get (by omega) hi]
    by_cases h : m < i
    · rw [if_pos (by simpa using h)]; omega
    · rw [if_neg (by simpa using h)]; omega
theorem fill_cnt {n i : Nat} (hi : i ≤ n) : cntL (fillL n i) = i := by
  unfold cntL
  rw [fill_len hi, fill_cntTo hi n (Nat.le_refl n)]
  omega
/-- The addresses of the first slots. -/
def addrs (x : Sb) (i : Nat) : List Int := (List.range i).map fun j => ((x.b + j * x.z : Nat) : Int)
theorem addrs_len (x : Sb) (i : Nat) : (addrs x i).length = i := by simp [addrs]
theorem addrs_succ (x : Sb) (i : Nat) : addrs x (i + 1) = addrs x i ++ [((x.b + i * x.z : Nat) : Int)] := by simp [addrs, List.range_succ]
theorem addr_inj {x : Sb} (h : OkB x) {i j : Nat} (e : x.b + i * x.z = x.b + j * x.z) : i = j := by
  have := h.z1
  exact Nat.eq_of_mul_eq_mul_right (show 0 < x.z by omega) (by omega)
theorem addrs_mem {x : Sb} {v : Int} {i : Nat} (h : v ∈ addrs x i) : ∃ j, j < i ∧ v = ((x.b + j * x.z : Nat) : Int) := by
  obtain ⟨j, hj, e⟩ := List.mem_map.1 h
  exact ⟨j, by simpa using hj, e.symm⟩
theorem addrs_nodup {x : Sb} (h : OkB x) (i : Nat) : (addrs x i).Nodup := by
  unfold addrs
  refine List.Pairwise.map _ (fun a b hab => ?_) List.nodup_range
  intro e
  exact hab (addr_inj h (by omega))
/-- Just these addresses' slots are taken. -/
structure OnIs (y : Sb) (S : List Int) : Prop where
  ok : OkB y
  get : ∀ j, j < y.l.length → y.l.getD j false = decide (((y.b + j * y.z : Nat) : Int) ∈ S)
theorem on_full {x : Sb} (h : OkB x) {S : List Int} (hS : ∀ v, v ∈ addrs x x.l.length → v ∈ S) : OnIs (fx x x.l.length) S := by
  refine ⟨fx_ok h (Nat.le_refl _), fun j hj => ?_⟩
  have hl : (fx x x.l.length).l.length = x.l.length := fill_len (Nat.le_refl _)
  rw [hl] at hj
  show (fillL x.l.length x.l.length).getD j false = _
  rw [fill_get hj (Nat.le_refl _), Bool.eq_iff_iff, decide_eq_true_eq, decide_eq_true_eq]
  exact ⟨fun _ => hS _ (List.mem_map.2 ⟨j, by simpa using hj, rfl⟩), fun _ => hj⟩
theorem on_give {y : Sb} {v : Int} {S : List Int} (h : OnIs y (v :: S)) {j : Nat} (hj : j < y.l.length) (hv : v = ((y.b + j * y.z : Nat) : Int)) (hn : v ∉ S) :
    giveE y y.l v = 0 ∧ OnIs { y with l := giveL y y.l v } S ∧ giveE { y with l := giveL y y.l v } (giveL y y.l v) v = 19 ∧ giveL { y with l := giveL y y.l v } (giveL y y.l v) v = giveL y y.l v := by
  have hs : slotO y v = some j := slotO_at h.ok hj hv.symm
  have hb : y.l.getD j false = true := by rw [h.get j hj, ← hv]; simp
  have hset : setL y.l (j : Int) false = y.l.set j false := by unfold setL; rw [inR_nat _ _ hj]; rfl
  have hL : giveL y y.l v = y.l.set j false := by unfold giveL; rw [hs]; exact hset
  have hlen : (y.l.set j false).length = y.l.length := List.length_set ..
  have hok : OkB { y with l := y.l.set j false } := h.ok.with hlen
  have hs2 : slotO { y with l := y.l.set j false } v = some j := slotO_at hok (show j < (y.l.set j false).length by omega) hv.symm
  have hb2 : (y.l.set j false).getD j false = false := by simp [List.getD_eq_getElem?_getD, hj]
  have hj2 : j < (y.l.set j false).length := by omega
  refine ⟨?_, ?_, ?_, ?_⟩
  · unfold giveE
    rw [hs]
    show (if setB y.l (j : Int) false = true then (0 : Int) else 19) = 0
    rw [if_pos]
    unfold setB
    rw [inR_nat _ _ hj, Int.toNat_natCast, hb]
    rfl
  · rw [hL]
    refine ⟨hok, fun i hi => ?_⟩
    have hi2 : i < y.l.length := by
      have : i < (y.l.set j false).length := hi
      omega
    show (y.l.set j false).getD i false = decide (((y.b + i * y.z : Nat) : Int) ∈ S)
    by_cases e : i = j
    · subst e
      rw [hb2, ← hv]
      exact (decide_eq_false hn).symm
    · have h1 := h.get i hi2
      rw [List.getD_eq_getElem?_getD] at h1
      rw [List.getD_eq_getElem?_getD, List.getElem?_set_ne (fun e2 => e e2.symm), h1, Bool.eq_iff_iff, decide_eq_true_eq, decide_eq_true_eq]
      constructor
      · intro hm
        rcases List.mem_cons.1 hm with e3 | e3
        · exact absurd (addr_inj h.ok (by rw [hv] at e3; omega)) e
        · exact e3
      · exact fun hm => List.mem_cons_of_mem _ hm
  · rw [hL]
    unfold giveE
    rw [hs2]
    show (if setB (y.l.set j false) (j : Int) false = true then (0 : Int) else 19) = 19
    rw [if_neg]
    unfold setB
    rw [inR_nat _ _ hj2, Int.toNat_natCast, hb2]
    decide
  · rw [hL]
    unfold giveL
    rw [hs2]
    show setL (y.l.set j false) (j : Int) false = _
    unfold setL
    rw [inR_nat _ _ hj2]
    show (if true = true then (y.l.set j false).set (j : Int).toNat false else _) = _
    rw [if_pos rfl, Int.toNat_natCast, set_same _ _ _ hj2 hb2]
theorem on_nil {y : Sb} (h : OnIs y []) : cntL y.l = 0 ∧ keyV y.l = #[.int .u64 0, .int .u64 0, .int .u64 0, .int .u64 0] := by
  have hl : y.l = List.replicate y.l.length false := list_ext _ _ (by simp) fun j hj => by
    rw [h.get j hj]
    simp [List.getD_eq_getElem?_getD, List.getElem?_replicate, hj]
  have h0 : fillL y.l.length 0 = List.replicate y.l.length false := by simp [fillL]
  have hm := h.ok.many.1
  refine ⟨by rw [hl, ← h0]; exact fill_cnt (Nat.zero_le _), ?_⟩
  rw [key_small hm, hl, word_clear]
end Go.Proofs.YtknieebmcpgppaaDoor.Old
