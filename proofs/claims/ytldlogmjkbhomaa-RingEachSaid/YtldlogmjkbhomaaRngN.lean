/- The contracts of slices.Repeat at one record, and of package ring's New. -/
import Derived.Test.YtldlogmjkbhomaaRngE
import Derived.Test.YtldlogmjkbhomaaAidI64
import Derived.Laws.CopyRow
import Derived.Laws.CopyOwn
namespace Go.Proofs.Ytldlogmjkbhomaa.Rng
open Go.RowKit Go.Proofs.Ytldlogmjkbhomaa.Aid
theorem rep_len (r : R3) (k : Nat) : ((List.replicate k r).flatMap enc3).length = k * 3 := by
  rw [flat_len enc3_len, List.length_replicate]
theorem rep_add (r : R3) (k m : Nat) : (List.replicate (k + m) r).flatMap enc3 = (List.replicate k r).flatMap enc3 ++ (List.replicate m r).flatMap enc3 := by
  rw [← List.replicate_append_replicate, List.flatMap_append]
theorem rep_one (r : R3) (k : Nat) : ∀ v ∈ (List.replicate k r).flatMap enc3, v.oneCell' = true := fun v hv => by
  obtain ⟨x, _, hx⟩ := List.mem_flatMap.1 hv
  exact enc3_one x v hx
/-- copy of records of three cells into a row, as a run. -/
theorem run_copy_rec {P : Program} (w : World) (dT sT ty elem : TypeId) (g o dLen dCap : Nat) (a : Addr) (sLen sCap : Nat) (cur : Array Value) (t : TypeId) (cs : List Value)
    (hu : P.underlying dT = some (.slice elem)) (hs : (P.info? elem).map (·.size) = some 3)
    (hg : w.heap[g]? = some (.cells cur t (0, 0))) (hn : cs.length = Nat.min sLen dLen * 3)
    (hsrc : ∀ j v, cs[j]? = some v → w.cell? (a.add j) = some v) (hfit : o + cs.length ≤ cur.size) (h1 : ∀ v ∈ cs, v.oneCell' = true) :
    (Builtin.copy_ #[dT, sT] ty #[.slice (some ⟨g, o, none⟩) dLen dCap, .slice (some a) sLen sCap]).run P w =
      .ok (goInt (Nat.min sLen dLen)) (w.setRow g (cur.toList.take o ++ cs ++ cur.toList.drop (o + cs.length)).toArray) := by
  have hl := run_loadCells_list (P := P) w a cs hsrc
  have hst := run_storeCells_at P g o t cs 0 cur w hg (by simpa using hfit) h1
  cases hq : P.info? elem with
  | none => simp [hq] at hs
  | some i =>
    have hi : i.size = 3 := by simpa [hq] using hs
    simp [Builtin.copy_, run_underlying hu, Builtin.lenOf, Builtin.firstCells, sizeOf, typeInfo, hq, hi, ← hn, hl, hst]
/-- One more stretch of a row of one record over and over. -/
theorem rep_copy {P : Program} {W : World} {e : TypeId} {g n k m : Nat} {r : R3} (h : Recs enc3 3 W e g n (List.replicate k r)) (dT sT ty elem : TypeId) (hu : P.underlying dT = some (.slice elem)) (hs : (P.info? elem).map (·.size) = some 3)
    (a : Addr) (dLen dCap sLen sCap : Nat) (hm : m = Nat.min sLen dLen) (hkm : k + m ≤ n) (hsrc : ∀ j v, ((List.replicate m r).flatMap enc3)[j]? = some v → W.cell? (a.add j) = some v) :
    ∃ w', (Builtin.copy_ #[dT, sT] ty #[.slice (some ⟨g, k * 3, none⟩) dLen dCap, .slice (some a) sLen sCap]).run P W = .ok (goInt m) w' ∧ Recs enc3 3 w' e g n (List.replicate (k + m) r) ∧ Kept [g] W w' := by
  obtain ⟨cur, hb, hsz, htk⟩ := h.blk
  have hcl := rep_len r m
  have hrun := run_copy_rec (P := P) W dT sT ty elem g (k * 3) dLen dCap a sLen sCap cur e _ hu hs hb (by rw [hcl, hm]) hsrc (by rw [hcl, hsz, ← Nat.add_mul]; exact Nat.mul_le_mul_right _ hkm) (rep_one r m)
  rw [← hm] at hrun
  have hle : k * 3 + m * 3 ≤ cur.size := by rw [hsz, ← Nat.add_mul]; exact Nat.mul_le_mul_right _ hkm
  have hnl : (cur.toList.take (k * 3) ++ (List.replicate m r).flatMap enc3 ++ cur.toList.drop (k * 3 + ((List.replicate m r).flatMap enc3).length)).length = n * 3 := by
    rw [hcl, List.length_append, List.length_append, List.length_take, rep_len, List.length_drop, Array.length_toList]
    omega
  rw [List.length_replicate] at htk
  refine ⟨_, hrun, ⟨⟨_, setRow_heap W g cur _ e _ hb, by rw [List.size_toArray, hnl], ?_⟩, by rw [List.length_replicate]; exact hkm, h.max⟩, ?_⟩
  · rw [List.length_replicate, htk, rep_add]
    have : ((k + m) * 3) = ((List.replicate k r).flatMap enc3 ++ (List.replicate m r).flatMap enc3).length := by
      rw [List.length_append, rep_len, rep_len, Nat.add_mul]
    rw [this, List.take_left']
    rfl
  · exact ⟨rfl, rfl, rfl, by simp [World.setRow], fun i _ hF => setRow_other W g i _ (by simpa using hF)⟩
theorem and32 {n : Nat} (h : n ≤ 4096) : Go.bits .and .u64 (n : Int) 4294967295 = n := by
  refine R_inj (R_bits _ _ _) (by unfold R; omega) ?_
  rw [B_and, B_nat, show (4294967295 : Int) = ((4294967295 : Nat) : Int) from rfl, B_nat, ← BitVec.ofNat_and, show (4294967295 : Nat) = 2 ^ 32 - 1 from rfl, Nat.and_two_pow_sub_one_eq_mod, Nat.mod_eq_of_lt (by omega)]
/-- math/bits.Mul64 and Mul at one. -/
theorem mul64_one (w : World) (n : Nat) (h : n ≤ 4096) : Calls Try.prog 111 #[.int .u64 1, .int .u64 n] w fun e w' => e = .returned (.tuple #[.int .u64 0, .int .u64 n]) ∧ w = w' := by
  have a1 : Go.bits .and .u64 (1 : Int) 4294967295 = 1 := by decide +kernel
  have a2 : Go.bits .and .u64 (n : Int) 4294967295 = n := and32 h
  have a3 : (n : Int) / 4294967296 = 0 := by omega
  have a4 : Go.bits .and .u64 (0 : Int) 4294967295 = 0 := by decide +kernel
  go_enter Try.func111, Try.ntmps111
  go_wp2
  go_ret2
  exact ⟨rfl, rfl⟩
theorem mul_one (w : World) (n : Nat) (h : n ≤ 4096) : Calls Try.prog 96 #[.int .u64 1, .int .u64 n] w fun e w' => e = .returned (.tuple #[.int .u64 0, .int .u64 n]) ∧ w = w' := by
  have HM := Lib.hid (mul64_one w n h)
  go_enter Try.func96, Try.ntmps96
  go_wp2_with fail
  refine HM.out.mono ?_
  rintro e w1 ⟨rfl, rfl⟩
  go_wp2_with fail
  go_ret2
  exact ⟨rfl, rfl⟩
theorem undrewB {B : Nat} {a w : World} (h : Below B a.drew w) : Below B a w := ⟨h.os, h.tape, h.output, h.size, h.block⟩
section
variable {P : Program} {ops : Array Oper} {o : Oper} {a : Act} {w : World} {Q : Exit → Act → World → Prop}
theorem wpl_copy {rest : List Oper} (hgd : o.guard = none) (d s : Operand) (t t' : TypeId) (ho : o.op = .call { callee := .builtin .copy, args := #[d, s], argTypes := #[t, t'] }) (v u : Value) (hd : a.eval d = v) (hs : a.eval s = u)
    {v' : Value} {w' : World} (hr : (Builtin.copy_ #[t, t'] o.type #[v, u]).run P w = .ok v' w') (h : wpList P ops Q rest (a.put o.dst v') w') : wpList P ops Q (o :: rest) a w := by
  refine wpList_plain hgd fun K hK => ?_
  unfold Oper.wp
  simp [execOp, ho, resolve, invoke, builtin, hd, hs, hr, Result.andThen]
  exact hK _ _ h
theorem stp_copy {K : Act → World → Prop} {E : Prop} (hgd : o.guard = none) (d s : Operand) (t t' : TypeId) (ho : o.op = .call { callee := .builtin .copy, args := #[d, s], argTypes := #[t, t'] }) (v u : Value) (hd : a.eval d = v) (hs : a.eval s = u)
    {v' : Value} {w' : World} (hr : (Builtin.copy_ #[t, t'] o.type #[v, u]).run P w = .ok v' w') (hK : K (a.put o.dst v') w') : if Region.wanted o (yielded ops a.tmps) = true then Oper.wp P o a w K Q else E := by
  have hw : Region.wanted o (yielded ops a.tmps) = true := by simp [Region.wanted, hgd]
  rw [if_pos hw]
  unfold Oper.wp
  simp [execOp, ho, resolve, invoke, builtin, hd, hs, hr, Result.andThen]
  exact hK
theorem make_recs {rest : List Oper} (hg : o.guard = none) (l c : Operand) (t : TypeId) (hop : o.op = Op.makeSlice t l c) (e : TypeId) (h1 : P.underlying t = some (.slice e)) (z : Value) (bytes : Nat) (hinfo : (P.info? e).map (fun i => (i.zero, i.size, i.bytes)) = some (some z, 3, bytes))
    (kl kc : IntKind) (n : Nat) (hl : a.eval l = .int kl (n : Int)) (hc : a.eval c = .int kc (n : Int)) (hn : n ≤ 10000000) (hb : bytes ≤ 1000)
    (hK : ∀ w', Recs enc3 3 w' e w.heap.size n [] → Below w.heap.size w w' → wpList P ops Q rest (a.put o.dst (.slice (some ⟨w.heap.size, 0, none⟩) n n)) w') :
    wpList P ops Q (o :: rest) a w := by
  obtain ⟨i0, hi, hz0, hz1, hz2⟩ := info_parts hinfo
  refine wpList_make_full w hg l c t hop 0 e i0 z 3 h1 hi hz0 hz1 kl kc _ _ n hl hc rfl rfl (by rw [hz2]; have := Nat.mul_le_mul hb hn; omega) (by unfold maxLen; omega) (Nat.zero_le _) ?_
  intro w' ho hgr
  refine hK w' ?_ ((Below.refl _ _).grown hgr (Nat.le_refl _) (fun k hk => by cases hk))
  obtain ⟨_, h2⟩ := ho
  rcases h2 with ⟨h2, _⟩ | ⟨g', cap, cur, hv, _, hh, hn, hm, hs, _⟩
  · cases h2
  · cases hv
    exact ⟨⟨cur, hh, by simpa using hs, by simp⟩, by simp, hm⟩
end
theorem sum_wrap {a b : Nat} (h : a + b ≤ 4096) : IntKind.i64.wrap ((a : Int) + (b : Int)) = ((a + b : Nat) : Int) := by
  rw [i64_wrap]; unfold wrap64; omega
theorem info_link : (Try.prog.info? KT).map (fun i => (i.zero, i.size, i.bytes)) = some (some (.agg #[.int .i64 0, .int .i64 0, .int .i64 0]), 3, 24) := by kernel_rfl
theorem size_link : (Try.prog.info? KT).map (·.size) = some 3 := by kernel_rfl
set_option maxRecDepth 20000 in
set_option maxHeartbeats 2000000 in
theorem repeat_link (w : World) (b n : Nat) (r : R3) (hn : n ≤ 4096) (hb : Blk w b (enc3 r).toArray KT) :
    Calls Try.prog 70 #[.slice (some ⟨b, 0, none⟩) 1 1, .int .i64 n] w fun e w' => ∃ g, e = .returned (.slice (some ⟨g, 0, none⟩) n n) ∧ Recs enc3 3 w' KT g n (List.replicate n r) ∧ w.heap.size ≤ g ∧ Below w.heap.size w w' := by
  have HM := Lib.hid (mul_one w n hn)
  have HB := Lib.hid hb
  clear hb
  go_enter Try.func70, Try.ntmps70
  go_wp2_with fail
  refine HM.out.mono ?_
  rintro e w1 ⟨rfl, rfl⟩
  go_upto_region 7 with (at_make; refine make_recs rfl _ _ 128 rfl KT Try.underlying128 (.agg #[.int .i64 0, .int .i64 0, .int .i64 0]) 24 info_link _ _ n rfl rfl (by omega) (by decide) ?_; intro w1 hr1 hb1)
  have hsrc : ∀ m : Nat, m = Nat.min 1 n → ∀ j v, ((List.replicate m r).flatMap enc3)[j]? = some v → w1.cell? ((⟨b, 0, none⟩ : Addr).add j) = some v := fun m hm j v hj => by
    have hm1 : m ≤ 1 := by rw [hm]; exact Nat.min_le_left _ _
    rw [Addr.add_mid, Nat.zero_add]
    refine ((HB.out.below hb1).cell ?_)
    rcases Nat.le_one_iff_eq_zero_or_eq_one.1 hm1 with rfl | rfl
    · simp at hj
    · simpa using hj
  obtain ⟨w2, hrun, hr2, hk2⟩ := rep_copy (P := Try.prog) (k := 0) (m := Nat.min 1 n) (r := r) (h := by simpa using hr1) 128 128 3 KT Try.underlying128 size_link ⟨b, 0, none⟩ n n 1 1 rfl (by rw [Nat.zero_add]; exact Nat.min_le_right _ _) (hsrc _ rfl)
  rw [Nat.zero_mul] at hrun
  rw [Nat.zero_add] at hr2
  have hb2 : Below w.heap.size w w2 := hb1.trans (hk2.below hb1.size (by simp))
  have HX := Lib.hid (And.intro hr2 hb2)
  have HG := Lib.hid (Nat.le_refl w.heap.size)
  clear hr1 hb1 hsrc hr2 hk2 hb2
  go_wp2_with fail
  clear hrun
  obtain ⟨g, hg⟩ : ∃ g, g = w.heap.size := ⟨_, rfl⟩
  have HGe := Lib.hid hg
  rw [← hg] at HX ⊢
  clear hg
  go_loopw [8] (fun u wr => ∃ k : Nat, u = .int .i64 k ∧ k ≤ n ∧ (0 < n → 0 < k) ∧ Recs enc3 3 wr KT g n (List.replicate k r) ∧ Below g w wr) (fun u _ => n - (intOf u).toNat)
  case atStart => exact ⟨Nat.min 1 n, rfl, Nat.min_le_right _ _, fun h => by show 0 < min 1 n; omega, HX.out.1, HX.out.2⟩
  case round =>
    obtain ⟨k, rfl, hk, hkp, hR, hb⟩ := hrel
    have HR := Lib.hid hR
    have HBk := Lib.hid hb
    clear HX
    by_cases hlt : k < n
    · have hk0 : (0 : Int) ≤ (k : Int) := by omega
      have hk1 : (k : Int) < (n : Int) := by omega
      have hkk := hkp (by omega)
      have hsz : g < wr.heap.size := hR.lt
      obtain ⟨w3, hrun, hr3, hk3⟩ := rep_copy (P := Try.prog) (W := wr.drew) (k := k) (m := Nat.min k (n - k)) (r := r) hR.drew 128 128 3 KT Try.underlying128 size_link ⟨g, 0, none⟩ (n - k) (n - k) k n rfl (by have := (show Nat.min k (n - k) ≤ n - k from Nat.min_le_right _ _); omega) (fun j v hj => by
        have hmk : Nat.min k (n - k) ≤ k := Nat.min_le_left _ _
        rw [Addr.add_mid, Nat.zero_add]
        obtain ⟨cur, k1, k2, k3⟩ := hR.blk
        have hj2 : ((List.replicate k r).flatMap enc3)[j]? = some v := by
          rw [show k = Nat.min k (n - k) + (k - Nat.min k (n - k)) by omega, rep_add, List.getElem?_append_left (by exact (List.getElem?_eq_some_iff.1 hj).1)]
          exact hj
        rw [← k3, List.getElem?_take] at hj2
        split at hj2
        · exact k1.cell (by simpa using hj2)
        · cases hj2)
      have HW3 := Lib.hid (And.intro hr3 (show Below g w w3 from HBk.out.trans (undrewB (hk3.below (B := g) (by simp; exact Nat.le_of_lt hsz) (by simp)))))
      clear hR hb hr3 hk3
      go_upto_region 9 with fail
      obtain ⟨m, hm⟩ : ∃ m, m = Nat.min k (n - k) := ⟨_, rfl⟩
      rw [← hm] at hrun HW3
      have hm1 : m ≤ n - k := hm ▸ Nat.min_le_right _ _
      have hm2 : 0 < m := by rw [hm]; exact Nat.lt_min.2 ⟨hkk, by omega⟩
      have hsum := sum_wrap (a := k) (b := m) (by omega)
      clear hm
      go_region_with fail
      all_goals (simp [go_sem])
      all_goals go_roundw
      case rel => exact ⟨_, _, _, _, _, _, _, _, _, _, _, _, _, _, ⟨k + m, by go_num, by omega, fun _ => by omega, HW3.out⟩, rfl⟩
      case measure => simp [intOf]; omega
    · obtain rfl : k = n := by omega
      go_wp2_with fail
      go_ret
      exact ⟨g, rfl, HR.out, by rw [HGe.out]; exact Nat.le_refl _, by rw [← HGe.out]; exact HBk.out⟩
-- ENDS
theorem info_ends : (Try.prog.info? NT).map (fun i => (i.zero, i.size, i.bytes)) = some (some (.agg #[.int .i64 0, .int .i64 0, .int .i64 0]), 3, 24) := by kernel_rfl
theorem size_ends : (Try.prog.info? NT).map (·.size) = some 3 := by kernel_rfl
set_option maxRecDepth 20000 in
set_option maxHeartbeats 2000000 in
theorem repeat_ends (w : World) (b n : Nat) (r : R3) (hn : n ≤ 4096) (hb : Blk w b (enc3 r).toArray NT) :
    Calls Try.prog 71 #[.slice (some ⟨b, 0, none⟩) 1 1, .int .i64 n] w fun e w' => ∃ g, e = .returned (.slice (some ⟨g, 0, none⟩) n n) ∧ Recs enc3 3 w' NT g n (List.replicate n r) ∧ w.heap.size ≤ g ∧ Below w.heap.size w w' := by
  have HM := Lib.hid (mul_one w n hn)
  have HB := Lib.hid hb
  clear hb
  go_enter Try.func71, Try.ntmps71
  go_wp2_with fail
  refine HM.out.mono ?_
  rintro e w1 ⟨rfl, rfl⟩
  go_upto_region 7 with (at_make; refine make_recs rfl _ _ 132 rfl NT Try.underlying132 (.agg #[.int .i64 0, .int .i64 0, .int .i64 0]) 24 info_ends _ _ n rfl rfl (by omega) (by decide) ?_; intro w1 hr1 hb1)
  have hsrc : ∀ m : Nat, m = Nat.min 1 n → ∀ j v, ((List.replicate m r).flatMap enc3)[j]? = some v → w1.cell? ((⟨b, 0, none⟩ : Addr).add j) = some v := fun m hm j v hj => by
    have hm1 : m ≤ 1 := by rw [hm]; exact Nat.min_le_left _ _
    rw [Addr.add_mid, Nat.zero_add]
    refine ((HB.out.below hb1).cell ?_)
    rcases Nat.le_one_iff_eq_zero_or_eq_one.1 hm1 with rfl | rfl
    · simp at hj
    · simpa using hj
  obtain ⟨w2, hrun, hr2, hk2⟩ := rep_copy (P := Try.prog) (k := 0) (m := Nat.min 1 n) (r := r) (h := by simpa using hr1) 132 132 3 NT Try.underlying132 size_ends ⟨b, 0, none⟩ n n 1 1 rfl (by rw [Nat.zero_add]; exact Nat.min_le_right _ _) (hsrc _ rfl)
  rw [Nat.zero_mul] at hrun
  rw [Nat.zero_add] at hr2
  have hb2 : Below w.heap.size w w2 := hb1.trans (hk2.below hb1.size (by simp))
  have HX := Lib.hid (And.intro hr2 hb2)
  have HG := Lib.hid (Nat.le_refl w.heap.size)
  clear hr1 hb1 hsrc hr2 hk2 hb2
  go_wp2_with fail
  clear hrun
  obtain ⟨g, hg⟩ : ∃ g, g = w.heap.size := ⟨_, rfl⟩
  have HGe := Lib.hid hg
  rw [← hg] at HX ⊢
  clear hg
  go_loopw [8] (fun u wr => ∃ k : Nat, u = .int .i64 k ∧ k ≤ n ∧ (0 < n → 0 < k) ∧ Recs enc3 3 wr NT g n (List.replicate k r) ∧ Below g w wr) (fun u _ => n - (intOf u).toNat)
  case atStart => exact ⟨Nat.min 1 n, rfl, Nat.min_le_right _ _, fun h => by show 0 < min 1 n; omega, HX.out.1, HX.out.2⟩
  case round =>
    obtain ⟨k, rfl, hk, hkp, hR, hb⟩ := hrel
    have HR := Lib.hid hR
    have HBk := Lib.hid hb
    clear HX
    by_cases hlt : k < n
    · have hk0 : (0 : Int) ≤ (k : Int) := by omega
      have hk1 : (k : Int) < (n : Int) := by omega
      have hkk := hkp (by omega)
      have hsz : g < wr.heap.size := hR.lt
      obtain ⟨w3, hrun, hr3, hk3⟩ := rep_copy (P := Try.prog) (W := wr.drew) (k := k) (m := Nat.min k (n - k)) (r := r) hR.drew 132 132 3 NT Try.underlying132 size_ends ⟨g, 0, none⟩ (n - k) (n - k) k n rfl (by have := (show Nat.min k (n - k) ≤ n - k from Nat.min_le_right _ _); omega) (fun j v hj => by
        have hmk : Nat.min k (n - k) ≤ k := Nat.min_le_left _ _
        rw [Addr.add_mid, Nat.zero_add]
        obtain ⟨cur, k1, k2, k3⟩ := hR.blk
        have hj2 : ((List.replicate k r).flatMap enc3)[j]? = some v := by
          rw [show k = Nat.min k (n - k) + (k - Nat.min k (n - k)) by omega, rep_add, List.getElem?_append_left (by exact (List.getElem?_eq_some_iff.1 hj).1)]
          exact hj
        rw [← k3, List.getElem?_take] at hj2
        split at hj2
        · exact k1.cell (by simpa using hj2)
        · cases hj2)
      have HW3 := Lib.hid (And.intro hr3 (show Below g w w3 from HBk.out.trans (undrewB (hk3.below (B := g) (by simp; exact Nat.le_of_lt hsz) (by simp)))))
      clear hR hb hr3 hk3
      go_upto_region 9 with fail
      obtain ⟨m, hm⟩ : ∃ m, m = Nat.min k (n - k) := ⟨_, rfl⟩
      rw [← hm] at hrun HW3
      have hm1 : m ≤ n - k := hm ▸ Nat.min_le_right _ _
      have hm2 : 0 < m := by rw [hm]; exact Nat.lt_min.2 ⟨hkk, by omega⟩
      have hsum := sum_wrap (a := k) (b := m) (by omega)
      clear hm
      go_region_with fail
      all_goals (simp [go_sem])
      all_goals go_roundw
      case rel => exact ⟨_, _, _, _, _, _, _, _, _, _, _, _, _, _, ⟨k + m, by go_num, by omega, fun _ => by omega, HW3.out⟩, rfl⟩
      case measure => simp [intOf]; omega
    · obtain rfl : k = n := by omega
      go_wp2_with fail
      go_ret
      exact ⟨g, rfl, HR.out, by rw [HGe.out]; exact Nat.le_refl _, by rw [← HGe.out]; exact HBk.out⟩
end Go.Proofs.Ytldlogmjkbhomaa.Rng
