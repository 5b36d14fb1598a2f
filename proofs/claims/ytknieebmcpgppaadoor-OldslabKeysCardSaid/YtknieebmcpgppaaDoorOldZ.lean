/- OldslabKeys: the walk. -/
import Derived.Test.YtknieebmcpgppaaDoorOldQ
import Derived.Test.YtknieebmcpgppaaDoorOldO
set_option linter.unusedSimpArgs false
namespace Go.Proofs.YtknieebmcpgppaaDoor.Old
open Go.RowKit Go.Proofs.YtknieebmcpgppaaDoor.Aid Go.Proofs.YtknieebmcpgppaaDoor.Bit
theorem Hd.kept {w0 w w' : World} {p : Nat} {F G : List Nat} {x : Sb} (h : Hd w0 w p F x) (k : Kept G w w') (hd : ∀ y ∈ F, y ∉ G) (hb : ∀ y ∈ G, w0.heap.size ≤ y) : Hd w0 w' p F x := by
  have h0 : 0 ∉ G := fun hx => by
    have h1 := hb 0 hx
    have h2 := h.pos
    omega
  exact ⟨h.sl.kept k hd, h.base, h.below.trans (k.below h.below.size hb), h.pos, h.tab.kept k h0⟩
theorem cnt_new (b c : Nat) : cntL (newX b c).l = 0 := by
  have h : (newX b c).l = List.replicate (1024 / (Tab.sizeV c).toNat) false := rfl
  rw [h]
  generalize 1024 / (Tab.sizeV c).toNat = n
  have key : ∀ m, cntTo (List.replicate n false) m = 0 := fun m => by
    induction m with
    | zero => rfl
    | succ m ih =>
      rw [cntTo_succ, ih]
      have : (List.replicate n false).getD m false = false := by
        rw [List.getD_eq_getElem?_getD, List.getElem?_replicate]
        split <;> rfl
      rw [this]
      rfl
  exact key _
set_option maxHeartbeats 8000000 in
set_option maxRecDepth 100000 in
theorem keys_short (w : World) (c : Int) (A1 : Option Addr) (c1 : Nat) (va : List Int) (A2 : Option Addr) (c2 : Nat) (vb : List Int) (hT : Tab w) (h : 100 < va.length ∨ 100 < vb.length) :
    Calls Tryd.prog 9 #[.int .i64 c, .slice A1 va.length c1, .slice A2 vb.length c2] w fun e w' => e = .returned (.bool true) ∧ Below w.heap.size w w' := by
  have HT := Lib.hid hT
  clear hT
  by_cases h1 : (100 : Int) < (va.length : Int)
  · clear h
    go_enter Tryd.func9, Tryd.ntmps9
    go_wp2_with fail
    refine (alive_calls w HT.out).mono ?_
    rintro e w1 ⟨rfl, hb1⟩
    have H1 := Lib.hid hb1
    clear hb1
    go_wp2_with fail
    go_ret
    exact ⟨rfl, H1.out⟩
  · have h2 : (100 : Int) < (vb.length : Int) := by omega
    clear h
    go_enter Tryd.func9, Tryd.ntmps9
    go_wp2_with fail
    refine (alive_calls w HT.out).mono ?_
    rintro e w1 ⟨rfl, hb1⟩
    have H1 := Lib.hid hb1
    clear hb1
    go_wp2_with fail
    go_ret
    exact ⟨rfl, H1.out⟩
set_option maxHeartbeats 8000000 in
set_option maxRecDepth 100000 in
theorem keys_no (w : World) (c : Int) (A1 : Option Addr) (c1 : Nat) (va : List Int) (A2 : Option Addr) (c2 : Nat) (vb : List Int) (hT : Tab w) (ha : Nums w A1 c1 va) (hb : Nums w A2 c2 vb) (h1 : va.length ≤ 100) (h2 : vb.length ≤ 100) (hn : ¬ newOk 0 c) :
    Calls Tryd.prog 9 #[.int .i64 c, .slice A1 va.length c1, .slice A2 vb.length c2] w fun e w' => e = .returned (.bool true) ∧ Below w.heap.size w w' := by
  have HT := Lib.hid (And.intro hT (And.intro ha hb))
  have HW := Lib.hid (fun W A n k => with_no W 0 c (by decide) hn A n k)
  have h3 : ¬ (100 : Int) < (va.length : Int) := by omega
  have h4 : ¬ (100 : Int) < (vb.length : Int) := by omega
  clear hT ha hb hn
  go_enter Tryd.func9, Tryd.ntmps9
  go_wp2_with fail
  refine (alive_calls w HT.out.1).mono ?_
  rintro e w1 ⟨rfl, hb1⟩
  have H1 := Lib.hid hb1
  clear hb1
  go_wp2_with fail
  refine (copy_calls w1 A1 c1 va (HT.out.2.1.below H1.out).1 (HT.out.2.1.below H1.out).2 (by omega)).mono ?_
  rintro e w2 ⟨v, rfl, hown, hb⟩
  obtain ⟨A3, c3, rfl, _⟩ := hown.shape
  have H2 := Lib.hid (below_then H1.out hb)
  clear hown hb H1
  go_wp2_with fail
  refine (HW.out w2 A3 _ c3).mono ?_
  rintro e w3 ⟨rfl, hb⟩
  have H3 := Lib.hid (below_then H2.out hb)
  clear hb H2
  go_wp2_with fail
  refine (copy_calls w3 A2 c2 vb (HT.out.2.2.below H3.out).1 (HT.out.2.2.below H3.out).2 (by omega)).mono ?_
  rintro e w4 ⟨v, rfl, hown, hb⟩
  obtain ⟨A4, c4, rfl, _⟩ := hown.shape
  have H4 := Lib.hid (below_then H3.out hb)
  clear hown hb H3
  go_wp2_with fail
  refine (HW.out w4 A4 _ c4).mono ?_
  rintro e w5 ⟨rfl, hb⟩
  have H5 := Lib.hid (below_then H4.out hb)
  clear hb H4
  go_wp2_with fail
  go_ret
  exact ⟨rfl, H5.out⟩
set_option maxHeartbeats 16000000 in
set_option maxRecDepth 100000 in
theorem keys_yes (w : World) (c : Nat) (A1 : Option Addr) (c1 : Nat) (va : List Int) (A2 : Option Addr) (c2 : Nat) (vb : List Int) (hT : Tab w) (ha : Nums w A1 c1 va) (hb : Nums w A2 c2 vb) (h1 : va.length ≤ 100) (h2 : vb.length ≤ 100) (hn : newOk (0 : Nat) c) :
    Calls Tryd.prog 9 #[.int .i64 c, .slice A1 va.length c1, .slice A2 vb.length c2] w fun e w' => e = .returned (.bool true) ∧ Below w.heap.size w w' := by
  have HT := Lib.hid (And.intro hT (And.intro ha hb))
  have HW := Lib.hid (fun W hT A k vs hA hl => with_yes W 0 c hn hT A k vs hA hl)
  have h3 : ¬ (100 : Int) < (va.length : Int) := by omega
  have h4 : ¬ (100 : Int) < (vb.length : Int) := by omega
  have HOK := Lib.hid (newX_ok hn)
  have HA := Lib.hid (fun l (h : withO (newX 0 c).l va = some l) => And.intro (withO_len va h) (And.intro (with_cnt va h) (with_in va h)))
  have HB := Lib.hid (fun l (h : withO (newX 0 c).l vb = some l) => withO_len vb h)
  clear hT ha hb hn
  go_enter Tryd.func9, Tryd.ntmps9
  go_wp2_with fail
  refine (alive_calls w HT.out.1).mono ?_
  rintro e w1 ⟨rfl, hb1⟩
  have H1 := Lib.hid hb1
  clear hb1
  go_wp2_with fail
  refine (copy_calls w1 A1 c1 va (HT.out.2.1.below H1.out).1 (HT.out.2.1.below H1.out).2 (by omega)).mono ?_
  rintro e w2 ⟨v, rfl, hown, hb⟩
  obtain ⟨A3, c3, rfl, hi⟩ := hown.shape
  have H2 := Lib.hid (And.intro (below_then H1.out hb) hi)
  clear hown hb H1 hi
  go_wp2_with fail
  refine (HW.out w2 (HT.out.1.below H2.out.1) A3 c3 va H2.out.2 (by omega)).mono ?_
  rintro e w3 hW1
  have HE1 := Lib.hid (show ∃ pv er, e = .returned (.tuple #[pv, .int .i64 er]) ∧ Below w.heap.size w w3 ∧ ((pv = .pointer none ∧ er = 10) ∨ ∃ p F l, pv = .pointer (some ⟨p, 0, none⟩) ∧ er = 0 ∧ withO (newX 0 c).l va = some l ∧ Hd w w3 p F { newX 0 c with l := l }) from by
    cases ho : withO (newX 0 c).l va with
    | none =>
      rw [ho] at hW1
      obtain ⟨rfl, hb⟩ := hW1
      exact ⟨_, _, rfl, below_then H2.out.1 hb, .inl ⟨rfl, rfl⟩⟩
    | some l =>
      rw [ho] at hW1
      obtain ⟨p, F, rfl, hS, hF, hb⟩ := hW1
      exact ⟨_, _, rfl, below_then H2.out.1 hb, .inr ⟨p, F, l, rfl, rfl, rfl, ⟨hS, fun y hy => Nat.le_trans H2.out.1.size (hF y hy), below_then H2.out.1 hb, HT.out.1.1, (HT.out.1.below H2.out.1).below hb⟩⟩⟩)
  obtain ⟨pv, er, rfl, hb3, hc3⟩ := HE1.out
  have H3 := Lib.hid (And.intro hb3 hc3)
  clear hW1 hb3 hc3 H2 HE1
  go_wp2_with fail
  refine (copy_calls w3 A2 c2 vb (HT.out.2.2.below H3.out.1).1 (HT.out.2.2.below H3.out.1).2 (by omega)).mono ?_
  rintro e w4 ⟨v, rfl, hown, hb⟩
  obtain ⟨A4, c4, rfl, hi⟩ := hown.shape
  have H4 := Lib.hid (And.intro (below_then H3.out.1 hb) (And.intro hi hb))
  clear hown hb hi
  go_wp2_with fail
  refine (HW.out w4 (HT.out.1.below H4.out.1) A4 c4 vb H4.out.2.1 (by omega)).mono ?_
  rintro e w5 hW2
  have HE2 := Lib.hid (show ∃ pv er, e = .returned (.tuple #[pv, .int .i64 er]) ∧ Below w.heap.size w w5 ∧ Below w3.heap.size w3 w5 ∧ ((pv = .pointer none ∧ er = 10) ∨ ∃ p F l, pv = .pointer (some ⟨p, 0, none⟩) ∧ er = 0 ∧ withO (newX 0 c).l vb = some l ∧ Hd w w5 p F { newX 0 c with l := l }) from by
    cases ho : withO (newX 0 c).l vb with
    | none =>
      rw [ho] at hW2
      obtain ⟨rfl, hb⟩ := hW2
      exact ⟨_, _, rfl, below_then H4.out.1 hb, below_then H4.out.2.2 hb, .inl ⟨rfl, rfl⟩⟩
    | some l =>
      rw [ho] at hW2
      obtain ⟨p, F, rfl, hS, hF, hb⟩ := hW2
      exact ⟨_, _, rfl, below_then H4.out.1 hb, below_then H4.out.2.2 hb, .inr ⟨p, F, l, rfl, rfl, rfl, ⟨hS, fun y hy => Nat.le_trans H4.out.1.size (hF y hy), below_then H4.out.1 hb, HT.out.1.1, (HT.out.1.below H4.out.1).below hb⟩⟩⟩)
  obtain ⟨pv2, er2, rfl, hb5, hb35, hc5⟩ := HE2.out
  have H5 := Lib.hid (And.intro hb5 (And.intro hb35 hc5))
  clear hW2 hb5 hb35 hc5 H4 HE2
  rcases H3.out.2 with ⟨rfl, rfl⟩ | ⟨p, F, la, rfl, rfl, hla, hH⟩
  · rcases H5.out.2.2 with ⟨rfl, rfl⟩ | ⟨p2, F2, lb, rfl, rfl, _, _⟩
    · go_wp2_with fail
      go_ret
      exact ⟨rfl, H5.out.1⟩
    · go_wp2_with fail
      go_ret
      exact ⟨rfl, H5.out.1⟩
  · rcases H5.out.2.2 with ⟨rfl, rfl⟩ | ⟨p2, F2, lb, rfl, rfl, hlb, hH2⟩
    · go_wp2_with fail
      go_ret
      exact ⟨rfl, H5.out.1⟩
    · obtain ⟨hl1, hc1, hin⟩ := HA.out la hla
      have hl2 := HB.out lb hlb
      obtain ⟨hx1, hx2, hx3⟩ := HOK.out.many
      have H6 := Lib.hid (And.intro (hH.on H5.out.2.1) hH2)
      have HLA := Lib.hid (show (listL la).length = va.length from by
        rw [← cnt_list, hc1, cnt_new]
        omega)
      have HIN := Lib.hid hin
      clear hH hH2 hc1 hin hla hlb H3 H5 HA HB
      have HLL := Lib.hid (show (listL la == listL lb) = (la == lb) from listsB_eq la lb (by omega))
      have ek : ∀ W : World, (Op.equalIn 10000 KT (.agg (keyV la)) (.agg (keyV lb))).run Tryd.prog W = .ok (la == lb) W := fun W => by
        rw [← keysB_eq la lb (by omega) (by omega)]
        exact eq_key W _ _ _ _ _ _ _ _
      have hne : (((listL la).length : Int) != (va.length : Int)) = false := by rw [HLA.out]; simp
      have hlm : (listL la).length ≤ maxLen := by rw [HLA.out]; unfold maxLen; omega
      have HLM := Lib.hid hlm
      have K1 := Lib.hid (fun (W : World) (hb : Below w5.heap.size w5 W) => key_calls W p F _ (H6.out.1.on hb).sl)
      have K2 := Lib.hid (fun (W : World) (hb : Below w5.heap.size w5 W) => key_calls W p2 F2 _ (H6.out.2.on hb).sl)
      have T1 := Lib.hid (fun (W : World) (hb : Below w5.heap.size w5 W) => taken_calls W p F _ (H6.out.1.on hb).sl (H6.out.1.on hb).tab)
      have T2 := Lib.hid (fun (W : World) (hb : Below w5.heap.size w5 W) => taken_calls W p2 F2 _ (H6.out.2.on hb).sl (H6.out.2.on hb).tab)
      have HB := Lib.hid ((Below.refl w5.heap.size w5).drew)
      clear hlm
      go_upto_region 9 with fail
      go_wp2_with fail
      go_region_held3 (fun _ => True) (exact trivial)
        (first
          | (go_at_call 42; with_reducible refine (Calls.mono (K1.out _ HB.out) ?_); rintro e w8 ⟨rfl, hb⟩; replace HB := Lib.hid (below_then HB.out hb); clear hb)
          | (go_at_call 42; with_reducible refine (Calls.mono (K2.out _ HB.out) ?_); rintro e w8 ⟨rfl, hb⟩; replace HB := Lib.hid (below_then HB.out hb); clear hb)
          | (go_at_call 50; with_reducible refine (Calls.mono (T1.out _ HB.out) ?_); rintro e w8 ⟨v8, rfl, ho8, hb⟩; obtain ⟨A8, c8, rfl, hi8⟩ := ho8.shape; have HI8 := Lib.hid hi8; replace HB := Lib.hid (below_then HB.out hb); clear hb ho8 hi8)
          | (go_at_call 50; with_reducible refine (Calls.mono (T2.out _ HB.out) ?_); rintro e w9 ⟨v9, rfl, ho9, hb⟩; obtain ⟨A9, c9, rfl, hi9⟩ := ho9.shape; have HI9 := Lib.hid hi9; have HI89 := Lib.hid (HI8.out.below hb); replace HB := Lib.hid (below_then HB.out hb); clear hb ho9 hi9)
          | (go_at_call 18; with_reducible refine (Calls.mono (same_ints (listL la) (listL lb) A8 A9 c8 c9 w9 HI89.out HI9.out HLM.out) ?_); rw [HLL.out]; rintro e w10 ⟨rfl, nq, rfl⟩; replace HB := Lib.hid (below_drewN HB.out nq)))
      have H7 := Lib.hid (And.intro (H6.out.1.on HB.out) (H6.out.2.on HB.out))
      clear H6 HB HI8 HI9 HI89 K1 K2 T1 T2 ek hne
      go_wp2_with fail
      go_loopw [11] (fun i wr => ∃ k : Nat, i = .int .i64 k ∧ k ≤ va.length ∧ Below w8.heap.size w8 wr) (fun i _ => va.length - (intOf i).toNat)
      case atStart => exact ⟨0, rfl, by omega, Below.refl _ _⟩
      case round =>
        obtain ⟨k, rfl, hk, hb⟩ := hrel
        have HR := Lib.hid (And.intro (H7.out.1.on hb) (And.intro (H7.out.2.on hb) hb))
        clear hb
        by_cases hlt : k < va.length
        · have hk0 : (0 : Int) ≤ (k : Int) := by omega
          have hk1 : (k : Int) < (va.length : Int) := by omega
          obtain ⟨j, hj, hjl, hjb⟩ := HIN.out k hlt
          obtain ⟨bb, oo, rfl, _, ca⟩ := (HT.out.2.1.below HR.out.1.below).1 k hlt
          rw [hj] at ca
          have hjl2 : j < la.length := by omega
          have hok : OkB { newX 0 c with l := la } := HOK.out.with hl1
          have HGV := Lib.hid (give_set hok (j := j) hjl2 hjb)
          have HAD := Lib.hid (addr_calls wr p F _ HR.out.1.sl (j : Int))
          have hinr : inR la (j : Int) = true := inR_nat _ _ hjl2
          rw [show addrV { newX 0 c with l := la } (j : Int) = ((({ newX 0 c with l := la } : Sb).b : Int) + (j : Int) * (({ newX 0 c with l := la } : Sb).z : Int)) by unfold addrV; rw [if_pos hinr], hinr] at HAD
          clear hj hjl hjb hinr hok hjl2
          generalize ((({ newX 0 c with l := la } : Sb).b : Int) + (j : Int) * (({ newX 0 c with l := la } : Sb).z : Int)) = ad at *
          go_wp2_with fail
          refine HAD.out.mono ?_
          rintro e w10 ⟨rfl, hb⟩
          have H10 := Lib.hid (HR.out.1.on hb)
          have HB10 := Lib.hid (below_then HR.out.2.2 hb)
          clear hb HAD ca
          go_wp2_with fail
          refine (clone_calls w10 p F _ H10.out.sl).mono ?_
          rintro e w11 ⟨q, G, rfl, hS, hG, hb⟩
          have H11 := Lib.hid (And.intro hS (And.intro hG (below_then HB10.out hb)))
          have HZ := Lib.hid hb.size
          clear hS hG hb
          go_wp2_with fail
          refine (give_calls w11 q G _ H11.out.1 ad).mono ?_
          rw [HGV.out]
          rintro e w12 ⟨rfl, _, hK⟩
          have HB12 := Lib.hid (below_kept H11.out.2.2 hK H11.out.2.2.size fun y hy => by
            have h1 := H11.out.2.1 y hy
            have h2 := HB10.out.size
            omega)
          clear hK H11 H10
          go_wp2_with fail
          go_roundw
          case rel => exact ⟨k + 1, by go_num, by omega, HB12.out⟩
          case measure => simp [intOf]; omega
        · obtain rfl : k = va.length := by omega
          have H9 := Lib.hid (And.intro HR.out.1 HR.out.2.1)
          clear HR H7 hlt hk HIN
          go_wp2_with fail
          refine (taken_calls wr p F _ H9.out.1.sl H9.out.1.tab).mono ?_
          rintro e w10 ⟨v, rfl, hown, hb⟩
          obtain ⟨A5, c5, rfl, hi⟩ := hown.shape
          have H10 := Lib.hid (And.intro (H9.out.1.on hb) (And.intro (H9.out.2.on hb) hi))
          clear hown hb hi H9
          have HWL := Lib.hid (HW.out w10 H10.out.1.tab A5 c5 (listL la) H10.out.2.2 (by have := HLA.out; omega))
          rw [show withO (newX 0 c).l (listL la) = some la by
            have := with_list la
            rw [hl1] at this
            have h0 : (newX 0 c).l = List.replicate (newX 0 c).l.length false := by simp [newX]
            rw [h0]
            exact this] at HWL
          go_wp2_with fail
          refine HWL.out.mono ?_
          rintro e w11 ⟨pu, Fu, rfl, hS, hF, hb⟩
          have H11 := Lib.hid (And.intro (H10.out.1.on hb) (And.intro (H10.out.2.1.on hb) (show Hd w w11 pu Fu { newX 0 c with l := la } from ⟨hS, fun y hy => Nat.le_trans H10.out.1.below.size (hF y hy), below_then H10.out.1.below hb, H10.out.1.pos, H10.out.1.tab.below hb⟩)))
          clear hS hF hb H10 HWL HW
          have hmm := @run_makeMap Tryd.prog
          have HM0 := Lib.hid (MapI.made w11 Tryd.prog 46 3 .i64 (keL .u64) (okL .u64 4))
          have hba := (Below.refl w11.heap.size w11).alloc (Nat.le_refl _) (.map #[] 0)
          have H12 := Lib.hid (And.intro (H11.out.1.on hba) (And.intro (H11.out.2.1.on hba) (H11.out.2.2.on hba)))
          have HN := Lib.hid (show (∀ y ∈ F, y ∉ [w11.heap.size]) ∧ (∀ y ∈ F2, y ∉ [w11.heap.size]) ∧ (∀ y ∈ Fu, y ∉ [w11.heap.size]) ∧ (∀ y ∈ [w11.heap.size], w.heap.size ≤ y) from by
            have h1 := H11.out.1.sl.flt
            have h2 := H11.out.2.1.sl.flt
            have h3 := H11.out.2.2.sl.flt
            have h4 := H11.out.1.below.size
            refine ⟨fun y hy => ?_, fun y hy => ?_, fun y hy => ?_, fun y hy => ?_⟩
            · have := h1 y hy
              simp
              omega
            · have := h2 y hy
              simp
              omega
            · have := h3 y hy
              simp
              omega
            · simp at hy
              omega)
          clear hba H11
          go_upto_region 19 with fail
          generalize w11.alloc (.map #[] 0) = W0 at HM0 H12 ⊢
          generalize w11.heap.size = mb at HM0 HN ⊢
          clear hmm
          have HBK := Lib.hid (bump_first HM0.out la)
          have K1 := Lib.hid (key_calls W0.drew p F _ (H12.out.1.on ((Below.refl _ _).drew)).sl)
          go_cut [] (fun wc => (Hd w wc p F { newX 0 c with l := la } ∧ Hd w wc p2 F2 { newX 0 c with l := lb } ∧ Hd w wc pu Fu { newX 0 c with l := la }) ∧ MapI wc Tryd.prog 46 3 .i64 (keL .u64) (okL .u64 4) mb 1 (upd (fun _ => none) (keyL4 la) (some 1)))
          case first =>
            go_wp2_with fail
            go_region_held3 (fun _ => True) (exact trivial)
              ((first
                | (go_at_call 42; with_reducible refine (Calls.mono K1.out ?_); rintro e w18 ⟨rfl, hb18'⟩; have hb18 := undrew hb18'; clear hb18'; obtain ⟨v1, st1, w19, w20, e1, e2, e3, e4, hM2, hk3⟩ := HBK.out w18 hb18)))
            all_goals
              go_wp2_with fail
              go_meet
              exact ⟨⟨(H12.out.1.on hb18).kept hk3 HN.out.1 HN.out.2.2.2, (H12.out.2.1.on hb18).kept hk3 HN.out.2.1 HN.out.2.2.2, (H12.out.2.2.on hb18).kept hk3 HN.out.2.2.1 HN.out.2.2.2⟩, hM2⟩
          case rest =>
          obtain ⟨hH, hM⟩ := hcut
          have H13 := Lib.hid hH
          have HM1 := Lib.hid hM
          clear hH hM H12 HM0 HBK K1
          obtain ⟨cv, hcv1, hbk⟩ := bump_second HM1.out (show la.length = lb.length by omega) (by omega)
          have HBK := Lib.hid hbk
          clear hbk
          have K2 := Lib.hid (key_calls _ p2 F2 _ (H13.out.2.1.on ((Below.refl _ _).drew)).sl)
          go_upto_region 20 with fail
          go_cut [] (fun wc => (Hd w wc p F { newX 0 c with l := la } ∧ Hd w wc p2 F2 { newX 0 c with l := lb } ∧ Hd w wc pu Fu { newX 0 c with l := la }) ∧ ∃ g, MapI wc Tryd.prog 46 3 .i64 (keL .u64) (okL .u64 4) mb (if la = lb then 1 else 2) g)
          case first =>
            go_wp2_with fail
            go_region_held3 (fun _ => True) (exact trivial)
              ((first
                | (go_at_call 42; with_reducible refine (Calls.mono K2.out ?_); rintro e w18 ⟨rfl, hb18'⟩; have hb18 := undrew hb18'; clear hb18'; obtain ⟨v1, st1, w19, w20, e1, e2, e3, e4, hM2, hk3⟩ := HBK.out w18 hb18)))
            all_goals
              go_wp2_with fail
              go_meet
              exact ⟨⟨(H13.out.1.on hb18).kept hk3 HN.out.1 HN.out.2.2.2, (H13.out.2.1.on hb18).kept hk3 HN.out.2.1 HN.out.2.2.2, (H13.out.2.2.on hb18).kept hk3 HN.out.2.2.1 HN.out.2.2.2⟩, hM2⟩
          case rest =>
          obtain ⟨hH, g2, hM⟩ := hcut
          obtain ⟨cn, hcn⟩ : ∃ cn : Nat, cn = if la = lb then 1 else 2 := ⟨_, rfl⟩
          rw [← hcn] at hM
          have H14 := Lib.hid hH
          have hlen := hM.len Tryd.underlying50 3
          have hcmp : (((cn : Int) == 1) == (la == lb)) = true := by
            by_cases e : la = lb
            · rw [if_pos e] at hcn
              subst hcn
              simp [e]
            · rw [if_neg e] at hcn
              subst hcn
              simp [e]
          clear hH hM H13 HM1 HBK K2 hcn
          go_wp2_with fail
          refine (taken_calls _ p F _ H14.out.1.sl H14.out.1.tab).mono ?_
          rintro e w21 ⟨v, rfl, hown, hb⟩
          obtain ⟨A6, c6, rfl, hi⟩ := hown.shape
          have H21 := Lib.hid (And.intro (H14.out.1.on hb) (And.intro (H14.out.2.1.on hb) (And.intro (H14.out.2.2.on hb) hi)))
          clear hown hb hi H14 hlen
          go_wp2_with fail
          refine (taken_calls w21 p2 F2 _ H21.out.2.1.sl H21.out.2.1.tab).mono ?_
          rintro e w22 ⟨v, rfl, hown, hb⟩
          obtain ⟨A7, c7, rfl, hi⟩ := hown.shape
          have H22 := Lib.hid (And.intro (H21.out.1.on hb) (And.intro (H21.out.2.2.1.on hb) (And.intro (H21.out.2.2.2.below hb) hi)))
          clear hown hb hi H21
          go_wp2_with fail
          have HSI := Lib.hid (same_ints (listL la) (listL lb) A6 A7 c6 c7 w22 H22.out.2.2.1 H22.out.2.2.2 HLM.out)
          rw [HLL.out] at HSI
          with_reducible refine (Calls.mono HSI.out ?_)
          rintro e w23 ⟨rfl, nq, rfl⟩
          clear HSI
          have hdn := below_drewN (Below.refl w22.heap.size w22) nq
          have H23 := Lib.hid (And.intro (H22.out.1.on hdn) (H22.out.2.1.on hdn))
          generalize w22.drewN nq = w23 at H23 ⊢
          clear H22 hdn
          have KU := Lib.hid (key_calls w23 pu Fu _ H23.out.2.sl)
          go_wp2_with fail
          refine KU.out.mono ?_
          rintro e w24 ⟨rfl, hb⟩
          have H24 := Lib.hid (And.intro (H23.out.1.on hb) (H23.out.2.on hb))
          clear hb H23 KU hcmp
          go_wp2_with fail
          refine (key_calls w24 p F _ H24.out.1.sl).mono ?_
          rintro e w25 ⟨rfl, hb⟩
          have H25 := Lib.hid (And.intro (H24.out.1.on hb) (H24.out.2.on hb))
          have ek : ∀ W : World, (Op.equalIn 10000 KT (.agg (keyV la)) (.agg (keyV la))).run Tryd.prog W = .ok true W := fun W => by
            have := eq_key W (Bit.word la 0) (Bit.word la 1) (Bit.word la 2) (Bit.word la 3) (Bit.word la 0) (Bit.word la 1) (Bit.word la 2) (Bit.word la 3)
            simp at this
            exact this
          clear hb H24
          go_wp2_with fail
          refine (free_calls w25 pu Fu _ H25.out.2.sl).mono ?_
          rintro e w26 ⟨rfl, hb⟩
          have H26 := Lib.hid (H25.out.1.on hb)
          clear hb H25 ek
          go_wp2_with fail
          refine (slots_calls w26 p F _ H26.out.sl).mono ?_
          rintro e w27 ⟨rfl, rfl⟩
          have hcl : cntL la = va.length := by rw [cnt_list]; exact HLA.out
          have HCL := Lib.hid hcl
          have hva : va.length ≤ la.length := by rw [← hcl]; exact cntTo_le _ _
          have e1 : wrap64 ((la.length : Int) - (va.length : Int)) = (la.length : Int) - (va.length : Int) := by unfold wrap64; omega
          rw [hcl]
          clear hcl hva
          go_wp2_with fail
          go_ret
          exact ⟨ret_bool (by simp), H26.out.below⟩
end Go.Proofs.YtknieebmcpgppaaDoor.Old
