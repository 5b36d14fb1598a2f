/- The law's agree (layer 13): the walk. -/
import Derived.Test.YtknieebmcpgppaaDoorOldX
import Derived.StillTailTactics
set_option linter.unusedSimpArgs false
namespace Go.Proofs.YtknieebmcpgppaaDoor.Old
open Go.RowKit Go.Proofs.YtknieebmcpgppaaDoor.Aid Go.Proofs.YtknieebmcpgppaaDoor.Bit
set_option maxHeartbeats 8000000 in
set_option maxRecDepth 100000 in
theorem agree_calls (w : World) (p : Nat) (F : List Nat) (q : Nat) (G : List Nat) (x : Sb) (h : SlAt w p F x) (hT : Tab w) (hr : RfAt w q G x) :
    Calls Tryd.prog 47 #[.pointer (some ⟨p, 0, none⟩), .pointer (some ⟨q, 0, none⟩)] w fun e w' => e = .returned (.bool true) ∧ Below w.heap.size w w' := by
  have hm := h.ok.many.1
  have hll := listL_len x.l
  have H := Lib.hid (And.intro h (And.intro hT hr))
  clear h hT hr
  go_enter Tryd.func47, Tryd.ntmps47
  go_wp2_with fail
  refine (rlist_calls w q G x H.out.2.2).mono ?_
  rintro e w1 ⟨v, rfl, ho, hb⟩
  obtain ⟨A, c, rfl, hI⟩ := ho.shape
  have H1 := Lib.hid (And.intro hI hb)
  clear ho hI hb
  go_upto_region 3 with fail
  have hb := (Below.refl w1.heap.size w1).alloc (Nat.le_refl _) (.cells #[.int .u64 0, .int .u64 0, .int .u64 0, .int .u64 0] KT)
  have HK := Lib.hid (And.intro (Blk.new w1 #[.int .u64 0, .int .u64 0, .int .u64 0, .int .u64 0] KT) hb)
  clear hb
  generalize w1.alloc (.cells #[.int .u64 0, .int .u64 0, .int .u64 0, .int .u64 0] KT) = w2 at HK ⊢
  have HLT := Lib.hid (show ∀ k g o, k < (listL x.l).length → A = some ⟨g, o, none⟩ → g < w1.heap.size from fun k g o hk e => by
    obtain ⟨b, o2, e2, hlt, _⟩ := H1.out.1 k hk
    rw [e2] at e
    injection e with e
    injection e with e3
    subst e3
    exact hlt)
  generalize hb6 : w1.heap.size = b6 at HK HLT ⊢
  have HB6 := Lib.hid hb6
  clear hb6
  go_wp2_with fail
  go_loopw [7] (fun i wr => ∃ k : Nat, i = .int .i64 k ∧ k ≤ (listL x.l).length ∧ Blk wr b6 #[.int .u64 (Bit.word (pre x.l k) 0), .int .u64 0, .int .u64 0, .int .u64 0] KT ∧ Below b6 w1 wr) (fun i _ => (listL x.l).length - (intOf i).toNat)
  case atStart =>
    refine ⟨0, rfl, by omega, ?_, HK.out.2⟩
    rw [show Bit.word (pre x.l 0) 0 = 0 from word_clear _]
    exact HK.out.1
  case round =>
    obtain ⟨k, rfl, hk, hB, hb⟩ := hrel
    have HR := Lib.hid (And.intro hB hb)
    have c0 := hB.cell (o := 0) rfl
    have f0 := hB.free 0
    have HBL := Lib.hid (show Below w1.heap.size w1 wr from by rw [HB6.out]; exact hb)
    clear hB hb
    by_cases hlt : k < (listL x.l).length
    · have hk0 : (0 : Int) ≤ (k : Int) := by omega
      have hk1 : (k : Int) < ((listL x.l).length : Int) := by omega
      obtain ⟨j, hj, hjl⟩ := list_in x.l hlt
      have HP := Lib.hid (pre_succ x.l hlt hj)
      obtain ⟨bb, o, rfl, _, ca⟩ := (H1.out.1.below HBL.out) k hlt
      rw [hj] at ca
      have hor := or_word (pre x.l k) j (by rw [pre_len]; exact hjl)
      rw [show j / 64 = 0 by omega, show j % 64 = j by omega] at hor
      have htw := wrap_two j (by omega)
      have HOR := Lib.hid (And.intro hor htw)
      clear hj hor htw
      have hj0 : (0 : Int) ≤ (j : Int) := by omega
      have hj1 : (j : Int) < 64 := by omega
      generalize hW : Bit.word (pre x.l k) 0 = W0 at *
      have hd1 : IntKind.i64.wrap ((j : Int) / 64) = 0 := by
        rw [show (j : Int) / 64 = 0 by omega]
        exact IntWalk.i64_in _ (by omega)
      have hd2 : (j : Int) % 64 = (j : Int) := by omega
      have hd3 : (j : Int).tmod 64 = (j : Int) := by rw [Int.tmod_eq_emod_of_nonneg (by omega)]; omega
      have hd4 : IntKind.u64.wrap (j : Int) = (j : Int) := by rw [u64_wrap]; omega
      go_upto_region 6 with fail
      go_still_tail 16, (by kernel_rfl)
      rw [HOR.out.2, HOR.out.1]
      have c0' : wr.drew.cell? ⟨b6, 0, none⟩ = some (.int .u64 W0) := c0
      have f0' : wr.drew.frozen? ⟨b6, 0, none⟩ = false := f0
      change wpList _ _ _ _ _ wr.drew
      have HW := Lib.hid (show Blk (wr.drew.setCell ⟨b6, 0, none⟩ (.int .u64 (Bit.word ((pre x.l k).set j true) 0))) b6 #[.int .u64 (Bit.word ((pre x.l k).set j true) 0), .int .u64 0, .int .u64 0, .int .u64 0] KT ∧ Below b6 w1 (wr.drew.setCell ⟨b6, 0, none⟩ (.int .u64 (Bit.word ((pre x.l k).set j true) 0))) from ⟨HR.out.1.drew.set 0 _, HR.out.2.drew.setCell (p := ⟨b6, 0, none⟩) (Nat.le_refl _) _⟩)
      generalize hV : Bit.word ((pre x.l k).set j true) 0 = V0 at *
      have HV := Lib.hid hV
      clear hV hd1 hd2 hd3 hd4 c0 f0 ca
      generalize wr.drew = wd at *
      go_wp2_with fail
      go_roundw
      case rel => exact ⟨k + 1, by go_num, by omega, by rw [HP.out, HV.out]; exact HW.out.1, HW.out.2⟩
      case measure => simp [intOf]; omega
    · obtain rfl : k = (listL x.l).length := by omega
      have hbw := H1.out.2.trans (HBL.out.mono H1.out.2.size)
      have HAg := Lib.hid (show Ag wr p F q G x A b6 from ⟨H.out.1.below hbw, H.out.2.1.below hbw, H.out.2.2.below hbw, H1.out.1.below HBL.out, by have hB := HR.out.1; rw [pre_end] at hB; exact hB⟩)
      have HBW := Lib.hid hbw
      have hcl := cnt_list x.l
      have hcc : cntL x.l ≤ x.l.length := cntTo_le _ _
      have HC := Lib.hid (fun (W : World) (hb : Below wr.heap.size wr W) => HAg.out.on hb)
      have K64 := Lib.hid (fun (W : World) (hb : Below wr.heap.size wr W) => base_calls W p F x (HAg.out.on hb).sl)
      have K65 := Lib.hid (fun (W : World) (hb : Below wr.heap.size wr W) => class_calls W p F x (HAg.out.on hb).sl)
      have K35 := Lib.hid (fun (W : World) (hb : Below wr.heap.size wr W) => size_calls W p F x (HAg.out.on hb).sl)
      have K36 := Lib.hid (fun (W : World) (hb : Below wr.heap.size wr W) => rsize_calls W q G x (HAg.out.on hb).rf)
      have K37 := Lib.hid (fun (W : World) (hb : Below wr.heap.size wr W) => slots_calls W p F x (HAg.out.on hb).sl)
      have K50 := Lib.hid (fun (W : World) (hb : Below wr.heap.size wr W) => taken_calls W p F x (HAg.out.on hb).sl (HAg.out.on hb).tab)
      have K39 := Lib.hid (fun (W : World) (hb : Below wr.heap.size wr W) => free_calls W p F x (HAg.out.on hb).sl)
      have K40 := Lib.hid (fun (W : World) (hb : Below wr.heap.size wr W) => state_calls W p F x (HAg.out.on hb).sl)
      have K66 := Lib.hid (fun (W : World) (hb : Below wr.heap.size wr W) => rstate_calls W q G x (HAg.out.on hb).rf)
      have K42 := Lib.hid (fun (W : World) (hb : Below wr.heap.size wr W) => key_calls W p F x (HAg.out.on hb).sl)
      rw [key_small hm] at K42
      rw [hcl] at K39
      have HSM := Lib.hid (fun (W : World) (hb : Below wr.heap.size wr W) (A1 : Option Addr) (c1 : Nat) (h1 : Ints W .i64 A1 (listL x.l)) => same_self W A1 A c1 c (listL x.l) h1 (HAg.out.on hb).ints (by omega))
      have ek : ∀ W : World, (Op.equalIn 10000 KT (.agg #[.int .u64 (Bit.word x.l 0), .int .u64 0, .int .u64 0, .int .u64 0]) (.agg #[.int .u64 (Bit.word x.l 0), .int .u64 0, .int .u64 0, .int .u64 0])).run Tryd.prog W = .ok true W := fun W => by rw [eq_key]; simp
      rw [hcl] at hcc
      have hsub : IntKind.i64.wrap ((x.l.length : Int) - ((listL x.l).length : Int)) = (x.l.length : Int) - ((listL x.l).length : Int) := IntWalk.i64_in _ (by omega)
      generalize hgs : (if cntL x.l = 0 then (0 : Int) else if cntL x.l = x.l.length then 2 else 1) = s at K40 K66
      obtain ⟨g, cp, hg, _⟩ := HAg.out.rf.ex
      have HG := Lib.hid (fun (W : World) (hb : Below wr.heap.size wr W) => (show W.cell? ⟨q, 0, none⟩ = some (.int .i64 x.b) ∧ W.cell? ⟨q, 2, none⟩ = some (.int .i64 x.c) ∧ W.cell? ⟨q, 3, none⟩ = some (.slice (some ⟨g, 0, none⟩) x.l.length cp) ∧ W.cell? ⟨b6, 0, none⟩ = some (.int .u64 (Bit.word x.l 0)) ∧ W.cell? ⟨b6, 1, none⟩ = some (.int .u64 0) ∧ W.cell? ⟨b6, 2, none⟩ = some (.int .u64 0) ∧ W.cell? ⟨b6, 3, none⟩ = some (.int .u64 0) from by
        have ha := HAg.out.on hb
        obtain ⟨d0, _, d2, d3⟩ := (hg.below hb).cells
        exact ⟨d0, d2, d3, ha.key.cell (o := 0) rfl, ha.key.cell (o := 1) rfl, ha.key.cell (o := 2) rfl, ha.key.cell (o := 3) rfl⟩))
      have HB := Lib.hid ((Below.refl wr.heap.size wr).drew)
      clear hg hcl hcc c0 f0 hlt hk hbw
      go_upto_region 7 with fail
      go_wp2_with fail
      dsimp only [List.append]
      go_region_held3 (fun w' => w'.cell? ⟨q, 0, none⟩ = some (.int .i64 x.b) ∧ w'.cell? ⟨q, 2, none⟩ = some (.int .i64 x.c) ∧ w'.cell? ⟨q, 3, none⟩ = some (.slice (some ⟨g, 0, none⟩) x.l.length cp) ∧ w'.cell? ⟨b6, 0, none⟩ = some (.int .u64 (Bit.word x.l 0)) ∧ w'.cell? ⟨b6, 1, none⟩ = some (.int .u64 0) ∧ w'.cell? ⟨b6, 2, none⟩ = some (.int .u64 0) ∧ w'.cell? ⟨b6, 3, none⟩ = some (.int .u64 0))
        (first | exact HG.out _ HB.out | exact HG.out _ HB.out)
        (first
          | (go_at_call 64; (refine (Calls.mono (K64.out _ HB.out) ?_)); rintro e w8 ⟨rfl, rfl⟩)
          | (go_at_call 65; (refine (Calls.mono (K65.out _ HB.out) ?_)); rintro e w8 ⟨rfl, rfl⟩)
          | (go_at_call 35; (refine (Calls.mono (K35.out _ HB.out) ?_)); rintro e w8 ⟨rfl, rfl⟩)
          | (go_at_call 36; (refine (Calls.mono (K36.out _ HB.out) ?_)); rintro e w8 ⟨rfl, hb⟩; replace HB := Lib.hid (below_then HB.out hb); clear hb)
          | (go_at_call 37; (refine (Calls.mono (K37.out _ HB.out) ?_)); rintro e w8 ⟨rfl, rfl⟩)
          | (go_at_call 50; (refine (Calls.mono (K50.out _ HB.out) ?_)); rintro e w8 ⟨v8, rfl, ho8, hb⟩; obtain ⟨A8, c8, rfl, hi8⟩ := ho8.shape; have HI8 := Lib.hid hi8; replace HB := Lib.hid (below_then HB.out hb); clear hb ho8 hi8)
          | (go_at_call 18; (refine (Calls.mono (HSM.out _ HB.out _ _ HI8.out) ?_)); rintro e w9 ⟨rfl, hb⟩; replace HB := Lib.hid (below_then HB.out hb); clear hb)
          | (go_at_call 39; (refine (Calls.mono (K39.out _ HB.out) ?_)); rintro e w8 ⟨rfl, hb⟩; replace HB := Lib.hid (below_then HB.out hb); clear hb)
          | (go_at_call 40; (refine (Calls.mono (K40.out _ HB.out) ?_)); rintro e w8 ⟨rfl, rfl⟩)
          | (go_at_call 66; (refine (Calls.mono (K66.out _ HB.out) ?_)); rintro e w8 ⟨rfl, hb⟩; replace HB := Lib.hid (below_then HB.out hb); clear hb)
          | (go_at_call 42; (refine (Calls.mono (K42.out _ HB.out) ?_)); rintro e w8 ⟨rfl, hb⟩; replace HB := Lib.hid (below_then HB.out hb); clear hb))
      go_wp2_with fail
      go_ret
      exact ⟨rfl, HBW.out.trans (HB.out.mono HBW.out.size)⟩
end Go.Proofs.YtknieebmcpgppaaDoor.Old
