/- The document's slabs (layer 13): Least, Take, Give, List, State. -/
import Derived.Test.YtknieebmcpgppaaDoorOldR
import Derived.Test.YtknieebmcpgppaaDoorBitX
set_option linter.unusedSimpArgs false
namespace Go.Proofs.YtknieebmcpgppaaDoor.Old
open Go.RowKit Go.Proofs.YtknieebmcpgppaaDoor.Aid Go.Proofs.YtknieebmcpgppaaDoor.Bit
section
variable (w : World) (q : Nat) (G : List Nat) (x : Sb) (h : RfAt w q G x)
include h
theorem rleast_calls : Calls Tryd.prog 69 #[.pointer (some ⟨q, 0, none⟩)] w fun e w' => e = .returned (.int .i64 (first x.l 0 false)) ∧ w = w' := by
  obtain ⟨hm1, hm2, hm3⟩ := h.ok.many
  obtain ⟨g, cp, h1, _⟩ := h.ex
  obtain ⟨c0, _, _, c3⟩ := h1.cells
  have HP := Lib.hid h1
  clear h h1
  go_enter Tryd.func69, Tryd.ntmps69
  go_wp2_with fail
  go_loopw [3] (fun i wr => ∃ k : Nat, i = .int .i64 k ∧ k ≤ x.l.length ∧ (∀ j, j < k → x.l.getD j false = true) ∧ w = wr) (fun i _ => x.l.length - (intOf i).toNat)
  case atStart => exact ⟨0, rfl, by omega, fun j hj => by omega, rfl⟩
  case round =>
    obtain ⟨k, rfl, hk, hno, rfl⟩ := hrel
    have HB := Lib.hid hno
    clear hno
    by_cases hlt : k < x.l.length
    · have hk0 : (0 : Int) ≤ (k : Int) := by omega
      have hk1 : (k : Int) < (x.l.length : Int) := by omega
      have ck := HP.out.row.cell hlt
      cases hv : x.l.getD k false with
      | true =>
        rw [hv] at ck
        have HV := Lib.hid hv
        clear hv
        go_wp2_with fail
        go_roundw
        case rel =>
          refine ⟨k + 1, by go_num, by omega, fun j hj => ?_, by first | rfl | trivial⟩
          rcases Nat.lt_or_ge j k with e | e
          · exact HB.out j e
          · obtain rfl : j = k := by omega
            exact HV.out
        case measure => simp [intOf]; omega
      | false =>
        rw [hv] at ck
        have HV := Lib.hid (first_eq (l := x.l) (i := 0) (s := false) (r := (k : Int)) (.inr ⟨k, rfl, by omega, hlt, hv, fun j _ hj => by rw [HB.out j hj]; decide⟩))
        clear hv
        go_wp2_with fail
        go_ret
        exact ⟨by rw [← HV.out]; rfl, rfl⟩
    · obtain rfl : k = x.l.length := by omega
      have HV := Lib.hid (first_eq (l := x.l) (i := 0) (s := false) (r := -1) (.inl ⟨rfl, fun j _ hj => by rw [HB.out j hj]; decide⟩))
      clear hlt hk
      go_wp2_with fail
      go_ret
      exact ⟨by rw [← HV.out]; rfl, rfl⟩
set_option maxHeartbeats 1000000 in
theorem rtake_calls : Calls Tryd.prog 67 #[.pointer (some ⟨q, 0, none⟩)] w fun e w' => e = .returned (.tuple #[.int .i64 (takeA x), .int .i64 (takeE x)]) ∧ RfAt w' q G (takeX x) ∧ Kept G w w' := by
  have HL := Lib.hid (rleast_calls w q G x h)
  have H := Lib.hid h
  have hok := h.ok
  obtain ⟨hm1, hm2, hm3⟩ := hok.many
  obtain ⟨g, cp, h1, m1, m2⟩ := h.ex
  obtain ⟨c0, _, _, c3⟩ := h1.cells
  have HP := Lib.hid (And.intro h1 (And.intro m1 m2))
  have HX := Lib.hid (show takeX x = { x with l := setL x.l (first x.l 0 false) true } from rfl)
  clear h h1 m1 m2
  rcases first_is x.l 0 false with ⟨hf, _⟩ | ⟨k, hf, _, h3, h4, _⟩
  · have HX2 := Lib.hid (show RfAt w q G (takeX x) from by
      rw [HX.out, hf, show setL x.l (-1) true = x.l by unfold setL; rw [inR_no _ _ (.inl (by omega))]; rfl]
      exact H.out)
    have e1 : takeA x = -1 := by unfold takeA; rw [if_pos hf]
    have e2 : takeE x = 18 := by unfold takeE; rw [if_pos hf]
    rw [e1, e2]
    rw [hf] at HL
    clear hf e1 e2
    go_enter Tryd.func67, Tryd.ntmps67
    go_wp2_with fail
    refine HL.out.mono ?_
    rintro e w' ⟨rfl, rfl⟩
    go_wp2_with fail
    go_ret2
    exact ⟨rfl, HX2.out, Kept.refl _ _⟩
  · have hz := hok.at_ h3
    have hbz := hok.hi
    have hmul : IntKind.i64.wrap ((k : Int) * (x.z : Int)) = ((k * x.z : Nat) : Int) := by
      have e : ((k : Int) * (x.z : Int)) = ((k * x.z : Nat) : Int) := by simp
      rw [e]
      exact IntWalk.i64_in _ (by omega)
    have e1 : takeA x = (x.b : Int) + (k : Int) * (x.z : Int) := by
      unfold takeA
      rw [if_neg (by omega), hf]
    have e2 : takeE x = 0 := by unfold takeE; rw [if_neg (by omega)]
    have e3 : takeX x = { x with l := x.l.set k true } := by
      rw [HX.out, hf, show setL x.l (k : Int) true = x.l.set k true by unfold setL; rw [inR_nat _ _ h3]; rfl]
    rw [e1, e2, e3]
    rw [hf] at HL
    have hk0 : (0 : Int) ≤ (k : Int) := by omega
    have hk1 : (k : Int) < (x.l.length : Int) := by omega
    have hfz := HP.out.1.row.free k
    have ck := HP.out.1.row.cell h3
    have HW := Lib.hid (HP.out.1.put H.out HP.out.2.1 HP.out.2.2 (i := k) (b := true) rfl)
    have HAD := Lib.hid (show IntKind.i64.wrap ((x.b : Int) + (k : Int) * (x.z : Int)) = (x.b : Int) + (k : Int) * (x.z : Int) from by
      have e : ((k : Int) * (x.z : Int)) = ((k * x.z : Nat) : Int) := by simp
      rw [e]
      exact IntWalk.i64_in _ (by omega))
    clear hf e1 e2 e3 h4 HX hz hbz hm3
    go_enter Tryd.func67, Tryd.ntmps67
    go_wp2_with fail
    refine HL.out.mono ?_
    rintro e w' ⟨rfl, rfl⟩
    go_upto_region 5 with fail
    have HS := Lib.hid (rsize_calls (w.setCell ⟨g, k, none⟩ (.bool true)).drew q G _ (HW.out.2.1.below (Below.refl _ _).drew))
    have H0 := Lib.hid ((Below.refl (w.setCell ⟨g, k, none⟩ (.bool true)).heap.size (w.setCell ⟨g, k, none⟩ (.bool true))).drew)
    have HC := Lib.hid (fun (W : World) (hb : Below (w.setCell ⟨g, k, none⟩ (.bool true)).heap.size (w.setCell ⟨g, k, none⟩ (.bool true)) W) => (show W.cell? ⟨q, 0, none⟩ = some (.int .i64 x.b) from (HW.out.1.below hb).cells.1))
    clear c0 c3 hfz ck
    have HR := Lib.hid HW.out.2
    clear HW
    generalize w.setCell ⟨g, k, none⟩ (.bool true) = w5 at *
    go_wp2_with fail
    go_region_held3 (fun w' => w'.cell? ⟨q, 0, none⟩ = some (.int .i64 x.b))
      (first | exact HC.out _ H0.out | exact HC.out _ H1.out)
      ((go_at_call 36; (refine (Calls.mono HS.out ?_)); rintro e w1 ⟨rfl, hb⟩; have H1 := Lib.hid (H0.out.trans hb); clear hb))
    go_wp2_with fail
    go_ret2
    refine ⟨?_, HR.out.1.below H1.out, HR.out.2.and_below H1.out⟩
    show Ending.returned (.tuple #[.int .i64 (IntKind.i64.wrap ((x.b : Int) + (k : Int) * (x.z : Int))), .int .i64 0]) = _
    rw [HAD.out]
set_option maxHeartbeats 1000000 in
theorem rgive_calls (a : Int) : Calls Tryd.prog 68 #[.pointer (some ⟨q, 0, none⟩), .int .i64 a] w fun e w' => e = .returned (.int .i64 (giveE x x.l a)) ∧ RfAt w' q G { x with l := giveL x x.l a } ∧ Kept G w w' := by
  have HS := Lib.hid (rslot_calls w q G x h a)
  have H := Lib.hid h
  obtain ⟨hm1, hm2, hm3⟩ := h.ok.many
  obtain ⟨g, cp, h1, m1, m2⟩ := h.ex
  have HP := Lib.hid (And.intro h1 (And.intro m1 m2))
  clear h h1 m1 m2
  cases ho : slotO x a with
  | none =>
    rw [ho] at HS
    rw [show giveE x x.l a = 12 by unfold giveE; rw [ho], show giveL x x.l a = x.l by unfold giveL; rw [ho]]
    go_enter Tryd.func68, Tryd.ntmps68
    go_wp2_with fail
    refine HS.out.mono ?_
    rintro e w1 ⟨rfl, hb⟩
    have H1 := Lib.hid (And.intro (H.out.below hb) (Kept.of_below hb G))
    clear hb
    rw [show slotV none = -1 from rfl]
    go_wp2_with fail
    go_ret
    exact ⟨rfl, H1.out⟩
  | some k =>
    rw [ho] at HS
    obtain ⟨hk, _⟩ := slotO_some ho
    rw [show giveL x x.l a = setL x.l k false by unfold giveL; rw [ho]]
    have hE : giveE x x.l a = if setB x.l k false = true then 0 else 19 := by unfold giveE; rw [ho]
    have hs : setL x.l (k : Int) false = x.l.set k false := by unfold setL; rw [inR_nat _ _ hk]; rfl
    have hb : setB x.l (k : Int) false = x.l.getD k false := by unfold setB; rw [inR_nat _ _ hk]; simp
    rw [hs]
    rw [hb] at hE
    have hk0 : (0 : Int) ≤ (k : Int) := by omega
    have hk1 : (k : Int) < (x.l.length : Int) := by omega
    clear ho hb hs
    cases hv : x.l.getD k false with
    | false =>
      rw [hE, if_neg (by rw [hv]; decide), set_same _ _ _ hk hv]
      clear hE
      go_enter Tryd.func68, Tryd.ntmps68
      go_wp2_with fail
      refine HS.out.mono ?_
      rintro e w1 ⟨rfl, hb⟩
      have H1 := Lib.hid (And.intro (H.out.below hb) (Kept.of_below hb G))
      have h1 := HP.out.1.below hb
      obtain ⟨_, _, _, c3⟩ := h1.cells
      have ck := h1.row.cell hk
      rw [hv] at ck
      clear hb h1 hv
      rw [show slotV (some k) = (k : Int) from rfl]
      go_wp2_with fail
      go_ret
      exact ⟨rfl, H1.out⟩
    | true =>
      rw [hE, if_pos hv]
      clear hE
      go_enter Tryd.func68, Tryd.ntmps68
      go_wp2_with fail
      refine HS.out.mono ?_
      rintro e w1 ⟨rfl, hb⟩
      have h1 := HP.out.1.below hb
      obtain ⟨_, _, _, c3⟩ := h1.cells
      have ck := h1.row.cell hk
      have hfz := h1.row.free k
      rw [hv] at ck
      have HW := Lib.hid (And.intro (h1.put (H.out.below hb) HP.out.2.1 HP.out.2.2 (i := k) (b := false) rfl) hb)
      clear hb h1 hv
      rw [show slotV (some k) = (k : Int) from rfl]
      go_wp2_with fail
      go_ret
      exact ⟨rfl, HW.out.1.2.1, (Kept.of_below HW.out.2 G).trans HW.out.1.2.2⟩
set_option maxHeartbeats 1000000 in
theorem rlist_calls : Calls Tryd.prog 63 #[.pointer (some ⟨q, 0, none⟩)] w fun e w' => ∃ v, e = .returned v ∧ Own w' w.heap.size 3 .i64 v (listL x.l) ∧ Below w.heap.size w w' := by
  obtain ⟨hm1, hm2, hm3⟩ := h.ok.many
  obtain ⟨g, cp, h1, _⟩ := h.ex
  have H := Lib.hid h1
  clear h h1 hm3
  go_enter Tryd.func63, Tryd.ntmps63
  go_wp2_with fail
  go_loopw [3, 4] (fun s i wr => ∃ k : Nat, k ≤ x.l.length ∧ i = .int .i64 k ∧ Own wr w.heap.size 3 .i64 s (bitsTo x.l k) ∧ Below w.heap.size w wr) (fun _ i _ => x.l.length - (intOf i).toNat)
  case atStart => exact ⟨0, by omega, rfl, Own.lit0 w _ (Nat.le_refl _) _ .i64, (Below.refl _ _).alloc (Nat.le_refl _) _⟩
  case round =>
    obtain ⟨k, hk, rfl, hown, hb⟩ := hrel
    have HO := Lib.hid hown
    have HB := Lib.hid hb
    have hsz := hb.size
    have h1 := H.out.below hb
    obtain ⟨_, _, _, c3⟩ := h1.cells
    clear hown hb
    by_cases hlt : k < x.l.length
    · have hc := h1.row.cell hlt
      have hk0 : (0 : Int) ≤ (k : Int) := by omega
      have hk1 : (k : Int) < (x.l.length : Int) := by omega
      have HS := Lib.hid (bitsTo_succ x.l k)
      have hbl := bitsTo_len x.l k
      clear h1
      generalize x.l.getD k false = b at hc HS
      generalize bitsTo x.l k = bs at HO HS hbl
      cases b
      · go_wp2_with fail
        go_roundw
        case rel => exact ⟨k + 1, by omega, by go_num, by rw [HS.out, if_neg (by decide), List.append_nil]; exact HO.out, HB.out⟩
        case measure => simp [intOf]; omega
      · go_wp2_with (at_builtin; refine append_int rfl _ _ 30 rfl w.heap.size 3 .i64 8 Tryd.underlying30 info_int _ bs rfl HO.out (k : Int) rfl (by omega) (by omega) hsz ?_)
        intro v1 w1 hown1 hb1 _
        have HO1 := Lib.hid hown1
        have HB1 := Lib.hid (HB.out.trans hb1)
        clear hown1 hb1
        go_wp2_with fail
        go_roundw
        case rel => exact ⟨k + 1, by omega, by go_num, by rw [HS.out]; first | (rw [if_true]; exact HO1.out) | (rw [if_pos rfl]; exact HO1.out), HB1.out⟩
        case measure => simp [intOf]; omega
    · obtain rfl : k = x.l.length := by omega
      go_wp2_with fail
      go_ret
      exact ⟨_, rfl, HO.out, HB.out⟩
theorem rstate_calls : Calls Tryd.prog 66 #[.pointer (some ⟨q, 0, none⟩)] w fun e w' => e = .returned (.int .i64 (if cntL x.l = 0 then 0 else if cntL x.l = x.l.length then 2 else 1)) ∧ Below w.heap.size w w' := by
  have HL := Lib.hid (rlist_calls w q G x h)
  have hcl := cnt_list x.l
  obtain ⟨hm1, hm2, hm3⟩ := h.ok.many
  have hll := listL_len x.l
  obtain ⟨g, cp, h1, _⟩ := h.ex
  have HP := Lib.hid h1
  have HCL := Lib.hid hcl
  have HN := Lib.hid (fun (W : World) (hb : Below w.heap.size w W) => (h1.below hb).cells.2.2.2)
  clear h h1 hm3 hcl
  by_cases h0 : cntL x.l = 0
  · have hl0 : (listL x.l).length = 0 := by rw [← HCL.out]; exact h0
    rw [if_pos h0]
    clear h0
    go_enter Tryd.func66, Tryd.ntmps66
    go_wp2_with fail
    refine HL.out.mono ?_
    rintro e w1 ⟨v, rfl, ho, hb⟩
    obtain ⟨A, c, rfl, _⟩ := ho.shape
    have H1 := Lib.hid hb
    clear ho hb
    rw [hl0]
    go_wp2_with fail
    go_ret
    exact ⟨rfl, H1.out⟩
  · rw [if_neg h0]
    have hl0 : (((listL x.l).length : Int) == 0) = false := by rw [beq_eq_false_iff_ne, ← HCL.out]; omega
    by_cases h2 : cntL x.l = x.l.length
    · rw [if_pos h2]
      have hl2 : (listL x.l).length = x.l.length := by rw [← HCL.out]; exact h2
      rw [hl2] at hl0 hll
      clear h0 h2
      go_enter Tryd.func66, Tryd.ntmps66
      go_wp2_with fail
      refine HL.out.mono ?_
      rintro e w1 ⟨v, rfl, ho, hb⟩
      obtain ⟨A, c, rfl, _⟩ := ho.shape
      have H1 := Lib.hid hb
      have c3 := HN.out _ hb
      clear ho hb
      rw [hl2]
      go_wp2_with fail
      go_ret
      exact ⟨rfl, H1.out⟩
    · rw [if_neg h2]
      have hl2 : (((listL x.l).length : Int) == (x.l.length : Int)) = false := by rw [beq_eq_false_iff_ne, ← HCL.out]; omega
      clear h0 h2
      go_enter Tryd.func66, Tryd.ntmps66
      go_wp2_with fail
      refine HL.out.mono ?_
      rintro e w1 ⟨v, rfl, ho, hb⟩
      obtain ⟨A, c, rfl, _⟩ := ho.shape
      have H1 := Lib.hid hb
      have c3 := HN.out _ hb
      clear ho hb
      generalize (listL x.l).length = n at *
      go_wp2_with fail
      go_ret
      exact ⟨rfl, H1.out⟩
end
end Go.Proofs.YtknieebmcpgppaaDoor.Old
