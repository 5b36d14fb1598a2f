/- The contract of the law's own alive. -/
import Derived.Test.YtchnhmcedmicgaaEpoV
import Derived.Test.YtchnhmcedmicgaaSame
namespace Go.Proofs.Ytchnhmcedmicgaa.Epo
open Go.RowKit Go.Proofs.Ytchnhmcedmicgaa.Aid
def s1 : ERun := nextE (run0 2)
def s2 : ERun := stepA 2 s1 1
def s3 : ERun := nextE s2
def s4 : ERun := stepA 2 s3 0
def s5 : ERun := stepA 2 s4 1
theorem a2 : (ackE 2 s1 1).1 = 0 := by decide +kernel
theorem a4 : (ackE 2 s3 0).1 = 0 := by decide +kernel
theorem a5 : (ackE 2 s4 1).1 = 0 := by decide +kernel
theorem a6 : (ackE 2 s5 1).1 = 15 := by decide +kernel
theorem a6' : stepA 2 s5 1 = s5 := by rfl
theorem a7 : (ackE 2 s5 2).1 = 11 := by decide +kernel
theorem a7' : stepA 2 s5 2 = s5 := by rfl
theorem b2 : behV s2 = [0] := by decide +kernel
theorem l2 : leastV s2 = 0 := by decide +kernel
theorem l5 : leastV s5 = 2 := by decide +kernel
theorem t3 : setV s3 = false := by decide +kernel
theorem t5 : setV s5 = true := by decide +kernel
theorem n5 : s5.now = 2 := by decide +kernel
theorem v5 : seenV 2 s5.row 0 = 2 := by decide +kernel
theorem c5 : ((s5.hist.map pad).count (pad [0, 1]) : Nat) = 2 := by decide +kernel
theorem c5' : ((s5.hist.map pad).count (pad []) : Nat) = 2 := by decide +kernel
theorem r2 : pad s2.row = pad [0, 1] := by decide +kernel
/-- A list of the call's own lies apart from the blocks that stood. -/
theorem own_apart {w w' : World} {A : Option Addr} {p mb n c : Nat} {xs : List Int} {t : TypeId} (h : Own w' w.heap.size t .i64 (.slice A n c) xs) (hl : p < w.heap.size ∧ mb < w.heap.size) : ∀ b o r, A = some ⟨b, o, r⟩ → b ≠ p ∧ b ≠ mb := by
  rintro b o r rfl
  have := (h.base_le b (by simp [Value.ownBlock])).1
  omega
theorem ints_keptE {w w' : World} {A : Option Addr} {xs : List Int} {p mb : Nat} (h : Ints w .i64 A xs) (k : Kept [p, mb] w w') (hA : ∀ b o r, A = some ⟨b, o, r⟩ → b ≠ p ∧ b ≠ mb) : Ints w' .i64 A xs := fun j hj => by
  obtain ⟨b, o, e, hlt, hc⟩ := h j hj
  refine ⟨b, o, e, Nat.lt_of_lt_of_le hlt k.size, ?_⟩
  rw [← hc]
  exact World.cell?_of_block (a := ⟨b, _, none⟩) (k.block b hlt (by have := hA b o none e; simpa using this))
/-- An array laid in a new block. -/
theorem laid (w : World) (r : List Int) (hl : (pad r).length = 64) : ∃ w', (Instr.storeAt VT (.pointer (some ⟨w.heap.size, 0, none⟩)) (vv r)).run Try.prog (w.alloc (.cells zeros VT)) = .ok () w' ∧ Blk w' w.heap.size ((pad r).map (Value.int .u64)).toArray VT ∧ Below w.heap.size w w' := by
  have hB := Blk.new w zeros VT
  have hk := (Below.refl w.heap.size w).alloc (Nat.le_refl _) (.cells zeros VT)
  have hc : ((pad r).map (Value.int .u64)).length = 64 := by simp [hl]
  have hB3 := hB.setCells ((pad r).map (Value.int .u64)) 0 (by rw [hc, zeros_size]; decide)
  rw [lay_all _ _ (by rw [hc, zeros_size])] at hB3
  have e := store_nums (P := Try.prog) (q := .u64) (T := VT) (n := 64) (b := w.heap.size) (o := 0) (w := w.alloc (.cells zeros VT)) (pad r) (hB.there (by rw [hl, zeros_size]; decide)) hiV hl
  exact ⟨_, e, hB3, below_kept hk ((Kept.refl [w.heap.size] (w.alloc (.cells zeros VT))).setCells (b := w.heap.size) (.inl (by simp)) _ 0) hk.size (by simp)⟩
set_option maxHeartbeats 4000000 in
set_option maxRecDepth 8000 in
attribute [-go_sem] Instr.storeAt Instr.loadAt in
theorem alive_calls (w : World) : Calls Try.prog 27 #[] w fun e w' => e = .returned (.bool true) ∧ Below w.heap.size w w' := by
  go_enter Try.func27, Try.ntmps27
  go_wp2_with fail
  refine (new_yes w 2 (by decide) (by decide)).mono ?_
  rintro e w1 ⟨p, mb, rfl, hE, hp, hm, hb⟩
  have HE := Lib.hid hE
  have HB := Lib.hid hb
  have HM := Lib.hid (show ∀ x ∈ [p, mb], w.heap.size ≤ x by simp; exact ⟨hp, hm⟩)
  clear hE hb hp hm
  go_wp2_with fail
  refine (next_calls w1 p mb 2 (run0 2) HE.out (by decide)).mono ?_
  rintro e w2 ⟨he, hE, hk⟩
  rw [show (run0 2).now + 1 = 1 from rfl] at he
  subst he
  have HE2 := Lib.hid (show EpAt w2 p mb 2 s1 from hE)
  have HB2 := Lib.hid (below_kept HB.out hk HB.out.size HM.out)
  clear hE hk HE HB
  go_wp2_with fail
  refine (ack_calls w2 p mb 2 s1 1 HE2.out (by decide +kernel)).mono ?_
  rintro e w3 ⟨he, hE, hk⟩
  rw [a2] at he
  subst he
  have HE3 := Lib.hid (show EpAt w3 p mb 2 s2 from hE)
  have HB3 := Lib.hid (below_kept HB2.out hk HB2.out.size HM.out)
  clear hE hk HE2 HB2
  go_wp2_with fail
  refine (behind_calls w3 p mb 2 s2 HE3.out).mono ?_
  rintro e w4 ⟨v, rfl, hO, hb⟩
  rw [b2] at hO
  have HE4 := Lib.hid (HE3.out.below hb)
  have HB4 := Lib.hid (below_then HB3.out hb)
  obtain ⟨A1, ca1, rfl, hI⟩ := hO.shape
  have HI4 := Lib.hid hI
  have HQI := Lib.hid (own_apart hO HE3.out.lt)
  clear hO hb hI HE3 HB3
  go_wp2_with fail
  refine (least_calls w4 p mb 2 s2 HE4.out).mono ?_
  rw [l2]
  rintro e w5 ⟨rfl, hb⟩
  have HE5 := Lib.hid (HE4.out.below hb)
  have HB5 := Lib.hid (below_then HB4.out hb)
  have HI5 := Lib.hid (HI4.out.below hb)
  clear hb HE4 HB4 HI4
  go_wp2_with fail
  refine (vector_calls w5 p mb 2 s2 HE5.out).mono ?_
  rintro e w6 ⟨rfl, hb⟩
  have HE6 := Lib.hid (HE5.out.below hb)
  have HB6 := Lib.hid (below_then HB5.out hb)
  have HI6 := Lib.hid (HI5.out.below hb)
  clear hb HE5 HB5 HI5
  obtain ⟨w7, e7, hQ, hb7⟩ := laid w6 s2.row (by decide +kernel)
  have HQ := Lib.hid hQ
  have HE7 := Lib.hid (HE6.out.below hb7)
  have HB7 := Lib.hid (below_then HB6.out hb7)
  have HI7 := Lib.hid (HI6.out.below hb7)
  have HQM := Lib.hid (show w6.heap.size ≠ p ∧ w6.heap.size ≠ mb from by have := HE6.out.lt; omega)
  clear hb7 hQ HE6 HB6 HI6
  unfold zeros at e7
  go_upto_region 9 with fail
  generalize w6.heap.size = q at HQ HQM ⊢
  clear e7
  go_wp2_with fail
  refine (next_calls w7 p mb 2 s2 HE7.out (by decide +kernel)).mono ?_
  rintro e w8 ⟨he, hE, hk⟩
  rw [show s2.now + 1 = 2 from by decide +kernel] at he
  subst he
  have HE8 := Lib.hid (show EpAt w8 p mb 2 s3 from hE)
  have HB8 := Lib.hid (below_kept HB7.out hk HB7.out.size HM.out)
  have HQ8 := Lib.hid (HQ.out.kept hk (by simpa using HQM.out))
  have HI8 := Lib.hid (ints_keptE HI7.out hk HQI.out)
  clear hE hk HE7 HB7 HQ HI7
  go_wp2_with fail
  refine (clone_calls w8 p mb 2 s3 HE8.out).mono ?_
  rintro e w9 ⟨p2, mb2, rfl, hD, hp, hm, hb⟩
  have HPP := Lib.hid (show (p2 ≠ p ∧ p2 ≠ mb) ∧ (mb2 ≠ p ∧ mb2 ≠ mb) from by have := HE8.out.lt; omega)
  have HD9 := Lib.hid hD
  have HE9 := Lib.hid (HE8.out.below hb)
  have HB9 := Lib.hid (below_then HB8.out hb)
  have HQ9 := Lib.hid (HQ8.out.below hb)
  have HI9 := Lib.hid (HI8.out.below hb)
  clear hD hp hm hb HE8 HB8 HQ8 HI8
  go_wp2_with fail
  refine (ack_calls w9 p mb 2 s3 0 HE9.out (by decide +kernel)).mono ?_
  rintro e w10 ⟨he, hE, hk⟩
  rw [a4] at he
  subst he
  have HE10 := Lib.hid (show EpAt w10 p mb 2 s4 from hE)
  have HB10 := Lib.hid (below_kept HB9.out hk HB9.out.size HM.out)
  have HQ10 := Lib.hid (HQ9.out.kept hk (by simpa using HQM.out))
  have HI10 := Lib.hid (ints_keptE HI9.out hk HQI.out)
  have HD10 := Lib.hid (HD9.out.kept hk (by simpa using HPP.out.1) (by simpa using HPP.out.2))
  clear hE hk HE9 HB9 HQ9 HI9 HD9
  go_wp2_with fail
  refine (ack_calls w10 p mb 2 s4 1 HE10.out (by decide +kernel)).mono ?_
  rintro e w11 ⟨he, hE, hk⟩
  rw [a5] at he
  subst he
  have HE11 := Lib.hid (show EpAt w11 p mb 2 s5 from hE)
  have HB11 := Lib.hid (below_kept HB10.out hk HB10.out.size HM.out)
  have HQ11 := Lib.hid (HQ10.out.kept hk (by simpa using HQM.out))
  have HI11 := Lib.hid (ints_keptE HI10.out hk HQI.out)
  have HD11 := Lib.hid (HD10.out.kept hk (by simpa using HPP.out.1) (by simpa using HPP.out.2))
  clear hE hk HE10 HB10 HQ10 HI10 HD10
  go_wp2_with fail
  refine (ack_calls w11 p mb 2 s5 1 HE11.out (by decide +kernel)).mono ?_
  rintro e w12 ⟨he, hE, hk⟩
  rw [a6] at he
  subst he
  have HE12 := Lib.hid (show EpAt w12 p mb 2 s5 from hE)
  have HB12 := Lib.hid (below_kept HB11.out hk HB11.out.size HM.out)
  have HQ12 := Lib.hid (HQ11.out.kept hk (by simpa using HQM.out))
  have HI12 := Lib.hid (ints_keptE HI11.out hk HQI.out)
  have HD12 := Lib.hid (HD11.out.kept hk (by simpa using HPP.out.1) (by simpa using HPP.out.2))
  clear hE hk HE11 HB11 HQ11 HI11 HD11
  go_upto_region 16 with fail
  have HW := Lib.hid (show Below w12.heap.size w12 w12 from Below.refl _ _)
  have CS := Lib.hid (fun (w' : World) (hb : Below w12.heap.size w12 w') => (settled_calls w' p mb 2 s5 (HE12.out.below hb)).mono (R' := fun e w'' => e = .returned (.bool true) ∧ Below w12.heap.size w12 w'') (fun e w'' h => ⟨by rw [h.1, t5], below_then hb h.2⟩))
  have CD := Lib.hid (fun (w' : World) (hb : Below w12.heap.size w12 w') => (settled_calls w' p2 mb2 2 s3 (HD12.out.below hb)).mono (R' := fun e w'' => e = .returned (.bool false) ∧ Below w12.heap.size w12 w'') (fun e w'' h => ⟨by rw [h.1, t3], below_then hb h.2⟩))
  have CN := Lib.hid (fun (w' : World) (hb : Below w12.heap.size w12 w') => (now_calls w' p mb 2 s5 (HE12.out.below hb)).mono (R' := fun e w'' => e = .returned (.int .u64 2) ∧ Below w12.heap.size w12 w'') (fun e w'' h => ⟨by rw [h.1, n5], h.2 ▸ hb⟩))
  have CE := Lib.hid (fun (w' : World) (hb : Below w12.heap.size w12 w') => (seen_calls w' p mb 2 s5 0 (HE12.out.below hb)).mono (R' := fun e w'' => e = .returned (.int .u64 2) ∧ Below w12.heap.size w12 w'') (fun e w'' h => ⟨by rw [h.1, v5], h.2 ▸ hb⟩))
  have CL := Lib.hid (fun (w' : World) (hb : Below w12.heap.size w12 w') => (least_calls w' p mb 2 s5 (HE12.out.below hb)).mono (R' := fun e w'' => e = .returned (.int .u64 2) ∧ Below w12.heap.size w12 w'') (fun e w'' h => ⟨by rw [h.1, l5], below_then hb h.2⟩))
  have CW := Lib.hid (fun (w' : World) (hb : Below w12.heap.size w12 w') => (workers_calls w' p mb 2 s5 (HE12.out.below hb)).mono (R' := fun e w'' => e = .returned (.int .i64 2) ∧ Below w12.heap.size w12 w'') (fun e w'' h => ⟨h.1, h.2 ▸ hb⟩))
  have CT := Lib.hid (fun (w' : World) (hb : Below w12.heap.size w12 w') => (times_calls w' p mb 2 s5 (pad [0, 1]) (HE12.out.below hb) ⟨by decide +kernel, by decide +kernel⟩).mono (R' := fun e w'' => e = .returned (.int .i64 2) ∧ Below w12.heap.size w12 w'') (fun e w'' h => ⟨by rw [h.1, c5]; rfl, below_then hb h.2⟩))
  have CT0 := Lib.hid (fun (w' : World) (hb : Below w12.heap.size w12 w') => (times_calls w' p mb 2 s5 (pad []) (HE12.out.below hb) ⟨by decide +kernel, by decide +kernel⟩).mono (R' := fun e w'' => e = .returned (.int .i64 2) ∧ Below w12.heap.size w12 w'') (fun e w'' h => ⟨by rw [h.1, c5']; rfl, below_then hb h.2⟩))
  have CA := Lib.hid (fun (w' : World) (hb : Below w12.heap.size w12 w') => (ack_calls w' p mb 2 s5 2 (HE12.out.below hb) (by decide +kernel)).mono (R' := fun e w'' => e = .returned (.int .i64 11) ∧ Kept [p, mb] w12 w'') (fun e w'' h => ⟨by rw [h.1, a7], (Kept.of_below hb _).trans h.2.2⟩))
  have CQ := Lib.hid (fun (w' : World) (hb : Below w12.heap.size w12 w') => (show (Instr.loadAt VT (.pointer (some ⟨q, 0, none⟩))).run Try.prog w' = .ok (.agg ((pad s2.row).map (Value.int .u64)).toArray) w' from
    load_nums (q := .u64) (n := 64) (pad s2.row) ((HQ12.out.below hb).range fun j v hj => by rw [Nat.zero_add]; simpa using hj) huV rfl hiV (by decide +kernel)))
  have heq : ∀ w : World, (Op.equalIn 10000 VT (.agg ((pad s2.row).map (Value.int .u64)).toArray) (.agg #[.int .u64 0, .int .u64 1, .int .u64 0, .int .u64 0, .int .u64 0, .int .u64 0, .int .u64 0, .int .u64 0, .int .u64 0, .int .u64 0, .int .u64 0, .int .u64 0, .int .u64 0, .int .u64 0, .int .u64 0, .int .u64 0, .int .u64 0, .int .u64 0, .int .u64 0, .int .u64 0, .int .u64 0, .int .u64 0, .int .u64 0, .int .u64 0, .int .u64 0, .int .u64 0, .int .u64 0, .int .u64 0, .int .u64 0, .int .u64 0, .int .u64 0, .int .u64 0, .int .u64 0, .int .u64 0, .int .u64 0, .int .u64 0, .int .u64 0, .int .u64 0, .int .u64 0, .int .u64 0, .int .u64 0, .int .u64 0, .int .u64 0, .int .u64 0, .int .u64 0, .int .u64 0, .int .u64 0, .int .u64 0, .int .u64 0, .int .u64 0, .int .u64 0, .int .u64 0, .int .u64 0, .int .u64 0, .int .u64 0, .int .u64 0, .int .u64 0, .int .u64 0, .int .u64 0, .int .u64 0, .int .u64 0, .int .u64 0, .int .u64 0, .int .u64 0])).run Try.prog w = .ok true w := fun w => by
    have := eq_nums (P := Try.prog) (T := VT) (q := .u64) (n := 64) huV huU hcU hpU (pad s2.row) (pad [0, 1]) (by decide +kernel) (by decide +kernel) w
    rw [show (pad s2.row == pad [0, 1]) = true from by decide +kernel] at this
    exact this
  generalize (pad s2.row).map (Value.int .u64) = cs at CQ heq
  have hi0 := Row.lit w12 [.int .i64 0] 3 (by show 1 ≤ maxLen; decide)
  have hy : Ints (w12.alloc (.cells #[.int .i64 0] 3)) .i64 (some ⟨w12.heap.size, 0, none⟩) [0] := hi0.ints
  have hb13 := (Below.refl w12.heap.size w12).alloc (Nat.le_refl _) (.cells #[.int .i64 0] 3)
  have CI := Lib.hid (same_ints [0] [0] A1 (some ⟨w12.heap.size, 0, none⟩) ca1 1 _ (HI12.out.below hb13) hy (by decide))
  have HB13 := Lib.hid hb13
  clear hi0 hy hb13
  go_wp2_with (first
    | (go_at_call 37; refine CI.out.mono ?_; rintro e w14 ⟨rfl, nq, rfl⟩; have hbc := below_drewN HB13.out nq; have hrc := CQ.out _ hbc)
    | (go_at_call 40; refine (CS.out _ hbc).mono ?_; rintro e w15 ⟨rfl, hb15⟩)
    | (go_at_call 40; refine (CD.out _ hb15).mono ?_; rintro e w16 ⟨rfl, hb16⟩)
    | (go_at_call 31; refine (CN.out _ hb16).mono ?_; rintro e w17 ⟨rfl, hb17⟩)
    | (go_at_call 35; refine (CE.out _ hb17).mono ?_; rintro e w18 ⟨rfl, hb18⟩)
    | (go_at_call 36; refine (CL.out _ hb18).mono ?_; rintro e w19 ⟨rfl, hb19⟩)
    | (go_at_call 42; refine (CT.out _ hb19).mono ?_; rintro e w20 ⟨rfl, hb20⟩)
    | (go_at_call 42; refine (CT0.out _ hb20).mono ?_; rintro e w21 ⟨rfl, hb21⟩)
    | (go_at_call 41; refine (CW.out _ hb21).mono ?_; rintro e w22 ⟨rfl, hb22⟩)
    | (go_at_call 43; refine (CA.out _ hb22).mono ?_; rintro e w23 ⟨rfl, hk23⟩)
    | fail)
  go_ret
  exact ⟨rfl, below_kept HB12.out hk23 HB12.out.size HM.out⟩
end Go.Proofs.Ytchnhmcedmicgaa.Epo
