/- The walk of BitsKeys: it returns true. -/
import Derived.Test.YtknieebmcpgppaaDoorBitM
import Derived.Test.YtknieebmcpgppaaDoorAidMap
namespace Go.Proofs.YtknieebmcpgppaaDoor.Bit
open Go.RowKit Go.Proofs.YtknieebmcpgppaaDoor.Aid
theorem words_eq (a b : List Bool) (hl : a.length = b.length) (h256 : a.length ≤ 256) (h : ∀ k, k < 4 → Bit.word a k = Bit.word b k) : a = b := by
  refine list_ext a b hl fun j hj => ?_
  have h1 := word_bit a (j / 64) (j % 64) (by omega)
  have h2 := word_bit b (j / 64) (j % 64) (by omega)
  rw [h (j / 64) (by omega), h2] at h1
  rw [show 64 * (j / 64) + j % 64 = j by omega] at h1
  exact h1.symm
theorem mem_listL (l : List Bool) (j : Nat) (hj : j < l.length) : (j : Int) ∈ listL l ↔ l.getD j false = true := by
  unfold listL bitsTo
  constructor
  · intro h
    obtain ⟨x, hx, e⟩ := List.mem_map.1 h
    have : x = j := by omega
    subst this
    simpa using (List.mem_filter.1 hx).2
  · intro h
    exact List.mem_map.2 ⟨j, List.mem_filter.2 ⟨by simpa using hj, by simpa using h⟩, rfl⟩
theorem lists_eq (a b : List Bool) (hl : a.length = b.length) (h : listL a = listL b) : a = b := by
  refine list_ext a b hl fun j hj => ?_
  have h1 := mem_listL a j hj
  have h2 := mem_listL b j (by omega)
  rw [h] at h1
  have h3 := h1.symm.trans h2
  cases ha : a.getD j false <;> cases hb : b.getD j false <;> simp_all
def keysB (a b : List Bool) : Bool := Bit.word a 0 == Bit.word b 0 && (Bit.word a 1 == Bit.word b 1 && (Bit.word a 2 == Bit.word b 2 && Bit.word a 3 == Bit.word b 3))
theorem keysB_eq (a b : List Bool) (hl : a.length = b.length) (h256 : a.length ≤ 256) : keysB a b = (a == b) := by
  by_cases h : a = b
  · subst h; simp [keysB]
  · have : (a == b) = false := by simpa using h
    rw [this]
    cases hk : keysB a b
    · rfl
    · exfalso
      unfold keysB at hk
      simp only [Bool.and_eq_true, beq_iff_eq] at hk
      obtain ⟨h0, h1, h2, h3⟩ := hk
      refine h (words_eq a b hl h256 fun k hk => ?_)
      have : k = 0 ∨ k = 1 ∨ k = 2 ∨ k = 3 := by omega
      rcases this with rfl | rfl | rfl | rfl <;> assumption
theorem listsB_eq (a b : List Bool) (hl : a.length = b.length) : (listL a == listL b) = (a == b) := by
  by_cases h : a = b
  · subst h; simp
  · have : (a == b) = false := by simpa using h
    rw [this]
    simpa using fun e => h (lists_eq a b hl e)
def fillTo (l : List Bool) (k : Nat) : List Bool := List.replicate k true ++ l.drop k
theorem fillTo_len (l : List Bool) (k : Nat) (h : k ≤ l.length) : (fillTo l k).length = l.length := by simp [fillTo]; omega
theorem fillTo_zero (l : List Bool) : fillTo l 0 = l := by simp [fillTo]
theorem fillTo_end (l : List Bool) : fillTo l l.length = List.replicate l.length true := by simp [fillTo]
theorem fillTo_set (l : List Bool) (k : Nat) (h : k < l.length) : setL (fillTo l k) (k : Int) true = fillTo l (k + 1) := by
  unfold setL
  rw [inR_nat _ _ (by rw [fillTo_len _ _ (by omega)]; exact h), if_pos rfl, Int.toNat_natCast]
  unfold fillTo
  rw [List.set_append_right _ _ (by simp), show l.drop k = l[k] :: l.drop (k + 1) from List.drop_eq_getElem_cons h]
  rw [List.length_replicate, Nat.sub_self, List.set_cons_zero, List.replicate_succ', List.append_assoc]
  rfl
theorem cnt_all (f : Nat → Bool) : ∀ n, (∀ j, j < n → f j = true) → cnt f n = n
  | 0, _ => rfl
  | n + 1, h => by rw [cnt, cnt_all f n (fun j hj => h j (by omega)), h n (by omega)]; rfl
theorem cnt_lt (f : Nat → Bool) (n j : Nat) (hj : j < n) (hf : f j = false) : cnt f n < n := by
  obtain ⟨d, rfl⟩ : ∃ d, n = j + 1 + d := ⟨n - j - 1, by omega⟩
  rw [cnt_add, cnt, hf]
  have := cnt_le f j
  have := cnt_le (fun i => f (j + 1 + i)) d
  simp
  omega
theorem cntL_full (n : Nat) : cntL (List.replicate n true) = n := by
  unfold cntL cntTo
  rw [List.length_replicate]
  exact cnt_all _ n fun j hj => by simp [List.getD_eq_getElem?_getD, hj]
theorem cntL_eq (l : List Bool) : cntL l = l.length ↔ l = List.replicate l.length true := by
  constructor
  · intro h
    refine list_ext _ _ (by simp) fun j hj => ?_
    cases hb : l.getD j false
    · have := cnt_lt (fun j => l.getD j false) l.length j hj hb
      unfold cntL cntTo at h
      omega
    · simp [List.getD_eq_getElem?_getD, hj]
  · intro h
    rw [h, List.length_replicate]
    exact cntL_full _
def keyL4 (l : List Bool) : List Int := [Bit.word l 0, Bit.word l 1, Bit.word l 2, Bit.word l 3]
theorem keyL4_v (l : List Bool) : keL .u64 (keyL4 l) = .agg (keyV l) := rfl
theorem keyL4_ok (l : List Bool) : okL .u64 4 (keyL4 l) := by
  refine ⟨rfl, fun x hx => ?_⟩
  have hR : ∀ k, (Lit.int .u64 (Bit.word l k)).wf = true := fun k => by
    have := R_word l k
    unfold R at this
    generalize Bit.word l k = y at this
    simp [Lit.wf, IntKind.min, IntKind.max, IntKind.signed, IntKind.bits]
    omega
  simp only [keyL4, List.mem_cons, List.not_mem_nil, or_false] at hx
  rcases hx with rfl | rfl | rfl | rfl <;> exact hR _
theorem keyL4_inj (a b : List Bool) (hl : a.length = b.length) (h256 : a.length ≤ 256) : keyL4 a = keyL4 b ↔ a = b := by
  constructor
  · intro h
    simp only [keyL4, List.cons.injEq, and_true] at h
    obtain ⟨h0, h1, h2, h3⟩ := h
    refine words_eq a b hl h256 fun k hk => ?_
    have : k = 0 ∨ k = 1 ∨ k = 2 ∨ k = 3 := by omega
    rcases this with rfl | rfl | rfl | rfl <;> assumption
  · rintro rfl; rfl
theorem keyAs4 : KeyAs Tryd.prog 46 (keL .u64) (okL .u64 4) :=
  keyL_arr (m := Tryd.prog.types.size - 1) (by kernel_rfl) (by kernel_rfl : Tryd.prog.underlying 46 = some (.array 4 44)) (by kernel_rfl : Tryd.prog.underlying 44 = some (.int .u64)) (by kernel_rfl) (by kernel_rfl) (by kernel_rfl) (by kernel_rfl) (of_decide_eq_true (by kernel_rfl)) (by kernel_rfl)
theorem lawK4 : WideMaps.KeyLaw Tryd.prog 46 :=
  law_of (by kernel_rfl) (by kernel_rfl : Tryd.prog.underlying 46 = some (.array 4 44)) rfl (of_decide_eq_true (by kernel_rfl)) (by kernel_rfl)
theorem zero_int (w : World) : (zeroValue 3).run Tryd.prog w = .ok (.int .i64 0) w := by kernel_rfl
set_option maxHeartbeats 8000000 in
set_option maxRecDepth 100000 in
theorem bits_keys (w : World) (n : Int) (A : Option Addr) (ca : Nat) (xs : List Ask) (B : Option Addr) (cb : Nat) (ys : List Ask) (hT : Tab w) (hx : Asks w A xs) (_ : xs.length ≤ maxLen) (hy : Asks w B ys) (_ : ys.length ≤ maxLen) (hn : -9223372036854775808 ≤ n ∧ n ≤ 9223372036854775807) :
    Calls Tryd.prog 4 #[.int .i64 n, .slice A xs.length ca, .slice B ys.length cb] w fun e w' => e = .returned (.bool true) ∧ Below w.heap.size w w' := by
  have HT := Lib.hid hT
  have HX := Lib.hid hx
  have HY := Lib.hid hy
  clear hx hy
  have hmax : maxLen < 9223372036854775808 := by decide
  go_enter Tryd.func4, Tryd.ntmps4
  go_wp2_with fail
  refine (alive_calls w HT.out).mono ?_
  rintro e w1 ⟨rfl, hb1⟩
  have HT1 := Lib.hid (HT.out.below hb1)
  have HX1 := Lib.hid (HX.out.below hb1)
  have HY1 := Lib.hid (HY.out.below hb1)
  have hz1 := hb1.size
  have hw0 : 0 < w1.heap.size := HT1.out.1
  by_cases hbig : n < 0 ∨ 256 < n ∨ 300 < (xs.length : Int) ∨ 300 < (ys.length : Int)
  · clear hT hz1 hw0
    by_cases h5 : n < 0
    · clear hbig
      go_wp2_with fail
      go_ret
      exact ⟨rfl, hb1⟩
    · by_cases h6 : 256 < n
      · clear hbig
        go_wp2_with fail
        go_ret
        exact ⟨rfl, hb1⟩
      · by_cases h7 : 300 < (xs.length : Int)
        · clear hbig
          go_wp2_with fail
          go_ret
          exact ⟨rfl, hb1⟩
        · have h8 : 300 < (ys.length : Int) := by omega
          clear hbig
          go_wp2_with fail
          go_ret
          exact ⟨rfl, hb1⟩
  · obtain ⟨m, rfl⟩ := Int.eq_ofNat_of_zero_le (show 0 ≤ n by omega)
    have g6 : ¬ 256 < (m : Int) := by omega
    have g7 : ¬ 300 < (xs.length : Int) := by omega
    have g7' : ¬ 300 < (ys.length : Int) := by omega
    have g8 : m ≤ 256 := by omega
    have g9 : xs.length ≤ 1000000 := by omega
    have g9' : ys.length ≤ 1000000 := by omega
    have g0 : (0 : Int) ≤ (m : Int) := by omega
    clear hbig hn hT
    go_wp2_with fail
    refine (new_yes w1 m (by omega) hw0).mono ?_
    rintro e w2 ⟨p, g, rfl, hR, hp, hg, hb2⟩
    have HR2 := Lib.hid hR
    have hbb2 := below_then hb1 hb2
    have hz2 := hbb2.size
    have HT2 := Lib.hid (HT1.out.below hb2)
    have hw2 : 0 < w2.heap.size := HT2.out.1
    clear hR hb2 HX1 HY1 hb1 HT1
    generalize nwords m = cc at HR2
    go_wp2_with fail
    refine (new_yes w2 m (by omega) hw2).mono ?_
    rintro e w3 ⟨p', g', rfl, hR, hp', hg', hb3⟩
    have HQ3 := Lib.hid hR
    have HR3 := Lib.hid (HR2.out.below hb3)
    have HPG := Lib.hid (And.intro HR2.out.head.lt HR2.out.row.lt)
    have HPG' := Lib.hid (And.intro hR.head.lt hR.row.lt)
    have hbb3 := below_then hbb2 hb3
    have hz3 := hbb3.size
    have HO := Lib.hid (show w.heap.size ≤ g ∧ w.heap.size ≤ g' ∧ w2.heap.size ≤ p' ∧ w2.heap.size ≤ g' from ⟨by omega, by omega, hp', hg'⟩)
    clear hR hb3 HR2 hbb2 HT2 hp hg hp' hg'
    generalize nwords m = cc' at HQ3
    go_wp2_with (at_make; refine make_row _ rfl _ _ 28 rfl 4 Tryd.underlying28 (.bool false) 1 rfl info_bool _ _ m rfl rfl (by omega) (by decide) ?_)
    intro w4 hrow hlt4 hb4
    have hB4 : BoolsAt w4 w3.heap.size m (List.replicate m false) := by
      unfold BoolsAt
      rw [List.map_replicate]
      exact hrow
    have HB4 := Lib.hid hB4
    have HR4 := Lib.hid (HR3.out.below hb4)
    have HQ4 := Lib.hid (HQ3.out.below hb4)
    have hbb4 := below_then hbb3 hb4
    have hz4 := hbb4.size
    have HX4 := Lib.hid (HX.out.below hbb4)
    have n3 : ∀ b o, xs ≠ [] → A = some ⟨b, o, none⟩ → b ≠ g ∧ b ≠ w3.heap.size := by
      rintro b o hne rfl
      obtain ⟨b', o', e, ht⟩ := HX.out 0 (List.length_pos_iff.2 hne)
      injection e with e
      injection e with e1 e2
      subst e1
      have := ht.lt
      have := HO.out
      omega
    have D1 := do_calls w4 p g cc w3.heap.size m m (List.replicate m false) A ca xs HR4.out HB4.out HX4.out g9 (by have := HPG.out; have := HPG'.out; have := HO.out; omega) (by have := HPG.out; have := HPG'.out; have := HO.out; omega) n3 (by simp)
    have HD1 := Lib.hid D1
    clear hrow hB4 hb4 hbb3 HR3 HQ3 n3 D1
    go_wp2_with fail
    refine HD1.out.mono ?_
    rintro e w5 ⟨rfl, hD, hK⟩
    have hl1 : (doAll (List.replicate m false) xs).length = m := by rw [doAll_len]; simp
    generalize doAll (List.replicate m false) xs = l at hD hl1
    have HR5 := Lib.hid hD.own
    have HQ5 := Lib.hid (HQ4.out.kept hK (by have := HPG.out; have := HPG'.out; have := HO.out; simp; omega) (by have := HPG.out; have := HPG'.out; have := HO.out; simp; omega))
    have hbb5 := below_kept hbb4 hK hz4 (by have := HO.out; simp; omega)
    have hz5 := hbb5.size
    have hz35 : w3.heap.size ≤ w5.heap.size := Nat.le_trans (Nat.le_of_lt hlt4) hK.size
    have HPG5 := Lib.hid (show p < w5.heap.size ∧ g < w5.heap.size ∧ p' < w5.heap.size ∧ g' < w5.heap.size ∧ p' ≠ p ∧ p' ≠ g ∧ g' ≠ p ∧ g' ≠ g from by have := HPG.out; have := HPG'.out; have := HO.out; omega)
    have Hl1 := Lib.hid hl1
    clear hD hK HR4 HQ4 HB4 HX4 hbb4 HD1 hlt4 hz35 HPG HPG' hl1
    go_wp2_with (at_make; refine make_row _ rfl _ _ 28 rfl 4 Tryd.underlying28 (.bool false) 1 rfl info_bool _ _ m rfl rfl (by omega) (by decide) ?_)
    intro w6 hrow hlt6 hb6
    have hB6 : BoolsAt w6 w5.heap.size m (List.replicate m false) := by
      unfold BoolsAt
      rw [List.map_replicate]
      exact hrow
    have HB6 := Lib.hid hB6
    have HR6 := Lib.hid (HR5.out.below hb6)
    have HQ6 := Lib.hid (HQ5.out.below hb6)
    have hbb6 := below_then hbb5 hb6
    have hz6 := hbb6.size
    have HY6 := Lib.hid (HY.out.below hbb6)
    have n3 : ∀ b o, ys ≠ [] → B = some ⟨b, o, none⟩ → b ≠ g' ∧ b ≠ w5.heap.size := by
      rintro b o hne rfl
      obtain ⟨b', o', e, ht⟩ := HY.out 0 (List.length_pos_iff.2 hne)
      injection e with e
      injection e with e1 e2
      subst e1
      have := ht.lt
      have := HO.out
      omega
    have D1 := do_calls w6 p' g' cc' w5.heap.size m m (List.replicate m false) B cb ys HQ6.out HB6.out HY6.out g9' (by have := HPG5.out; omega) (by have := HPG5.out; omega) n3 (by simp)
    have HD1 := Lib.hid D1
    clear hrow hB6 hb6 hbb5 HR5 HQ5 n3 D1
    go_wp2_with fail
    refine HD1.out.mono ?_
    rintro e w7 ⟨rfl, hD, hK⟩
    have hl2 : (doAll (List.replicate m false) ys).length = m := by rw [doAll_len]; simp
    generalize doAll (List.replicate m false) ys = l' at hD hl2
    have HQ7 := Lib.hid hD.own
    have HR7 := Lib.hid (HR6.out.kept hK (by have := HPG5.out; simp; omega) (by have := HPG5.out; simp; omega))
    have hbb7 := below_kept hbb6 hK hz6 (by have := HO.out; simp; omega)
    have hz7 := hbb7.size
    have HT7 := Lib.hid (HT.out.below hbb7)
    have Hl2 := Lib.hid hl2
    clear hD hK HR6 HQ6 HB6 HY6 hbb6 HD1 hlt6 HPG5 hl2 HO
    go_wp2_with fail
    have hx1 := Hl1.out
    have hx2 := Hl2.out
    have HK1 := Lib.hid (key_calls w7.drew p g cc l (HR7.out.drewN 1))
    have EK := Lib.hid (fun w9 => show (Op.equalIn 10000 46 (.agg (keyV l)) (.agg (keyV l'))).run Tryd.prog w9 = .ok (l == l') w9 by
      rw [← keysB_eq l l' (by omega) (by omega)]
      exact eq_key w9 _ _ _ _ _ _ _ _)
    have HLL := Lib.hid (show (listL l == listL l') = (l == l') from listsB_eq l l' (by omega))
    have HLm := Lib.hid (show (listL l).length ≤ maxLen by have := listL_len l; unfold maxLen; omega)
    have ek := EK.out
    clear hx1 hx2 EK
    go_region_held3 (fun _ => True) (exact trivial)
      ((first
        | (go_at_call 26; with_reducible refine (Calls.mono HK1.out ?_); rintro e w8 ⟨rfl, hb8'⟩; have hb8 := undrew hb8'; clear hb8')
        | (go_at_call 26; with_reducible refine (Calls.mono (key_calls w8 p' g' cc' l' (HQ7.out.below hb8)) ?_); rintro e w9 ⟨rfl, hb9'⟩; have hb9 := below_then hb8 hb9'; clear hb9')
        | (go_at_call 19; with_reducible refine (Calls.mono (list_calls w9 p g cc l (HR7.out.below hb9) (HT7.out.below hb9)) ?_); rintro e w10 ⟨v1, rfl, hL1, hb10'⟩; have hb10 := below_then hb9 hb10'; obtain ⟨A1, c1, rfl, hI1⟩ := hL1.shape; have HI1 := Lib.hid hI1; clear hL1 hI1 hb10')
        | (go_at_call 19; with_reducible refine (Calls.mono (list_calls w10 p' g' cc' l' (HQ7.out.below hb10) (HT7.out.below hb10)) ?_); rintro e w11 ⟨v2, rfl, hL2, hb11'⟩; have hb11 := below_then hb10 hb11'; obtain ⟨A2, c2, rfl, hI2⟩ := hL2.shape; have HI11 := Lib.hid (HI1.out.below hb11'); have HI2 := Lib.hid hI2; clear hL2 hI2 hb11')
        | (go_at_call 18; with_reducible refine (Calls.mono (same_ints (listL l) (listL l') A1 A2 c1 c2 w11 HI11.out HI2.out HLm.out) ?_); rw [HLL.out]; rintro e w12 ⟨rfl, nq, rfl⟩)))
    have hb12 := below_drewN hb11 nq
    have HR12 := Lib.hid (HR7.out.below hb12)
    have hbb12 := below_then hbb7 hb12
    have hz12 := hbb12.size
    generalize w11.drewN nq = w12 at HR12 hbb12 hz12 ⊢
    clear hb8 hb9 hb10 hb11 hb12 hbb7 HR7 HQ7 HT7 HI11 HI1 HI2 HLL HLm HK1 ek
    go_wp2_with fail
    refine (clone_calls w12 p g cc l HR12.out).mono ?_
    rintro e w13 ⟨pc, gc, cx, rfl, hC, hp6, hg6, hb13⟩
    have HC13 := Lib.hid hC
    have HR13 := Lib.hid (HR12.out.below hb13)
    have HN := Lib.hid (show p ≠ gc ∧ g ≠ gc ∧ w.heap.size ≤ gc from by have := HR12.out.head.lt; have := HR12.out.row.lt; omega)
    have hbb13 := below_then hbb12 hb13
    have hz13 := hbb13.size
    clear hC hb13 hbb12 HR12 hp6 hg6
    go_wp2_with fail
    refine (key_calls w13 p g cc l HR13.out).mono ?_
    rintro e w14 ⟨rfl, hb14⟩
    have HR14 := Lib.hid (HR13.out.below hb14)
    have HC14 := Lib.hid (HC13.out.below hb14)
    have hbb14 := below_then hbb13 hb14
    have HBB14 := Lib.hid hbb14
    have hz14 := hbb14.size
    clear hb14 hbb13 HR13 HC13 hbb14
    unfold keyV
    go_wp2_with fail
    have HKB := Lib.hid (Blk.new w14 #[.int .u64 (Bit.word l 0), .int .u64 (Bit.word l 1), .int .u64 (Bit.word l 2), .int .u64 (Bit.word l 3)] 46)
    have hba := (Below.refl w14.heap.size w14).alloc (Nat.le_refl _) (.cells #[.int .u64 (Bit.word l 0), .int .u64 (Bit.word l 1), .int .u64 (Bit.word l 2), .int .u64 (Bit.word l 3)] 46)
    have HR15 := Lib.hid (HR14.out.below hba)
    have HC15 := Lib.hid (HC14.out.below hba)
    have HBB15 := Lib.hid (below_then HBB14.out hba)
    have HN' := Lib.hid (show w.heap.size ≤ w14.heap.size ∧ w14.heap.size ≠ gc from by have := HC14.out.row.lt; omega)
    clear hba HR14 HC14 HBB14
    generalize (w14.alloc (.cells #[.int .u64 (Bit.word l 0), .int .u64 (Bit.word l 1), .int .u64 (Bit.word l 2), .int .u64 (Bit.word l 3)] 46)) = w15 at HKB HR15 HC15 HBB15 ⊢
    generalize w14.heap.size = kb at HKB HN' ⊢
    go_loopw [13] (fun i wr => ∃ k : Nat, k ≤ m ∧ i = .int .i64 k ∧ RowAt wr pc gc cx (fillTo l k) ∧ RowAt wr p g cc l ∧ Blk wr kb #[.int .u64 (Bit.word l 0), .int .u64 (Bit.word l 1), .int .u64 (Bit.word l 2), .int .u64 (Bit.word l 3)] 46 ∧ Below w.heap.size w wr) (fun i _ => m - (intOf i).toNat)
    case atStart => exact ⟨0, by omega, rfl, by rw [fillTo_zero]; exact HC15.out, HR15.out, HKB.out, HBB15.out⟩
    case round =>
      obtain ⟨k, hk, rfl, hC, hR, hKb, hB⟩ := hrel
      have HC := Lib.hid hC
      have HKb := Lib.hid hKb
      have HR := Lib.hid hR
      have HB := Lib.hid hB
      have hzr := hB.size
      clear hC hR hB hKb HC15 HR15 HBB15 HKB
      have hk0 : (0 : Int) ≤ (k : Int) := by omega
      by_cases hlt : k < m
      · have hlt' : (k : Int) < (m : Int) := by omega
        have S := set_calls wr pc gc cx (fillTo l k) k HC.out
        unfold PutGives at S
        rw [fillTo_set l k (by have := Hl1.out; omega)] at S
        have HS := Lib.hid S
        clear S
        go_wp2_with fail
        refine HS.out.mono ?_
        rintro e w15 ⟨rfl, hC, hK⟩
        have HK := Lib.hid hK
        have HC15 := Lib.hid hC
        clear hC hK
        go_wp2_with fail
        go_roundw
        case rel => exact ⟨k + 1, by omega, by go_num, HC15.out, HR.out.kept HK.out (by have := HN.out; simp; omega) (by have := HN.out; simp; omega), HKb.out.kept HK.out (by have := HN'.out; simp; omega), below_kept HB.out HK.out hzr (by have := HN.out; simp; omega)⟩
        case measure => simp [intOf]; omega
      · obtain rfl : k = m := by omega
        have hfe : fillTo l k = List.replicate k true := by
          have := fillTo_end l
          rw [Hl1.out] at this
          exact this
        rw [hfe] at HC
        have c0 := HKb.out.cell (o := 0) rfl
        have c1 := HKb.out.cell (o := 1) rfl
        have c2 := HKb.out.cell (o := 2) rfl
        have c3 := HKb.out.cell (o := 3) rfl
        have hmm := @run_makeMap Tryd.prog
        have HM0 := Lib.hid (MapI.made wr Tryd.prog 46 3 .i64 (keL .u64) (okL .u64 4))
        have hba := (Below.refl wr.heap.size wr).alloc (Nat.le_refl _) (.map #[] 0)
        have HR0 := Lib.hid (HR.out.below hba)
        have HC0 := Lib.hid (HC.out.below hba)
        have HKb0 := Lib.hid (HKb.out.below hba)
        have HB0 := Lib.hid (below_then HB.out hba)
        have HMN := Lib.hid (show w.heap.size ≤ wr.heap.size ∧ p ≠ wr.heap.size ∧ g ≠ wr.heap.size ∧ pc ≠ wr.heap.size ∧ gc ≠ wr.heap.size ∧ kb ≠ wr.heap.size from by
          have := HR.out.head.lt; have := HR.out.row.lt; have := HC.out.head.lt; have := HC.out.row.lt; have := HKb.out.lt; omega)
        clear hba HC HR HB HKb
        go_wp2_with fail
        generalize wr.alloc (.map #[] 0) = W0 at HM0 HR0 HC0 HKb0 HB0 ⊢
        generalize wr.heap.size = mb at HM0 HMN ⊢
        clear c0 c1 c2 c3
        have c0 := HKb0.out.cell (o := 0) rfl
        have c1 := HKb0.out.cell (o := 1) rfl
        have c2 := HKb0.out.cell (o := 2) rfl
        have c3 := HKb0.out.cell (o := 3) rfl
        have hz0 := HB0.out.size
        obtain ⟨v0, st, w16, e1, e2, e3, hk1, hst⟩ := (HM0.out.drew).bump keyAs4 lawK4 Tryd.underlying50 Tryd.underlying3 zero_int (by decide) (keyL4_ok l)
        obtain ⟨w17, e4, hM1, hk2⟩ := hst 1 (by decide)
        clear hst
        have e1' : (Instr.mapEntry 50 (.map (some mb)) (.agg #[.int .u64 (Bit.word l 0), .int .u64 (Bit.word l 1), .int .u64 (Bit.word l 2), .int .u64 (Bit.word l 3)])).run Tryd.prog W0.drew = .ok (.tuple #[v0, .int .i64 st]) w16 := e1
        have e2' : (Instr.lookup 50 (.map (some mb)) (.agg #[.int .u64 (Bit.word l 0), .int .u64 (Bit.word l 1), .int .u64 (Bit.word l 2), .int .u64 (Bit.word l 3)]) false).run Tryd.prog W0.drew = .ok (.int .i64 0) W0.drew := e2
        have e3' : (Instr.lookup 50 (.map (some mb)) (.agg #[.int .u64 (Bit.word l 0), .int .u64 (Bit.word l 1), .int .u64 (Bit.word l 2), .int .u64 (Bit.word l 3)]) false).run Tryd.prog w16 = .ok (.int .i64 0) w16 := e3
        have e4' : (Instr.entryStore 50 (.map (some mb)) (.int .i64 st) (.int .i64 (IntKind.i64.wrap 1))).run Tryd.prog w16 = .ok () w17 := e4
        clear e1 e2 e3
        have HK16 := Lib.hid ((HKb0.out.drewN 1 : Blk W0.drew _ _ _).kept hk1 (by have := HMN.out; simp; omega))
        have HK17 := Lib.hid ((HKb0.out.drewN 1 : Blk W0.drew _ _ _).kept hk2 (by have := HMN.out; simp; omega))
        go_cut [] (fun wc => w17 = wc)
        case first =>
          go_region_held3 (fun w' => w'.cell? ⟨kb, 0, none⟩ = some (.int .u64 (Bit.word l 0)) ∧ w'.cell? ⟨kb, 1, none⟩ = some (.int .u64 (Bit.word l 1)) ∧ w'.cell? ⟨kb, 2, none⟩ = some (.int .u64 (Bit.word l 2)) ∧ w'.cell? ⟨kb, 3, none⟩ = some (.int .u64 (Bit.word l 3)))
            (first | exact ⟨c0, c1, c2, c3⟩ | exact ⟨HK16.out.cell (o := 0) rfl, HK16.out.cell (o := 1) rfl, HK16.out.cell (o := 2) rfl, HK16.out.cell (o := 3) rfl⟩ | exact ⟨HK17.out.cell (o := 0) rfl, HK17.out.cell (o := 1) rfl, HK17.out.cell (o := 2) rfl, HK17.out.cell (o := 3) rfl⟩)
            (fail)
          all_goals (go_wp2_with fail; go_meet; exact rfl)
        case rest =>
        obtain rfl := hcut
        have hKK : keyL4 (List.replicate k true) = keyL4 l ↔ List.replicate k true = l := keyL4_inj _ _ (by simp; have := Hl1.out; omega) (by simp; omega)
        have hzd : w17.heap.size = w17.heap.size := rfl
        have HRz := Lib.hid (HR0.out.kept (undrewK hk2) (by have := HMN.out; simp; omega) (by have := HMN.out; simp; omega))
        have HCz := Lib.hid (HC0.out.kept (undrewK hk2) (by have := HMN.out; simp; omega) (by have := HMN.out; simp; omega))
        have HBz := Lib.hid (below_kept HB0.out (undrewK hk2) hz0 (by have := HMN.out; simp; omega))
        have hM1' : MapI w17 Tryd.prog 46 3 .i64 (keL .u64) (okL .u64 4) mb 1 (upd (fun _ => none) (keyL4 l) (some 1)) := hM1
        obtain ⟨cv, hcv⟩ : ∃ cv, cv = ((upd (fun _ => none) (keyL4 l) (some 1)) (keyL4 (List.replicate k true))).getD 0 := ⟨_, rfl⟩
        obtain ⟨n2, hn2⟩ : ∃ n2, n2 = (if ((upd (fun _ => none) (keyL4 l) (some 1)) (keyL4 (List.replicate k true))).isSome = true then 1 else 1 + 1) := ⟨_, rfl⟩
        have HMM := Lib.hid hM1'
        have hcv1 : 0 ≤ cv ∧ cv ≤ 1 := by rw [hcv]; unfold upd; split <;> simp
        have HB2 : ∀ w18, Below w17.heap.size w17 w18 → ∃ (v0 : Value) (st : Nat) (w19 w20 : World),
            (Instr.mapEntry 50 (.map (some mb)) (.agg (keyV (List.replicate k true)))).run Tryd.prog w18 = .ok (.tuple #[v0, .int .i64 st]) w19 ∧
            (Instr.lookup 50 (.map (some mb)) (.agg (keyV (List.replicate k true))) false).run Tryd.prog w18 = .ok (.int .i64 cv) w18 ∧
            (Instr.lookup 50 (.map (some mb)) (.agg (keyV (List.replicate k true))) false).run Tryd.prog w19 = .ok (.int .i64 cv) w19 ∧
            (Instr.entryStore 50 (.map (some mb)) (.int .i64 st) (.int .i64 (cv + 1))).run Tryd.prog w19 = .ok () w20 ∧
            (∃ g2, MapI w20 Tryd.prog 46 3 .i64 (keL .u64) (okL .u64 4) mb n2 g2) ∧ Kept [mb] w18 w20 := by
          intro w18 hb18
          obtain ⟨v0, st, w19, e1, e2, e3, _, hst⟩ := (HMM.out.below hb18).bump keyAs4 lawK4 Tryd.underlying50 Tryd.underlying3 zero_int (by decide) (keyL4_ok (List.replicate k true))
          obtain ⟨w20, e4, hM2, hk2⟩ := hst (cv + 1) (by simp [Lit.wf, IntKind.min, IntKind.max, IntKind.signed, IntKind.bits]; omega)
          rw [← hcv] at e2 e3
          rw [← hn2] at hM2
          exact ⟨v0, st, w19, w20, e1, e2, e3, e4, ⟨_, hM2⟩, hk2⟩
        have HBB2 := Lib.hid HB2
        have HK2 := Lib.hid (key_calls w17.drew pc gc cx (List.replicate k true) (HCz.out.drewN 1))
        have Hcv := Lib.hid hcv
        have Hn2 := Lib.hid hn2
        have HKK := Lib.hid hKK
        clear hKK hzd hM1' hM1 HB2 hcv hn2 hk2 hk1 e1' e2' e3' e4' e4 HK16 HR0 HC0 HB0 HM0 c0 c1 c2 c3
        go_wp2_with fail
        go_cut [] (fun wc => RowAt wc p g cc l ∧ RowAt wc pc gc cx (List.replicate k true) ∧ Blk wc kb #[.int .u64 (Bit.word l 0), .int .u64 (Bit.word l 1), .int .u64 (Bit.word l 2), .int .u64 (Bit.word l 3)] 46 ∧ (∃ g2, MapI wc Tryd.prog 46 3 .i64 (keL .u64) (okL .u64 4) mb n2 g2) ∧ Below w.heap.size w wc)
        case first =>
          go_region_held3 (fun _ => True) (exact trivial)
            ((first
              | (go_at_call 26; with_reducible refine (Calls.mono HK2.out ?_); rintro e w18 ⟨rfl, hb18'⟩; have hb18 := undrew hb18'; clear hb18'; obtain ⟨v1, st1, w19, w20, e1, e2, e3, e4, hM2, hk3⟩ := HBB2.out w18 hb18; have e4' : (Instr.entryStore 50 (.map (some mb)) (.int .i64 st1) (.int .i64 (IntKind.i64.wrap (cv + 1)))).run Tryd.prog w19 = .ok () w20 := by rw [IntWalk.i64_in _ (by omega)]; exact e4)))
          all_goals
            go_wp2_with fail
            go_meet
            have hb1 := below_then HBz.out hb18
            exact ⟨(HRz.out.below hb18).kept hk3 (by have := HMN.out; simp; omega) (by have := HMN.out; simp; omega), (HCz.out.below hb18).kept hk3 (by have := HMN.out; simp; omega) (by have := HMN.out; simp; omega), (HK17.out.below hb18).kept hk3 (by have := HMN.out; simp; omega), hM2, below_kept hb1 hk3 hb1.size (by have := HMN.out; simp; omega)⟩
        case rest =>
        obtain ⟨hR, hC, hKb, ⟨g2, hM⟩, hB⟩ := hcut
        rename_i wc
        have HR := Lib.hid hR
        have HC := Lib.hid hC
        have HKb := Lib.hid hKb
        have HM := Lib.hid hM
        have HB := Lib.hid hB
        clear hR hC hKb hM hB HRz HCz HK17 HBz HMM HBB2 HK2
        have ek : ∀ w9, (Op.equalIn 10000 46 (.agg #[.int .u64 (Bit.word l 0), .int .u64 (Bit.word l 1), .int .u64 (Bit.word l 2), .int .u64 (Bit.word l 3)]) (.agg #[.int .u64 (Bit.word l 0), .int .u64 (Bit.word l 1), .int .u64 (Bit.word l 2), .int .u64 (Bit.word l 3)])).run Tryd.prog w9 = .ok true w9 := by
          intro w9
          have h1 := Hl1.out
          rw [eq_key]
          simp
        by_cases hfull : List.replicate k true = l
        · have hcn : cntL l = k := by rw [← hfull]; exact cntL_full k
          have hnn : n2 = 1 := by rw [Hn2.out]; unfold upd; rw [if_pos (HKK.out.2 hfull)]; rfl
          subst hnn
          have C1 := count_calls wc p g cc l HR.out
          rw [hcn] at C1
          have HC1 := Lib.hid C1
          clear C1
          go_wp2_with fail
          refine HC1.out.mono ?_
          rintro e w21 ⟨rfl, rfl⟩
          go_wp2_with fail
          have c0 := HKb.out.cell (o := 0) rfl
          have c1 := HKb.out.cell (o := 1) rfl
          have c2 := HKb.out.cell (o := 2) rfl
          have c3 := HKb.out.cell (o := 3) rfl
          have hlen0 := (HM.out.drew).len Tryd.underlying50 3
          have HK5 := Lib.hid (key_calls wc.drew p g cc l (HR.out.drewN 1))
          go_region_held3 (fun w' => w'.cell? ⟨kb, 0, none⟩ = some (.int .u64 (Bit.word l 0)) ∧ w'.cell? ⟨kb, 1, none⟩ = some (.int .u64 (Bit.word l 1)) ∧ w'.cell? ⟨kb, 2, none⟩ = some (.int .u64 (Bit.word l 2)) ∧ w'.cell? ⟨kb, 3, none⟩ = some (.int .u64 (Bit.word l 3)) ∧ (Builtin.len_ #[50] 3 #[.map (some mb)]).run Tryd.prog w' = .ok (.int .i64 1) w')
            (first | exact ⟨c0, c1, c2, c3, hlen0⟩ | exact ⟨(HKb.out.below hb22).cell (o := 0) rfl, (HKb.out.below hb22).cell (o := 1) rfl, (HKb.out.below hb22).cell (o := 2) rfl, (HKb.out.below hb22).cell (o := 3) rfl, hlen⟩)
            ((first
              | (go_at_call 26; with_reducible refine (Calls.mono HK5.out ?_); unfold keyV; rintro e w22 ⟨rfl, hb22'⟩; have hb22 := undrew hb22'; clear hb22'; have hlen := (HM.out.below hb22).len Tryd.underlying50 3)
              | (go_at_call 17; with_reducible refine (Calls.mono (count_calls w22 pc gc cx (List.replicate k true) (HC.out.below hb22)) ?_); rw [cntL_full]; rintro e w23 ⟨rfl, rfl⟩)))
          all_goals
            go_wp2_with fail
            go_ret
            exact ⟨rfl, below_then HB.out hb22⟩
        · have hcn : cntL l ≠ k := by
            intro e
            have := (cntL_eq l).1 (by rw [e]; exact Hl1.out.symm)
            rw [Hl1.out] at this
            exact hfull this.symm
          have hnn : n2 = 2 := by rw [Hn2.out]; unfold upd; rw [if_neg (fun e => hfull (HKK.out.1 e))]; rfl
          subst hnn
          have C1 := count_calls wc p g cc l HR.out
          have hcq : ((cntL l : Nat) : Int) ≠ (k : Int) := by omega
          generalize cntL l = q at C1 hcq
          have HC1 := Lib.hid C1
          have hcq' : ((q : Int) == (k : Int)) = false := by simpa using hcq
          clear C1 hcq hcn
          go_wp2_with fail
          refine HC1.out.mono ?_
          rintro e w21 ⟨rfl, rfl⟩
          go_wp2_with fail
          have c0 := HKb.out.cell (o := 0) rfl
          have c1 := HKb.out.cell (o := 1) rfl
          have c2 := HKb.out.cell (o := 2) rfl
          have c3 := HKb.out.cell (o := 3) rfl
          have hlen0 := (HM.out.drew).len Tryd.underlying50 3
          have HK5 := Lib.hid (key_calls wc.drew p g cc l (HR.out.drewN 1))
          go_region_held3 (fun w' => w'.cell? ⟨kb, 0, none⟩ = some (.int .u64 (Bit.word l 0)) ∧ w'.cell? ⟨kb, 1, none⟩ = some (.int .u64 (Bit.word l 1)) ∧ w'.cell? ⟨kb, 2, none⟩ = some (.int .u64 (Bit.word l 2)) ∧ w'.cell? ⟨kb, 3, none⟩ = some (.int .u64 (Bit.word l 3)) ∧ (Builtin.len_ #[50] 3 #[.map (some mb)]).run Tryd.prog w' = .ok (.int .i64 2) w')
            (first | exact ⟨c0, c1, c2, c3, hlen0⟩ | exact ⟨(HKb.out.below hb22).cell (o := 0) rfl, (HKb.out.below hb22).cell (o := 1) rfl, (HKb.out.below hb22).cell (o := 2) rfl, (HKb.out.below hb22).cell (o := 3) rfl, hlen⟩)
            ((first
              | (go_at_call 26; with_reducible refine (Calls.mono HK5.out ?_); unfold keyV; rintro e w22 ⟨rfl, hb22'⟩; have hb22 := undrew hb22'; clear hb22'; have hlen := (HM.out.below hb22).len Tryd.underlying50 3)
              | (go_at_call 17; with_reducible refine (Calls.mono (count_calls w22 pc gc cx (List.replicate k true) (HC.out.below hb22)) ?_); rw [cntL_full]; rintro e w23 ⟨rfl, rfl⟩)))
          all_goals
            go_wp2_with fail
            go_ret
            exact ⟨rfl, below_then HB.out hb22⟩
end Go.Proofs.YtknieebmcpgppaaDoor.Bit
