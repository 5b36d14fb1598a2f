/- The law's alive (layer 15). -/
import Derived.Test.YtloflnachpjlgaaNewQ
set_option linter.unusedSimpArgs false
namespace Go.Proofs.Ytloflnachpjlgaa.New
open Go.RowKit Go.Proofs.Ytloflnachpjlgaa.Aid Go.Proofs.Ytloflnachpjlgaa.Cell
theorem nints3 (w : World) (a b c : Int) : Ints (w.alloc (.cells #[.int .i64 a, .int .i64 b, .int .i64 c] IT)) .i64 (some ⟨w.heap.size, 0, none⟩) [a, b, c] := by
  intro k hk
  refine ⟨_, _, rfl, by simp, ?_⟩
  have : k = 0 ∨ k = 1 ∨ k = 2 := by simp at hk; omega
  rcases this with rfl | rfl | rfl <;> go_simp
theorem nints2 (w : World) (a b : Int) : Ints (w.alloc (.cells #[.int .i64 a, .int .i64 b] IT)) .i64 (some ⟨w.heap.size, 0, none⟩) [a, b] := by
  intro k hk
  refine ⟨_, _, rfl, by simp, ?_⟩
  have : k = 0 ∨ k = 1 := by simp at hk; omega
  rcases this with rfl | rfl <;> go_simp
def v0 : Sn := ⟨0, 11, 512, 2, -1, 0⟩
def v1 : Sn := ⟨1024, 0, 8, 128, -1, 0⟩
theorem v0_is : newN 0 11 = v0 := by kernel_rfl
theorem v1_is : newN 1024 0 = v1 := by kernel_rfl
def zb (n : Nat) : List Int := List.replicate n 0
theorem zb_len (n : Nat) : (zb n).length = n := by simp [zb]
theorem zb_byt (n : Nat) : Byt (zb n) := Byt.rep (by omega) (by omega) n
theorem v0_ok {bs : List Int} (h : bs.length = 2048) : newOk bs 0 11 := ⟨by decide, by decide, by omega, by decide⟩
theorem v1_ok {bs : List Int} (h : bs.length = 2048) : newOk bs 1024 0 := ⟨by decide, by decide, by omega, by decide⟩
theorem v0_slots : slotO v0 0 = some 0 ∧ slotO v0 512 = some 1 ∧ slotO v0 8 = none ∧ adr v0 0 = 0 ∧ adr v0 1 = 512 := ⟨by kernel_rfl, by kernel_rfl, by kernel_rfl, by kernel_rfl, by kernel_rfl⟩
theorem v0_free : compl 2 [] = [0, 1] := by kernel_rfl
theorem v1_tk : tkGo 128 [0, 2, 127] [] = some [0, 2, 127] := by kernel_rfl
theorem v1_free : compl 128 (compl 128 [0, 2, 127]) = [0, 2, 127] ∧ (compl 128 [0, 2, 127]).length = 125 := ⟨by decide +kernel, by decide +kernel⟩
theorem v0_word : wordB 0 1 11 = true ∧ wordV 0 1 11 = 7382074224234135554 := ⟨by decide, by decide⟩
theorem v0_unword : wordOk 7382074224234135554 = true ∧ slotOf 7382074224234135554 = 0 ∧ nextOf 7382074224234135554 = 1 ∧ classOf 7382074224234135554 = 11 := ⟨by decide +kernel, by decide, by decide, by decide⟩
/-- The word that the first slot begins with. -/
theorem v0_load {bs : List Int} (hb : Byt bs) (hl : bs.length = 2048) : orTo (newS 0 11 bs []).2 0 8 = 7382074224234135554 := by
  have e : (newS 0 11 bs []).2 = lay (layB v0 bs 1) 0 (bytesTo ((7382074224234135554 : Nat) : Int) 8) := by
    have e0 : (newS 0 11 bs []).2 = lay (layB v0 bs 1) 0 (bytesTo (wordV 0 1 11) 8) := by
      unfold newS
      rw [v0_is, show downs v0.n [] v0.n = [1, 0] from by kernel_rfl]
      rfl
    rw [e0, v0_word.2]
    rfl
  have hok : OkN v0 bs := by
    rw [← v0_is]
    exact newN_ok (v0_ok hl) hb (by omega)
  have h1 : (layB v0 bs 1).length = 2048 := by rw [layB_len hok (by decide)]; exact hl
  have h2 := layB_byt hok (s := 1) (by decide)
  have hl3 : 0 + (bytesTo ((7382074224234135554 : Nat) : Int) 8).length ≤ (layB v0 bs 1).length := by rw [bytesTo_len, h1]; decide
  have h3 := (ld_lt (h2.lay (bytesTo_byt ((7382074224234135554 : Nat) : Int) 8) hl3) (a := 0) (by rw [lay_len _ _ _ hl3, h1]; decide)).1
  rw [e, h3, ldV_same h2 (by rw [h1]; decide) (by decide)]
  rfl
set_option maxHeartbeats 8000000 in
set_option maxRecDepth 100000 in
theorem alive_calls (w : World) : Calls Try.prog 9 #[] w fun e w' => e = .returned (.bool true) ∧ Below w.heap.size w w' := by
  go_enter Try.func9, Try.ntmps9
  go_wp2_with fail
  refine (Cell.new_yes w 2048 (by decide)).mono ?_
  rintro e w1 ⟨mp, mg, rfl, hC, hp, hg, hb⟩
  have H1 := Lib.hid (show CellAt w1 mp mg 2048 (zb 2048) ∧ w.heap.size ≤ mp ∧ w.heap.size ≤ mg ∧ Below w.heap.size w w1 from ⟨hC, hp, hg, hb⟩)
  clear hC hp hg hb
  go_wp2_with fail
  refine (new_calls w1 mp mg 2048 (zb 2048) H1.out.1 0 11 (v0_ok (zb_len _))).mono ?_
  intro e w2 hW
  obtain ⟨p, rfl, hH, hp, hK⟩ := hn_with H1.out.1 H1.out.2.1 H1.out.2.2.1 H1.out.2.2.2 (v0_ok (zb_len _)) hW
  have HL := Lib.hid (v0_load (zb_byt 2048) (zb_len 2048))
  have HLEN := Lib.hid ((newS_ok (v0_ok (zb_len 2048)) H1.out.1.byt H1.out.1.small []).len)
  have HLK := Lib.hid ((newS_ok (v0_ok (zb_len 2048)) H1.out.1.byt H1.out.1.small []).like)
  rw [v0_is] at hH HLK
  rw [show v0.n = 2 from rfl, v0_free] at hH
  rw [zb_len] at HLEN
  generalize (newS 0 11 (zb 2048) []).1 = x at *
  generalize (newS 0 11 (zb 2048) []).2 = bs at *
  have H2 := Lib.hid hH
  clear hH hp hK hW H1
  go_wp2_with fail
  have HW := word_calls 0 1 11 w2
  rw [v0_word.1, v0_word.2, if_pos rfl] at HW
  refine HW.mono ?_
  rintro e w3 ⟨rfl, hb⟩
  have H3 := Lib.hid (H2.out.on hb)
  clear hb H2 HW
  go_wp2_with fail
  have HLD := load_yes w3 mp mg 2048 bs 0 8 H3.out.sn.mem rfl (by rw [HLEN.out]; decide)
  rw [HL.out] at HLD
  refine HLD.mono ?_
  rintro e w4 ⟨rfl, rfl⟩
  clear HLD HL
  go_wp2_with fail
  have HT := H3.out.take_cons
  rw [HLK.out.adr, v0_slots.2.2.2.1] at HT
  refine HT.mono ?_
  rintro e w4 ⟨rfl, hH, _⟩
  have H4 := Lib.hid hH
  have HLK4 := Lib.hid (HLK.out.trans (pop_like x bs))
  clear hH HT H3 HLK
  generalize popX x bs = x4 at *
  go_wp2_with fail
  have HT := H4.out.take_cons
  rw [HLK4.out.adr, v0_slots.2.2.2.2] at HT
  refine HT.mono ?_
  rintro e w5 ⟨rfl, hH, _⟩
  have H5 := Lib.hid hH
  have HLK5 := Lib.hid (HLK4.out.trans (pop_like x4 bs))
  clear hH HT H4 HLK4
  generalize popX x4 bs = x5 at *
  go_wp2_with fail
  refine H5.out.take_nil.mono ?_
  rintro e w6 ⟨rfl, hH, _⟩
  have H6 := Lib.hid hH
  clear hH H5
  go_wp2_with fail
  refine (H6.out.give_ok (a := 0) (k := 0) (by rw [HLK5.out.slot]; exact v0_slots.1) (by simp)).mono ?_
  rintro e w7 ⟨rfl, hH, _⟩
  have H7 := Lib.hid hH
  have HLEN7 := Lib.hid (show (layB x5 bs 0).length = 2048 from by rw [layB_len H6.out.sn.ok (by rw [HLK5.out.n]; decide)]; exact HLEN.out)
  have HLK7 := Lib.hid (HLK5.out.trans (show Like x5 (pushX x5 0) from ⟨rfl, rfl, rfl, rfl⟩))
  clear hH H6 HLK5 HLEN
  generalize pushX x5 0 = x7 at *
  generalize layB x5 bs 0 = b7 at *
  go_wp2_with fail
  refine (H7.out.give_ok (a := 512) (k := 1) (by rw [HLK7.out.slot]; exact v0_slots.2.1) (by decide)).mono ?_
  rintro e w8 ⟨rfl, hH, _⟩
  have H8 := Lib.hid hH
  have HLEN8 := Lib.hid (show (layB x7 b7 1).length = 2048 from by rw [layB_len H7.out.sn.ok (by rw [HLK7.out.n]; decide)]; exact HLEN7.out)
  have HLK8 := Lib.hid (HLK7.out.trans (show Like x7 (pushX x7 1) from ⟨rfl, rfl, rfl, rfl⟩))
  have HHD := Lib.hid (show (pushX x7 1).head = 1 from rfl)
  clear hH H7 HLK7 HLEN7
  generalize pushX x7 1 = x8 at *
  generalize layB x7 b7 1 = b8 at *
  go_wp2_with fail
  refine (H8.out.give_err (all_twice (a := 512) (k := 1) (by rw [HLK8.out.slot]; exact v0_slots.2.1) (by decide)) (by decide)).mono ?_
  rintro e w9 ⟨rfl, hH, _⟩
  have H9 := Lib.hid hH
  clear hH H8
  go_wp2_with fail
  refine (H9.out.give_err (all_none (a := 8) (by rw [HLK8.out.slot]; exact v0_slots.2.2.1)) (by decide)).mono ?_
  rintro e w10 ⟨rfl, hH, _⟩
  have H10 := Lib.hid hH
  clear hH H9
  go_wp2_with fail
  refine H10.out.list.mono ?_
  rintro e w11 ⟨A11, c11, rfl, hI, hH, hA11, _⟩
  have HA11 := Lib.hid (show ∀ b o, A11 = some ⟨b, o, none⟩ → b ∉ [mg] from fun b o e => by
    have h1 := hA11 b o e
    have h2 := H10.out.sn.lts.2.2
    simp
    omega)
  rw [show ([1, 0] : List Nat).length = 2 from rfl]
  have H11 := Lib.hid (And.intro hH hI)
  clear hH hI H10 hA11
  go_wp2_with fail
  have HU := unword_calls 7382074224234135554 (by decide) w11
  rw [v0_unword.1, if_pos rfl, v0_unword.2.1, v0_unword.2.2.1, v0_unword.2.2.2, show ((7382074224234135554 : Nat) : Int) = 7382074224234135554 from rfl, show ((0 : Nat) : Int) = 0 from rfl, show ((11 : Nat) : Int) = 11 from rfl] at HU
  refine HU.mono ?_
  rintro e w12 ⟨rfl, hb⟩
  have H12 := Lib.hid (And.intro (H11.out.1.on hb) (H11.out.2.below hb))
  clear hb HU H11
  go_wp2_with fail
  have hba := (Below.refl w12.heap.size w12).alloc (Nat.le_refl _) (.cells #[.int .i64 0, .int .i64 2, .int .i64 127] IT)
  have HI := Lib.hid (nints3 w12 0 2 127)
  have H13 := Lib.hid (And.intro (H12.out.1.on hba) (H12.out.2.below hba))
  have HWZ := Lib.hid (show w12.heap.size < (w12.alloc (.cells #[.int .i64 0, .int .i64 2, .int .i64 127] IT)).heap.size from by simp)
  clear hba H12
  generalize w12.alloc (.cells #[.int .i64 0, .int .i64 2, .int .i64 127] IT) = w13 at *
  have HWI := with_yes w13 mp mg 2048 b8 H13.out.1.sn.mem 1024 0 (v1_ok HLEN8.out) (some ⟨w12.heap.size, 0, none⟩) 3 [0, 2, 127] HI.out (by decide)
  rw [v1_is, show v1.n = 128 from rfl, v1_tk] at HWI
  refine HWI.mono ?_
  intro e w14 hW
  obtain ⟨q, rfl, hH, hq, hK⟩ := hn_with H13.out.1.sn.mem H13.out.1.b2 H13.out.1.b3 H13.out.1.below (v1_ok HLEN8.out) hW
  have HLKq := Lib.hid ((newS_ok (v1_ok HLEN8.out) H13.out.1.sn.mem.byt H13.out.1.sn.mem.small [0, 2, 127]).like)
  have HLNq := Lib.hid ((newS_ok (v1_ok HLEN8.out) H13.out.1.sn.mem.byt H13.out.1.sn.mem.small [0, 2, 127]).len)
  rw [v1_is] at hH HLKq
  rw [show v1.n = 128 from rfl] at hH
  generalize (newS 1024 0 b8 [0, 2, 127]).1 = y at *
  generalize (newS 1024 0 b8 [0, 2, 127]).2 = bq at *
  have H14 := Lib.hid (And.intro hH (show SnP w14 p mp mg 2048 x8 bq from ⟨H13.out.1.sn.head.kept hK (by simp; exact H13.out.1.sn.n2), hH.sn.mem, H13.out.1.sn.n1, H13.out.1.sn.n2, H13.out.1.sn.ok.bytes HLNq.out hH.sn.mem.byt⟩))
  have HI14 := Lib.hid (intsK H13.out.2 hK HA11.out)
  clear hH hK hq hW HWI H13 HI HWZ HLEN8 HLNq
  go_wp2_with fail
  have HT := H14.out.1.taken
  rw [HLKq.out.n, show v1.n = 128 from rfl, v1_free.1] at HT
  refine HT.mono ?_
  rintro e w15 ⟨A15, c15, rfl, hI, hH, _, hb⟩
  rw [show (asI [0, 2, 127]).length = 3 from rfl]
  have H15 := Lib.hid (And.intro hH (And.intro (H14.out.2.below hb) (And.intro (HI14.out.below hb) hI)))
  have HCN := Lib.hid (show y.cnt = 125 from by rw [← H14.out.1.ls.len]; exact v1_free.2)
  clear hI hH hb HT H14 HI14 HA11
  go_wp2_with fail
  have hba := (Below.refl w15.heap.size w15).alloc (Nat.le_refl _) (.cells #[.int .i64 1, .int .i64 0] IT)
  have HI := Lib.hid (nints2 w15 1 0)
  have H16 := Lib.hid (And.intro (H15.out.1.on hba) (And.intro (H15.out.2.1.below hba) (And.intro (H15.out.2.2.1.below hba) (H15.out.2.2.2.below hba))))
  generalize hz16 : w15.heap.size = z16 at *
  clear hz16
  clear hba H15
  generalize w15.alloc (.cells #[.int .i64 1, .int .i64 0] IT) = w16 at *
  refine (same_ints (asI [1, 0]) [1, 0] A11 _ c11 2 w16 H16.out.2.2.1 HI.out (by decide)).mono ?_
  rw [show (asI [1, 0] == [1, 0]) = true by decide]
  rintro e w17 ⟨rfl, nr, rfl⟩
  have hdn := below_drewN (Below.refl w16.heap.size w16) nr
  have H17 := Lib.hid (And.intro (H16.out.1.on hdn) (And.intro (H16.out.2.1.below hdn) (H16.out.2.2.2.below hdn)))
  generalize w16.drewN nr = w17 at *
  clear hdn H16 HI
  go_wp2_with fail
  have HC := head_calls w17 p mp mg 2048 x8 bq H17.out.2.1
  rw [HHD.out] at HC
  refine HC.mono ?_
  rintro e w18 ⟨rfl, rfl⟩
  clear HC
  go_wp2_with fail
  have hba := (Below.refl w17.heap.size w17).alloc (Nat.le_refl _) (.cells #[.int .i64 0, .int .i64 2, .int .i64 127] IT)
  have HI := Lib.hid (nints3 w17 0 2 127)
  have H18 := Lib.hid (And.intro (H17.out.1.on hba) (H17.out.2.2.below hba))
  generalize hz18 : w17.heap.size = z18 at *
  clear hz18
  clear hba H17
  generalize w17.alloc (.cells #[.int .i64 0, .int .i64 2, .int .i64 127] IT) = w18 at *
  refine (same_ints (asI [0, 2, 127]) [0, 2, 127] A15 _ c15 3 w18 H18.out.2 HI.out (by decide)).mono ?_
  rw [show (asI [0, 2, 127] == [0, 2, 127]) = true by decide]
  rintro e w19 ⟨rfl, nr, rfl⟩
  have hdn := below_drewN (Below.refl w18.heap.size w18) nr
  have H19 := Lib.hid (H18.out.1.on hdn)
  generalize w18.drewN nr = w19 at *
  clear hdn H18 HI
  go_wp2_with fail
  have HC := free_calls w19 q mp mg 2048 y bq H19.out.sn
  rw [HCN.out, show ((125 : Nat) : Int) = 125 from rfl] at HC
  refine HC.mono ?_
  rintro e w20 ⟨rfl, rfl⟩
  clear HC
  go_wp2_with fail
  have HC := state_calls w19 q mp mg 2048 y bq H19.out.sn
  rw [HCN.out, HLKq.out.n, show v1.n = 128 from rfl, if_neg (by decide), if_neg (by decide)] at HC
  refine HC.mono ?_
  rintro e w20 ⟨rfl, rfl⟩
  clear HC
  go_wp2_with fail
  have HC := size_calls w19 q mp mg 2048 y bq H19.out.sn
  rw [HLKq.out.z, show ((v1.z : Nat) : Int) = 8 from rfl] at HC
  refine HC.mono ?_
  rintro e w20 ⟨rfl, rfl⟩
  clear HC
  go_wp2_with fail
  have HC := slots_calls w19 q mp mg 2048 y bq H19.out.sn
  rw [HLKq.out.n, show ((v1.n : Nat) : Int) = 128 from rfl] at HC
  refine HC.mono ?_
  rintro e w20 ⟨rfl, rfl⟩
  clear HC
  go_wp2_with fail
  refine H19.out.check.mono ?_
  rintro e w20 ⟨rfl, hH, _⟩
  have H20 := Lib.hid hH
  clear hH H19
  go_wp2_with fail
  have HC := base_calls w20 q mp mg 2048 y bq H20.out.sn
  rw [HLKq.out.b, show ((v1.b : Nat) : Int) = 1024 from rfl] at HC
  refine HC.mono ?_
  rintro e w21 ⟨rfl, rfl⟩
  clear HC
  go_wp2_with fail
  have HC := class_calls w20 q mp mg 2048 y bq H20.out.sn
  rw [HLKq.out.c, show ((v1.c : Nat) : Int) = 0 from rfl] at HC
  refine HC.mono ?_
  rintro e w21 ⟨rfl, rfl⟩
  clear HC
  go_wp2_with fail
  go_ret
  exact ⟨rfl, H20.out.below⟩
end Go.Proofs.Ytloflnachpjlgaa.New
