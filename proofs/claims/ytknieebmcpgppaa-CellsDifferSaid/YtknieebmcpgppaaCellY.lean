/- The walk of CellsDiffer: it returns true. -/
import Derived.Test.YtknieebmcpgppaaCellW
namespace Go.Proofs.Ytknieebmcpgppaa.Cell
open Go.RowKit Go.Proofs.Ytknieebmcpgppaa.Aid
theorem lay_all (bs xs : List Int) (h : bs.length = xs.length) : lay bs 0 xs = xs := by simp [lay, h]
theorem sub_all (bs : List Int) : sub bs 0 bs.length = bs := by simp [sub]
set_option maxHeartbeats 8000000 in
set_option maxRecDepth 100000 in
theorem differ_small (w : World) (a b : List Int) (A B : Option Addr) (ca cb : Nat) (ha : Ints w .u8 A a) (hb : Ints w .u8 B b) (hba : Byt a) (hbb : Byt b) (hla : a.length ≤ 2000) (hlb : b.length ≤ 2000) :
    Calls Try.prog 5 #[.slice A a.length ca, .slice B b.length cb] w fun e w' => e = .returned (.bool true) ∧ Below w.heap.size w w' := by
  have HA := Lib.hid ha
  have HB := Lib.hid hb
  have HBA := Lib.hid hba
  have HBB := Lib.hid hbb
  obtain ⟨n, hn⟩ : ∃ n, n = max a.length b.length := ⟨_, rfl⟩
  have HN := Lib.hid hn
  clear ha hb hba hbb hn
  go_enter Try.func5, Try.ntmps5
  go_wp2_with fail
  refine (alive_calls _).mono ?_
  rintro e w1 ⟨rfl, hb1⟩
  go_wp2_with fail
  refine (new_yes w1 a.length (by omega)).mono ?_
  rintro e w2 ⟨p, g, rfl, hC, hp, hg, hb2⟩
  have HC2 := Lib.hid hC
  have hb2' := below_then hb1 hb2
  have hs1 := hb1.size
  have hs2 := hb2'.size
  clear hC hb2
  go_wp2_with fail
  refine (new_yes w2 b.length (by omega)).mono ?_
  rintro e w3 ⟨q, h, rfl, hD, hq, hh, hb3⟩
  have HC3 := Lib.hid (HC2.out.below hb3)
  have HD3 := Lib.hid hD
  have hb3' := below_then hb2' hb3
  have hs3 := hb3'.size
  have n1 : q ≠ g := by have := HC2.out.row.lt; omega
  have n2 : h ≠ g := by have := HC2.out.row.lt; omega
  have n3 : p ≠ h := by have := HC2.out.head.lt; omega
  have n4 : g ≠ h := by have := HC2.out.row.lt; omega
  clear hD hb3 HC2
  go_wp2_with fail
  refine (write_yes w3 p g _ _ 0 A ca a HC3.out (HA.out.below hb3') HBA.out (by simp)).mono ?_
  rw [lay_all _ _ (by simp)]
  rintro e w4 ⟨rfl, hC4, hk4⟩
  have HC4 := Lib.hid hC4
  have HD4 := Lib.hid (HD3.out.kept hk4 (by simpa using n1) (by simpa using n2))
  have hb4 := below_kept hb3' hk4 hs3 (by simp; omega)
  have hs4 := hb4.size
  clear hC4 hk4 HC3 HD3
  go_wp2_with fail
  refine (write_yes w4 q h _ _ 0 B cb b HD4.out (HB.out.below hb4) HBB.out (by simp)).mono ?_
  rw [lay_all _ _ (by simp)]
  rintro e w5 ⟨rfl, hD5, hk5⟩
  have HC5 := Lib.hid (HC4.out.kept hk5 (by simpa using n3) (by simpa using n4))
  have HD5 := Lib.hid hD5
  have hb5 := below_kept hb4 hk5 hs4 (by simp; omega)
  have hs5 := hb5.size
  clear hD5 hk5 HC4 HD4
  go_wp2_with fail
  refine (differ_calls w5 a b p g _ q h _ n HC5.out HD5.out HN.out).mono ?_
  rintro e w6 ⟨v6, rfl, ho6, hb6⟩
  obtain ⟨A6, c6, rfl, hp6⟩ := OwnR.pairs ho6
  have HP6 := Lib.hid hp6
  have hb6' := below_then hb5 hb6
  have HC6 := Lib.hid (HC5.out.below hb6)
  have HD6 := Lib.hid (HD5.out.below hb6)
  have hs6 := hb6'.size
  clear ho6 hp6 hb6 HC5 HD5
  go_wp2_with fail
  refine (rdiffer_calls w6 a b A B ca cb n (HA.out.below hb6') (HB.out.below hb6') (by omega) (by omega) HN.out).mono ?_
  rintro e w7 ⟨v7, rfl, ho7, hb7⟩
  obtain ⟨A7, c7, rfl, hp7⟩ := OwnR.pairs ho7
  have HP7 := Lib.hid hp7
  have HP67 := Lib.hid (HP6.out.below hb7)
  have hb7' := below_then hb6' hb7
  have HC7 := Lib.hid (HC6.out.below hb7)
  have HD7 := Lib.hid (HD6.out.below hb7)
  have hs7 := hb7'.size
  have hdc := dif_comm b a n
  have Hdc := Lib.hid hdc
  have hlen := (dif_shape a b n).1
  have hn0 : n ≤ 2000 := by have := HN.out; omega
  clear ho7 hp7 hb7 HC6 HD6 HP6 hdc
  generalize hoo : (difTo a b n).1 = oo at HP7 HP67 hlen ⊢
  have Hoo := Lib.hid hoo
  clear hoo
  have hne : ((oo.length : Int) != oo.length) = false := by simp
  go_wp2_with fail
  refine (clone_calls w7 p g _ a HC7.out).mono ?_
  rintro e w8 ⟨p8, g8, c8, rfl, hE8, hp8, hg8, hb8⟩
  have hb8' := below_then hb7' hb8
  have HC8 := Lib.hid (HC7.out.below hb8)
  have HD8 := Lib.hid (HD7.out.below hb8)
  have HE8 := Lib.hid hE8
  have HP68 := Lib.hid (HP67.out.below hb8)
  have HP78 := Lib.hid (HP7.out.below hb8)
  have hs8 := hb8'.size
  clear hE8 hb8 HC7 HD7 HP67 HP7
  go_wp2_with fail
  refine (differ_calls w8 a a p g _ p8 g8 _ a.length HC8.out HE8.out (by omega)).mono ?_
  rw [dif_self a a.length (Nat.le_refl _)]
  rintro e w9 ⟨v9, rfl, ho9, hb9⟩
  obtain ⟨A9, c9, rfl, _⟩ := OwnR.pairs ho9
  have hb9' := below_then hb8' hb9
  have HC9 := Lib.hid (HC8.out.below hb9)
  have HD9 := Lib.hid (HD8.out.below hb9)
  have HP69 := Lib.hid (HP68.out.below hb9)
  have HP79 := Lib.hid (HP78.out.below hb9)
  have hs9 := hb9'.size
  clear ho9 hb9 HC8 HD8 HE8 HP68 HP78
  go_wp2_with fail
  refine (differ_calls w9 b a q h _ p g _ n HD9.out HC9.out (by have := HN.out; omega)).mono ?_
  rw [Hdc.out, Hoo.out]
  rintro e w10 ⟨v10, rfl, ho10, hb10⟩
  obtain ⟨A10, c10, rfl, _⟩ := OwnR.pairs ho10
  have hb10' := below_then hb9' hb10
  have HC10 := Lib.hid (HC9.out.below hb10)
  have HP610 := Lib.hid (HP69.out.below hb10)
  have HP710 := Lib.hid (HP79.out.below hb10)
  have hs10 := hb10'.size
  clear ho10 hb10 HC9 HD9 HP69 HP79
  go_wp2_with fail
  go_loopw [11] (fun i wr => ∃ j nq : Nat, j ≤ oo.length ∧ i = .int .i64 j ∧ wr = w10.drewN nq) (fun i _ => oo.length - (intOf i).toNat)
  case atStart => exact ⟨0, 0, by omega, rfl, rfl⟩
  case round =>
    obtain ⟨j, nq, hj, rfl, rfl⟩ := hrel
    by_cases hlt : j < oo.length
    · obtain ⟨b6, o6, rfl, hl6, hc60, hc61⟩ := HP610.out j hlt
      obtain ⟨b7, o7, rfl, hl7, hc70, hc71⟩ := HP710.out j hlt
      generalize oo.getD j (0, 0) = y at hc60 hc61 hc70 hc71
      obtain ⟨s, m⟩ := y
      dsimp only at hc60 hc61 hc70 hc71
      have hi0 : (0 : Int) ≤ (j : Int) := by omega
      have hi1 : (j : Int) < (oo.length : Int) := by omega
      have e1 : (s != s) = false := by simp
      have e2 : (m != m) = false := by simp
      go_wp2_with fail
      go_quiet (fail)
      go_wp2_with fail
      go_roundw
      case rel => exact ⟨j + 1, _, by omega, by go_num, rfl⟩
      case measure => simp [intOf]; omega
    · obtain rfl : j = oo.length := by omega
      go_wp2_with fail
      refine (clone_calls _ p g _ a (HC10.out.drewN nq)).mono ?_
      rintro e w11 ⟨p11, g11, c11, rfl, hE11, hp11, hg11, hb11⟩
      have hp11' : w10.heap.size ≤ p11 := hp11
      have hg11' : w10.heap.size ≤ g11 := hg11
      have hb10d : Below w.heap.size w (w10.drewN nq) := below_drewN hb10' nq
      have hb11' := below_then hb10d hb11
      have HC11 := Lib.hid ((HC10.out.drewN nq).below hb11)
      have HE11 := Lib.hid hE11
      have hs11 := hb11'.size
      have n5 : p11 ≠ g := by have := HC10.out.row.lt; omega
      have n6 : g11 ≠ g := by have := HC10.out.row.lt; omega
      clear hE11 hb11 hp11 hg11
      go_wp2_with fail
      refine (fill_yes w11 p g _ a 0 a.length 1 HC11.out (by omega) (by omega) (by omega)).mono ?_
      rintro e w12 ⟨rfl, _, hk12⟩
      have HE12 := Lib.hid (HE11.out.kept hk12 (by simpa using n5) (by simpa using n6))
      have hb12 := below_kept hb11' hk12 hs11 (by simp; omega)
      clear hk12 HE11 HC11
      go_wp2_with fail
      refine (read_yes w12 p11 g11 _ a 0 a.length HE12.out (by omega)).mono ?_
      rw [sub_all]
      rintro e w13 ⟨g13, c13, rfl, hr13, hg13, hb13⟩
      have hb13' := below_then hb12 hb13
      have HR13 := Lib.hid hr13
      clear hr13 hb13
      go_wp2_with fail
      refine (same_bytes a a _ _ _ _ _ HR13.out.ints (HA.out.below hb13') (by unfold maxLen; omega)).mono ?_
      rw [show (a == a) = true by simp]
      rintro e w' ⟨rfl, nq', rfl⟩
      go_wp2_with fail
      go_ret
      exact ⟨rfl, below_drewN hb13' _⟩
theorem byt_of_wf {a : List Int} (h : ∀ k, k < a.length → (Lit.int .u8 (a.getD k 0)).wf = true) : Byt a := fun k hk => by
  have := h k hk
  generalize a.getD k 0 = x at this ⊢
  simp [Lit.wf, IntKind.min, IntKind.max, IntKind.signed, IntKind.bits] at this
  omega
theorem differ_walk (a : List Int) (A : Option Addr) (ca : Nat) (b : List Int) (B : Option Addr) (cb : Nat) {w : World} (ha : Ints w .u8 A a) (hla : a.length ≤ maxLen) (hwa : ∀ k, k < a.length → (Lit.int .u8 (a.getD k 0)).wf = true) (hb : Ints w .u8 B b) (hlb : b.length ≤ maxLen) (hwb : ∀ k, k < b.length → (Lit.int .u8 (b.getD k 0)).wf = true) :
    Calls Try.prog 5 #[.slice A a.length ca, .slice B b.length cb] w fun e w' => e = .returned (.bool true) ∧ Below w.heap.size w w' := by
  unfold maxLen at hla hlb
  by_cases h1 : a.length ≤ 2000
  · by_cases h2 : b.length ≤ 2000
    · exact differ_small w a b A B ca cb ha hb (byt_of_wf hwa) (byt_of_wf hwb) h1 h2
    · clear hwa hwb ha hb
      go_enter Try.func5, Try.ntmps5
      go_wp2_with fail
      refine (alive_calls _).mono ?_
      rintro e w1 ⟨rfl, hb1⟩
      go_wp2_with fail
      go_ret
      exact ⟨rfl, hb1⟩
  · clear hwa hwb ha hb
    go_enter Try.func5, Try.ntmps5
    go_wp2_with fail
    refine (alive_calls _).mono ?_
    rintro e w1 ⟨rfl, hb1⟩
    go_wp2_with fail
    go_ret
    exact ⟨rfl, hb1⟩
end Go.Proofs.Ytknieebmcpgppaa.Cell
