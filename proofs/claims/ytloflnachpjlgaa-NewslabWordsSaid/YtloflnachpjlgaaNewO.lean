/- Slabs of the new layout: With, New, On. -/
import Derived.Test.YtloflnachpjlgaaNewN
set_option linter.unusedSimpArgs false
namespace Go.Proofs.Ytloflnachpjlgaa.New
open Go.RowKit Go.Proofs.Ytloflnachpjlgaa.Aid Go.Proofs.Ytloflnachpjlgaa.Cell
/-- What With answers. -/
def WithIs (w : World) (mp mg mc : Nat) (bs : List Int) (b c : Nat) (o : Option (List Nat)) (e : Ending) (w' : World) : Prop := match o with
  | none => e = .returned (.tuple #[.pointer none, .int .i64 10]) ∧ Below w.heap.size w w'
  | some T => ∃ p, e = .returned (.tuple #[.pointer (some ⟨p, 0, none⟩), .int .i64 0]) ∧ SnP w' p mp mg mc (newS b c bs T).1 (newS b c bs T).2 ∧ w.heap.size ≤ p ∧ Kept [mg] w w'
section
variable (w : World) (mp mg mc : Nat) (bs : List Int) (h : CellAt w mp mg mc bs)
include h
theorem with_no (b c : Int) (hb : b < 9223372036854775808) (hn : ¬ newOk bs b c) (A0 : Option Addr) (n0 c0 : Nat) : Calls Try.prog 15 #[.pointer (some ⟨mp, 0, none⟩), .int .i64 b, .int .i64 c, .slice A0 n0 c0] w fun e w' => e = .returned (.tuple #[.pointer none, .int .i64 11]) ∧ Below w.heap.size w w' := by
  have HE := Lib.hid (empty_no w mp mg mc bs h b c hb hn)
  clear h hn hb
  go_enter Try.func15, Try.ntmps15
  go_wp2_with fail
  refine HE.out.mono ?_
  rintro e w1 ⟨rfl, hb⟩
  have H1 := Lib.hid hb
  clear hb
  go_wp2_with fail
  go_ret2
  exact ⟨rfl, H1.out⟩
set_option maxHeartbeats 4000000 in
theorem with_yes (b c : Nat) (hn : newOk bs b c) (A0 : Option Addr) (c0 : Nat) (vs : List Int) (hA : Ints w .i64 A0 vs) (hl : vs.length ≤ 1000000) : Calls Try.prog 15 #[.pointer (some ⟨mp, 0, none⟩), .int .i64 b, .int .i64 c, .slice A0 vs.length c0] w (WithIs w mp mg mc bs b c (tkGo (newN b c).n vs [])) := by
  have HE := Lib.hid (empty_yes w mp mg mc bs h b c hn)
  have HI := Lib.hid hA
  have hm := (newN_ok hn h.byt h.small).many
  have hw0 : 0 < w.heap.size := by have := h.head.lt; omega
  have HLT := Lib.hid (show mp < w.heap.size ∧ mg < w.heap.size from ⟨h.head.lt, h.row.lt⟩)
  have HPU := Lib.hid (fun T d (hd : d ≤ (newN b c).n) => pushes_ok (downs (newN b c).n T d) (newN_ok hn h.byt h.small) (newN_list b c bs) (downs_fit b c _ T rfl d hd))
  clear h hn hA
  generalize hx : newN b c = x at *
  have HX := Lib.hid hx
  clear hx
  obtain ⟨hm1, hm2, _⟩ := hm
  go_enter Try.func15, Try.ntmps15
  go_wp2_with fail
  refine HE.out.mono ?_
  rintro e w1 ⟨p, rfl, hS, hp, hb⟩
  obtain ⟨_, _, _, _, c4, _⟩ := hS.cells
  have H1 := Lib.hid (And.intro hS (And.intro hp hb))
  have HPL := Lib.hid hS.lts
  clear hS hp hb
  go_wp2_with fail
  refine (Bit.new_yes w1 x.n (by omega) (by have := H1.out.2.2.size; omega)).mono ?_
  rintro e w2 ⟨rp, rg, rfl, hr, hr1, hg1, hb⟩
  have H2 := Lib.hid (And.intro hr (And.intro hr1 (And.intro hg1 (And.intro (H1.out.1.below hb) (H1.out.2.2.trans (hb.mono H1.out.2.2.size))))))
  clear hr hr1 hg1 hb c4
  go_wp2_with fail
  go_loopw [37] (fun i wr => ∃ (k : Nat) (seen : List Nat), i = .int .i64 k ∧ k ≤ vs.length ∧ tkGo x.n (vs.drop k) seen = tkGo x.n vs [] ∧ Bit.RowAt wr rp rg (Bit.nwords x.n) (marks x.n seen) ∧ SnP wr p mp mg mc x bs ∧ Below w.heap.size w wr) (fun i _ => vs.length - (intOf i).toNat)
  case atStart => exact ⟨0, [], rfl, by omega, rfl, H2.out.1, H2.out.2.2.2.1, H2.out.2.2.2.2⟩
  case round =>
    obtain ⟨k, seen, rfl, hk, hga, hrow, hS, hB⟩ := hrel
    have HR := Lib.hid (And.intro hga (And.intro hrow (And.intro hS hB)))
    have HFAR := Lib.hid (show w.heap.size ≤ rp ∧ w.heap.size ≤ rg ∧ p < rp ∧ p < rg from by
      have h1 := H1.out.2.2.size
      have h2 := H2.out.2.1
      have h3 := H2.out.2.2.1
      have h4 := HPL.out.1
      omega)
    clear hga hrow hS hB
    by_cases hlt : k < vs.length
    · have hk0 : (0 : Int) ≤ (k : Int) := by omega
      have hk1 : (k : Int) < (vs.length : Int) := by omega
      have hst := tkGo_step (n := x.n) hlt seen
      obtain ⟨bb, o, rfl, _, ca⟩ := (HI.out.below HR.out.2.2.2) k hlt
      have HSET := Lib.hid (Bit.set_calls wr rp rg (Bit.nwords x.n) (marks x.n seen) (vs.getD k 0) HR.out.2.1)
      unfold Bit.PutGives at HSET
      rw [setB_marks] at HSET
      rw [HR.out.1] at hst
      by_cases hc : 0 ≤ vs.getD k 0 ∧ vs.getD k 0 < x.n ∧ (vs.getD k 0).toNat ∉ seen
      · rw [if_pos hc] at hst
        rw [show decide (0 ≤ vs.getD k 0 ∧ vs.getD k 0 < x.n ∧ (vs.getD k 0).toNat ∉ seen) = true by simpa using hc, setL_marks ⟨hc.1, hc.2.1⟩] at HSET
        have HST := Lib.hid hst
        clear hst hc
        generalize vs.getD k 0 = a at *
        go_wp2_with fail
        refine HSET.out.mono ?_
        rintro e w3 ⟨rfl, hr3, hK3⟩
        have H3 := Lib.hid (And.intro hr3 (And.intro (HR.out.2.2.1.kept hK3 (by simp; have := HFAR.out; omega) (by simp; have := HFAR.out; have := HLT.out; omega) (by simp; have := HFAR.out; have := HLT.out; omega)) (HR.out.2.2.2.trans (hK3.below HR.out.2.2.2.size (by simp; exact HFAR.out.2.1)))))
        clear hr3 hK3
        go_wp2_with fail
        go_roundw
        case rel => exact ⟨k + 1, _, by go_num, by omega, HST.out.symm, H3.out.1, H3.out.2.1, H3.out.2.2⟩
        case measure => simp [intOf]; omega
      · rw [if_neg hc] at hst
        rw [show decide (0 ≤ vs.getD k 0 ∧ vs.getD k 0 < x.n ∧ (vs.getD k 0).toNat ∉ seen) = false by simpa using hc] at HSET
        have HST := Lib.hid hst
        clear hst hc
        generalize vs.getD k 0 = a at *
        go_wp2_with fail
        refine HSET.out.mono ?_
        rintro e w3 ⟨rfl, _, hK3⟩
        have H3 := Lib.hid (HR.out.2.2.2.trans (hK3.below HR.out.2.2.2.size (by simp; exact HFAR.out.2.1)))
        clear hK3
        go_wp2_with fail
        go_ret2
        rw [HST.out]
        exact ⟨rfl, H3.out⟩
    · obtain rfl : k = vs.length := by omega
      have HST := Lib.hid (show some seen = tkGo x.n vs [] from by rw [← HR.out.1, List.drop_length]; rfl)
      obtain ⟨_, _, _, _, c4, _⟩ := HR.out.2.2.1.cells
      have hsub : IntKind.i64.wrap ((x.n : Int) - 1) = (x.n : Int) - 1 := IntWalk.i64_in _ (by omega)
      clear hlt hk
      go_wp2_with fail
      go_loopw [16] (fun i wr => ∃ (d : Nat), i = .int .i64 ((x.n : Int) - 1 - (d : Int)) ∧ d ≤ x.n ∧ Bit.RowAt wr rp rg (Bit.nwords x.n) (marks x.n seen) ∧ SnP wr p mp mg mc (pushes (x, bs) (downs x.n seen d)).1 (pushes (x, bs) (downs x.n seen d)).2 ∧ Kept [mg] w wr) (fun i _ => (intOf i + 1).toNat)
      case atStart => exact ⟨0, by simp, by omega, HR.out.2.1, HR.out.2.2.1, Kept.of_below HR.out.2.2.2 _⟩
      case round =>
        obtain ⟨d, rfl, hd, hrow, hS, hK⟩ := hrel
        have HQ := Lib.hid (And.intro hrow (And.intro hS hK))
        clear hrow hS hK c4
        by_cases hlt : d < x.n
        · obtain ⟨s, hs⟩ : ∃ s : Nat, s = x.n - 1 - d := ⟨_, rfl⟩
          rw [show (x.n : Int) - 1 - (d : Int) = (s : Int) by omega]
          have hs0 : (0 : Int) ≤ (s : Int) := by omega
          have hT := Bit.test_calls wr rp rg (Bit.nwords x.n) (marks x.n seen) (s : Int) HQ.out.1
          rw [test_marks seen (show s < x.n by omega)] at hT
          have hsw : IntKind.i64.wrap ((s : Int) - 1) = (s : Int) - 1 := IntWalk.i64_in _ (by omega)
          have hrel2 : (s : Int) - 1 = (x.n : Int) - 1 - ((d + 1 : Nat) : Int) := by omega
          have HREL := Lib.hid hrel2
          have HDN := Lib.hid (show downs x.n seen (d + 1) = if s ∈ seen then downs x.n seen d else downs x.n seen d ++ [s] from by rw [hs]; rfl)
          have HSN := Lib.hid (And.intro hs hd)
          have HTT := Lib.hid hT
          clear hrel2 hT
          by_cases hin : s ∈ seen
          · rw [show decide (s ∈ seen) = true by simpa using hin] at HTT
            rw [if_pos hin] at HDN
            clear hin hs
            go_wp2_with fail
            refine HTT.out.mono ?_
            rintro e w5 ⟨rfl, nq, rfl⟩
            have hdn := below_drewN (Below.refl wr.heap.size wr) nq
            have H5 := Lib.hid (And.intro (HQ.out.1.below hdn) (And.intro (HQ.out.2.1.below hdn) (HQ.out.2.2.and_below hdn)))
            clear hdn
            go_wp2_with fail
            go_roundw
            case rel => exact ⟨d + 1, by rw [HREL.out], by omega, H5.out.1, by rw [HDN.out]; exact H5.out.2.1, H5.out.2.2⟩
            case measure => simp [intOf]
          · rw [show decide (s ∈ seen) = false by simpa using hin] at HTT
            rw [if_neg hin] at HDN
            have HNX := Lib.hid (show s ∉ (downs x.n seen d).reverse ++ [] from by
              rw [List.append_nil, List.mem_reverse]
              intro e
              have := downs_mem hd s e
              omega)
            have hsx : s < x.n := by omega
            clear hin hs
            go_wp2_with fail
            refine HTT.out.mono ?_
            rintro e w5 ⟨rfl, nq, rfl⟩
            have hdn := below_drewN (Below.refl wr.heap.size wr) nq
            have H5 := Lib.hid (And.intro (HQ.out.1.below hdn) (And.intro (HQ.out.2.1.below hdn) (HQ.out.2.2.and_below hdn)))
            clear hdn
            generalize wr.drewN nq = w5 at H5 ⊢
            have hP := HPU.out seen d hd
            have hsx2 : s < (pushes (x, bs) (downs x.n seen d)).1.n := by rw [hP.like.n]; exact hsx
            have HPC := Lib.hid (push_calls w5 p mp mg mc _ _ H5.out.2.1 s hsx2 (push_ok hP.ok hsx2 hP.ls HNX.out))
            have HSP := Lib.hid (pushes_snoc (downs x.n seen d) (x, bs) s)
            clear hP hsx2
            go_wp2_with fail
            refine HPC.out.mono ?_
            rintro e w6 ⟨rfl, hS6, hK6⟩
            have H6 := Lib.hid (show Bit.RowAt w6 rp rg (Bit.nwords x.n) (marks x.n seen) ∧ SnP w6 p mp mg mc (pushes (x, bs) (downs x.n seen (d + 1))).1 (pushes (x, bs) (downs x.n seen (d + 1))).2 ∧ Kept [mg] w w6 from by
              have hf := HFAR.out
              have hl := HLT.out
              refine ⟨H5.out.1.kept hK6 (by simp; omega) (by simp; omega), ?_, H5.out.2.2.step hK6 fun y hy => ?_⟩
              · rw [HDN.out, HSP.out]
                exact hS6
              · simp at hy
                rcases hy with rfl | rfl
                · exact .inr H1.out.2.1
                · exact .inl (by simp))
            clear hS6 hK6
            go_wp2_with fail
            go_roundw
            case rel => exact ⟨d + 1, by rw [HREL.out], by omega, H6.out.1, H6.out.2.1, H6.out.2.2⟩
            case measure => simp [intOf]
        · obtain rfl : d = x.n := by omega
          have hneg : (x.n : Int) - 1 - (x.n : Int) = -1 := by omega
          rw [hneg]
          go_wp2_with fail
          go_ret2
          rw [← HST.out]
          refine ⟨p, rfl, ?_, H1.out.2.1, HQ.out.2.2⟩
          unfold newS
          rw [HX.out]
          exact HQ.out.2.1
theorem new_calls (b c : Nat) (hn : newOk bs b c) : Calls Try.prog 47 #[.pointer (some ⟨mp, 0, none⟩), .int .i64 b, .int .i64 c] w (WithIs w mp mg mc bs b c (some [])) := by
  have HW := Lib.hid (with_yes w mp mg mc bs h b c hn none 0 [] (fun k hk => by simp at hk) (by decide))
  rw [show tkGo (newN b c).n [] [] = some [] from rfl] at HW
  clear h hn
  go_enter Try.func47, Try.ntmps47
  go_wp2_with fail
  refine HW.out.mono ?_
  rintro e w1 ⟨p, rfl, hS, hp, hK⟩
  have H1 := Lib.hid (And.intro hS (And.intro hp hK))
  clear hS hp hK
  go_wp2_with fail
  go_ret2
  exact ⟨p, rfl, H1.out⟩
end
/-- The same slab on another memory. -/
theorem on_calls (w : World) (p mp mg mc : Nat) (x : Sn) (bs : List Int) (h : SnP w p mp mg mc x bs) (mp2 mg2 mc2 : Nat) (bs2 : List Int) (h2 : CellAt w mp2 mg2 mc2 bs2) (hok : OkN x bs2) : Calls Try.prog 40 #[.pointer (some ⟨p, 0, none⟩), .pointer (some ⟨mp2, 0, none⟩)] w fun e w' => ∃ q, e = .returned (.pointer (some ⟨q, 0, none⟩)) ∧ SnP w' q mp2 mg2 mc2 x bs2 ∧ w.heap.size ≤ q ∧ Below w.heap.size w w' := by
  have H := Lib.hid (And.intro h (And.intro h2 hok))
  obtain ⟨c0, c1, c2, c3, c4, c5, c6⟩ := h.cells
  clear h h2 hok
  go_enter Try.func40, Try.ntmps40
  go_upto_region 2 with fail
  have hb := (Below.refl w.heap.size w).alloc (Nat.le_refl _) (.cells #[.pointer (some ⟨mp, 0, none⟩), .int .i64 x.b, .int .i64 x.c, .int .i64 x.z, .int .i64 x.n, .int .i64 x.head, .int .i64 x.cnt] ST)
  have HK := Lib.hid (Blk.new w #[.pointer (some ⟨mp, 0, none⟩), .int .i64 x.b, .int .i64 x.c, .int .i64 x.z, .int .i64 x.n, .int .i64 x.head, .int .i64 x.cnt] ST)
  have HB := Lib.hid (And.intro hb (H.out.2.1.below hb))
  clear hb c0 c1 c2 c3 c4 c5 c6
  generalize w.alloc (.cells #[.pointer (some ⟨mp, 0, none⟩), .int .i64 x.b, .int .i64 x.c, .int .i64 x.z, .int .i64 x.n, .int .i64 x.head, .int .i64 x.cnt] ST) = w1 at *
  have HL := Lib.hid (show mp2 < w.heap.size ∧ mg2 < w.heap.size from ⟨H.out.2.1.head.lt, H.out.2.1.row.lt⟩)
  have HZ := Lib.hid (Nat.le_refl w.heap.size)
  generalize hq : w.heap.size = q at HK HL HZ ⊢
  have HQ := Lib.hid hq
  clear hq
  have f0 := HK.out.free 0
  have e0 := HK.out.cell (o := 0) rfl
  go_wp2_with fail
  go_ret
  rw [HQ.out]
  have hl := HL.out
  have hb := HB.out.1
  rw [HQ.out] at hb
  refine ⟨q, rfl, ⟨HK.out.set 0 _, ?_, by omega, by omega, H.out.2.2⟩, Nat.le_refl _, hb.setCell (p := ⟨q, 0, none⟩) (Nat.le_refl _) _⟩
  exact HB.out.2.kept ((Kept.refl [q] w1).setCell (p := ⟨q, 0, none⟩) (by simp) _) (by simp; omega) (by simp; omega)
end Go.Proofs.Ytloflnachpjlgaa.New
