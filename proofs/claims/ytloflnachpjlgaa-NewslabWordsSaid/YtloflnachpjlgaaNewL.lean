/- Slabs of the new layout: GiveAll, Give. -/
import Derived.Test.YtloflnachpjlgaaNewK
set_option linter.unusedSimpArgs false
namespace Go.Proofs.Ytloflnachpjlgaa.New
open Go.RowKit Go.Proofs.Ytloflnachpjlgaa.Aid Go.Proofs.Ytloflnachpjlgaa.Cell
/-- What GiveAll answers. -/
def AllIs (w : World) (p mp mg mc : Nat) (x : Sn) (bs : List Int) (vs : List Int) (o : Option (List Nat)) (e : Ending) (w' : World) : Prop := match o with
  | none => e = .returned (.int .i64 10) ∧ Below w.heap.size w w'
  | some L => e = .returned (.int .i64 (allGo x L vs []).1) ∧ SnP w' p mp mg mc (allS x bs L vs).1 (allS x bs L vs).2 ∧ Kept [p, mg] w w'
theorem allIs_err {w w' : World} {p mp mg mc : Nat} {x : Sn} {bs vs : List Int} {L seen : List Nat} {er : Int} (hg : allGo x L vs [] = (er, seen)) (he : er ≠ 0) (h1 : SnP w' p mp mg mc x bs) (h2 : Kept [p, mg] w w') : AllIs w p mp mg mc x bs vs (some L) (.returned (.int .i64 er)) w' := by
  unfold AllIs allS
  dsimp only
  rw [hg]
  exact ⟨rfl, by rw [if_neg he]; exact h1, h2⟩
theorem allIs_ok {w w' : World} {p mp mg mc : Nat} {x : Sn} {bs vs : List Int} {L seen : List Nat} (hg : allGo x L vs [] = (0, seen)) (h1 : SnP w' p mp mg mc (pushes (x, bs) seen).1 (pushes (x, bs) seen).2) (h2 : Kept [p, mg] w w') : AllIs w p mp mg mc x bs vs (some L) (.returned (.int .i64 0)) w' := by
  unfold AllIs allS
  dsimp only
  rw [hg]
  exact ⟨rfl, h1, h2⟩
theorem row_lts {w : World} {p g c : Nat} {l : List Bool} (h : Bit.RowAt w p g c l) : p < w.heap.size ∧ g < w.heap.size := ⟨h.head.lt, h.row.lt⟩
section
variable (w : World) (p mp mg mc : Nat) (x : Sn) (bs : List Int) (h : SnP w p mp mg mc x bs)
include h
set_option maxHeartbeats 4000000 in
theorem all_calls (A0 : Option Addr) (c0 : Nat) (vs : List Int) (hA : Ints w .i64 A0 vs) (hl : vs.length ≤ 1000000) : Calls Try.prog 37 #[.pointer (some ⟨p, 0, none⟩), .slice A0 vs.length c0] w (AllIs w p mp mg mc x bs vs (listO x bs)) := by
  have HK := Lib.hid (row_calls w p mp mg mc x bs h)
  have H := Lib.hid (And.intro h hA)
  have HLT := Lib.hid h.lts
  have hm := h.ok.many.1
  clear h hA
  cases ho : listO x bs with
  | none =>
    rw [ho] at HK
    go_enter Try.func37, Try.ntmps37
    go_wp2_with fail
    refine HK.out.mono ?_
    rintro e w1 ⟨rfl, hb⟩
    have H1 := Lib.hid hb
    clear hb
    go_wp2_with fail
    go_ret
    exact ⟨rfl, H1.out⟩
  | some L =>
    rw [ho] at HK
    have hL := listO_iff.1 ho
    have HL := Lib.hid hL
    have hLn := Lib.hid (hL.lt H.out.1.ok)
    clear hL ho
    go_enter Try.func37, Try.ntmps37
    go_wp2_with fail
    refine HK.out.mono ?_
    rintro e w1 ⟨rp, rg, rc, rfl, hr, hr1, hg1, hb⟩
    have H1 := Lib.hid (And.intro hr (And.intro hr1 (And.intro hg1 hb)))
    have HRL := Lib.hid (row_lts hr)
    clear hr hr1 hg1 hb
    go_wp2_with fail
    go_loopw [7, 24] (fun v i wr => ∃ (k : Nat) (seen : List Nat), i = .int .i64 k ∧ k ≤ vs.length ∧ Fit x L seen ∧ allGo x L (vs.drop k) seen = allGo x L vs [] ∧ Aid.Own wr w1.heap.size IT .i64 v (asI seen) ∧ Bit.RowAt wr rp rg rc (marks x.n (L ++ seen)) ∧ Below w.heap.size w wr ∧ w1.heap.size ≤ wr.heap.size) (fun _ i _ => vs.length - (intOf i).toNat)
    case atStart => exact ⟨0, [], rfl, by omega, ⟨by simp, List.nodup_nil, by simp⟩, rfl, Own.nil _ _ _ _, by rw [List.append_nil]; exact H1.out.1, H1.out.2.2.2, Nat.le_refl _⟩
    case round =>
      obtain ⟨k, seen, rfl, hk, hfit, hga, hown, hrow, hB, hz⟩ := hrel
      have hsn : seen.length ≤ x.n := nodup_le x.n seen hfit.nd hfit.lt
      obtain ⟨A, c, rfl, hints⟩ := hown.shape
      rw [asI_len] at hown ⊢
      have HR := Lib.hid (And.intro hown (And.intro hrow (And.intro hB hz)))
      have HS := Lib.hid (H.out.1.below hB)
      have HF := Lib.hid hfit
      have HGA := Lib.hid hga
      clear hown hrow hB hz hints hfit hga
      by_cases hlt : k < vs.length
      · have hk0 : (0 : Int) ≤ (k : Int) := by omega
        have hk1 : (k : Int) < (vs.length : Int) := by omega
        have HST := Lib.hid (allGo_step (x := x) (L := L) hlt seen)
        obtain ⟨bb, o, rfl, _, ca⟩ := (H.out.2.below HR.out.2.2.1) k hlt
        generalize vs.getD k 0 = a at ca HST
        have HSL := Lib.hid (slot_calls wr p mp mg mc x bs HS.out a)
        cases hs : slotO x a with
        | none =>
          rw [hs] at HSL
          have HG2 := Lib.hid (show (allGo x L vs []) = (12, seen) from by rw [← HGA.out, HST.out, hs])
          rw [show slotV none = -1 from rfl, show slotE none = 12 from rfl] at HSL
          clear hs HST hlt hk
          go_wp2_with fail
          refine HSL.out.mono ?_
          rintro e w2 ⟨rfl, hb⟩
          have H2 := Lib.hid (below_then HR.out.2.2.1 hb)
          clear hb ca
          go_wp2_with fail
          go_ret
          exact allIs_err HG2.out (by decide) (H.out.1.below H2.out) (Kept.of_below H2.out _)
        | some j =>
          rw [hs] at HSL
          have hj := (slotO_some hs).1
          rw [show slotV (some j) = (j : Int) from rfl, show slotE (some j) = 0 from rfl] at HSL
          have hst := HST.out
          rw [hs, HGA.out] at hst
          have HG1 := Lib.hid (show allGo x L vs [] = if j ∈ L ++ seen then (19, seen) else allGo x L (vs.drop (k + 1)) (seen ++ [j]) from hst)
          clear hs HST hst
          go_wp2_with fail
          refine HSL.out.mono ?_
          rintro e w2 ⟨rfl, hb⟩
          have H2 := Lib.hid (And.intro (HR.out.1.below hb) (And.intro (HR.out.2.1.below hb) (And.intro (below_then HR.out.2.2.1 hb) (Nat.le_trans HR.out.2.2.2 hb.size))))
          clear hb ca HSL
          have HST2 := Lib.hid (Bit.set_calls w2 rp rg rc (marks x.n (L ++ seen)) (j : Int) H2.out.2.1)
          unfold Bit.PutGives at HST2
          rw [marks_setB (L ++ seen) hj, marks_setL (L ++ seen) hj] at HST2
          by_cases hin : j ∈ L ++ seen
          · rw [show decide (j ∈ L ++ seen) = true by simpa using hin] at HST2
            rw [if_pos hin] at HG1
            clear hin
            go_wp2_with fail
            refine HST2.out.mono ?_
            rintro e w3 ⟨rfl, _, hK3⟩
            have H3 := Lib.hid (H2.out.2.2.1.trans (hK3.below H2.out.2.2.1.size (by simp; exact H1.out.2.2.1)))
            clear hK3
            go_wp2_with fail
            go_ret
            exact allIs_err HG1.out (by decide) (H.out.1.below H3.out) (Kept.of_below H3.out _)
          · have HF2 := Lib.hid (show Fit x L (seen ++ [j]) from by
              have h1 : j ∉ L ∧ j ∉ seen := by simpa using hin
              refine ⟨fun m hm => ?_, ?_, fun m hm => ?_⟩
              · rcases List.mem_append.1 hm with e | e
                · exact HF.out.lt m e
                · obtain rfl : m = j := by simpa using e
                  exact hj
              · rw [List.nodup_append]
                refine ⟨HF.out.nd, by simp, fun a ha b hb e => ?_⟩
                obtain rfl : b = j := by simpa using hb
                exact h1.2 (e ▸ ha)
              · rcases List.mem_append.1 hm with e | e
                · exact HF.out.out m e
                · obtain rfl : m = j := by simpa using e
                  exact h1.1)
            rw [show decide (j ∈ L ++ seen) = false by simpa using hin] at HST2
            rw [if_neg hin] at HG1
            clear hin
            go_wp2_with fail
            refine HST2.out.mono ?_
            rintro e w3 ⟨rfl, hr3, hK3⟩
            have H3 := Lib.hid (And.intro (show Bit.RowAt w3 rp rg rc (marks x.n (L ++ (seen ++ [j]))) from by rw [← List.append_assoc]; exact hr3) (And.intro (H2.out.2.2.1.trans (hK3.below H2.out.2.2.1.size (by simp; exact H1.out.2.2.1))) (own_kept H2.out.1 hK3 (by simp; exact HRL.out.2))))
            have hbz : w1.heap.size ≤ w3.heap.size := Nat.le_trans H2.out.2.2.2 hK3.size
            clear hr3 hK3
            go_wp2_with (at_builtin; refine append_int rfl _ _ 30 rfl w1.heap.size 3 .i64 8 Try.underlying30 info_int _ (asI seen) rfl H3.out.2.2 (j : Int) rfl (by rw [asI_len]; omega) (by rw [asI_len]; omega) hbz ?_)
            intro v1 w4 hown1 hb1 _
            have HO1 := Lib.hid hown1
            have H4 := Lib.hid (show Bit.RowAt w4 rp rg rc (marks x.n (L ++ (seen ++ [j]))) ∧ Below w.heap.size w w4 ∧ w1.heap.size ≤ w4.heap.size from by
              have hr := kept_rangeN hb1
              refine ⟨H3.out.1.kept hr (fun hx => ?_) (fun hx => ?_), H3.out.2.1.trans (hb1.mono H1.out.2.2.2.size), Nat.le_trans hbz hb1.size⟩
              · have := in_rangeN hx
                have := HRL.out.1
                omega
              · have := in_rangeN hx
                have := HRL.out.2
                omega)
            clear hown1 hb1
            go_wp2_with fail
            go_roundw
            case rel => exact ⟨k + 1, seen ++ [j], by go_num, by omega, HF2.out, HG1.out.symm, by rw [asI_snoc]; exact HO1.out, H4.out.1, H4.out.2.1, H4.out.2.2⟩
            case measure => simp [intOf]; omega
      · obtain rfl : k = vs.length := by omega
        have HG1 := Lib.hid (show allGo x L vs [] = (0, seen) from by rw [← HGA.out, List.drop_length]; rfl)
        have HPU := Lib.hid (fun j => pushes_ok (seen.take j) H.out.1.ok HL.out (HF.out.take j))
        clear hlt hk HGA
        go_wp2_with fail
        go_loopw [50] (fun i wr => ∃ (j : Nat), i = .int .i64 j ∧ j ≤ seen.length ∧ SnP wr p mp mg mc (pushes (x, bs) (seen.take j)).1 (pushes (x, bs) (seen.take j)).2 ∧ Kept [p, mg] w wr ∧ Aid.Own wr w1.heap.size IT .i64 (.slice A seen.length c) (asI seen)) (fun i _ => seen.length - (intOf i).toNat)
        case atStart => exact ⟨0, rfl, by omega, HS.out, Kept.of_below HR.out.2.2.1 _, HR.out.1⟩
        case round =>
          obtain ⟨j, rfl, hj, hS, hK, hown⟩ := hrel
          have HQ := Lib.hid (And.intro hS (And.intro hK hown))
          have hints := own_ints hown
          clear hS hK hown
          by_cases hlt : j < seen.length
          · have hj0 : (0 : Int) ≤ (j : Int) := by omega
            have hj1 : (j : Int) < (seen.length : Int) := by omega
            have hP := HPU.out j
            have hn := HF.out.next hlt
            obtain ⟨bb, o, rfl, _, ca⟩ := hints j (by rw [asI_len]; exact hlt)
            have hgd : (asI seen).getD j 0 = ((seen.getD j 0 : Nat) : Int) := by simp [asI, List.getD_eq_getElem?_getD, hlt]
            rw [hgd] at ca
            have hsn1 : seen.getD j 0 < (pushes (x, bs) (seen.take j)).1.n := by rw [hP.like.n]; exact hn.1
            have HPC := Lib.hid (push_calls wr p mp mg mc _ _ HQ.out.1 (seen.getD j 0) hsn1 (push_ok hP.ok hsn1 hP.ls hn.2))
            have HTK := Lib.hid (pushes_take hlt (x, bs))
            clear hP hn hgd hsn1 hints
            generalize seen.getD j 0 = sj at *
            go_wp2_with fail
            refine HPC.out.mono ?_
            rintro e w5 ⟨rfl, hS5, hK5⟩
            have H5 := Lib.hid (show SnP w5 p mp mg mc (pushes (x, bs) (seen.take (j + 1))).1 (pushes (x, bs) (seen.take (j + 1))).2 ∧ Kept [p, mg] w w5 ∧ Aid.Own w5 w1.heap.size IT .i64 (.slice (some ⟨bb, o, none⟩) seen.length c) (asI seen) from by
              have hz := H1.out.2.2.2.size
              have hlp := HLT.out
              refine ⟨?_, HQ.out.2.1.trans hK5, own_kept HQ.out.2.2 hK5 (by simp; omega)⟩
              rw [HTK.out]
              exact hS5)
            clear hS5 hK5 ca
            go_wp2_with fail
            go_roundw
            case rel => exact ⟨j + 1, by go_num, by omega, H5.out.1, H5.out.2.1, H5.out.2.2⟩
            case measure => simp [intOf]; omega
          · obtain rfl : j = seen.length := by omega
            go_wp2_with fail
            go_ret
            have := HQ.out.1
            rw [List.take_length] at this
            exact allIs_ok HG1.out this HQ.out.2.1
theorem give_calls (a : Int) : Calls Try.prog 31 #[.pointer (some ⟨p, 0, none⟩), .int .i64 a] w (AllIs w p mp mg mc x bs [a] (listO x bs)) := by
  have H := Lib.hid h
  clear h
  go_enter Try.func31, Try.ntmps31
  go_wp2_with fail
  have hb0 := (Below.refl w.heap.size w).alloc (Nat.le_refl _) (.cells #[.int .i64 a] IT)
  have hI : Ints (w.alloc (.cells #[.int .i64 a] IT)) .i64 (some ⟨w.heap.size, 0, none⟩) [a] := fun k hk => by
    obtain rfl : k = 0 := by simp at hk; omega
    exact ⟨_, _, rfl, by simp, by go_simp⟩
  have HC := Lib.hid (all_calls _ p mp mg mc x bs (H.out.below hb0) (some ⟨w.heap.size, 0, none⟩) 1 [a] hI (by simp))
  have HB := Lib.hid hb0
  clear hb0 hI
  refine HC.out.mono ?_
  intro e w1 hA
  have HA := Lib.hid (show ∃ er, e = .returned (.int .i64 er) ∧ AllIs w p mp mg mc x bs [a] (listO x bs) (.returned (.int .i64 er)) w1 from by
    cases ho : listO x bs with
    | none =>
      rw [ho] at hA
      obtain ⟨rfl, hb⟩ := hA
      exact ⟨_, rfl, rfl, below_then HB.out hb⟩
    | some L =>
      rw [ho] at hA
      obtain ⟨rfl, hS, hK⟩ := hA
      exact ⟨_, rfl, rfl, hS, (Kept.of_below HB.out _).trans hK⟩)
  obtain ⟨er, rfl, hA2⟩ := HA.out
  have H2 := Lib.hid hA2
  clear hA hA2 HA
  go_wp2_with fail
  go_ret
  exact H2.out
end
end Go.Proofs.Ytloflnachpjlgaa.New
