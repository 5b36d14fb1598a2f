/- Slabs of the new layout: Taken. -/
import Derived.Test.YtloflnachpjlgaaNewL
set_option linter.unusedSimpArgs false
namespace Go.Proofs.Ytloflnachpjlgaa.New
open Go.RowKit Go.Proofs.Ytloflnachpjlgaa.Aid Go.Proofs.Ytloflnachpjlgaa.Cell
theorem clip_calls {w : World} {base : Nat} {v : Value} {xs : List Int} (h : Aid.Own w base IT .i64 v xs) : Calls Try.prog 74 #[v] w fun e w' => ∃ A c, e = .returned (.slice A xs.length c) ∧ Ints w .i64 A xs ∧ (∀ b o, A = some ⟨b, o, none⟩ → base ≤ b) ∧ w = w' := by
  by_cases hv : v = .slice none 0 0
  · subst hv
    have hx : xs = [] := by
      obtain ⟨A, c, e, _⟩ := h.shape
      injection e with _ e _
      exact List.length_eq_zero_iff.1 e.symm
    subst hx
    clear h
    go_enter Try.func74, Try.ntmps74
    go_wp2_with fail
    go_ret
    exact ⟨none, 0, rfl, fun k hk => by simp at hk, fun b o e => (by cases e), rfl⟩
  · obtain ⟨g, c, rfl, hc, hr, hg⟩ := Row.of_own h hv
    have hI := own_ints h
    have hcap := hr.cap
    simp only [List.length_map] at hcap
    obtain ⟨hc1, hc2⟩ := hcap
    have H := Lib.hid (And.intro hI hg)
    clear h hr hI hg hc hv
    generalize xs.length = n at *
    go_enter Try.func74, Try.ntmps74
    go_wp2_with fail
    go_ret
    exact ⟨_, _, rfl, H.out.1, fun b o e => (by cases e; exact H.out.2), rfl⟩
/-- The slots that are in no list. -/
def compl (n : Nat) (T : List Nat) : List Nat := (List.range n).filter fun k => !decide (k ∈ T)
def complTo (T : List Nat) (d : Nat) : List Nat := (List.range d).filter fun k => !decide (k ∈ T)
theorem complTo_succ (T : List Nat) (d : Nat) : complTo T (d + 1) = if d ∈ T then complTo T d else complTo T d ++ [d] := by
  unfold complTo
  rw [List.range_succ, List.filter_append]
  by_cases h : d ∈ T
  · simp [h]
  · simp [h]
theorem complTo_len (T : List Nat) (d : Nat) : (complTo T d).length ≤ d := by
  unfold complTo
  exact Nat.le_trans (List.length_filter_le _ _) (by simp)
theorem test_marks {n k : Nat} (T : List Nat) (h : k < n) : Bit.testB (marks n T) (k : Int) = decide (k ∈ T) := by
  unfold Bit.testB
  rw [Bit.inR_nat _ _ (by rw [marks_len]; exact h), Int.toNat_natCast, marks_get T h, Bool.true_and]
/-- What Taken answers. -/
def TakenIs (w : World) (n : Nat) (o : Option (List Nat)) (e : Ending) (w' : World) : Prop := match o with
  | none => e = .returned (.tuple #[.slice none 0 0, .int .i64 10]) ∧ Below w.heap.size w w'
  | some L => ∃ A c, e = .returned (.tuple #[.slice A (asI (compl n L)).length c, .int .i64 0]) ∧ Ints w' .i64 A (asI (compl n L)) ∧ (∀ b o, A = some ⟨b, o, none⟩ → w.heap.size ≤ b) ∧ Below w.heap.size w w'
section
variable (w : World) (p mp mg mc : Nat) (x : Sn) (bs : List Int) (h : SnP w p mp mg mc x bs)
include h
set_option maxHeartbeats 2000000 in
theorem taken_calls : Calls Try.prog 25 #[.pointer (some ⟨p, 0, none⟩)] w (TakenIs w x.n (listO x bs)) := by
  have HK := Lib.hid (row_calls w p mp mg mc x bs h)
  have H := Lib.hid h
  have hm := h.ok.many.1
  clear h
  cases ho : listO x bs with
  | none =>
    rw [ho] at HK
    go_enter Try.func25, Try.ntmps25
    go_wp2_with fail
    refine HK.out.mono ?_
    rintro e w1 ⟨rfl, hb⟩
    have H1 := Lib.hid hb
    clear hb
    go_wp2_with fail
    go_ret2
    exact ⟨rfl, H1.out⟩
  | some L =>
    rw [ho] at HK
    clear ho
    go_enter Try.func25, Try.ntmps25
    go_wp2_with fail
    refine HK.out.mono ?_
    rintro e w1 ⟨rp, rg, rc, rfl, hr, hr1, hg1, hb⟩
    have H1 := Lib.hid (And.intro hr hb)
    have HRL := Lib.hid (row_lts hr)
    obtain ⟨_, _, _, _, c4, _, _⟩ := (H.out.below hb).cells
    clear hr hr1 hg1 hb
    go_wp2_with fail
    go_loopw [6, 20] (fun v i wr => ∃ (k : Nat), i = .int .i64 k ∧ k ≤ x.n ∧ Aid.Own wr w1.heap.size IT .i64 v (asI (complTo L k)) ∧ Bit.RowAt wr rp rg rc (marks x.n L) ∧ Below w.heap.size w wr ∧ Below w1.heap.size w1 wr) (fun _ i _ => x.n - (intOf i).toNat)
    case atStart => exact ⟨0, rfl, by omega, Own.nil _ _ _ _, H1.out.1, H1.out.2, Below.refl _ _⟩
    case round =>
      obtain ⟨k, rfl, hk, hown, hrow, hB, hB1⟩ := hrel
      by_cases hlt : k < x.n
      · have hk0 : (0 : Int) ≤ (k : Int) := by omega
        have hk1 : (k : Int) < (x.n : Int) := by omega
        have hln := complTo_len L k
        have HT := Lib.hid (Bit.test_calls wr rp rg rc (marks x.n L) (k : Int) hrow)
        rw [test_marks L hlt] at HT
        have HR := Lib.hid (And.intro hown (And.intro hrow (And.intro hB hB1)))
        have HS := Lib.hid (complTo_succ L k)
        clear hown hrow hB hB1
        by_cases hin : k ∈ L
        · rw [show decide (k ∈ L) = true by simpa using hin] at HT
          rw [if_pos hin] at HS
          clear hin
          go_wp2_with fail
          refine HT.out.mono ?_
          rintro e w2 ⟨rfl, nq, rfl⟩
          have hdn := below_drewN (Below.refl wr.heap.size wr) nq
          have H2 := Lib.hid (And.intro (HR.out.1.below hdn) (And.intro (HR.out.2.1.below hdn) (And.intro (below_drewN HR.out.2.2.1 nq) (below_drewN HR.out.2.2.2 nq))))
          clear hdn
          go_wp2_with fail
          go_roundw
          case rel => exact ⟨k + 1, by go_num, by omega, by rw [HS.out]; exact H2.out.1, H2.out.2.1, H2.out.2.2.1, H2.out.2.2.2⟩
          case measure => simp [intOf]; omega
        · rw [show decide (k ∈ L) = false by simpa using hin] at HT
          rw [if_neg hin] at HS
          clear hin
          go_wp2_with fail
          refine HT.out.mono ?_
          rintro e w2 ⟨rfl, nq, rfl⟩
          have hdn := below_drewN (Below.refl wr.heap.size wr) nq
          have H2 := Lib.hid (And.intro (HR.out.1.below hdn) (And.intro (HR.out.2.1.below hdn) (And.intro (below_drewN HR.out.2.2.1 nq) (below_drewN HR.out.2.2.2 nq))))
          clear hdn
          generalize wr.drewN nq = w2 at H2 ⊢
          obtain ⟨A, c, rfl, _⟩ := H2.out.1.shape
          have hbz : w1.heap.size ≤ w2.heap.size := H2.out.2.2.2.size
          rw [asI_len] at *
          go_wp2_with (at_builtin; refine append_int rfl _ _ 30 rfl w1.heap.size 3 .i64 8 Try.underlying30 info_int _ (asI (complTo L k)) rfl H2.out.1 (k : Int) rfl (by rw [asI_len]; omega) (by rw [asI_len]; omega) hbz ?_)
          intro v1 w3 hown1 hb1 _
          have HO1 := Lib.hid hown1
          have H3 := Lib.hid (show Bit.RowAt w3 rp rg rc (marks x.n L) ∧ Below w.heap.size w w3 ∧ Below w1.heap.size w1 w3 from by
            have hr := kept_rangeN hb1
            refine ⟨H2.out.2.1.kept hr (fun hx => ?_) (fun hx => ?_), H2.out.2.2.1.trans (hb1.mono H1.out.2.size), H2.out.2.2.2.trans hb1⟩
            · have := in_rangeN hx
              have := HRL.out.1
              omega
            · have := in_rangeN hx
              have := HRL.out.2
              omega)
          clear hown1 hb1
          go_wp2_with fail
          go_roundw
          case rel => exact ⟨k + 1, by go_num, by omega, by rw [HS.out, asI_snoc]; exact HO1.out, H3.out.1, H3.out.2.1, H3.out.2.2⟩
          case measure => simp [intOf]; omega
      · obtain rfl : k = x.n := by omega
        have HC := Lib.hid (clip_calls hown)
        have HB := Lib.hid hB
        obtain ⟨A, c, rfl, _⟩ := hown.shape
        clear hown hrow hB hB1 hlt hk
        go_wp2_with fail
        refine HC.out.mono ?_
        rintro e w2 ⟨A2, c2, rfl, hI, hA, rfl⟩
        have H2 := Lib.hid (And.intro hI hA)
        clear hI hA
        go_wp2_with fail
        go_ret2
        exact ⟨A2, c2, rfl, H2.out.1, fun b o e => Nat.le_trans H1.out.2.size (H2.out.2 b o e), HB.out⟩
end
end Go.Proofs.Ytloflnachpjlgaa.New
