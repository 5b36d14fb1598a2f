/- The contracts of the reference's Total, and of the law's alike on two lists that tell the same. -/
import Derived.Test.YtchnhmcedmicgaaRemU
import Derived.Test.YtchnhmcedmicgaaRemS
set_option linter.unusedSimpArgs false
namespace Go.Proofs.Ytchnhmcedmicgaa.Rem
open Go.RowKit Go.Proofs.Ytchnhmcedmicgaa.Aid
theorem rtotal_calls (w : World) (rp : Nat) (F : List Nat) (n : Nat) (log : List RRow) (h : RefQ w rp F n log) :
    Calls Try.prog 61 #[.pointer (some ⟨rp, 0, none⟩)] w fun e w' => e = .returned (.int .i64 ((log.filter liveB).length : Nat)) ∧ w = w' := by
  obtain ⟨A, c, c1, hrec⟩ := h.open_
  have HR := Lib.hid hrec
  have hlen := h.len
  have HAll := Lib.hid (cntL_all liveB log)
  clear h hrec
  go_enter Try.func61, Try.ntmps61
  go_wp2_with fail
  go_loop [3, 4] (fun a i => ∃ k : Nat, k ≤ log.length ∧ i = .int .i64 k ∧ a = .int .i64 (cntL liveB log k : Nat)) (fun _ i => log.length - (intOf i).toNat)
  case atStart => exact ⟨0, by omega, rfl, rfl⟩
  case round =>
    obtain ⟨k, hk, rfl, rfl⟩ := hrel
    by_cases hlt : k < log.length
    · obtain ⟨x, hx⟩ : ∃ x, log[k]? = some x := ⟨_, List.getElem?_eq_getElem hlt⟩
      obtain ⟨g, rfl, _, hRe⟩ := HR.out k x hx
      obtain ⟨_, _, _, _, r4⟩ := rec5 hRe hx
      have hk0 : (0 : Int) ≤ (k : Int) := by omega
      have hk1 : (k : Int) < (log.length : Int) := by omega
      have HS := Lib.hid (cntL_step (P := liveB) hx)
      have hle := cntL_le liveB log k
      have hlz : ((cntL liveB log k : Nat) : Int) ≤ (k : Int) := by omega
      generalize cntL liveB log k = cn at HS hlz ⊢
      clear hle hRe hx
      cases hg : x.gone with
      | true =>
        have HB := Lib.hid (show liveB x = false by simp [liveB, hg])
        rw [hg] at r4
        clear hg
        go_wp2_with fail
        go_round
        case rel => exact ⟨k + 1, by omega, by go_num, by rw [HS.out, HB.out]; simp⟩
        case measure => simp [intOf]; omega
      | false =>
        have HB := Lib.hid (show liveB x = true by simp [liveB, hg])
        rw [hg] at r4
        clear hg
        go_wp2_with fail
        go_round
        case rel => exact ⟨k + 1, by omega, by go_num, by rw [HS.out, if_pos HB.out]; go_num⟩
        case measure => simp [intOf]; omega
    · obtain rfl : k = log.length := by omega
      go_wp2_with fail
      go_ret
      exact ⟨by rw [HAll.out]; rfl, rfl⟩
theorem hdrR_of {w : World} {hd : Value} {L : List RRow} (h : Hdr encR 5 w RT hd L) {i : Nat} {x : RRow} (hx : L[i]? = some x) : ∃ g c, hd = .slice (some ⟨g, 0, none⟩) L.length c ∧ Recs encR 5 w RT g c L := by
  rcases h with ⟨_, h0⟩ | h0
  · subst h0; simp at hx
  · exact h0
set_option maxHeartbeats 4000000 in
theorem alike_calls (w : World) (hd1 hd2 : Value) (L : List It) (M : List RRow) (h1 : Hdr encI 3 w IT hd1 L) (h2 : Hdr encR 5 w RT hd2 M) (hL : L = M.map itR) :
    Calls Try.prog 65 #[hd1, hd2] w fun e w' => e = .returned (.bool true) ∧ Below w.heap.size w w' := by
  have hl : L.length = M.length := by rw [hL, List.length_map]
  have hmx : M.length ≤ maxLen := by
    rcases h2 with ⟨_, rfl⟩ | ⟨g, c, _, hr⟩
    · exact Nat.zero_le _
    · exact Nat.le_trans hr.cap hr.max
  have HMx := Lib.hid hmx
  obtain ⟨A1, c1, rfl⟩ := h1.shape
  obtain ⟨A2, c2, rfl⟩ := h2.shape
  have H1 := Lib.hid h1
  have H2 := Lib.hid h2
  have HL := Lib.hid hL
  have Hl := Lib.hid hl
  rw [hl] at H1 ⊢
  clear h1 h2 hmx
  have hN : ((M.length : Int) != (M.length : Int)) = false := by simp
  clear hL hl
  go_enter Try.func65, Try.ntmps65
  go_wp2_with fail
  go_loopw [5] (fun i wr => ∃ (j : Nat), j ≤ M.length ∧ i = .int .i64 j ∧ Below w.heap.size w wr) (fun i _ => M.length - (intOf i).toNat)
  case atStart => exact ⟨0, by omega, rfl, Below.refl _ _⟩
  case round =>
    obtain ⟨j, hj, rfl, hb⟩ := hrel
    have HB := Lib.hid hb
    clear hb
    by_cases hlt : j < M.length
    · obtain ⟨y, hy⟩ : ∃ y, M[j]? = some y := ⟨_, List.getElem?_eq_getElem hlt⟩
      have hx : L[j]? = some (itR y) := by rw [HL.out, List.getElem?_map, hy]; rfl
      have h1 := H1.out
      rw [← Hl.out] at h1
      obtain ⟨g, c, hgc, hRe⟩ := Hdr.recs_of h1 hx
      obtain ⟨r0, r1, r2⟩ := rec_cells (hRe.below HB.out) hx
      obtain ⟨gm, cm, hgm, hRm⟩ := hdrR_of H2.out hy
      obtain ⟨q0, q1, q2, q3, q4⟩ := rec5 (hRm.below HB.out) hy
      have e1 := congrArg (fun v => match v with | Value.slice A _ _ => A | _ => none) hgc
      have e2 := congrArg (fun v => match v with | Value.slice A _ _ => A | _ => none) hgm
      simp only at e1 e2
      subst e1
      subst e2
      have hj0 : (0 : Int) ≤ (j : Int) := by omega
      have hj1 : (j : Int) < (M.length : Int) := by omega
      have HS := Lib.hid (fun W => same_calls W (itR y) y)
      simp only [sameB_itR] at HS
      have hj2 : (j : Int) < 9223372036854775807 := by have := HMx.out; unfold maxLen at this; omega
      have HRx := Lib.hid (fun (W : World) (hb : Below wr.drew.heap.size wr.drew W) => (show W.cell? ⟨g, j * 3, none⟩ = some (.int .i64 (itR y).frm) ∧ W.cell? ⟨g, j * 3 + 1, none⟩ = some (.int .i64 (itR y).at_) ∧ W.cell? ⟨g, j * 3 + 2, none⟩ = some (.int .i64 (itR y).seq) ∧ W.cell? ⟨gm, j * 5, none⟩ = some (.int .i64 y.to_) ∧ W.cell? ⟨gm, j * 5 + 1, none⟩ = some (.int .i64 y.frm) ∧ W.cell? ⟨gm, j * 5 + 2, none⟩ = some (.int .i64 y.at_) ∧ W.cell? ⟨gm, j * 5 + 3, none⟩ = some (.int .i64 y.seq) ∧ W.cell? ⟨gm, j * 5 + 4, none⟩ = some (.bool y.gone) from by
        obtain ⟨a0, a1, a2⟩ := rec_cells ((hRe.below HB.out).drew.below hb) hx
        obtain ⟨b0, b1, b2, b3, b4⟩ := rec5 ((hRm.below HB.out).drew.below hb) hy
        exact ⟨a0, a1, a2, b0, b1, b2, b3, b4⟩))
      clear h1 hgc hRe hgm hRm hx hy
      go_wp2_with fail
      go_region_held3 (fun w' => w'.cell? ⟨g, j * 3, none⟩ = some (.int .i64 (itR y).frm) ∧ w'.cell? ⟨g, j * 3 + 1, none⟩ = some (.int .i64 (itR y).at_) ∧ w'.cell? ⟨g, j * 3 + 2, none⟩ = some (.int .i64 (itR y).seq) ∧ w'.cell? ⟨gm, j * 5, none⟩ = some (.int .i64 y.to_) ∧ w'.cell? ⟨gm, j * 5 + 1, none⟩ = some (.int .i64 y.frm) ∧ w'.cell? ⟨gm, j * 5 + 2, none⟩ = some (.int .i64 y.at_) ∧ w'.cell? ⟨gm, j * 5 + 3, none⟩ = some (.int .i64 y.seq) ∧ w'.cell? ⟨gm, j * 5 + 4, none⟩ = some (.bool y.gone))
        (first | exact ⟨r0, r1, r2, q0, q1, q2, q3, q4⟩ | exact HRx.out _ hk8.out)
        ((first
          | (go_at_call 86; (with_reducible refine (Calls.mono (HS.out _) ?_)); rintro e w8 ⟨rfl, hk⟩; have hk8 := Lib.hid hk; clear hk)))
      go_wp2_with fail
      go_roundw
      case rel => exact ⟨j + 1, by omega, by go_num, below_then HB.out.drew hk8.out⟩
      case measure => simp [intOf]; omega
    · obtain rfl : j = M.length := by omega
      go_wp2_with fail
      go_ret
      exact ⟨rfl, HB.out⟩
end Go.Proofs.Ytchnhmcedmicgaa.Rem
