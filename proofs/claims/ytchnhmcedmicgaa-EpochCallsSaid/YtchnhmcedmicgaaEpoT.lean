/- The contracts of the reference's Ack and Behind. -/
import Derived.Test.YtchnhmcedmicgaaEpoS
namespace Go.Proofs.Ytchnhmcedmicgaa.Epo
open Go.RowKit Go.Proofs.Ytchnhmcedmicgaa.Aid
/-- The last row, copied: what a call that copies it meets. -/
structure Copied (w : World) (n b c' : Nat) (r : List Int) (W : World) (g c3 : Nat) (w2 : World) : Prop where
  r1 : (Builtin.append_ #[51, 51] 51 #[.slice (some ⟨w.heap.size, 0, none⟩) 0 0, .slice (some ⟨b, 0, none⟩) n c']).run Try.prog W = .ok (.slice (some ⟨g, 0, none⟩) n c3) w2
  row : Row w2 59 g c3 (r.map (.int .u64))
  le : w.heap.size ≤ g
  below : Below w.heap.size w w2
theorem copied {w : World} {rp sb c n : Nat} {av : List Nat} {s : ERun} (h : RefAt w rp sb c av n s.now s.hist) (hok : OkE n s) : ∃ b c', LastAt w rp sb c n s.hist.length b c' ∧
    ∀ k, ∃ g c3 w2, Copied w n b c' s.row ((w.alloc (.cells #[] 59)).drewN k) g c3 w2 := by
  obtain ⟨b, c', hLA, hI, hbl, hbr, hbs, hba⟩ := RefAt.last h hok
  have hba0 := (Below.refl w.heap.size w).alloc (Nat.le_refl _) (.cells #[] 59)
  refine ⟨b, c', hLA, fun k => ?_⟩
  obtain ⟨g, c3, w2, e1, hrow, hg, hb2⟩ := append_all_run (P := Try.prog) (W := (w.alloc (.cells #[] 59)).drewN k) 51 51 w.heap.size 59 .u64 8 Try.underlying51 info_u64 w.heap.size 0
    (show Own _ _ _ _ _ _ from Own.lit0 w w.heap.size (Nat.le_refl _) 59 .u64) s.row ⟨b, 0, none⟩ c' (hI.below (below_drewN hba0 k)) (by have h1 := hok.len; have h2 := hok.n64; omega) (by have h1 := hok.len; have h2 := hok.n64; omega) (by show w.heap.size ≤ (w.alloc (.cells #[] 59)).heap.size; simp)
  rw [hok.len] at e1
  exact ⟨g, c3, w2, e1, hrow, hg, (below_drewN hba0 k).trans hb2⟩
theorem rleaves_same {w w' : World} {rp sb c n : Nat} {av : List Nat} {s : ERun} (h : RefAt w rp sb c av n s.now s.hist) (hb : Below w.heap.size w w') : RLeaves rp sb av n s w w' := ⟨sb, c, h.below hb, Kept.of_below hb _, .inl rfl⟩
set_option maxHeartbeats 4000000 in
set_option maxRecDepth 4000 in
attribute [-go_sem] Builtin.append_ in
theorem rack_calls (w : World) (rp sb c n : Nat) (av : List Nat) (s : ERun) (k : Int) (h : RefAt w rp sb c av n s.now s.hist) (hok : OkE n s) (hsm : s.hist.length ≤ 100000) (hav : ∀ y ∈ av, y < w.heap.size) :
    Calls Try.prog 72 #[.pointer (some ⟨rp, 0, none⟩), .int .i64 k] w fun e w' => e = .returned (.int .i64 (ackE n s k).1) ∧ RLeaves rp sb av n (stepA n s k) w w' := by
  obtain ⟨b, c', hLA, hC⟩ := copied h hok
  have HC := Lib.hid hC
  have HR := Lib.hid h
  have hr0 := h.lt
  have hba0 := (Below.refl w.heap.size w).alloc (Nat.le_refl _) (.cells #[] 59)
  have HL := Lib.hid (last_calls (w.alloc (.cells #[] 59)) rp sb c n s.hist.length b c' (hLA.below hr0 hba0) (by obtain ⟨hs, e⟩ := hok.last; rw [e]; simp) (by omega))
  have HLN := Lib.hid hok.len
  have h64 := hok.n64
  have HAV := Lib.hid hav
  have Hsm := Lib.hid (show s.hist.length ≤ 1000000 by omega)
  clear hC hba0 hav hsm
  by_cases hk : 0 ≤ k ∧ k < n
  · obtain ⟨j, rfl⟩ := Int.eq_ofNat_of_zero_le hk.1
    have hjn : j < n := by omega
    have hk0 : (0 : Int) ≤ (j : Int) := by omega
    have hk1 : (j : Int) < (n : Int) := by omega
    by_cases he : s.row.getD j 0 = s.now
    · have h1 : stepA n s j = s := by unfold stepA ackE; rw [if_pos (by omega), Int.toNat_natCast, if_pos he]
      have h2 : (ackE n s j).1 = 15 := by unfold ackE; rw [if_pos (by omega), Int.toNat_natCast, if_pos he]
      rw [h1, h2]
      have he' : g64 s.row j = s.now := he
      clear h hok hk h1 h2 he hLA hr0
      go_enter Try.func72, Try.ntmps72
      go_upto_region 2 with (first | (go_at_call 34; refine HL.out.mono ?_; rintro e w3 ⟨rfl, nq, rfl⟩; obtain ⟨g, c3, w2, hcp⟩ := HC.out nq; have r1 := hcp.r1; have HCP := Lib.hid hcp; clear hcp) | fail)
      clear r1
      have x0 := row_cell HCP.out.row (k := j) (by rw [HLN.out]; omega)
      have c0 := (HR.out.below HCP.out.below).head.cell (o := 0) rfl
      rw [he'] at x0
      go_wp2_with fail
      go_region_held3 (fun w' => w'.cell? ⟨g, j, none⟩ = some (.int .u64 s.now) ∧ w'.cell? ⟨rp, 0, none⟩ = some (.int .u64 s.now)) (exact ⟨x0, c0⟩) (fail)
      go_wp2_with fail
      go_ret
      exact ⟨rfl, rleaves_same HR.out HCP.out.below.drew⟩
    · have h1 : stepA n s j = ⟨s.now, s.row.set j s.now, s.hist ++ [s.row.set j s.now]⟩ := by unfold stepA ackE; rw [if_pos (by omega), Int.toNat_natCast, if_neg he]
      have h2 : (ackE n s j).1 = 0 := by unfold ackE; rw [if_pos (by omega), Int.toNat_natCast, if_neg he]
      rw [h1, h2]
      have hne : g64 s.row j ≠ s.now := he
      clear h hok hk h1 h2 he hLA hr0
      go_enter Try.func72, Try.ntmps72
      go_upto_region 2 with (first | (go_at_call 34; refine HL.out.mono ?_; rintro e w3 ⟨rfl, nq, rfl⟩; obtain ⟨g, c3, w2, hcp⟩ := HC.out nq; have r1 := hcp.r1; have HCP := Lib.hid hcp; clear hcp) | fail)
      clear r1
      have x0 := row_cell HCP.out.row (k := j) (by rw [HLN.out]; omega)
      have c0 := (HR.out.below HCP.out.below).head.cell (o := 0) rfl
      have f0 := HCP.out.row.free j
      go_wp2_with fail
      go_region_held3 (fun w' => w'.cell? ⟨g, j, none⟩ = some (.int .u64 (g64 s.row j)) ∧ w'.cell? ⟨rp, 0, none⟩ = some (.int .u64 s.now)) (exact ⟨x0, c0⟩) (fail)
      go_upto_region 7 with fail
      have hrow4 : Row (w2.setCell ⟨g, j, none⟩ (.int .u64 s.now)).drew 59 g c3 ((s.row.set j s.now).map (.int .u64)) := by
        have := HCP.out.row.store j (.int .u64 s.now)
        rw [← List.map_set] at this
        exact this
      have hb4 := (HCP.out.below.setCell (p := ⟨g, j, none⟩) HCP.out.le (.int .u64 s.now)).drew
      generalize (w2.setCell ⟨g, j, none⟩ (.int .u64 s.now)).drew = w4 at hrow4 hb4 ⊢
      clear x0 c0 f0
      obtain ⟨sb2, c2, w5, hG⟩ := grown_of (c3 := c3) HR.out HAV.out hb4 HCP.out.le hrow4.lt (by rw [List.length_set]; exact HLN.out) hrow4.ints Hsm.out
      have y1 := (HR.out.below hb4).head.cell (o := 1) rfl
      have r2 := hG.r2
      have y2 := hG.free
      have y3 := hG.had
      have HG := Lib.hid hG
      clear hG hrow4 hb4
      go_wp2_with fail
      go_ret
      exact ⟨rfl, sb2, c2, HG.out.fin, HG.out.kept, HG.out.loc⟩
  · have h1 : stepA n s k = s := by unfold stepA ackE; rw [if_neg hk]
    have h2 : (ackE n s k).1 = 11 := by unfold ackE; rw [if_neg hk]
    rw [h1, h2]
    clear h hok h1 h2 hLA hr0
    by_cases h0 : k < 0
    · clear hk
      go_enter Try.func72, Try.ntmps72
      go_wp2_with (first | (go_at_call 34; refine HL.out.mono ?_; rintro e w3 ⟨rfl, nq, rfl⟩; obtain ⟨g, c3, w2, hcp⟩ := HC.out nq; have r1 := hcp.r1; have HCP := Lib.hid hcp; clear hcp) | fail)
      go_ret
      exact ⟨rfl, rleaves_same HR.out HCP.out.below⟩
    · have h3 : (n : Int) ≤ k := by omega
      clear hk
      go_enter Try.func72, Try.ntmps72
      go_wp2_with (first | (go_at_call 34; refine HL.out.mono ?_; rintro e w3 ⟨rfl, nq, rfl⟩; obtain ⟨g, c3, w2, hcp⟩ := HC.out nq; have r1 := hcp.r1; have HCP := Lib.hid hcp; clear hcp) | fail)
      go_ret
      exact ⟨rfl, rleaves_same HR.out HCP.out.below⟩
set_option maxHeartbeats 1000000 in
set_option maxRecDepth 4000 in
theorem rbehind_calls (w : World) (rp sb c n : Nat) (av : List Nat) (s : ERun) (h : RefAt w rp sb c av n s.now s.hist) (hok : OkE n s) (hsm : s.hist.length ≤ 100000) :
    Calls Try.prog 39 #[.pointer (some ⟨rp, 0, none⟩)] w fun e w' => ∃ v, e = .returned v ∧ Own w' w.heap.size 3 .i64 v (behV s) ∧ Below w.heap.size w w' := by
  obtain ⟨b, c', hLA, hI, hbl, hbr, hbs, hba⟩ := RefAt.last h hok
  have hr0 := h.lt
  have hba0 := (Below.refl w.heap.size w).alloc (Nat.le_refl _) (.cells #[] 3)
  have HL := Lib.hid (last_calls (w.alloc (.cells #[] 3)) rp sb c n s.hist.length b c' (hLA.below hr0 hba0) (by obtain ⟨hs, e⟩ := hok.last; rw [e]; simp) (by omega))
  have HI := Lib.hid hI
  have HR := Lib.hid h
  have HLN := Lib.hid hok.len
  have h64 := hok.n64
  have HV := Lib.hid (show behV s = behTo s.now s.row n by unfold behV; rw [hok.len])
  clear h hok hLA hI hbr hbs hba hr0 hba0 hsm
  go_enter Try.func39, Try.ntmps39
  go_wp2_with (first | (go_at_call 34; refine HL.out.mono ?_; rintro e w3 ⟨rfl, nq, rfl⟩) | fail)
  go_loopw [3, 5] (fun v i wr => ∃ k : Nat, k ≤ n ∧ i = .int .i64 k ∧ Own wr w.heap.size 3 .i64 v (behTo s.now s.row k) ∧ Below w.heap.size w wr) (fun _ i _ => n - (intOf i).toNat)
  case atStart => exact ⟨0, by omega, rfl, (show Own _ _ _ _ _ _ from Own.lit0 w _ (Nat.le_refl _) _ .i64), below_drewN ((Below.refl _ _).alloc (Nat.le_refl _) _) nq⟩
  case round =>
    obtain ⟨k, hk, rfl, hown, hb⟩ := hrel
    have HO := Lib.hid hown
    have HB := Lib.hid hb
    have hsz := hb.size
    clear hown hb
    by_cases hlt : k < n
    · have hc0 := (HR.out.below HB.out).head.cell (o := 0) rfl
      obtain ⟨b', o', e', hlb, ck⟩ := (HI.out.below HB.out) k (by rw [HLN.out]; exact hlt)
      injection e' with e'
      injection e' with e1 e2
      subst e1 e2
      rw [show s.row.getD k 0 = g64 s.row k from rfl, Nat.zero_add] at ck
      have hk0 : (0 : Int) ≤ (k : Int) := by omega
      have hk2 : (k : Int) < (n : Int) := by omega
      have HS := Lib.hid (show behTo s.now s.row (k + 1) = behTo s.now s.row k ++ (if g64 s.row k = s.now then [] else [(k : Int)]) from rfl)
      have hbl := behTo_len s.now s.row k
      generalize behTo s.now s.row k = bs at HO HS hbl
      generalize g64 s.row k = x at ck HS
      by_cases he : x = s.now
      · subst he
        go_wp2_with fail
        go_region_held3 (fun w' => w'.cell? ⟨b, k, none⟩ = some (.int .u64 s.now) ∧ w'.cell? ⟨rp, 0, none⟩ = some (.int .u64 s.now)) (exact ⟨ck, hc0⟩) (fail)
        go_wp2_with fail
        go_roundw
        case rel => exact ⟨k + 1, by omega, by go_num, by rw [HS.out]; simp only [if_true, List.append_nil]; exact HO.out, HB.out.drew⟩
        case measure => simp [intOf]; omega
      · go_wp2_with fail
        go_region_held3 (fun w' => w'.cell? ⟨b, k, none⟩ = some (.int .u64 x) ∧ w'.cell? ⟨rp, 0, none⟩ = some (.int .u64 s.now)) (exact ⟨ck, hc0⟩) (fail)
        have HO2 := Lib.hid (show Own wr.drew _ _ _ _ _ from HO.out)
        have HB2 := Lib.hid HB.out.drew
        generalize wr.drew = wq at HO2 HB2 ⊢
        have hsz2 := HB2.out.size
        go_wp2_with (at_builtin; refine append_int rfl _ _ 40 rfl w.heap.size 3 .i64 8 Try.underlying40 info_int _ bs rfl HO2.out (k : Int) rfl (by omega) (by omega) hsz2 ?_)
        intro v1 w1 hown1 hb1 _
        have HO1 := Lib.hid hown1
        have HB1 := Lib.hid (HB2.out.trans hb1)
        clear hown1 hb1
        go_wp2_with fail
        go_roundw
        case rel => exact ⟨k + 1, by omega, by go_num, by rw [HS.out, if_neg he]; exact HO1.out, HB1.out⟩
        case measure => simp [intOf]; omega
    · obtain rfl : k = n := by omega
      go_wp2_with fail
      go_ret
      rw [HV.out]
      exact ⟨_, rfl, HO.out, HB.out⟩
end Go.Proofs.Ytchnhmcedmicgaa.Epo
