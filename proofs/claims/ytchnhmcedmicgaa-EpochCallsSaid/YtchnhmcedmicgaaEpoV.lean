/- The contract of the law's own Do. -/
import Derived.Test.YtchnhmcedmicgaaEpoU
namespace Go.Proofs.Ytchnhmcedmicgaa.Epo
open Go.RowKit Go.Proofs.Ytchnhmcedmicgaa.Aid
/-- The program's epochs and the reference's, side by side. -/
structure Both (w : World) (p mb rp sb c n : Nat) (s : ERun) : Prop where
  e : EpAt w p mb n s
  r : RefAt w rp sb c [p, mb] n s.now s.hist
  p : rp ≠ p
  m : rp ≠ mb
theorem Both.sbp {w : World} {p mb rp sb c n : Nat} {s : ERun} (h : Both w p mb rp sb c n s) : sb ≠ p ∧ sb ≠ mb := by
  have := h.r.lists.out
  simp at this
  exact ⟨this.2.1, this.2.2⟩
theorem Both.below {w w' : World} {p mb rp sb c n : Nat} {s : ERun} (h : Both w p mb rp sb c n s) (k : Below w.heap.size w w') : Both w' p mb rp sb c n s := ⟨h.e.below k, h.r.below k, h.p, h.m⟩
/-- What a call of Do leaves. -/
def DoLeaves (p mb rp sb n : Nat) (s' : ERun) (w w' : World) : Prop := ∃ sb' c', Both w' p mb rp sb' c' n s' ∧ Kept [p, mb, rp, sb] w w' ∧ (sb' = sb ∨ w.heap.size ≤ sb')
theorem both_of {w w1 w2 : World} {p mb rp sb c n : Nat} {s s' : ERun} (h : Both w p mb rp sb c n s) (hE : EpAt w1 p mb n s') (k1 : Kept [p, mb] w w1) (hR : RLeaves rp sb [p, mb] n s' w1 w2) : DoLeaves p mb rp sb n s' w w2 := by
  obtain ⟨sb', c', h1, h2, h3⟩ := hR
  have hs := h.sbp
  refine ⟨sb', c', ⟨hE.kept h2 ?_ ?_, h1, h.p, h.m⟩, (k1.mono (by simp)).trans (h2.mono (by simp)), ?_⟩
  · have := h.p; have := hs.1; simp; omega
  · have := h.m; have := hs.2; simp; omega
  · rcases h3 with h3 | h3
    · exact .inl h3
    · exact .inr (Nat.le_trans k1.size h3)
theorem both_of' {w w1 w2 : World} {p mb rp sb c n : Nat} {s s' : ERun} (h : Both w p mb rp sb c n s) (hR : RLeaves rp sb [p, mb] n s' w w1) (hE : EpAt w2 p mb n s') (k2 : Kept [p, mb] w1 w2) : DoLeaves p mb rp sb n s' w w2 := by
  obtain ⟨sb', c', h1, h2, h3⟩ := hR
  exact ⟨sb', c', ⟨hE, h1.kept k2 (by simp) (by have := h.p; have := h.m; simp; omega), h.p, h.m⟩, (h2.mono (by simp)).trans (k2.mono (by simp)), h3⟩
set_option maxHeartbeats 2000000 in
theorem do_calls (w : World) (p mb rp sb c n : Nat) (s : ERun) (k : Int) (h : Both w p mb rp sb c n s) (hs : s.hist.length < 100000) :
    Calls Try.prog 30 #[.pointer (some ⟨p, 0, none⟩), .pointer (some ⟨rp, 0, none⟩), .int .i64 k] w fun e w' => e = .returned (.bool true) ∧ DoLeaves p mb rp sb n (stepE n s k) w w' := by
  have HB := Lib.hid h
  have Hs := Lib.hid hs
  have hav : ∀ y ∈ [p, mb], y < w.heap.size := by have := h.e.lt; simp; omega
  unfold stepE
  by_cases hk : k < -1
  · rw [if_pos hk]
    have HR := Lib.hid (rnext_calls w rp sb c n [p, mb] s h.r h.e.ok (by omega) hav)
    clear h hav
    go_enter Try.func30, Try.ntmps30
    go_wp2_with fail
    refine HR.out.mono ?_
    rintro e w1 ⟨⟨v, rfl⟩, hR⟩
    have HR1 := Lib.hid hR
    have hE1 : EpAt w1 p mb n s := by
      obtain ⟨sb', c', h1, h2, h3⟩ := hR
      have h4 := HB.out.sbp
      exact HB.out.e.kept h2 (by have := HB.out.p; simp; omega) (by have := HB.out.m; simp; omega)
    have c0 : w1.cell? ⟨rp, 0, none⟩ = some (.int .u64 (s.now + 1)) := by
      obtain ⟨sb', c', h1, h2, h3⟩ := hR
      exact h1.head.cell (o := 0) rfl
    have HN := Lib.hid (next_calls w1.drew p mb n s hE1.drew Hs.out)
    have HP := Lib.hid (show rp ∉ [p, mb] by have := HB.out.p; have := HB.out.m; simp; omega)
    have HC := Lib.hid (fun (w2 : World) (k2 : Kept [p, mb] w1.drew w2) => (show w2.cell? ⟨rp, 0, none⟩ = some (.int .u64 (s.now + 1)) from by
      obtain ⟨sb', c', h1, h2, h3⟩ := HR1.out
      exact (h1.head.kept (undrewK k2) HP.out).cell (o := 0) rfl))
    clear hR hE1
    go_wp2_with fail
    go_region_held3 (fun w' => w'.cell? ⟨rp, 0, none⟩ = some (.int .u64 (s.now + 1))) (first | exact c0 | exact c1)
      ((first | (go_at_call 44; (with_reducible refine (Calls.mono HN.out ?_)); rintro e w2 ⟨rfl, hE2, hk2⟩; have HE2 := Lib.hid hE2; have HK2 := Lib.hid (undrewK hk2); have c1 := HC.out _ hk2; clear hE2 hk2)))
    go_wp2_with fail
    go_ret
    exact ⟨by simp, both_of' HB.out HR1.out HE2.out HK2.out⟩
  · rw [if_neg hk]
    have HA := Lib.hid (ack_calls w p mb n s k h.e Hs.out)
    clear h hav
    go_enter Try.func30, Try.ntmps30
    go_wp2_with fail
    refine HA.out.mono ?_
    rintro e w1 ⟨rfl, hE, hk1⟩
    have hr1 : RefAt w1 rp sb c [p, mb] n s.now s.hist := HB.out.r.kept hk1 (by simp) (by have := HB.out.p; have := HB.out.m; simp; omega)
    have HRA := Lib.hid (rack_calls w1 rp sb c n [p, mb] s k hr1 HB.out.e.ok (by have := Hs.out; omega) (by have := hE.lt; simp; omega))
    have HE := Lib.hid hE
    have HK := Lib.hid hk1
    clear hE hk1 hr1
    go_wp2_with fail
    refine HRA.out.mono ?_
    rintro e w2 ⟨rfl, hR2⟩
    have HR2 := Lib.hid hR2
    clear hR2
    go_wp2_with fail
    go_ret
    exact ⟨by simp, both_of HB.out HE.out HK.out HR2.out⟩
end Go.Proofs.Ytchnhmcedmicgaa.Epo
