/- The reference's New, the law's begin; the plain law of RemoteOrder. -/
import Derived.Test.YtchnhmcedmicgaaRemH
import Derived.Test.YtchnhmcedmicgaaAidQuadW
import Derived.OwnWalk
namespace Go.Proofs.Ytchnhmcedmicgaa.Rem
open Go.RowKit Go.Proofs.Ytchnhmcedmicgaa.Aid
abbrev RQ : TypeId := 108
theorem rnew_yes (w : World) (n : Nat) (h1 : 1 ≤ n) (h2 : n ≤ 64) :
    Calls Try.prog 79 #[.int .i64 n] w fun e w' => ∃ rp, e = .returned (.tuple #[.pointer (some ⟨rp, 0, none⟩), .int .i64 0]) ∧ Blk w' rp #[.int .i64 n, .slice none 0 0] RQ ∧ w.heap.size ≤ rp ∧ Below w.heap.size w w' := by
  have g1 : ¬ (n : Int) < 1 := by omega
  have g2 : ¬ (64 : Int) < n := by omega
  go_enter Try.func79, Try.ntmps79
  go_wp2
  go_ret2
  exact ⟨_, rfl, Blk.new w _ _, Nat.le_refl _, (Below.refl _ _).alloc (Nat.le_refl _) _⟩
theorem rnew_no (w : World) (n : Int) (h : n < 1 ∨ 64 < n) :
    Calls Try.prog 79 #[.int .i64 n] w fun e w' => e = .returned (.tuple #[.pointer none, .int .i64 11]) ∧ w = w' := by
  by_cases h0 : n < 1
  · clear h
    go_enter Try.func79, Try.ntmps79
    go_wp2
    go_ret2
    exact ⟨rfl, rfl⟩
  · have h1 : 64 < n := by omega
    clear h
    go_enter Try.func79, Try.ntmps79
    go_wp2
    go_ret2
    exact ⟨rfl, rfl⟩
theorem begin_yes (w : World) (n : Nat) (h1 : 1 ≤ n) (h2 : n ≤ 64) :
    Calls Try.prog 50 #[.int .i64 n] w fun e w' => ∃ p F rp, e = .returned (.tuple #[.pointer (some ⟨p, 0, none⟩), .pointer (some ⟨rp, 0, none⟩), .bool true]) ∧ Hold w w' p F n 0 (q0 n) [rp] ∧ Blk w' rp #[.int .i64 n, .slice none 0 0] RQ ∧ w.heap.size ≤ rp := by
  go_enter Try.func50, Try.ntmps50
  go_wp2_with fail
  refine (new_yes w n h1 h2).mono ?_
  rintro e w1 ⟨p, F, rfl, hQ, hF, hb⟩
  have H1 := Lib.hid (show Hold w w1 p F n 0 (q0 n) [] from ⟨hQ, fun x hx => hF x (by simp [hx]), hb, by simp⟩)
  clear hQ hF hb
  go_wp2_with fail
  refine (rnew_yes w1 n h1 h2).mono ?_
  rintro e w2 ⟨rp, rfl, hB, hrp, hb⟩
  have HX := Lib.hid (And.intro hB (And.intro hrp hb))
  clear hB hrp hb
  go_wp2_with fail
  go_ret3
  refine ⟨p, F, rp, rfl, (H1.out.on HX.out.2.2).also (cs := [rp]) fun b hb => ?_, HX.out.1, Nat.le_trans H1.out.below.size HX.out.2.1⟩
  simp at hb
  subst hb
  exact ⟨fun hx => by have := H1.out.q.flt _ hx; have := HX.out.2.1; omega, HX.out.1.lt⟩
theorem begin_no (w : World) (n : Int) (h : n < 1 ∨ 64 < n) :
    Calls Try.prog 50 #[.int .i64 n] w fun e w' => e = .returned (.tuple #[.pointer none, .pointer none, .bool true]) ∧ w = w' := by
  have HN := Lib.hid h
  clear h
  go_enter Try.func50, Try.ntmps50
  go_wp2_with fail
  refine (new_no w n HN.out).mono ?_
  rintro e w1 ⟨rfl, rfl⟩
  go_wp2_with fail
  refine (rnew_no w n HN.out).mono ?_
  rintro e w1 ⟨rfl, rfl⟩
  go_wp2_with fail
  go_ret3
  exact ⟨rfl, rfl⟩
/-! ### The law's last numbers -/
def setL (L : Int → Int → Int) (f t v : Int) : Int → Int → Int := fun f' t' => if f' = f ∧ t' = t then v else L f' t'
structure Later (s : QRun) (L : Int → Int → Int) : Prop where
  rowL : ∀ k x, x ∈ row s k → L x.frm k < x.seq
  sentL : ∀ f t, L f t ≤ s.sent f t
theorem later0 (n : Nat) : Later (q0 n) fun _ _ => 0 := ⟨fun k x hx => (by rw [row_q0] at hx; cases hx), fun _ _ => Int.le_refl _⟩
theorem Later.send {n m : Nat} {s : QRun} {L : Int → Int → Int} (h : Later s L) (hok : OkQ n s m) (f t a : Int) : Later (sendS n s f t a) L := by
  unfold sendS
  split
  · next hc =>
    obtain ⟨⟨hf, ht, ha⟩, hw⟩ := sendC_zero hc
    refine ⟨fun k x hx => ?_, fun f' t' => ?_⟩
    · rcases mem_sendD hok ht hx with hx | ⟨rfl, rfl⟩
      · exact h.rowL k x hx
      · have := h.sentL f t
        show L f (t.toNat : Int) < (s.sent f t : Int) + 1
        rw [Int.toNat_of_nonneg ht.1]
        omega
    · have h1 := h.sentL f' t'
      have h2 := sent1_le s f t f' t'
      show L f' t' ≤ (sent1 s f t f' t' : Nat)
      omega
  · exact h
theorem Later.rem {n m : Nat} {s : QRun} {L : Int → Int → Int} (h : Later s L) (hok : OkQ n s m) (a : Int) : Later (remS s a) L := by
  cases e : whr s a with
  | none => rw [show remS s a = s by unfold remS; rw [e]]; exact h
  | some k =>
    have e2 : remS s a = remD s a k := by unfold remS; rw [e]
    rw [e2]
    exact ⟨fun j x hx => h.rowL j x (mem_remD hok (whr_some e).1 hx).1, h.sentL⟩
theorem Later.take {n m : Nat} {s : QRun} {L : Int → Int → Int} (h : Later s L) (hok : OkQ n s m) {w : Int} {x : It} (hx : takeV n s w = some x) :
    L x.frm w < x.seq ∧ x.seq ≤ s.sent x.frm w ∧ Later (takeS n s w) (setL L x.frm w x.seq) ∧ (takeS n s w).sent = s.sent := by
  obtain ⟨hw, r, hr⟩ := takeV_some hx
  obtain ⟨e1, e2, e3, e4⟩ := take_some hok hx
  have hmem : x ∈ row s w.toNat := by rw [hr]; simp
  have hl := h.rowL _ x hmem
  have hs := (hok.rng _ x hmem).2.2.2.2.2
  rw [Int.toNat_of_nonneg hw.1] at hl hs
  have e5 : takeS n s w = remD s x.at_ w.toNat := by rw [e2]; unfold remS; rw [e1]
  have hk : w.toNat < s.rows.length := by rw [hok.len]; omega
  have hsent : (takeS n s w).sent = s.sent := by rw [e5]; rfl
  refine ⟨hl, hs, ⟨fun k y hy => ?_, fun f t => ?_⟩, hsent⟩
  · unfold setL
    by_cases hk2 : k = w.toNat
    · subst hk2
      rw [e3 r hr] at hy
      have hrise := hok.rise w.toNat
      rw [hr] at hrise
      have h1 := (List.pairwise_cons.1 hrise).1 y hy
      split
      · next e => exact h1 e.1.symm
      · exact h.rowL _ y (by rw [hr]; exact List.mem_cons_of_mem _ hy)
    · rw [e4 k hk2] at hy
      rw [if_neg fun e => hk2 (by omega)]
      exact h.rowL k y hy
  · rw [hsent]
    unfold setL
    split
    · next e => rw [e.1, e.2]; exact hs
    · exact h.sentL f t
/-- Sums of rows' lengths. -/
def sumTo (s : QRun) : Nat → Nat
  | 0 => 0
  | k + 1 => sumTo s k + (row s k).length
theorem sumTo_eq (s : QRun) : ∀ k, k ≤ s.rows.length → sumTo s k = ((s.rows.take k).map List.length).sum
  | 0, _ => rfl
  | k + 1, h => by
    rw [sumTo, sumTo_eq s k (by omega), List.take_succ_eq_append_getElem (by omega), row_in (by omega), List.map_append, List.sum_append]
    rfl
theorem sumTo_all {n m : Nat} {s : QRun} (h : OkQ n s m) : sumTo s n = total s := by
  rw [sumTo_eq s n (by rw [h.len]; exact Nat.le_refl _), ← h.len, List.take_of_length_le (Nat.le_refl _)]
  rfl
theorem sumTo_mono (s : QRun) : ∀ k j, k ≤ j → sumTo s k ≤ sumTo s j
  | k, 0, h => by rw [show k = 0 by omega]; exact Nat.le_refl _
  | k, j + 1, h => by
    by_cases e : k = j + 1
    · rw [e]; exact Nat.le_refl _
    · have := sumTo_mono s k j (by omega)
      rw [sumTo]
      omega
end Go.Proofs.Ytchnhmcedmicgaa.Rem
