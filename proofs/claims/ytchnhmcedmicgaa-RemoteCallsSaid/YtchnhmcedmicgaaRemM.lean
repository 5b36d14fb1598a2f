/- The contracts of the reference's All and Remove. -/
import Derived.Test.YtchnhmcedmicgaaRemL
set_option linter.unusedSimpArgs false
namespace Go.Proofs.Ytchnhmcedmicgaa.Rem
open Go.RowKit Go.Proofs.Ytchnhmcedmicgaa.Aid
def forB (k : Int) (r : RRow) : Bool := !r.gone && r.to_ == k
def allL (log : List RRow) (k : Int) : List RRow := log.filter (forB k)
theorem hdr0 (w : World) : Hdr encR 5 (w.alloc (.cells #[] RT)) RT (.slice (some ⟨w.heap.size, 0, none⟩) 0 0) [] :=
  .inr ⟨w.heap.size, 0, rfl, ⟨⟨#[], Blk.new w #[] RT, rfl, rfl⟩, Nat.le_refl _, Nat.zero_le _⟩⟩
/-- The world behind an append to a slice of the call's own. -/
theorem grown_below {base : Nat} {w W w4 : World} {hd : Value} {g4 : Nat} (hb : Below base w W) (hbs : base ≤ W.heap.size) (hown : ∀ g, hd.ownBlock = some g → base ≤ g)
    (hold : ∀ i, i < W.heap.size → hd.ownBlock ≠ some i → w4.heap[i]? = W.heap[i]?) (hg : hd.ownBlock = some g4 ∨ W.heap.size ≤ g4) (hz : W.heap.size ≤ w4.heap.size) (h1 : w4.os = W.os) (h2 : w4.tape = W.tape) (h3 : w4.output = W.output) : Below base w w4 ∧ base ≤ g4 := by
  refine ⟨hb.trans ⟨h1, h2, h3, hz, fun k hk => hold k (by omega) fun e => by have := hown k e; omega⟩, ?_⟩
  rcases hg with h | h
  · exact hown g4 h
  · omega
set_option maxHeartbeats 2000000 in
attribute [-go_sem] Builtin.append_ in
theorem rall_calls (w : World) (rp : Nat) (F : List Nat) (n : Nat) (log : List RRow) (k : Int) (h : RefQ w rp F n log) :
    Calls Try.prog 64 #[.pointer (some ⟨rp, 0, none⟩), .int .i64 k] w fun e w' => ∃ hd, e = .returned hd ∧ Hdr encR 5 w' RT hd (allL log k) ∧ (∀ g, hd.ownBlock = some g → w.heap.size ≤ g) ∧ Below w.heap.size w w' := by
  have HQ := Lib.hid h
  have hlen := h.len
  have hb0 := (Below.refl w.heap.size w).alloc (Nat.le_refl _) (.cells #[] RT)
  have H0 := Lib.hid (And.intro (hdr0 w) hb0)
  clear h hb0
  go_enter Try.func64, Try.ntmps64
  go_wp2_with fail
  go_loopw [5, 6] (fun v i wr => ∃ (j : Nat), j ≤ log.length ∧ i = .int .i64 j ∧ Hdr encR 5 wr RT v ((log.take j).filter (forB k)) ∧ (∀ g, v.ownBlock = some g → w.heap.size ≤ g) ∧ Below w.heap.size w wr) (fun _ i _ => log.length - (intOf i).toNat)
  case atStart => exact ⟨0, by omega, rfl, H0.out.1, fun g (hg : some w.heap.size = some g) => (by injection hg with hg; omega), H0.out.2⟩
  case round =>
    obtain ⟨j, hj, rfl, hH, hg, hb⟩ := hrel
    obtain ⟨A', c', rfl⟩ := hH.shape
    have HH := Lib.hid (And.intro hH hg)
    have HB := Lib.hid hb
    clear hH hg hb H0
    obtain ⟨A, c, c1, hrec⟩ := (HQ.out.below HB.out).open_
    by_cases hlt : j < log.length
    · obtain ⟨x, hx⟩ : ∃ x, log[j]? = some x := ⟨_, List.getElem?_eq_getElem hlt⟩
      obtain ⟨g, rfl, hgF, hRe⟩ := hrec j x hx
      obtain ⟨r0, r1, r2, r3, r4⟩ := rec5 hRe hx
      have hk0 : (0 : Int) ≤ (j : Int) := by omega
      have hk1 : (j : Int) < (log.length : Int) := by omega
      have HT := Lib.hid (filter_take (P := forB k) hx)
      have HLn := Lib.hid (show ((log.take j).filter (forB k)).length ≤ 100000 by have h1 := List.length_filter_le (forB k) (log.take j); rw [List.length_take] at h1; omega)
      clear hrec hRe hx
      cases hgn : x.gone with
      | true =>
        rw [hgn] at r4
        have HW := Lib.hid (show forB k x = false by unfold forB; rw [hgn]; rfl)
        clear hgn
        go_wp2_with fail
        go_roundw
        case rel => exact ⟨j + 1, by omega, by go_num, by rw [HT.out, HW.out]; simpa using HH.out.1, HH.out.2, HB.out⟩
        case measure => simp [intOf]; omega
      | false =>
        by_cases he : x.to_ = k
        · have HW := Lib.hid (show forB k x = true by unfold forB; rw [hgn]; simpa using he)
          obtain ⟨g4, c4, w4, e4, hR4, hold, hown, hz, z1, z2, z3⟩ := append_rec_run (P := Try.prog) (W := wr) 106 106 RT _ 40 Try.underlying106 infoR rfl (by decide) encR_len encR_one HH.out.1 x (by have := HLn.out; omega) (by decide)
          have hgb := grown_below HB.out HB.out.size HH.out.2 hold hown hz z1 z2 z3
          have HR4 := Lib.hid (And.intro hR4 hgb)
          have e4' : (Builtin.append_ #[106, 106] 106 #[.slice A' ((log.take j).filter (forB k)).length c', .slice (some ⟨wr.heap.size, 0, none⟩) 1 1]).run Try.prog (wr.alloc (.cells #[.int .i64 x.to_, .int .i64 x.frm, .int .i64 x.at_, .int .i64 x.seq, .bool x.gone] RT)) = .ok (.slice (some ⟨g4, 0, none⟩) (((log.take j).filter (forB k)).length + 1) c4) w4 := e4
          rw [hgn, he] at e4'
          rw [hgn] at r4
          rw [he] at r0
          clear e4 hR4 hgb hold hown hz z1 z2 z3 hgn he
          go_wp2_with fail
          go_roundw
          case rel => exact ⟨j + 1, by omega, by go_num, by rw [HT.out, if_pos HW.out]; exact .inr ⟨g4, c4, by simp, HR4.out.1⟩, fun g hg => (by injection hg with hg; subst hg; exact HR4.out.2.2), HR4.out.2.1⟩
          case measure => simp [intOf]; omega
        · have HW := Lib.hid (show forB k x = false by unfold forB; simp [he])
          have hne : (x.to_ == k) = false := by simpa using he
          rw [hgn] at r4
          clear hgn he
          go_wp2_with fail
          go_roundw
          case rel => exact ⟨j + 1, by omega, by go_num, by rw [HT.out, HW.out]; simpa using HH.out.1, HH.out.2, HB.out⟩
          case measure => simp [intOf]; omega
    · obtain rfl : j = log.length := by omega
      clear hrec
      go_wp2_with fail
      go_ret
      have hH := HH.out.1
      rw [List.take_of_length_le (Nat.le_refl _)] at hH
      exact ⟨_, rfl, by unfold allL; rw [show ((log.take log.length).filter (forB k)).length = (log.filter (forB k)).length by rw [List.take_of_length_le (Nat.le_refl _)]] at *; exact hH, HH.out.2, HB.out⟩
end Go.Proofs.Ytchnhmcedmicgaa.Rem
