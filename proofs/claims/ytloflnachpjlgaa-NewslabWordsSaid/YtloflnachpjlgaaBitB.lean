/- The contracts of package bits' small methods: a row is a block that holds a length and a slice over a block of words. -/
import Derived.Test.YtloflnachpjlgaaBitA
import Derived.BigQuiet
import Derived.Deep.QuietTactic
namespace Go.Proofs.Ytloflnachpjlgaa.Bit
open Go.RowKit Go.Proofs.Ytloflnachpjlgaa.Aid
theorem info_u64 : (Try.prog.info? 22).map (fun i => (i.zero, i.size, i.bytes)) = some (some (.int .u64 0), 1, 8) := by kernel_rfl
/-- A row: its struct in block p, its words in block g. -/
structure RowAt (w : World) (p g c : Nat) (l : List Bool) : Prop where
  ne : p ≠ g
  pos : 0 < g
  head : Blk w p #[.int .i64 l.length, .slice (some ⟨g, 0, none⟩) (nwords l.length) c] 124
  row : Row w 22 g c ((words l).map (.int .u64))
  small : l.length ≤ 4096
theorem RowAt.kept {w w' : World} {p g c : Nat} {l : List Bool} (h : RowAt w p g c l) {F : List Nat} (k : Kept F w w') (hp : p ∉ F) (hg : g ∉ F) : RowAt w' p g c l := ⟨h.ne, h.pos, h.head.kept k hp, h.row.kept k hg, h.small⟩
theorem RowAt.below {w w' : World} {p g c : Nat} {l : List Bool} (h : RowAt w p g c l) (k : Below w.heap.size w w') : RowAt w' p g c l := ⟨h.ne, h.pos, h.head.below k, h.row.below k, h.small⟩
theorem RowAt.alloc {w : World} {p g c : Nat} {l : List Bool} (h : RowAt w p g c l) (o : Obj) : RowAt (w.alloc o) p g c l := ⟨h.ne, h.pos, h.head.alloc o, h.row.alloc o, h.small⟩
theorem RowAt.drewN {w : World} {p g c : Nat} {l : List Bool} (h : RowAt w p g c l) (n : Nat) : RowAt (w.drewN n) p g c l := ⟨h.ne, h.pos, h.head, h.row, h.small⟩
theorem RowAt.le {w : World} {p g c : Nat} {l : List Bool} (h : RowAt w p g c l) : nwords l.length ≤ c ∧ c ≤ maxLen := by
  have := h.row.cap
  simpa [words_len] using this
theorem RowAt.word {w : World} {p g c : Nat} {l : List Bool} (h : RowAt w p g c l) {k : Nat} (hk : k < nwords l.length) : w.cell? ⟨g, k, none⟩ = some (.int .u64 (word l k)) := by
  rw [h.row.cell (by simpa [words_len] using hk)]
  rw [List.getElem?_map, ← words_get l k hk, List.getD_eq_getElem?_getD, List.getElem?_eq_getElem (by rw [words_len]; exact hk)]
  rfl
theorem RowAt.facts {w : World} {p g c : Nat} {l : List Bool} (h : RowAt w p g c l) : w.cell? ⟨p, 0, none⟩ = some (.int .i64 l.length) ∧ w.cell? ⟨p, 1, none⟩ = some (.slice (some ⟨g, 0, none⟩) (nwords l.length) c) :=
  ⟨h.head.cell rfl, h.head.cell rfl⟩
/-- One bit of a row is turned. -/
theorem RowAt.put {w : World} {p g c : Nat} {l : List Bool} (h : RowAt w p g c l) {i : Nat} {b : Bool} (hi : i < l.length) : RowAt (w.setCell ⟨g, i / 64, none⟩ (.int .u64 (Bit.word (l.set i b) (i / 64)))) p g c (l.set i b) := by
  refine ⟨h.ne, h.pos, ?_, ?_, by rw [List.length_set]; exact h.small⟩
  · rw [List.length_set]
    exact h.head.other h.ne _
  · have := h.row.store (i / 64) (.int .u64 (Bit.word (l.set i b) (i / 64)))
    rw [← List.map_set, words_set l i b hi] at this
    exact this
theorem ret_pi {A : Option Addr} {x y : Int} (h : x = y) : Ending.returned (.tuple #[.pointer A, .int .u64 x]) = .returned (.tuple #[.pointer A, .int .u64 y]) := by rw [h]
theorem wrap_two (j : Nat) (hj : j < 64) : IntKind.u64.wrap ((2 : Int) ^ j) = ((2 ^ j : Nat) : Int) := by
  have h := R_two j hj
  have e : ((2 : Int) ^ j) = ((2 ^ j : Nat) : Int) := by simp
  rw [e, u64_wrap]
  unfold R at h
  generalize ((2 ^ j : Nat) : Int) = m at h ⊢
  omega
theorem word_no (w : World) (p g c : Nat) (l : List Bool) (k : Int) (h : RowAt w p g c l) (hk : k < 0 ∨ (l.length : Int) ≤ k) :
    Calls Try.prog 83 #[.pointer (some ⟨p, 0, none⟩), .int .i64 k] w fun e w' => e = .returned (.tuple #[.pointer none, .int .u64 0]) ∧ w = w' := by
  obtain ⟨c0, c1⟩ := h.facts
  clear h
  by_cases h0 : k < 0
  · clear hk
    go_enter Try.func83, Try.ntmps83
    go_wp2
    go_ret2
    exact ⟨rfl, rfl⟩
  · have h1 : 0 ≤ k := by omega
    have h2 : (l.length : Int) ≤ k := by omega
    clear hk
    go_enter Try.func83, Try.ntmps83
    go_wp2
    go_ret2
    exact ⟨rfl, rfl⟩
theorem word_yes (w : World) (p g c : Nat) (l : List Bool) (k : Nat) (h : RowAt w p g c l) (hk : k < l.length) :
    Calls Try.prog 83 #[.pointer (some ⟨p, 0, none⟩), .int .i64 k] w fun e w' => e = .returned (.tuple #[.pointer (some ⟨g, k / 64, none⟩), .int .u64 ((2 ^ (k % 64) : Nat) : Int)]) ∧ ∃ nq, w' = w.drewN nq := by
  obtain ⟨c0, c1⟩ := h.facts
  have hs := h.small
  have hw : k / 64 < nwords l.length := by unfold nwords; omega
  generalize nwords l.length = m at c1 hw
  clear h
  have h0 : (0 : Int) ≤ (k : Int) := by omega
  have h1 : (k : Int) < (l.length : Int) := by omega
  have h2 : (0 : Int) ≤ (k : Int) / 64 := by omega
  have h3 : (k : Int) / 64 < (m : Int) := by omega
  have h4 : ((k : Int) / 64).toNat = k / 64 := by omega
  have h5 : (0 : Int) ≤ (k : Int) % 64 := by omega
  have h6 : (k : Int) % 64 < 64 := by omega
  go_enter Try.func83, Try.ntmps83
  go_wp2_with fail
  go_quiet (fail)
  go_wp2_with fail
  go_ret2
  exact ⟨ret_pi (wrap_two _ (by omega)), _, rfl⟩
def inR (l : List Bool) (k : Int) : Bool := decide (0 ≤ k ∧ k < l.length)
def setL (l : List Bool) (k : Int) (b : Bool) : List Bool := if inR l k = true then l.set k.toNat b else l
def setB (l : List Bool) (k : Int) (b : Bool) : Bool := inR l k && (l.getD k.toNat false != b)
def testB (l : List Bool) (k : Int) : Bool := inR l k && l.getD k.toNat false
theorem setL_len (l : List Bool) (k : Int) (b : Bool) : (setL l k b).length = l.length := by unfold setL; split <;> simp
theorem inR_nat (l : List Bool) (k : Nat) (h : k < l.length) : inR l k = true := by unfold inR; simp; exact h
theorem inR_no (l : List Bool) (k : Int) (h : k < 0 ∨ (l.length : Int) ≤ k) : inR l k = false := by unfold inR; simp; omega
theorem set_same (l : List Bool) (k : Nat) (b : Bool) (h : k < l.length) (hb : l.getD k false = b) : l.set k b = l := by
  apply List.ext_getElem?
  intro i
  rw [List.getElem?_set]
  by_cases hi : k = i
  · subst hi
    simp [List.getD_eq_getElem?_getD, h] at hb
    simp [h, hb]
  · simp [hi]
/-- What Set and Clear do. -/
def PutGives (p g c : Nat) (l : List Bool) (k : Int) (b : Bool) (w : World) (e : Ending) (w' : World) : Prop :=
  e = .returned (.bool (setB l k b)) ∧ RowAt w' p g c (setL l k b) ∧ Kept [g] w w'
theorem u64_bit (l : List Bool) (k : Nat) : (Go.bits .and .u64 (Bit.word l (k / 64)) ((2 ^ (k % 64) : Nat) : Int) != 0) = l.getD k false := by
  rw [test_bit _ _ (by omega), word_bit _ _ _ (by omega)]
  congr 1; omega
theorem u64_bit' (l : List Bool) (k : Nat) : (Go.bits .and .u64 (Bit.word l (k / 64)) ((2 ^ (k % 64) : Nat) : Int) == 0) = !l.getD k false := by
  rw [← u64_bit]; simp [bne]
set_option maxHeartbeats 1000000 in
theorem set_calls (w : World) (p g c : Nat) (l : List Bool) (k : Int) (h : RowAt w p g c l) :
    Calls Try.prog 54 #[.pointer (some ⟨p, 0, none⟩), .int .i64 k] w (PutGives p g c l k true w) := by
  by_cases hk : k < 0 ∨ (l.length : Int) ≤ k
  · have H := Lib.hid h
    have Hw := Lib.hid (word_no w p g c l k h hk)
    have hi := inR_no l k hk
    have h1 : setB l k true = false := by unfold setB; rw [hi]; rfl
    have h2 : setL l k true = l := by unfold setL; rw [hi]; rfl
    unfold PutGives
    rw [h1, h2]
    clear h hk hi h1 h2
    go_enter Try.func54, Try.ntmps54
    go_wp2_with fail
    refine Hw.out.mono ?_
    rintro e w' ⟨rfl, rfl⟩
    go_wp2_with fail
    go_ret
    exact ⟨rfl, H.out, Kept.refl _ _⟩
  · obtain ⟨k, rfl⟩ := Int.eq_ofNat_of_zero_le (show 0 ≤ k by omega)
    have hk' : k < l.length := by omega
    have H := Lib.hid h
    have Hw := Lib.hid (word_yes w p g c l k h hk')
    have hi := inR_nat l k hk'
    have hwc := h.word (k := k / 64) (by unfold nwords; omega)
    have hfr := h.row.free (k / 64)
    have hb := u64_bit l k
    have hor := or_word l k hk'
    have Hset := Lib.hid (h.put (i := k) (b := true) hk')
    cases hg : l.getD k false
    · have h1 : setB l k true = true := by unfold setB; rw [hi, Int.toNat_natCast, hg]; rfl
      have h2 : setL l k true = l.set k true := by unfold setL; rw [if_pos hi, Int.toNat_natCast]
      unfold PutGives
      rw [h1, h2]
      rw [hg] at hb
      have Hor := Lib.hid hor
      clear h hk hi h1 h2 hg hor
      go_enter Try.func54, Try.ntmps54
      go_wp2_with fail
      refine Hw.out.mono ?_
      rintro e w' ⟨rfl, nq, rfl⟩
      generalize ((2 ^ (k % 64) : Nat) : Int) = m at hb Hor ⊢
      go_wp2_with fail
      go_ret
      refine ⟨rfl, ?_, ((Kept.refl _ _).setCell (by simp) _).drewN nq⟩
      rw [Hor.out]
      exact Hset.out.drewN nq
    · have h1 : setB l k true = false := by unfold setB; rw [hi, Int.toNat_natCast, hg]; rfl
      have h2 : setL l k true = l := by unfold setL; rw [if_pos hi, Int.toNat_natCast]; exact set_same l k true hk' hg
      unfold PutGives
      rw [h1, h2]
      rw [hg] at hb
      clear h hk hi h1 h2 hg hor
      go_enter Try.func54, Try.ntmps54
      go_wp2_with fail
      refine Hw.out.mono ?_
      rintro e w' ⟨rfl, nq, rfl⟩
      generalize ((2 ^ (k % 64) : Nat) : Int) = m at hb ⊢
      go_wp2_with fail
      go_ret
      exact ⟨rfl, H.out.drewN nq, (Kept.refl _ _).drewN nq⟩
theorem test_calls (w : World) (p g c : Nat) (l : List Bool) (k : Int) (h : RowAt w p g c l) :
    Calls Try.prog 55 #[.pointer (some ⟨p, 0, none⟩), .int .i64 k] w fun e w' => e = .returned (.bool (testB l k)) ∧ ∃ nq, w' = w.drewN nq := by
  by_cases hk : k < 0 ∨ (l.length : Int) ≤ k
  · have Hw := Lib.hid (word_no w p g c l k h hk)
    have hi := inR_no l k hk
    have h1 : testB l k = false := by unfold testB; rw [hi]; rfl
    rw [h1]
    clear h hk hi h1
    go_enter Try.func55, Try.ntmps55
    go_wp2_with fail
    refine Hw.out.mono ?_
    rintro e w' ⟨rfl, rfl⟩
    go_wp2_with fail
    go_ret
    exact ⟨rfl, 0, rfl⟩
  · obtain ⟨k, rfl⟩ := Int.eq_ofNat_of_zero_le (show 0 ≤ k by omega)
    have hk' : k < l.length := by omega
    have Hw := Lib.hid (word_yes w p g c l k h hk')
    have hi := inR_nat l k hk'
    have hwc := h.word (k := k / 64) (by unfold nwords; omega)
    have hb := u64_bit l k
    have h1 : testB l k = l.getD k false := by unfold testB; rw [hi, Int.toNat_natCast]; rfl
    rw [h1]
    clear h hk hi h1
    generalize l.getD k false = b at hb ⊢
    go_enter Try.func55, Try.ntmps55
    go_wp2_with fail
    refine Hw.out.mono ?_
    rintro e w' ⟨rfl, nq, rfl⟩
    generalize ((2 ^ (k % 64) : Nat) : Int) = m at hb ⊢
    go_wp2_with fail
    go_ret
    exact ⟨rfl, nq, rfl⟩
end Go.Proofs.Ytloflnachpjlgaa.Bit
