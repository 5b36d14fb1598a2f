/- The contracts of package cells' inner functions: a memory is a block that holds a slice over a block of bytes. -/
import Derived.Test.YtloflnachpjlgaaProg
import Derived.Test.YtloflnachpjlgaaAidObj
import Derived.Outline
namespace Go.Proofs.Ytloflnachpjlgaa.Cell
open Go.RowKit Go.Proofs.Ytloflnachpjlgaa.Aid
/-- Bytes. -/
def Byt (bs : List Int) : Prop := ∀ k, k < bs.length → 0 ≤ bs.getD k 0 ∧ bs.getD k 0 < 256
/-- A memory: its struct in block p, its bytes in block g. -/
structure CellAt (w : World) (p g c : Nat) (bs : List Int) : Prop where
  ne : p ≠ g
  head : Blk w p #[.slice (some ⟨g, 0, none⟩) bs.length c] 95
  row : Row w 5 g c (bs.map (.int .u8))
  byt : Byt bs
  small : bs.length ≤ 1048576
theorem CellAt.kept {w w' : World} {p g c : Nat} {bs : List Int} (h : CellAt w p g c bs) {F : List Nat} (k : Kept F w w') (hp : p ∉ F) (hg : g ∉ F) : CellAt w' p g c bs := ⟨h.ne, h.head.kept k hp, h.row.kept k hg, h.byt, h.small⟩
theorem CellAt.below {w w' : World} {p g c : Nat} {bs : List Int} (h : CellAt w p g c bs) (k : Below w.heap.size w w') : CellAt w' p g c bs := ⟨h.ne, h.head.below k, h.row.below k, h.byt, h.small⟩
theorem CellAt.alloc {w : World} {p g c : Nat} {bs : List Int} (h : CellAt w p g c bs) (o : Obj) : CellAt (w.alloc o) p g c bs := ⟨h.ne, h.head.alloc o, h.row.alloc o, h.byt, h.small⟩
theorem CellAt.drewN {w : World} {p g c : Nat} {bs : List Int} (h : CellAt w p g c bs) (n : Nat) : CellAt (w.drewN n) p g c bs := ⟨h.ne, h.head, h.row, h.byt, h.small⟩
theorem CellAt.le {w : World} {p g c : Nat} {bs : List Int} (h : CellAt w p g c bs) : bs.length ≤ c ∧ c ≤ maxLen := by simpa using h.row.cap
theorem CellAt.byte {w : World} {p g c : Nat} {bs : List Int} (h : CellAt w p g c bs) {k : Nat} (hk : k < bs.length) : w.cell? ⟨g, k, none⟩ = some (.int .u8 (bs.getD k 0)) := by
  rw [h.row.cell (by simpa using hk)]; simp [List.getD_eq_getElem?_getD, hk]
theorem len_calls (w : World) (p g c : Nat) (bs : List Int) (h : CellAt w p g c bs) :
    Calls Try.prog 62 #[.pointer (some ⟨p, 0, none⟩)] w fun e w' => e = .returned (.int .i64 bs.length) ∧ w = w' := by
  have hc := h.head.cell (o := 0) rfl
  have hl := h.le
  unfold maxLen at hl
  clear h
  go_enter Try.func62, Try.ntmps62
  go_wp2
  go_ret
  exact ⟨rfl, rfl⟩
/-- What part gives where all bytes are there. -/
def PartGives (g a n : Nat) (w : World) (e : Ending) (w' : World) : Prop :=
  ∃ ad c', e = .returned (.tuple #[.slice (some ad) n c', .bool true]) ∧ (0 < n → ad = ⟨g, a, none⟩) ∧ n ≤ c' ∧ w = w'
def partB (l a n : Int) : Bool := decide (0 ≤ n ∧ 0 ≤ a ∧ a ≤ l ∧ n ≤ l - a)
theorem part_yes (w : World) (p g c : Nat) (bs : List Int) (a n : Nat) (h : CellAt w p g c bs) (hn : a + n ≤ bs.length) :
    Calls Try.prog 60 #[.pointer (some ⟨p, 0, none⟩), .int .i64 a, .int .i64 n] w (PartGives g a n w) := by
  have hc := h.head.cell (o := 0) rfl
  have hl := h.le
  unfold maxLen at hl
  clear h
  have h0 : (0 : Int) ≤ (n : Int) := by omega
  have h1 : (0 : Int) ≤ (a : Int) := by omega
  have h2 : (a : Int) ≤ (bs.length : Int) := by omega
  have h3 : (n : Int) ≤ (bs.length : Int) - a := by omega
  by_cases hca : c = a
  all_goals
    go_enter Try.func60, Try.ntmps60
    go_wp2
  · have hn0 : n = 0 := by omega
    subst hn0
    go_ret2
    exact ⟨_, 0, ret_slice (by omega), fun h => absurd h (by omega), Nat.le_refl _, rfl⟩
  · go_ret2
    exact ⟨_, c - a, ret_slice (by omega), fun _ => rfl, by omega, rfl⟩
theorem partB_false {l a n : Int} (h : partB l a n = false) : n < 0 ∨ a < 0 ∨ l < a ∨ l - a < n := by
  unfold partB at h
  simp only [decide_eq_false_iff_not] at h
  omega
theorem partB_true {l a n : Int} (h : partB l a n = true) : 0 ≤ n ∧ 0 ≤ a ∧ a ≤ l ∧ n ≤ l - a := by
  unfold partB at h
  simpa using h
theorem part_no (w : World) (p g c : Nat) (bs : List Int) (a n : Int) (h : CellAt w p g c bs) (hn : partB bs.length a n = false) :
    Calls Try.prog 60 #[.pointer (some ⟨p, 0, none⟩), .int .i64 a, .int .i64 n] w fun e w' => e = .returned (.tuple #[.slice none 0 0, .bool false]) ∧ w = w' := by
  have hc := h.head.cell (o := 0) rfl
  have hl := h.le
  unfold maxLen at hl
  clear h
  have hn := partB_false hn
  by_cases h1 : n < 0
  · go_enter Try.func60, Try.ntmps60
    go_wp2
    go_ret2
    exact ⟨rfl, rfl⟩
  · by_cases h2 : a < 0
    · go_enter Try.func60, Try.ntmps60
      go_wp2
      go_ret2
      exact ⟨rfl, rfl⟩
    · have h3 : 0 ≤ n := by omega
      have h4 : 0 ≤ a := by omega
      by_cases h5 : (bs.length : Int) < a
      · clear hn
        go_enter Try.func60, Try.ntmps60
        go_wp2
        go_ret2
        exact ⟨rfl, rfl⟩
      · have h6 : a ≤ (bs.length : Int) := by omega
        have h7 : (bs.length : Int) - a < n := by omega
        clear hn
        go_enter Try.func60, Try.ntmps60
        go_wp2
        go_ret2
        exact ⟨rfl, rfl⟩
def widthB (w : Int) : Bool := w == 1 || w == 2 || w == 4 || w == 8
theorem width_cases {k : Int} (h : widthB k = true) : k = 1 ∨ k = 2 ∨ k = 4 ∨ k = 8 := by
  unfold widthB at h
  simpa [or_assoc] using h
theorem number_yes (w : World) (p g c : Nat) (bs : List Int) (a k : Nat) (h : CellAt w p g c bs) (hk : widthB k = true) (hn : a + k ≤ bs.length) :
    Calls Try.prog 77 #[.pointer (some ⟨p, 0, none⟩), .int .i64 a, .int .i64 k] w (PartGives g a k w) := by
  have hp := part_yes w p g c bs a k h hn
  have hk := width_cases hk
  have Hp := Lib.hid hp
  clear hp h
  have : k = 1 ∨ k = 2 ∨ k = 4 ∨ k = 8 := by omega
  clear hk
  rcases this with rfl | rfl | rfl | rfl
  all_goals
    go_enter Try.func77, Try.ntmps77
    go_wp2_with fail
    refine Hp.out.mono ?_
    rintro e w' ⟨A, c', rfl, hA, hc, rfl⟩
    have HA := Lib.hid hA
    clear hA
    go_wp2
    go_ret2
    exact ⟨A, c', rfl, HA.out, hc, rfl⟩
theorem number_no (w : World) (p g c : Nat) (bs : List Int) (a k : Int) (h : CellAt w p g c bs) (hn : (widthB k && partB bs.length a k) = false) :
    Calls Try.prog 77 #[.pointer (some ⟨p, 0, none⟩), .int .i64 a, .int .i64 k] w fun e w' => e = .returned (.tuple #[.slice none 0 0, .bool false]) ∧ w = w' := by
  cases hw : widthB k
  · unfold widthB at hw
    simp only [Bool.or_eq_false_iff] at hw
    obtain ⟨⟨⟨e1, e2⟩, e3⟩, e4⟩ := hw
    clear hn h
    go_enter Try.func77, Try.ntmps77
    go_wp2
    go_ret2
    exact ⟨rfl, rfl⟩
  · rw [hw, Bool.true_and] at hn
    have hp := part_no w p g c bs a k h hn
    have Hp := Lib.hid hp
    clear hp h hn
    rcases width_cases hw with rfl | rfl | rfl | rfl
    all_goals
      clear hw
      go_enter Try.func77, Try.ntmps77
      go_wp2_with fail
      refine Hp.out.mono ?_
      rintro e w' ⟨rfl, rfl⟩
      go_wp2
      go_ret2
      exact ⟨rfl, rfl⟩
end Go.Proofs.Ytloflnachpjlgaa.Cell
