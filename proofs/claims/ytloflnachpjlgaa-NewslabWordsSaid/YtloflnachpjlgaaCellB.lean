/- The contracts of package cells' methods that read and write: Load, Store, Fill. -/
import Derived.Test.YtloflnachpjlgaaCellA
namespace Go.Proofs.Ytloflnachpjlgaa.Cell
open Go.RowKit Go.Proofs.Ytloflnachpjlgaa.Aid
/-- The number of the first k bytes, as the program gathers it. -/
def orTo (xs : List Int) (a : Nat) : Nat → Int
  | 0 => 0
  | k + 1 => Go.bits .or .u64 (orTo xs a k) (IntKind.u64.wrap (xs.getD (a + k) 0 * 2 ^ (8 * k)))
theorem load_yes (w : World) (p g c : Nat) (bs : List Int) (a k : Nat) (h : CellAt w p g c bs) (hk : widthB k = true) (hn : a + k ≤ bs.length) :
    Calls Try.prog 34 #[.pointer (some ⟨p, 0, none⟩), .int .i64 a, .int .i64 k] w fun e w' => e = .returned (.tuple #[.int .u64 (orTo bs a k), .int .i64 0]) ∧ w = w' := by
  have hp := number_yes w p g c bs a k h hk hn
  have hk8 : 1 ≤ k ∧ k ≤ 8 := by have := width_cases hk; omega
  have Hp := Lib.hid hp
  have Hcell := fun j (hj : j < bs.length) => h.byte hj
  have Hbyt := h.byt
  have HC := Lib.hid Hcell
  have HB := Lib.hid Hbyt
  clear hp h hk Hcell Hbyt
  go_enter Try.func34, Try.ntmps34
  go_wp2_with fail
  refine Hp.out.mono ?_
  rintro e w' ⟨ad, c', rfl, hA, hc', rfl⟩
  obtain rfl := hA (by omega)
  clear hA
  go_wp2_with fail
  go_loop [10, 24] (fun v i => ∃ j : Nat, j ≤ k ∧ i = .int .i64 j ∧ v = .int .u64 (orTo bs a j)) (fun _ i => k - (intOf i).toNat)
  case atStart => exact ⟨0, by omega, rfl, rfl⟩
  case round =>
    obtain ⟨j, hj, rfl, rfl⟩ := hrel
    by_cases hlt : j < k
    · have hc := HC.out (a + j) (by omega)
      have hb := HB.out (a + j) (by omega)
      generalize hx : bs.getD (a + j) 0 = x at hc hb
      have Hx := Lib.hid hx
      clear hx
      obtain ⟨hb0, hb1⟩ := hb
      go_wp2
      go_round
      case rel => exact ⟨j + 1, by omega, by go_num, by rw [orTo, Hx.out]⟩
      case measure => simp [intOf]; omega
    · obtain rfl : j = k := by omega
      go_wp2
      go_ret2
      exact ⟨rfl, rfl⟩
theorem load_no (w : World) (p g c : Nat) (bs : List Int) (a k : Int) (h : CellAt w p g c bs) (hn : (widthB k && partB bs.length a k) = false) :
    Calls Try.prog 34 #[.pointer (some ⟨p, 0, none⟩), .int .i64 a, .int .i64 k] w fun e w' => e = .returned (.tuple #[.int .u64 0, .int .i64 11]) ∧ w = w' := by
  have Hp := Lib.hid (number_no w p g c bs a k h hn)
  clear h hn
  go_enter Try.func34, Try.ntmps34
  go_wp2_with fail
  refine Hp.out.mono ?_
  rintro e w' ⟨rfl, rfl⟩
  go_wp2_with fail
  go_ret2
  exact ⟨rfl, rfl⟩
/-- What a memory is behind a call that wrote its bytes alone. -/
def Wrote (p g c : Nat) (bs : List Int) (v : Value) (w : World) (e : Ending) (w' : World) : Prop := e = .returned v ∧ CellAt w' p g c bs ∧ Kept [g] w w'
/-- The bytes of a number laid at a place, the first j of them. -/
def bytesTo (v : Int) (j : Nat) : List Int := (List.range j).map fun i => IntKind.u8.wrap (v / 2 ^ (8 * i))
theorem Byt.lay {bs xs : List Int} {a : Nat} (h : Byt bs) (hx : Byt xs) (hl : a + xs.length ≤ bs.length) : Byt (lay bs a xs) := fun k hk => by
  rw [lay_len _ _ _ hl] at hk
  rw [lay_get _ _ _ _ hl]
  split
  · exact hx _ (by omega)
  · exact h k hk
theorem Byt.snoc {xs : List Int} {x : Int} (h : Byt xs) (h0 : 0 ≤ x) (h1 : x < 256) : Byt (xs ++ [x]) := fun k hk => by
  simp only [List.length_append, List.length_cons, List.length_nil] at hk
  by_cases hl : k < xs.length
  · have := h k hl
    simpa [List.getD_eq_getElem?_getD, List.getElem?_append_left hl, hl] using this
  · obtain rfl : k = xs.length := by omega
    simpa [List.getD_eq_getElem?_getD] using ⟨h0, h1⟩
theorem Byt.nil : Byt [] := fun k hk => by simp at hk
theorem u8_bounds (x : Int) : 0 ≤ IntKind.u8.wrap x ∧ IntKind.u8.wrap x < 256 := by simp [IntKind.wrap, IntKind.bits, IntKind.signed]; omega
theorem bytesTo_len (v : Int) (j : Nat) : (bytesTo v j).length = j := by simp [bytesTo]
theorem bytesTo_succ (v : Int) (j : Nat) : bytesTo v (j + 1) = bytesTo v j ++ [IntKind.u8.wrap (v / 2 ^ (8 * j))] := by simp [bytesTo, List.range_succ]
theorem bytesTo_byt (v : Int) : ∀ j, Byt (bytesTo v j)
  | 0 => Byt.nil
  | j + 1 => by rw [bytesTo_succ]; exact (bytesTo_byt v j).snoc (u8_bounds _).1 (u8_bounds _).2
/-- One byte laid behind those that were laid. -/
theorem CellAt.lay1 {w : World} {p g c a : Nat} {bs xs : List Int} {x : Int} (h : CellAt w p g c (lay bs a xs)) (hl : a + xs.length < bs.length) (h0 : 0 ≤ x) (h1 : x < 256) (hx : Byt xs) (hb : Byt bs) :
    CellAt (w.setCell ⟨g, a + xs.length, none⟩ (.int .u8 x)) p g c (lay bs a (xs ++ [x])) := by
  refine ⟨h.ne, ?_, ?_, hb.lay (hx.snoc h0 h1) (by simp; omega), by have := h.small; rw [lay_len _ _ _ (by omega)] at this; rw [lay_len _ _ _ (by simp; omega)]; exact this⟩
  · have := h.head.other (a := ⟨g, a + xs.length, none⟩) h.ne (.int .u8 x)
    rw [lay_len _ _ _ (by omega)] at this
    rw [lay_len _ _ _ (by simp; omega)]; exact this
  · have := h.row.store (a + xs.length) (.int .u8 x)
    rw [← List.map_set, lay_set _ _ _ _ hl] at this
    exact this
set_option maxHeartbeats 1000000 in
theorem store_yes (w : World) (p g c : Nat) (bs : List Int) (a k : Nat) (v : Int) (h : CellAt w p g c bs) (hk : widthB k = true) (hn : a + k ≤ bs.length) :
    Calls Try.prog 28 #[.pointer (some ⟨p, 0, none⟩), .int .i64 a, .int .i64 k, .int .u64 v] w (Wrote p g c (lay bs a (bytesTo v k)) (.int .i64 0) w) := by
  have hp := number_yes w p g c bs a k h hk hn
  have hk8 : 1 ≤ k ∧ k ≤ 8 := by have := width_cases hk; omega
  have Hp := Lib.hid hp
  have HB := Lib.hid h.byt
  clear hp hk
  go_enter Try.func28, Try.ntmps28
  go_wp2_with fail
  refine Hp.out.mono ?_
  rintro e w' ⟨ad, c', rfl, hA, hc', rfl⟩
  obtain rfl := hA (by omega)
  clear hA
  go_wp2_with fail
  go_loopw [23] (fun i wr => ∃ j : Nat, j ≤ k ∧ i = .int .i64 j ∧ CellAt wr p g c (lay bs a (bytesTo v j)) ∧ Kept [g] w wr) (fun i _ => k - (intOf i).toNat)
  case atStart => exact ⟨0, by omega, rfl, by rw [show bytesTo v 0 = [] from rfl, lay_nil]; exact h, Kept.refl _ _⟩
  case round =>
    obtain ⟨j, hj, rfl, hC, hK⟩ := hrel
    by_cases hlt : j < k
    · have hc := hC.byte (k := a + j) (by rw [lay_len _ _ _ (by rw [bytesTo_len]; omega)]; omega)
      have hf := hC.row.free (a + j)
      have hx := u8_bounds (v / 2 ^ (8 * j))
      generalize (lay bs a (bytesTo v j)).getD (a + j) 0 = x at hc
      go_wp2
      go_roundw
      case rel =>
        have h1 := CellAt.lay1 (x := IntKind.u8.wrap (v / 2 ^ (8 * j))) hC (by rw [bytesTo_len]; omega) hx.1 hx.2 (bytesTo_byt v j) HB.out
        rw [← bytesTo_succ, bytesTo_len] at h1
        exact ⟨j + 1, by omega, by go_num, h1, hK.setCell (by simp) _⟩
      case measure => simp [intOf]; omega
    · obtain rfl : j = k := by omega
      go_wp2
      go_ret
      exact ⟨rfl, hC, hK⟩
theorem store_no (w : World) (p g c : Nat) (bs : List Int) (a k v : Int) (h : CellAt w p g c bs) (hn : (widthB k && partB bs.length a k) = false) :
    Calls Try.prog 28 #[.pointer (some ⟨p, 0, none⟩), .int .i64 a, .int .i64 k, .int .u64 v] w fun e w' => e = .returned (.int .i64 11) ∧ w = w' := by
  have Hp := Lib.hid (number_no w p g c bs a k h hn)
  clear h hn
  go_enter Try.func28, Try.ntmps28
  go_wp2_with fail
  refine Hp.out.mono ?_
  rintro e w' ⟨rfl, rfl⟩
  go_wp2_with fail
  go_ret
  exact ⟨rfl, rfl⟩
theorem Byt.rep {x : Int} (h0 : 0 ≤ x) (h1 : x < 256) (n : Nat) : Byt (List.replicate n x) := fun k hk => by
  simp only [List.length_replicate] at hk
  simpa [List.getD_eq_getElem?_getD, List.getElem?_replicate, hk] using ⟨h0, h1⟩
set_option maxHeartbeats 1000000 in
theorem fill_yes (w : World) (p g c : Nat) (bs : List Int) (a n : Nat) (v : Int) (h : CellAt w p g c bs) (hn : a + n ≤ bs.length) (h0 : 0 ≤ v) (h1 : v < 256) :
    Calls Try.prog 72 #[.pointer (some ⟨p, 0, none⟩), .int .i64 a, .int .i64 n, .int .u8 v] w (Wrote p g c (lay bs a (List.replicate n v)) (.int .i64 0) w) := by
  have hp := part_yes w p g c bs a n h hn
  have hl := h.le
  unfold maxLen at hl
  have Hp := Lib.hid hp
  have HB := Lib.hid h.byt
  clear hp
  go_enter Try.func72, Try.ntmps72
  go_wp2_with fail
  refine Hp.out.mono ?_
  rintro e w' ⟨ad, c', rfl, hA, hc', rfl⟩
  have HA := Lib.hid hA
  clear hA
  go_wp2_with fail
  go_loopw [23] (fun i wr => ∃ j : Nat, j ≤ n ∧ i = .int .i64 j ∧ CellAt wr p g c (lay bs a (List.replicate j v)) ∧ Kept [g] w wr) (fun i _ => n - (intOf i).toNat)
  case atStart => exact ⟨0, by omega, rfl, by rw [List.replicate_zero, lay_nil]; exact h, Kept.refl _ _⟩
  case round =>
    obtain ⟨j, hj, rfl, hC, hK⟩ := hrel
    by_cases hlt : j < n
    · obtain rfl := HA.out (by omega)
      have hc := hC.byte (k := a + j) (by rw [lay_len _ _ _ (by rw [List.length_replicate]; omega)]; omega)
      have hf := hC.row.free (a + j)
      generalize (lay bs a (List.replicate j v)).getD (a + j) 0 = x at hc
      go_wp2
      go_roundw
      case rel =>
        have h2 := CellAt.lay1 (x := v) hC (by rw [List.length_replicate]; omega) h0 h1 (Byt.rep h0 h1 j) HB.out
        rw [← List.replicate_succ', List.length_replicate] at h2
        exact ⟨j + 1, by omega, by go_num, h2, hK.setCell (by simp) _⟩
      case measure => simp [intOf]; omega
    · obtain rfl : j = n := by omega
      go_wp2
      go_ret
      exact ⟨rfl, hC, hK⟩
theorem fill_no (w : World) (p g c : Nat) (bs : List Int) (a n v : Int) (h : CellAt w p g c bs) (hn : partB bs.length a n = false) :
    Calls Try.prog 72 #[.pointer (some ⟨p, 0, none⟩), .int .i64 a, .int .i64 n, .int .u8 v] w fun e w' => e = .returned (.int .i64 11) ∧ w = w' := by
  have Hp := Lib.hid (part_no w p g c bs a n h hn)
  clear h hn
  go_enter Try.func72, Try.ntmps72
  go_wp2_with fail
  refine Hp.out.mono ?_
  rintro e w' ⟨rfl, rfl⟩
  go_wp2_with fail
  go_ret
  exact ⟨rfl, rfl⟩
end Go.Proofs.Ytloflnachpjlgaa.Cell
