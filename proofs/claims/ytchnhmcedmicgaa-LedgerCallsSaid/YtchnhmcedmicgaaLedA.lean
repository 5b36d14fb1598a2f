/- The contracts of package ledger's inner functions. -/
import Derived.Test.YtchnhmcedmicgaaProg
import Derived.Test.YtchnhmcedmicgaaLedP
import Derived.Deep.RegionHeld3
import Derived.Outline
namespace Go.Proofs.Ytchnhmcedmicgaa.Led
open Go.RowKit Go.Proofs.Ytchnhmcedmicgaa.Aid
theorem hu8 : Try.prog.underlying 24 = some (.array 8 3) := by kernel_rfl
theorem huI : Try.prog.underlying 3 = some (.int .i64) := by kernel_rfl
theorem huM : Try.prog.underlying 114 = some (.map 24 3) := by kernel_rfl
theorem hi1 : (Try.prog.info? 3).map (·.size) = some 1 := by kernel_rfl
theorem hpI : Try.prog.plainKey 3 = true := by kernel_rfl
theorem hcI : Try.prog.cellsOf 3 = 1 := by kernel_rfl
theorem keyAs8 : KeyAs Try.prog 24 (keL .i64) (okL .i64 8) :=
  keyL_arr (m := Try.prog.types.size - 1) (by kernel_rfl) hu8 huI (by kernel_rfl) (by kernel_rfl) (by kernel_rfl) (by kernel_rfl) (of_decide_eq_true (by kernel_rfl)) (by kernel_rfl)
theorem lawK8 : WideMaps.KeyLaw Try.prog 24 := law_of (by kernel_rfl) hu8 rfl (of_decide_eq_true (by kernel_rfl)) (by kernel_rfl)
theorem zero_int (w : World) : (zeroValue 3).run Try.prog w = .ok (.int .i64 0) w := by kernel_rfl
def g8 (r : List Int) (k : Nat) : Int := r.getD k 0
/-- A row as a value. -/
def rv (r : List Int) : Array Value := #[.int .i64 (g8 r 0), .int .i64 (g8 r 1), .int .i64 (g8 r 2), .int .i64 (g8 r 3), .int .i64 (g8 r 4), .int .i64 (g8 r 5), .int .i64 (g8 r 6), .int .i64 (g8 r 7)]
theorem keL_rv (r : List Int) (h : r.length = 8) : keL .i64 r = .agg (rv r) := by
  match r, h with
  | [a, b, c, d, e, f, g, i], _ => rfl
theorem idx8 (r : List Int) (hr : r.length = 8) (k : Nat) (hk : k < 8) (w : World) : (Instr.index 24 (.agg (rv r)) (.int .i64 (k : Int))).run Try.prog w = .ok (.int .i64 (g8 r k)) w := by
  rw [← keL_rv r hr]
  exact idx_nums hu8 huI hi1 hpI r hr k hk w
theorem rv_get (r : List Int) (k : Nat) (hk : k < 8) : (rv r)[k]? = some (.int .i64 (g8 r k)) := by
  rcases (by omega : k = 0 ∨ k = 1 ∨ k = 2 ∨ k = 3 ∨ k = 4 ∨ k = 5 ∨ k = 6 ∨ k = 7) with rfl | rfl | rfl | rfl | rfl | rfl | rfl | rfl <;> rfl
theorem right_calls (k n : Int) (w : World) : Calls Try.prog 69 #[.int .i64 k, .int .i64 n] w fun e w' => e = .returned (.bool (right k n)) ∧ w = w' := by
  unfold right
  by_cases h0 : 0 ≤ k
  · by_cases h1 : k < 8
    · by_cases h2 : 0 ≤ n
      · rw [decide_eq_true ⟨h0, h1, h2⟩]
        go_enter Try.func69, Try.ntmps69
        go_wp2
        go_ret
        exact ⟨rfl, rfl⟩
      · rw [decide_eq_false (by omega)]
        go_enter Try.func69, Try.ntmps69
        go_wp2
        go_ret
        exact ⟨rfl, rfl⟩
    · rw [decide_eq_false (by omega)]
      go_enter Try.func69, Try.ntmps69
      go_wp2
      go_ret
      exact ⟨rfl, rfl⟩
  · rw [decide_eq_false (by omega)]
    go_enter Try.func69, Try.ntmps69
    go_wp2
    go_ret
    exact ⟨rfl, rfl⟩
theorem sum_calls (r : List Int) {cap : Int} (h : OkR cap r) (hc : cap ≤ 1099511627776) (w : World) : Calls Try.prog 70 #[.agg (rv r)] w fun e w' => e = .returned (.int .i64 (sumTo r 8)) ∧ Below w.heap.size w w' := by
  have HI := Lib.hid (idx8 r h.len)
  have HB := Lib.hid (fun k (hk : k ≤ 8) => And.intro (sumTo_pos h.pos k) (Int.le_trans (sumTo_le h.pos hk) h.le))
  clear h
  have Hc := Lib.hid hc
  clear hc
  unfold rv
  go_enter Try.func70, Try.ntmps70
  go_wp2_with fail
  go_loop [3, 7] (fun s i => ∃ k : Nat, k ≤ 8 ∧ i = .int .i64 k ∧ s = .int .i64 (sumTo r k)) (fun _ i => 8 - (intOf i).toNat)
  case atStart => exact ⟨0, by omega, rfl, rfl⟩
  case round =>
    obtain ⟨k, hk, rfl, rfl⟩ := hrel
    by_cases hlt : k < 8
    · have hi := HI.out k hlt
      unfold rv at hi
      obtain ⟨b0, b1⟩ := HB.out k (by omega)
      have b2 := HB.out (k + 1) (by omega)
      have hs : sumTo r (k + 1) = sumTo r k + g8 r k := rfl
      rw [hs] at b2
      have HS := Lib.hid hs
      clear hs
      generalize g8 r k = x at hi b2 HS
      generalize sumTo r k = s at b0 b1 b2 HS ⊢
      have hk1 : (k : Int) < 8 := by omega
      obtain ⟨b2, b3⟩ := b2
      have hw : IntKind.i64.wrap (s + x) = s + x := IntWalk.i64_in _ (by have := Hc.out; omega)
      go_wp2
      go_round
      case rel => exact ⟨k + 1, by omega, by go_num, by rw [HS.out]⟩
      case measure => simp [intOf]; omega
    · obtain rfl : k = 8 := by omega
      go_wp2
      go_ret
      exact ⟨rfl, (Below.refl _ _).alloc (Nat.le_refl _) _⟩
/-- A ledger: its struct in block p, its map in block mb. -/
structure LedAt (w : World) (p mb : Nat) (cap : Int) (s : Run) : Prop where
  head : Blk w p #[.int .i64 cap, .int .i64 (g8 s.row 0), .int .i64 (g8 s.row 1), .int .i64 (g8 s.row 2), .int .i64 (g8 s.row 3), .int .i64 (g8 s.row 4), .int .i64 (g8 s.row 5), .int .i64 (g8 s.row 6), .int .i64 (g8 s.row 7), .int .i64 (peakOf s.hist), .map (some mb)] 116
  ne : p ≠ mb
  cap0 : 0 ≤ cap ∧ cap ≤ 1099511627776
  ok : OkS cap s
  map : ∃ n g, MapI w Try.prog 24 3 .i64 (keL .i64) (okL .i64 8) mb n g ∧ n ≤ s.hist.length ∧ ∀ r, (g r).getD 0 = (s.hist.count r : Nat)
  small : s.hist.length ≤ 100000
section
variable {w w' : World} {p mb : Nat} {cap : Int} {s : Run}
theorem LedAt.kept (h : LedAt w p mb cap s) {F : List Nat} (k : Kept F w w') (hp : p ∉ F) (hm : mb ∉ F) : LedAt w' p mb cap s := by
  obtain ⟨n, g, h1, h2⟩ := h.map
  exact ⟨h.head.kept k hp, h.ne, h.cap0, h.ok, ⟨n, g, h1.kept k hm, h2⟩, h.small⟩
theorem LedAt.below (h : LedAt w p mb cap s) (k : Below w.heap.size w w') : LedAt w' p mb cap s := by
  obtain ⟨n, g, h1, h2⟩ := h.map
  exact ⟨h.head.below k, h.ne, h.cap0, h.ok, ⟨n, g, h1.below k, h2⟩, h.small⟩
theorem LedAt.lt (h : LedAt w p mb cap s) : p < w.heap.size ∧ mb < w.heap.size := by
  obtain ⟨n, g, h1, h2⟩ := h.map
  exact ⟨h.head.lt, h1.lt⟩
theorem LedAt.drew (h : LedAt w p mb cap s) : LedAt w.drew p mb cap s := ⟨h.head, h.ne, h.cap0, h.ok, h.map, h.small⟩
/-- The struct's cells. -/
structure Cells (w : World) (p mb : Nat) (cap : Int) (r : List Int) (peak : Int) : Prop where
  c0 : w.cell? ⟨p, 0, none⟩ = some (.int .i64 cap)
  c1 : w.cell? ⟨p, 1, none⟩ = some (.int .i64 (g8 r 0))
  c2 : w.cell? ⟨p, 2, none⟩ = some (.int .i64 (g8 r 1))
  c3 : w.cell? ⟨p, 3, none⟩ = some (.int .i64 (g8 r 2))
  c4 : w.cell? ⟨p, 4, none⟩ = some (.int .i64 (g8 r 3))
  c5 : w.cell? ⟨p, 5, none⟩ = some (.int .i64 (g8 r 4))
  c6 : w.cell? ⟨p, 6, none⟩ = some (.int .i64 (g8 r 5))
  c7 : w.cell? ⟨p, 7, none⟩ = some (.int .i64 (g8 r 6))
  c8 : w.cell? ⟨p, 8, none⟩ = some (.int .i64 (g8 r 7))
  c9 : w.cell? ⟨p, 9, none⟩ = some (.int .i64 peak)
  c10 : w.cell? ⟨p, 10, none⟩ = some (.map (some mb))
theorem LedAt.cells (h : LedAt w p mb cap s) : Cells w p mb cap s.row (peakOf s.hist) :=
  ⟨h.head.cell rfl, h.head.cell rfl, h.head.cell rfl, h.head.cell rfl, h.head.cell rfl, h.head.cell rfl, h.head.cell rfl, h.head.cell rfl, h.head.cell rfl, h.head.cell rfl, h.head.cell rfl⟩
theorem LedAt.amount (h : LedAt w p mb cap s) (k : Nat) (hk : k < 8) : w.cell? ⟨p, 1 + k, none⟩ = some (.int .i64 (g8 s.row k)) := by
  have c := h.cells
  rcases (by omega : k = 0 ∨ k = 1 ∨ k = 2 ∨ k = 3 ∨ k = 4 ∨ k = 5 ∨ k = 6 ∨ k = 7) with rfl | rfl | rfl | rfl | rfl | rfl | rfl | rfl
  · exact c.c1
  · exact c.c2
  · exact c.c3
  · exact c.c4
  · exact c.c5
  · exact c.c6
  · exact c.c7
  · exact c.c8
end
theorem total_calls (w : World) (p mb : Nat) (cap : Int) (s : Run) (h : LedAt w p mb cap s) :
    Calls Try.prog 23 #[.pointer (some ⟨p, 0, none⟩)] w fun e w' => e = .returned (.int .i64 (sumTo s.row 8)) ∧ Below w.heap.size w w' := by
  have HS := Lib.hid (sum_calls s.row h.ok.row h.cap0.2)
  obtain ⟨c0, c1, c2, c3, c4, c5, c6, c7, c8, c9, c10⟩ := h.cells
  clear h c0 c9 c10
  go_enter Try.func23, Try.ntmps23
  go_wp2_with fail
  refine (HS.out w).mono ?_
  rintro e w1 ⟨rfl, hb⟩
  go_wp2_with fail
  go_ret
  exact ⟨rfl, hb⟩
theorem left_calls (w : World) (p mb : Nat) (cap : Int) (s : Run) (h : LedAt w p mb cap s) :
    Calls Try.prog 24 #[.pointer (some ⟨p, 0, none⟩)] w fun e w' => e = .returned (.int .i64 (cap - sumTo s.row 8)) ∧ Below w.heap.size w w' := by
  have HS := Lib.hid (total_calls w.drew p mb cap s h.drew)
  have h0 := sumTo_pos h.ok.row.pos 8
  have h1 := h.ok.row.le
  obtain ⟨h2, h3⟩ := h.cap0
  have HL := Lib.hid h
  have c0 := h.cells.c0
  clear h
  generalize sumTo s.row 8 = t at HS h0 h1 ⊢
  have hw : IntKind.i64.wrap (cap - t) = cap - t := IntWalk.i64_in _ (by omega)
  go_enter Try.func24, Try.ntmps24
  go_wp2_with fail
  go_region_held3 (fun w' => w'.cell? ⟨p, 0, none⟩ = some (.int .i64 cap))
    (first | exact c0 | exact (HL.out.below hb1).cells.c0)
    ((first | (go_at_call 23; with_reducible refine (Calls.mono HS.out ?_); rintro e w1 ⟨rfl, hb1'⟩; have hb1 := undrew hb1'; clear hb1')))
  go_wp2_with fail
  go_ret
  exact ⟨rfl, hb1⟩
theorem peak_calls (w : World) (p mb : Nat) (cap : Int) (s : Run) (h : LedAt w p mb cap s) :
    Calls Try.prog 25 #[.pointer (some ⟨p, 0, none⟩)] w fun e w' => e = .returned (.int .i64 (peakOf s.hist)) ∧ w = w' := by
  have c9 := h.cells.c9
  clear h
  go_enter Try.func25, Try.ntmps25
  go_wp2_with fail
  go_ret
  exact ⟨rfl, rfl⟩
theorem all_calls (w : World) (p mb : Nat) (cap : Int) (s : Run) (h : LedAt w p mb cap s) :
    Calls Try.prog 18 #[.pointer (some ⟨p, 0, none⟩)] w fun e w' => e = .returned (.agg (rv s.row)) ∧ Below w.heap.size w w' := by
  obtain ⟨c0, c1, c2, c3, c4, c5, c6, c7, c8, c9, c10⟩ := (h.below ((Below.refl _ _).alloc (Nat.le_refl _) (.cells #[.int .i64 0, .int .i64 0, .int .i64 0, .int .i64 0, .int .i64 0, .int .i64 0, .int .i64 0, .int .i64 0] 24))).cells
  clear h c0 c9 c10
  go_enter Try.func18, Try.ntmps18
  go_wp2_with fail
  have hB := Blk.new w (rv s.row) 24
  have hb := (Below.refl w.heap.size w).alloc (Nat.le_refl _) (.cells (rv s.row) 24)
  generalize w.heap.size = q at hB hb ⊢
  have r0 := hB.cell (o := 0) rfl
  have r1 := hB.cell (o := 1) rfl
  have r2 := hB.cell (o := 2) rfl
  have r3 := hB.cell (o := 3) rfl
  have r4 := hB.cell (o := 4) rfl
  have r5 := hB.cell (o := 5) rfl
  have r6 := hB.cell (o := 6) rfl
  have r7 := hB.cell (o := 7) rfl
  clear hB
  unfold rv at r0 r1 r2 r3 r4 r5 r6 r7 hb ⊢
  generalize w.alloc (.cells #[.int .i64 (g8 s.row 0), .int .i64 (g8 s.row 1), .int .i64 (g8 s.row 2), .int .i64 (g8 s.row 3), .int .i64 (g8 s.row 4), .int .i64 (g8 s.row 5), .int .i64 (g8 s.row 6), .int .i64 (g8 s.row 7)] 24) = w1 at *
  exact bodyPost_ret (v := .agg #[.int .i64 (g8 s.row 0), .int .i64 (g8 s.row 1), .int .i64 (g8 s.row 2), .int .i64 (g8 s.row 3), .int .i64 (g8 s.row 4), .int .i64 (g8 s.row 5), .int .i64 (g8 s.row 6), .int .i64 (g8 s.row 7)]) (by simp [results, Try.results18, go_sem, r0, r1, r2, r3, r4, r5, r6, r7]) rfl ⟨rfl, hb⟩
def heldV (r : List Int) (k : Int) : Int := if 0 ≤ k ∧ k < 8 then g8 r k.toNat else 0
theorem held_calls (w : World) (p mb : Nat) (cap : Int) (s : Run) (k : Int) (h : LedAt w p mb cap s) :
    Calls Try.prog 22 #[.pointer (some ⟨p, 0, none⟩), .int .i64 k] w fun e w' => e = .returned (.int .i64 (heldV s.row k)) ∧ w = w' := by
  have HR := Lib.hid (right_calls k 0 w)
  cases hk : right k 0
  · rw [hk] at HR
    have := right_false hk
    rw [show heldV s.row k = 0 by unfold heldV; rw [if_neg (by omega)]]
    clear h this
    go_enter Try.func22, Try.ntmps22
    go_wp2_with fail
    refine HR.out.mono ?_
    rintro e w1 ⟨rfl, rfl⟩
    go_wp2_with fail
    go_ret
    exact ⟨rfl, rfl⟩
  · rw [hk] at HR
    obtain ⟨h0, h1, _⟩ := right_true hk
    obtain ⟨j, rfl⟩ := Int.eq_ofNat_of_zero_le h0
    have c := h.amount j (by omega)
    rw [show heldV s.row j = g8 s.row j by unfold heldV; rw [if_pos ⟨h0, h1⟩, Int.toNat_natCast]]
    clear h
    go_enter Try.func22, Try.ntmps22
    go_wp2_with fail
    refine HR.out.mono ?_
    rintro e w1 ⟨rfl, rfl⟩
    go_wp2_with fail
    go_ret
    exact ⟨rfl, rfl⟩
end Go.Proofs.Ytchnhmcedmicgaa.Led
