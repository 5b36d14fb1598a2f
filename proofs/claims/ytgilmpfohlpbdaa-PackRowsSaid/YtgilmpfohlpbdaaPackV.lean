/- Layer 1: the law's own first look, that the package is alive, answers true. -/
import Derived.Test.YtgilmpfohlpbdaaPackT
import Derived.Outline
namespace Go.Proofs.Ytgilmpfohlpbdaa.Pack
open Go.RowKit Go.Proofs.Ytgilmpfohlpbdaa.Aid
theorem v_put1 (w : World) : Calls Try.prog 55 #[.int .u64 0, .agg #[.int .i64 4, .int .i64 8], .int .u64 255] w fun e w' => e = .returned (.tuple #[.int .u64 4080, .bool true]) ∧ Below w.heap.size w w' := by
  have h := put_any 0 4 8 255 w
  rwa [show putR 0 4 8 255 = (4080, true) from by decide +kernel] at h
theorem v_put2 (w : World) : Calls Try.prog 55 #[.int .u64 0, .agg #[.int .i64 4, .int .i64 8], .int .u64 256] w fun e w' => e = .returned (.tuple #[.int .u64 0, .bool false]) ∧ Below w.heap.size w w' := by
  have h := put_any 0 4 8 256 w
  rwa [show putR 0 4 8 256 = (0, false) from by decide +kernel] at h
theorem v_get (w : World) : Calls Try.prog 53 #[.int .u64 4080, .agg #[.int .i64 4, .int .i64 8]] w fun e w' => e = .returned (.tuple #[.int .u64 255, .bool true]) ∧ Below w.heap.size w w' := by
  have h := get_any 4080 4 8 w
  rwa [show getR 4080 4 8 = (255, true) from by decide +kernel] at h
theorem v_signed (w : World) : Calls Try.prog 59 #[.int .u64 200, .int .i64 8] w fun e w' => e = .returned (.tuple #[.int .i64 (-56), .bool true]) ∧ w = w' := by
  have h := signed_any 200 8 w
  rwa [show signedR 200 8 = (-56, true) from by decide +kernel] at h
theorem v_rotate (w : World) : Calls Try.prog 62 #[.int .u64 6, .int .i64 4, .int .i64 2] w fun e w' => e = .returned (.tuple #[.int .u64 9, .bool true]) ∧ Below w.heap.size w w' := by
  have h := rotate_any 6 4 2 w
  rwa [show rotR 6 4 2 = (9, true) from by decide +kernel] at h
theorem v_unsigned (w : World) : Calls Try.prog 61 #[.int .i64 (-1), .int .i64 5] w fun e w' => e = .returned (.tuple #[.int .u64 31, .bool true]) ∧ w = w' := by
  have h := unsigned_any (-1) 5 w
  rwa [show unsignedR (-1) 5 = (31, true) from by decide +kernel] at h
theorem v_fits1 (w : World) : Calls Try.prog 64 #[.int .i64 (-56), .int .i64 8, .bool true] w fun e w' => e = .returned (.bool true) ∧ w = w' := by
  have h := fits_calls (-56) 8 true w
  rwa [show fitsB (-56) 8 true = true from by decide +kernel] at h
theorem v_fits2 (w : World) : Calls Try.prog 64 #[.int .i64 (-1), .int .i64 8, .bool false] w fun e w' => e = .returned (.bool false) ∧ w = w' := by
  have h := fits_calls (-1) 8 false w
  rwa [show fitsB (-1) 8 false = false from by decide +kernel] at h
/-- Two rows that were just made. -/
theorem two_pairs {w : World} {o : Obj} {a b c d : Int} {T : TypeId} : Pairs ((w.alloc (.cells #[.int .i64 a, .int .i64 b, .int .i64 c, .int .i64 d] T)).alloc o) (some ⟨w.heap.size, 0, none⟩) [(a, b), (c, d)] := by
  intro k hk
  match k, hk with
  | 0, _ => exact ⟨_, _, rfl, by simp; omega, by go_simp, by go_simp⟩
  | 1, _ => exact ⟨_, _, rfl, by simp; omega, by go_simp, by go_simp⟩
theorem two_pairs' {w : World} {a b c d : Int} {T : TypeId} : Pairs (w.alloc (.cells #[.int .i64 a, .int .i64 b, .int .i64 c, .int .i64 d] T)) (some ⟨w.heap.size, 0, none⟩) [(a, b), (c, d)] := by
  intro k hk
  match k, hk with
  | 0, _ => exact ⟨_, _, rfl, by simp, by go_simp, by go_simp⟩
  | 1, _ => exact ⟨_, _, rfl, by simp, by go_simp, by go_simp⟩
theorem one_pair {w : World} {a b : Int} {T : TypeId} : Pairs (w.alloc (.cells #[.int .i64 a, .int .i64 b] T)) (some ⟨w.heap.size, 0, none⟩) [(a, b)] := by
  intro k hk
  match k, hk with
  | 0, _ => exact ⟨_, _, rfl, by simp, by go_simp, by go_simp⟩
theorem two_ints {w : World} {q : IntKind} {a b : Int} {T : TypeId} : Ints (w.alloc (.cells #[.int q a, .int q b] T)) q (some ⟨w.heap.size, 0, none⟩) [a, b] := by
  intro k hk
  match k, hk with
  | 0, _ => exact ⟨_, _, rfl, by simp, by go_simp⟩
  | 1, _ => exact ⟨_, _, rfl, by simp, by go_simp⟩
theorem two_ints' {w : World} {o : Obj} {q : IntKind} {a b : Int} {T : TypeId} : Ints ((w.alloc o).alloc (.cells #[.int q a, .int q b] T)) q (some ⟨w.heap.size + 1, 0, none⟩) [a, b] := by
  have h := two_ints (w := w.alloc o) (q := q) (a := a) (b := b) (T := T)
  rwa [show (w.alloc o).heap.size = w.heap.size + 1 from by simp] at h
theorem v_pack (A A' : Option Addr) (w : World) (hS : Pairs w A [(0, 2), (8, 4)]) (hV : Ints w .u64 A' [3, 5]) :
    Calls Try.prog 67 #[.slice A 2 2, .slice A' 2 2] w fun e w' => e = .returned (.tuple #[.int .u64 1283, .bool true]) ∧ Below w.heap.size w w' := by
  have h := pack_calls [(0, 2), (8, 4)] A 2 [3, 5] A' 2 w hS hV (by decide) (by decide +kernel) rfl
  rwa [show packGo 0 [(0, 2), (8, 4)] [3, 5] = some 1283 from by decide +kernel] at h
theorem v_unpack (A : Option Addr) (w : World) (hS : Pairs w A [(8, 4)]) : Calls Try.prog 69 #[.int .u64 1283, .slice A 1 1] w fun e w' =>
    ∃ b c, e = .returned (.tuple #[.slice (some ⟨b, 0, none⟩) 1 c, .bool true]) ∧ w'.cell? ⟨b, 0, none⟩ = some (.int .u64 5) ∧ b < w'.heap.size ∧ Below w.heap.size w w' := by
  refine (unpack_calls 1283 [(8, 4)] A 1 w hS (by decide) (by decide +kernel)).mono ?_
  rintro e w' ⟨v, rfl, hown, hb⟩
  obtain ⟨A1, c, rfl, hi⟩ := hown.shape
  obtain ⟨b, o, rfl, hlt, hc⟩ := hi 0 (by simp)
  have hA : o = 0 := by
    rcases hown.2 with ⟨h, _⟩ | ⟨g, cap, cur, h, _⟩
    · cases h
    · injection h with h; injection h with h; injection h
  subst hA
  exact ⟨b, c, rfl, hc, hlt, hb⟩
theorem v_apart (A : Option Addr) (w : World) (hS : Pairs w A [(0, 2), (1, 1)]) : Calls Try.prog 70 #[.slice A 2 2] w fun e w' => e = .returned (.bool false) ∧ Below w.heap.size w w' := by
  have h := apart_calls [(0, 2), (1, 1)] A 2 w hS (by decide)
  rwa [show apartGo 0 [(0, 2), (1, 1)] = false from by decide +kernel] at h
set_option maxRecDepth 100000 in
set_option maxHeartbeats 2000000 in
theorem alive_calls (w : World) : Calls Try.prog 52 #[] w fun e w' => e = .returned (.bool true) ∧ Below w.heap.size w w' := by
  go_enter Try.func52, Try.ntmps52
  go_wp2_with (first
    | (go_at_call 55; (with_reducible refine (v_put1 _).mono ?_); rintro e w1 ⟨rfl, hb1⟩)
    | (go_at_call 53; (with_reducible refine (v_get _).mono ?_); rintro e w2 ⟨rfl, hb2⟩)
    | (go_at_call 59; (with_reducible refine (v_signed _).mono ?_); rintro e w' ⟨rfl, rfl⟩)
    | (go_at_call 62; (with_reducible refine (v_rotate _).mono ?_); rintro e w3 ⟨rfl, hb3⟩)
    | (go_at_call 55; (with_reducible refine (v_put2 _).mono ?_); rintro e w4 ⟨rfl, hb4⟩))
  refine (v_pack _ _ _ two_pairs two_ints').mono ?_
  rintro e w5 ⟨rfl, hb5⟩
  go_wp2_with fail
  refine (v_unpack _ _ one_pair).mono ?_
  rintro e w6 ⟨b6, c6, rfl, hc6, hlt6, hb6⟩
  go_wp2_with (first
    | (go_at_call 61; (with_reducible refine (v_unsigned _).mono ?_); rintro e w' ⟨rfl, rfl⟩)
    | (go_at_call 64; (with_reducible refine (v_fits1 _).mono ?_); rintro e w' ⟨rfl, rfl⟩)
    | (go_at_call 64; (with_reducible refine (v_fits2 _).mono ?_); rintro e w' ⟨rfl, rfl⟩)
    | (go_at_call 70; (with_reducible refine (v_apart _ _ two_pairs').mono ?_); rintro e w7 ⟨rfl, hb7⟩))
  go_ret
  have h3 := hb1.trans (hb2.mono hb1.size)
  have h4 := h3.trans (hb3.mono h3.size)
  have h5 := h4.trans (hb4.mono h4.size)
  have h6 := ((h5.alloc h5.size _).alloc (by simp; have := h5.size; omega) _).trans (hb5.mono (by simp; have := h5.size; omega))
  have h7 := (h6.alloc h6.size _).trans (hb6.mono (by simp; have := h6.size; omega))
  exact ⟨rfl, (h7.alloc h7.size _).trans (hb7.mono (by simp; have := h7.size; omega))⟩
end Go.Proofs.Ytgilmpfohlpbdaa.Pack
