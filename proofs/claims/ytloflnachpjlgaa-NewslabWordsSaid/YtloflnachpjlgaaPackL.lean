/- The contracts of package pack's functions on rows of fields: Apart, Pack, Unpack. -/
import Derived.Test.YtloflnachpjlgaaProg
import Derived.Test.YtloflnachpjlgaaAidMem
import Derived.Test.YtloflnachpjlgaaPackA
import Derived.Outline
import Derived.Deep.RegionHeld3
namespace Go.Proofs.Ytloflnachpjlgaa.Pack
open Go.RowKit Go.Proofs.Ytloflnachpjlgaa.Aid
/-- What Apart tells: behind the fields whose bits are used. -/
def apartGo : Int → List (Int × Int) → Bool
  | _, [] => true
  | u, (s, n) :: t => rightB s n && (!(Go.bits .and .u64 u (IntKind.u64.wrap (maskV n * 2 ^ s.toNat)) != 0) && apartGo (Go.bits .or .u64 u (IntKind.u64.wrap (maskV n * 2 ^ s.toNat))) t)
theorem apart_calls (xs : List (Int × Int)) (A : Option Addr) (c : Nat) (w : World) (hS : Pairs w A xs) (hl : xs.length * 16 ≤ 140737488355328) :
    Calls Try.prog 79 #[.slice A xs.length c] w fun e w' => e = .returned (.bool (apartGo 0 xs)) ∧ Below w.heap.size w w' := by
  go_enter Try.func79, Try.ntmps79
  go_wp2
  go_loopw [3, 9] (fun u i wr => ∃ (a : Int) (k : Nat), u = .int .u64 a ∧ i = .int .i64 k ∧ k ≤ xs.length ∧ apartGo 0 xs = apartGo a (xs.drop k) ∧ Below w.heap.size w wr) (fun _ i _ => xs.length - (intOf i).toNat)
  case atStart => exact ⟨0, 0, rfl, rfl, by omega, rfl, Below.refl _ _⟩
  case round =>
    obtain ⟨a, k, rfl, rfl, hk, hg, hb⟩ := hrel
    have Hg := Lib.hid hg
    clear hg
    by_cases hlt : k < xs.length
    · have hd := Lib.hid (drop_pair hlt)
      obtain ⟨b, o, rfl, hbl, hc0, hc1⟩ := (hS k hlt)
      generalize xs.getD k (0, 0) = x at hd hc0 hc1
      obtain ⟨s, n⟩ := x
      have hc0' : wr.cell? ⟨b, o + k * 2, none⟩ = some (.int .i64 s) := (hb.cell (p := ⟨b, _, none⟩) hbl).trans hc0
      have hc1' : wr.cell? ⟨b, o + k * 2 + 1, none⟩ = some (.int .i64 n) := (hb.cell (p := ⟨b, _, none⟩) hbl).trans hc1
      clear hc0 hc1
      have hsz := hb.size
      by_cases hr : rightB s n = true
      · obtain ⟨h1, h2, h3, h4, h5⟩ := rightB_true hr
        cases hu : (Go.bits .and .u64 a (IntKind.u64.wrap (maskV n * 2 ^ s.toNat)) != 0)
        all_goals
          go_wp2_with (first | (go_at_call 92; refine (right_calls _ _ _).mono ?_; rintro e w1 ⟨rfl, hb1⟩; obtain ⟨hk0, hk1⟩ := box2 hb1))
          go_quiet ((go_at_call 93; exact quiet_left (mask_calls _ (by omega) (by omega) _)))
          go_wp2
        · go_roundw
          case rel => exact ⟨_, k + 1, rfl, by go_num, by omega, by rw [Hg.out, hd.out]; simp only [apartGo, hr, hu]; rfl, hb.trans ((below_drewN (below_box hb1) _).mono hsz)⟩
          case measure => simp [intOf]; omega
        · go_ret
          exact ⟨ret_bool (by rw [Hg.out, hd.out]; simp only [apartGo, hr, hu]; rfl), hb.trans ((below_drewN (below_box hb1) _).mono hsz)⟩
      · have hr' : rightB s n = false := by simpa using hr
        go_wp2_with (first | (go_at_call 92; refine (right_calls _ _ _).mono ?_; rintro e w1 ⟨rfl, hb1⟩))
        go_ret
        exact ⟨ret_bool (by rw [Hg.out, hd.out]; simp only [apartGo, hr']; rfl), hb.trans ((below_box hb1).mono hsz)⟩
    · go_wp2
      go_ret
      exact ⟨ret_bool (by rw [Hg.out, List.drop_eq_nil_of_le (by omega)]; rfl), hb⟩
/-- May a value be put into a field? -/
def putB (s n v : Int) : Bool := rightB s n && !(Go.bits .andNot .u64 v (maskV n) != 0)
/-- What Pack gathers; none: a value does not fit. -/
def packGo : Int → List (Int × Int) → List Int → Option Int
  | x, (s, n) :: t, v :: u => if putB s n v then packGo (putV x s n v) t u else none
  | x, _, _ => some x
theorem pack_no (xs : List (Int × Int)) (A : Option Addr) (c : Nat) (vs : List Int) (A' : Option Addr) (c' : Nat) (w : World) (hS : Pairs w A xs) (hl : xs.length * 16 ≤ 140737488355328)
    (h : apartGo 0 xs = false ∨ ((xs.length : Int) != vs.length) = true) :
    Calls Try.prog 49 #[.slice A xs.length c, .slice A' vs.length c'] w fun e w' => e = .returned (.tuple #[.int .u64 0, .bool false]) ∧ Below w.heap.size w w' := by
  by_cases ha : apartGo 0 xs = true
  · have hv := h.resolve_left (by simp [ha])
    clear h
    go_enter Try.func49, Try.ntmps49
    go_wp2_with (first | (go_at_call 79; refine (apart_calls xs _ _ _ hS hl).mono ?_; rintro e w1 ⟨rfl, hb1⟩))
    go_ret2
    exact ⟨rfl, hb1⟩
  · have ha' : apartGo 0 xs = false := by simpa using ha
    clear h
    go_enter Try.func49, Try.ntmps49
    go_wp2_with (first | (go_at_call 79; refine (apart_calls xs _ _ _ hS hl).mono ?_; rintro e w1 ⟨rfl, hb1⟩))
    go_ret2
    exact ⟨rfl, hb1⟩
theorem pack_calls (xs : List (Int × Int)) (A : Option Addr) (c : Nat) (vs : List Int) (A' : Option Addr) (c' : Nat) (w : World) (hS : Pairs w A xs) (hV : Ints w .u64 A' vs) (hl : xs.length * 16 ≤ 140737488355328)
    (ha : apartGo 0 xs = true) (hlen : xs.length = vs.length) :
    Calls Try.prog 49 #[.slice A xs.length c, .slice A' vs.length c'] w fun e w' => e = .returned (.tuple #[.int .u64 ((packGo 0 xs vs).getD 0), .bool (packGo 0 xs vs).isSome]) ∧ Below w.heap.size w w' := by
  have hv : ((xs.length : Int) != vs.length) = false := by rw [hlen]; simp
  have Hlen := Lib.hid hlen
  clear hlen
  go_enter Try.func49, Try.ntmps49
  go_wp2_with (first | (go_at_call 79; refine (apart_calls xs _ _ _ hS hl).mono ?_; rintro e w1 ⟨rfl, hb1⟩))
  go_loopw [6, 23] (fun u i wr => ∃ (a : Int) (k : Nat), u = .int .u64 a ∧ i = .int .i64 k ∧ k ≤ xs.length ∧ packGo 0 xs vs = packGo a (xs.drop k) (vs.drop k) ∧ Below w.heap.size w wr) (fun _ i _ => xs.length - (intOf i).toNat)
  case atStart => exact ⟨0, 0, rfl, rfl, by omega, rfl, hb1⟩
  case round =>
    obtain ⟨a, k, rfl, rfl, hk, hg, hb⟩ := hrel
    have Hg := Lib.hid hg
    clear hg hb1
    by_cases hlt : k < xs.length
    · have hlt' : k < vs.length := by have := Hlen.out; omega
      have hd := Lib.hid (drop_pair hlt)
      have hd' := Lib.hid (drop_int hlt')
      obtain ⟨b, o, rfl, hbl, hc0, hc1⟩ := (hS k hlt)
      obtain ⟨b', o', rfl, hbl', hc2⟩ := (hV k hlt')
      generalize xs.getD k (0, 0) = x at hd hc0 hc1
      generalize vs.getD k 0 = v at hd' hc2
      obtain ⟨s, n⟩ := x
      have hc0' : wr.cell? ⟨b, o + k * 2, none⟩ = some (.int .i64 s) := (hb.cell (p := ⟨b, _, none⟩) hbl).trans hc0
      have hc1' : wr.cell? ⟨b, o + k * 2 + 1, none⟩ = some (.int .i64 n) := (hb.cell (p := ⟨b, _, none⟩) hbl).trans hc1
      have hc2' : wr.cell? ⟨b', o' + k, none⟩ = some (.int .u64 v) := (hb.cell (p := ⟨b', _, none⟩) hbl').trans hc2
      clear hc0 hc1 hc2
      have hsz := hb.size
      by_cases hp : putB s n v = true
      · have hp0 := hp
        unfold putB at hp0
        simp only [Bool.and_eq_true, Bool.not_eq_true'] at hp0
        obtain ⟨hp1, hp2⟩ := hp0
        go_wp2_with fail
        have hk0 : (wr.alloc (.cells #[.int .i64 s, .int .i64 n] 120)).cell? ⟨wr.heap.size, 0, none⟩ = some (.int .i64 s) := by go_simp
        have hk1 : (wr.alloc (.cells #[.int .i64 s, .int .i64 n] 120)).cell? ⟨wr.heap.size, 1, none⟩ = some (.int .i64 n) := by go_simp
        have hk2 : (wr.alloc (.cells #[.int .i64 s, .int .i64 n] 120)).cell? ⟨b', o' + k, none⟩ = some (.int .u64 v) := by rw [World.cell?_alloc_lt _ _ _ (by simp; omega)]; exact hc2'
        have hbw : Below w.heap.size w (wr.alloc (.cells #[.int .i64 s, .int .i64 n] 120)) := hb.alloc hsz _
        have hz2 : wr.heap.size < (wr.alloc (.cells #[.int .i64 s, .int .i64 n] 120)).heap.size := by simp
        generalize wr.alloc (.cells #[.int .i64 s, .int .i64 n] 120) = w2 at hk0 hk1 hk2 hbw hz2 ⊢
        go_region_held3 (fun w' => w'.cell? ⟨wr.heap.size, 0, none⟩ = some (.int .i64 s) ∧ w'.cell? ⟨wr.heap.size, 1, none⟩ = some (.int .i64 n) ∧ w'.cell? ⟨b', o' + k, none⟩ = some (.int .u64 v))
          (first | go_keep | exact ⟨((bcell hb3).1 _ _ (show _ < w2.heap.size by omega)).trans hk0, ((bcell hb3).1 _ _ (show _ < w2.heap.size by omega)).trans hk1, ((bcell hb3).1 _ _ (show _ < w2.heap.size by omega)).trans hk2⟩)
          ((go_at_call 80; refine (put_calls _ _ _ _ _ (by assumption) (by assumption)).mono ?_; rintro e w3 ⟨rfl, hb3⟩))
        go_wp2
        go_roundw
        case rel => exact ⟨_, k + 1, rfl, by go_num, by omega, by rw [Hg.out, hd.out, hd'.out]; simp only [packGo, hp]; rfl, (below_drewN hbw 1).trans (hb3.mono (by show _ ≤ w2.heap.size; omega))⟩
        case measure => simp [intOf]; omega
      · have hp0 : rightB s n = false ∨ (Go.bits .andNot .u64 v (maskV n) != 0) = true := by
          unfold putB at hp
          cases h1 : rightB s n
          · exact .inl rfl
          · right
            simpa [h1] using hp
        have hp' : putB s n v = false := by simpa using hp
        have Hp := Lib.hid hp0
        clear hp0 hp
        go_wp2_with fail
        have hk0 : (wr.alloc (.cells #[.int .i64 s, .int .i64 n] 120)).cell? ⟨wr.heap.size, 0, none⟩ = some (.int .i64 s) := by go_simp
        have hk1 : (wr.alloc (.cells #[.int .i64 s, .int .i64 n] 120)).cell? ⟨wr.heap.size, 1, none⟩ = some (.int .i64 n) := by go_simp
        have hk2 : (wr.alloc (.cells #[.int .i64 s, .int .i64 n] 120)).cell? ⟨b', o' + k, none⟩ = some (.int .u64 v) := by rw [World.cell?_alloc_lt _ _ _ (by simp; omega)]; exact hc2'
        have hbw : Below w.heap.size w (wr.alloc (.cells #[.int .i64 s, .int .i64 n] 120)) := hb.alloc hsz _
        have hz2 : wr.heap.size < (wr.alloc (.cells #[.int .i64 s, .int .i64 n] 120)).heap.size := by simp
        generalize wr.alloc (.cells #[.int .i64 s, .int .i64 n] 120) = w2 at hk0 hk1 hk2 hbw hz2 ⊢
        go_region_held3 (fun w' => w'.cell? ⟨wr.heap.size, 0, none⟩ = some (.int .i64 s) ∧ w'.cell? ⟨wr.heap.size, 1, none⟩ = some (.int .i64 n) ∧ w'.cell? ⟨b', o' + k, none⟩ = some (.int .u64 v))
          (first | go_keep | exact ⟨((bcell hb3).1 _ _ (show _ < w2.heap.size by omega)).trans hk0, ((bcell hb3).1 _ _ (show _ < w2.heap.size by omega)).trans hk1, ((bcell hb3).1 _ _ (show _ < w2.heap.size by omega)).trans hk2⟩)
          ((go_at_call 80; refine (put_no _ _ _ _ _ Hp.out).mono ?_; rintro e w3 ⟨rfl, hb3⟩))
        go_wp2
        go_ret2
        exact ⟨by rw [Hg.out, hd.out, hd'.out]; simp only [packGo, hp']; rfl, (below_drewN hbw 1).trans (hb3.mono (by show _ ≤ w2.heap.size; omega))⟩
    · go_wp2
      go_ret2
      exact ⟨by rw [Hg.out, List.drop_eq_nil_of_le (by omega)]; rfl, hb⟩
theorem apartGo_right : ∀ (xs : List (Int × Int)) (u : Int), apartGo u xs = true → ∀ k, k < xs.length → rightB (xs.getD k (0, 0)).1 (xs.getD k (0, 0)).2 = true
  | [], _, _, k, hk => by simp at hk
  | (s, n) :: t, u, h, k, hk => by
    simp only [apartGo, Bool.and_eq_true] at h
    cases k with
    | zero => exact h.1
    | succ k => exact apartGo_right t _ h.2.2 k (by simpa using hk)
/-- A field's value. -/
def getV (x : Int) (f : Int × Int) : Int := Go.bits .and .u64 (x / 2 ^ f.1.toNat) (maskV f.2)
/-- What Unpack answers. -/
def UnpackSaid (x : Int) (xs : List (Int × Int)) (w : World) (e : Ending) (w' : World) : Prop :=
  ∃ v, e = .returned (.tuple #[v, .bool true]) ∧ Own w' w.heap.size 22 .u64 v (xs.map (getV x)) ∧ Below w.heap.size w w'
theorem unpack_no (x : Int) (xs : List (Int × Int)) (A : Option Addr) (c : Nat) (w : World) (hS : Pairs w A xs) (hl : xs.length * 16 ≤ 140737488355328) (ha : apartGo 0 xs = false) :
    Calls Try.prog 51 #[.int .u64 x, .slice A xs.length c] w fun e w' => e = .returned (.tuple #[.slice none 0 0, .bool false]) ∧ Below w.heap.size w w' := by
  go_enter Try.func51, Try.ntmps51
  go_wp2_with (first | (go_at_call 79; refine (apart_calls xs _ _ _ hS hl).mono ?_; rintro e w1 ⟨rfl, hb1⟩))
  go_ret2
  exact ⟨rfl, hb1⟩
theorem info_u64 : (Try.prog.info? 22).map (fun i => (i.zero, i.size, i.bytes)) = some (some (.int .u64 0), 1, 8) := by kernel_rfl
set_option maxRecDepth 100000 in
theorem unpack_calls (x : Int) (xs : List (Int × Int)) (A : Option Addr) (c : Nat) (w : World) (hS : Pairs w A xs) (hl : xs.length * 16 ≤ 140737488355328) (ha : apartGo 0 xs = true) :
    Calls Try.prog 51 #[.int .u64 x, .slice A xs.length c] w (UnpackSaid x xs w) := by
  have hr := Lib.hid (apartGo_right xs 0 ha)
  go_enter Try.func51, Try.ntmps51
  go_wp2_with (first | (go_at_call 79; refine (apart_calls xs _ _ _ hS hl).mono ?_; rintro e w1 ⟨rfl, hb1⟩))
  go_loopw [6, 16] (fun v i wr => ∃ (k : Nat), i = .int .i64 k ∧ k ≤ xs.length ∧ Own wr w.heap.size 22 .u64 v ((xs.take k).map (getV x)) ∧ Below w.heap.size w wr) (fun _ i _ => xs.length - (intOf i).toNat)
  case atStart => exact ⟨0, rfl, by omega, Own.nil _ _ _ _, hb1⟩
  case round =>
    rename_i v0 _
    obtain ⟨k, rfl, hk, hown, hb⟩ := hrel
    clear hb1
    by_cases hlt : k < xs.length
    · have ht := Lib.hid (take_pair hlt)
      have hrk := hr.out k hlt
      obtain ⟨b, o, rfl, hbl, hc0, hc1⟩ := (hS k hlt)
      generalize xs.getD k (0, 0) = y at ht hc0 hc1 hrk
      obtain ⟨s, n⟩ := y
      have hc0' : wr.cell? ⟨b, o + k * 2, none⟩ = some (.int .i64 s) := (hb.cell (p := ⟨b, _, none⟩) hbl).trans hc0
      have hc1' : wr.cell? ⟨b, o + k * 2 + 1, none⟩ = some (.int .i64 n) := (hb.cell (p := ⟨b, _, none⟩) hbl).trans hc1
      clear hc0 hc1
      have hsz := hb.size
      have hlen : ((xs.take k).map (getV x)).length ≤ k := by simp; omega
      go_wp2_with (first | (go_at_call 81; refine (get_calls _ _ _ _ hrk).mono ?_; rintro e w1 ⟨rfl, hb1⟩; have hb2 := below_box hb1; have hown1 := hown.below hb2; have hbw := hb.trans (hb2.mono hsz); have hsz1 := hbw.size; clear hb1 hb2 hown hb) | (at_builtin; refine append_int rfl _ _ 91 rfl w.heap.size 22 .u64 8 Try.underlying91 info_u64 _ _ rfl hown1 _ rfl (by omega) (by omega) hsz1 ?_; intro v' w2 hown2 hb2 _))
      go_roundw
      case rel => exact ⟨k + 1, by go_num, by omega, by rw [ht.out, List.map_append]; exact hown2, hbw.trans hb2⟩
      case measure => simp [intOf]; omega
    · go_wp2
      refine bodyPost_ret (results_tmp2 rfl _ _ _) rfl ?_
      rw [List.take_of_length_le (by omega)] at hown
      exact ⟨_, rfl, hown, hb⟩
end Go.Proofs.Ytloflnachpjlgaa.Pack
