/- Layer 1: the contracts of the reference on rows of fields, and of the law's own copy of a row. -/
import Derived.Test.YtgilmpfohlpbdaaPackT
import Derived.Test.YtgilmpfohlpbdaaAidRows
import Derived.Outline
import Derived.Deep.RegionHeld3
import Derived.StillTailTactics
namespace Go.Proofs.Ytgilmpfohlpbdaa.Pack
open Go.RowKit Go.Proofs.Ytgilmpfohlpbdaa.Aid
theorem info_ref : (Try.prog.info? 82).map (fun i => (i.zero, i.size, i.bytes)) = some (some (.agg #[.int .i64 0, .int .i64 0]), 2, 16) := by kernel_rfl
/-- What the law's copy of a row answers. -/
def OfSaid (xs : List (Int × Int)) (w : World) (e : Ending) (w' : World) : Prop := ∃ v, e = .returned v ∧ OwnR encP 2 w' w.heap.size 82 v xs ∧ Below w.heap.size w w'
set_option maxRecDepth 100000 in
theorem of_calls (xs : List (Int × Int)) (A : Option Addr) (c : Nat) (w : World) (hS : Pairs w A xs) (hl : xs.length ≤ 1000000) :
    Calls Try.prog 66 #[.slice A xs.length c] w (OfSaid xs w) := by
  go_enter Try.func66, Try.ntmps66
  go_wp2_with fail
  go_loopw [3, 4] (fun v i wr => ∃ (k : Nat), i = .int .i64 k ∧ k ≤ xs.length ∧ OwnR encP 2 wr w.heap.size 82 v (xs.take k) ∧ Below w.heap.size w wr) (fun _ i _ => xs.length - (intOf i).toNat)
  case atStart => exact ⟨0, rfl, by omega, OwnR.lit0 _ _ (Nat.le_refl _) _ _, (Below.refl _ _).alloc (Nat.le_refl _) _⟩
  case round =>
    obtain ⟨k, rfl, hk, hown, hb⟩ := hrel
    by_cases hlt : k < xs.length
    · have ht := Lib.hid (take_pair hlt)
      obtain ⟨b, o, rfl, hbl, hc0, hc1⟩ := (hS k hlt)
      generalize xs.getD k (0, 0) = y at ht hc0 hc1
      obtain ⟨s, n⟩ := y
      have hc0' : wr.cell? ⟨b, o + k * 2, none⟩ = some (.int .i64 s) := (hb.cell (p := ⟨b, _, none⟩) hbl).trans hc0
      have hc1' : wr.cell? ⟨b, o + k * 2 + 1, none⟩ = some (.int .i64 n) := (hb.cell (p := ⟨b, _, none⟩) hbl).trans hc1
      clear hc0 hc1
      have hsz := hb.size
      have hlen : (xs.take k).length = k := by simp; omega
      have hi0 : (0 : Int) ≤ (k : Int) := Int.natCast_nonneg _
      have hi1 : (k : Int) < (xs.length : Int) := by omega
      go_wp2_with fail
      go_region_held3 (fun w' => w'.cell? ⟨b, o + k * 2, none⟩ = some (.int .i64 s) ∧ w'.cell? ⟨b, o + k * 2 + 1, none⟩ = some (.int .i64 n))
        (first | go_keep | exact ⟨(hb2.cell (p := ⟨b, _, none⟩) hbl).trans hc0', (hb2.cell (p := ⟨b, _, none⟩) hbl).trans hc1'⟩)
        ((refine step_append_row (by rfl) _ _ _ (by rfl) w.heap.size 82 _ 2 16 Try.underlying100 info_ref rfl (by decide) _ _ _ [.int .i64 s, .int .i64 n] (by rfl) (World.ownsRow.drew hown) (by rfl) rfl (by simp [Value.oneCell']) (by omega) (by omega) hsz ?_; intro v2 w2 hown2 hb2 _))
      go_wp2
      go_roundw
      case rel => exact ⟨k + 1, by go_num, by omega, by unfold OwnR; rw [ht.out, List.length_append, List.flatMap_append]; exact hown2, hb.drew.trans hb2⟩
      case measure => simp [intOf]; omega
    · go_wp2
      go_ret
      rw [List.take_of_length_le (by omega)] at hown
      exact ⟨_, rfl, hown, hb⟩
theorem info_bool : (Try.prog.info? 4).map (fun i => (i.zero, i.size, i.bytes)) = some (some (.bool false), 1, 1) := by kernel_rfl
/-- Marks d places from p on; none: one is marked. -/
def markGo : Nat → Nat → List Bool → Option (List Bool)
  | 0, _, us => some us
  | d + 1, p, us => if us.getD p false = true then none else markGo d (p + 1) (us.set p true)
/-- No place is marked. -/
def noBits : List Bool := List.replicate 64 false
/-- What ref.Apart tells: behind the places that are marked. -/
def rapartGo : List Bool → List (Int × Int) → Bool
  | _, [] => true
  | us, (s, n) :: t => rightB s n && (match markGo n.toNat s.toNat us with | none => false | some u => rapartGo u t)
theorem rright_any (s n : Int) (w : World) : Calls Try.prog 58 #[.agg #[.int .i64 s, .int .i64 n]] w fun e w' => e = .returned (.bool (rightB s n)) ∧ Below w.heap.size w w' := by
  rw [rights]; exact rright_calls s n w
set_option maxRecDepth 100000 in
theorem rapart_calls (xs : List (Int × Int)) (A : Option Addr) (c : Nat) (w : World) (hS : Pairs w A xs) (hl : xs.length ≤ 1000000) :
    Calls Try.prog 65 #[.slice A xs.length c] w fun e w' => e = .returned (.bool (rapartGo noBits xs)) ∧ Below w.heap.size w w' := by
  go_enter Try.func65, Try.ntmps65
  go_wp2_with (at_make; refine make_bools _ rfl _ _ 146 rfl 4 Try.underlying146 info_bool .i64 .i64 64 rfl rfl (by omega) ?_; intro w1 hB1 hb1)
  go_loopw [4] (fun i wr => ∃ (k : Nat) (us : List Bool), i = .int .i64 k ∧ k ≤ xs.length ∧ Bools wr w.heap.size 4 w.heap.size 64 us ∧ rapartGo noBits xs = rapartGo us (xs.drop k) ∧ Below w.heap.size w wr) (fun i _ => xs.length - (intOf i).toNat)
  case atStart => exact ⟨0, _, rfl, by omega, hB1, rfl, hb1⟩
  case round =>
    obtain ⟨k, us, rfl, hk, hB, hg, hb⟩ := hrel
    have Hg := Lib.hid hg
    clear hg hB1 hb1
    by_cases hlt : k < xs.length
    · have hd := Lib.hid (drop_pair hlt)
      obtain ⟨b, o, rfl, hbl, hc0, hc1⟩ := (hS k hlt)
      generalize xs.getD k (0, 0) = x at hd hc0 hc1
      obtain ⟨s, n⟩ := x
      have hc0' : wr.cell? ⟨b, o + k * 2, none⟩ = some (.int .i64 s) := (hb.cell (p := ⟨b, _, none⟩) hbl).trans hc0
      have hc1' : wr.cell? ⟨b, o + k * 2 + 1, none⟩ = some (.int .i64 n) := (hb.cell (p := ⟨b, _, none⟩) hbl).trans hc1
      have hsz := hb.size
      by_cases hr : rightB s n = true
      · obtain ⟨h1, h2, h3, h4, h5⟩ := rightB_true hr
        obtain ⟨s, rfl⟩ := Int.eq_ofNat_of_zero_le h3
        obtain ⟨n, rfl⟩ := Int.eq_ofNat_of_zero_le (show 0 ≤ n by omega)
        go_wp2_with (first | (go_at_call 58; refine (rright_any _ _ _).mono ?_; rintro e w1 ⟨rfl, hb1⟩))
        have hbw := hb.trans (hb1.mono hsz)
        have hB1 := hB.below hb1
        obtain ⟨wo, rfl⟩ : ∃ wo : World, wo = wr := ⟨_, rfl⟩
        clear hb hc0' hc1' hB hb1
        go_loopw [5] (fun j wr => ∃ (q : Nat) (vs : List Bool), j = .int .i64 q ∧ q ≤ n ∧ Bools wr w.heap.size 4 w.heap.size 64 vs ∧ markGo n s us = markGo (n - q) (s + q) vs ∧ Below w.heap.size w wr) (fun i _ => n - (intOf i).toNat)
        case atStart => exact ⟨0, us, rfl, by omega, hB1, rfl, hbw⟩
        case round =>
          obtain ⟨q, vs, rfl, hq, hB2, hm, hb2⟩ := hrel
          have Hm := Lib.hid hm
          clear hm hB1 hbw
          have hc0' : wr.cell? ⟨b, o + k * 2, none⟩ = some (.int .i64 s) := (hb2.cell (p := ⟨b, _, none⟩) hbl).trans hc0
          have hc1' : wr.cell? ⟨b, o + k * 2 + 1, none⟩ = some (.int .i64 n) := (hb2.cell (p := ⟨b, _, none⟩) hbl).trans hc1
          by_cases hqn : q < n
          · have hcell := hB2.cell (s + q) (by omega)
            have hfree := hB2.free (s + q)
            have hst := hB2.store (s + q) true
            have hmark : markGo (n - q) (s + q) vs = if vs.getD (s + q) false = true then none else markGo (n - (q + 1)) (s + (q + 1)) (vs.set (s + q) true) := by
              rw [show n - q = (n - (q + 1)) + 1 by omega]; rfl
            have Hmark := Lib.hid hmark
            clear hmark
            generalize hu : vs.getD (s + q) false = u at hcell Hmark
            have Hu := Lib.hid hu
            clear hu
            cases u
            · go_wp2
              go_roundw
              case rel => exact ⟨q + 1, _, by go_num, by omega, hst, by rw [Hm.out, Hmark.out]; rfl, hb2.setCell (p := ⟨_, _, none⟩) (Nat.le_refl _) _⟩
              case measure => simp [intOf]; omega
            · go_wp2
              go_ret
              exact ⟨ret_bool (by rw [Hg.out, hd.out]; simp only [rapartGo, hr, Int.toNat_natCast]; rw [Hm.out, Hmark.out]; rfl), hb2⟩
          · obtain rfl : q = n := by omega
            go_wp2
            go_roundw
            case rel => exact ⟨k + 1, vs, by go_num, by omega, hB2, by rw [Hg.out, hd.out]; simp only [rapartGo, hr, Int.toNat_natCast]; rw [Hm.out, Nat.sub_self]; rfl, hb2⟩
            case measure => simp [intOf]; omega
      · have hr' : rightB s n = false := by simpa using hr
        go_wp2_with (first | (go_at_call 58; refine (rright_any _ _ _).mono ?_; rintro e w1 ⟨rfl, hb1⟩))
        go_ret
        exact ⟨ret_bool (by rw [Hg.out, hd.out]; simp only [rapartGo, hr']; rfl), hb.trans (hb1.mono hsz)⟩
    · go_wp2
      go_ret
      exact ⟨ret_bool (by rw [Hg.out, List.drop_eq_nil_of_le (by omega)]; rfl), hb⟩
/-- The marked places are a word's bits. -/
def Marks (us : List Bool) (u : Int) : Prop := us.length = 64 ∧ ∀ j, j < 64 → us.getD j false = (B u).getLsbD j
theorem getD_set (us : List Bool) (p j : Nat) (hp : p < us.length) : (us.set p true).getD j false = (if j = p then true else us.getD j false) := by
  rw [List.getD_eq_getElem?_getD, List.getElem?_set]
  by_cases h : j = p
  · subst h; simp [hp]
  · rw [if_neg (fun e => h e.symm), if_neg h, ← List.getD_eq_getElem?_getD]
theorem markGo_some : ∀ (d p : Nat) (us : List Bool), us.length = 64 → p + d ≤ 64 → (∀ j, p ≤ j → j < p + d → us.getD j false = false) →
    ∃ vs, markGo d p us = some vs ∧ vs.length = 64 ∧ ∀ j, j < 64 → vs.getD j false = (us.getD j false || decide (p ≤ j ∧ j < p + d))
  | 0, p, us, hl, _, _ => ⟨us, rfl, hl, fun j _ => by
    have : decide (p ≤ j ∧ j < p + 0) = false := decide_eq_false (by omega)
    rw [this, Bool.or_false]⟩
  | d + 1, p, us, hl, hp, h => by
    have h0 := h p (Nat.le_refl _) (by omega)
    obtain ⟨vs, h1, h2, h3⟩ := markGo_some d (p + 1) (us.set p true) (by simpa using hl) (by omega) (fun j hj hj' => by
      rw [getD_set us p j (by omega), if_neg (by omega)]; exact h j (by omega) (by omega))
    refine ⟨vs, by rw [markGo, h0]; exact h1, h2, fun j hj => ?_⟩
    rw [h3 j hj, getD_set us p j (by omega)]
    by_cases hjp : j = p
    · have e : decide (p ≤ j ∧ j < p + (d + 1)) = true := decide_eq_true (by omega)
      rw [if_pos hjp, e]; simp
    · have e : decide (p + 1 ≤ j ∧ j < p + 1 + d) = decide (p ≤ j ∧ j < p + (d + 1)) := by apply decide_eq_decide.2; omega
      rw [if_neg hjp, e]
theorem markGo_none : ∀ (d p : Nat) (us : List Bool), us.length = 64 → p + d ≤ 64 → (∃ j, p ≤ j ∧ j < p + d ∧ us.getD j false = true) → markGo d p us = none
  | 0, p, us, _, _, ⟨j, h1, h2, _⟩ => by omega
  | d + 1, p, us, hl, hp, ⟨j, h1, h2, h3⟩ => by
    rw [markGo]
    by_cases h0 : us.getD p false = true
    · rw [if_pos h0]
    · rw [if_neg h0]
      have hne : j ≠ p := fun e => by subst e; exact h0 h3
      exact markGo_none d (p + 1) _ (by simpa using hl) (by omega) ⟨j, by omega, by omega, by rw [getD_set us p j (by omega), if_neg hne]; exact h3⟩
theorem field_bit (s n : Int) (h : rightB s n = true) (j : Nat) (hj : j < 64) : (B (IntKind.u64.wrap (maskV n * 2 ^ s.toNat))).getLsbD j = decide (s ≤ j ∧ (j : Int) < s + n) := by
  obtain ⟨h1, h2, h3, h4, h5⟩ := rightB_true h
  rw [shl_B _ _ (by omega), BitVec.getLsbD_shiftLeft]
  by_cases hs : (j : Int) < s
  · have e : decide (j < s.toNat) = true := decide_eq_true (by omega)
    have e' : decide (s ≤ (j : Int) ∧ (j : Int) < s + n) = false := decide_eq_false (by omega)
    rw [e, e']; simp
  · have e : decide (j < s.toNat) = false := decide_eq_false (by omega)
    rw [e, mask_bit n h1 h2 _ (by omega)]
    have e' : decide (((j - s.toNat : Nat) : Int) < n) = decide (s ≤ (j : Int) ∧ (j : Int) < s + n) := by apply decide_eq_decide.2; omega
    rw [e']; simp [hj]
theorem aparts : ∀ (xs : List (Int × Int)) (us : List Bool) (u : Int), Marks us u → rapartGo us xs = apartGo u xs
  | [], _, _, _ => rfl
  | (s, n) :: t, us, u, hM => by
    rw [rapartGo, apartGo]
    by_cases hr : rightB s n = true
    · obtain ⟨h1, h2, h3, h4, h5⟩ := rightB_true hr
      rw [hr]
      simp only [Bool.true_and]
      by_cases hex : ∃ j, s.toNat ≤ j ∧ j < s.toNat + n.toNat ∧ us.getD j false = true
      · rw [markGo_none n.toNat s.toNat us hM.1 (by omega) hex]
        obtain ⟨j, a, b, c⟩ := hex
        have : (Go.bits .and .u64 u (IntKind.u64.wrap (maskV n * 2 ^ s.toNat)) != 0) = true := by
          rw [bne_iff_ne, Ne, word_zero (R_bits _ _ _)]
          intro h
          have := h j (by omega)
          rw [B_and, BitVec.getLsbD_and, field_bit s n hr j (by omega), ← hM.2 j (by omega), c] at this
          simp at this; omega
        rw [this]; rfl
      · have hno : ∀ j, s.toNat ≤ j → j < s.toNat + n.toNat → us.getD j false = false := fun j a b => by
          cases hu : us.getD j false
          · rfl
          · exact absurd ⟨j, a, b, hu⟩ hex
        obtain ⟨vs, e, hl, hv⟩ := markGo_some n.toNat s.toNat us hM.1 (by omega) hno
        rw [e]
        have : (Go.bits .and .u64 u (IntKind.u64.wrap (maskV n * 2 ^ s.toNat)) != 0) = false := by
          have hz : Go.bits .and .u64 u (IntKind.u64.wrap (maskV n * 2 ^ s.toNat)) = 0 := (word_zero (R_bits _ _ _)).2 fun j hj => by
            rw [B_and, BitVec.getLsbD_and, field_bit s n hr j hj, ← hM.2 j hj]
            by_cases hin : s ≤ (j : Int) ∧ (j : Int) < s + n
            · rw [hno j (by omega) (by omega)]; rfl
            · rw [decide_eq_false hin]; simp
          rw [hz]; rfl
        rw [this]
        simp only [Bool.not_false, Bool.true_and]
        refine aparts t vs _ ⟨hl, fun j hj => ?_⟩
        rw [hv j hj, B_or, BitVec.getLsbD_or, field_bit s n hr j hj, hM.2 j hj]
        congr 1
        apply decide_eq_decide.2; omega
    · have hr' : rightB s n = false := by simpa using hr
      rw [hr']; rfl
theorem aparts0 (xs : List (Int × Int)) : rapartGo noBits xs = apartGo 0 xs :=
  aparts xs noBits 0 ⟨by unfold noBits; simp, fun j hj => by
    rw [B_zero]
    unfold noBits
    rw [List.getD_eq_getElem?_getD, List.getElem?_replicate]
    simp [hj]⟩
theorem rapart_any (xs : List (Int × Int)) (A : Option Addr) (c : Nat) (w : World) (hS : Pairs w A xs) (hl : xs.length ≤ 1000000) :
    Calls Try.prog 65 #[.slice A xs.length c] w fun e w' => e = .returned (.bool (apartGo 0 xs)) ∧ Below w.heap.size w w' := by
  rw [← aparts0]; exact rapart_calls xs A c w hS hl
/-- What Pack answers, of whatever rows. -/
def packAll (xs : List (Int × Int)) (vs : List Int) : Option Int := if apartGo 0 xs = true ∧ xs.length = vs.length then packGo 0 xs vs else none
theorem pack_any (xs : List (Int × Int)) (A : Option Addr) (c : Nat) (vs : List Int) (A' : Option Addr) (c' : Nat) (w : World) (hS : Pairs w A xs) (hV : Ints w .u64 A' vs) (hl : xs.length ≤ 1000000) :
    Calls Try.prog 67 #[.slice A xs.length c, .slice A' vs.length c'] w fun e w' => e = .returned (.tuple #[.int .u64 ((packAll xs vs).getD 0), .bool (packAll xs vs).isSome]) ∧ Below w.heap.size w w' := by
  unfold packAll
  by_cases h : apartGo 0 xs = true ∧ xs.length = vs.length
  · rw [if_pos h]; exact pack_calls xs A c vs A' c' w hS hV (by omega) h.1 h.2
  · rw [if_neg h]
    refine pack_no xs A c vs A' c' w hS (by omega) ?_
    by_cases ha : apartGo 0 xs = true
    · right
      have : xs.length ≠ vs.length := fun e => h ⟨ha, e⟩
      rw [bne_iff_ne]; omega
    · left; simpa using ha
theorem rpack_no (xs : List (Int × Int)) (A : Option Addr) (c : Nat) (vs : List Int) (A' : Option Addr) (c' : Nat) (w : World) (hS : Pairs w A xs) (hl : xs.length ≤ 1000000)
    (h : apartGo 0 xs = false ∨ ((xs.length : Int) != vs.length) = true) :
    Calls Try.prog 68 #[.slice A xs.length c, .slice A' vs.length c'] w fun e w' => e = .returned (.tuple #[.int .u64 0, .bool false]) ∧ Below w.heap.size w w' := by
  by_cases ha : apartGo 0 xs = true
  · have hv := h.resolve_left (by simp [ha])
    clear h
    go_enter Try.func68, Try.ntmps68
    go_wp2_with (first | (go_at_call 65; refine (rapart_any xs _ _ _ hS hl).mono ?_; rintro e w1 ⟨rfl, hb1⟩))
    go_ret2
    exact ⟨rfl, hb1⟩
  · have ha' : apartGo 0 xs = false := by simpa using ha
    clear h
    go_enter Try.func68, Try.ntmps68
    go_wp2_with (first | (go_at_call 65; refine (rapart_any xs _ _ _ hS hl).mono ?_; rintro e w1 ⟨rfl, hb1⟩))
    go_ret2
    exact ⟨rfl, hb1⟩
theorem rpack_calls (xs : List (Int × Int)) (A : Option Addr) (c : Nat) (vs : List Int) (A' : Option Addr) (c' : Nat) (w : World) (hS : Pairs w A xs) (hV : Ints w .u64 A' vs) (hR : ∀ k, k < vs.length → R (vs.getD k 0)) (hl : xs.length ≤ 1000000)
    (ha : apartGo 0 xs = true) (hlen : xs.length = vs.length) :
    Calls Try.prog 68 #[.slice A xs.length c, .slice A' vs.length c'] w fun e w' => e = .returned (.tuple #[.int .u64 ((packGo 0 xs vs).getD 0), .bool (packGo 0 xs vs).isSome]) ∧ Below w.heap.size w w' := by
  have hv : ((xs.length : Int) != vs.length) = false := by rw [hlen]; simp
  have Hlen := Lib.hid hlen
  have HR := Lib.hid hR
  clear hlen hR
  go_enter Try.func68, Try.ntmps68
  go_wp2_with (first | (go_at_call 65; refine (rapart_any xs _ _ _ hS hl).mono ?_; rintro e w1 ⟨rfl, hb1⟩))
  go_loopw [6, 7] (fun u i wr => ∃ (a : Int) (k : Nat), u = .int .u64 a ∧ i = .int .i64 k ∧ k ≤ xs.length ∧ R a ∧ packGo 0 xs vs = packGo a (xs.drop k) (vs.drop k) ∧ Below w.heap.size w wr) (fun _ i _ => xs.length - (intOf i).toNat)
  case atStart => exact ⟨0, 0, rfl, rfl, by omega, R_zero, rfl, hb1⟩
  case round =>
    obtain ⟨a, k, rfl, rfl, hk, hRa, hg, hb⟩ := hrel
    have Hg := Lib.hid hg
    have HRa := Lib.hid hRa
    clear hg hb1 hRa
    by_cases hlt : k < xs.length
    · have hlt' : k < vs.length := by have := Hlen.out; omega
      have hRv := Lib.hid (HR.out k hlt')
      have hd := Lib.hid (drop_pair hlt)
      have hd' := Lib.hid (drop_int hlt')
      obtain ⟨b, o, rfl, hbl, hc0, hc1⟩ := (hS k hlt)
      obtain ⟨b', o', rfl, hbl', hc2⟩ := (hV k hlt')
      generalize xs.getD k (0, 0) = x at hd hc0 hc1
      generalize vs.getD k 0 = v at hd' hc2 hRv
      obtain ⟨s, n⟩ := x
      have hk0 : wr.cell? ⟨b, o + k * 2, none⟩ = some (.int .i64 s) := (hb.cell (p := ⟨b, _, none⟩) hbl).trans hc0
      have hk1 : wr.cell? ⟨b, o + k * 2 + 1, none⟩ = some (.int .i64 n) := (hb.cell (p := ⟨b, _, none⟩) hbl).trans hc1
      have hk2 : wr.cell? ⟨b', o' + k, none⟩ = some (.int .u64 v) := (hb.cell (p := ⟨b', _, none⟩) hbl').trans hc2
      clear hc0 hc1 hc2
      have hsz := hb.size
      have hi0 : (0 : Int) ≤ (k : Int) := Int.natCast_nonneg _
      have hi1 : (k : Int) < (xs.length : Int) := by omega
      have hi2 : (k : Int) < (vs.length : Int) := by omega
      have e0 : putB s n v = true → putR a s n v = (putV a s n v, true) := fun h => by unfold putR; rw [if_pos h]
      have e1 : putB s n v = false → putR a s n v = (0, false) := fun h => by unfold putR; rw [h]; rfl
      cases hp : putB s n v
      · have P0 : ∀ W, Calls Try.prog 56 #[.int .u64 a, .agg #[.int .i64 s, .int .i64 n], .int .u64 v] W fun e w' => e = .returned (.tuple #[.int .u64 0, .bool false]) ∧ Below W.heap.size W w' := fun W => by
          have h := rput_any a s n v HRa.out hRv.out W; rwa [e1 hp] at h
        have HP := Lib.hid P0
        have Hp := Lib.hid hp
        clear P0 e0 e1 hp
        go_wp2_with fail
        go_region_held3 (fun w' => w'.cell? ⟨b, o + k * 2, none⟩ = some (.int .i64 s) ∧ w'.cell? ⟨b, o + k * 2 + 1, none⟩ = some (.int .i64 n) ∧ w'.cell? ⟨b', o' + k, none⟩ = some (.int .u64 v))
          (first | go_keep | exact ⟨((bcell hb3).1 _ _ (show _ < wr.heap.size by omega)).trans hk0, ((bcell hb3).1 _ _ (show _ < wr.heap.size by omega)).trans hk1, ((bcell hb3).1 _ _ (show _ < wr.heap.size by omega)).trans hk2⟩)
          ((go_at_call 56; refine (HP.out _).mono ?_; rintro e w3 ⟨rfl, hb3⟩))
        go_wp2
        go_ret2
        exact ⟨by rw [Hg.out, hd.out, hd'.out]; simp only [packGo, Hp.out]; rfl, hb.drew.trans (hb3.mono hsz)⟩
      · have P0 : ∀ W, Calls Try.prog 56 #[.int .u64 a, .agg #[.int .i64 s, .int .i64 n], .int .u64 v] W fun e w' => e = .returned (.tuple #[.int .u64 (putV a s n v), .bool true]) ∧ Below W.heap.size W w' := fun W => by
          have h := rput_any a s n v HRa.out hRv.out W; rwa [e0 hp] at h
        have HP := Lib.hid P0
        have Hp := Lib.hid hp
        clear P0 e0 e1 hp
        go_wp2_with fail
        go_region_held3 (fun w' => w'.cell? ⟨b, o + k * 2, none⟩ = some (.int .i64 s) ∧ w'.cell? ⟨b, o + k * 2 + 1, none⟩ = some (.int .i64 n) ∧ w'.cell? ⟨b', o' + k, none⟩ = some (.int .u64 v))
          (first | go_keep | exact ⟨((bcell hb3).1 _ _ (show _ < wr.heap.size by omega)).trans hk0, ((bcell hb3).1 _ _ (show _ < wr.heap.size by omega)).trans hk1, ((bcell hb3).1 _ _ (show _ < wr.heap.size by omega)).trans hk2⟩)
          ((go_at_call 56; refine (HP.out _).mono ?_; rintro e w3 ⟨rfl, hb3⟩))
        go_wp2
        go_roundw
        case rel => exact ⟨_, k + 1, rfl, by go_num, by omega, R_putV _ _ _ _, by rw [Hg.out, hd.out, hd'.out]; simp only [packGo, Hp.out]; rfl, hb.drew.trans (hb3.mono hsz)⟩
        case measure => simp [intOf]; omega
    · go_wp2
      go_ret2
      exact ⟨by rw [Hg.out, List.drop_eq_nil_of_le (by omega)]; rfl, hb⟩
theorem rpack_any (xs : List (Int × Int)) (A : Option Addr) (c : Nat) (vs : List Int) (A' : Option Addr) (c' : Nat) (w : World) (hS : Pairs w A xs) (hV : Ints w .u64 A' vs) (hR : ∀ k, k < vs.length → R (vs.getD k 0)) (hl : xs.length ≤ 1000000) :
    Calls Try.prog 68 #[.slice A xs.length c, .slice A' vs.length c'] w fun e w' => e = .returned (.tuple #[.int .u64 ((packAll xs vs).getD 0), .bool (packAll xs vs).isSome]) ∧ Below w.heap.size w w' := by
  unfold packAll
  by_cases h : apartGo 0 xs = true ∧ xs.length = vs.length
  · rw [if_pos h]; exact rpack_calls xs A c vs A' c' w hS hV hR hl h.1 h.2
  · rw [if_neg h]
    refine rpack_no xs A c vs A' c' w hS hl ?_
    by_cases ha : apartGo 0 xs = true
    · right
      have : xs.length ≠ vs.length := fun e => h ⟨ha, e⟩
      rw [bne_iff_ne]; omega
    · left; simpa using ha
end Go.Proofs.Ytgilmpfohlpbdaa.Pack
