/- The contracts of the reference's ledger. -/
import Derived.Test.YtchnhmcedmicgaaLedZ
import Derived.Test.YtchnhmcedmicgaaAidLists
import Derived.BigQuiet
namespace Go.Proofs.Ytchnhmcedmicgaa.Led
open Go.RowKit Go.Proofs.Ytchnhmcedmicgaa.Aid
theorem info_int : (Try.prog.info? 3).map (fun i => (i.zero, i.size, i.bytes)) = some (some (.int .i64 0), 1, 8) := by kernel_rfl
theorem info_ints : (Try.prog.info? 40).map (fun i => (i.zero, i.size, i.bytes)) = some (some (.slice none 0 0), 1, 24) := by kernel_rfl
/-- The reference's ledger: its struct in block rp, its rows in block sb. -/
structure RefAt (w : World) (rp sb c : Nat) (av : List Nat) (cap : Int) (hist : List (List Int)) : Prop where
  head : Blk w rp #[.int .i64 cap, .slice (some ⟨sb, 0, none⟩) hist.length c] 44
  lists : Lists w 40 .i64 8 sb c (rp :: av) hist
section
variable {w w' : World} {rp sb c : Nat} {av : List Nat} {cap : Int} {hist : List (List Int)}
theorem RefAt.ne (h : RefAt w rp sb c av cap hist) : rp ≠ sb := fun e => h.lists.out (by simp [e])
theorem RefAt.kept (h : RefAt w rp sb c av cap hist) {F : List Nat} (k : Kept F w w') (hF : ∀ x ∈ F, x ∈ av) (hr : rp ∉ F) : RefAt w' rp sb c av cap hist := ⟨h.head.kept k hr, h.lists.kept k (fun x hx => by simp [hF x hx])⟩
theorem RefAt.below (h : RefAt w rp sb c av cap hist) (k : Below w.heap.size w w') : RefAt w' rp sb c av cap hist := ⟨h.head.below k, h.lists.below k⟩
theorem RefAt.drew (h : RefAt w rp sb c av cap hist) : RefAt w.drew rp sb c av cap hist := h.below ⟨rfl, rfl, rfl, Nat.le_refl _, fun _ _ => rfl⟩
end
theorem rsum_calls (w : World) (A : Option Addr) (ca : Nat) (r : List Int) {cap : Int} (h : OkR cap r) (hc : cap ≤ 1099511627776) (hA : Ints w .i64 A r) :
    Calls Try.prog 21 #[.slice A 8 ca] w fun e w' => e = .returned (.int .i64 (sumTo r 8)) ∧ w = w' := by
  have HA := Lib.hid (fun k (hk : k < 8) => hA k (by rw [h.len]; exact hk))
  have HB := Lib.hid (fun k (hk : k ≤ 8) => And.intro (sumTo_pos h.pos k) (Int.le_trans (sumTo_le h.pos hk) h.le))
  have Hc := Lib.hid hc
  clear h hc hA
  go_enter Try.func21, Try.ntmps21
  go_wp2_with fail
  go_loop [3, 4] (fun s i => ∃ k : Nat, k ≤ 8 ∧ i = .int .i64 k ∧ s = .int .i64 (sumTo r k)) (fun _ i => 8 - (intOf i).toNat)
  case atStart => exact ⟨0, by omega, rfl, rfl⟩
  case round =>
    obtain ⟨k, hk, rfl, rfl⟩ := hrel
    have hk0 : (0 : Int) ≤ (k : Int) := by omega
    by_cases hlt : k < 8
    · obtain ⟨b, o, rfl, hlb, hcell⟩ := HA.out k hlt
      obtain ⟨b0, b1⟩ := HB.out k (by omega)
      have b2 := HB.out (k + 1) (by omega)
      have hs : sumTo r (k + 1) = sumTo r k + r.getD k 0 := rfl
      rw [hs] at b2
      have HS := Lib.hid hs
      clear hs
      generalize r.getD k 0 = x at hcell b2 HS
      generalize sumTo r k = s at b0 b1 b2 HS ⊢
      have hk1 : (k : Int) < 8 := by omega
      obtain ⟨b2, b3⟩ := b2
      have hw : IntKind.i64.wrap (s + x) = s + x := IntWalk.i64_in _ (by have := Hc.out; omega)
      go_wp2
      go_round
      case rel => exact ⟨k + 1, by omega, by go_num, by rw [HS.out]⟩
      case measure => simp [intOf]; omega
    · obtain rfl : k = 8 := by omega
      go_wp2
      go_ret
      exact ⟨rfl, rfl⟩
/-- What Now hands back: the last row. -/
def NowGives (r : List Int) (w : World) (e : Ending) (w' : World) : Prop := ∃ b c', e = .returned (.slice (some ⟨b, 0, none⟩) 8 c') ∧ Ints w' .i64 (some ⟨b, 0, none⟩) r ∧ b < w.heap.size ∧ ∃ nq, w' = w.drewN nq
theorem rnow_calls (w : World) (rp sb c : Nat) (av : List Nat) (cap : Int) (hs : List (List Int)) (r : List Int) (h : RefAt w rp sb c av cap (hs ++ [r])) (hsm : hs.length ≤ 1000000) :
    Calls Try.prog 20 #[.pointer (some ⟨rp, 0, none⟩)] w (NowGives r w) := by
  obtain ⟨b, c', hc, hl, hi⟩ := h.lists.at (k := hs.length) (by simp)
  have hr : (hs ++ [r]).getD hs.length [] = r := by simp [List.getD_eq_getElem?_getD]
  rw [hr] at hi hl
  have c1 := h.head.cell (o := 1) rfl
  rw [show (hs ++ [r]).length = hs.length + 1 by simp] at c1
  have hlt : b < w.heap.size := by
    obtain ⟨b', o', e, hlt, _⟩ := hi 0 (by omega)
    injection e with e
    injection e with e
    subst e
    exact hlt
  have HI := Lib.hid hi
  have HLT := Lib.hid hlt
  have h0 : (0 : Int) ≤ (hs.length : Int) := by omega
  have hw : IntKind.i64.wrap ((hs.length : Int) + 1) = (hs.length : Int) + 1 := IntWalk.i64_in _ (by omega)
  have hw2 : IntKind.i64.wrap (((hs.length + 1 : Nat) : Int) - 1) = (hs.length : Int) := by rw [IntWalk.i64_in _ (by omega)]; omega
  clear h hi hl hr hlt
  go_enter Try.func20, Try.ntmps20
  go_wp2_with fail
  go_quiet (fail)
  go_wp2_with fail
  go_ret
  exact ⟨b, c', rfl, HI.out, HLT.out, _, rfl⟩
end Go.Proofs.Ytchnhmcedmicgaa.Led
