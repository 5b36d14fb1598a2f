/- The contract of package underpinref08's Place. -/
import Derived.Test.YtldlogmjkbhomaaSpaZ
set_option linter.unusedSimpArgs false
namespace Go.Proofs.Ytldlogmjkbhomaa.Spa
open Go.RowKit Go.Proofs.Ytldlogmjkbhomaa.Aid
def plI (a : Nat) (xs : List Rn) : Option Nat → Int
  | none => -1
  | some j => ((firstR (xs.getD j r0) a : Nat) : Int)
def lnI (xs : List Rn) : Option Nat → Int
  | none => 0
  | some j => (((xs.getD j r0).n : Nat) : Int)
theorem recs3d {w : World} {xs : List Rn} {g c : Nat} (h : Recs encR 3 w RT2 g c xs) {k : Nat} (hk : k < xs.length) : w.cell? ⟨g, k * 3, none⟩ = some (.int .i64 (xs.getD k r0).p) ∧ w.cell? ⟨g, k * 3 + 1, none⟩ = some (.int .i64 (xs.getD k r0).n) ∧ w.cell? ⟨g, k * 3 + 2, none⟩ = some (.bool (xs.getD k r0).t) := by
  have hx : xs[k]? = some (xs.getD k r0) := by rw [getD_at hk]; exact List.getElem?_eq_getElem hk
  exact ⟨h.at_ encR_len (j := 0) hx rfl, h.at_ encR_len (j := 1) hx rfl, h.at_ encR_len (j := 2) hx rfl⟩
section
variable (w : World) (q : Nat) (G : List Nat) (P : Nat) (xs : List Rn) (h : RfAt w q G P xs)
include h
set_option maxHeartbeats 4000000 in
theorem rplace_calls (n a : Int) (ha : isPow a = true) (ha2 : a ≤ 4096) : Calls Try.prog 84 #[.pointer (some ⟨q, 0, none⟩), .int .i64 n, .int .i64 a] w fun e w' => e = .returned (.int .i64 (plI a.toNat xs (bestT n a.toNat xs xs.length))) ∧ Below w.heap.size w w' := by
  have HOK := Lib.hid h.ok
  have HA := Lib.hid (And.intro ha ha2)
  have h1a := (isPow_bounds ha).1
  have HR := Lib.hid (rruns_calls w q G P xs h)
  clear h ha
  go_enter Try.func84, Try.ntmps84
  go_wp2_with fail
  refine HR.out.mono ?_
  rintro e w1 ⟨hd, rfl, g, c, rfl, hR, hg, hb⟩
  have H1 := Lib.hid (And.intro hR (And.intro hg hb))
  have hL := len_le HOK.out
  clear hR hg hb HR
  go_wp2_with fail
  go_loopw [7, 8, 10] (fun b l i wr => ∃ k : Nat, i = .int .i64 k ∧ k ≤ xs.length ∧ b = .int .i64 (plI a.toNat xs (bestT n a.toNat xs k)) ∧ l = .int .i64 (lnI xs (bestT n a.toNat xs k)) ∧ Below w1.heap.size w1 wr) (fun _ _ i _ => xs.length - (intOf i).toNat)
  case atStart => exact ⟨0, rfl, by omega, rfl, rfl, Below.refl _ _⟩
  case round =>
    obtain ⟨k, rfl, hk, rfl, rfl, hb⟩ := hrel
    have HB := Lib.hid hb
    clear hb
    by_cases hlt : k < xs.length
    · obtain ⟨k0, k1, k2⟩ := recs3d (H1.out.1.below HB.out) hlt
      have hpn := pos_n HOK.out hlt
      have hP4 := HOK.out.n
      have hk0 : (0 : Int) ≤ (k : Int) := by omega
      have hk1 : (k : Int) < (xs.length : Int) := by omega
      have hfi := first_int (r := xs.getD k r0) h1a
      have hfg := first_ge (r := xs.getD k r0) (a := a.toNat) (by omega)
      have HT := Lib.hid (bestT_succ n a.toNat xs k)
      have HHo : holdsR n a.toNat (xs.getD k r0) = (!(xs.getD k r0).t && decide (n ≤ (((xs.getD k r0).p + (xs.getD k r0).n : Nat) : Int) - ((firstR (xs.getD k r0) a.toNat : Nat) : Int))) := rfl
      have HHo := Lib.hid HHo
      generalize hr : xs.getD k r0 = r at *
      obtain ⟨rp, rn, rt⟩ := r
      dsimp only at *
      generalize hff : firstR ⟨rp, rn, rt⟩ a.toNat = f at *
      have HPL := Lib.hid (show plI a.toNat xs (some k) = (f : Int) ∧ lnI xs (some k) = (rn : Int) from ⟨by show ((firstR (xs.getD k r0) a.toNat : Nat) : Int) = _; rw [hr, hff], by show (((xs.getD k r0).n : Nat) : Int) = _; rw [hr]⟩)
      have hq0 : (0 : Int) ≤ (rp : Int) + a - 1 := by omega
      have htd : Int.tdiv ((rp : Int) + a - 1) a = ((rp : Int) + a - 1) / a := Int.tdiv_eq_ediv_of_nonneg hq0
      have hd0 : 0 ≤ ((rp : Int) + a - 1) / a := Int.ediv_nonneg hq0 (by omega)
      have hd1 : ((rp : Int) + a - 1) / a ≤ (rp : Int) + a - 1 := Int.ediv_le_self _ hq0
      have hs1 : (rp : Int) + a = a + (rp : Int) := by omega
      clear hs1
      go_upto_region 8 with fail
      clear hq0 htd hd0 hd1 hfi
      have hcells := Lib.hid (fun W (hb : Below w1.heap.size w1 W) => (show W.cell? ⟨g, k * 3, none⟩ = some (.int .i64 (rp : Nat)) ∧ W.cell? ⟨g, k * 3 + 1, none⟩ = some (.int .i64 (rn : Nat)) ∧ W.cell? ⟨g, k * 3 + 2, none⟩ = some (.bool rt) from by
        have := recs3d (H1.out.1.below hb) hlt
        rw [hr] at this
        exact this))
      clear hr hff
      cases rt with
      | true =>
        have HF : holdsR n a.toNat ⟨rp, rn, true⟩ = false := by rw [HHo.out]; rfl
        rw [HF] at HT
        go_quiet (fail)
        have hW := Lib.hid (below_drewN HB.out nq)
        generalize wr.drewN nq = W at hW ⊢
        go_wp2_with fail
        go_roundw
        case rel => exact ⟨k + 1, by go_num, by omega, by rw [HT.out]; simp, by rw [HT.out]; simp, hW.out⟩
        case measure => simp [intOf]; omega
      | false =>
        by_cases hf : n ≤ (rp : Int) + (rn : Int) - (f : Int)
        · have HF : holdsR n a.toNat ⟨rp, rn, false⟩ = true := by rw [HHo.out]; simp; omega
          rw [HF] at HT
          have hdn : ∀ D : Decidable (n ≤ (rp : Int) + (rn : Int) - (f : Int)), @decide _ D = true := fun D => by simp; omega
          go_quiet (fail)
          have hW := Lib.hid (below_drewN HB.out nq)
          generalize wr.drewN nq = W at hW ⊢
          obtain ⟨k0, k1, k2⟩ := hcells.out W hW.out
          cases hb : bestT n a.toNat xs k with
          | none =>
            rw [hb] at HT
            have hp1 : plI a.toNat xs none = -1 := rfl
            have hp2 : lnI xs none = 0 := rfl
            rw [hp1, hp2]
            go_wp2_with fail
            go_roundw
            case rel => exact ⟨k + 1, by go_num, by omega, by rw [HT.out]; simp [beats]; exact HPL.out.1.symm, by rw [HT.out]; simp [beats]; exact HPL.out.2.symm, hW.out⟩
            case measure => simp [intOf]; omega
          | some j =>
            rw [hb] at HT
            have hj := (bestT_in hb).1
            have hjp := pos_n HOK.out (show j < xs.length by omega)
            have HPJ := Lib.hid (show plI a.toNat xs (some j) = ((firstR (xs.getD j r0) a.toNat : Nat) : Int) ∧ lnI xs (some j) = (((xs.getD j r0).n : Nat) : Int) from ⟨rfl, rfl⟩)
            have HBj := Lib.hid (show beats ⟨rp, rn, false⟩ (Option.map (fun j => xs.getD j r0) (some j)) = decide (rn < (xs.getD j r0).n) from rfl)
            rw [HBj.out] at HT
            rw [HPJ.out.1, HPJ.out.2]
            generalize firstR (xs.getD j r0) a.toNat = fj at *
            generalize (xs.getD j r0).n = nj at *
            by_cases hc : rn < nj
            · have hc2 : (rn : Int) < (nj : Int) := by omega
              rw [decide_eq_true hc] at HT
              go_wp2_with fail
              go_roundw
              case rel => exact ⟨k + 1, by go_num, by omega, by rw [HT.out]; simp; exact HPL.out.1.symm, by rw [HT.out]; simp; exact HPL.out.2.symm, hW.out⟩
              case measure => simp [intOf]; omega
            · have hc2 : ¬ (rn : Int) < (nj : Int) := by omega
              rw [decide_eq_false hc] at HT
              go_wp2_with fail
              go_roundw
              case rel => exact ⟨k + 1, by go_num, by omega, by rw [HT.out]; simp; exact HPJ.out.1.symm, by rw [HT.out]; simp; exact HPJ.out.2.symm, hW.out⟩
              case measure => simp [intOf]; omega
        · have HF : holdsR n a.toNat ⟨rp, rn, false⟩ = false := by rw [HHo.out]; simp; omega
          rw [HF] at HT
          have hdn : ∀ D : Decidable (n ≤ (rp : Int) + (rn : Int) - (f : Int)), @decide _ D = false := fun D => by simp; omega
          go_quiet (fail)
          have hW := Lib.hid (below_drewN HB.out nq)
          generalize wr.drewN nq = W at hW ⊢
          go_wp2_with fail
          go_roundw
          case rel => exact ⟨k + 1, by go_num, by omega, by rw [HT.out]; simp, by rw [HT.out]; simp, hW.out⟩
          case measure => simp [intOf]; omega
    · obtain rfl : k = xs.length := by omega
      go_wp2_with fail
      go_ret
      exact ⟨rfl, H1.out.2.2.trans (HB.out.mono H1.out.2.2.size)⟩
end
end Go.Proofs.Ytldlogmjkbhomaa.Spa
