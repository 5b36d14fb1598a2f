/- Slabs of the new layout: Slot, push, pop, Take. -/
import Derived.Test.YtloflnachpjlgaaNewT
set_option linter.unusedSimpArgs false
namespace Go.Proofs.Ytloflnachpjlgaa.New
open Go.RowKit Go.Proofs.Ytloflnachpjlgaa.Aid Go.Proofs.Ytloflnachpjlgaa.Cell
theorem div_wrap (d z : Nat) (h : d < 1024) : wrap64 ((d : Int) / (z : Int)) = ((d / z : Nat) : Int) := by
  have h1 := Nat.div_le_self d z
  have e : ((d : Int) / (z : Int)) = ((d / z : Nat) : Int) := by simp
  rw [e]
  generalize d / z = q at *
  unfold wrap64
  omega
section
variable (w : World) (p mp mg mc : Nat) (x : Sn) (bs : List Int) (h : SnP w p mp mg mc x bs)
include h
set_option maxHeartbeats 1000000 in
theorem slot_calls (a : Int) : Calls Try.prog 43 #[.pointer (some ⟨p, 0, none⟩), .int .i64 a] w fun e w' => e = .returned (.tuple #[.int .i64 (slotV (slotO x a)), .int .i64 (slotE (slotO x a))]) ∧ Below w.heap.size w w' := by
  have hok := h.ok
  obtain ⟨_, c1, _, c3, c4, _⟩ := h.cells
  clear h
  obtain ⟨m1, m2, m3⟩ := hok.many
  by_cases h0 : a < (x.b : Int)
  · rw [slotO_out hok (.inl h0)]
    have hd0 : decide (a < (x.b : Int)) = true := by simpa using h0
    clear hok
    generalize x.b = b at *
    generalize x.z = z at *
    generalize x.n = n at *
    go_enter Try.func43, Try.ntmps43
    go_wp2_with fail
    go_quiet (fail)
    go_wp2_with fail
    go_ret2
    exact ⟨rfl, below_drewN (Below.refl _ _) _⟩
  · obtain ⟨d, hd⟩ := Int.eq_ofNat_of_zero_le (show 0 ≤ a - (x.b : Int) by omega)
    obtain rfl : a = (x.b : Int) + (d : Int) := by omega
    have hbz := hok.hi
    have hsm := hok.sm
    have hz1 := hok.z1
    have hz2 := hok.z2
    have hd0 : decide ((x.b : Int) + (d : Int) < (x.b : Int)) = false := by simp; omega
    have hmul : IntKind.i64.wrap ((x.z : Int) * (x.n : Int)) = ((x.z * x.n : Nat) : Int) := by
      have e : ((x.z : Int) * (x.n : Int)) = ((x.z * x.n : Nat) : Int) := by simp
      rw [e]
      rw [Nat.mul_comm] at m3
      exact IntWalk.i64_in _ (by omega)
    have hm : x.z * x.n ≤ 1024 := by rw [Nat.mul_comm]; exact m3
    by_cases h2 : x.z * x.n ≤ d
    · rw [slotO_out hok (.inr (by omega))]
      clear hok m3 hd
      generalize x.z * x.n = m at *
      generalize x.b = b at *
      generalize x.z = z at *
      generalize x.n = n at *
      have hadd : IntKind.i64.wrap ((b : Int) + (m : Int)) = (b : Int) + (m : Int) := IntWalk.i64_in _ (by omega)
      have hd1 : decide (m ≤ d) = true := by simpa using h2
      clear h0 h2 hbz hsm hz1 hz2 m1 m2 hm
      go_enter Try.func43, Try.ntmps43
      go_wp2_with fail
      go_quiet (fail)
      go_wp2_with fail
      go_ret2
      exact ⟨rfl, below_drewN (Below.refl _ _) _⟩
    · have hdl : d < 1024 := by omega
      have hq := Lib.hid (slotO_div hok (d := d))
      have hq2 := Lib.hid (slotO_mod (x := x) (d := d))
      clear hok m3 hd
      generalize hg : slotO x ((x.b : Int) + (d : Int)) = o at *
      clear hg
      generalize x.z * x.n = m at *
      generalize x.b = b at *
      generalize x.z = z at *
      generalize x.n = n at *
      have hadd : IntKind.i64.wrap ((b : Int) + (m : Int)) = (b : Int) + (m : Int) := IntWalk.i64_in _ (by omega)
      have hsub : IntKind.i64.wrap ((b : Int) + (d : Int) - (b : Int)) = (d : Int) := by
        rw [show (b : Int) + (d : Int) - (b : Int) = (d : Int) by omega]
        exact IntWalk.i64_in _ (by omega)
      have hmod : ((d : Int)).tmod (z : Int) = ((d % z : Nat) : Int) := by rw [Int.tmod_eq_emod_of_nonneg (by omega)]; rfl
      have hdiv : ((d : Int)).tdiv (z : Int) = ((d / z : Nat) : Int) := by rw [Int.tdiv_eq_ediv_of_nonneg (by omega)]; rfl
      have hd1 : decide (m ≤ d) = false := by simpa using h2
      have hz0 : ((z : Int) == 0) = false := by rw [beq_eq_false_iff_ne]; omega
      have hz9 : ¬ (z : Int) = 0 := by omega
      have hz8 : ¬ z = 0 := by omega
      have hwd := div_wrap d z hdl
      by_cases h3 : d % z = 0
      · rw [hq.out h3 (by omega)]
        clear h0 h2 hbz hsm hz1 hz2 m1 m2 hm
        go_enter Try.func43, Try.ntmps43
        go_wp2_with fail
        go_quiet (fail)
        go_wp2_with fail
        go_quiet (fail)
        go_wp2_with fail
        go_ret2
        refine ⟨?_, below_drewN (below_drewN (Below.refl _ _) _) _⟩
        show Ending.returned (.tuple #[.int .i64 (wrap64 ((d : Int) / (z : Int))), .int .i64 0]) = _
        rw [hwd]
        rfl
      · rw [hq2.out h3]
        clear h0 h2 hbz hsm hz1 hz2 m1 m2 hm
        go_enter Try.func43, Try.ntmps43
        go_wp2_with fail
        go_quiet (fail)
        go_wp2_with fail
        go_ret2
        exact ⟨rfl, below_drewN (Below.refl _ _) _⟩
end
theorem SnP.lts {w : World} {p mp mg mc : Nat} {x : Sn} {bs : List Int} (h : SnP w p mp mg mc x bs) : p < w.heap.size ∧ mp < w.heap.size ∧ mg < w.heap.size := ⟨h.head.lt, h.mem.head.lt, h.mem.row.lt⟩
/-- The slab's own block turned. -/
theorem SnP.turn {w : World} {p mp mg mc : Nat} {x : Sn} {bs : List Int} (h : SnP w p mp mg mc x bs) (y : Sn) (hb : y.b = x.b) (hc : y.c = x.c) (hz : y.z = x.z) (hn : y.n = x.n) (hok : OkN y bs) : SnP ((w.setCell ⟨p, 5, none⟩ (.int .i64 y.head)).setCell ⟨p, 6, none⟩ (.int .i64 y.cnt)) p mp mg mc y bs ∧ Kept [p] w ((w.setCell ⟨p, 5, none⟩ (.int .i64 y.head)).setCell ⟨p, 6, none⟩ (.int .i64 y.cnt)) := by
  have hk : Kept [p] w ((w.setCell ⟨p, 5, none⟩ (.int .i64 y.head)).setCell ⟨p, 6, none⟩ (.int .i64 y.cnt)) := ((Kept.refl [p] w).setCell (p := ⟨p, 5, none⟩) (by simp) _).setCell (p := ⟨p, 6, none⟩) (by simp) _
  refine ⟨⟨?_, h.mem.kept hk (by simp; exact fun e => h.n1 e.symm) (by simp; exact fun e => h.n2 e.symm), h.n1, h.n2, hok⟩, hk⟩
  rw [hb, hc, hz, hn]
  exact (h.head.set 5 _).set 6 _
section
variable (w : World) (p mp mg mc : Nat) (x : Sn) (bs : List Int) (h : SnP w p mp mg mc x bs)
include h
set_option maxHeartbeats 1000000 in
theorem pop_calls (k : Nat) (L : List Nat) (hL : ListOf x bs (k :: L)) : Calls Try.prog 78 #[.pointer (some ⟨p, 0, none⟩)] w fun e w' => e = .returned (.int .i64 ((x.b : Int) + ((k * x.z : Nat) : Int))) ∧ SnP w' p mp mg mc (popX x bs) bs ∧ Kept [p] w w' := by
  obtain ⟨h1, h2, h3, h4, h5, h6⟩ := pop_list h.ok hL
  have hat := h.ok.at_ h2
  have hhi := h.ok.hi
  have hsm := h.ok.sm
  have hz1 := h.ok.z1
  have hct := h.ok.ct
  have hm := h.ok.many.1
  have HN := Lib.hid (fun (W : World) (hb : Below w.heap.size w W) => next_in W p mp mg mc x bs (h.below hb) k h2)
  obtain ⟨_, c1, _, c3, _, c5, c6⟩ := h.cells
  have H := Lib.hid h
  have HC := Lib.hid (fun (W : World) (hb : Below w.heap.size w W) => (h.below hb).cells)
  have HFZ := Lib.hid (fun (W : World) (hb : Below w.heap.size w W) (o : Nat) => (h.below hb).head.free o)
  have hmv : ((k : Int) * (x.z : Int)) = ((k * x.z : Nat) : Int) := by simp
  have hmul : IntKind.i64.wrap ((k : Int) * (x.z : Int)) = ((k * x.z : Nat) : Int) := by
    rw [hmv]
    exact IntWalk.i64_in _ (by omega)
  rw [h1] at c5
  rw [h3] at HN
  have HP := Lib.hid (And.intro h4 h5)
  clear h hmv h1 h3 h4 h5 hL
  generalize k * x.z = m at *
  have hadd : IntKind.i64.wrap ((x.b : Int) + (m : Int)) = (x.b : Int) + (m : Int) := IntWalk.i64_in _ (by omega)
  have hsub : IntKind.i64.wrap ((x.cnt : Int) - 1) = ((popX x bs).cnt : Int) := by
    rw [show ((x.cnt : Int) - 1) = ((popX x bs).cnt : Int) by omega]
    exact IntWalk.i64_in _ (by omega)
  clear hat hhi hsm hz1 hct hm h2 h6
  go_enter Try.func78, Try.ntmps78
  go_wp2_with fail
  go_quiet (fail)
  go_wp2_with fail
  have HB := Lib.hid (below_drewN (Below.refl w.heap.size w) nq)
  refine (HN.out _ HB.out).mono ?_
  rintro e w1 ⟨v, rfl, hv, hb⟩
  obtain rfl := hv _ rfl
  have H1 := Lib.hid (below_then HB.out hb)
  clear hb c1 c3 c5 c6 hv
  obtain ⟨_, _, _, _, _, _, d6⟩ := HC.out w1 H1.out
  have f5 := HFZ.out w1 H1.out 5
  have f6 := HFZ.out w1 H1.out 6
  go_wp2_with fail
  go_ret
  have ht := (H.out.below H1.out).turn (popX x bs) rfl rfl rfl rfl HP.out.2
  exact ⟨rfl, ht.1, (Kept.of_below H1.out [p]).trans ht.2⟩
end
end Go.Proofs.Ytloflnachpjlgaa.New
