/- Slabs of the old layout: Slot and Address. -/
import Derived.Test.YtknieebmcpgppaaDoorOldA
import Derived.IntWalk
set_option linter.unusedSimpArgs false
namespace Go.Proofs.YtknieebmcpgppaaDoor.Old
open Go.RowKit Go.Proofs.YtknieebmcpgppaaDoor.Aid Go.Proofs.YtknieebmcpgppaaDoor.Bit
theorem div_wrap (d z : Nat) (h : d < 1024) : wrap64 ((d : Int) / (z : Int)) = ((d / z : Nat) : Int) := by
  have h1 := Nat.div_le_self d z
  have e : ((d : Int) / (z : Int)) = ((d / z : Nat) : Int) := by simp
  rw [e]
  generalize d / z = q at *
  unfold wrap64
  omega
section
variable (w : World) (p : Nat) (F : List Nat) (x : Sb) (h : SlAt w p F x)
include h
set_option maxHeartbeats 1000000 in
theorem slot_calls (a : Int) : Calls Tryd.prog 32 #[.pointer (some ⟨p, 0, none⟩), .int .i64 a] w fun e w' => e = .returned (.tuple #[.int .i64 (slotV (slotO x a)), .int .i64 (slotE (slotO x a))]) ∧ Below w.heap.size w w' := by
  have S := Lib.hid (fun n => slots_calls (w.drewN n) p F x (h.below (below_drewN (Below.refl _ _) n)))
  have hok := h.ok
  obtain ⟨rp, g, cp, h1, _⟩ := h.ex
  obtain ⟨c0, _, c2, _⟩ := h1.cells
  clear h h1
  obtain ⟨m1, m2, m3⟩ := hok.many
  by_cases h0 : a < (x.b : Int)
  · rw [slotO_out hok (.inl h0)]
    have hd0 : decide (a < (x.b : Int)) = true := by simpa using h0
    clear hok
    generalize x.b = b at *
    generalize x.z = z at *
    generalize x.l.length = n at *
    go_enter Tryd.func32, Tryd.ntmps32
    go_wp2_with fail
    go_quiet (fail)
    go_wp2_with fail
    go_ret2
    exact ⟨rfl, below_drewN (Below.refl _ _) _⟩
  · obtain ⟨d, hd⟩ := Int.eq_ofNat_of_zero_le (show 0 ≤ a - (x.b : Int) by omega)
    obtain rfl : a = (x.b : Int) + (d : Int) := by omega
    have hbz := hok.hi
    have hz1 := hok.z1
    have hz2 := hok.z2
    have hd0 : decide ((x.b : Int) + (d : Int) < (x.b : Int)) = false := by simp; omega
    have hmul : IntKind.i64.wrap ((x.z : Int) * (x.l.length : Int)) = ((x.z * x.l.length : Nat) : Int) := by
      have e : ((x.z : Int) * (x.l.length : Int)) = ((x.z * x.l.length : Nat) : Int) := by simp
      rw [e]
      rw [Nat.mul_comm] at m3
      exact IntWalk.i64_in _ (by omega)
    have hm : x.z * x.l.length ≤ 1024 := by rw [Nat.mul_comm]; exact m3
    by_cases h2 : x.z * x.l.length ≤ d
    · rw [slotO_out hok (.inr (by omega))]
      clear hok m3 hd
      generalize x.z * x.l.length = m at *
      generalize x.b = b at *
      generalize x.z = z at *
      generalize x.l.length = n at *
      have hadd : IntKind.i64.wrap ((b : Int) + (m : Int)) = (b : Int) + (m : Int) := IntWalk.i64_in _ (by omega)
      have hd1 : decide (m ≤ d) = true := by simpa using h2
      clear h0 h2 hbz hz1 hz2 m1 m2 hm
      go_enter Tryd.func32, Tryd.ntmps32
      go_wp2_with fail
      go_quiet ((go_at_call 37; exact quiet_left (S.out _)))
      go_wp2_with fail
      go_ret2
      exact ⟨rfl, below_drewN (Below.refl _ _) _⟩
    · have hdl : d < 1024 := by omega
      have hq := Lib.hid (slotO_div hok (d := d))
      have hq2 := Lib.hid (slotO_mod (x := x) (d := d))
      clear hok m3 hd
      generalize hg : slotO x ((x.b : Int) + (d : Int)) = o at *
      clear hg
      generalize x.z * x.l.length = m at *
      generalize x.b = b at *
      generalize x.z = z at *
      generalize x.l.length = n at *
      have hadd : IntKind.i64.wrap ((b : Int) + (m : Int)) = (b : Int) + (m : Int) := IntWalk.i64_in _ (by omega)
      have hsub : IntKind.i64.wrap ((b : Int) + (d : Int) - (b : Int)) = (d : Int) := by
        rw [show (b : Int) + (d : Int) - (b : Int) = (d : Int) by omega]
        exact IntWalk.i64_in _ (by omega)
      have hmod : ((d : Int)).tmod (z : Int) = ((d % z : Nat) : Int) := by rw [Int.tmod_eq_emod_of_nonneg (by omega)]; rfl
      have hdiv : ((d : Int)).tdiv (z : Int) = ((d / z : Nat) : Int) := by rw [Int.tdiv_eq_ediv_of_nonneg (by omega)]; rfl
      have hd1 : decide (m ≤ d) = false := by simpa using h2
      have hz0 : ((z : Int) == 0) = false := by rw [beq_eq_false_iff_ne]; omega
      have hz9 : ¬ (z : Int) = 0 := by omega
      have hz8 : ¬ z = 0 := by omega
      have hwd := div_wrap d z hdl
      by_cases h3 : d % z = 0
      · rw [hq.out h3 (by omega)]
        clear h0 h2 hbz hz1 hz2 m1 m2 hm
        go_enter Tryd.func32, Tryd.ntmps32
        go_wp2_with fail
        go_quiet ((go_at_call 37; exact quiet_left (S.out _)))
        go_wp2_with fail
        go_quiet (fail)
        go_wp2_with fail
        go_ret2
        refine ⟨?_, below_drewN (below_drewN (Below.refl _ _) _) _⟩
        show Ending.returned (.tuple #[.int .i64 (wrap64 ((d : Int) / (z : Int))), .int .i64 0]) = _
        rw [hwd]
        rfl
      · rw [hq2.out h3]
        clear h0 h2 hbz hz1 hz2 m1 m2 hm
        go_enter Tryd.func32, Tryd.ntmps32
        go_wp2_with fail
        go_quiet ((go_at_call 37; exact quiet_left (S.out _)))
        go_wp2_with fail
        go_ret2
        exact ⟨rfl, below_drewN (Below.refl _ _) _⟩
theorem addr_calls (k : Int) : Calls Tryd.prog 34 #[.pointer (some ⟨p, 0, none⟩), .int .i64 k] w fun e w' => e = .returned (.tuple #[.int .i64 (addrV x k), .bool (inR x.l k)]) ∧ Below w.heap.size w w' := by
  have S := Lib.hid (slots_calls w p F x h)
  have hok := h.ok
  obtain ⟨rp, g, cp, h1, _⟩ := h.ex
  obtain ⟨c0, _, c2, _⟩ := h1.cells
  clear h h1
  by_cases h0 : k < 0
  · have hi : inR x.l k = false := inR_no _ _ (.inl h0)
    unfold addrV
    rw [hi]
    go_enter Tryd.func34, Tryd.ntmps34
    go_wp2_with fail
    go_ret2
    exact ⟨rfl, Below.refl _ _⟩
  · obtain ⟨j, rfl⟩ := Int.eq_ofNat_of_zero_le (show 0 ≤ k by omega)
    clear h0
    have hj0 : (0 : Int) ≤ (j : Int) := by omega
    by_cases h2 : x.l.length ≤ j
    · have hi : inR x.l (j : Int) = false := inR_no _ _ (.inr (by omega))
      unfold addrV
      rw [hi]
      clear hi hok
      generalize x.l.length = n at *
      go_enter Tryd.func34, Tryd.ntmps34
      go_wp2_with fail
      refine S.out.mono ?_
      rintro e w' ⟨rfl, rfl⟩
      go_wp2_with fail
      go_ret2
      exact ⟨rfl, Below.refl _ _⟩
    · have hi : inR x.l (j : Int) = true := inR_nat _ _ (by omega)
      have hj := hok.at_ (show j < x.l.length by omega)
      have hbz := hok.hi
      unfold addrV
      rw [hi, if_pos rfl]
      have hmul : IntKind.i64.wrap ((j : Int) * (x.z : Int)) = ((j * x.z : Nat) : Int) := by
        have e : ((j : Int) * (x.z : Int)) = ((j * x.z : Nat) : Int) := by simp
        rw [e]
        exact IntWalk.i64_in _ (by omega)
      have hmv : ((j : Int) * (x.z : Int)) = ((j * x.z : Nat) : Int) := by simp
      rw [hmv]
      clear hmv
      generalize j * x.z = m at *
      have hz := hok.z1
      clear hi hok
      generalize x.b = b at *
      generalize x.z = z at *
      generalize x.l.length = n at *
      have hadd : IntKind.i64.wrap ((b : Int) + (m : Int)) = (b : Int) + (m : Int) := IntWalk.i64_in _ (by omega)
      go_enter Tryd.func34, Tryd.ntmps34
      go_wp2_with fail
      refine S.out.mono ?_
      rintro e w' ⟨rfl, rfl⟩
      clear hj hbz hz
      go_wp2_with fail
      go_quiet (fail)
      go_wp2_with fail
      go_ret2
      exact ⟨rfl, below_drewN (Below.refl _ _) _⟩
end
end Go.Proofs.YtknieebmcpgppaaDoor.Old
