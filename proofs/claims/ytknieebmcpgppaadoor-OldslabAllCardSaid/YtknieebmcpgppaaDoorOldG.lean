/- OldslabPlaces: the walk. -/
import Derived.Test.YtknieebmcpgppaaDoorOldW
set_option linter.unusedSimpArgs false
namespace Go.Proofs.YtknieebmcpgppaaDoor.Old
open Go.RowKit Go.Proofs.YtknieebmcpgppaaDoor.Aid Go.Proofs.YtknieebmcpgppaaDoor.Bit
theorem slot_half {x : Sb} (h : OkB x) {k : Nat} (hk : k < x.l.length) : slotO x ((x.b : Int) + (k : Int) * (x.z : Int) + (x.z : Int) / 2) = none := by
  cases hs : slotO x ((x.b : Int) + (k : Int) * (x.z : Int) + (x.z : Int) / 2) with
  | none => rfl
  | some j =>
    obtain ⟨h1, h2⟩ := slotO_some hs
    have hz := h.z1
    have h3 : j * x.z = k * x.z + x.z / 2 := by
      have : ((j * x.z : Nat) : Int) = ((k * x.z + x.z / 2 : Nat) : Int) := by
        push_cast at h2 ⊢
        omega
      omega
    rcases Nat.lt_trichotomy j k with e | e | e
    · have : j * x.z ≤ k * x.z := Nat.mul_le_mul_right _ (by omega)
      omega
    · subst e
      omega
    · have h5 : (k + 1) * x.z ≤ j * x.z := Nat.mul_le_mul_right _ e
      rw [Nat.succ_mul] at h5
      omega
set_option maxHeartbeats 4000000 in
set_option maxRecDepth 100000 in
theorem places_no (w : World) (b c a s : Int) (hT : Tab w) (hb : b < 9223372036854775808) (hn : ¬ newOk b c) :
    Calls Tryd.prog 6 #[.int .i64 b, .int .i64 c, .int .i64 a, .int .i64 s] w fun e w' => e = .returned (.bool true) ∧ Below w.heap.size w w' := by
  have HT := Lib.hid hT
  have HN := Lib.hid (fun W => new_no W b c hb hn)
  have HR := Lib.hid (fun W => rnew_no W b c hn)
  clear hT hn hb
  go_enter Tryd.func6, Tryd.ntmps6
  go_wp2_with fail
  refine (alive_calls w HT.out).mono ?_
  rintro e w1 ⟨rfl, hb1⟩
  have H1 := Lib.hid hb1
  clear hb1
  go_wp2_with fail
  refine (HN.out w1).mono ?_
  rintro e w2 ⟨rfl, hb⟩
  have H2 := Lib.hid (below_then H1.out hb)
  clear hb H1
  go_wp2_with fail
  refine (HR.out w2).mono ?_
  rintro e w3 ⟨rfl, hb⟩
  have H3 := Lib.hid (below_then H2.out hb)
  clear hb H2
  go_wp2_with fail
  go_ret
  exact ⟨rfl, H3.out⟩
set_option maxHeartbeats 4000000 in
set_option maxRecDepth 100000 in
theorem places_yes (w : World) (b c : Nat) (a s : Int) (hT : Tab w) (hn : newOk b c) :
    Calls Tryd.prog 6 #[.int .i64 b, .int .i64 c, .int .i64 a, .int .i64 s] w fun e w' => e = .returned (.bool true) ∧ Below w.heap.size w w' := by
  have HT := Lib.hid hT
  have HN := Lib.hid (fun W hT => new_yes W b c hn hT)
  have HR := Lib.hid (fun W => rnew_yes W b c hn)
  have hok := newX_ok hn
  have hbx : (newX b c).b = b := rfl
  clear hT hn
  go_enter Tryd.func6, Tryd.ntmps6
  go_wp2_with fail
  refine (alive_calls w HT.out).mono ?_
  rintro e w1 ⟨rfl, hb1⟩
  have H1 := Lib.hid (And.intro hb1 (HT.out.below hb1))
  clear hb1
  go_wp2_with fail
  refine (HN.out w1 H1.out.2).mono ?_
  rintro e w2 ⟨p, F, rfl, hS, hF, hb⟩
  have H2 := Lib.hid (show Hd w w2 p F (newX b c) from ⟨hS, fun y hy => Nat.le_trans H1.out.1.size (hF y hy), below_then H1.out.1 hb, HT.out.1, H1.out.2.below hb⟩)
  clear hS hF hb H1
  go_wp2_with fail
  refine (HR.out w2).mono ?_
  rintro e w3 ⟨q, g, cp, rfl, hP, hq, hg, hb⟩
  have H3 := Lib.hid (H2.out.on hb)
  have R3 := Lib.hid (show RfAt w3 q [q, g] (newX b c) from ⟨hok, ⟨g, cp, hP, by simp, by simp⟩, fun y hy => by
    have h1 := hP.head.lt
    have h2 := hP.row.lt
    simp at hy
    omega⟩)
  clear hP hq hg hb H2 HN HR
  generalize newX b c = x at *
  go_wp2_with fail
  refine (slot_calls w3 p F x H3.out.sl a).mono ?_
  rintro e w4 ⟨rfl, hb⟩
  have H4 := Lib.hid (H3.out.on hb)
  have R4 := Lib.hid (R3.out.below hb)
  clear hb H3 R3
  go_wp2_with fail
  refine (rslot_calls w4 q [q, g] x R4.out a).mono ?_
  rintro e w5 ⟨rfl, hb⟩
  have H5 := Lib.hid (H4.out.on hb)
  have R5 := Lib.hid (R4.out.below hb)
  clear hb H4 R4
  go_upto_region 11 with fail
  go_cut [13, 14, 15, 78] (fun _ _ _ v wc => v = .bool false ∧ w5 = wc)
  case first =>
    generalize slotO x a = o
    cases o with
    | none =>
      rw [show slotV none = -1 from rfl, show slotE none = 12 from rfl]
      go_wp2_with fail
      go_meet
      exact ⟨rfl, rfl⟩
    | some k =>
      rw [show slotV (some k) = (k : Int) from rfl, show slotE (some k) = 0 from rfl]
      go_wp2_with fail
      go_meet
      exact ⟨rfl, rfl⟩
  case rest =>
  obtain ⟨rfl, rfl⟩ := hcut
  go_wp2_with fail
  refine (addr_calls w5 p F x H5.out.sl s).mono ?_
  rintro e w6 ⟨rfl, hb⟩
  have H6 := Lib.hid (H5.out.on hb)
  have R6 := Lib.hid (R5.out.below hb)
  clear hb H5 R5
  obtain ⟨hm1, hm2, hm3⟩ := hok.many
  have HRC := Lib.hid (fun (W : World) (hb : Below w6.heap.size w6 W) => (show ∃ g cp, W.cell? ⟨q, 3, none⟩ = some (.slice (some ⟨g, 0, none⟩) x.l.length cp) from by
    obtain ⟨g, cp, h1, _⟩ := (R6.out.below hb).ex
    exact ⟨g, cp, h1.cells.2.2.2⟩))
  by_cases h0 : s < 0
  · have hi : inR x.l s = false := inR_no _ _ (.inl h0)
    rw [show addrV x s = -1 by unfold addrV; rw [hi]; rfl, hi]
    clear hi
    go_wp2_with fail
    go_ret
    exact ⟨rfl, H6.out.below⟩
  · obtain ⟨k, rfl⟩ := Int.eq_ofNat_of_zero_le (show 0 ≤ s by omega)
    clear h0
    have hk0 : (0 : Int) ≤ (k : Int) := by omega
    obtain ⟨g2, cp2, c3⟩ := HRC.out w6 (Below.refl _ _)
    by_cases h2 : x.l.length ≤ k
    · have hi : inR x.l (k : Int) = false := inR_no _ _ (.inr (by omega))
      rw [show addrV x (k : Int) = -1 by unfold addrV; rw [hi]; rfl, hi]
      clear hi
      go_wp2_with fail
      go_ret
      exact ⟨rfl, H6.out.below⟩
    · have hi : inR x.l (k : Int) = true := inR_nat _ _ (by omega)
      have hkl : k < x.l.length := by omega
      have hat := hok.at_ hkl
      have hhi := hok.hi
      have hz1 := hok.z1
      have hz2 := hok.z2
      have hkm : (k : Int) * (x.z : Int) = ((k * x.z : Nat) : Int) := by simp
      rw [show addrV x (k : Int) = (x.b : Int) + ((k * x.z : Nat) : Int) by unfold addrV; rw [hi, ← hkm]; rfl, hi]
      have hsa := slotO_at hok hkl (a := (x.b : Int) + ((k * x.z : Nat) : Int)) (by push_cast; rfl)
      have HS := Lib.hid (slot_calls w6 p F x H6.out.sl ((x.b : Int) + ((k * x.z : Nat) : Int)))
      rw [hsa] at HS
      have hhf := slot_half hok hkl
      rw [hkm] at hhf
      have hmul : IntKind.i64.wrap ((k : Int) * (x.z : Int)) = ((k * x.z : Nat) : Int) := by
        rw [hkm]
        exact IntWalk.i64_in _ (by omega)
      have HSZ := Lib.hid (fun W (hb : Below w6.heap.size w6 W) => size_calls W p F x (H6.out.on hb).sl)
      have HRZ := Lib.hid (fun W (hb : Below w6.heap.size w6 W) => rsize_calls W q [q, g] x (R6.out.below hb))
      have HSH := Lib.hid (fun W (hb : Below w6.heap.size w6 W) => slot_calls W p F x (H6.out.on hb).sl ((x.b : Int) + ((k * x.z : Nat) : Int) + (x.z : Int) / 2))
      rw [hhf] at HSH
      have hk1 : (k : Int) < (x.l.length : Int) := by omega
      clear hi h2 hsa hm3 hkm hhf HRC
      generalize k * x.z = m at *
      have HBX := Lib.hid hbx
      rw [hbx] at *
      generalize x.z = z at *
      generalize x.l.length = n at *
      have e1 : wrap64 ((b : Int) + (m : Int)) = (b : Int) + (m : Int) := by unfold wrap64; omega
      have e2 : IntKind.i64.wrap ((b : Int) + (m : Int)) = (b : Int) + (m : Int) := IntWalk.i64_in _ (by omega)
      have e3 : IntKind.i64.wrap ((b : Int) + (m : Int) + (z : Int) / 2) = (b : Int) + (m : Int) + (z : Int) / 2 := IntWalk.i64_in _ (by omega)
      have e4 : IntKind.i64.wrap ((b : Int) + (m : Int) + (z : Int)) = (b : Int) + (m : Int) + (z : Int) := IntWalk.i64_in _ (by omega)
      have e5 : IntKind.i64.wrap ((b : Int) + 1024) = (b : Int) + 1024 := IntWalk.i64_in _ (by omega)
      have e6 : decide ((b : Int) + (m : Int) + (z : Int) ≤ (b : Int) + 1024) = true := by simp; omega
      have e7 : IntKind.i64.wrap ((z : Int) / 2) = (z : Int) / 2 := IntWalk.i64_in _ (by omega)
      clear hat hhi hz1 hz2 hbx
      go_wp2_with fail
      refine HS.out.mono ?_
      rintro e w7 ⟨rfl, hb⟩
      rw [show slotV (some k) = (k : Int) from rfl, show slotE (some k) = 0 from rfl]
      have H7 := Lib.hid hb
      clear hb c3
      go_wp2_with fail
      refine (HSZ.out w7 H7.out).mono ?_
      rintro e w8 ⟨rfl, rfl⟩
      go_wp2_with fail
      refine (HSH.out w7 H7.out).mono ?_
      rintro e w8 ⟨rfl, hb⟩
      rw [show slotV none = -1 from rfl, show slotE none = 12 from rfl]
      have H8 := Lib.hid (below_then H7.out hb)
      clear hb H7
      go_wp2_with fail
      refine (HRZ.out w8 H8.out).mono ?_
      rintro e w9 ⟨rfl, hb⟩
      have H9 := Lib.hid (below_then H8.out hb)
      clear hb H8
      go_wp2_with fail
      refine (HSZ.out w9 H9.out).mono ?_
      rintro e w10 ⟨rfl, rfl⟩
      go_wp2_with fail
      go_ret
      exact ⟨rfl, H6.out.below.trans (H9.out.mono H6.out.below.size)⟩
theorem nat_args {b c : Int} (h : newOk b c) : ∃ b' c' : Nat, b = b' ∧ c = c' ∧ newOk (b' : Int) (c' : Int) := by
  obtain ⟨b', rfl⟩ := Int.eq_ofNat_of_zero_le h.1
  obtain ⟨c', rfl⟩ := Int.eq_ofNat_of_zero_le (newOk_c h).1
  exact ⟨b', c', rfl, rfl, h⟩
theorem places_calls (w : World) (b c a s : Int) (hT : Tab w) (hb : -9223372036854775808 ≤ b ∧ b ≤ 9223372036854775807) :
    Calls Tryd.prog 6 #[.int .i64 b, .int .i64 c, .int .i64 a, .int .i64 s] w fun e w' => e = .returned (.bool true) ∧ Below w.heap.size w w' := by
  by_cases hn : newOk b c
  · obtain ⟨b', c', rfl, rfl, hn'⟩ := nat_args hn
    exact places_yes w b' c' a s hT hn'
  · exact places_no w b c a s hT (by omega) hn
end Go.Proofs.YtknieebmcpgppaaDoor.Old
