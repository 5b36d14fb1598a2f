/- Slabs of the old layout: Take, give, Give, GiveAll, Some. -/
import Derived.Test.YtknieebmcpgppaaDoorOldB
set_option linter.unusedSimpArgs false
namespace Go.Proofs.YtknieebmcpgppaaDoor.Old
open Go.RowKit Go.Proofs.YtknieebmcpgppaaDoor.Aid Go.Proofs.YtknieebmcpgppaaDoor.Bit
theorem kept_range {B : Nat} {w w' : World} (h : Below B w w') : Kept ((List.range w.heap.size).filter fun i => decide (B ≤ i)) w w' :=
  ⟨h.os, h.tape, h.output, h.size, fun k hk hn => h.block k (by
    rcases Nat.lt_or_ge k B with e | e
    · exact e
    · exact absurd (List.mem_filter.2 ⟨List.mem_range.2 hk, by simpa using e⟩) hn)⟩
theorem in_range {B n k : Nat} (h : k ∈ (List.range n).filter fun i => decide (B ≤ i)) : B ≤ k := by simpa using (List.mem_filter.1 h).2
theorem own_kept {w w' : World} {base : Nat} {e : TypeId} {q : IntKind} {v : Value} {xs : List Int} {F : List Nat} (h : Own w base e q v xs) (k : Kept F w w') (hF : ∀ y ∈ F, y < base) : Own w' base e q v xs := by
  obtain ⟨h1, h2⟩ := h
  refine ⟨h1, ?_⟩
  rcases h2 with h2 | ⟨g, cap, cur, hv, hg, hh, r⟩
  · exact .inl h2
  · refine .inr ⟨g, cap, cur, hv, hg, ?_, r⟩
    rw [k.block g ?_ ?_]
    · exact hh
    · rcases Nat.lt_or_ge g w.heap.size with hlt | hge
      · exact hlt
      · rw [Array.getElem?_eq_none hge] at hh; cases hh
    · intro hx
      have := hF g hx
      omega
section
variable (w : World) (p : Nat) (F : List Nat) (x : Sb) (h : SlAt w p F x) (hT : Tab w)
include h hT
theorem take_calls : Calls Tryd.prog 38 #[.pointer (some ⟨p, 0, none⟩)] w fun e w' => e = .returned (.tuple #[.int .i64 (takeA x), .int .i64 (takeE x)]) ∧ SlAt w' p F (takeX x) ∧ Kept F w w' := by
  have HS := Lib.hid h
  have hok := h.ok
  obtain ⟨rp, g, cp, h1, m1, m2, m3⟩ := h.ex
  have H := Lib.hid (And.intro h1 (And.intro m1 (And.intro m2 m3)))
  obtain ⟨_, _, _, c3⟩ := h1.cells
  have HF := Lib.hid (first_walk w rp g cp x.l 0 false h1.row hT (by decide))
  have HX := Lib.hid (show takeX x = { x with l := setL x.l (first x.l 0 false) true } from rfl)
  clear h h1 m1 m2 m3
  rcases first_is x.l 0 false with ⟨hf, _⟩ | ⟨k, hf, _, h3, h4, _⟩
  · have HX2 := Lib.hid (show SlAt w p F (takeX x) from by
      rw [HX.out, hf, show setL x.l (-1) true = x.l by unfold setL; rw [inR_no _ _ (.inl (by omega))]; rfl]
      exact HS.out)
    have e1 : takeA x = -1 := by unfold takeA; rw [if_pos hf]
    have e2 : takeE x = 18 := by unfold takeE; rw [if_pos hf]
    rw [e1, e2]
    rw [show ((0 : Int).toNat) = 0 from rfl, hf] at HF
    clear hf e1 e2
    go_enter Tryd.func38, Tryd.ntmps38
    go_wp2_with fail
    refine HF.out.mono ?_
    rintro e w' ⟨rfl, rfl⟩
    go_wp2_with fail
    go_ret2
    exact ⟨rfl, HX2.out, Kept.refl _ _⟩
  · have e1 : takeA x = addrV { x with l := setL x.l (k : Int) true } (k : Int) := by
      unfold takeA addrV
      rw [if_neg (by omega), if_pos (inR_nat _ _ (by rw [setL_len]; exact h3)), hf]
    have e2 : takeE x = 0 := by unfold takeE; rw [if_neg (by omega)]
    rw [e1, e2]
    rw [show ((0 : Int).toNat) = 0 from rfl, hf] at HF
    rw [hf] at HX
    have hk1 : ((k : Int) == -1) = false := by rw [beq_eq_false_iff_ne]; omega
    clear hf e1 e2 h4
    go_enter Tryd.func38, Tryd.ntmps38
    go_wp2_with fail
    refine HF.out.mono ?_
    rintro e w' ⟨rfl, rfl⟩
    go_wp2_with fail
    refine (set_calls w rp g cp x.l (k : Int) H.out.1.row).mono ?_
    rintro e w1 ⟨rfl, hr, hK⟩
    have H1 := Lib.hid (show SlAt w1 p F { x with l := setL x.l (k : Int) true } ∧ Kept F w w1 from by
      obtain ⟨h1, m1, m2, m3⟩ := H.out
      refine ⟨⟨hok.with (setL_len _ _ _), ⟨rp, g, cp, ⟨h1.head.kept hK (by simp; exact h1.n2), hr, h1.n1, h1.n2⟩, m1, m2, m3⟩, fun y hy => Nat.lt_of_lt_of_le (HS.out.flt y hy) hK.size⟩, hK.mono fun y hy => ?_⟩
      simp at hy
      rw [hy]
      exact m3)
    clear hr hK
    go_wp2_with fail
    refine (addr_calls w1 p F _ H1.out.1 (k : Int)).mono ?_
    rintro e w2 ⟨rfl, hb⟩
    have H2 := Lib.hid hb
    clear hb
    go_wp2_with fail
    go_ret2
    exact ⟨rfl, by rw [HX.out]; exact H1.out.1.below H2.out, H1.out.2.and_below H2.out⟩
set_option maxHeartbeats 1000000 in
theorem some_calls (n : Int) (h0 : ∀ y ∈ F, 0 < y) : Calls Tryd.prog 57 #[.pointer (some ⟨p, 0, none⟩), .int .i64 n] w fun e w' => ∃ i v, e = .returned v ∧ stops x n i ∧ Own w' w.heap.size 3 .i64 v (sm x i) ∧ SlAt w' p F (st x i) ∧ Kept F w w' := by
  have hm := h.ok.many.1
  have HF := Lib.hid (And.intro h.flt h0)
  have H := Lib.hid (And.intro h hT)
  clear h hT h0
  go_enter Tryd.func57, Tryd.ntmps57
  go_wp2_with fail
  go_loopw [5] (fun s wr => ∃ i : Nat, (∀ j, j < i → (j : Int) < n ∧ takeE (st x j) = 0) ∧ Own wr w.heap.size 3 .i64 s (sm x i) ∧ SlAt wr p F (st x i) ∧ Kept F w wr) (fun s _ => (match s with | .slice _ k _ => 64 - k | _ => 0))
  case atStart => exact ⟨0, fun j hj => by omega, Own.nil _ _ _ _, H.out.1, Kept.refl _ _⟩
  case round =>
    obtain ⟨i, hi, hown, hS, hK⟩ := hrel
    have hle := (stops_le i fun j hj => (hi j hj).2)
    have hsz := hK.size
    have hil : i ≤ 64 := by omega
    obtain ⟨A, c, rfl, hints⟩ := hown.shape
    have hsl := sm_len x i
    rw [hsl] at hown ⊢
    have HR := Lib.hid (And.intro hi (And.intro hown (And.intro hS hK)))
    clear hi hown hS hK hints
    by_cases hlt : (i : Int) < n
    · go_wp2_with fail
      refine (take_calls wr p F (st x i) HR.out.2.2.1 (H.out.2.kept HR.out.2.2.2 fun hx => by have := HF.out.2 0 hx; omega)).mono ?_
      rintro e w1 ⟨rfl, hS1, hK1⟩
      have H1 := Lib.hid (And.intro hS1 (HR.out.2.2.2.trans hK1))
      have HO := Lib.hid (own_kept HR.out.2.1 hK1 HF.out.1)
      have hsz1 := hK1.size
      clear hS1 hK1
      by_cases hE : takeE (st x i) = 0
      · rw [hE]
        have HE := Lib.hid hE
        have hbz : w.heap.size ≤ w1.heap.size := by omega
        have HSM := Lib.hid (show sm x (i + 1) = sm x i ++ [takeA (st x i)] from rfl)
        clear hE
        generalize takeA (st x i) = ta at *
        go_wp2_with (at_builtin; refine append_int rfl _ _ 30 rfl w.heap.size 3 .i64 8 Tryd.underlying30 info_int _ (sm x i) rfl HO.out ta rfl (by rw [hsl]; omega) (by rw [hsl]; omega) hbz ?_)
        intro v1 w2 hown1 hb1 _
        have HO1 := Lib.hid hown1
        have H2 := Lib.hid (show SlAt w2 p F (takeX (st x i)) ∧ Kept F w w2 from by
          have hr := kept_range hb1
          refine ⟨H1.out.1.kept hr fun y hy hy2 => ?_, H1.out.2.step hr fun y hy => .inr (in_range hy)⟩
          have h1 := in_range hy2
          have h2 := HF.out.1 y hy
          omega)
        clear hown1 hb1
        go_wp2_with fail
        go_roundw
        case rel =>
          refine ⟨i + 1, fun j hj => ?_, by rw [HSM.out]; exact HO1.out, H2.out.1, H2.out.2⟩
          rcases Nat.lt_or_ge j i with e | e
          · exact HR.out.1 j e
          · obtain rfl : j = i := by omega
            exact ⟨hlt, HE.out⟩
        case measure =>
          obtain ⟨A2, c2, rfl, _⟩ := HO1.out.shape
          rw [List.length_append, hsl]
          have := (stops_le (i + 1) fun j hj => by
            rcases Nat.lt_or_ge j i with e | e
            · exact (HR.out.1 j e).2
            · obtain rfl : j = i := by omega
              exact HE.out).2
          simp
          omega
      · have hE2 : (takeE (st x i) != 0) = true := by simpa using hE
        have hst : takeX (st x i) = st x i := by
          have h18 : first (st x i).l 0 false = -1 := by
            unfold takeE at hE
            split at hE
            · assumption
            · exact absurd rfl hE
          unfold takeX
          rw [h18, show setL (st x i).l (-1) true = (st x i).l by unfold setL; rw [inR_no _ _ (.inl (by omega))]; rfl]
        have HST := Lib.hid (And.intro hst hE)
        clear hst hE
        generalize takeE (st x i) = te at hE2 ⊢
        go_wp2_with fail
        go_ret
        exact ⟨i, _, rfl, ⟨.inr HST.out.2, HR.out.1⟩, HO.out, by rw [← HST.out.1]; exact H1.out.1, H1.out.2⟩
    · go_wp2_with fail
      go_ret
      exact ⟨i, _, rfl, ⟨.inl (by omega), HR.out.1⟩, HR.out.2.1, HR.out.2.2.1, HR.out.2.2.2⟩
end
end Go.Proofs.YtknieebmcpgppaaDoor.Old
