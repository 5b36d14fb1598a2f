/- Slabs of the old layout in memory; the contracts of what reads them. -/
import Derived.Test.YtknieebmcpgppaaDoorOldP
import Derived.Deep.QuietTactic
import Derived.BigQuiet
set_option linter.unusedSimpArgs false
namespace Go.Proofs.YtknieebmcpgppaaDoor.Old
open Go.RowKit Go.Proofs.YtknieebmcpgppaaDoor.Aid Go.Proofs.YtknieebmcpgppaaDoor.Bit
abbrev ST : TypeId := 96
abbrev IT : TypeId := 3
structure SlP (w : World) (p rp g cp : Nat) (x : Sb) : Prop where
  head : Blk w p #[.int .i64 x.b, .int .i64 x.c, .int .i64 x.z, .pointer (some ⟨rp, 0, none⟩)] ST
  row : RowAt w rp g cp x.l
  n1 : p ≠ rp
  n2 : p ≠ g
theorem RowAt.lts {w : World} {p g c : Nat} {l : List Bool} (h : RowAt w p g c l) : p < w.heap.size ∧ g < w.heap.size := ⟨h.head.lt, h.row.lt⟩
structure SlAt (w : World) (p : Nat) (F : List Nat) (x : Sb) : Prop where
  ok : OkB x
  ex : ∃ rp g cp, SlP w p rp g cp x ∧ p ∈ F ∧ rp ∈ F ∧ g ∈ F
  flt : ∀ y ∈ F, y < w.heap.size
theorem SlP.kept {w w' : World} {p rp g cp : Nat} {x : Sb} (h : SlP w p rp g cp x) {G : List Nat} (k : Kept G w w') (h1 : p ∉ G) (h2 : rp ∉ G) (h3 : g ∉ G) : SlP w' p rp g cp x :=
  ⟨h.head.kept k h1, h.row.kept k h2 h3, h.n1, h.n2⟩
theorem SlP.below {w w' : World} {p rp g cp : Nat} {x : Sb} (h : SlP w p rp g cp x) (k : Below w.heap.size w w') : SlP w' p rp g cp x :=
  ⟨h.head.below k, h.row.below k, h.n1, h.n2⟩
theorem SlAt.kept {w w' : World} {p : Nat} {F G : List Nat} {x : Sb} (h : SlAt w p F x) (k : Kept G w w') (hF : ∀ y ∈ F, y ∉ G) : SlAt w' p F x := by
  obtain ⟨rp, g, cp, h1, m1, m2, m3⟩ := h.ex
  exact ⟨h.ok, ⟨rp, g, cp, h1.kept k (hF _ m1) (hF _ m2) (hF _ m3), m1, m2, m3⟩, fun y hy => Nat.lt_of_lt_of_le (h.flt y hy) k.size⟩
theorem SlAt.below {w w' : World} {p : Nat} {F : List Nat} {x : Sb} (h : SlAt w p F x) (k : Below w.heap.size w w') : SlAt w' p F x :=
  h.kept (Kept.of_below k []) fun _ _ => by simp
/-- What a call that writes leaves. -/
def Slw (w : World) (p : Nat) (F : List Nat) (x' : Sb) (w' : World) : Prop := ∃ F', SlAt w' p F' x' ∧ Kept F w w' ∧ ∀ y ∈ F', y ∈ F ∨ w.heap.size ≤ y
theorem slw_same {w w' : World} {p : Nat} {F : List Nat} {x : Sb} (h : SlAt w p F x) (k : Below w.heap.size w w') : Slw w p F x w' := ⟨F, h.below k, Kept.of_below k _, fun _ hx => .inl hx⟩
theorem SlP.cells {w : World} {p rp g cp : Nat} {x : Sb} (h : SlP w p rp g cp x) : w.cell? ⟨p, 0, none⟩ = some (.int .i64 x.b) ∧ w.cell? ⟨p, 1, none⟩ = some (.int .i64 x.c) ∧ w.cell? ⟨p, 2, none⟩ = some (.int .i64 x.z) ∧ w.cell? ⟨p, 3, none⟩ = some (.pointer (some ⟨rp, 0, none⟩)) :=
  ⟨h.head.cell rfl, h.head.cell rfl, h.head.cell rfl, h.head.cell rfl⟩
section
variable (w : World) (p : Nat) (F : List Nat) (x : Sb) (h : SlAt w p F x)
include h
theorem base_calls : Calls Tryd.prog 64 #[.pointer (some ⟨p, 0, none⟩)] w fun e w' => e = .returned (.int .i64 x.b) ∧ w = w' := by
  obtain ⟨rp, g, cp, h1, _⟩ := h.ex
  obtain ⟨c0, _⟩ := h1.cells
  clear h h1
  go_enter Tryd.func64, Tryd.ntmps64
  go_wp2_with fail
  go_ret
  exact ⟨rfl, rfl⟩
theorem class_calls : Calls Tryd.prog 65 #[.pointer (some ⟨p, 0, none⟩)] w fun e w' => e = .returned (.int .i64 x.c) ∧ w = w' := by
  obtain ⟨rp, g, cp, h1, _⟩ := h.ex
  obtain ⟨_, c1, _⟩ := h1.cells
  clear h h1
  go_enter Tryd.func65, Tryd.ntmps65
  go_wp2_with fail
  go_ret
  exact ⟨rfl, rfl⟩
theorem size_calls : Calls Tryd.prog 35 #[.pointer (some ⟨p, 0, none⟩)] w fun e w' => e = .returned (.int .i64 x.z) ∧ w = w' := by
  obtain ⟨rp, g, cp, h1, _⟩ := h.ex
  obtain ⟨_, _, c2, _⟩ := h1.cells
  clear h h1
  go_enter Tryd.func35, Tryd.ntmps35
  go_wp2_with fail
  go_ret
  exact ⟨rfl, rfl⟩
theorem slots_calls : Calls Tryd.prog 37 #[.pointer (some ⟨p, 0, none⟩)] w fun e w' => e = .returned (.int .i64 x.l.length) ∧ w = w' := by
  obtain ⟨rp, g, cp, h1, _⟩ := h.ex
  obtain ⟨_, _, _, c3⟩ := h1.cells
  have H := Lib.hid h1
  clear h h1
  go_enter Tryd.func37, Tryd.ntmps37
  go_wp2_with fail
  refine (len_calls w rp g cp x.l H.out.row).mono ?_
  rintro e w' ⟨rfl, rfl⟩
  go_wp2_with fail
  go_ret
  exact ⟨rfl, rfl⟩
theorem taken_calls (hT : Tab w) : Calls Tryd.prog 50 #[.pointer (some ⟨p, 0, none⟩)] w fun e w' => ∃ v, e = .returned v ∧ Own w' w.heap.size 3 .i64 v (listL x.l) ∧ Below w.heap.size w w' := by
  obtain ⟨rp, g, cp, h1, _⟩ := h.ex
  obtain ⟨_, _, _, c3⟩ := h1.cells
  have H := Lib.hid (And.intro h1 hT)
  clear h h1 hT
  go_enter Tryd.func50, Tryd.ntmps50
  go_wp2_with fail
  refine (list_calls w rp g cp x.l H.out.1.row H.out.2).mono ?_
  rintro e w' ⟨v, rfl, ho, hb⟩
  have HO := Lib.hid (And.intro ho hb)
  clear ho hb
  go_wp2_with fail
  go_ret
  exact ⟨v, rfl, HO.out⟩
theorem key_calls : Calls Tryd.prog 42 #[.pointer (some ⟨p, 0, none⟩)] w fun e w' => e = .returned (.agg (keyV x.l)) ∧ Below w.heap.size w w' := by
  obtain ⟨rp, g, cp, h1, _⟩ := h.ex
  have hkv : keyV x.l = #[.int .u64 (Bit.word x.l 0), .int .u64 (Bit.word x.l 1), .int .u64 (Bit.word x.l 2), .int .u64 (Bit.word x.l 3)] := rfl
  have hb1 := (Below.refl w.heap.size w).alloc (Nat.le_refl _) (.cells #[.int .u64 0, .int .u64 0, .int .u64 0, .int .u64 0] 46)
  have hF := Blk.new w #[.int .u64 0, .int .u64 0, .int .u64 0, .int .u64 0] 46
  have h2 := h1.below hb1
  obtain ⟨_, _, _, c3⟩ := h2.cells
  have H := Lib.hid (And.intro h2 (And.intro hF hb1))
  clear h h1 h2 hF hb1
  go_enter Tryd.func42, Tryd.ntmps42
  go_upto_region 1 with fail
  generalize w.alloc (.cells #[.int .u64 0, .int .u64 0, .int .u64 0, .int .u64 0] 46) = w1 at *
  generalize hq : w.heap.size = q at H ⊢
  have HQ := Lib.hid hq
  clear hq
  go_wp2_with fail
  refine (Bit.key_calls w1 rp g cp x.l H.out.1.row).mono ?_
  rintro e w4 ⟨rfl, hb⟩
  have HF4 := Lib.hid (H.out.2.1.below hb)
  have HB := Lib.hid (show Below q w w4 ∧ True from by
    have hx := H.out.2.2
    have hz := hx.size
    rw [HQ.out] at hz
    exact ⟨hx.trans (hb.mono hz), trivial⟩)
  have HKV := Lib.hid hkv
  rw [hkv]
  clear hb c3 hkv
  generalize h0 : Bit.word x.l 0 = x0 at *
  generalize h1 : Bit.word x.l 1 = x1 at *
  generalize h2 : Bit.word x.l 2 = x2 at *
  generalize h3 : Bit.word x.l 3 = x3 at *
  clear h0 h1 h2 h3
  have e0 : w4.cell? ⟨q, 0, none⟩ = some (.int .u64 0) := HF4.out.cell (o := 0) rfl
  have e1 : w4.cell? ⟨q, 1, none⟩ = some (.int .u64 0) := HF4.out.cell (o := 1) rfl
  have e2 : w4.cell? ⟨q, 2, none⟩ = some (.int .u64 0) := HF4.out.cell (o := 2) rfl
  have e3 : w4.cell? ⟨q, 3, none⟩ = some (.int .u64 0) := HF4.out.cell (o := 3) rfl
  have f0 := HF4.out.free 0
  have f1 := HF4.out.free 1
  have f2 := HF4.out.free 2
  have f3 := HF4.out.free 3
  go_wp2_with fail
  have hB := (((HF4.out.set 0 (.int .u64 x0)).set 1 (.int .u64 x1)).set 2 (.int .u64 x2)).set 3 (.int .u64 x3)
  have hbw5 := (((HB.out.1.setCell (p := ⟨q, 0, none⟩) (Nat.le_refl _) (.int .u64 x0)).setCell (p := ⟨q, 1, none⟩) (Nat.le_refl _) (.int .u64 x1)).setCell (p := ⟨q, 2, none⟩) (Nat.le_refl _) (.int .u64 x2)).setCell (p := ⟨q, 3, none⟩) (Nat.le_refl _) (.int .u64 x3)
  generalize (((w4.setCell ⟨q, 0, none⟩ (.int .u64 x0)).setCell ⟨q, 1, none⟩ (.int .u64 x1)).setCell ⟨q, 2, none⟩ (.int .u64 x2)).setCell ⟨q, 3, none⟩ (.int .u64 x3) = w5 at hB hbw5 ⊢
  have r0 : w5.cell? ⟨q, 0, none⟩ = some (.int .u64 x0) := hB.cell rfl
  have r1 : w5.cell? ⟨q, 1, none⟩ = some (.int .u64 x1) := hB.cell rfl
  have r2 : w5.cell? ⟨q, 2, none⟩ = some (.int .u64 x2) := hB.cell rfl
  have r3 : w5.cell? ⟨q, 3, none⟩ = some (.int .u64 x3) := hB.cell rfl
  refine bodyPost_ret (v := .agg #[.int .u64 x0, .int .u64 x1, .int .u64 x2, .int .u64 x3]) (by simp [results, Tryd.results42, go_sem, r0, r1, r2, r3]) rfl ⟨by rw [HKV.out], by rw [HQ.out]; exact hbw5⟩
theorem free_calls : Calls Tryd.prog 39 #[.pointer (some ⟨p, 0, none⟩)] w fun e w' => e = .returned (.int .i64 ((x.l.length : Int) - (cntL x.l : Nat))) ∧ Below w.heap.size w w' := by
  have S := Lib.hid (fun n => slots_calls (w.drewN n) p F x (h.below (below_drewN (Below.refl _ _) n)))
  have hm := h.ok.many.1
  obtain ⟨rp, g, cp, h1, _⟩ := h.ex
  obtain ⟨_, _, _, c3⟩ := h1.cells
  have C := Lib.hid (fun n => count_calls (w.drewN n) rp g cp x.l (h1.row.drewN n))
  have hc : cntL x.l ≤ x.l.length := cntTo_le _ _
  clear h h1
  generalize cntL x.l = cc at *
  generalize x.l.length = n at *
  have hw : IntKind.i64.wrap ((n : Int) - (cc : Int)) = (n : Int) - (cc : Int) := IntWalk.i64_in _ (by omega)
  go_enter Tryd.func39, Tryd.ntmps39
  go_wp2_with fail
  go_quiet (first | (go_at_call 37; exact quiet_left (S.out _)) | (go_at_call 17; exact quiet_left (C.out _)))
  go_wp2_with fail
  go_ret
  exact ⟨rfl, below_drewN (Below.refl _ _) _⟩
theorem state_calls : Calls Tryd.prog 40 #[.pointer (some ⟨p, 0, none⟩)] w fun e w' => e = .returned (.int .i64 (if cntL x.l = 0 then 0 else if cntL x.l = x.l.length then 2 else 1)) ∧ w = w' := by
  have S := Lib.hid (slots_calls w p F x h)
  obtain ⟨rp, g, cp, h1, _⟩ := h.ex
  obtain ⟨_, _, _, c3⟩ := h1.cells
  have C := Lib.hid (count_calls w rp g cp x.l h1.row)
  clear h h1
  generalize cntL x.l = cc at *
  generalize x.l.length = n at *
  by_cases h0 : cc = 0
  · subst h0
    go_enter Tryd.func40, Tryd.ntmps40
    go_wp2_with fail
    refine C.out.mono ?_
    rintro e w' ⟨rfl, rfl⟩
    go_wp2_with fail
    go_ret
    exact ⟨rfl, rfl⟩
  · rw [if_neg h0]
    have h0' : (((cc : Nat) : Int) == 0) = false := by rw [beq_eq_false_iff_ne]; omega
    by_cases h2 : cc = n
    · subst h2
      rw [if_pos rfl]
      go_enter Tryd.func40, Tryd.ntmps40
      go_wp2_with fail
      refine C.out.mono ?_
      rintro e w' ⟨rfl, rfl⟩
      go_wp2_with fail
      refine S.out.mono ?_
      rintro e w' ⟨rfl, rfl⟩
      go_wp2_with fail
      go_ret
      exact ⟨rfl, rfl⟩
    · rw [if_neg h2]
      have h2' : (((cc : Nat) : Int) == (n : Int)) = false := by rw [beq_eq_false_iff_ne]; omega
      go_enter Tryd.func40, Tryd.ntmps40
      go_wp2_with fail
      refine C.out.mono ?_
      rintro e w' ⟨rfl, rfl⟩
      go_wp2_with fail
      refine S.out.mono ?_
      rintro e w' ⟨rfl, rfl⟩
      go_wp2_with fail
      go_ret
      exact ⟨rfl, rfl⟩
end
end Go.Proofs.YtknieebmcpgppaaDoor.Old
