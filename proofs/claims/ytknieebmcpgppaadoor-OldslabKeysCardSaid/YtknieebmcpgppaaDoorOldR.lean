/- The document's slabs (layer 13) in memory; what reads them. -/
import Derived.Test.YtknieebmcpgppaaDoorOldE
import Derived.Deep.RegionHeld3
set_option linter.unusedSimpArgs false
namespace Go.Proofs.YtknieebmcpgppaaDoor.Old
open Go.RowKit Go.Proofs.YtknieebmcpgppaaDoor.Aid Go.Proofs.YtknieebmcpgppaaDoor.Bit
abbrev DT : TypeId := 64
structure RfP (w : World) (q g cp : Nat) (x : Sb) : Prop where
  head : Blk w q #[.int .i64 x.b, .int .i64 0, .int .i64 x.c, .slice (some ⟨g, 0, none⟩) x.l.length cp] DT
  row : BoolsAt w g cp x.l
  ne : q ≠ g
structure RfAt (w : World) (q : Nat) (G : List Nat) (x : Sb) : Prop where
  ok : OkB x
  ex : ∃ g cp, RfP w q g cp x ∧ q ∈ G ∧ g ∈ G
  flt : ∀ y ∈ G, y < w.heap.size
theorem RfP.kept {w w' : World} {q g cp : Nat} {x : Sb} {H : List Nat} (h : RfP w q g cp x) (k : Kept H w w') (h1 : q ∉ H) (h2 : g ∉ H) : RfP w' q g cp x := ⟨h.head.kept k h1, h.row.kept k h2, h.ne⟩
theorem RfP.below {w w' : World} {q g cp : Nat} {x : Sb} (h : RfP w q g cp x) (k : Below w.heap.size w w') : RfP w' q g cp x := ⟨h.head.below k, h.row.below k, h.ne⟩
theorem RfAt.kept {w w' : World} {q : Nat} {G H : List Nat} {x : Sb} (h : RfAt w q G x) (k : Kept H w w') (hF : ∀ y ∈ G, y ∉ H) : RfAt w' q G x := by
  obtain ⟨g, cp, h1, m1, m2⟩ := h.ex
  exact ⟨h.ok, ⟨g, cp, h1.kept k (hF _ m1) (hF _ m2), m1, m2⟩, fun y hy => Nat.lt_of_lt_of_le (h.flt y hy) k.size⟩
theorem RfAt.below {w w' : World} {q : Nat} {G : List Nat} {x : Sb} (h : RfAt w q G x) (k : Below w.heap.size w w') : RfAt w' q G x := h.kept (Kept.of_below k []) fun _ _ => by simp
theorem RfP.cells {w : World} {q g cp : Nat} {x : Sb} (h : RfP w q g cp x) : w.cell? ⟨q, 0, none⟩ = some (.int .i64 x.b) ∧ w.cell? ⟨q, 1, none⟩ = some (.int .i64 0) ∧ w.cell? ⟨q, 2, none⟩ = some (.int .i64 x.c) ∧ w.cell? ⟨q, 3, none⟩ = some (.slice (some ⟨g, 0, none⟩) x.l.length cp) :=
  ⟨h.head.cell rfl, h.head.cell rfl, h.head.cell rfl, h.head.cell rfl⟩
theorem RfP.put {w w1 : World} {q g cp : Nat} {x : Sb} {G : List Nat} (h : RfP w q g cp x) (hG : RfAt w q G x) (m1 : q ∈ G) (m2 : g ∈ G) {i : Nat} {b : Bool} (hw : w1 = w.setCell ⟨g, i, none⟩ (.bool b)) : RfP w1 q g cp { x with l := x.l.set i b } ∧ RfAt w1 q G { x with l := x.l.set i b } ∧ Kept G w w1 := by
  subst hw
  have h1 : RfP (w.setCell ⟨g, i, none⟩ (.bool b)) q g cp { x with l := x.l.set i b } := ⟨by
    have := h.head.other (a := ⟨g, i, none⟩) h.ne (.bool b)
    rw [List.length_set]
    exact this, h.row.put i b, h.ne⟩
  exact ⟨h1, ⟨hG.ok.with (List.length_set ..), ⟨g, cp, h1, m1, m2⟩, fun y hy => by rw [World.size_setCell]; exact hG.flt y hy⟩, (Kept.refl G w).setCell (.inl m2) _⟩
theorem size_same (c : Int) : Tab.sizeT 0 c = Tab.sizeV c := rfl
section
variable (w : World) (q : Nat) (G : List Nat) (x : Sb) (h : RfAt w q G x)
include h
theorem rsize_calls : Calls Tryd.prog 36 #[.pointer (some ⟨q, 0, none⟩)] w fun e w' => e = .returned (.int .i64 x.z) ∧ Below w.heap.size w w' := by
  obtain ⟨g, cp, h1, _⟩ := h.ex
  obtain ⟨_, c1, c2, _⟩ := h1.cells
  have hs := h.ok.size
  have HC := Lib.hid (fun W => Tab.rsize_calls 0 (x.c : Int) W)
  rw [size_same, hs] at HC
  have HK := Lib.hid (fun (W : World) (hb : Below w.heap.size w W) => (show W.cell? ⟨q, 1, none⟩ = some (.int .i64 0) ∧ W.cell? ⟨q, 2, none⟩ = some (.int .i64 x.c) from by
    obtain ⟨_, d1, d2, _⟩ := (h1.below hb).cells
    exact ⟨d1, d2⟩))
  have H0 := Lib.hid ((Below.refl w.heap.size w).drew)
  clear h h1 hs
  go_enter Tryd.func36, Tryd.ntmps36
  go_wp2_with fail
  go_region_held3 (fun w' => w'.cell? ⟨q, 1, none⟩ = some (.int .i64 0) ∧ w'.cell? ⟨q, 2, none⟩ = some (.int .i64 x.c))
    (first | exact HK.out _ H0.out | exact HK.out _ H1.out)
    ((go_at_call 61; (refine (Calls.mono (HC.out _) ?_)); rintro e w1 ⟨rfl, hb⟩; have H1 := Lib.hid (H0.out.trans hb); clear hb))
  go_wp2_with fail
  go_ret
  exact ⟨rfl, H1.out⟩
set_option maxHeartbeats 1000000 in
theorem rslot_calls (a : Int) : Calls Tryd.prog 33 #[.pointer (some ⟨q, 0, none⟩), .int .i64 a] w fun e w' => e = .returned (.int .i64 (slotV (slotO x a))) ∧ Below w.heap.size w w' := by
  have H := Lib.hid h
  have hok := h.ok
  obtain ⟨hm1, hm2, hm3⟩ := hok.many
  obtain ⟨g, cp, h1, _⟩ := h.ex
  have HP := Lib.hid h1
  clear h h1
  go_enter Tryd.func33, Tryd.ntmps33
  go_wp2_with fail
  go_loopw [5] (fun i wr => ∃ k : Nat, i = .int .i64 k ∧ k ≤ x.l.length ∧ (∀ j, j < k → ((x.b + j * x.z : Nat) : Int) ≠ a) ∧ Below w.heap.size w wr) (fun i _ => x.l.length - (intOf i).toNat)
  case atStart => exact ⟨0, rfl, by omega, fun j hj => by omega, Below.refl _ _⟩
  case round =>
    obtain ⟨k, rfl, hk, hno, hb⟩ := hrel
    have HB := Lib.hid (And.intro hb hno)
    have h1 := HP.out.below hb
    obtain ⟨c0, _, _, c3⟩ := h1.cells
    clear hb hno
    by_cases hlt : k < x.l.length
    · have hz := hok.at_ hlt
      have hbz := hok.hi
      have hk0 : (0 : Int) ≤ (k : Int) := by omega
      have hk1 : (k : Int) < (x.l.length : Int) := by omega
      have hmul : IntKind.i64.wrap ((k : Int) * (x.z : Int)) = ((k * x.z : Nat) : Int) := by
        have e : ((k : Int) * (x.z : Int)) = ((k * x.z : Nat) : Int) := by simp
        rw [e]
        exact IntWalk.i64_in _ (by omega)
      have HAT := Lib.hid (fun e => slotO_at hok hlt (a := a) e)
      have HE := Lib.hid (show ((x.b + k * x.z : Nat) : Int) = (x.b : Int) + ((k * x.z : Nat) : Int) by simp)
      have HS := Lib.hid (rsize_calls wr.drew q G x (H.out.below (HB.out.1.drew)))
      have H0 := Lib.hid ((Below.refl wr.heap.size wr).drew)
      have HC := Lib.hid (fun (W : World) (hb : Below wr.heap.size wr W) => (show W.cell? ⟨q, 0, none⟩ = some (.int .i64 x.b) from (h1.below hb).cells.1))
      clear h1
      generalize hmm : k * x.z = m at *
      have HMM := Lib.hid hmm
      clear hmm
      generalize x.b = b at *
      have hadd : IntKind.i64.wrap ((b : Int) + (m : Int)) = (b : Int) + (m : Int) := IntWalk.i64_in _ (by omega)
      by_cases he : (b : Int) + (m : Int) = a
      · rw [HE.out] at HAT
        have HAV := Lib.hid (HAT.out he)
        subst he
        clear hz hbz hm3
        go_wp2_with fail
        go_region_held3 (fun w' => w'.cell? ⟨q, 0, none⟩ = some (.int .i64 b))
          (first | exact HC.out _ H0.out | exact HC.out _ H1.out)
          ((go_at_call 36; (refine (Calls.mono HS.out ?_)); rintro e w1 ⟨rfl, hb⟩; have H1 := Lib.hid (H0.out.trans hb); clear hb))
        go_wp2_with fail
        go_ret
        exact ⟨by rw [HAV.out]; rfl, HB.out.1.trans (H1.out.mono HB.out.1.size)⟩
      · have he2 : ((b : Int) + (m : Int) == a) = false := by simpa using he
        clear hz hbz hm3
        go_wp2_with fail
        go_region_held3 (fun w' => w'.cell? ⟨q, 0, none⟩ = some (.int .i64 b))
          (first | exact HC.out _ H0.out | exact HC.out _ H1.out)
          ((go_at_call 36; (refine (Calls.mono HS.out ?_)); rintro e w1 ⟨rfl, hb⟩; have H1 := Lib.hid (H0.out.trans hb); clear hb))
        go_wp2_with fail
        go_roundw
        case rel =>
          refine ⟨k + 1, by go_num, by omega, fun j hj => ?_, HB.out.1.trans (H1.out.mono HB.out.1.size)⟩
          rcases Nat.lt_or_ge j k with e | e
          · exact HB.out.2 j e
          · obtain rfl : j = k := by omega
            rw [HMM.out, HE.out]
            exact he
        case measure => simp [intOf]; omega
    · obtain rfl : k = x.l.length := by omega
      have hn : slotO x a = none := by
        cases hs : slotO x a with
        | none => rfl
        | some j =>
          obtain ⟨e1, e2⟩ := slotO_some hs
          exact absurd e2 (HB.out.2 j e1)
      have HN := Lib.hid hn
      clear hlt hk hn
      go_wp2_with fail
      go_ret
      exact ⟨by rw [HN.out]; rfl, HB.out.1⟩
end
end Go.Proofs.YtknieebmcpgppaaDoor.Old
