/- Slabs of the new layout: walk over the free slots, for its row. -/
import Derived.Test.YtloflnachpjlgaaNewC
import Derived.Test.YtloflnachpjlgaaBitB
import Derived.Test.YtloflnachpjlgaaBitC
set_option linter.unusedSimpArgs false
namespace Go.Proofs.Ytloflnachpjlgaa.New
open Go.RowKit Go.Proofs.Ytloflnachpjlgaa.Aid Go.Proofs.Ytloflnachpjlgaa.Cell
/-- The slots of the list, from a place on. -/
def walkGo (x : Sn) (bs : List Int) : Nat → Int → List Nat → Option (List Nat)
  | 0, a, seen => if a = -1 then some seen else none
  | k + 1, a, seen => if a < 0 then none else match nextO x bs a.toNat with
    | none => none
    | some nx => if a.toNat ∈ seen then none else walkGo x bs k nx (seen ++ [a.toNat])
def listO (x : Sn) (bs : List Int) : Option (List Nat) := walkGo x bs x.cnt x.head []
def marks (n : Nat) (L : List Nat) : List Bool := L.foldl (fun r k => r.set k true) (List.replicate n false)
theorem fold_len : ∀ (L : List Nat) (r : List Bool), (L.foldl (fun r k => r.set k true) r).length = r.length
  | [], _ => rfl
  | v :: L, r => by rw [List.foldl_cons, fold_len L, List.length_set]
theorem marks_len (n : Nat) (L : List Nat) : (marks n L).length = n := by unfold marks; rw [fold_len, List.length_replicate]
theorem marks_set (n : Nat) (L : List Nat) (j : Nat) : (marks n L).set j true = marks n (L ++ [j]) := by
  unfold marks
  rw [List.foldl_append]
  rfl
theorem fold_get : ∀ (L : List Nat) (r : List Bool) (j : Nat), j < r.length → (L.foldl (fun r k => r.set k true) r).getD j false = (r.getD j false || decide (j ∈ L))
  | [], r, j, _ => by simp
  | v :: L, r, j, h => by
    rw [List.foldl_cons, fold_get L (r.set v true) j (by rw [List.length_set]; exact h)]
    by_cases e : v = j
    · subst e
      simp [List.getD_eq_getElem?_getD, h]
    · have e2 : ¬ j = v := fun e3 => e e3.symm
      simp [List.getD_eq_getElem?_getD, e, e2]
theorem marks_get {n j : Nat} (L : List Nat) (h : j < n) : (marks n L).getD j false = decide (j ∈ L) := by
  unfold marks
  rw [fold_get _ _ _ (by simpa using h)]
  have : (List.replicate n false).getD j false = false := by rw [List.getD_eq_getElem?_getD, List.getElem?_replicate]; split <;> rfl
  rw [this, Bool.false_or]
theorem marks_setB {n j : Nat} (L : List Nat) (h : j < n) : Bit.setB (marks n L) (j : Int) true = !decide (j ∈ L) := by
  unfold Bit.setB
  rw [Bit.inR_nat _ _ (by rw [marks_len]; exact h), Int.toNat_natCast, marks_get L h]
  simp
theorem marks_setL {n j : Nat} (L : List Nat) (h : j < n) : Bit.setL (marks n L) (j : Int) true = marks n (L ++ [j]) := by
  unfold Bit.setL
  rw [Bit.inR_nat _ _ (by rw [marks_len]; exact h), if_pos rfl, Int.toNat_natCast, marks_set]
theorem next_lt {x : Sn} {bs : List Int} {s : Nat} {nx : Int} (h : nextO x bs s = some nx) : -1 ≤ nx ∧ nx < x.n := by
  unfold nextO at h
  split at h
  · rename_i hc
    injection h with h
    subst h
    simp only [Bool.and_eq_true, decide_eq_true_eq] at hc
    refine ⟨by unfold nextOf; omega, hc.2.2.2⟩
  · cases h
theorem see_calls (w : World) (a : Int) : Calls Try.prog 90 #[.int .i64 a] w fun e w' => e = .returned (.tuple #[]) ∧ w = w' := by
  go_enter Try.func90, Try.ntmps90
  go_wp2_with fail
  go_end0
  exact ⟨rfl, rfl⟩
/-- What a walk for the row answers. -/
def RowIs (w : World) (n : Nat) (o : Option (List Nat)) (e : Ending) (w' : World) : Prop := match o with
  | none => e = .returned (.tuple #[.pointer none, .int .i64 10]) ∧ Below w.heap.size w w'
  | some L => ∃ rp rg rc, e = .returned (.tuple #[.pointer (some ⟨rp, 0, none⟩), .int .i64 0]) ∧ Bit.RowAt w' rp rg rc (marks n L) ∧ w.heap.size ≤ rp ∧ w.heap.size ≤ rg ∧ Below w.heap.size w w'
set_option maxHeartbeats 2000000 in
theorem walk_row (w : World) (p mp mg mc : Nat) (x : Sn) (bs : List Int) (h : SnP w p mp mg mc x bs) : Calls Try.prog 75 #[.pointer (some ⟨p, 0, none⟩), .func (.func 90) #[] #[]] w (RowIs w x.n (listO x bs)) := by
  have H := Lib.hid h
  have hm := h.ok.many.1
  have hct := h.ok.ct
  have hw0 : 0 < w.heap.size := by have := h.head.lt; omega
  obtain ⟨_, _, _, _, c4, _⟩ := h.cells
  have HHD := Lib.hid (And.intro h.ok.h1 h.ok.h2)
  clear h
  go_enter Try.func75, Try.ntmps75
  go_wp2_with fail
  refine (Bit.new_yes w x.n (by omega) hw0).mono ?_
  rintro e w1 ⟨rp, rg, rfl, hr, hr1, hg1, hb⟩
  have H1 := Lib.hid (And.intro hr (And.intro hr1 (And.intro hg1 hb)))
  obtain ⟨_, _, _, _, _, c5, c6⟩ := (H.out.below hb).cells
  clear hr hr1 hg1 hb c4
  go_wp2_with fail
  go_loopw [8, 27] (fun a i wr => ∃ (k : Nat) (at_ : Int) (seen : List Nat), i = .int .i64 k ∧ k ≤ x.cnt ∧ a = .int .i64 at_ ∧ -1 ≤ at_ ∧ at_ < x.n ∧ walkGo x bs (x.cnt - k) at_ seen = listO x bs ∧ Bit.RowAt wr rp rg (Bit.nwords x.n) (marks x.n seen) ∧ Kept [rg] w1 wr) (fun _ i _ => x.cnt - (intOf i).toNat)
  case atStart => exact ⟨0, x.head, [], rfl, by omega, rfl, HHD.out.1, HHD.out.2, rfl, H1.out.1, Kept.refl _ _⟩
  case round =>
    obtain ⟨k, at_, seen, rfl, hk, rfl, ha1, ha2, hgo, hr, hK⟩ := hrel
    have HB := Lib.hid (H1.out.2.2.2.trans (hK.below H1.out.2.2.2.size (by simp; exact H1.out.2.2.1)))
    have HR := Lib.hid (And.intro hr hK)
    clear hr hK c5 c6
    by_cases hlt : k < x.cnt
    · have hk0 : (0 : Int) ≤ (k : Int) := by omega
      have hk1 : (k : Int) < (x.cnt : Int) := by omega
      rw [show x.cnt - k = (x.cnt - (k + 1)) + 1 by omega] at hgo
      by_cases hneg : at_ < 0
      · have HGO := Lib.hid (show none = listO x bs from by rw [← hgo, walkGo, if_pos hneg])
        have HN := Lib.hid (next_out wr p mp mg mc x bs (H.out.below HB.out) at_ (.inl hneg))
        clear hgo
        go_wp2_with fail
        refine HN.out.mono ?_
        rintro e w2 ⟨rfl, hb⟩
        have H2 := Lib.hid (below_then HB.out hb)
        clear hb
        go_wp2_with fail
        go_ret2
        rw [← HGO.out]
        exact ⟨rfl, H2.out⟩
      · obtain ⟨s, rfl⟩ := Int.eq_ofNat_of_zero_le (show 0 ≤ at_ by omega)
        have hs : s < x.n := by omega
        have HN := Lib.hid (next_in wr p mp mg mc x bs (H.out.below HB.out) s hs)
        rw [walkGo, if_neg hneg, Int.toNat_natCast] at hgo
        cases hnx : nextO x bs s with
        | none =>
          rw [hnx] at hgo HN
          have HGO := Lib.hid (show none = listO x bs from hgo)
          clear hgo hnx hneg ha1
          go_wp2_with fail
          refine HN.out.mono ?_
          rintro e w2 ⟨v, rfl, _, hb⟩
          have H2 := Lib.hid (below_then HB.out hb)
          rw [show (none : Option Int).isSome = false from rfl]
          clear hb
          go_wp2_with fail
          go_ret2
          rw [← HGO.out]
          exact ⟨rfl, H2.out⟩
        | some nx =>
          have hnl := next_lt hnx
          rw [hnx] at hgo HN
          have hgo2 : (if s ∈ seen then none else walkGo x bs (x.cnt - (k + 1)) nx (seen ++ [s])) = listO x bs := hgo
          have HNL := Lib.hid hnl
          clear hgo hnx hneg ha1 hnl
          go_wp2_with fail
          refine HN.out.mono ?_
          rintro e w2 ⟨v, rfl, hv, hb⟩
          obtain rfl := hv nx rfl
          have H2 := Lib.hid (And.intro (HR.out.1.below hb) (HR.out.2.and_below hb))
          have HB2 := Lib.hid (below_then HB.out hb)
          rw [show (some v).isSome = true from rfl]
          clear hb HN hv
          have HST := Lib.hid (Bit.set_calls w2 rp rg (Bit.nwords x.n) (marks x.n seen) (s : Int) H2.out.1)
          unfold Bit.PutGives at HST
          rw [marks_setB seen hs, marks_setL seen hs] at HST
          by_cases hin : s ∈ seen
          · rw [if_pos hin] at hgo2
            rw [show decide (s ∈ seen) = true by simpa using hin] at HST
            have HGO := Lib.hid hgo2
            clear hgo2 hin
            go_wp2_with fail
            refine HST.out.mono ?_
            rintro e w3 ⟨rfl, _, hK3⟩
            have H3 := Lib.hid (HB2.out.trans (hK3.below HB2.out.size (by simp; exact H1.out.2.2.1)))
            clear hK3
            go_wp2_with fail
            go_ret2
            rw [← HGO.out]
            exact ⟨rfl, H3.out⟩
          · rw [if_neg hin] at hgo2
            rw [show decide (s ∈ seen) = false by simpa using hin] at HST
            have HGO := Lib.hid hgo2
            clear hgo2 hin
            go_wp2_with fail
            refine HST.out.mono ?_
            rintro e w3 ⟨rfl, hr3, hK3⟩
            have H3 := Lib.hid (And.intro hr3 (H2.out.2.trans hK3))
            clear hr3 hK3
            go_wp2_with fail
            refine (see_calls w3 (s : Int)).mono ?_
            rintro e w4 ⟨rfl, rfl⟩
            go_wp2_with fail
            go_roundw
            case rel => exact ⟨k + 1, v, seen ++ [s], by go_num, by omega, rfl, HNL.out.1, HNL.out.2, HGO.out, H3.out.1, H3.out.2⟩
            case measure => simp [intOf]; omega
    · obtain rfl : k = x.cnt := by omega
      rw [Nat.sub_self, walkGo] at hgo
      by_cases he : at_ = -1
      · subst he
        rw [if_pos rfl] at hgo
        have HGO := Lib.hid hgo
        clear hgo hlt hk ha1 ha2
        go_wp2_with fail
        go_ret2
        rw [← HGO.out]
        exact ⟨rp, rg, _, rfl, HR.out.1, H1.out.2.1, H1.out.2.2.1, HB.out⟩
      · rw [if_neg he] at hgo
        have HGO := Lib.hid hgo
        have hne : (at_ != -1) = true := by simpa using he
        clear hgo hlt hk ha1 ha2 he
        go_wp2_with fail
        go_ret2
        rw [← HGO.out]
        exact ⟨rfl, HB.out⟩
end Go.Proofs.Ytloflnachpjlgaa.New
