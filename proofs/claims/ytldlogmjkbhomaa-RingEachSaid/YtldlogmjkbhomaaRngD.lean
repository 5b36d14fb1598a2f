/- The contracts of package ring's put, Push, Append, Remove (all ways) and Pop. -/
import Derived.Test.YtldlogmjkbhomaaRngC
namespace Go.Proofs.Ytldlogmjkbhomaa.Rng
open Go.RowKit Go.Proofs.Ytldlogmjkbhomaa.Aid
/-! ### plain -/
theorem lk_a_none {N L : Nat} {s : RgS} (h : OkG N L s) {x : Nat} : (lk s L x).a = -1 ↔ ∀ l, x ∉ s l := by
  constructor
  · intro e l hl
    obtain ⟨A, B, e2⟩ := List.append_of_mem hl
    rw [lk_at h e2] at e
    simp only at e
    omega
  · intro hn
    rw [lk_none hn]
def inP (n : Nat) (i : Int) : Bool := decide (0 ≤ i ∧ i < n)
def putV (s : RgS) (N L : Nat) (l x : Int) : Int := if inP L l = true ∧ inP N x = true then (if (lk s L x.toNat).a = -1 then 0 else 15) else 11
def putS (s : RgS) (N L : Nat) (l x : Int) (first : Bool) : RgS := if putV s N L l x = 0 then updL s l.toNat (if first = true then x.toNat :: s l.toNat else s l.toNat ++ [x.toNat]) else s
def remV (s : RgS) (N L : Nat) (x : Int) : Int := if inP N x = true then (if (lk s L x.toNat).a = -1 then 16 else 0) else 11
def remS (s : RgS) (N L : Nat) (x : Int) : RgS := if remV s N L x = 0 then updL s (lk s L x.toNat).a.toNat ((s (lk s L x.toNat).a.toNat).erase x.toNat) else s
theorem inP_nat {n : Nat} {i : Int} (h : inP n i = true) : ∃ k : Nat, i = k ∧ k < n := by
  unfold inP at h
  simp only [decide_eq_true_eq] at h
  obtain ⟨k, rfl⟩ := Int.eq_ofNat_of_zero_le h.1
  exact ⟨k, rfl, by omega⟩
theorem inP_no {n : Nat} {i : Int} (h : inP n i = false) : ¬ (0 ≤ i ∧ i < n) := by
  unfold inP at h
  simpa using h
theorem inP_yes {n k : Nat} (h : k < n) : inP n (k : Int) = true := by
  unfold inP
  simp
  omega
section
variable {w w' : World} {p N L : Nat} {F : List Nat} {s s' : RgS} {A : Option Addr} {gi ci gl cl : Nat}
/-- What a call that writes leaves. -/
def Wrote (p : Nat) (F : List Nat) (N L : Nat) (s' : RgS) (w w' : World) : Prop := RngAt w' p F N L s' ∧ Kept F w w'
theorem wrote_of (h : Parts w p F N L s A gi ci gl cl) (_hN : 0 < N) (hok : OkG N L s') (r : Parts w' p F N L s' A gi ci gl cl ∧ Kept [gi, gl] w w') : Wrote p F N L s' w w' := by
  obtain ⟨_, _, h3, _⟩ := h.items (Nat.zero_le _)
  refine ⟨⟨hok, A, gi, ci, gl, cl, r.1⟩, r.2.mono fun x hx => ?_⟩
  simp at hx
  rcases hx with rfl | rfl
  · exact h3
  · exact h.ins.2
theorem wrote_same (h : RngAt w p F N L s) : Wrote p F N L s w w := ⟨h, Kept.refl _ _⟩
end
section
variable (w : World) (p : Nat) (F : List Nat) (N L : Nat) (s : RgS) (A : Option Addr) (gi ci gl cl : Nat)
theorem join_front_calls (l x : Nat) (h : Parts w p F N L s A gi ci gl cl) (hok : OkG N L s) (hl : l < L) (hx : x < N) (hxn : ∀ k, x ∉ s k) :
    Calls Try.prog 109 #[.pointer (some ⟨p, 0, none⟩), .int .i64 l, .int .i64 (-1), .int .i64 x, .int .i64 (headI (s l))] w fun e w' => (∃ v, e = .returned v) ∧ Parts w' p F N L (updL s l (x :: s l)) A gi ci gl cl ∧ Kept [gi, gl] w w' := by
  by_cases hB : s l = []
  · rw [hB]
    exact join_only w p F N L s A gi ci gl cl l x h hok hl hx hxn hB
  · obtain ⟨r, hr, _⟩ := headI_nat hB
    rw [hr]
    exact join_front w p F N L s A gi ci gl cl l x r (s l) h hok hl hx hxn rfl hr
theorem join_back_calls (l x : Nat) (h : Parts w p F N L s A gi ci gl cl) (hok : OkG N L s) (hl : l < L) (hx : x < N) (hxn : ∀ k, x ∉ s k) :
    Calls Try.prog 109 #[.pointer (some ⟨p, 0, none⟩), .int .i64 l, .int .i64 (lastI (s l)), .int .i64 x, .int .i64 (-1)] w fun e w' => (∃ v, e = .returned v) ∧ Parts w' p F N L (updL s l (s l ++ [x])) A gi ci gl cl ∧ Kept [gi, gl] w w' := by
  by_cases hB : s l = []
  · rw [hB]
    exact join_only w p F N L s A gi ci gl cl l x h hok hl hx hxn hB
  · obtain ⟨q, hq, _⟩ := lastI_nat hB
    rw [hq]
    exact join_back w p F N L s A gi ci gl cl l x q (s l) h hok hl hx hxn (by rw [List.append_nil]) hq
end
section
variable (w : World) (p : Nat) (F : List Nat) (N L : Nat) (s : RgS)
theorem put_calls (l x : Int) (b : Bool) (h : RngAt w p F N L s) :
    Calls Try.prog 95 #[.pointer (some ⟨p, 0, none⟩), .int .i64 l, .int .i64 x, .bool b] w fun e w' => e = .returned (.int .i64 (putV s N L l x)) ∧ Wrote p F N L (putS s N L l x b) w w' := by
  have HS := Lib.hid (show putV s N L l x ≠ 0 → putS s N L l x b = s from fun h => by unfold putS; rw [if_neg h])
  have HSy := Lib.hid (show putV s N L l x = 0 → putS s N L l x b = updL s l.toNat (if b = true then x.toNat :: s l.toNat else s l.toNat ++ [x.toNat]) from fun h => by unfold putS; rw [if_pos h])
  obtain ⟨A, gi, ci, gl, cl, hP⟩ := h.ex
  have HL := Lib.hid (list_calls w p F N L s A gi ci gl cl l hP)
  have HI := Lib.hid (item_calls w p F N L s A gi ci gl cl x hP h.ok.n)
  have HR := Lib.hid h
  have HP := Lib.hid hP
  cases hl : inP L l with
  | false =>
    rw [atP_out (inP_no hl)] at HL
    have hv : putV s N L l x = 11 := by unfold putV; rw [if_neg (by simp [hl])]
    rw [HS.out (by rw [hv]; decide), hv]
    unfold atP at HI
    split at HI
    all_goals
      clear h hP hv hl
      go_enter Try.func95, Try.ntmps95
      go_wp2_with fail
      refine HL.out.mono ?_
      rintro e w1 ⟨rfl, rfl⟩
      go_wp2_with fail
      refine HI.out.mono ?_
      rintro e w1 ⟨rfl, rfl⟩
      go_wp2_with fail
      go_ret
      exact ⟨rfl, wrote_same HR.out⟩
  | true =>
    obtain ⟨l, rfl, hlL⟩ := inP_nat hl
    rw [atP_in hlL] at HL
    cases hx : inP N x with
    | false =>
      rw [atP_out (inP_no hx)] at HI
      have hv : putV s N L l x = 11 := by unfold putV; rw [if_neg (by simp [hx])]
      rw [HS.out (by rw [hv]; decide), hv]
      clear h hP hv hl hx
      go_enter Try.func95, Try.ntmps95
      go_wp2_with fail
      refine HL.out.mono ?_
      rintro e w1 ⟨rfl, rfl⟩
      go_wp2_with fail
      refine HI.out.mono ?_
      rintro e w1 ⟨rfl, rfl⟩
      go_wp2_with fail
      go_ret
      exact ⟨rfl, wrote_same HR.out⟩
    | true =>
      obtain ⟨x, rfl, hxN⟩ := inP_nat hx
      rw [atP_in hxN] at HI
      obtain ⟨x0, x1, x2⟩ := hP.item hxN
      obtain ⟨l0, l1, l2⟩ := hP.list hlL
      by_cases ha : (lk s L x).a = -1
      · have hv : putV s N L l x = 0 := by unfold putV; rw [if_pos ⟨hl, hx⟩, Int.toNat_natCast, if_pos ha]
        rw [HSy.out hv, hv, Int.toNat_natCast, Int.toNat_natCast]
        have hxn := (lk_a_none h.ok).1 ha
        rw [ha] at x0
        have hN : 0 < N := by omega
        cases b with
        | true =>
          rw [if_pos rfl]
          have HJ := Lib.hid (join_front_calls w p F N L s A gi ci gl cl l x hP h.ok hlL hxN hxn)
          have HOk := Lib.hid (ok_ins (A := []) (B := s l) h.ok rfl hlL hxn hxN)
          clear h hP hv hl hx ha hxn
          go_enter Try.func95, Try.ntmps95
          go_wp2_with fail
          refine HL.out.mono ?_
          rintro e w1 ⟨rfl, rfl⟩
          go_wp2_with fail
          refine HI.out.mono ?_
          rintro e w1 ⟨rfl, rfl⟩
          go_wp2_with fail
          refine HJ.out.mono ?_
          rintro e w1 ⟨⟨v, rfl⟩, hW⟩
          have HW := Lib.hid (wrote_of HP.out hN HOk.out hW)
          clear hW
          go_wp2_with fail
          go_ret
          exact ⟨rfl, HW.out⟩
        | false =>
          rw [if_neg (by decide)]
          have HJ := Lib.hid (join_back_calls w p F N L s A gi ci gl cl l x hP h.ok hlL hxN hxn)
          have HOk := Lib.hid (ok_ins (A := s l) (B := []) h.ok (by rw [List.append_nil]) hlL hxn hxN)
          clear h hP hv hl hx ha hxn
          go_enter Try.func95, Try.ntmps95
          go_wp2_with fail
          refine HL.out.mono ?_
          rintro e w1 ⟨rfl, rfl⟩
          go_wp2_with fail
          refine HI.out.mono ?_
          rintro e w1 ⟨rfl, rfl⟩
          go_wp2_with fail
          refine HJ.out.mono ?_
          rintro e w1 ⟨⟨v, rfl⟩, hW⟩
          have HW := Lib.hid (wrote_of HP.out hN HOk.out hW)
          clear hW
          go_wp2_with fail
          go_ret
          exact ⟨rfl, HW.out⟩
      · have hv : putV s N L l x = 15 := by unfold putV; rw [if_pos ⟨hl, hx⟩, Int.toNat_natCast, if_neg ha]
        rw [HS.out (by rw [hv]; decide), hv]
        have ha' : ((lk s L x).a != -1) = true := by simpa using ha
        generalize (lk s L x).a = xa at x0 ha'
        clear h hP hv hl hx ha
        go_enter Try.func95, Try.ntmps95
        go_wp2_with fail
        refine HL.out.mono ?_
        rintro e w1 ⟨rfl, rfl⟩
        go_wp2_with fail
        refine HI.out.mono ?_
        rintro e w1 ⟨rfl, rfl⟩
        go_wp2_with fail
        go_ret
        exact ⟨rfl, wrote_same HR.out⟩
theorem push_calls (l x : Int) (h : RngAt w p F N L s) :
    Calls Try.prog 66 #[.pointer (some ⟨p, 0, none⟩), .int .i64 l, .int .i64 x] w fun e w' => e = .returned (.int .i64 (putV s N L l x)) ∧ Wrote p F N L (putS s N L l x true) w w' := by
  have HP := Lib.hid (put_calls w p F N L s l x true h)
  clear h
  go_enter Try.func66, Try.ntmps66
  go_wp2_with fail
  refine HP.out.mono ?_
  rintro e w1 ⟨rfl, hW⟩
  have HW := Lib.hid hW
  clear hW
  go_wp2_with fail
  go_ret
  exact ⟨rfl, HW.out⟩
theorem append_calls (l x : Int) (h : RngAt w p F N L s) :
    Calls Try.prog 67 #[.pointer (some ⟨p, 0, none⟩), .int .i64 l, .int .i64 x] w fun e w' => e = .returned (.int .i64 (putV s N L l x)) ∧ Wrote p F N L (putS s N L l x false) w w' := by
  have HP := Lib.hid (put_calls w p F N L s l x false h)
  clear h
  go_enter Try.func67, Try.ntmps67
  go_wp2_with fail
  refine HP.out.mono ?_
  rintro e w1 ⟨rfl, hW⟩
  have HW := Lib.hid hW
  clear hW
  go_wp2_with fail
  go_ret
  exact ⟨rfl, HW.out⟩
theorem remove_calls (x : Int) (h : RngAt w p F N L s) :
    Calls Try.prog 69 #[.pointer (some ⟨p, 0, none⟩), .int .i64 x] w fun e w' => e = .returned (.int .i64 (remV s N L x)) ∧ Wrote p F N L (remS s N L x) w w' := by
  obtain ⟨A, gi, ci, gl, cl, hP⟩ := h.ex
  have HI := Lib.hid (item_calls w p F N L s A gi ci gl cl x hP h.ok.n)
  have HR := Lib.hid h
  cases hx : inP N x with
  | false =>
    rw [atP_out (inP_no hx)] at HI
    have hv : remV s N L x = 11 := by unfold remV; rw [if_neg (by simp [hx])]
    have hs : remS s N L x = s := by unfold remS; rw [hv, if_neg (by decide)]
    rw [hv, hs]
    clear h hP hv hx hs
    go_enter Try.func69, Try.ntmps69
    go_wp2_with fail
    refine HI.out.mono ?_
    rintro e w1 ⟨rfl, rfl⟩
    go_wp2_with fail
    go_ret
    exact ⟨rfl, wrote_same HR.out⟩
  | true =>
    obtain ⟨x, rfl, hxN⟩ := inP_nat hx
    rw [atP_in hxN] at HI
    rcases where_is s x with ⟨l, hl⟩ | hno
    · obtain ⟨A0, B0, e⟩ := List.append_of_mem hl
      have hlk := lk_at h.ok e
      have hv : remV s N L x = 0 := by unfold remV; rw [if_pos hx, Int.toNat_natCast, hlk, if_neg (by simp only; omega)]
      have hxA : x ∉ A0 := fun hm => by
        have := h.ok.nd l
        rw [e, List.nodup_append] at this
        exact this.2.2 x hm x (by simp) rfl
      have hs : remS s N L x = updL s l (A0 ++ B0) := by
        unfold remS
        rw [if_pos hv, Int.toNat_natCast, hlk]
        simp only [Int.toNat_natCast]
        rw [e, List.erase_append_right _ hxA, List.erase_cons_head]
      rw [hv, hs]
      have hN : 0 < N := by omega
      have hok := ok_del h.ok e
      by_cases hA : A0 = []
      · subst hA
        by_cases hB : B0 = []
        · subst hB
          exact (remove_only w p F N L s A gi ci gl cl l x hP h.ok e).mono fun r w' hr => ⟨hr.1, wrote_of hP hN hok hr.2⟩
        · obtain ⟨r, hr, _⟩ := headI_nat hB
          exact (remove_front w p F N L s A gi ci gl cl l x r B0 hP h.ok e hr).mono fun r w' hr => ⟨hr.1, wrote_of hP hN hok hr.2⟩
      · obtain ⟨q, hq, _⟩ := lastI_nat hA
        by_cases hB : B0 = []
        · subst hB
          exact (remove_back w p F N L s A gi ci gl cl l x q A0 hP h.ok e hq).mono fun r w' hr => ⟨hr.1, wrote_of hP hN hok hr.2⟩
        · obtain ⟨r, hr, _⟩ := headI_nat hB
          exact (remove_both w p F N L s A gi ci gl cl l x q r A0 B0 hP h.ok e hq hr).mono fun r w' hr => ⟨hr.1, wrote_of hP hN hok hr.2⟩
    · have ha := lk_none (L := L) hno
      have hv : remV s N L x = 16 := by unfold remV; rw [if_pos hx, Int.toNat_natCast, ha, if_pos rfl]
      have hs : remS s N L x = s := by unfold remS; rw [hv, if_neg (by decide)]
      obtain ⟨x0, x1, x2⟩ := hP.item hxN
      rw [ha] at x0
      rw [hv, hs]
      clear h hP hv hx hs ha
      go_enter Try.func69, Try.ntmps69
      go_wp2_with fail
      refine HI.out.mono ?_
      rintro e w1 ⟨rfl, rfl⟩
      go_wp2_with fail
      go_ret
      exact ⟨rfl, wrote_same HR.out⟩
def popS (s : RgS) (N L : Nat) (l : Int) : RgS := if lsI s L l = [] then s else remS s N L (headI (lsI s L l))
theorem pop_calls (l : Int) (h : RngAt w p F N L s) :
    Calls Try.prog 68 #[.pointer (some ⟨p, 0, none⟩), .int .i64 l] w fun e w' => e = .returned (.tuple #[.int .i64 (headI (lsI s L l)), .bool (headI (lsI s L l) != -1)]) ∧ Wrote p F N L (popS s N L l) w w' := by
  have HF := Lib.hid (first_calls w p F N L s l h)
  have HR := Lib.hid h
  unfold popS
  by_cases hn : lsI s L l = []
  · rw [if_pos hn]
    rw [hn] at HF ⊢
    rw [show headI ([] : List Nat) = -1 from rfl] at HF ⊢
    clear h hn
    go_enter Try.func68, Try.ntmps68
    go_wp2_with fail
    refine HF.out.mono ?_
    rintro e w1 ⟨rfl, rfl⟩
    go_wp2_with fail
    go_ret2
    exact ⟨rfl, wrote_same HR.out⟩
  · rw [if_neg hn]
    have hne : ¬ headI (lsI s L l) = -1 := fun e => hn (headI_nil.1 e)
    generalize headI (lsI s L l) = x at HF hne ⊢
    have HRm := Lib.hid (remove_calls w p F N L s x h)
    have h1 : (x == -1) = false := beq_eq_false_iff_ne.2 hne
    have h2 : (x != -1) = true := by simpa using hne
    rw [h2]
    clear h hn hne h2
    go_enter Try.func68, Try.ntmps68
    go_wp2_with fail
    refine HF.out.mono ?_
    rintro e w1 ⟨rfl, rfl⟩
    go_wp2_with fail
    refine HRm.out.mono ?_
    rintro e w1 ⟨rfl, hW⟩
    have HW := Lib.hid hW
    clear hW
    go_wp2_with fail
    go_ret2
    exact ⟨rfl, HW.out⟩
end
end Go.Proofs.Ytldlogmjkbhomaa.Rng
