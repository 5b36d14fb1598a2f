/- The contract of package underpinref08's Take. -/
import Derived.Test.YtldlogmjkbhomaaSpaPb
import Derived.Test.YtldlogmjkbhomaaSpaK
set_option linter.unusedSimpArgs false
namespace Go.Proofs.Ytldlogmjkbhomaa.Spa
open Go.RowKit Go.Proofs.Ytldlogmjkbhomaa.Aid
theorem vals_set (l : List Int) (i : Nat) (v : Int) : (vals l).set i (.int .i64 v) = vals (l.set i v) := by unfold vals; rw [List.map_set]
theorem rep_snoc (k : Nat) (v : Int) : List.replicate k v ++ [v] = List.replicate (k + 1) v := by rw [List.replicate_succ']
section
variable (w : World) (q : Nat) (G : List Nat) (P : Nat) (xs : List Rn) (h : RfAt w q G P xs)
include h
set_option maxHeartbeats 4000000 in
theorem rtake_calls (n a : Int) : Calls Try.prog 52 #[.pointer (some ⟨q, 0, none⟩), .int .i64 n, .int .i64 a] w fun e w' => e = .returned (.tuple #[.int .i64 (takeAt n a xs), .int .i64 (takeE n a xs)]) ∧ RfAt w' q G P (takeS n a xs) ∧ Kept G w w' := by
  have HAl := Lib.hid (align_calls w a)
  have HH := Lib.hid h
  cases hr : rightR n a with
  | false =>
    have hb : bestA n a xs = none := by unfold bestA; rw [hr]; rfl
    obtain ⟨e1, e2, e3⟩ := takeS_none hb
    rw [hr, if_neg (by simp)] at e3
    rw [e1, e2, e3]
    clear hb e1 e2 e3
    unfold rightR at hr
    by_cases h1 : 1 ≤ n
    · rw [decide_eq_true h1, Bool.true_and] at hr
      rw [hr] at HAl
      clear hr h
      go_enter Try.func52, Try.ntmps52
      go_wp2_with fail
      refine HAl.out.mono ?_
      rintro e w1 ⟨rfl, rfl⟩
      go_wp2_with fail
      go_ret2
      exact ⟨rfl, HH.out, Kept.refl _ _⟩
    · clear hr h HAl
      go_enter Try.func52, Try.ntmps52
      go_wp2_with fail
      go_ret2
      exact ⟨rfl, HH.out, Kept.refl _ _⟩
  | true =>
    have hba : bestA n a xs = bestT n a.toNat xs xs.length := by unfold bestA; rw [if_pos hr]
    have hr2 := hr
    unfold rightR at hr2
    simp only [Bool.and_eq_true, decide_eq_true_eq] at hr2
    obtain ⟨h1, hpa, h4a⟩ := hr2
    have HPl := Lib.hid (rplace_calls w q G P xs h n a hpa h4a)
    rw [← hba] at HPl
    rw [hpa, decide_eq_true h4a] at HAl
    cases hb : bestA n a xs with
    | none =>
      obtain ⟨e1, e2, e3⟩ := takeS_none hb
      rw [hr, if_pos rfl] at e3
      rw [e1, e2, e3]
      rw [hb, show plI a.toNat xs none = -1 from rfl] at HPl
      clear hb e1 e2 e3 hba hr h hpa h4a
      go_enter Try.func52, Try.ntmps52
      go_wp2_with fail
      refine HAl.out.mono ?_
      rintro e w1 ⟨rfl, rfl⟩
      go_wp2_with fail
      refine HPl.out.mono ?_
      rintro e w1 ⟨rfl, hb1⟩
      have HB1 := Lib.hid hb1
      clear hb1
      go_wp2_with fail
      go_ret2
      exact ⟨rfl, HH.out.below HB1.out, Kept.of_below HB1.out _⟩
    | some j =>
      obtain ⟨q1, q2, q3, q4, q5, q6, q7⟩ := best_facts h.ok hb
      have e1 : takeAt n a xs = ((firstR (xs.getD j r0) a.toNat : Nat) : Int) := by unfold takeAt; rw [hb]
      have e2 := (takeE_some hb).1
      have HPT := Lib.hid (pages_takeX h.ok hb)
      have HTO := Lib.hid (take_ok h.ok n a)
      have HTX := Lib.hid (show takeS n a xs = takeX xs j n.toNat (firstR (xs.getD j r0) a.toNat) from by unfold takeS; rw [hb])
      rw [hb, show plI a.toNat xs (some j) = ((firstR (xs.getD j r0) a.toNat : Nat) : Int) from rfl] at HPl
      rw [e1, e2]
      have hPl := pages_all h.ok
      have hP4 := h.ok.n
      obtain ⟨pb, hP⟩ := h.ex
      have hfP : firstR (xs.getD j r0) a.toNat + n.toNat ≤ P := by omega
      clear hb e1 e2 hba hr h hpa h4a q1 q4 q5 q6 q7
      generalize firstR (xs.getD j r0) a.toNat = f at *
      obtain ⟨m, rfl⟩ := Int.eq_ofNat_of_zero_le (show 0 ≤ n by omega)
      rw [Int.toNat_natCast] at hfP HPT HTX
      have HPx := Lib.hid hP
      clear hP
      go_enter Try.func52, Try.ntmps52
      go_wp2_with fail
      refine HAl.out.mono ?_
      rintro e w1 ⟨rfl, rfl⟩
      go_wp2_with fail
      refine HPl.out.mono ?_
      rintro e w1 ⟨rfl, hb1⟩
      have HB1 := Lib.hid hb1
      clear hb1
      have hf0 : (0 : Int) ≤ (f : Int) := by omega
      go_wp2_with fail
      go_loopw [9] (fun i wr => ∃ k : Nat, i = .int .i64 ((f + k : Nat) : Int) ∧ k ≤ m ∧ Row wr IT pb P (vals (lay (pagesOf xs) f (List.replicate k ((f + 1 : Nat) : Int)))) ∧ Kept [pb] w1 wr) (fun i _ => f + m - (intOf i).toNat)
      case atStart => exact ⟨0, by rw [Nat.add_zero], by omega, by rw [List.replicate_zero, lay_nil]; exact HPx.out.row.below HB1.out, Kept.refl _ _⟩
      case round =>
        obtain ⟨k, rfl, hk, hR, hK⟩ := hrel
        have HR := Lib.hid (And.intro hR hK)
        clear hR hK
        by_cases hlt : k < m
        · have hh := (HPx.out.head.below HB1.out).kept HR.out.2 (by have := HPx.out.ne; simpa using this)
          have c0 := hh.cell (o := 0) rfl
          have hst := HR.out.1.store (f + k) (.int .i64 ((f + 1 : Nat) : Int))
          rw [vals_set] at hst
          have hls := lay_set (pagesOf xs) (List.replicate k ((f + 1 : Nat) : Int)) f ((f + 1 : Nat) : Int) (by rw [List.length_replicate]; omega)
          rw [List.length_replicate, rep_snoc] at hls
          rw [hls] at hst
          have HS := Lib.hid (And.intro hst (HR.out.2.setCell (p := ⟨pb, f + k, none⟩) (.inl (by simp)) (.int .i64 ((f + 1 : Nat) : Int))))
          have hll : (lay (pagesOf xs) f (List.replicate k ((f + 1 : Nat) : Int))).length = P := by rw [lay_len _ _ _ (by rw [List.length_replicate]; omega)]; omega
          obtain ⟨old, hold⟩ : ∃ old, (lay (pagesOf xs) f (List.replicate k ((f + 1 : Nat) : Int)))[f + k]? = some old := ⟨_, List.getElem?_eq_getElem (show f + k < _ by rw [hll]; omega)⟩
          have cx := row_at HR.out.1 hold
          have cf := HR.out.1.free (f + k)
          clear hh hst hls hll hold
          have hv : ((f + 1 : Nat) : Int) = (f : Int) + 1 := by omega
          rw [hv] at HS
          have hi0 : (0 : Int) ≤ (f : Int) + (k : Int) := by omega
          have hi1 : (f : Int) + (k : Int) < (P : Int) := by omega
          have hi2 : (f : Int) + (k : Int) < (f : Int) + (m : Int) := by omega
          go_wp2_with fail
          go_roundw
          case rel => exact ⟨k + 1, by go_num, by omega, by rw [hv]; exact HS.out.1, HS.out.2⟩
          case measure => simp [intOf]; omega
        · obtain rfl : k = m := by omega
          have hi2 : ¬ (((f + k : Nat) : Int) < (f : Int) + (k : Int)) := by omega
          go_wp2_with fail
          go_ret2
          refine ⟨rfl, ⟨HTO.out, pb, ?_⟩, ?_⟩
          · have hb := HB1.out
            have hh := (HPx.out.head.below hb).kept HR.out.2 (by have := HPx.out.ne; simpa using this)
            refine ⟨hh, ?_, HPx.out.ins, HPx.out.ne, fun x hx => ?_⟩
            · rw [HTX.out, HPT.out]
              exact HR.out.1
            · have := HPx.out.flt x hx
              have := hb.size
              have := HR.out.2.size
              omega
          · exact (Kept.of_below HB1.out G).trans (HR.out.2.mono fun x hx => by simp at hx; rw [hx]; exact HPx.out.ins.2)
end
end Go.Proofs.Ytldlogmjkbhomaa.Spa
