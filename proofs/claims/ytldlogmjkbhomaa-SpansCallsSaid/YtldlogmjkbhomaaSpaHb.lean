/- The contract of package underpinref08's Give. -/
import Derived.Test.YtldlogmjkbhomaaSpaTb
import Derived.Test.YtldlogmjkbhomaaSpaGb
set_option linter.unusedSimpArgs false
namespace Go.Proofs.Ytldlogmjkbhomaa.Spa
open Go.RowKit Go.Proofs.Ytldlogmjkbhomaa.Aid
section
variable (w : World) (q : Nat) (G : List Nat) (P : Nat) (xs : List Rn) (h : RfAt w q G P xs)
include h
theorem rgive_out (page : Int) (hp : page < 0 ∨ (P : Int) ≤ page) : Calls Try.prog 80 #[.pointer (some ⟨q, 0, none⟩), .int .i64 page] w fun e w' => e = .returned (.tuple #[.int .i64 (giveN page xs), .int .i64 (giveE page xs)]) ∧ RfAt w' q G P (giveS page xs) ∧ Kept G w w' := by
  have HH := Lib.hid h
  obtain ⟨g1, g2, g3⟩ := giveE_none (findT_out h.ok hp)
  rw [g1, g2, g3]
  obtain ⟨pb, hP⟩ := h.ex
  have c0 := hP.head.cell (o := 0) rfl
  clear g1 g2 g3 h hP
  by_cases h0 : page < 0
  · clear hp
    go_enter Try.func80, Try.ntmps80
    go_wp2_with fail
    go_ret2
    exact ⟨rfl, HH.out, Kept.refl _ _⟩
  · have h1 : (P : Int) ≤ page := by omega
    clear hp
    go_enter Try.func80, Try.ntmps80
    go_wp2_with fail
    go_ret2
    exact ⟨rfl, HH.out, Kept.refl _ _⟩
set_option maxHeartbeats 4000000 in
set_option maxRecDepth 100000 in
theorem rgive_in (i : Nat) (hi : i < P) : Calls Try.prog 80 #[.pointer (some ⟨q, 0, none⟩), .int .i64 (i : Nat)] w fun e w' => e = .returned (.tuple #[.int .i64 (giveN i xs), .int .i64 (giveE i xs)]) ∧ RfAt w' q G P (giveS i xs) ∧ Kept G w w' := by
  have HH := Lib.hid h
  obtain ⟨v, hv, v0, v1, hst⟩ := give_start h.ok hi
  have hP4 := h.ok.n
  have hPl := pages_all h.ok
  have HOK := Lib.hid h.ok
  obtain ⟨pb, hP⟩ := h.ex
  have HPx := Lib.hid hP
  have c0 : w.cell? ⟨q, 0, none⟩ = some (.slice (some ⟨pb, 0, none⟩) P P) := hP.head.cell (o := 0) rfl
  have cv := row_at hP.row hv
  have hi0 : (0 : Int) ≤ (i : Int) := by omega
  have hi1 : (i : Int) < (P : Int) := by omega
  clear h hP hv
  rcases hst with ⟨hv, k, hf⟩ | ⟨hv, hf⟩
  · obtain ⟨g1, g2, g3⟩ := giveE_some hf
    obtain ⟨r1, r2, r3, r4, r5⟩ := give_run HOK.out hf
    have HGS := Lib.hid (And.intro g3 (And.intro (pages_give HOK.out (findT_some hf).1) (give_ok HOK.out (findT_some hf).1)))
    rw [r1] at HGS
    rw [g1, g2]
    have HR4 := Lib.hid (And.intro r4 r5)
    clear hf g1 g2 g3 r1 r4 r5
    generalize (xs.getD k r0).n = n at *
    subst hv
    go_enter Try.func80, Try.ntmps80
    go_wp2_with fail
    go_loopw [6, 7] (fun cn iv wr => ∃ k : Nat, cn = .int .i64 k ∧ k ≤ n ∧ iv = .int .i64 ((i + k : Nat) : Int) ∧ Row wr IT pb P (vals (lay (pagesOf xs) i (List.replicate k 0))) ∧ Kept [pb] w wr) (fun _ iv _ => P - (intOf iv).toNat)
    case atStart => exact ⟨0, rfl, by omega, by rw [Nat.add_zero], by rw [List.replicate_zero, lay_nil]; exact HPx.out.row, Kept.refl _ _⟩
    case round =>
      obtain ⟨k, rfl, hk, rfl, hR, hK⟩ := hrel
      have HR := Lib.hid (And.intro hR hK)
      have c0 : wr.cell? ⟨q, 0, none⟩ = some (.slice (some ⟨pb, 0, none⟩) P P) := (HPx.out.head.kept hK (by have := HPx.out.ne; simpa using this)).cell (o := 0) rfl
      clear hR hK
      have hll : i + (List.replicate k (0 : Int)).length ≤ (pagesOf xs).length := by rw [List.length_replicate]; omega
      have hget := fun j (hj : i + k ≤ j) => (show (lay (pagesOf xs) i (List.replicate k 0))[j]? = (pagesOf xs)[j]? from by
        rw [lay_get? _ _ _ _ hll, if_neg (by omega), if_neg (by rw [List.length_replicate]; omega)])
      have hk0 : (0 : Int) ≤ (i : Int) + (k : Int) := by omega
      by_cases hlt : k < n
      · have hx := (hget (i + k) (Nat.le_refl _)).trans (HR4.out.1 (i + k) (by omega) (by omega))
        have cx := row_at HR.out.1 hx
        have cf := HR.out.1.free (i + k)
        have hst := HR.out.1.store (i + k) (.int .i64 0)
        rw [vals_set] at hst
        have hls := lay_set (pagesOf xs) (List.replicate k (0 : Int)) i 0 (by rw [List.length_replicate]; omega)
        rw [List.length_replicate, rep_snoc] at hls
        rw [hls] at hst
        have HS := Lib.hid (And.intro hst (HR.out.2.setCell (p := ⟨pb, i + k, none⟩) (.inl (by simp)) (.int .i64 0)))
        have hk1 : (i : Int) + (k : Int) < (P : Int) := by omega
        clear hst hls hx hget hll
        go_wp2_with fail
        go_roundw
        case rel => exact ⟨k + 1, by go_num, by omega, by go_num, HS.out.1, HS.out.2⟩
        case measure => simp [intOf]; omega
      · obtain rfl : k = n := by omega
        have HEnd := Lib.hid (show RfAt wr q G P (giveS i xs) ∧ Kept G w wr from by
          refine ⟨⟨?_, pb, ?_⟩, HR.out.2.mono fun x hx => by simp at hx; rw [hx]; exact HPx.out.ins.2⟩
          · rw [HGS.out.1]; exact HGS.out.2.2
          · refine ⟨HPx.out.head.kept HR.out.2 (by have := HPx.out.ne; simpa using this), ?_, HPx.out.ins, HPx.out.ne, fun x hx => Nat.lt_of_lt_of_le (HPx.out.flt x hx) HR.out.2.size⟩
            rw [HGS.out.1, HGS.out.2.1]
            exact HR.out.1)
        by_cases hend : i + k < P
        · obtain ⟨v2, hv2, hv3⟩ := HR4.out.2 hend
          have cx := row_at HR.out.1 ((hget (i + k) (Nat.le_refl _)).trans hv2)
          have hk1 : (i : Int) + (k : Int) < (P : Int) := by omega
          clear hget hll hv2
          go_wp2_with fail
          go_ret2
          exact ⟨rfl, HEnd.out⟩
        · have hk1 : ¬ ((i : Int) + (k : Int) < (P : Int)) := by omega
          clear hget hll
          go_wp2_with fail
          go_ret2
          exact ⟨rfl, HEnd.out⟩
  · obtain ⟨g1, g2, g3⟩ := giveE_none hf
    rw [g1, g2, g3]
    have hv2 : (v != (i : Int) + 1) = true := by simpa using hv
    have hv3 : ¬ v = (i : Int) + 1 := hv
    have hv4 : (v == (i : Int) + 1) = false := by simpa using hv
    clear g1 g2 g3 hf
    go_enter Try.func80, Try.ntmps80
    go_wp2_with fail
    go_ret2
    exact ⟨rfl, HH.out, Kept.refl _ _⟩
end
end Go.Proofs.Ytldlogmjkbhomaa.Spa
