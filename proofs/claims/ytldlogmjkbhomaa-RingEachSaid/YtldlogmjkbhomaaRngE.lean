/- The contract of package ring's All. -/
import Derived.Test.YtldlogmjkbhomaaRngD
namespace Go.Proofs.Ytldlogmjkbhomaa.Rng
open Go.RowKit Go.Proofs.Ytldlogmjkbhomaa.Aid
theorem info_int : (Try.prog.info? 3).map (fun i => (i.zero, i.size, i.bytes)) = some (some (.int .i64 0), 1, 8) := by kernel_rfl
def lenV : Value → Nat
  | .slice _ n _ => n
  | _ => 0
theorem len_own {w : World} {base : Nat} {e : TypeId} {q : IntKind} {v : Value} {xs : List Int} (h : Own w base e q v xs) : lenV v = xs.length := by
  obtain ⟨A, c, rfl, _⟩ := h.shape
  rfl
def ints (l : List Nat) : List Int := l.map fun (x : Nat) => (x : Int)
theorem ints_len (l : List Nat) : (ints l).length = l.length := by simp [ints]
theorem lsI_len {N L : Nat} {s : RgS} (h : OkG N L s) (l : Int) : (lsI s L l).length ≤ N := by
  unfold lsI
  split
  · exact h.len _
  · simp
theorem lsI_next {N L : Nat} {s : RgS} (h : OkG N L s) {l : Int} {A B : List Nat} {b : Nat} (e : lsI s L l = A ++ b :: B) : (lkI s N L (b : Int)).c = headI B := by
  have hin : 0 ≤ l ∧ l < L := by
    apply Classical.byContradiction
    intro hn
    unfold lsI at e
    rw [if_neg hn] at e
    simp at e
  have e2 : s l.toNat = A ++ b :: B := by
    unfold lsI at e
    rwa [if_pos hin] at e
  have hb := h.lt l.toNat b (by rw [e2]; simp)
  unfold lkI
  rw [if_pos ⟨by omega, by omega⟩, Int.toNat_natCast, lk_at h e2]
theorem all_calls (w : World) (p : Nat) (F : List Nat) (N L : Nat) (s : RgS) (l : Int) (h : RngAt w p F N L s) :
    Calls Try.prog 40 #[.pointer (some ⟨p, 0, none⟩), .int .i64 l] w fun e w' => (∃ v, e = .returned v ∧ Own w' w.heap.size 3 .i64 v (ints (lsI s L l))) ∧ Below w.heap.size w w' := by
  have HF := Lib.hid (first_calls w p F N L s l h)
  have HN := Lib.hid (fun (A B : List Nat) (b : Nat) (e : lsI s L l = A ++ b :: B) => lsI_next h.ok e)
  have HLn := Lib.hid (lsI_len h.ok l)
  have hN := h.ok.n
  have HR := Lib.hid h
  clear h
  generalize lsI s L l = ls at HF HN HLn ⊢
  go_enter Try.func40, Try.ntmps40
  go_wp2_with fail
  refine HF.out.mono ?_
  rintro e w1 ⟨rfl, rfl⟩
  go_wp2_with fail
  go_loopw [5, 6] (fun v u wr => ∃ A B : List Nat, ls = A ++ B ∧ u = .int .i64 (headI B) ∧ Own wr w.heap.size 3 .i64 v (ints A) ∧ Below w.heap.size w wr) (fun v _ _ => N + 1 - lenV v)
  case atStart => exact ⟨[], ls, rfl, rfl, Own.nil w w.heap.size 3 .i64, Below.refl _ _⟩
  case round =>
    obtain ⟨A, B, hAB, rfl, hO, hb⟩ := hrel
    have HLv0 := Lib.hid (len_own hO)
    have HAB := Lib.hid hAB
    have HO := Lib.hid hO
    have HB := Lib.hid hb
    have hAl : A.length ≤ N := by
      have := HLn.out
      rw [hAB, List.length_append] at this
      omega
    clear hAB hO hb
    cases B with
    | nil =>
      have h1 : headI ([] : List Nat) = -1 := rfl
      rw [h1]
      go_wp2_with fail
      go_ret
      have hh := HO.out
      rw [show A = ls by rw [HAB.out, List.append_nil]] at hh
      exact ⟨⟨_, rfl, hh⟩, HB.out⟩
    | cons b B =>
      have h1 : headI (b :: B) = (b : Int) := rfl
      rw [h1]
      have hown1 := HO.out
      have hsz1 := HB.out.size
      have hx : (ints A).length ≤ 4096 := by rw [ints_len]; omega
      have HNx := Lib.hid (HN.out A B b HAB.out)
      go_wp2_with (first
        | (at_builtin; refine append_int rfl _ _ 68 rfl w.heap.size 3 .i64 8 Try.underlying68 info_int _ _ rfl hown1 _ rfl (by omega) (by omega) hsz1 ?_; intro v' w2 hown2 hb2 _)
        | fail)
      have HO2 := Lib.hid (show Own w2 w.heap.size 3 .i64 v' (ints (A ++ [b])) from by
        have e : ints (A ++ [b]) = ints A ++ [(b : Int)] := by simp [ints]
        rw [e]
        exact hown2)
      have HB2 := Lib.hid (HB.out.trans hb2)
      have HLv := Lib.hid (len_own hown2)
      have HNc := Lib.hid (next_calls w2 p F N L s (b : Int) (HR.out.below HB2.out))
      rw [HNx.out] at HNc
      clear hown2 hb2
      refine HNc.out.mono ?_
      rintro e w3 ⟨rfl, rfl⟩
      go_wp2_with fail
      go_roundw
      case rel => exact ⟨A ++ [b], B, by rw [HAB.out]; simp, rfl, HO2.out, HB2.out⟩
      case measure =>
        have h1 := HLv.out
        have h2 := HLv0.out
        have h3 := HLn.out
        rw [HAB.out, List.length_append, List.length_cons] at h3
        rw [List.length_append, ints_len] at h1
        rw [ints_len] at h2
        simp at h1 h2 ⊢
        omega
end Go.Proofs.Ytldlogmjkbhomaa.Rng
