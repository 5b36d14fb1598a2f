/- Slabs of the new layout: Some, GiveAll, Give. -/
import Derived.Test.YtloflnachpjlgaaNewJ
set_option linter.unusedSimpArgs false
namespace Go.Proofs.Ytloflnachpjlgaa.New
open Go.RowKit Go.Proofs.Ytloflnachpjlgaa.Aid Go.Proofs.Ytloflnachpjlgaa.Cell
theorem own_ints {w : World} {b : Nat} {e : TypeId} {q : IntKind} {A : Option Addr} {n c : Nat} {xs : List Int} (h : Aid.Own w b e q (.slice A n c) xs) : Ints w q A xs := by
  obtain ⟨A', c', e, h⟩ := h.shape
  injection e with e1 _ _
  rw [e1]
  exact h
theorem SnP.other {w w' : World} {p mp mg mc : Nat} {x : Sn} {bs : List Int} {B : Nat} (h : SnP w p mp mg mc x bs) (k : Below B w w') (h1 : p < B) (h2 : mp < B) (h3 : mg < B) : SnP w' p mp mg mc x bs := by
  have hr := kept_rangeN k
  refine h.kept hr (fun hx => ?_) (fun hx => ?_) (fun hx => ?_)
  · have := in_rangeN hx
    omega
  · have := in_rangeN hx
    omega
  · have := in_rangeN hx
    omega
def adrs (x : Sn) (l : List Nat) : List Int := l.map (adr x)
theorem adrs_len (x : Sn) (l : List Nat) : (adrs x l).length = l.length := by simp [adrs]
theorem adrs_snoc (x : Sn) (l : List Nat) (k : Nat) : adrs x (l ++ [k]) = adrs x l ++ [adr x k] := by simp [adrs]
/-- What Some answers. -/
def SomeIs (w : World) (p mp mg mc : Nat) (x : Sn) (bs : List Int) (n : Int) (o : Option (List Nat)) (e : Ending) (w' : World) : Prop := match o with
  | none => e = .returned (.tuple #[.slice none 0 0, .int .i64 10]) ∧ Below w.heap.size w w'
  | some L => ∃ v, e = .returned (.tuple #[v, .int .i64 0]) ∧ Aid.Own w' w.heap.size IT .i64 v (adrs x (L.take n.toNat)) ∧ SnP w' p mp mg mc (popsX x bs (L.take n.toNat).length) bs ∧ Kept [p] w w'
section
variable (w : World) (p mp mg mc : Nat) (x : Sn) (bs : List Int) (h : SnP w p mp mg mc x bs)
include h
set_option maxHeartbeats 2000000 in
theorem some_calls (n : Int) : Calls Try.prog 36 #[.pointer (some ⟨p, 0, none⟩), .int .i64 n] w (SomeIs w p mp mg mc x bs n (listO x bs)) := by
  have HK := Lib.hid (check_calls w p mp mg mc x bs h)
  have H := Lib.hid h
  have HLT := Lib.hid h.lts
  have hm := h.ok.many.1
  clear h
  cases ho : listO x bs with
  | none =>
    rw [ho] at HK
    rw [if_neg (by simp)] at HK
    go_enter Try.func36, Try.ntmps36
    go_wp2_with fail
    refine HK.out.mono ?_
    rintro e w1 ⟨rfl, hb⟩
    have H1 := Lib.hid hb
    clear hb
    go_wp2_with fail
    go_ret2
    exact ⟨rfl, H1.out⟩
  | some L =>
    rw [ho] at HK
    rw [if_pos (show (some L).isSome = true from rfl)] at HK
    have hL := listO_iff.1 ho
    have hLn : L.length ≤ x.n := by rw [hL.len]; exact H.out.ok.ct
    have HL := Lib.hid hL
    have HP := Lib.hid (fun j (hj : j ≤ L.length) => And.intro (pops_list H.out.ok hL j hj) (And.intro (pops_cnt H.out.ok hL hj) (pops_like x bs j)))
    clear hL ho
    go_enter Try.func36, Try.ntmps36
    go_wp2_with fail
    refine HK.out.mono ?_
    rintro e w1 ⟨rfl, hb⟩
    have H1 := Lib.hid hb
    clear hb
    go_wp2_with fail
    go_loopw [7] (fun s wr => ∃ i : Nat, i ≤ L.length ∧ (i : Int) ≤ max n 0 ∧ Aid.Own wr w.heap.size IT .i64 s (adrs x (L.take i)) ∧ SnP wr p mp mg mc (popsX x bs i) bs ∧ Kept [p] w wr) (fun s _ => (match s with | .slice _ k _ => 200 - k | _ => 0))
    case atStart => exact ⟨0, by omega, by omega, Own.nil _ _ _ _, H.out.below H1.out, Kept.of_below H1.out [p]⟩
    case round =>
      obtain ⟨i, hi, hin, hown, hS, hK⟩ := hrel
      have hsl : (adrs x (L.take i)).length = i := by rw [adrs_len, List.length_take]; omega
      obtain ⟨A, c, rfl, hints⟩ := hown.shape
      rw [hsl] at hown ⊢
      obtain ⟨⟨hok, hls⟩, hcnt, hlk⟩ := HP.out i hi
      obtain ⟨_, _, _, _, _, _, c6⟩ := hS.cells
      rw [hcnt] at c6
      have HR := Lib.hid (And.intro hown (And.intro hS hK))
      have HLS := Lib.hid (And.intro hok (And.intro hls hlk))
      clear hown hS hK hints hok hls hcnt hlk
      by_cases hlt : (i : Int) < n
      · by_cases hlc : i < L.length
        · have hpos : (0 : Int) < ((L.length - i : Nat) : Int) := by omega
          have HPC := Lib.hid (pop_calls wr p mp mg mc (popsX x bs i) bs HR.out.2.1 (L[i]) (L.drop (i + 1)) (by rw [← List.drop_eq_getElem_cons hlc]; exact HLS.out.2.1))
          have HAD := Lib.hid (show ((popsX x bs i).b : Int) + ((L[i] * (popsX x bs i).z : Nat) : Int) = adr x L[i] from HLS.out.2.2.adr _)
          rw [HAD.out] at HPC
          have HSM := Lib.hid (show adrs x (L.take (i + 1)) = adrs x (L.take i) ++ [adr x L[i]] from by rw [List.take_succ_eq_append_getElem hlc, adrs_snoc])
          generalize adr x L[i] = ta at *
          generalize L.length - i = q at *
          clear hin hi
          go_wp2_with fail
          refine HPC.out.mono ?_
          rintro e w2 ⟨rfl, hS2, hK2⟩
          have H2 := Lib.hid (And.intro hS2 (HR.out.2.2.trans hK2))
          have HO := Lib.hid (own_kept HR.out.1 hK2 (by simp; exact HLT.out.1))
          have hbz : w.heap.size ≤ w2.heap.size := H2.out.2.size
          clear hS2 hK2 c6
          go_wp2_with (at_builtin; refine append_int rfl _ _ 30 rfl w.heap.size 3 .i64 8 Try.underlying30 info_int _ (adrs x (L.take i)) rfl HO.out ta rfl (by rw [hsl]; omega) (by rw [hsl]; omega) hbz ?_)
          intro v1 w3 hown1 hb1 _
          have HO1 := Lib.hid hown1
          have H3 := Lib.hid (show SnP w3 p mp mg mc (popsX x bs (i + 1)) bs ∧ Kept [p] w w3 from ⟨H2.out.1.other hb1 HLT.out.1 HLT.out.2.1 HLT.out.2.2, H2.out.2.step (kept_rangeN hb1) fun y hy => .inr (in_rangeN hy)⟩)
          clear hown1 hb1
          go_wp2_with fail
          go_roundw
          case rel => exact ⟨i + 1, by omega, by omega, by rw [HSM.out]; exact HO1.out, H3.out.1, H3.out.2⟩
          case measure =>
            obtain ⟨A2, c2, rfl, _⟩ := HO1.out.shape
            rw [List.length_append, hsl]
            simp
            omega
        · obtain rfl : i = L.length := by omega
          rw [Nat.sub_self] at c6
          have HE := Lib.hid (show (L.take n.toNat) = L.take L.length from by rw [List.take_of_length_le (by omega), List.take_length])
          clear hin hi
          go_wp2_with fail
          go_ret2
          refine ⟨_, rfl, ?_, ?_, HR.out.2.2⟩
          · rw [HE.out]; exact HR.out.1
          · rw [HE.out, List.length_take, Nat.min_self]; exact HR.out.2.1
      · have HE := Lib.hid (show (L.take n.toNat) = L.take i from by
          rcases Int.lt_or_le n 0 with e | e
          · have : i = 0 := by omega
            subst this
            rw [show n.toNat = 0 by omega]
          · rw [show n.toNat = i by omega])
        clear hin c6
        go_wp2_with fail
        go_ret2
        refine ⟨_, rfl, ?_, ?_, HR.out.2.2⟩
        · rw [HE.out]; exact HR.out.1
        · rw [HE.out, List.length_take, Nat.min_eq_left hi]; exact HR.out.2.1
end
end Go.Proofs.Ytloflnachpjlgaa.New
