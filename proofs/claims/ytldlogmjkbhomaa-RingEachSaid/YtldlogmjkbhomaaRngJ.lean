/- The walk of RingCalls. -/
import Derived.Test.YtldlogmjkbhomaaRngI
import Derived.Test.YtldlogmjkbhomaaRngO
set_option linter.unusedSimpArgs false
namespace Go.Proofs.Ytldlogmjkbhomaa.Rng
open Go.RowKit Go.Proofs.Ytldlogmjkbhomaa.Aid
/-- What holds between two rounds. -/
structure Run (w0 w : World) (p q : Nat) (F G : List Nat) (N L : Nat) (s : RgS) : Prop where
  both : Both w p q F G N L s
  bF : ∀ x ∈ F, w0.heap.size ≤ x
  bG : ∀ x ∈ G, w0.heap.size ≤ x
  below : Below w0.heap.size w0 w
theorem Run.on {w0 w w' : World} {p q N L : Nat} {F G : List Nat} {s : RgS} (h : Run w0 w p q F G N L s) (k : Below w.heap.size w w') : Run w0 w' p q F G N L s := ⟨h.both.below k, h.bF, h.bG, h.below.trans (k.mono h.below.size)⟩
theorem Run.told {w0 w w' : World} {p q N L : Nat} {F G : List Nat} {s s' : RgS} (h : Run w0 w p q F G N L s) (k : Told w p q F G N L s' w') : ∃ G', Run w0 w' p q F G' N L s' := by
  obtain ⟨G', h1, h2, h3⟩ := k
  refine ⟨G', h1, h.bF, fun x hx => ?_, below_kept h.below h2 h.below.size fun x hx => ?_⟩
  · rcases h3 x hx with e | e
    · exact h.bG x e
    · exact Nat.le_trans h.below.size e
  · rcases List.mem_append.1 hx with e | e
    · exact h.bF x e
    · exact h.bG x e
theorem at_none {N L : Nat} {s : RgS} (hok : OkG N L s) {i : Int} (h : ∀ l, l < L → ∀ x ∈ s l, (x : Int) ≠ i) : (lkI s N L i).a = -1 ∧ (lkI s N L i).c = -1 := by
  unfold lkI
  split
  · next hi =>
    rw [lk_none fun l hx => h l (hok.lL hx) _ hx (by omega)]
    exact ⟨rfl, rfl⟩
  · exact ⟨rfl, rfl⟩
theorem at_some {N L : Nat} {s : RgS} (hok : OkG N L s) {l x : Nat} {A B : List Nat} (e : s l = A ++ x :: B) : (lkI s N L (x : Int)).a = (l : Int) ∧ (lkI s N L (x : Int)).c = headI B := by
  have hx : x < N := hok.lt l x (by rw [e]; simp)
  unfold lkI
  rw [if_pos ⟨by omega, by omega⟩, Int.toNat_natCast, lk_at hok e]
  exact ⟨rfl, rfl⟩
theorem cell_lt {w : World} {b o : Nat} {v : Value} (h : w.cell? ⟨b, o, none⟩ = some v) : b < w.heap.size := by
  unfold World.cell? at h
  rcases Nat.lt_or_ge b w.heap.size with hlt | hge
  · exact hlt
  · rw [Array.getElem?_eq_none hge] at h; cases h
theorem in_a {N L : Nat} {s : RgS} (hok : OkG N L s) {i a b : Int} (h : InAt s L i a b) : a = (lkI s N L i).a := by
  rcases h with ⟨rfl, rfl, h⟩ | ⟨l, A, x, B, rfl, rfl, hl, e, rfl⟩
  · exact (at_none hok h).1.symm
  · exact (at_some hok e).1.symm
/-- A list's numbers, as the law compares them. -/
theorem hdr_ints {w : World} {A : Option Addr} {n c : Nat} {xs : List Nat} (h : Hdr enc1 1 w IT (.slice A n c) xs) : Ints w .i64 A (ints xs) := fun k hk => by
  obtain ⟨A', c', e, hat⟩ := Hdr.open1 h
  injection e with e1 _ _
  subst e1
  rw [ints_len] at hk
  obtain ⟨g, rfl, hc⟩ := hat k xs[k] (List.getElem?_eq_getElem hk)
  refine ⟨g, 0, rfl, cell_lt hc, ?_⟩
  rw [Nat.zero_add, hc]
  congr 2
  unfold ints
  rw [List.getD_eq_getElem?_getD, List.getElem?_map, List.getElem?_eq_getElem hk]
  rfl
set_option maxHeartbeats 8000000 in
set_option maxRecDepth 8000 in
theorem calls_walk (w : World) (it li ask : Int) (xs : List R3) (A : Option Addr) (c : Nat) (hx : Cs w A xs) (_hl : xs.length ≤ maxLen) :
    Calls Try.prog 5 #[.int .i64 it, .int .i64 li, .slice A xs.length c, .int .i64 ask] w fun e w' => e = .returned (.bool true) ∧ Below w.heap.size w w' := by
  have HA := Lib.hid (alive_calls w)
  have HX := Lib.hid hx
  clear hx
  cases hg : (decide (100 < it) || (decide (20 < li) || decide (200 < xs.length))) with
  | true =>
    have HG := Lib.hid (fun W : World => great_calls W it li A xs.length c)
    rw [hg] at HG
    clear _hl hg
    go_enter Try.func5, Try.ntmps5
    go_wp2_with fail
    refine HA.out.mono ?_
    rintro e w1 ⟨rfl, hb1⟩
    go_wp2_with fail
    refine (HG.out w1).mono ?_
    rintro e w2 ⟨rfl, rfl⟩
    go_wp2_with fail
    go_ret
    exact ⟨rfl, hb1⟩
  | false =>
  have HG := Lib.hid (fun W : World => great_calls W it li A xs.length c)
  rw [hg] at HG
  have hg2 : it ≤ 100 ∧ li ≤ 20 ∧ xs.length ≤ 200 := by
    simp only [Bool.or_eq_false_iff, decide_eq_false_iff_not] at hg
    omega
  obtain ⟨hit, hli, hxl⟩ := hg2
  clear hg
  by_cases hno : it < 0 ∨ 4096 < it ∨ li < 1 ∨ 256 < li
  · have HN := Lib.hid hno
    clear hno hit hli hxl _hl
    go_enter Try.func5, Try.ntmps5
    go_wp2_with fail
    refine HA.out.mono ?_
    rintro e w1 ⟨rfl, hb1⟩
    go_wp2_with fail
    refine (HG.out w1).mono ?_
    rintro e w2 ⟨rfl, rfl⟩
    go_wp2_with fail
    refine (new_no w1 it li HN.out).mono ?_
    rintro e w2 ⟨rfl, rfl⟩
    go_wp2_with fail
    refine (rnew_no w1 it li HN.out).mono ?_
    rintro e w2 ⟨rfl, rfl⟩
    go_wp2_with fail
    go_ret
    exact ⟨rfl, hb1⟩
  obtain ⟨N, rfl⟩ := Int.eq_ofNat_of_zero_le (show 0 ≤ it by omega)
  obtain ⟨L, rfl⟩ := Int.eq_ofNat_of_zero_le (show 0 ≤ li by omega)
  have hN : N ≤ 100 := by omega
  have hL1 : 1 ≤ L := by omega
  have hL2 : L ≤ 20 := by omega
  clear hno hit hli
  go_enter Try.func5, Try.ntmps5
  go_wp2_with fail
  refine HA.out.mono ?_
  rintro e w1 ⟨rfl, hb1⟩
  have HB1 := Lib.hid hb1
  clear hb1
  go_wp2_with fail
  refine (HG.out w1).mono ?_
  rintro e w2 ⟨rfl, rfl⟩
  go_wp2_with fail
  refine (new_yes w1 N L (by omega) hL1 (by omega)).mono ?_
  rintro e w2 ⟨p, F, rfl, hQ, hF, hb⟩
  have H2 := Lib.hid (And.intro hQ (And.intro hF hb))
  clear hQ hF hb HA HG
  go_wp2_with fail
  refine (rnew_yes w2 N L (by omega) hL1 (by omega)).mono ?_
  rintro e w3 ⟨q, G, rfl, hR, hG, hb⟩
  have H3 := Lib.hid (show Run w w3 p q F G N L (fun _ => []) from by
    obtain ⟨hQ, hF, hb2⟩ := H2.out
    have hfl := hQ.flt
    have z1 := HB1.out.size
    have z2 := hb2.size
    exact ⟨⟨hQ.below hb, hR, fun x hx hx2 => by have := hfl x hx; have := hG x hx2; omega⟩, fun x hx => Nat.le_trans z1 (hF x hx), fun x hx => Nat.le_trans (Nat.le_trans z1 z2) (hG x hx), (HB1.out.trans (hb2.mono z1)).trans (hb.mono (Nat.le_trans z1 z2))⟩)
  clear hR hG hb H2 HB1
  go_wp2_with fail
  go_loopw [13] (fun i wr => ∃ (k : Nat) (s : RgS) (G : List Nat), i = .int .i64 k ∧ k ≤ xs.length ∧ Run w wr p q F G N L s) (fun i _ => xs.length - (intOf i).toNat)
  case atStart => exact ⟨0, _, G, rfl, by omega, H3.out⟩
  case round =>
    obtain ⟨k, s, G, rfl, hk, hT⟩ := hrel
    have HT := Lib.hid hT
    clear hT H3
    by_cases hlt : k < xs.length
    · obtain ⟨b0, o0, rfl, hC⟩ := HX.out k hlt
      generalize xs.getD k z3 = c0 at hC
      have hC2 := hC.below HT.out.below
      have k0 := hC2.c0
      have k1 := hC2.c1
      have k2 := hC2.c2
      clear hC hC2
      have HTo := Lib.hid (told_calls wr p q F G N L s c0 HT.out.both)
      go_wp2_with fail
      refine HTo.out.mono ?_
      rintro e w4 ⟨rfl, hTo⟩
      obtain ⟨G', hR'⟩ := HT.out.told hTo
      have HR' := Lib.hid hR'
      clear hTo hR' HTo HT
      go_wp2_with fail
      go_roundw
      case rel => exact ⟨k + 1, _, G', by go_num, by omega, HR'.out⟩
      case measure => simp [intOf]; omega
    · obtain rfl : k = xs.length := by omega
      have hok := HT.out.both.ref.ok
      have HOk := Lib.hid hok
      obtain ⟨lb, hs, hP⟩ := HT.out.both.ref.ex
      have c1 := hP.c1
      have HRow := Lib.hid (fun l (hl : l < L) => hP.row hl)
      have HLen := Lib.hid (fun l => hok.len l)
      clear hP hok
      go_wp2_with fail
      refine (rin_calls wr q G N L s ask HT.out.both.ref).mono ?_
      rintro e w5 ⟨⟨a, b, rfl, hat⟩, rfl⟩
      have HAt := Lib.hid hat
      have HAa := Lib.hid (in_a HOk.out hat)
      clear hat
      go_upto_region 17 with fail
      go_cut [16] (fun v wc => v = .int .i64 (-1) ∧ wr = wc)
      case first =>
        go_wp2
        go_meet
        exact ⟨rfl, rfl⟩
      case rest =>
      obtain ⟨rfl, rfl⟩ := hcut
      rename_i hkk
      refine hkk _ _ ?_
      clear hkk
      apply wp_seq_k
      intro _ _
      go_cut [16] (fun v wc => v = .int .i64 (lkI s N L ask).c ∧ wr = wc)
      case first =>
        rcases HAt.out with ⟨rfl, rfl, h⟩ | ⟨l, A0, x, B, rfl, rfl, hl, e, rfl⟩
        · have hn := Lib.hid (at_none HOk.out h).2
          clear h
          go_wp2
          go_meet
          exact ⟨by rw [hn.out], rfl⟩
        · have hn := Lib.hid (at_some HOk.out e).2
          obtain ⟨hd, _, hc, hH⟩ := HRow.out l hl
          have hln := HLen.out l
          rw [e] at hH hln
          obtain ⟨A', c', rfl, hat⟩ := Hdr.open1 hH
          have hl0 : (0 : Int) ≤ (l : Int) := by omega
          have hl1 : (l : Int) < (L : Int) := by omega
          have hal : A0.length ≤ 4096 := by rw [List.length_append] at hln; omega
          have hw := nat_wrap1 hal
          have ha0 : (0 : Int) ≤ ((A0.length + 1 : Nat) : Int) := by omega
          cases B with
          | nil =>
            have hnl : (A0 ++ [x]).length = A0.length + 1 := by simp
            rw [hnl] at hc
            clear hH hat hln e hnl hal
            go_wp2
            go_meet
            exact ⟨by rw [hn.out]; rfl, rfl⟩
          | cons y t =>
            obtain ⟨g, rfl, hcy⟩ := hat (A0.length + 1) y (by rw [List.getElem?_append_right (by omega)]; simp)
            have hnl : (A0 ++ x :: y :: t).length = A0.length + 1 + (t.length + 1) := by simp; omega
            have hlt2 : (A0.length : Int) + 1 < ((A0 ++ x :: y :: t).length : Int) := by omega
            have ha1 : (0 : Int) ≤ (A0.length : Int) + 1 := by omega
            generalize (A0 ++ x :: y :: t).length = m at hc hlt2
            clear hH hat hln e hnl hal
            go_wp2
            go_meet
            exact ⟨by rw [hn.out]; rfl, rfl⟩
      case rest =>
      obtain ⟨rfl, rfl⟩ := hcut
      obtain rfl := HAa.out
      clear HAt HAa c1 HRow
      rename_i hkk
      refine hkk _ _ ?_
      clear hkk
      go_wp2_with fail
      refine (rall_calls wr q G N L s ask HT.out.both.ref).mono ?_
      rintro e w5 ⟨⟨hd, rfl, hH, _⟩, rfl⟩
      obtain ⟨A', c', rfl, hat⟩ := Hdr.open1 hH
      have HI := Lib.hid (hdr_ints hH)
      have HAt := Lib.hid hat
      clear hH hat
      go_upto_region 21 with fail
      go_cut [18] (fun v wc => v = .int .i64 (-1) ∧ wr = wc)
      case first =>
        go_wp2
        go_meet
        exact ⟨rfl, rfl⟩
      case rest =>
      obtain ⟨rfl, rfl⟩ := hcut
      rename_i hkk
      refine hkk _ _ ?_
      clear hkk
      apply wp_seq_k
      intro _ _
      have HO2 := Lib.hid (lsI_len HOk.out ask)
      have HAll := Lib.hid (all_calls wr p F N L s ask HT.out.both.rng)
      have HFi := Lib.hid (first_calls wr p F N L s ask HT.out.both.rng)
      have HLn := Lib.hid (len_calls wr p F N L s ask HT.out.both.rng)
      have HIn := Lib.hid (in_calls wr p F N L s ask HT.out.both.rng)
      have HNx := Lib.hid (next_calls wr p F N L s ask HT.out.both.rng)
      have HNN := Lib.hid HOk.out.n
      clear HOk HLen
      generalize lsI s L ask = ls at HAt HI HAll HFi HLn HO2 ⊢
      generalize (lkI s N L ask).a = la at HIn ⊢
      generalize (lkI s N L ask).c = lc at HNx ⊢
      go_cut [18] (fun v wc => v = .int .i64 (headI ls) ∧ wr = wc)
      case first =>
        cases ls with
        | nil =>
          go_wp2
          go_meet
          exact ⟨rfl, rfl⟩
        | cons y t =>
          obtain ⟨g, rfl, hcy⟩ := HAt.out 0 y rfl
          have hln0 : (0 : Int) < ((t.length + 1 : Nat) : Int) := by omega
          go_wp2
          go_meet
          exact ⟨rfl, rfl⟩
      case rest =>
      obtain ⟨rfl, rfl⟩ := hcut
      rename_i hkk
      refine hkk _ _ ?_
      clear hkk
      generalize headI ls = fi at HFi ⊢
      have HSm := Lib.hid (fun (W : World) (B : Option Addr) (d : Nat) (hb : Below wr.heap.size wr W) (hy : Ints W .i64 B (ints ls)) => same_ints (ints ls) (ints ls) B A' d c' W hy (HI.out.below hb) (by rw [ints_len]; unfold maxLen; have := HO2.out; have := HNN.out; omega))
      rw [ints_len, show (ints ls == ints ls) = true by simp] at HSm
      go_wp2_with (first
        | (go_at_call 35; (with_reducible refine (Calls.mono HIn.out ?_)); rintro e w6 ⟨rfl, rfl⟩)
        | (go_at_call 36; (with_reducible refine (Calls.mono HNx.out ?_)); rintro e w6 ⟨rfl, rfl⟩)
        | (go_at_call 37; (with_reducible refine (Calls.mono HFi.out ?_)); rintro e w6 ⟨rfl, rfl⟩)
        | (go_at_call 38; (with_reducible refine (Calls.mono HLn.out ?_)); rintro e w6 ⟨rfl, rfl⟩)
        | (go_at_call 40; (with_reducible refine (Calls.mono HAll.out ?_)); rintro e w7 ⟨⟨v, rfl, hO⟩, hb7⟩; obtain ⟨B, d, rfl, hI7⟩ := hO.shape; rw [ints_len]; have HS7 := Lib.hid (HSm.out w7 B d hb7 hI7); have HB7 := Lib.hid hb7; clear hO hb7 hI7)
        | (go_at_call 39; (with_reducible refine (Calls.mono HS7.out ?_)); rintro e w8 ⟨rfl, nq, rfl⟩)
        | fail)
      go_ret
      exact ⟨rfl, below_drewN (HT.out.below.trans (HB7.out.mono HT.out.below.size)) nq⟩
end Go.Proofs.Ytldlogmjkbhomaa.Rng
