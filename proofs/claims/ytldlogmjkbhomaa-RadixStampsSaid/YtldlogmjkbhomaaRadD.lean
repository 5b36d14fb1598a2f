/- The contracts of package radix's Set and Clear. -/
import Derived.Test.YtldlogmjkbhomaaRadC
namespace Go.Proofs.Ytldlogmjkbhomaa.Rad
open Go.RowKit Go.Proofs.Ytldlogmjkbhomaa.Aid Go.Proofs.Ytldlogmjkbhomaa.Pack
section
variable {w w' : World} {p pages : Nat} {F : List Nat} {s : RS}
theorem RadAt.stamp (h : RadAt w p F pages s) {t : Int} (h0 : 0 ≤ t ∧ t < 1099511627776) : Wrote p F pages ⟨s.ws, t⟩ w (w.setCell ⟨p, 2, none⟩ (.int .u64 t)) := by
  obtain ⟨rb, hs, hP⟩ := h.ex
  have hk := (Kept.refl [p] w).setCell (p := ⟨p, 2, none⟩) (by simp) (.int .u64 t)
  refine ⟨F, ⟨⟨h.ok.p12, h.ok.out, h.ok.wrd, h0.1, h0.2⟩, rb, hs, ⟨hP.head.set 2 (.int .u64 t), hP.rows.kept hk (by simpa using Ne.symm hP.ne), hP.hlen, fun k v hv => (hP.each k v hv).same fun i hi _ h1 _ => hk.block i hi (by simpa using h1), hP.apart, hP.ins, hP.ne, fun x hx => Nat.lt_of_lt_of_le (hP.flt x hx) hk.size⟩⟩, hk.mono (by simpa using hP.ins.1), fun _ hx => .inl hx⟩
theorem Wrote.then {a b c : World} {s1 s2 : RS} (h1 : Wrote p F pages s1 a b) (h2 : ∀ F', RadAt b p F' pages s1 → Wrote p F' pages s2 b c) : Wrote p F pages s2 a c := by
  obtain ⟨F1, g1, k1, l1⟩ := h1
  obtain ⟨F2, g2, k2, l2⟩ := h2 F1 g1
  exact ⟨F2, g2, k1.step k2 l1, fun x hx => by
    rcases l2 x hx with h | h
    · exact l1 x h
    · exact .inr (Nat.le_trans k1.size h)⟩
theorem Wrote.after {a b c : World} {s1 : RS} (h1 : Below a.heap.size a b) (h2 : Wrote p F pages s1 b c) : Wrote p F pages s1 a c := by
  obtain ⟨F2, g2, k2, l2⟩ := h2
  exact ⟨F2, g2, (Kept.of_below h1 F).trans k2, fun x hx => by
    rcases l2 x hx with h | h
    · exact .inl h
    · exact .inr (Nat.le_trans h1.size h)⟩
end
theorem inR_nat {pages : Nat} {page n : Int} (h : inR pages page n = true) : ∃ a m : Nat, page = a ∧ n = m ∧ 1 ≤ m ∧ a + m ≤ pages := by
  unfold inR at h
  simp only [decide_eq_true_eq] at h
  obtain ⟨h1, h2, h3, h4⟩ := h
  obtain ⟨a, rfl⟩ := Int.eq_ofNat_of_zero_le h2
  obtain ⟨m, rfl⟩ := Int.eq_ofNat_of_zero_le (show 0 ≤ n by omega)
  exact ⟨a, m, rfl, rfl, by omega, by omega⟩
theorem fill_put {f : Nat → Int} {a k : Nat} {x : Int} : putW (fillW f a k x) (a + k) x = fillW f a (k + 1) x := (fillW_succ f a k x).symm
theorem set_calls (w : World) (p : Nat) (F : List Nat) (pages : Nat) (s : RS) (page n : Int) (e : En) (he : En64 e) (h : RadAt w p F pages s) :
    Calls Try.prog 26 #[.pointer (some ⟨p, 0, none⟩), .int .i64 page, .int .i64 n, .agg (encE e).toArray] w fun r w' => r = .returned (.int .i64 (setC pages page n e)) ∧ Wrote p F pages (setS pages s page n e) w w' := by
  have hn := nextS_ok s.st
  have HC := Lib.hid (show rightE e = false ∨ inR pages page n = false → setC pages page n e = 11 ∧ setS pages s page n e = s from fun h => by
    have : setC pages page n e = 11 := by unfold setC; rw [if_neg (by rcases h with h | h <;> simp [h])]
    exact ⟨this, by unfold setS; rw [this, if_neg (by decide)]⟩)
  have HY := Lib.hid (show rightE e = true → inR pages page n = true → setC pages page n e = 0 ∧ setS pages s page n e = ⟨fillW s.ws page.toNat n.toNat (wordE e (nextS s.st)), nextS s.st⟩ from fun h1 h2 => by
    have : setC pages page n e = 0 := by unfold setC; rw [if_pos ⟨h2, h1⟩]
    exact ⟨this, by unfold setS; rw [this, if_pos rfl]⟩)
  generalize setC pages page n e = cc at HC HY ⊢
  generalize setS pages s page n e = ss at HC HY ⊢
  obtain ⟨sp, ve, cl, sa⟩ := e
  unfold encE
  simp only
  have hB := Blk.new w #[.int .i64 sp, .int .i64 ve, .int .i64 cl, .int .i64 sa] 32
  have hb0 := (Below.refl w.heap.size w).alloc (Nat.le_refl _) (.cells #[.int .i64 sp, .int .i64 ve, .int .i64 cl, .int .i64 sa] 32)
  have HP := Lib.hid (h.below hb0)
  have HB0 := Lib.hid hb0
  have HE := Lib.hid he
  have HNx := Lib.hid hn
  clear h hb0 hn he
  go_enter Try.func26, Try.ntmps26
  go_upto_region 1 with fail
  generalize w.alloc (.cells #[.int .i64 sp, .int .i64 ve, .int .i64 cl, .int .i64 sa] 32) = w2 at hB HB0 HP ⊢
  have k0 : w2.cell? ⟨w.heap.size, 0, none⟩ = some (.int .i64 sp) := hB.cell rfl
  have k1 : w2.cell? ⟨w.heap.size, 1, none⟩ = some (.int .i64 ve) := hB.cell rfl
  have k2 : w2.cell? ⟨w.heap.size, 2, none⟩ = some (.int .i64 cl) := hB.cell rfl
  have k3 : w2.cell? ⟨w.heap.size, 3, none⟩ = some (.int .i64 sa) := hB.cell rfl
  obtain ⟨q, hq⟩ : ∃ q, q = w.heap.size := ⟨_, rfl⟩
  rw [← hq] at k0 k1 k2 k3 ⊢
  clear hq hB
  go_region_held3 (fun w' => w'.cell? ⟨q, 0, none⟩ = some (.int .i64 sp) ∧ w'.cell? ⟨q, 1, none⟩ = some (.int .i64 ve) ∧ w'.cell? ⟨q, 2, none⟩ = some (.int .i64 cl) ∧ w'.cell? ⟨q, 3, none⟩ = some (.int .i64 sa))
    (first | go_keep | exact HK.out)
    ((first
      | (go_at_call 63; (refine (next_calls _ p F pages s (by first | exact HP.out | exact HP.out.drew)).mono ?_); rintro r w3 ⟨rfl, rfl⟩)
      | (go_at_call 62; (refine (word_calls _ ⟨sp, ve, cl, sa⟩ _ HE.out HNx.out.1 HNx.out.2).mono ?_); rintro r w4 ⟨rfl, hb4⟩; have HK := Lib.hid (held4 (by assumption) hb4); have HB4 := Lib.hid hb4; clear hb4)))
  have hb4 := bstep HB0.out (undrew HB4.out)
  have hP4 := HP.out.below (undrew HB4.out)
  have hPin := HP.out.pin
  have HB := Lib.hid hb4
  have HP4 := Lib.hid hP4
  have HIn := Lib.hid (in_calls w4 p F pages s page n hP4)
  have HNt := Lib.hid (next_calls w4 p F pages s hP4)
  have HWd := Lib.hid (rfl : wordV ⟨sp, ve, cl, sa⟩ (nextS s.st) = _)
  have HSt := Lib.hid (hP4.stamp HNx.out)
  have c2 := hP4.c2
  have f2 : w4.frozen? ⟨p, 2, none⟩ = false := by
    obtain ⟨rb, hs, hh⟩ := hP4.ex
    exact hh.head.free 2
  clear hb4 hP4 HK HB4 HB0 HP
  cases hr : rightE ⟨sp, ve, cl, sa⟩ with
  | false =>
    obtain ⟨rfl, rfl⟩ := HC.out (.inl hr)
    go_wp2_with fail
    go_ret
    exact ⟨rfl, F, HP4.out, Kept.of_below HB.out F, fun _ hx => .inl hx⟩
  | true =>
    cases hi : inR pages page n with
    | false =>
      rw [hi] at HIn
      obtain ⟨rfl, rfl⟩ := HC.out (.inr hi)
      go_wp2_with fail
      refine HIn.out.mono ?_
      rintro e w5 ⟨rfl, rfl⟩
      go_wp2_with fail
      go_ret
      exact ⟨rfl, F, HP4.out, Kept.of_below HB.out F, fun _ hx => .inl hx⟩
    | true =>
      rw [hi] at HIn
      obtain ⟨rfl, rfl⟩ := HY.out hr hi
      have HR := Lib.hid hr
      have e := show wordV ⟨sp, ve, cl, sa⟩ (nextS s.st) = wordE ⟨sp, ve, cl, sa⟩ (nextS s.st) by unfold wordV; rw [if_pos hr]
      rw [e]
      have HX := Lib.hid (show wrdOk (wordE ⟨sp, ve, cl, sa⟩ (nextS s.st)) from .inr ⟨_, _, hr, HNx.out.1, HNx.out.2, rfl⟩)
      have HX0 := Lib.hid (wordE_ne (e := ⟨sp, ve, cl, sa⟩) (t := nextS s.st))
      obtain ⟨a, m, rfl, rfl, hm1, ham⟩ := inR_nat hi
      have HT := Lib.hid HNx.out
      have h12 := HP4.out.ok.p12
      clear hr hi e HNx HWd
      go_wp2_with fail
      refine HIn.out.mono ?_
      rintro e w5 ⟨rfl, rfl⟩
      go_wp2_with fail
      refine HNt.out.mono ?_
      rintro e w5 ⟨rfl, rfl⟩
      go_upto_region 5 with fail
      have HW5 := Lib.hid (Wrote.after HB.out HSt.out)
      clear HSt c2 f2
      generalize w4.setCell ⟨p, 2, none⟩ (.int .u64 (nextS s.st)) = w5 at HW5 ⊢
      generalize hx : wordE ⟨sp, ve, cl, sa⟩ (nextS s.st) = x at HX HX0 ⊢
      have HXe := Lib.hid hx
      clear hx HC HY HIn HNt k0 k1 k2 k3
      have HOk := Lib.hid HP4.out.ok
      clear HP4 HB
      go_wp2_with fail
      go_loopw [34] (fun i wr => ∃ k : Nat, i = .int .i64 k ∧ k ≤ m ∧ Wrote p F pages ⟨fillW s.ws a k x, nextS s.st⟩ w wr) (fun i _ => m - (intOf i).toNat)
      case atStart => exact ⟨0, rfl, by omega, by rw [fillW_zero]; exact HW5.out⟩
      case round =>
        obtain ⟨k, rfl, hk, hW⟩ := hrel
        have HW := Lib.hid hW
        clear HW5
        by_cases hlt : k < m
        · obtain ⟨F1, hR, hK1, hF1⟩ := hW
          have hput := put_calls wr p F1 pages ⟨fillW s.ws a k x, nextS s.st⟩ (a + k) x hR (by omega) (.inl HX0.out) (by
            rw [fill_put]
            exact HOk.out.fill (by omega) HX.out _ HT.out)
          rw [fill_put, show ((a + k : Nat) : Int) = (a : Int) + (k : Int) by omega] at hput
          have HPut := Lib.hid hput
          have HFk := Lib.hid (And.intro hK1 hF1)
          clear hput hR hK1 hF1
          go_wp2_with fail
          refine HPut.out.mono ?_
          rintro e w6 ⟨⟨v, rfl⟩, F2, hR2, hK2, hF2⟩
          have HW6 := Lib.hid (show Wrote p F pages ⟨fillW s.ws a (k + 1) x, nextS s.st⟩ w w6 from ⟨F2, hR2, HFk.out.1.step hK2 HFk.out.2, fun y hy => by
            rcases hF2 y hy with h | h
            · exact HFk.out.2 y h
            · exact .inr (Nat.le_trans HFk.out.1.size h)⟩)
          clear hR2 hK2 hF2
          go_wp2_with fail
          go_roundw
          case rel => exact ⟨k + 1, by go_num, by omega, HW6.out⟩
          case measure => simp [intOf]; omega
        · obtain rfl : k = m := by omega
          go_wp2_with fail
          go_ret
          exact ⟨rfl, by have := HW.out; rw [← HXe.out] at this; exact this⟩
theorem allNZ_true {f : Nat → Int} {a m : Nat} (h : ∀ k, k < m → f (a + k) ≠ 0) : allNZ f a m = true := by
  unfold allNZ
  rw [List.all_eq_true]
  intro k hk
  have := h k (List.mem_range.1 hk)
  simpa using this
theorem allNZ_false {f : Nat → Int} {a m k : Nat} (hk : k < m) (h : f (a + k) = 0) : allNZ f a m = false := by
  unfold allNZ
  rw [List.all_eq_false]
  exact ⟨k, List.mem_range.2 hk, by simp [h]⟩
theorem fillW_at (f : Nat → Int) (a k : Nat) (x : Int) : fillW f a k x (a + k) = f (a + k) := by
  unfold fillW
  rw [if_neg (by omega)]
theorem clear_calls (w : World) (p : Nat) (F : List Nat) (pages : Nat) (s : RS) (page n : Int) (h : RadAt w p F pages s) :
    Calls Try.prog 27 #[.pointer (some ⟨p, 0, none⟩), .int .i64 page, .int .i64 n] w fun r w' => r = .returned (.int .i64 (clrC pages s page n)) ∧ Wrote p F pages (clrS pages s page n) w w' := by
  have HC := Lib.hid (show inR pages page n = false → clrC pages s page n = 11 ∧ clrS pages s page n = s from fun h => by
    have : clrC pages s page n = 11 := by unfold clrC; rw [if_neg (by simp [h])]
    exact ⟨this, by unfold clrS; rw [this, if_neg (by decide)]⟩)
  have HD := Lib.hid (show inR pages page n = true → allNZ s.ws page.toNat n.toNat = false → clrC pages s page n = 16 ∧ clrS pages s page n = s from fun h1 h2 => by
    have : clrC pages s page n = 16 := by unfold clrC; rw [if_pos h1, if_neg (by simp [h2])]
    exact ⟨this, by unfold clrS; rw [this, if_neg (by decide)]⟩)
  have HY := Lib.hid (show inR pages page n = true → allNZ s.ws page.toNat n.toNat = true → clrC pages s page n = 0 ∧ clrS pages s page n = ⟨fillW s.ws page.toNat n.toNat 0, nextS s.st⟩ from fun h1 h2 => by
    have : clrC pages s page n = 0 := by unfold clrC; rw [if_pos h1, if_pos h2]
    exact ⟨this, by unfold clrS; rw [this, if_pos rfl]⟩)
  have HIn := Lib.hid (in_calls w p F pages s page n h)
  have HNt := Lib.hid (next_calls w p F pages s h)
  have HT := Lib.hid (nextS_ok s.st)
  have HSt := Lib.hid (h.stamp (nextS_ok s.st))
  have HP := Lib.hid h
  have c2 := h.c2
  have h12 := h.ok.p12
  have f2 : w.frozen? ⟨p, 2, none⟩ = false := by
    obtain ⟨rb, hs, hh⟩ := h.ex
    exact hh.head.free 2
  cases hi : inR pages page n with
  | false =>
    rw [hi] at HIn
    obtain ⟨e1, e2⟩ := HC.out hi
    rw [e1, e2]
    clear h HC HD HY e1 e2
    go_enter Try.func27, Try.ntmps27
    go_wp2_with fail
    refine HIn.out.mono ?_
    rintro e w5 ⟨rfl, rfl⟩
    go_wp2_with fail
    go_ret
    exact ⟨rfl, wrote_same HP.out (Below.refl _ _)⟩
  | true =>
    rw [hi] at HIn
    obtain ⟨a, m, rfl, rfl, hm1, ham⟩ := inR_nat hi
    have HD := Lib.hid (HD.out hi)
    have HY := Lib.hid (HY.out hi)
    rw [Int.toNat_natCast, Int.toNat_natCast] at HD HY
    generalize clrC pages s (a : Int) (m : Int) = cc at HD HY ⊢
    generalize clrS pages s (a : Int) (m : Int) = ss at HD HY ⊢
    clear h HC hi
    go_enter Try.func27, Try.ntmps27
    go_wp2_with fail
    refine HIn.out.mono ?_
    rintro e w5 ⟨rfl, rfl⟩
    go_wp2_with fail
    go_loopw [15] (fun i wr => ∃ k : Nat, i = .int .i64 k ∧ k ≤ m ∧ (∀ j, j < k → s.ws (a + j) ≠ 0) ∧ w = wr) (fun i _ => m - (intOf i).toNat)
    case atStart => exact ⟨0, rfl, by omega, fun j hj => by omega, rfl⟩
    case round =>
      obtain ⟨k, rfl, hk, hnz, rfl⟩ := hrel
      have HNZ := Lib.hid hnz
      clear hnz
      by_cases hlt : k < m
      · have hw := rword_calls w p F pages s ((a + k : Nat) : Int) HP.out
        rw [wordAt_in (by omega), show ((a + k : Nat) : Int) = (a : Int) + (k : Int) by omega] at hw
        have HW := Lib.hid hw
        clear hw
        by_cases h0 : s.ws (a + k) = 0
        · rw [h0] at HW
          obtain ⟨rfl, rfl⟩ := HD.out (allNZ_false hlt h0)
          clear h0
          go_wp2_with fail
          refine HW.out.mono ?_
          rintro e w5 ⟨rfl, rfl⟩
          go_wp2_with fail
          go_ret
          exact ⟨rfl, wrote_same HP.out (Below.refl _ _)⟩
        · have h0' : (s.ws (a + k) == 0) = false := beq_eq_false_iff_ne.2 h0
          have HN := Lib.hid h0
          clear h0
          go_wp2_with fail
          refine HW.out.mono ?_
          rintro e w5 ⟨rfl, rfl⟩
          go_wp2_with fail
          go_roundw
          case rel => exact ⟨k + 1, by go_num, by omega, fun j hj => (by
            by_cases e : j = k
            · rw [e]; exact HN.out
            · exact HNZ.out j (by omega)), trivial⟩
          case measure => simp [intOf]; omega
      · obtain rfl : k = m := by omega
        obtain ⟨rfl, rfl⟩ := HY.out (allNZ_true HNZ.out)
        go_wp2_with fail
        refine HNt.out.mono ?_
        rintro e w5 ⟨rfl, rfl⟩
        go_upto_region 10 with fail
        have HW5 := Lib.hid (HSt.out)
        have HOk := Lib.hid HP.out.ok
        clear HSt c2 f2 HP HNt HIn
        generalize w.setCell ⟨p, 2, none⟩ (.int .u64 (nextS s.st)) = w5 at HW5 ⊢
        go_wp2_with fail
        go_loopw [31] (fun i wr => ∃ j : Nat, i = .int .i64 j ∧ j ≤ k ∧ Wrote p F pages ⟨fillW s.ws a j 0, nextS s.st⟩ w wr) (fun i _ => k - (intOf i).toNat)
        case atStart => exact ⟨0, rfl, by omega, by rw [fillW_zero]; exact HW5.out⟩
        case round =>
          obtain ⟨j, rfl, hj, hW⟩ := hrel
          have HW := Lib.hid hW
          clear HW5
          by_cases hlt2 : j < k
          · obtain ⟨F1, hR, hK1, hF1⟩ := hW
            have hput := put_calls wr p F1 pages ⟨fillW s.ws a j 0, nextS s.st⟩ (a + j) 0 hR (by omega) (.inr (by show fillW s.ws a j 0 (a + j) ≠ 0; rw [fillW_at]; exact HNZ.out j hlt2)) (by
              rw [fill_put]
              exact HOk.out.fill (by omega) (.inl rfl) _ HT.out)
            rw [fill_put, show ((a + j : Nat) : Int) = (a : Int) + (j : Int) by omega] at hput
            have HPut := Lib.hid hput
            have HFk := Lib.hid (And.intro hK1 hF1)
            clear hput hR hK1 hF1
            go_wp2_with fail
            refine HPut.out.mono ?_
            rintro e w6 ⟨⟨v, rfl⟩, F2, hR2, hK2, hF2⟩
            have HW6 := Lib.hid (show Wrote p F pages ⟨fillW s.ws a (j + 1) 0, nextS s.st⟩ w w6 from ⟨F2, hR2, HFk.out.1.step hK2 HFk.out.2, fun y hy => by
              rcases hF2 y hy with h | h
              · exact HFk.out.2 y h
              · exact .inr (Nat.le_trans HFk.out.1.size h)⟩)
            clear hR2 hK2 hF2
            go_wp2_with fail
            go_roundw
            case rel => exact ⟨j + 1, by go_num, by omega, HW6.out⟩
            case measure => simp [intOf]; omega
          · obtain rfl : j = k := by omega
            go_wp2_with fail
            go_ret
            exact ⟨rfl, HW.out⟩
end Go.Proofs.Ytldlogmjkbhomaa.Rad
