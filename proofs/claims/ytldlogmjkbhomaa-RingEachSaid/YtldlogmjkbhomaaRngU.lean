/- The contracts of package underpinref07's Put (all ways) and Remove. -/
import Derived.Test.YtldlogmjkbhomaaRngT
set_option linter.unusedSimpArgs false
namespace Go.Proofs.Ytldlogmjkbhomaa.Rng
open Go.RowKit Go.Proofs.Ytldlogmjkbhomaa.Aid
section
variable (w : World) (q : Nat) (F : List Nat) (N L : Nat) (s : RgS)
theorem rput_calls (l x : Int) (b : Bool) (h : LAt w q F N L s) :
    Calls Try.prog 72 #[.pointer (some ⟨q, 0, none⟩), .int .i64 l, .int .i64 x, .bool b] w fun e w' => e = .returned (.int .i64 (putV s N L l x)) ∧ LWrote q F N L (putS s N L l x b) w w' := by
  have HS := Lib.hid (show putV s N L l x ≠ 0 → putS s N L l x b = s from fun h => by unfold putS; rw [if_neg h])
  have HSy := Lib.hid (show putV s N L l x = 0 → putS s N L l x b = updL s l.toNat (if b = true then x.toNat :: s l.toNat else s l.toNat ++ [x.toNat]) from fun h => by unfold putS; rw [if_pos h])
  obtain ⟨lb, hs, hP⟩ := h.ex
  have HR := Lib.hid h
  have c0 := hP.c0
  have c1 := hP.c1
  have hok := h.ok
  by_cases hin : inP L l = true ∧ inP N x = true
  · obtain ⟨hl, hx⟩ := hin
    obtain ⟨l, rfl, hlL⟩ := inP_nat hl
    obtain ⟨x, rfl, hxN⟩ := inP_nat hx
    by_cases ha : (lk s L x).a = -1
    · have hv : putV s N L l x = 0 := by unfold putV; rw [if_pos ⟨hl, hx⟩, Int.toNat_natCast, if_pos ha]
      rw [HSy.out hv, hv, Int.toNat_natCast, Int.toNat_natCast]
      have hxn := (lk_a_none hok).1 ha
      cases b with
      | true => rw [if_pos rfl]; exact rput_front w q F N L s l x h hlL hxN hxn
      | false => rw [if_neg (by decide)]; exact rput_back w q F N L s l x h hlL hxN hxn
    · have hv : putV s N L l x = 15 := by unfold putV; rw [if_pos ⟨hl, hx⟩, Int.toNat_natCast, if_neg ha]
      rw [HS.out (by rw [hv]; decide), hv]
      have HI := Lib.hid (rin_calls w q F N L s x h)
      have HInn := Lib.hid (fun (a b : Int) (hab : InAt s L x a b) => show 0 ≤ a from by
        rcases hab with ⟨rfl, rfl, h⟩ | ⟨l, A, y, B, rfl, _⟩
        · exact absurd ((lk_a_none hok).2 fun l hx => h l (hok.lL hx) x hx rfl) ha
        · omega)
      have l0 : (0 : Int) ≤ (l : Int) := by omega
      have l1 : (l : Int) < (L : Int) := by omega
      have x0 : (0 : Int) ≤ (x : Int) := by omega
      have x1 : (x : Int) < (N : Int) := by omega
      clear h hP hok hv hl hx ha HS HSy hlL hxN
      go_enter Try.func72, Try.ntmps72
      go_wp2_with fail
      refine HI.out.mono ?_
      rintro e w2 ⟨⟨a, b, rfl, hab⟩, rfl⟩
      have ha0 := HInn.out a b hab
      clear hab HI HInn
      go_wp2_with fail
      go_ret
      exact ⟨rfl, lwrote_same HR.out⟩
  · have hv : putV s N L l x = 11 := by unfold putV; rw [if_neg hin]
    rw [HS.out (by rw [hv]; decide), hv]
    have hin2 : ¬ ((0 ≤ l ∧ l < (L : Int)) ∧ 0 ≤ x ∧ x < (N : Int)) := by
      unfold inP at hin
      simpa using hin
    clear h hP hok hv hin HS HSy
    by_cases g1 : l < 0
    · clear hin2
      go_enter Try.func72, Try.ntmps72
      go_wp2
      go_ret
      exact ⟨rfl, lwrote_same HR.out⟩
    · by_cases g2 : (L : Int) ≤ l
      · clear hin2
        go_enter Try.func72, Try.ntmps72
        go_wp2
        go_ret
        exact ⟨rfl, lwrote_same HR.out⟩
      · by_cases g3 : x < 0
        · clear hin2
          go_enter Try.func72, Try.ntmps72
          go_wp2
          go_ret
          exact ⟨rfl, lwrote_same HR.out⟩
        · have g4 : (N : Int) ≤ x := by omega
          clear hin2
          go_enter Try.func72, Try.ntmps72
          go_wp2
          go_ret
          exact ⟨rfl, lwrote_same HR.out⟩
/-- append of the rest of a row. -/
theorem ap_rest (W : World) (g1 c1 b cb cr o k m : Nat) (xs zs ys : List Nat) (h1 : Recs enc1 1 W IT g1 c1 xs) (hY : Recs enc1 1 W IT b cb (zs ++ ys)) (hk : zs.length = k) (ho : ys ≠ [] → o = k) (hm : ys.length = m) (hl : xs.length + ys.length ≤ 100000) :
    ∃ g2 c2 w', (Builtin.append_ #[68, 68] 68 #[.slice (some ⟨g1, 0, none⟩) xs.length c1, .slice (some ⟨b, o, none⟩) m cr]).run Try.prog W = .ok (.slice (some ⟨g2, 0, none⟩) (xs.length + m) c2) w' ∧ Gr W g1 g2 c2 w' (xs ++ ys) := by
  subst hk hm
  obtain ⟨i0, hi, hz1, hz2, hz3⟩ := info_parts info_int
  have hH : Hdr enc1 1 W IT (.slice (some ⟨g1, 0, none⟩) xs.length c1) xs := .inr ⟨g1, c1, rfl, h1⟩
  obtain ⟨v', w', hrun, k1, k2, k3, k4⟩ := run_append_own_at (P := Try.prog) W 0 68 68 IT i0 _ 1 8 Try.underlying68 hi hz1 hz2 hz3 rfl (by decide) _ xs.length _ (hH.own enc1_len) ⟨b, o, none⟩ ys.length cr (ys.flatMap enc1) (flat_len enc1_len ys) (fun j u hj => by
    rw [Addr.add_mid]
    have hjl : j < ys.length := by
      have := (List.getElem?_eq_some_iff.1 hj).1
      rwa [flat_len enc1_len, Nat.mul_one] at this
    rw [ho (fun e => by rw [e] at hjl; cases hjl)]
    have h2 : (zs ++ ys)[zs.length + j]? = some ys[j] := by
      rw [List.getElem?_append_right (by omega), Nat.add_sub_cancel_left, List.getElem?_eq_getElem hjl]
    have h3 := hY.at_ enc1_len (j := 0) h2 rfl
    have h4 := flat_get enc1_len ys j 0 ys[j] (List.getElem?_eq_getElem hjl) (by decide)
    rw [Nat.mul_one, Nat.add_zero] at h3 h4
    rw [h3]
    rw [hj] at h4
    exact h4.symm) (fun u hu => by
      obtain ⟨x, _, hx⟩ := List.mem_flatMap.1 hu
      exact enc1_one x u hx) (by unfold maxLen; omega) (by omega) (Nat.zero_le _)
  rw [← List.flatMap_append] at k1
  have hnn : v' ≠ .slice none 0 0 := fun e1 => by cases (k3.1 e1).1
  obtain ⟨g, c2, rfl, hr, _⟩ := Recs.of_own k1 (by simp) hnn
  refine ⟨g, c2, w', hrun, hr, fun i hi2 hF => k2.block i hi2 (fun h => hF (Option.some.inj (show some i = some g1 from h))), ?_, k2.size, k2.os, k2.tape, k2.output⟩
  rcases k4 with h | h
  · exact .inl (Option.some.inj (show some g = some g1 from h))
  · have : g = W.heap.size := Option.some.inj (show some g = some W.heap.size from h)
    exact .inr (by omega)
theorem split_len {x : Nat} : ∀ (A A' B B' : List Nat), x ∉ A → x ∉ A' → A ++ x :: B = A' ++ x :: B' → A.length = A'.length
  | [], [], _, _, _, _, _ => rfl
  | [], a :: A', _, _, _, h2, e => by
    rw [List.nil_append, List.cons_append] at e
    injection e with e1 _
    subst e1
    exact absurd List.mem_cons_self h2
  | a :: A, [], _, _, h1, _, e => by
    rw [List.nil_append, List.cons_append] at e
    injection e with e1 _
    subst e1
    exact absurd List.mem_cons_self h1
  | a :: A, a' :: A', B, B', h1, h2, e => by
    rw [List.cons_append, List.cons_append] at e
    injection e with _ e2
    rw [List.length_cons, List.length_cons, split_len A A' B B' (fun h => h1 (List.mem_cons_of_mem _ h)) (fun h => h2 (List.mem_cons_of_mem _ h)) e2]
theorem nat_wrap1 {k : Nat} (h : k ≤ 4096) : IntKind.i64.wrap ((k : Int) + 1) = ((k + 1 : Nat) : Int) := by
  rw [i64_wrap]; unfold wrap64; omega
set_option maxHeartbeats 8000000 in
set_option maxRecDepth 20000 in
attribute [-go_sem] Builtin.append_ in
theorem rrem_yes (l x : Nat) (A B : List Nat) (h : LAt w q F N L s) (e : s l = A ++ x :: B) (hxN : x < N) :
    Calls Try.prog 73 #[.pointer (some ⟨q, 0, none⟩), .int .i64 x] w fun e w' => e = .returned (.int .i64 0) ∧ LWrote q F N L (updL s l (A ++ B)) w w' := by
  have HI := Lib.hid (rin_calls w q F N L s x h)
  have hok := h.ok
  have hl : l < L := hok.lL (show x ∈ s l by rw [e]; simp)
  obtain ⟨lb, hs, hP⟩ := h.ex
  have HInn := Lib.hid (fun (a b : Int) (hab : InAt s L x a b) => show a = l ∧ b = (A.length : Nat) from by
    rcases hab with ⟨rfl, rfl, hno⟩ | ⟨l', A', y, B', rfl, rfl, hl', e', hy⟩
    · exact absurd rfl (hno l hl x (by rw [e]; simp))
    · obtain rfl : x = y := Int.ofNat_inj.1 hy
      obtain rfl : l = l' := hok.dj l l' x (by rw [e]; simp) (by rw [e']; simp)
      have hnd := hok.nd l
      have hA1 : x ∉ A := fun hm => by rw [e, List.nodup_append] at hnd; exact hnd.2.2 x hm x (by simp) rfl
      have hA2 : x ∉ A' := fun hm => by rw [e', List.nodup_append] at hnd; exact hnd.2.2 x hm x (by simp) rfl
      refine ⟨rfl, ?_⟩
      rw [split_len A A' B B' hA1 hA2 (e.symm.trans e')])
  have c0 := hP.c0
  have c1 := hP.c1
  obtain ⟨hd, hk, hc, hH⟩ := hP.row hl
  rw [e] at hH
  obtain ⟨g, c, rfl, hR⟩ : ∃ g c, hd = .slice (some ⟨g, 0, none⟩) (A ++ x :: B).length c ∧ Recs enc1 1 w IT g c (A ++ x :: B) := by
    rcases hH with ⟨_, h0⟩ | h0
    · exact absurd h0 (by simp)
    · exact h0
  have hN := hok.n
  have hL := hok.l2
  have hln : (A ++ x :: B).length ≤ 4096 := by have := hok.len l; rw [e] at this; omega
  have hll : (A ++ x :: B).length = A.length + (B.length + 1) := by simp
  have hcap : (A ++ x :: B).length ≤ c := hR.cap
  obtain ⟨n, hn⟩ : ∃ n, n = (A ++ x :: B).length := ⟨_, rfl⟩
  have hb0 := (Below.refl w.heap.size w).alloc (Nat.le_refl _) (.cells #[] 3)
  have hA : Recs enc1 1 w IT g c A := by
    have := hR.cut enc1_len (k := A.length) (by omega)
    rwa [List.take_left'] at this
    rfl
  obtain ⟨g1, cc, w1, hrun1, hG1⟩ := ap0_run (w.alloc (.cells #[] 3)) w.heap.size (.slice (some ⟨g, 0, none⟩) A.length c) A (recs0 w) (.inr ⟨g, c, rfl, hA.below hb0⟩) (by omega)
  obtain ⟨b1, l1⟩ := hG1.below hb0 hb0.size (Nat.le_refl _)
  have hR1 := hR.below b1
  have hsp : A ++ x :: B = (A ++ [x]) ++ B := by simp
  rw [hsp] at hR1
  obtain ⟨o, hif, ho⟩ : ∃ o, (if c = A.length + 1 then (some ⟨g, 0, none⟩ : Option Addr) else some ⟨g, A.length + 1, none⟩) = some ⟨g, o, none⟩ ∧ (B ≠ [] → o = A.length + 1) := by
    by_cases hck : c = A.length + 1
    · exact ⟨0, if_pos hck, fun hB => absurd (List.eq_nil_of_length_eq_zero (by omega)) hB⟩
    · exact ⟨A.length + 1, if_neg hck, fun _ => rfl⟩
  obtain ⟨g2, c2, w2, hrun2, hG2⟩ := ap_rest w1.drew g1 cc g c (c - (A.length + 1)) o (A.length + 1) (n - (A.length + 1)) A (A ++ [x]) B hG1.recs.drew hR1.drew (by simp) ho (by omega) (by omega)
  obtain ⟨b2, l2⟩ := hG2.below b1.drew b1.size l1
  have hrow : ∀ W, Below w.heap.size w W → W.cell? ⟨lb, l, none⟩ = some (.slice (some ⟨g, 0, none⟩) n c) := fun W hb => by
    have hlt : l < hs.length := by rw [hP.hlen]; exact hl
    rw [(hP.rows.below hb).cell hlt, hk, hn]
  have r0 := hrow _ hb0
  have r1 := hrow _ b1
  have r2 := hrow _ b2
  have f2 := (hP.rows.below b2).free l
  have c1b := (hP.head.below b1).cell (o := 1) rfl
  have c1a := (hP.head.below hb0).cell (o := 1) rfl
  have hlAB : A.length + (n - (A.length + 1)) = (A ++ B).length := by simp; omega
  have HFin := Lib.hid (lwrote_set hP (ok_del hok e) b2 l2 hG2.recs)
  rw [← hlAB] at HFin
  have S0 := Lib.hid c1b
  have S1 := Lib.hid ((hP.head.below b2).cell (o := 1) rfl)
  have S2 := Lib.hid (((hP.head.below b2).other (a := ⟨lb, l, none⟩) hP.ne (.slice (some ⟨g2, 0, none⟩) (A.length + (n - (A.length + 1))) c2)).cell (o := 1) rfl)
  have l0 : (0 : Int) ≤ (l : Int) := by omega
  have l1' : (l : Int) < (L : Int) := by omega
  have x0 : (0 : Int) ≤ (x : Int) := by omega
  have x1 : (x : Int) < (N : Int) := by omega
  have hw1 := nat_wrap1 (k := A.length) (by omega)
  have n1 : A.length + 1 ≤ n := by omega
  have n2 : n ≤ c := by omega
  have n3 : A.length ≤ c := by omega
  have n4 : (A.length : Int) + 1 ≤ (n : Int) := by omega
  have n5 : (0 : Int) ≤ (A.length : Int) + 1 := by omega
  rw [← hn] at hc
  clear ho hn hll hln hcap hN hL hsp hlAB
  generalize A.length = k at *
  have HRun := Lib.hid (And.intro hrun1 hrun2)
  have HC := Lib.hid (And.intro r0 (And.intro r1 (And.intro r2 (And.intro f2 (And.intro c1b c1a)))))
  clear h hP hH hok hR hA hb0 hG1 b1 l1 hR1 hG2 b2 l2 hrow r0 r1 r2 f2 c1b c1a hk hl hxN hrun1 hrun2
  go_enter Try.func73, Try.ntmps73
  go_wp2_with fail
  refine HI.out.mono ?_
  rintro e w2 ⟨⟨a, b, rfl, hab⟩, rfl⟩
  obtain ⟨rfl, rfl⟩ := HInn.out a b hab
  clear hab HI HInn
  obtain ⟨hrun1, hrun2⟩ := HRun.out
  obtain ⟨r0, r1, r2, f2, c1b, c1a⟩ := HC.out
  go_upto_region 7 with fail
  go_cut [] (fun wc => LWrote q F N L (updL s l (A ++ B)) w wc)
  case first =>
    -- TREE 73 |~ 7 |~ 12 |~ fun w' => w'.cell? ⟨q, 1, none⟩ = some (.slice (some ⟨lb, 0, none⟩) L L) |~ (first | exact S0.out | exact S1.out | exact S2.out) |~ 4 |~ (go_wp2_with fail);;(go_meet);;(exact HFin.out)
    refine wp_region_held_drew (S := fun w' => w'.cell? ⟨q, 1, none⟩ = some (.slice (some ⟨lb, 0, none⟩) L L)) (by kernel_rfl) ?_ (fun hHeld => ?_)
    · (try dsimp only); (first | exact S0.out | exact S1.out | exact S2.out)
    refine wpAnyH_take (i := 0) (v := ?_) rfl (by kernel_rfl) (by kernel_rfl) (by kernel_rfl) (fun _ _ _ h => h) (Or.inl ⟨by rfl, ?_⟩) (by assumption) ?_
    rotate_left
    · (intro w hSw; (try dsimp only at hSw); go_simp <;> with_reducible rfl)
    (try simp only [Act.put, List.setIfInBounds_toArray, List.set_cons_zero, List.set_cons_succ])
    refine wpAnyH_take (i := 1) (v := ?_) rfl (by kernel_rfl) (by kernel_rfl) (by kernel_rfl) (fun _ _ _ h => h) (Or.inl ⟨by rfl, ?_⟩) (by assumption) ?_
    rotate_left
    · (intro w hSw; (try dsimp only at hSw); go_simp <;> with_reducible rfl)
    (try simp only [Act.put, List.setIfInBounds_toArray, List.set_cons_zero, List.set_cons_succ])
    refine wpAnyH_take (i := 2) (v := ?_) rfl (by kernel_rfl) (by kernel_rfl) (by kernel_rfl) (fun _ _ _ h => h) (Or.inl ⟨by rfl, ?_⟩) (by assumption) ?_
    rotate_left
    · (intro w hSw; (try dsimp only at hSw); go_simp <;> with_reducible rfl)
    (try simp only [Act.put, List.setIfInBounds_toArray, List.set_cons_zero, List.set_cons_succ])
    refine wpAnyH_take (i := 3) (v := ?_) rfl (by kernel_rfl) (by kernel_rfl) (by kernel_rfl) (fun _ _ _ h => h) (Or.inl ⟨by rfl, ?_⟩) (by assumption) ?_
    rotate_left
    · (intro w hSw; (try dsimp only at hSw); go_simp <;> with_reducible rfl)
    (try simp only [Act.put, List.setIfInBounds_toArray, List.set_cons_zero, List.set_cons_succ])
    refine wpAnyH_take (i := 4) (v := ?_) rfl (by kernel_rfl) (by kernel_rfl) (by kernel_rfl) (fun _ _ _ h => h) (Or.inl ⟨by rfl, ?_⟩) (by assumption) ?_
    rotate_left
    · (intro w hSw; (try dsimp only at hSw); go_simp <;> with_reducible rfl)
    (try simp only [Act.put, List.setIfInBounds_toArray, List.set_cons_zero, List.set_cons_succ])
    refine wpAnyH_take (i := 5) (v := ?_) rfl (by kernel_rfl) (by kernel_rfl) (by kernel_rfl) (fun _ _ _ h => h) (Or.inl ⟨by rfl, ?_⟩) (by assumption) ?_
    rotate_left
    · (intro w hSw; (try dsimp only at hSw); go_simp <;> with_reducible rfl)
    (try simp only [Act.put, List.setIfInBounds_toArray, List.set_cons_zero, List.set_cons_succ])
    refine wpAnyH_take (i := 6) (v := ?_) rfl (by kernel_rfl) (by kernel_rfl) (by kernel_rfl) (fun _ _ _ h => h) (Or.inl ⟨by rfl, ?_⟩) (by assumption) ?_
    rotate_left
    · (intro w hSw; (try dsimp only at hSw); go_simp <;> with_reducible rfl)
    (try simp only [Act.put, List.setIfInBounds_toArray, List.set_cons_zero, List.set_cons_succ])
    refine wpAnyH_take (i := 7) (v := ?_) rfl (by kernel_rfl) (by kernel_rfl) (by kernel_rfl) (fun _ _ _ h => h) (Or.inl ⟨by rfl, ?_⟩) (by assumption) ?_
    rotate_left
    · (intro w hSw; (try dsimp only at hSw); go_simp <;> with_reducible rfl)
    (try simp only [Act.put, List.setIfInBounds_toArray, List.set_cons_zero, List.set_cons_succ])
    refine wpAnyH_take (i := 8) (v := ?_) rfl (by kernel_rfl) (by kernel_rfl) (by kernel_rfl) (fun _ _ _ h => h) (Or.inl ⟨by rfl, ?_⟩) (by assumption) ?_
    rotate_left
    · (intro w hSw; (try dsimp only at hSw); go_simp <;> with_reducible rfl)
    (try simp only [Act.put, List.setIfInBounds_toArray, List.set_cons_zero, List.set_cons_succ])
    refine wpAnyH_take (i := 9) (v := ?_) rfl (by kernel_rfl) (by kernel_rfl) (by kernel_rfl) (fun _ _ _ h => h) (Or.inl ⟨by rfl, ?_⟩) (by assumption) ?_
    rotate_left
    · (intro w hSw; (try dsimp only at hSw); go_simp <;> with_reducible rfl)
    (try simp only [Act.put, List.setIfInBounds_toArray, List.set_cons_zero, List.set_cons_succ])
    refine wpAnyH_take (i := 10) (v := ?_) rfl (by kernel_rfl) (by kernel_rfl) (by kernel_rfl) (fun _ _ _ h => h) (Or.inl ⟨by rfl, ?_⟩) (by assumption) ?_
    rotate_left
    · (intro w hSw; (try dsimp only at hSw); go_simp <;> with_reducible rfl)
    (try simp only [Act.put, List.setIfInBounds_toArray, List.set_cons_zero, List.set_cons_succ])
    refine wpAnyH_take (i := 11) (v := ?_) rfl (by kernel_rfl) (by kernel_rfl) (by kernel_rfl) (fun _ _ _ h => h) (Or.inl ⟨by rfl, ?_⟩) (by assumption) ?_
    rotate_left
    · (intro w hSw; (try dsimp only at hSw); go_simp <;> with_reducible rfl)
    (try simp only [Act.put, List.setIfInBounds_toArray, List.set_cons_zero, List.set_cons_succ])
    refine wpAnyH_take (i := 13) (v := ?_) rfl (by kernel_rfl) (by kernel_rfl) (by kernel_rfl) (fun _ _ _ h => h) (Or.inl ⟨by rfl, ?_⟩) (by assumption) ?_
    rotate_left
    · (intro w hSw; (try dsimp only at hSw); go_simp <;> with_reducible rfl)
    (try simp only [Act.put, List.setIfInBounds_toArray, List.set_cons_zero, List.set_cons_succ])
    refine wpAnyH_take (i := 14) (v := ?_) rfl (by kernel_rfl) (by kernel_rfl) (by kernel_rfl) (fun _ _ _ h => h) (Or.inl ⟨by rfl, ?_⟩) (by assumption) ?_
    rotate_left
    · (intro w hSw; (try dsimp only at hSw); go_simp <;> with_reducible rfl)
    (try simp only [Act.put, List.setIfInBounds_toArray, List.set_cons_zero, List.set_cons_succ])
    refine wpAnyH_ready (rs := [12]) (by kernel_rfl) (by simp) ?_
    refine AllReadyH.cons rfl (fun K hK => ?_) ?_
    · go_simp
      refine hK.out _ _ ?_ (fun hHeld => ?_)
      · (try dsimp only); (first | exact S0.out | exact S1.out | exact S2.out)
      clear hK K
      (try simp only [Act.put, List.setIfInBounds_toArray, List.set_cons_zero, List.set_cons_succ])
      refine wpAnyH_take (i := 15) (v := ?_) rfl (by kernel_rfl) (by kernel_rfl) (by kernel_rfl) (fun _ _ _ h => h) (Or.inl ⟨by rfl, ?_⟩) (by assumption) ?_
      rotate_left
      · (intro w hSw; (try dsimp only at hSw); go_simp <;> with_reducible rfl)
      (try simp only [Act.put, List.setIfInBounds_toArray, List.set_cons_zero, List.set_cons_succ])
      refine wpAnyH_ready (rs := [16]) (by kernel_rfl) (by simp) ?_
      refine AllReadyH.cons rfl (fun K hK => ?_) ?_
      · go_simp
        refine hK.out _ _ ?_ (fun hHeld => ?_)
        · (try dsimp only); (first | exact S0.out | exact S1.out | exact S2.out)
        clear hK K
        (try simp only [Act.put, List.setIfInBounds_toArray, List.set_cons_zero, List.set_cons_succ])
        refine wpAnyH_take (i := 17) (v := ?_) rfl (by kernel_rfl) (by kernel_rfl) (by kernel_rfl) (fun _ _ _ h => h) (Or.inl ⟨by rfl, ?_⟩) (by assumption) ?_
        rotate_left
        · (intro w hSw; (try dsimp only at hSw); go_simp <;> with_reducible rfl)
        (try simp only [Act.put, List.setIfInBounds_toArray, List.set_cons_zero, List.set_cons_succ])
        refine wpAnyH_ready (rs := [18]) (by kernel_rfl) (by simp) ?_
        refine AllReadyH.cons rfl (fun K hK => ?_) ?_
        · go_simp
          refine hK.out _ _ ?_ (fun hHeld => ?_)
          · (try dsimp only); (first | exact S0.out | exact S1.out | exact S2.out)
          clear hK K
          (try simp only [Act.put, List.setIfInBounds_toArray, List.set_cons_zero, List.set_cons_succ])
          refine wpAnyH_done (by kernel_rfl) ?_ _
          (go_wp2_with fail)
          (go_meet)
          (exact HFin.out)
        exact AllReadyH.nil
      exact AllReadyH.nil
    exact AllReadyH.nil
    -- END
  case rest =>
  have HC := Lib.hid hcut
  go_wp2_with fail
  go_ret
  exact ⟨rfl, HC.out⟩
theorem rremove_calls (x : Int) (h : LAt w q F N L s) :
    Calls Try.prog 73 #[.pointer (some ⟨q, 0, none⟩), .int .i64 x] w fun e w' => e = .returned (.int .i64 (remV s N L x)) ∧ LWrote q F N L (remS s N L x) w w' := by
  obtain ⟨lb, hs, hP⟩ := h.ex
  have HR := Lib.hid h
  have c0 := hP.c0
  have hok := h.ok
  cases hx : inP N x with
  | false =>
    have hv : remV s N L x = 11 := by unfold remV; rw [if_neg (by simp [hx])]
    have hs : remS s N L x = s := by unfold remS; rw [hv, if_neg (by decide)]
    rw [hv, hs]
    have hin2 := inP_no hx
    clear h hP hok hv hx hs
    by_cases g3 : x < 0
    · clear hin2
      go_enter Try.func73, Try.ntmps73
      go_wp2
      go_ret
      exact ⟨rfl, lwrote_same HR.out⟩
    · have g4 : (N : Int) ≤ x := by omega
      clear hin2
      go_enter Try.func73, Try.ntmps73
      go_wp2
      go_ret
      exact ⟨rfl, lwrote_same HR.out⟩
  | true =>
    obtain ⟨x, rfl, hxN⟩ := inP_nat hx
    rcases where_is s x with ⟨l, hl⟩ | hno
    · obtain ⟨A0, B0, e⟩ := List.append_of_mem hl
      have hlk := lk_at h.ok e
      have hv : remV s N L x = 0 := by unfold remV; rw [if_pos hx, Int.toNat_natCast, hlk, if_neg (by simp only; omega)]
      have hxA : x ∉ A0 := fun hm => by
        have := h.ok.nd l
        rw [e, List.nodup_append] at this
        exact this.2.2 x hm x (by simp) rfl
      have hs : remS s N L x = updL s l (A0 ++ B0) := by
        unfold remS
        rw [if_pos hv, Int.toNat_natCast, hlk]
        simp only [Int.toNat_natCast]
        rw [e, List.erase_append_right _ hxA, List.erase_cons_head]
      rw [hv, hs]
      exact rrem_yes w q F N L s l x A0 B0 h e hxN
    · have ha := lk_none (L := L) hno
      have hv : remV s N L x = 16 := by unfold remV; rw [if_pos hx, Int.toNat_natCast, ha, if_pos rfl]
      have hs : remS s N L x = s := by unfold remS; rw [hv, if_neg (by decide)]
      rw [hv, hs]
      have HI := Lib.hid (rin_calls w q F N L s x h)
      have HInn := Lib.hid (fun (a b : Int) (hab : InAt s L x a b) => show a = -1 from by rw [← in_none hok hab, ha])
      have x0 : (0 : Int) ≤ (x : Int) := by omega
      have x1 : (x : Int) < (N : Int) := by omega
      clear h hP hok hv hx hs ha hno hxN
      go_enter Try.func73, Try.ntmps73
      go_wp2_with fail
      refine HI.out.mono ?_
      rintro e w2 ⟨⟨a, b, rfl, hab⟩, rfl⟩
      obtain rfl := HInn.out a b hab
      clear hab HI HInn
      go_wp2_with fail
      go_ret
      exact ⟨rfl, lwrote_same HR.out⟩
end
end Go.Proofs.Ytldlogmjkbhomaa.Rng
