/- The contract of package remote's Send. -/
import Derived.Test.YtchnhmcedmicgaaRemD
set_option linter.unusedSimpArgs false
namespace Go.Proofs.Ytchnhmcedmicgaa.Rem
open Go.RowKit Go.Proofs.Ytchnhmcedmicgaa.Aid
/-- What the counting of a pair meets and leaves. -/
structure Bumped (w : World) (sb : Nat) (f t : Int) (c : Nat) (v0 : Value) (st : Nat) (w1 w2 : World) : Prop where
  e1 : (Instr.mapEntry 132 (.map (some sb)) (.agg #[.int .i64 f, .int .i64 t])).run Try.prog w = .ok (.tuple #[v0, .int .i64 st]) w1
  e2 : (Instr.lookup 132 (.map (some sb)) (.agg #[.int .i64 f, .int .i64 t]) false).run Try.prog w = .ok (.int .i64 (c : Nat)) w
  e3 : (Instr.lookup 132 (.map (some sb)) (.agg #[.int .i64 f, .int .i64 t]) false).run Try.prog w1 = .ok (.int .i64 (c : Nat)) w1
  e4 : (Instr.entryStore 132 (.map (some sb)) (.int .i64 st) (.int .i64 (IntKind.i64.wrap ((c : Nat) + 1)))).run Try.prog w1 = .ok () w2
  k1 : Kept [sb] w w1
  k2 : Kept [sb] w w2
theorem lookup_pair {w : World} {sb m' : Nat} {g : List Int → Option Int} {f t : Int} (h : MapI w Try.prog PT 3 .i64 (keL .i64) (okL .i64 2) sb m' g) (hK : okL .i64 2 [f, t]) :
    (Instr.lookup 132 (.map (some sb)) (.agg #[.int .i64 f, .int .i64 t]) false).run Try.prog w = .ok (.int .i64 ((g [f, t]).getD 0)) w := (h.look keyAsP huS huI (zero_int w) hK).1
theorem bump_pair {w : World} {sb m m' : Nat} {g : List Int → Option Int} {s : QRun} {f t : Int} (h : MapI w Try.prog PT 3 .i64 (keL .i64) (okL .i64 2) sb m' g) (hK : okL .i64 2 [f, t]) (hg : ∀ f t, (g [f, t]).getD 0 = s.sent f t) (hm : m' ≤ m) (hms : m ≤ 100000) (hs : s.sent f t ≤ m) :
    ∃ v0 st w1 w2, Bumped w sb f t (s.sent f t) v0 st w1 w2 ∧ ∃ m'' g', m'' ≤ m + 1 ∧ MapI w2 Try.prog PT 3 .i64 (keL .i64) (okL .i64 2) sb m'' g' ∧ ∀ f' t', (g' [f', t']).getD 0 = sent1 s f t f' t' := by
  obtain ⟨v0, st, w1, e1, e2, e3, k1, hst⟩ := h.bump keyAsP lawKP huS huI zero_int (by unfold maxLen; omega) hK
  obtain ⟨w2, e4, hM, k2⟩ := hst ((s.sent f t : Nat) + 1) (by simp [Lit.wf, IntKind.min, IntKind.max, IntKind.signed, IntKind.bits]; omega)
  rw [hg] at e2 e3
  refine ⟨v0, st, w1, w2, ⟨e1, e2, e3, by rw [IntWalk.i64_in _ (by omega)]; exact e4, k1, k2⟩, _, _, ?_, hM, fun f' t' => ?_⟩
  · split <;> omega
  · unfold upd sent1
    by_cases e : f' = f ∧ t' = t
    · rw [if_pos e, if_pos (by rw [e.1, e.2])]
      simp
    · rw [if_neg e, if_neg (by intro h; apply e; injection h with h1 h2; injection h2 with h2; exact ⟨h1, h2⟩)]
      exact hg f' t'
set_option maxHeartbeats 8000000 in
theorem send_no (w : World) (p : Nat) (F : List Nat) (n m : Nat) (s : QRun) (f t a : Int) (h : QAt w p F n m s) (hc : sendC n s f t a ≠ 0) :
    Calls Try.prog 51 #[.pointer (some ⟨p, 0, none⟩), .int .i64 f, .int .i64 t, .int .i64 a] w fun e w' => e = .returned (.int .i64 (sendC n s f t a)) ∧ w = w' := by
  have HF := Lib.hid (worker_calls w p F n m s f h)
  have HT := Lib.hid (worker_calls w p F n m s t h)
  unfold sendC at hc ⊢
  by_cases hr : (0 ≤ f ∧ f < n) ∧ (0 ≤ t ∧ t < n) ∧ 0 ≤ a ∧ a < 1048576
  · rw [if_pos hr] at hc ⊢
    have hwh : (whr s a).isSome = true := by
      by_cases e : (whr s a).isSome = true
      · exact e
      · rw [if_neg e] at hc; exact absurd rfl hc
    rw [if_pos hwh]
    have HW := Lib.hid (where_calls w p F n m s a (okI_at hr.2.2.1 hr.2.2.2) h)
    obtain ⟨k, hk⟩ := Option.isSome_iff_exists.1 hwh
    rw [show whrV s a = k by unfold whrV; rw [hk]] at HW
    rw [show isW n f = true from decide_eq_true hr.1] at HF
    rw [show isW n t = true from decide_eq_true hr.2.1] at HT
    have h0 := hr.2.2.1
    have h1 := hr.2.2.2
    have hne : ((k : Int) != -1) = true := by rw [bne_iff_ne]; omega
    clear h hc hr hwh hk
    go_enter Try.func51, Try.ntmps51
    go_wp2_with (first
      | (go_at_call 80; (with_reducible refine (Calls.mono HF.out ?_)); rintro e w1 ⟨rfl, rfl⟩)
      | (go_at_call 80; (with_reducible refine (Calls.mono HT.out ?_)); rintro e w1 ⟨rfl, rfl⟩)
      | (go_at_call 60; (with_reducible refine (Calls.mono HW.out ?_)); rintro e w1 ⟨rfl, rfl⟩)
      | fail)
    go_ret
    exact ⟨rfl, rfl⟩
  · rw [if_neg hr]
    by_cases hf : 0 ≤ f ∧ f < n
    · rw [show isW n f = true from decide_eq_true hf] at HF
      by_cases ht : 0 ≤ t ∧ t < n
      · rw [show isW n t = true from decide_eq_true ht] at HT
        by_cases ha : a < 0
        · clear h hc hr hf ht
          go_enter Try.func51, Try.ntmps51
          go_wp2_with (first
            | (go_at_call 80; (with_reducible refine (Calls.mono HF.out ?_)); rintro e w1 ⟨rfl, rfl⟩)
            | (go_at_call 80; (with_reducible refine (Calls.mono HT.out ?_)); rintro e w1 ⟨rfl, rfl⟩)
            | fail)
          go_ret
          exact ⟨rfl, rfl⟩
        · have ha2 : 1048576 ≤ a := by omega
          clear h hc hr hf ht
          go_enter Try.func51, Try.ntmps51
          go_wp2_with (first
            | (go_at_call 80; (with_reducible refine (Calls.mono HF.out ?_)); rintro e w1 ⟨rfl, rfl⟩)
            | (go_at_call 80; (with_reducible refine (Calls.mono HT.out ?_)); rintro e w1 ⟨rfl, rfl⟩)
            | fail)
          go_ret
          exact ⟨rfl, rfl⟩
      · rw [show isW n t = false from decide_eq_false ht] at HT
        clear h hc hr hf ht
        go_enter Try.func51, Try.ntmps51
        go_wp2_with (first
          | (go_at_call 80; (with_reducible refine (Calls.mono HF.out ?_)); rintro e w1 ⟨rfl, rfl⟩)
          | (go_at_call 80; (with_reducible refine (Calls.mono HT.out ?_)); rintro e w1 ⟨rfl, rfl⟩)
          | fail)
        go_ret
        exact ⟨rfl, rfl⟩
    · rw [show isW n f = false from decide_eq_false hf] at HF
      clear h hc hr hf
      go_enter Try.func51, Try.ntmps51
      go_wp2_with (first
        | (go_at_call 80; (with_reducible refine (Calls.mono HF.out ?_)); rintro e w1 ⟨rfl, rfl⟩)
        | fail)
      go_ret
      exact ⟨rfl, rfl⟩
set_option maxHeartbeats 8000000 in
attribute [-go_sem] Builtin.append_ in
theorem send_yes (w : World) (p : Nat) (F : List Nat) (n m : Nat) (s : QRun) (f : Int) (k : Nat) (a : Int) (h : QAt w p F n m s) (hc : sendC n s f k a = 0) (hm : m < 100000) :
    Calls Try.prog 51 #[.pointer (some ⟨p, 0, none⟩), .int .i64 f, .int .i64 k, .int .i64 a] w fun e w' => e = .returned (.int .i64 0) ∧ Wrote p F n (m + 1) (sendD s f k a) w w' := by
  have HC := Lib.hid hc
  obtain ⟨⟨hf, ht, ha⟩, hw⟩ := sendC_zero hc
  have HF := Lib.hid (worker_calls w p F n m s f h)
  have HT := Lib.hid (worker_calls w p F n m s k h)
  have HW := Lib.hid (where_calls w p F n m s a (okI_at ha.1 ha.2) h)
  rw [show whrV s a = -1 by unfold whrV; rw [hw]] at HW
  rw [show isW n f = true from decide_eq_true hf] at HF
  rw [show isW n k = true from decide_eq_true ht] at HT
  have HA := Lib.hid (okI_at ha.1 ha.2)
  have HQ := Lib.hid h
  have hkn : k < n := by omega
  have hsl := h.ok.most f k
  have hsm := h.small
  have hK : okL .i64 2 [f, (k : Int)] := ⟨rfl, fun x hx => by
    have h64 := h.ok.n64
    simp at hx
    rcases hx with rfl | rfl <;> simp [Lit.wf, IntKind.min, IntKind.max, IntKind.signed, IntKind.bits] <;> omega⟩
  obtain ⟨rb, wb, sb, hs, hP⟩ := h.ex
  obtain ⟨n1, n2, n3, n4, n5, n6⟩ := hP.ne
  obtain ⟨hd, hh, _, hH⟩ := hP.hd hkn
  have HO := Lib.hid (fun g (hg : hd.ownBlock = some g) => hP.out k hd g hh hg)
  have hb1 := (Below.refl w.heap.size w).alloc (Nat.le_refl _) (.cells #[.int .i64 f, .int .i64 k] PT)
  have hq := Blk.new w #[.int .i64 f, .int .i64 k] PT
  have hP1 := hP.same hb1.size fun i hi _ => hb1.block i hi
  have HqF := Lib.hid (show w.heap.size ∉ F ∧ w.heap.size ≠ rb ∧ w.heap.size ≠ sb from ⟨fun hx => by have := hP.flt _ hx; omega, by have := hP.rows.lt; omega, by obtain ⟨_, _, _, h2, _⟩ := hP.sent; have := h2.lt; omega⟩)
  have HP := Lib.hid hP
  have hh64 := h.ok.n64
  have hk1 : (k : Int) < (n : Int) := by omega
  have hk0 : (0 : Int) ≤ (k : Int) := by omega
  have ha0 := ha.1
  have ha1 := ha.2
  clear h hc hf ht ha hw hP
  go_enter Try.func51, Try.ntmps51
  go_upto_region 6 with (first
    | (go_at_call 80; (with_reducible refine (Calls.mono HF.out ?_)); rintro e w1 ⟨rfl, rfl⟩)
    | (go_at_call 80; (with_reducible refine (Calls.mono HT.out ?_)); rintro e w1 ⟨rfl, rfl⟩)
    | (go_at_call 60; (with_reducible refine (Calls.mono HW.out ?_)); rintro e w1 ⟨rfl, rfl⟩)
    | fail)
  clear HF HT HW
  generalize w.alloc (.cells #[.int .i64 f, .int .i64 k] PT) = w1 at hb1 hq hP1 ⊢
  obtain ⟨q, hqq⟩ : ∃ q, q = w.heap.size := ⟨_, rfl⟩
  rw [← hqq] at hq HqF ⊢
  clear hqq
  obtain ⟨m', g0, hm1, hM1, hg0⟩ := hP1.sent
  have hM1d : MapI w1.drew Try.prog PT 3 .i64 (keL .i64) (okL .i64 2) sb m' g0 := hM1
  obtain ⟨v0, st, w2, w3, hB, m2, g2, hm2, hM3, hg2⟩ := bump_pair hM1d hK hg0 hm1 hsm hsl
  have hqsb : q ≠ sb := HqF.out.2.2
  have c2 := hP1.c2
  have q0 := hq.cell (o := 0) rfl
  have q1 := hq.cell (o := 1) rfl
  have c22 := (hP1.head.kept (undrewK hB.k1) (by simpa using n3)).cell (o := 2) rfl
  have hq2 := hq.kept (undrewK hB.k1) (by simpa using hqsb)
  have q02 := hq2.cell (o := 0) rfl
  have q12 := hq2.cell (o := 1) rfl
  have hk3 := undrewK hB.k2
  have hh3 := hP1.head.kept hk3 (by simpa using n3)
  have c23 := hh3.cell (o := 2) rfl
  have hq3 := hq.kept hk3 (by simpa using hqsb)
  have q03 := hq3.cell (o := 0) rfl
  have q13 := hq3.cell (o := 1) rfl
  have e1 := hB.e1
  have e2 := hB.e2
  have e3 := hB.e3
  have e4 := hB.e4
  clear hq2
  go_cut [] (fun wc => w3 = wc)
  case first =>
    go_region_held3 (fun w' => w'.cell? ⟨p, 2, none⟩ = some (.map (some sb)) ∧ w'.cell? ⟨q, 0, none⟩ = some (.int .i64 f) ∧ w'.cell? ⟨q, 1, none⟩ = some (.int .i64 k)) (first | exact ⟨c2, q0, q1⟩ | exact ⟨c22, q02, q12⟩ | exact ⟨c23, q03, q13⟩) (fail)
    all_goals (go_wp2_with fail; go_meet; exact rfl)
  case rest =>
  obtain rfl := hcut
  clear e1 e2 e3 e4 c2 q0 q1 c22 q02 q12 hB
  obtain ⟨sq, hsq⟩ : ∃ sq : Int, sq = (s.sent f k : Int) + 1 := ⟨_, rfl⟩
  have e5 := lookup_pair (show MapI w3.drew Try.prog PT 3 .i64 (keL .i64) (okL .i64 2) sb m2 g2 from hM3) hK
  rw [hg2, show ((sent1 s f k f k : Nat) : Int) = sq by rw [hsq]; unfold sent1; rw [if_pos ⟨rfl, rfl⟩]; omega] at e5
  have Hsq := Lib.hid hsq
  clear hsq
  have hrw3 := hP1.rows.kept hk3 (by simpa using n5)
  have hget : hs[k]? = some hd := hh
  have hkl : k < hs.length := (List.getElem?_eq_some_iff.1 hh).1
  have c03 := hh3.cell (o := 0) rfl
  have ch3 : w3.cell? ⟨rb, k, none⟩ = some hd := by rw [hrw3.cell hkl]; exact hh
  have hH3 : Hdr encI 3 w3.drew IT hd (row s k) := (hP1.each k hd hh).kept (hk3.drew) (fun g hg => by have := (HO.out g hg).2.2.2.2; simpa using this)
  have hlen : (row s k).length ≤ 1000000 := by have h1 := row_le_total (s := s) k; have h2 := HQ.out.ok.few; omega
  obtain ⟨g4, c4, w4, r1, hR4, hold4, hown4, hz4, ho4, ht4, hu4⟩ := append_rec_run (P := Try.prog) 100 100 IT _ 24 Try.underlying100 infoI rfl (by decide) encI_len encI_one hH3 (⟨f, a, sq⟩ : It) hlen (by decide)
  have r1' : (Builtin.append_ #[100, 100] 100 #[hd, .slice (some ⟨w3.heap.size, 0, none⟩) 1 1]).run Try.prog (w3.alloc (.cells #[.int .i64 f, .int .i64 a, .int .i64 sq] IT)).drew = .ok (.slice (some ⟨g4, 0, none⟩) ((row s k).length + 1) c4) w4 := r1
  clear r1
  have hba := (Below.refl w3.heap.size w3).alloc (Nat.le_refl _) (.cells #[.int .i64 f, .int .i64 a, .int .i64 sq] IT)
  have c0a := (hba.cell (p := ⟨p, 0, none⟩) hh3.lt).trans c03
  have cha := (hba.cell (p := ⟨rb, k, none⟩) hrw3.lt).trans ch3
  have hh4 : Blk w4 p _ QT := (hold4 p hh3.lt (fun e => (HO.out p e).2.1 rfl)).trans hh3
  have hrw4 : Row w4 100 rb n hs := hrw3.block (hold4 rb hrw3.lt (fun e => (HO.out rb e).2.2.1 rfl))
  have c04 := hh4.cell (o := 0) rfl
  have ch4 : w4.cell? ⟨rb, k, none⟩ = some hd := by rw [hrw4.cell hkl]; exact hh
  have fh4 := hrw4.free k
  have hqd : q ∉ F ∧ q ≠ rb := ⟨HqF.out.1, HqF.out.2.1⟩
  have hq4 : Blk w4 q #[.int .i64 f, .int .i64 k] PT := (hold4 q hq3.lt (fun e => hqd.1 (HO.out q e).1)).trans hq3
  have hqa := hq3.below hba
  have hha := hh3.below hba
  have s3 := Lib.hid (And.intro c03 (And.intro c23 (And.intro q03 q13)))
  have sa := Lib.hid (And.intro (hha.cell (o := 0) rfl) (And.intro (hha.cell (o := 2) rfl) (And.intro (hqa.cell (o := 0) rfl) (hqa.cell (o := 1) rfl))))
  have s4 := Lib.hid (And.intro (hh4.cell (o := 0) rfl) (And.intro (hh4.cell (o := 2) rfl) (And.intro (hq4.cell (o := 0) rfl) (hq4.cell (o := 1) rfl))))
  have hh5 := hh4.other (a := ⟨rb, k, none⟩) n1 (.slice (some ⟨g4, 0, none⟩) ((row s k).length + 1) c4)
  have hq5 := hq4.other (a := ⟨rb, k, none⟩) hqd.2 (.slice (some ⟨g4, 0, none⟩) ((row s k).length + 1) c4)
  have s5 := Lib.hid (And.intro (hh5.cell (o := 0) rfl) (And.intro (hh5.cell (o := 2) rfl) (And.intro (hq5.cell (o := 0) rfl) (hq5.cell (o := 1) rfl))))
  have HR4 := Lib.hid hR4
  have Hold4 := Lib.hid hold4
  have Hown4 := Lib.hid hown4
  have HZ4 := Lib.hid (And.intro hz4 (And.intro ho4 (And.intro ht4 hu4)))
  have HM3 := Lib.hid (And.intro hm2 (And.intro hM3 hg2))
  have HP1 := Lib.hid hP1
  have HB1 := Lib.hid hb1
  have HK3 := Lib.hid hk3
  have Hh4 := Lib.hid hh4
  have HRw4 := Lib.hid hrw4
  have HH := Lib.hid hh
  clear hR4 hold4 hown4 hz4 ho4 ht4 hu4 hM3 hm2 hg2 hP1 hb1 hk3 hh4 hrw4 hrw3 hh3 hH3 hba hH hget hh hm1 hM1 hM1d hg0 hq hq3 hK hqa hha hq4 hh5 hq5 hqd c03 c23 q03 q13 c0a c04
  go_upto_region 7 with fail
  go_cut [] (fun wc => w4.setCell ⟨rb, k, none⟩ (.slice (some ⟨g4, 0, none⟩) ((row s k).length + 1) c4) = wc)
  case first =>
    refine wp_region_held_drew (S := fun w' => w'.cell? ⟨p, 0, none⟩ = some (.slice (some ⟨rb, 0, none⟩) n n) ∧ w'.cell? ⟨p, 2, none⟩ = some (.map (some sb)) ∧ w'.cell? ⟨q, 0, none⟩ = some (.int .i64 f) ∧ w'.cell? ⟨q, 1, none⟩ = some (.int .i64 k)) (by kernel_rfl) ?_ (fun hHeld => ?_)
    · (try dsimp only); (first | exact s3.out | exact sa.out | exact s4.out | exact s5.out)
    refine wpAnyH_take (i := 0) (v := ?_) rfl (by kernel_rfl) (by kernel_rfl) (by kernel_rfl) (fun _ _ _ h => h) (Or.inl ⟨by rfl, ?_⟩) (by assumption) ?_
    rotate_left
    · (intro w hSw; (try dsimp only at hSw); go_simp <;> with_reducible rfl)
    (try simp only [Act.put, List.setIfInBounds_toArray, List.set_cons_zero, List.set_cons_succ])
    refine wpAnyH_take (i := 1) (v := ?_) rfl (by kernel_rfl) (by kernel_rfl) (by kernel_rfl) (fun _ _ _ h => h) (Or.inl ⟨by rfl, ?_⟩) (by assumption) ?_
    rotate_left
    · (intro w hSw; (try dsimp only at hSw); go_simp <;> with_reducible rfl)
    (try simp only [Act.put, List.setIfInBounds_toArray, List.set_cons_zero, List.set_cons_succ])
    refine wpAnyH_take (i := 2) (v := ?_) rfl (by kernel_rfl) (by kernel_rfl) (by kernel_rfl) (fun _ _ _ h => h) (Or.inl ⟨by rfl, ?_⟩) (by assumption) ?_
    rotate_left
    · (intro w hSw; (try dsimp only at hSw); go_simp <;> with_reducible rfl)
    (try simp only [Act.put, List.setIfInBounds_toArray, List.set_cons_zero, List.set_cons_succ])
    refine wpAnyH_take (i := 3) (v := ?_) rfl (by kernel_rfl) (by kernel_rfl) (by kernel_rfl) (fun _ _ _ h => h) (Or.inl ⟨by rfl, ?_⟩) (by assumption) ?_
    rotate_left
    · (intro w hSw; (try dsimp only at hSw); go_simp <;> with_reducible rfl)
    (try simp only [Act.put, List.setIfInBounds_toArray, List.set_cons_zero, List.set_cons_succ])
    refine wpAnyH_take (i := 4) (v := ?_) rfl (by kernel_rfl) (by kernel_rfl) (by kernel_rfl) (fun _ _ _ h => h) (Or.inl ⟨by rfl, ?_⟩) (by assumption) ?_
    rotate_left
    · (intro w hSw; (try dsimp only at hSw); go_simp <;> with_reducible rfl)
    (try simp only [Act.put, List.setIfInBounds_toArray, List.set_cons_zero, List.set_cons_succ])
    refine wpAnyH_take (i := 5) (v := ?_) rfl (by kernel_rfl) (by kernel_rfl) (by kernel_rfl) (fun _ _ _ h => h) (Or.inl ⟨by rfl, ?_⟩) (by assumption) ?_
    rotate_left
    · (intro w hSw; (try dsimp only at hSw); go_simp <;> with_reducible rfl)
    (try simp only [Act.put, List.setIfInBounds_toArray, List.set_cons_zero, List.set_cons_succ])
    refine wpAnyH_take (i := 6) (v := ?_) rfl (by kernel_rfl) (by kernel_rfl) (by kernel_rfl) (fun _ _ _ h => h) (Or.inl ⟨by rfl, ?_⟩) (by assumption) ?_
    rotate_left
    · (intro w hSw; (try dsimp only at hSw); go_simp <;> with_reducible rfl)
    (try simp only [Act.put, List.setIfInBounds_toArray, List.set_cons_zero, List.set_cons_succ])
    refine wpAnyH_take (i := 7) (v := ?_) rfl (by kernel_rfl) (by kernel_rfl) (by kernel_rfl) (fun _ _ _ h => h) (Or.inl ⟨by rfl, ?_⟩) (by assumption) ?_
    rotate_left
    · (intro w hSw; (try dsimp only at hSw); go_simp <;> with_reducible rfl)
    (try simp only [Act.put, List.setIfInBounds_toArray, List.set_cons_zero, List.set_cons_succ])
    refine wpAnyH_take (i := 8) (v := ?_) rfl (by kernel_rfl) (by kernel_rfl) (by kernel_rfl) (fun _ _ _ h => h) (Or.inl ⟨by rfl, ?_⟩) (by assumption) ?_
    rotate_left
    · (intro w hSw; (try dsimp only at hSw); go_simp <;> with_reducible rfl)
    (try simp only [Act.put, List.setIfInBounds_toArray, List.set_cons_zero, List.set_cons_succ])
    refine wpAnyH_take (i := 9) (v := ?_) rfl (by kernel_rfl) (by kernel_rfl) (by kernel_rfl) (fun _ _ _ h => h) (Or.inl ⟨by rfl, ?_⟩) (by assumption) ?_
    rotate_left
    · (intro w hSw; (try dsimp only at hSw); go_simp <;> with_reducible rfl)
    (try simp only [Act.put, List.setIfInBounds_toArray, List.set_cons_zero, List.set_cons_succ])
    refine wpAnyH_take (i := 10) (v := ?_) rfl (by kernel_rfl) (by kernel_rfl) (by kernel_rfl) (fun _ _ _ h => h) (Or.inl ⟨by rfl, ?_⟩) (by assumption) ?_
    rotate_left
    · (intro w hSw; (try dsimp only at hSw); go_simp <;> with_reducible rfl)
    (try simp only [Act.put, List.setIfInBounds_toArray, List.set_cons_zero, List.set_cons_succ])
    refine wpAnyH_take (i := 12) (v := ?_) rfl (by kernel_rfl) (by kernel_rfl) (by kernel_rfl) (fun _ _ _ h => h) (Or.inl ⟨by rfl, ?_⟩) (by assumption) ?_
    rotate_left
    · (intro w hSw; (try dsimp only at hSw); go_simp <;> with_reducible rfl)
    (try simp only [Act.put, List.setIfInBounds_toArray, List.set_cons_zero, List.set_cons_succ])
    refine wpAnyH_take (i := 13) (v := ?_) rfl (by kernel_rfl) (by kernel_rfl) (by kernel_rfl) (fun _ _ _ h => h) (Or.inl ⟨by rfl, ?_⟩) (by assumption) ?_
    rotate_left
    · (intro w hSw; (try dsimp only at hSw); go_simp <;> with_reducible rfl)
    (try simp only [Act.put, List.setIfInBounds_toArray, List.set_cons_zero, List.set_cons_succ])
    refine wpAnyH_take (i := 14) (v := ?_) rfl (by kernel_rfl) (by kernel_rfl) (by kernel_rfl) (fun _ _ _ h => h) (Or.inl ⟨by rfl, ?_⟩) (by assumption) ?_
    rotate_left
    · (intro w hSw; (try dsimp only at hSw); go_simp <;> with_reducible rfl)
    (try simp only [Act.put, List.setIfInBounds_toArray, List.set_cons_zero, List.set_cons_succ])
    refine wpAnyH_take (i := 15) (v := ?_) rfl (by kernel_rfl) (by kernel_rfl) (by kernel_rfl) (fun _ _ _ h => h) (Or.inl ⟨by rfl, ?_⟩) (by assumption) ?_
    rotate_left
    · (intro w hSw; (try dsimp only at hSw); go_simp <;> with_reducible rfl)
    (try simp only [Act.put, List.setIfInBounds_toArray, List.set_cons_zero, List.set_cons_succ])
    refine wpAnyH_take (i := 16) (v := ?_) rfl (by kernel_rfl) (by kernel_rfl) (by kernel_rfl) (fun _ _ _ h => h) (Or.inl ⟨by rfl, ?_⟩) (by assumption) ?_
    rotate_left
    · (intro w hSw; (try dsimp only at hSw); go_simp <;> with_reducible rfl)
    (try simp only [Act.put, List.setIfInBounds_toArray, List.set_cons_zero, List.set_cons_succ])
    refine wpAnyH_take (i := 17) (v := ?_) rfl (by kernel_rfl) (by kernel_rfl) (by kernel_rfl) (fun _ _ _ h => h) (Or.inl ⟨by rfl, ?_⟩) (by assumption) ?_
    rotate_left
    · (intro w hSw; (try dsimp only at hSw); go_simp <;> with_reducible rfl)
    (try simp only [Act.put, List.setIfInBounds_toArray, List.set_cons_zero, List.set_cons_succ])
    refine wpAnyH_take (i := 18) (v := ?_) rfl (by kernel_rfl) (by kernel_rfl) (by kernel_rfl) (fun _ _ _ h => h) (Or.inl ⟨by rfl, ?_⟩) (by assumption) ?_
    rotate_left
    · (intro w hSw; (try dsimp only at hSw); go_simp <;> with_reducible rfl)
    (try simp only [Act.put, List.setIfInBounds_toArray, List.set_cons_zero, List.set_cons_succ])
    refine wpAnyH_ready (rs := [11, 19]) (by kernel_rfl) (by simp) ?_
    refine AllReadyH.cons rfl (fun K hK => ?_) ?_
    · go_simp
      refine hK.out _ _ ?_ (fun hHeld => ?_)
      · (try dsimp only); (first | exact s3.out | exact sa.out | exact s4.out | exact s5.out)
      clear hK K
      (try simp only [Act.put, List.setIfInBounds_toArray, List.set_cons_zero, List.set_cons_succ])
      refine wpAnyH_ready (rs := [19]) (by kernel_rfl) (by simp) ?_
      refine AllReadyH.cons rfl (fun K hK => ?_) ?_
      · go_simp
        refine hK.out _ _ ?_ (fun hHeld => ?_)
        · (try dsimp only); (first | exact s3.out | exact sa.out | exact s4.out | exact s5.out)
        clear hK K
        (try simp only [Act.put, List.setIfInBounds_toArray, List.set_cons_zero, List.set_cons_succ])
        refine wpAnyH_take (i := 20) (v := ?_) rfl (by kernel_rfl) (by kernel_rfl) (by kernel_rfl) (fun _ _ _ h => h) (Or.inl ⟨by rfl, ?_⟩) (by assumption) ?_
        rotate_left
        · (intro w hSw; (try dsimp only at hSw); go_simp <;> with_reducible rfl)
        (try simp only [Act.put, List.setIfInBounds_toArray, List.set_cons_zero, List.set_cons_succ])
        refine wpAnyH_ready (rs := [21]) (by kernel_rfl) (by simp) ?_
        refine AllReadyH.cons rfl (fun K hK => ?_) ?_
        · go_simp
          refine hK.out _ _ ?_ (fun hHeld => ?_)
          · (try dsimp only); (first | exact s3.out | exact sa.out | exact s4.out | exact s5.out)
          clear hK K
          (try simp only [Act.put, List.setIfInBounds_toArray, List.set_cons_zero, List.set_cons_succ])
          refine wpAnyH_ready (rs := [22]) (by kernel_rfl) (by simp) ?_
          refine AllReadyH.cons rfl (fun K hK => ?_) ?_
          · go_simp
            refine hK.out _ _ ?_ (fun hHeld => ?_)
            · (try dsimp only); (first | exact s3.out | exact sa.out | exact s4.out | exact s5.out)
            clear hK K
            (try simp only [Act.put, List.setIfInBounds_toArray, List.set_cons_zero, List.set_cons_succ])
            refine wpAnyH_take (i := 23) (v := ?_) rfl (by kernel_rfl) (by kernel_rfl) (by kernel_rfl) (fun _ _ _ h => h) (Or.inl ⟨by rfl, ?_⟩) (by assumption) ?_
            rotate_left
            · (intro w hSw; (try dsimp only at hSw); go_simp <;> with_reducible rfl)
            (try simp only [Act.put, List.setIfInBounds_toArray, List.set_cons_zero, List.set_cons_succ])
            refine wpAnyH_ready (rs := [24]) (by kernel_rfl) (by simp) ?_
            refine AllReadyH.cons rfl (fun K hK => ?_) ?_
            · go_simp
              refine hK.out _ _ ?_ (fun hHeld => ?_)
              · (try dsimp only); (first | exact s3.out | exact sa.out | exact s4.out | exact s5.out)
              clear hK K
              (try simp only [Act.put, List.setIfInBounds_toArray, List.set_cons_zero, List.set_cons_succ])
              refine wpAnyH_done (by kernel_rfl) ?_ _
              go_wp2_with fail
              go_meet
              exact rfl
            exact AllReadyH.nil
          exact AllReadyH.nil
        exact AllReadyH.nil
      exact AllReadyH.nil
    refine AllReadyH.cons rfl (fun K hK => ?_) ?_
    · go_simp
      refine hK.out _ _ ?_ (fun hHeld => ?_)
      · (try dsimp only); (first | exact s3.out | exact sa.out | exact s4.out | exact s5.out)
      clear hK K
      (try simp only [Act.put, List.setIfInBounds_toArray, List.set_cons_zero, List.set_cons_succ])
      refine wpAnyH_take (i := 20) (v := ?_) rfl (by kernel_rfl) (by kernel_rfl) (by kernel_rfl) (fun _ _ _ h => h) (Or.inl ⟨by rfl, ?_⟩) (by assumption) ?_
      rotate_left
      · (intro w hSw; (try dsimp only at hSw); go_simp <;> with_reducible rfl)
      (try simp only [Act.put, List.setIfInBounds_toArray, List.set_cons_zero, List.set_cons_succ])
      refine wpAnyH_ready (rs := [11, 21]) (by kernel_rfl) (by simp) ?_
      refine AllReadyH.cons rfl (fun K hK => ?_) ?_
      · go_simp
        refine hK.out _ _ ?_ (fun hHeld => ?_)
        · (try dsimp only); (first | exact s3.out | exact sa.out | exact s4.out | exact s5.out)
        clear hK K
        (try simp only [Act.put, List.setIfInBounds_toArray, List.set_cons_zero, List.set_cons_succ])
        refine wpAnyH_ready (rs := [21]) (by kernel_rfl) (by simp) ?_
        refine AllReadyH.cons rfl (fun K hK => ?_) ?_
        · go_simp
          refine hK.out _ _ ?_ (fun hHeld => ?_)
          · (try dsimp only); (first | exact s3.out | exact sa.out | exact s4.out | exact s5.out)
          clear hK K
          (try simp only [Act.put, List.setIfInBounds_toArray, List.set_cons_zero, List.set_cons_succ])
          refine wpAnyH_ready (rs := [22]) (by kernel_rfl) (by simp) ?_
          refine AllReadyH.cons rfl (fun K hK => ?_) ?_
          · go_simp
            refine hK.out _ _ ?_ (fun hHeld => ?_)
            · (try dsimp only); (first | exact s3.out | exact sa.out | exact s4.out | exact s5.out)
            clear hK K
            (try simp only [Act.put, List.setIfInBounds_toArray, List.set_cons_zero, List.set_cons_succ])
            refine wpAnyH_take (i := 23) (v := ?_) rfl (by kernel_rfl) (by kernel_rfl) (by kernel_rfl) (fun _ _ _ h => h) (Or.inl ⟨by rfl, ?_⟩) (by assumption) ?_
            rotate_left
            · (intro w hSw; (try dsimp only at hSw); go_simp <;> with_reducible rfl)
            (try simp only [Act.put, List.setIfInBounds_toArray, List.set_cons_zero, List.set_cons_succ])
            refine wpAnyH_ready (rs := [24]) (by kernel_rfl) (by simp) ?_
            refine AllReadyH.cons rfl (fun K hK => ?_) ?_
            · go_simp
              refine hK.out _ _ ?_ (fun hHeld => ?_)
              · (try dsimp only); (first | exact s3.out | exact sa.out | exact s4.out | exact s5.out)
              clear hK K
              (try simp only [Act.put, List.setIfInBounds_toArray, List.set_cons_zero, List.set_cons_succ])
              refine wpAnyH_done (by kernel_rfl) ?_ _
              go_wp2_with fail
              go_meet
              exact rfl
            exact AllReadyH.nil
          exact AllReadyH.nil
        exact AllReadyH.nil
      refine AllReadyH.cons rfl (fun K hK => ?_) ?_
      · go_simp
        refine hK.out _ _ ?_ (fun hHeld => ?_)
        · (try dsimp only); (first | exact s3.out | exact sa.out | exact s4.out | exact s5.out)
        clear hK K
        (try simp only [Act.put, List.setIfInBounds_toArray, List.set_cons_zero, List.set_cons_succ])
        refine wpAnyH_ready (rs := [11]) (by kernel_rfl) (by simp) ?_
        refine AllReadyH.cons rfl (fun K hK => ?_) ?_
        · go_simp
          refine hK.out _ _ ?_ (fun hHeld => ?_)
          · (try dsimp only); (first | exact s3.out | exact sa.out | exact s4.out | exact s5.out)
          clear hK K
          (try simp only [Act.put, List.setIfInBounds_toArray, List.set_cons_zero, List.set_cons_succ])
          refine wpAnyH_ready (rs := [22]) (by kernel_rfl) (by simp) ?_
          refine AllReadyH.cons rfl (fun K hK => ?_) ?_
          · go_simp
            refine hK.out _ _ ?_ (fun hHeld => ?_)
            · (try dsimp only); (first | exact s3.out | exact sa.out | exact s4.out | exact s5.out)
            clear hK K
            (try simp only [Act.put, List.setIfInBounds_toArray, List.set_cons_zero, List.set_cons_succ])
            refine wpAnyH_take (i := 23) (v := ?_) rfl (by kernel_rfl) (by kernel_rfl) (by kernel_rfl) (fun _ _ _ h => h) (Or.inl ⟨by rfl, ?_⟩) (by assumption) ?_
            rotate_left
            · (intro w hSw; (try dsimp only at hSw); go_simp <;> with_reducible rfl)
            (try simp only [Act.put, List.setIfInBounds_toArray, List.set_cons_zero, List.set_cons_succ])
            refine wpAnyH_ready (rs := [24]) (by kernel_rfl) (by simp) ?_
            refine AllReadyH.cons rfl (fun K hK => ?_) ?_
            · go_simp
              refine hK.out _ _ ?_ (fun hHeld => ?_)
              · (try dsimp only); (first | exact s3.out | exact sa.out | exact s4.out | exact s5.out)
              clear hK K
              (try simp only [Act.put, List.setIfInBounds_toArray, List.set_cons_zero, List.set_cons_succ])
              refine wpAnyH_done (by kernel_rfl) ?_ _
              go_wp2_with fail
              go_meet
              exact rfl
            exact AllReadyH.nil
          exact AllReadyH.nil
        exact AllReadyH.nil
      exact AllReadyH.nil
    exact AllReadyH.nil
  case rest =>
  obtain rfl := hcut
  clear s3 sa s4 s5 ch3 cha ch4 fh4 r1' e5
  have Hg4 := Lib.hid (show g4 ≠ rb ∧ g4 ≠ wb ∧ g4 ≠ sb ∧ g4 ≠ p from by
    have l1 := (HP1.out.rows.kept HK3.out (by simpa using n5)).lt
    have l2 := (HP1.out.whr.kept HK3.out (by simpa using n6)).lt
    have l3 := HM3.out.2.1.lt
    have l4 := (HP1.out.head.kept HK3.out (by simpa using n3)).lt
    rcases Hown4.out with e | e
    · obtain ⟨_, a1, a2, a3, a4⟩ := HO.out g4 e
      exact ⟨a2, a3, a4, a1⟩
    · have e : w3.heap.size ≤ g4 := e
      omega)
  have hmw : MapI (w4.setCell ⟨rb, k, none⟩ (.slice (some ⟨g4, 0, none⟩) ((row s k).length + 1) c4)) Try.prog 3 3 .i64 (keI .i64) (okI .i64) wb (total s) (whrI s) :=
    ((HP1.out.whr.kept HK3.out (by simpa using n6)).block (Hold4.out wb (HP1.out.whr.kept HK3.out (by simpa using n6)).lt (fun e => (HO.out wb e).2.2.2.1 rfl))).other (a := ⟨rb, k, none⟩) (Ne.symm n4) _
  have HMw := Lib.hid hmw
  have c15 := (Hh4.out.other (a := ⟨rb, k, none⟩) n1 (.slice (some ⟨g4, 0, none⟩) ((row s k).length + 1) c4)).cell (o := 1) rfl
  have HRow5 := Lib.hid (HRw4.out.store k (.slice (some ⟨g4, 0, none⟩) ((row s k).length + 1) c4))
  have HR5 := Lib.hid (HR4.out.other (a := ⟨rb, k, none⟩) Hg4.out.1 (.slice (some ⟨g4, 0, none⟩) ((row s k).length + 1) c4))
  have hnone : whrI s a = none := whrI_none (sendC_zero HC.out).2
  have HS5 := Lib.hid ((HM3.out.2.1.block (w' := w4) (Hold4.out sb HM3.out.2.1.lt (fun e => (HO.out sb e).2.2.2.2 rfl))).other (a := ⟨rb, k, none⟩) (Ne.symm n5) (.slice (some ⟨g4, 0, none⟩) ((row s k).length + 1) c4))
  have HK5 := Lib.hid (show Kept (rb :: F) w (w4.setCell ⟨rb, k, none⟩ (.slice (some ⟨g4, 0, none⟩) ((row s k).length + 1) c4)) from by
    have k1 : Kept (rb :: F) w w3 := (Kept.of_below HB1.out _).trans (HK3.out.mono (by have := HP.out.ins.2.2.2; simp [this]))
    obtain ⟨z1, z2, z3, z4⟩ := HZ4.out
    have k2 : Kept (rb :: F) w3 w4 := ⟨z2, z3, z4, z1, fun i hi hF => Hold4.out i hi (fun e => hF (by simp [(HO.out i e).1]))⟩
    exact (k1.trans k2).setCell (p := ⟨rb, k, none⟩) (by simp) _)
  have hwf : (Lit.int .i64 (k : Int)).wf = true := by simp [Lit.wf, IntKind.min, IntKind.max, IntKind.signed, IntKind.bits]; omega
  have HOB := Lib.hid (fun i (hi : i < w.heap.size) (i1 : i ≠ rb) (i3 : i ≠ sb) (i4 : hd.ownBlock ≠ some i) => (show (w4.setCell ⟨rb, k, none⟩ (.slice (some ⟨g4, 0, none⟩) ((row s k).length + 1) c4)).heap[i]? = w.heap[i]? from by
    have a1 := HB1.out.block i hi
    have a2 := HK3.out.block i (Nat.lt_of_lt_of_le hi HB1.out.size) (by simpa using i3)
    have a3 := Hold4.out i (Nat.lt_of_lt_of_le hi (Nat.le_trans HB1.out.size HK3.out.size)) i4
    exact (Below.heap_setCell _ _ _ _ i1).trans (a3.trans (a2.trans a1))))
  have HOW := Lib.hid (show hd.ownBlock = some g4 ∨ w.heap.size ≤ g4 from by
    rcases Hown4.out with e | e
    · exact .inl e
    · exact .inr (Nat.le_trans (Nat.le_trans HB1.out.size HK3.out.size) e))
  clear hmw HR4 Hold4 Hown4 HZ4 HP1 HB1 HK3 Hh4 HRw4
  generalize w4.setCell ⟨rb, k, none⟩ (.slice (some ⟨g4, 0, none⟩) ((row s k).length + 1) c4) = w5 at HMw c15 HRow5 HR5 HS5 HK5 HOB ⊢
  go_wp2_with (first
    | (refine at_store _ rfl _ _ _ _ rfl keyAsI huW huI (by have := HQ.out.ok.few; unfold maxLen; omega) HMw.out rfl a HA.out (k : Int) hwf rfl rfl ?_; intro w6 hM6 hk6)
    | fail)
  go_ret
  rw [hnone, if_neg (by simp)] at hM6
  have hok := sendD_ok HQ.out.ok HC.out
  have htot := total_sendD HQ.out.ok (f := f) (t := k) (a := a) ⟨hk0, hk1⟩
  obtain ⟨F', hP', hF'⟩ := parts_set (w' := w6) (s' := sendD s f k a) (m' := m + 1) (hd' := .slice (some ⟨g4, 0, none⟩) ((row s k).length + 1) c4) (r' := row s k ++ [⟨f, a, sq⟩]) HP.out HH.out (fun j => by
      rw [row_sendD HQ.out.ok ⟨hk0, hk1⟩, Int.toNat_natCast, Hsq.out])
    (HRow5.out.kept hk6 (by simpa using n4)) (.inr ⟨g4, c4, by simp, HR5.out.kept hk6 (by simpa using Hg4.out.2.1)⟩) (fun g' hg' => by injection hg' with hg'; subst hg'; exact HOW.out)
    (Nat.le_trans HK5.out.size hk6.size) (fun i hi i1 i2 i3 i4 => (hk6.block i (Nat.lt_of_lt_of_le hi HK5.out.size) (by simpa using i2)).trans (HOB.out i hi i1 i3 i4))
    (by
      rw [htot]
      refine hM6.congr fun b _ => ?_
      unfold upd
      have hwr := whr_sendD HQ.out.ok HC.out b
      by_cases e : b = a
      · rw [if_pos e] at hwr ⊢
        rw [Int.toNat_natCast] at hwr
        exact (whrI_some hwr).symm
      · rw [if_neg e] at hwr ⊢
        exact (whrI_congr hwr).symm)
    ⟨m2, g2, HM3.out.1, HS5.out.kept hk6 (by simpa using Ne.symm n6), fun f' t' => HM3.out.2.2 f' t'⟩
  exact ⟨rfl, F', ⟨hok, by omega, rb, wb, sb, _, hP'⟩, (HK5.out.mono (by have := HP.out.ins; simp [this.2.1])).trans (hk6.mono (by have := HP.out.ins; simp [this.2.2.1])), hF'⟩
theorem send_calls (w : World) (p : Nat) (F : List Nat) (n m : Nat) (s : QRun) (f t a : Int) (h : QAt w p F n m s) (hm : m < 100000) :
    Calls Try.prog 51 #[.pointer (some ⟨p, 0, none⟩), .int .i64 f, .int .i64 t, .int .i64 a] w fun e w' => e = .returned (.int .i64 (sendC n s f t a)) ∧ Wrote p F n (m + 1) (sendS n s f t a) w w' := by
  unfold sendS
  by_cases hc : sendC n s f t a = 0
  · rw [if_pos hc, hc]
    obtain ⟨⟨_, ht, _⟩, _⟩ := sendC_zero hc
    obtain ⟨k, rfl⟩ := Int.eq_ofNat_of_zero_le ht.1
    exact send_yes w p F n m s f k a h hc hm
  · rw [if_neg hc]
    refine (send_no w p F n m s f t a h hc).mono ?_
    rintro e w' ⟨he, rfl⟩
    refine ⟨he, F, ⟨?_, by omega, ?_⟩, Kept.refl _ _, fun _ hx => .inl hx⟩
    · exact { h.ok with most := fun f t => Nat.le_succ_of_le (h.ok.most f t), few := Nat.le_succ_of_le h.ok.few }
    · obtain ⟨rb, wb, sb, hs, hP⟩ := h.ex
      obtain ⟨m', g, h1, h2⟩ := hP.sent
      exact ⟨rb, wb, sb, hs, { hP with sent := ⟨m', g, Nat.le_succ_of_le h1, h2⟩ }⟩
end Go.Proofs.Ytchnhmcedmicgaa.Rem
