/- The walk of RemoteOrder: it returns true. -/
import Derived.Test.YtchnhmcedmicgaaRemI
namespace Go.Proofs.Ytchnhmcedmicgaa.Rem
open Go.RowKit Go.Proofs.Ytchnhmcedmicgaa.Aid
abbrev LT : TypeId := 85
abbrev AT : TypeId := 95
abbrev CT : TypeId := 88
theorem huL : Try.prog.underlying LT = some (.map AT 3) := by kernel_rfl
theorem huA : Try.prog.underlying AT = some (.array 2 3) := by kernel_rfl
theorem keyAsA : KeyAs Try.prog AT (keL .i64) (okL .i64 2) :=
  keyL_arr (m := Try.prog.types.size - 1) (by kernel_rfl) huA huI (by kernel_rfl) (by kernel_rfl) (by kernel_rfl) (by kernel_rfl) (of_decide_eq_true (by kernel_rfl)) (by kernel_rfl)
/-- What the law holds: the queues, the last numbers, what waits. -/
structure LO (w0 w : World) (p : Nat) (F : List Nat) (n m : Nat) (s : QRun) (lb vb : Nat) (L : Int → Int → Int) (j : Nat) : Prop where
  hold : Hold w0 w p F n m s [lb, vb]
  last : ∃ n1 g1, n1 ≤ j ∧ MapI w Try.prog AT 3 .i64 (keL .i64) (okL .i64 2) lb n1 g1 ∧ ∀ f t, (g1 [f, t]).getD 0 = L f t
  waits : MapI w Try.prog 3 3 .i64 (keI .i64) (okI .i64) vb (total s) (whrI s)
  ne : lb ≠ vb ∧ w0.heap.size ≤ lb ∧ w0.heap.size ≤ vb
  later : Later s L
  few : m ≤ j
theorem LO.on {w0 w w' : World} {p : Nat} {F : List Nat} {n m : Nat} {s : QRun} {lb vb : Nat} {L : Int → Int → Int} {j : Nat} (h : LO w0 w p F n m s lb vb L j) (k : Below w.heap.size w w') : LO w0 w' p F n m s lb vb L j := by
  obtain ⟨n1, g1, a, b, c⟩ := h.last
  exact ⟨h.hold.on k, ⟨n1, g1, a, b.below k, c⟩, h.waits.below k, h.ne, h.later, h.few⟩
theorem LO.next {w0 w : World} {p : Nat} {F : List Nat} {n m : Nat} {s : QRun} {lb vb : Nat} {L : Int → Int → Int} {j : Nat} (h : LO w0 w p F n m s lb vb L j) : LO w0 w p F n m s lb vb L (j + 1) := by
  obtain ⟨n1, g1, a, b, c⟩ := h.last
  exact ⟨h.hold, ⟨n1, g1, Nat.le_succ_of_le a, b, c⟩, h.waits, h.ne, h.later, Nat.le_succ_of_le h.few⟩
/-- A call of the queues' own. -/
theorem LO.wrote {w0 w w' : World} {p : Nat} {F : List Nat} {n m m' : Nat} {s s' : QRun} {lb vb : Nat} {L : Int → Int → Int} {j : Nat} (h : LO w0 w p F n m s lb vb L j) (k : Wrote p F n m' s' w w') :
    ∃ F', Hold w0 w' p F' n m' s' [lb, vb] ∧ Kept F w w' ∧ (∃ n1 g1, n1 ≤ j ∧ MapI w' Try.prog AT 3 .i64 (keL .i64) (okL .i64 2) lb n1 g1 ∧ ∀ f t, (g1 [f, t]).getD 0 = L f t) ∧ MapI w' Try.prog 3 3 .i64 (keI .i64) (okI .i64) vb (total s) (whrI s) := by
  obtain ⟨F', h1, h2⟩ := h.hold.wrote k
  obtain ⟨n1, g1, a, b, c⟩ := h.last
  exact ⟨F', h1, h2, ⟨n1, g1, a, b.kept h2 (h.hold.out lb (by simp)).1, c⟩, h.waits.kept h2 (h.hold.out vb (by simp)).1⟩
/-- The law's own maps written. -/
theorem Hold.own {w0 w w' : World} {p : Nat} {F : List Nat} {n m : Nat} {s : QRun} {bs : List Nat} (h : Hold w0 w p F n m s bs) {b : Nat} (hb : b ∈ bs) (h0 : w0.heap.size ≤ b) (k : Kept [b] w w') : Hold w0 w' p F n m s bs :=
  ⟨h.q.kept k fun x hx => by simp; intro e; exact (h.out b hb).1 (e ▸ hx), h.base, below_kept h.below k h.below.size (by simpa using h0), fun c hc => ⟨(h.out c hc).1, Nat.lt_of_lt_of_le (h.out c hc).2 k.size⟩⟩
theorem okI_row {n : Nat} {t : Int} (hn : n ≤ 64) (h : 0 ≤ t ∧ t < n) : okI .i64 t := by
  simp [okI, Lit.wf, IntKind.min, IntKind.max, IntKind.signed, IntKind.bits]
  omega
theorem upd_rem {n m : Nat} {s : QRun} (h : OkQ n s m) (a b : Int) : upd (whrI s) a none b = whrI (remS s a) b := by
  unfold upd
  have hwr := whr_rem h a b
  by_cases e : b = a
  · rw [if_pos e] at hwr ⊢
    exact (whrI_none hwr).symm
  · rw [if_neg e] at hwr ⊢
    exact (whrI_congr hwr).symm
theorem upd_send {n m : Nat} {s : QRun} (h : OkQ n s m) {f t a : Int} (hc : sendC n s f t a = 0) (b : Int) : upd (whrI s) a (some t) b = whrI (sendD s f t a) b := by
  unfold upd
  obtain ⟨⟨_, ht, _⟩, _⟩ := sendC_zero hc
  have hwr := whr_sendD h hc b
  by_cases e : b = a
  · rw [if_pos e] at hwr ⊢
    rw [whrI_some hwr, Int.toNat_of_nonneg ht.1]
  · rw [if_neg e] at hwr ⊢
    exact (whrI_congr hwr).symm
theorem rem_count {n m : Nat} {s : QRun} (h : OkQ n s m) (a : Int) : (if (whrI s a).isSome = true then total s - 1 else total s) = total (remS s a) := by
  cases e : whr s a with
  | none => rw [whrI_none e, if_neg (by simp), show remS s a = s by unfold remS; rw [e]]
  | some k => rw [whrI_some e, if_pos (show (some (k : Int)).isSome = true from rfl), total_pos h e]
theorem whrI_isSome (s : QRun) (a : Int) : (whrI s a).isSome = remV s a := by
  unfold whrI remV
  cases whr s a <;> rfl
set_option maxHeartbeats 16000000 in
set_option maxRecDepth 8000 in
theorem order_yes (w : World) (n : Nat) (A : Option Addr) (ca : Nat) (xs : List Q4) (hx : QuadsW w A xs) (h1 : 1 ≤ n) (h2 : n ≤ 64) (hl : ¬ 200 < (xs.length : Int)) :
    Calls Try.prog 9 #[.int .i64 n, .slice A xs.length ca] w fun e w' => e = .returned (.bool true) ∧ Below w.heap.size w w' := by
  have hmm := @run_makeMap Try.prog
  have HX := Lib.hid hx
  have HN := Lib.hid (And.intro h1 h2)
  clear hx
  go_enter Try.func9, Try.ntmps9
  go_wp2_with fail
  refine (alive_calls w).mono ?_
  rintro e w1 ⟨rfl, hb1⟩
  have HB1 := Lib.hid hb1
  clear hb1
  go_wp2_with fail
  refine (begin_yes w1 n h1 h2).mono ?_
  rintro e w2 ⟨p, F, rp, rfl, hH, _, _⟩
  have hH2 : Hold w w2 p F n 0 (q0 n) [] := ⟨hH.q, fun x hx => by have := hH.base x hx; have := HB1.out.size; omega, below_then HB1.out hH.below, by simp⟩
  have HLO := Lib.hid (show LO w ((w2.alloc (.map #[] 0)).alloc (.map #[] 0)) p F n 0 (q0 n) w2.heap.size (w2.heap.size + 1) (fun _ _ => 0) 0 from by
    have m1 := (MapI.made w2 Try.prog AT 3 .i64 (keL .i64) (okL .i64 2)).alloc (.map #[] 0)
    have m2 := MapI.made (w2.alloc (.map #[] 0)) Try.prog 3 3 .i64 (keI .i64) (okI .i64)
    have hz : (w2.alloc (.map #[] 0)).heap.size = w2.heap.size + 1 := by simp
    have hh := (hH2.more (.map #[] 0)).more (.map #[] 0)
    rw [hz] at m2 hh
    have hs := hH2.below.size
    refine ⟨⟨hh.q, hh.base, hh.below, fun b hb => hh.out b (by simp at hb ⊢; omega)⟩, ⟨0, _, Nat.le_refl _, m1, fun _ _ => rfl⟩, ?_, by omega, later0 n, Nat.le_refl _⟩
    have ht : total (q0 n) = 0 := by simp [total, q0]
    rw [ht]
    exact m2.congr fun a _ => (whrI_none (whr_q0 n a)).symm)
  clear hH hH2 HB1
  go_upto_region 10 with fail
  generalize (w2.alloc (.map #[] 0)).alloc (.map #[] 0) = w3 at HLO ⊢
  generalize w2.heap.size + 1 = vb at HLO ⊢
  generalize w2.heap.size = lb at HLO ⊢
  clear hmm
  go_wp2_with fail
  go_loopw [10] (fun i wr => ∃ (j : Nat) (F : List Nat) (m : Nat) (s : QRun) (L : Int → Int → Int), j ≤ xs.length ∧ i = .int .i64 j ∧ LO w wr p F n m s lb vb L j) (fun i _ => xs.length - (intOf i).toNat)
  case atStart => exact ⟨0, F, 0, q0 n, _, by omega, rfl, HLO.out⟩
  case round =>
    obtain ⟨j, F, m, s, L, hj, rfl, hr⟩ := hrel
    have HR := Lib.hid hr
    clear hr HLO
    by_cases hlt : j < xs.length
    · obtain ⟨b, o, rfl, ⟨hlb, x0, x1, x2, x3⟩, hok⟩ := HX.out.below HR.out.hold.below j hlt
      obtain ⟨ok0, ok1, ok2, ok3⟩ := hok
      have hj0 : (0 : Int) ≤ (j : Int) := by omega
      have hj1 : (j : Int) < (xs.length : Int) := by omega
      generalize (xs.getD j q40).a = what at x0 ok0
      generalize (xs.getD j q40).b = fr at x1 ok1
      generalize (xs.getD j q40).c = tw at x2 ok2
      generalize (xs.getD j q40).d = at_ at x3 ok3
      have HOK := Lib.hid (show okI .i64 fr ∧ okI .i64 tw ∧ okI .i64 at_ from ⟨ok1, ok2, ok3⟩)
      clear ok0 ok1 ok2 ok3 hlb
      have hbx := (Below.refl wr.heap.size wr).alloc (Nat.le_refl _) (.cells #[.int .i64 what, .int .i64 fr, .int .i64 tw, .int .i64 at_] CT)
      have HR1 := Lib.hid (HR.out.on hbx)
      have HQ := Lib.hid (Blk.new wr #[.int .i64 what, .int .i64 fr, .int .i64 tw, .int .i64 at_] CT)
      have HqF := Lib.hid (show wr.heap.size ∉ F ∧ wr.heap.size ≠ lb ∧ wr.heap.size ≠ vb from ⟨fun hx => by have := HR.out.hold.q.flt _ hx; omega, by have := (HR.out.hold.out lb (by simp)).2; omega, by have := (HR.out.hold.out vb (by simp)).2; omega⟩)
      clear hbx HR
      go_upto_region 14 with fail
      clear x0 x1 x2 x3
      generalize wr.alloc (.cells #[.int .i64 what, .int .i64 fr, .int .i64 tw, .int .i64 at_] CT) = w4 at HR1 HQ ⊢
      generalize wr.heap.size = q at HQ HqF ⊢
      have y0 := HQ.out.cell (o := 0) rfl
      have y1 := HQ.out.cell (o := 1) rfl
      have y2 := HQ.out.cell (o := 2) rfl
      have y3 := HQ.out.cell (o := 3) rfl
      by_cases hw0 : what = 0
      · subst hw0
        have HSd := Lib.hid (send_calls w4 p F n m s fr tw at_ HR1.out.hold.q (by have := HR1.out.few; omega))
        by_cases hc : sendC n s fr tw at_ = 0
        · rw [hc] at HSd
          rw [show sendS n s fr tw at_ = sendD s fr tw at_ by unfold sendS; rw [if_pos hc]] at HSd
          have HC := Lib.hid hc
          clear hc
          go_wp2_with fail
          refine HSd.out.mono ?_
          rintro e w5 ⟨rfl, hW⟩
          obtain ⟨F', h1', hk5, h3', h4'⟩ := HR1.out.wrote hW
          have hq5 := HQ.out.kept hk5 HqF.out.1
          have H5 := Lib.hid (And.intro h1' (And.intro h3' h4'))
          have y0 := hq5.cell (o := 0) rfl
          have y1 := hq5.cell (o := 1) rfl
          have y2 := hq5.cell (o := 2) rfl
          have y3 := hq5.cell (o := 3) rfl
          have HN5 := Lib.hid (whrI_none (sendC_zero HC.out).2)
          clear hW h1' h3' h4' hk5 hq5
          go_wp2_with (first
            | (refine at_look_ok _ rfl _ _ _ rfl keyAsI huW huI (zero_int _) H5.out.2.2 rfl at_ HOK.out.2.2 rfl ?_; rw [HN5.out])
            | (refine at_store _ rfl _ _ _ _ rfl keyAsI huW huI (by have h1 := HR1.out.hold.q.ok.few; have h2 := HR1.out.hold.q.small; unfold maxLen; omega) H5.out.2.2 rfl at_ HOK.out.2.2 tw HOK.out.2.1 rfl rfl ?_; intro w6 hM6 hk6)
            | fail)
          go_roundw
          case rel =>
            rw [HN5.out, if_neg (by simp)] at hM6
            obtain ⟨⟨_, ht, _⟩, _⟩ := sendC_zero HC.out
            have hok := HR1.out.hold.q.ok
            have hh := H5.out.1.own (b := vb) (by simp) HR1.out.ne.2.2 hk6
            refine ⟨j + 1, F', m + 1, sendD s fr tw at_, L, by omega, by go_num, hh, ?_, ?_, HR1.out.ne, ?_, by have := HR1.out.few; omega⟩
            · obtain ⟨n1, g1, a1, a2, a3⟩ := H5.out.2.1
              exact ⟨n1, g1, Nat.le_succ_of_le a1, a2.kept hk6 (by simpa using HR1.out.ne.1), a3⟩
            · rw [total_sendD hok ht]
              exact hM6.congr fun b _ => upd_send hok HC.out b
            · have := HR1.out.later.send hok fr tw at_
              unfold sendS at this
              rwa [if_pos HC.out] at this
          case measure => simp [intOf]; omega
        · have hne : (sendC n s fr tw at_ == 0) = false := by rw [beq_eq_false_iff_ne]; exact hc
          rw [show sendS n s fr tw at_ = s by unfold sendS; rw [if_neg hc]] at HSd
          clear hc
          generalize sendC n s fr tw at_ = cc at HSd hne
          go_wp2_with fail
          refine HSd.out.mono ?_
          rintro e w5 ⟨rfl, hW⟩
          obtain ⟨F', h1', h2', h3', h4'⟩ := HR1.out.wrote hW
          have HL := Lib.hid (show LO w w5 p F' n (m + 1) s lb vb L (j + 1) from by
            obtain ⟨n1, g1, a1, a2, a3⟩ := h3'
            exact ⟨h1', ⟨n1, g1, Nat.le_succ_of_le a1, a2, a3⟩, h4', HR1.out.ne, HR1.out.later, by have := HR1.out.few; omega⟩)
          clear hW h1' h2' h3' h4'
          go_wp2_with fail
          go_roundw
          case rel => exact ⟨j + 1, F', m + 1, s, L, by omega, by go_num, HL.out⟩
          case measure => simp [intOf]; omega
      · have hn0 : (what == 0) = false := by rw [beq_eq_false_iff_ne]; exact hw0
        by_cases hw1 : what = 1
        · subst hw1
          have HTk := Lib.hid (take_calls w4 p F n m s tw HR1.out.hold.q)
          cases htk : takeV n s tw with
          | none =>
            rw [htk, show takeS n s tw = s by unfold takeS; rw [htk]] at HTk
            rw [show (Value.tuple #[itV none, .bool (none : Option It).isSome]) = .tuple #[.agg #[.int .i64 0, .int .i64 0, .int .i64 0], .bool false] from rfl] at HTk
            clear htk
            go_wp2_with fail
            refine HTk.out.mono ?_
            rintro e w5 ⟨rfl, hW⟩
            obtain ⟨F', h1', h2', h3', h4'⟩ := HR1.out.wrote hW
            have HL := Lib.hid (show LO w w5 p F' n m s lb vb L j from ⟨h1', h3', h4', HR1.out.ne, HR1.out.later, HR1.out.few⟩)
            have hb6 := (Below.refl w5.heap.size w5).alloc (Nat.le_refl _) (.cells #[.int .i64 0, .int .i64 0, .int .i64 0] IT)
            have HL6 := Lib.hid (HL.out.on hb6).next
            clear hW h1' h2' h3' h4' hb6
            go_wp2_with fail
            go_roundw
            case rel => exact ⟨j + 1, F', m, s, L, by omega, by go_num, HL6.out⟩
            case measure => simp [intOf]; omega
          | some x =>
            have hok := HR1.out.hold.q.ok
            obtain ⟨l1, l2, l3, l4⟩ := HR1.out.later.take hok htk
            obtain ⟨e1, e2, _, _⟩ := take_some hok htk
            obtain ⟨hwr, _⟩ := takeV_some htk
            have hxr := hok.rng tw.toNat x (by obtain ⟨_, r, hr⟩ := takeV_some htk; rw [hr]; simp)
            have HTL := Lib.hid (And.intro l3 l4)
            rw [htk, show (Value.tuple #[itV (some x), .bool (some x).isSome]) = .tuple #[.agg #[.int .i64 x.frm, .int .i64 x.at_, .int .i64 x.seq], .bool true] from rfl] at HTk
            have hsome : whrI s x.at_ = some tw := by rw [whrI_some e1, Int.toNat_of_nonneg hwr.1]
            have HSm := Lib.hid hsome
            have HOx := Lib.hid (show okI .i64 x.frm ∧ okI .i64 x.at_ ∧ okI .i64 x.seq from ⟨okI_row h2 ⟨hxr.2.2.1, hxr.2.2.2.1⟩, okI_at hxr.1 hxr.2.1, by
              have h3 := hok.most x.frm tw.toNat
              have h4 := HR1.out.hold.q.small
              have h5 := hxr.2.2.2.2
              simp [okI, Lit.wf, IntKind.min, IntKind.max, IntKind.signed, IntKind.bits]
              omega⟩)
            have HE2 := Lib.hid e2
            have HLt := Lib.hid (And.intro l1 l2)
            clear htk e1 e2 hwr hxr l1 l2 l3 l4 hsome hok
            go_wp2_with fail
            refine HTk.out.mono ?_
            rintro e w5 ⟨rfl, hW⟩
            obtain ⟨F', h1', hk5, h3', h4'⟩ := HR1.out.wrote hW
            have hq5 := HQ.out.kept hk5 HqF.out.1
            have hb6 := (Below.refl w5.heap.size w5).alloc (Nat.le_refl _) (.cells #[.int .i64 x.frm, .int .i64 x.at_, .int .i64 x.seq] IT)
            have hb7 := (Below.refl _ (w5.alloc (.cells #[.int .i64 x.frm, .int .i64 x.at_, .int .i64 x.seq] IT))).alloc (Nat.le_refl _) (.cells #[.int .i64 x.frm, .int .i64 tw] AT)
            have hX := Blk.new w5 #[.int .i64 x.frm, .int .i64 x.at_, .int .i64 x.seq] IT
            have hPr := Blk.new (w5.alloc (.cells #[.int .i64 x.frm, .int .i64 x.at_, .int .i64 x.seq] IT)) #[.int .i64 x.frm, .int .i64 tw] AT
            have H6 := Lib.hid (And.intro (hq5.below hb6) (h4'.below hb6))
            have H7 := Lib.hid (show Hold w _ p F' n m (takeS n s tw) [lb, vb] ∧ (∃ n1 g1, n1 ≤ j ∧ MapI _ Try.prog AT 3 .i64 (keL .i64) (okL .i64 2) lb n1 g1 ∧ ∀ f t, (g1 [f, t]).getD 0 = L f t) ∧ MapI _ Try.prog 3 3 .i64 (keI .i64) (okI .i64) vb (total s) (whrI s) from ⟨(h1'.on hb6).on hb7, by
              obtain ⟨n1, g1, a1, a2, a3⟩ := h3'
              exact ⟨n1, g1, a1, (a2.below hb6).below hb7, a3⟩, (h4'.below hb6).below hb7⟩)
            have Hq7 := Lib.hid ((hq5.below hb6).below hb7)
            have HX7 := Lib.hid (hX.below hb7)
            have HP7 := Lib.hid hPr
            have y0 := hq5.cell (o := 0) rfl
            have y1 := hq5.cell (o := 1) rfl
            have y2 := hq5.cell (o := 2) rfl
            have y3 := hq5.cell (o := 3) rfl
            have z2 := H6.out.1.cell (o := 2) rfl
            have HxL := Lib.hid (show w5.heap.size ≠ lb from by have := (h1'.out lb (by simp)).2; omega)
            clear hW h1' h3' h4' hk5 hq5 hb6 hb7 hX hPr
            go_upto_region 26 with (first
              | (refine at_look_ok _ rfl _ _ _ rfl keyAsI huW huI (zero_int _) H6.out.2 rfl x.at_ HOx.out.2.1 rfl ?_; rw [HSm.out])
              | fail)
            rw [show (w5.alloc (.cells #[.int .i64 x.frm, .int .i64 x.at_, .int .i64 x.seq] IT)).heap.size = w5.heap.size + 1 by simp] at HP7
            clear y0 y1 y2 y3 z2 H6
            generalize (w5.alloc (.cells #[.int .i64 x.frm, .int .i64 x.at_, .int .i64 x.seq] IT)).alloc (.cells #[.int .i64 x.frm, .int .i64 tw] AT) = w7 at H7 Hq7 HX7 HP7 ⊢
            generalize w5.heap.size + 1 = pq at HP7 ⊢
            generalize w5.heap.size = xq at HX7 HxL ⊢
            have y2 := Hq7.out.cell (o := 2) rfl
            have z0 := HX7.out.cell (o := 0) rfl
            have z1 := HX7.out.cell (o := 1) rfl
            have z2 := HX7.out.cell (o := 2) rfl
            have u0 := HP7.out.cell (o := 0) rfl
            have u1 := HP7.out.cell (o := 1) rfl
            obtain ⟨n1, g1, hn1', hML, hg1⟩ := H7.out.2.1
            have hKp : okL .i64 2 [x.frm, tw] := ⟨rfl, fun z hz => by simp at hz; rcases hz with rfl | rfl; exact HOx.out.1; exact HOK.out.2.1⟩
            have e5 := (show MapI w7.drew _ _ _ _ _ _ _ _ _ from hML).look keyAsA huL huI (zero_int _) hKp
            have e5 : (Instr.lookup LT (.map (some lb)) (.agg #[.int .i64 x.frm, .int .i64 tw]) false).run Try.prog w7.drew = .ok (.int .i64 ((g1 [x.frm, tw]).getD 0)) w7.drew := e5.1
            rw [hg1] at e5
            have CS := Lib.hid (sent_calls w7.drew p F' n m (takeS n s tw) x.frm tw HOx.out.1 HOK.out.2.1 H7.out.1.q.drew)
            rw [HTL.out.2] at CS
            have R1 := Lib.hid (show decide (x.seq ≤ L x.frm tw) = false from decide_eq_false (by have := HLt.out.1; omega))
            have R2 := Lib.hid (show decide (((s.sent x.frm tw : Nat) : Int) < x.seq) = false from decide_eq_false (by have := HLt.out.2; omega))
            have HML := Lib.hid (show MapI w7.drew Try.prog AT 3 .i64 (keL .i64) (okL .i64 2) lb n1 g1 from hML)
            have HG1 := Lib.hid (And.intro hn1' hg1)
            have HKp := Lib.hid hKp
            clear hML hn1' hg1 hKp
            generalize L x.frm tw = lv at e5 R1
            generalize ((s.sent x.frm tw : Nat) : Int) = sv at CS R2
            have r1 := R1.out
            have r2 := R2.out
            go_region_held3 (fun w' => w'.cell? ⟨q, 2, none⟩ = some (.int .i64 tw) ∧ w'.cell? ⟨xq, 0, none⟩ = some (.int .i64 x.frm) ∧ w'.cell? ⟨xq, 2, none⟩ = some (.int .i64 x.seq) ∧ w'.cell? ⟨pq, 0, none⟩ = some (.int .i64 x.frm) ∧ w'.cell? ⟨pq, 1, none⟩ = some (.int .i64 tw))
              (first | exact ⟨y2, z0, z2, u0, u1⟩)
              ((first | (go_at_call 53; (with_reducible refine (Calls.mono CS.out ?_)); rintro e w8 ⟨rfl, rfl⟩)))
            clear e5 r1 r2
            have HW7 := Lib.hid (show MapI w7.drew Try.prog 3 3 .i64 (keI .i64) (okI .i64) vb (total s) (whrI s) from H7.out.2.2)
            have HZ := Lib.hid (fun (w8 : World) (k : Kept [lb] w7.drew w8) (hx : xq ≠ lb) => (show w8.cell? ⟨xq, 1, none⟩ = some (.int .i64 x.at_) from (HX7.out.kept (undrewK k) (by simpa using hx)).cell (o := 1) rfl))
            go_wp2_with (first
              | (refine at_store _ rfl _ _ _ _ rfl keyAsA huL huI (by have := HG1.out.1; unfold maxLen; omega) HML.out rfl [x.frm, tw] HKp.out x.seq HOx.out.2.2 rfl rfl ?_; intro w8 hM8 hk8; have z1 := HZ.out w8 hk8 HxL.out; have HM8 := Lib.hid hM8; have HK8 := Lib.hid hk8; have HW8 := Lib.hid (HW7.out.kept hk8 (by simpa using Ne.symm HR1.out.ne.1)); clear hM8 hk8)
              | (refine at_drop _ rfl _ _ _ _ rfl rfl keyAsI huW HW8.out rfl x.at_ HOx.out.2.1 rfl ?_; intro w9 hM9 hk9)
              | fail)
            go_roundw
            case rel =>
              have hok := HR1.out.hold.q.ok
              rw [rem_count hok] at hM9
              have hh := (H7.out.1.on ((Below.refl _ _).drew)).own (b := lb) (by simp) HR1.out.ne.2.1 HK8.out
              have hh2 := hh.own (b := vb) (by simp) HR1.out.ne.2.2 hk9
              refine ⟨j + 1, F', m, takeS n s tw, setL L x.frm tw x.seq, by omega, by go_num, hh2, ⟨_, _, ?_, HM8.out.kept hk9 (by simpa using HR1.out.ne.1), fun f t => ?_⟩, ?_, HR1.out.ne, HTL.out.1, by have := HR1.out.few; omega⟩
              · have := HG1.out.1
                split <;> omega
              · unfold upd setL
                by_cases e : f = x.frm ∧ t = tw
                · rw [if_pos e, if_pos (by rw [e.1, e.2])]
                  rfl
                · rw [if_neg e, if_neg (by intro h; apply e; injection h with h1 h2; injection h2 with h2; exact ⟨h1, h2⟩)]
                  exact HG1.out.2 f t
              · rw [HE2.out]
                exact hM9.congr fun b _ => upd_rem hok x.at_ b
            case measure => simp [intOf]; omega
        · have hn1 : (what == 1) = false := by rw [beq_eq_false_iff_ne]; exact hw1
          by_cases hw2 : what = 2
          · subst hw2
            have HRm := Lib.hid (remove_calls w4 p F n m s at_ HOK.out.2.2 HR1.out.hold.q)
            have hsm := whrI_isSome s at_
            have hnn : (remV s at_ != remV s at_) = false := by simp
            have HWt := Lib.hid HR1.out.waits
            go_wp2_with (first
              | (refine at_look_ok _ rfl _ _ _ rfl keyAsI huW huI (zero_int _) HWt.out rfl at_ HOK.out.2.2 rfl ?_; rw [hsm])
              | fail)
            refine HRm.out.mono ?_
            rintro e w5 ⟨rfl, hW⟩
            obtain ⟨F', h1', hk5, h3', h4'⟩ := HR1.out.wrote hW
            have hq5 := HQ.out.kept hk5 HqF.out.1
            have H5 := Lib.hid (And.intro h1' (And.intro h3' h4'))
            have y0 := hq5.cell (o := 0) rfl
            have y1 := hq5.cell (o := 1) rfl
            have y2 := hq5.cell (o := 2) rfl
            have y3 := hq5.cell (o := 3) rfl
            clear hW h1' h3' h4' hk5 hq5
            go_wp2_with (first
              | (refine at_drop _ rfl _ _ _ _ rfl rfl keyAsI huW H5.out.2.2 rfl at_ HOK.out.2.2 rfl ?_; intro w6 hM6 hk6)
              | fail)
            go_roundw
            case rel =>
              have hok := HR1.out.hold.q.ok
              rw [rem_count hok] at hM6
              refine ⟨j + 1, F', m, remS s at_, L, by omega, by go_num, H5.out.1.own (b := vb) (by simp) HR1.out.ne.2.2 hk6, ?_, hM6.congr fun b _ => upd_rem hok at_ b, HR1.out.ne, HR1.out.later.rem hok at_, by have := HR1.out.few; omega⟩
              obtain ⟨n1, g1, a1, a2, a3⟩ := H5.out.2.1
              exact ⟨n1, g1, Nat.le_succ_of_le a1, a2.kept hk6 (by simpa using HR1.out.ne.1), a3⟩
            case measure => simp [intOf]; omega
          · have hn2 : (what == 2) = false := by rw [beq_eq_false_iff_ne]; exact hw2
            go_wp2_with fail
            go_roundw
            case rel => exact ⟨j + 1, F, m, s, L, by omega, by go_num, HR1.out.next⟩
            case measure => simp [intOf]; omega
    · obtain rfl : j = xs.length := by omega
      have hok := HR.out.hold.q.ok
      have hfew := hok.few
      have hsml := HR.out.hold.q.small
      have hall := sumTo_all hok
      have HLn := Lib.hid (fun (k : Int) => len_calls wr p F n m s k HR.out.hold.q)
      have HMono := Lib.hid (fun k j h => sumTo_mono s k j h)
      have HTt := Lib.hid (total_calls wr p F n m s HR.out.hold.q)
      have HWt := Lib.hid HR.out.waits
      go_wp2_with fail
      go_loop [21, 22] (fun a i => ∃ k : Nat, k ≤ n ∧ i = .int .i64 k ∧ a = .int .i64 (sumTo s k : Nat)) (fun _ i => n - (intOf i).toNat)
      case atStart => exact ⟨0, by omega, rfl, rfl⟩
      case round =>
        obtain ⟨k, hk, rfl, rfl⟩ := hrel
        by_cases hlt2 : k < n
        · have hk0 : (0 : Int) ≤ (k : Int) := by omega
          have hk1 : (k : Int) < (n : Int) := by omega
          have HL := Lib.hid (HLn.out k)
          rw [show rowI n s k = row s k by unfold rowI; rw [if_pos ⟨hk0, hk1⟩, Int.toNat_natCast]] at HL
          have HS := Lib.hid (show sumTo s (k + 1) = sumTo s k + (row s k).length from rfl)
          have hmo := HMono.out (k + 1) n (by omega)
          have hbd : ((sumTo s k : Nat) : Int) + ((row s k).length : Nat) ≤ 100000 := by have := HS.out; omega
          have hbd0 : (0 : Int) ≤ ((sumTo s k : Nat) : Int) := by omega
          have hbd1 : (0 : Int) ≤ (((row s k).length : Nat) : Int) := by omega
          generalize sumTo s k = sk at HS hbd hbd0 ⊢
          generalize (row s k).length = rk at HL HS hbd hbd1
          clear hmo
          go_wp2_with fail
          refine HL.out.mono ?_
          rintro e w5 ⟨rfl, rfl⟩
          go_wp2_with fail
          go_round
          case rel => exact ⟨k + 1, by omega, by go_num, by rw [HS.out]; go_num⟩
          case measure => simp [intOf]; omega
        · obtain rfl : k = n := by omega
          rw [hall]
          go_wp2_with (first
            | (refine at_maplen _ rfl _ _ rfl huW HWt.out rfl ?_)
            | (go_at_call 56; (with_reducible refine (Calls.mono HTt.out ?_)); rintro e w5 ⟨rfl, rfl⟩)
            | fail)
          go_ret
          exact ⟨by simp, HR.out.hold.below⟩
end Go.Proofs.Ytchnhmcedmicgaa.Rem
