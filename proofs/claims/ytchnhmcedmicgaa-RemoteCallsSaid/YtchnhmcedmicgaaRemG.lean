/- The contract of package remote's Clone. -/
import Derived.Test.YtchnhmcedmicgaaRemF
import Derived.Deep.OwnRows
set_option linter.unusedSimpArgs false
namespace Go.Proofs.Ytchnhmcedmicgaa.Rem
open Go.RowKit Go.Proofs.Ytchnhmcedmicgaa.Aid
/-- Rows while they are copied. -/
structure Rws (w : World) (p rb wb sb n base : Nat) (f : Nat → List It) (hs : List Value) : Prop where
  rows : Row w ST rb n hs
  hlen : hs.length = n
  each : ∀ (k : Nat) hd, hs[k]? = some hd → Hdr encI 3 w IT hd (f k)
  apart : ∀ (j k : Nat) hj hk (g : Nat), hs[j]? = some hj → hs[k]? = some hk → hj.ownBlock = some g → hk.ownBlock = some g → j = k
  out : ∀ (k : Nat) hd (g : Nat), hs[k]? = some hd → hd.ownBlock = some g → base ≤ g ∧ g ≠ p ∧ g ≠ rb ∧ g ≠ wb ∧ g ≠ sb
theorem Rws.below {w w' : World} {p rb wb sb n base : Nat} {f : Nat → List It} {hs : List Value} (h : Rws w p rb wb sb n base f hs) (k : Below w.heap.size w w') : Rws w' p rb wb sb n base f hs :=
  ⟨h.rows.below k, h.hlen, fun j hd hj => (h.each j hd hj).below k, h.apart, h.out⟩
/-- One row more. -/
theorem Rws.put {w w' : World} {p rb wb sb n base k : Nat} {f : Nat → List It} {hs : List Value} (h : Rws w p rb wb sb n base f hs) {hd' : Value} {r' : List It} (hk : k < n) (hb : Below w.heap.size w w') (hH : Hdr encI 3 w' IT hd' r') (hg : ∀ g, hd'.ownBlock = some g → w.heap.size ≤ g)
    (hbase : base ≤ w.heap.size) (hl : p < w.heap.size ∧ rb < w.heap.size ∧ wb < w.heap.size ∧ sb < w.heap.size) : Rws (w'.setCell ⟨rb, k, none⟩ hd') p rb wb sb n base (fun j => if j = k then r' else f j) (hs.set k hd') := by
  have h1 := h.below hb
  have hkl : k < hs.length := by rw [h.hlen]; exact hk
  have hget : ∀ j, (hs.set k hd')[j]? = if j = k then some hd' else hs[j]? := fun j => by
    rw [List.getElem?_set]
    by_cases e : k = j
    · subst e; simp [hkl]
    · rw [if_neg e, if_neg fun e' => e e'.symm]
  have hoth : ∀ {hd : Value} {xs : List It}, Hdr encI 3 w' IT hd xs → (∀ g, hd.ownBlock = some g → g ≠ rb) → Hdr encI 3 (w'.setCell ⟨rb, k, none⟩ hd') IT hd xs := fun hX hne => hX.same fun g hgg => Below.heap_setCell _ _ _ _ (hne g hgg)
  refine ⟨h1.rows.store k hd', by rw [List.length_set]; exact h.hlen, fun j hd hj => ?_, fun i j hi hj g a b c d => ?_, fun j hd g a b => ?_⟩
  · rw [hget] at hj
    show Hdr _ _ _ _ _ (if j = k then r' else f j)
    by_cases e : j = k
    · rw [if_pos e] at hj ⊢
      injection hj with hj
      subst hj
      exact hoth hH fun g hgg => by have := hg g hgg; omega
    · rw [if_neg e] at hj ⊢
      exact hoth (h1.each j hd hj) fun g hgg => (h.out j hd g hj hgg).2.2.1
  · rw [hget] at a b
    by_cases e1 : i = k
    · by_cases e2 : j = k
      · rw [e1, e2]
      · rw [if_pos e1] at a
        rw [if_neg e2] at b
        injection a with a
        subst a
        have := hg g c
        have := (h.each j hj b).lt d
        omega
    · rw [if_neg e1] at a
      by_cases e2 : j = k
      · rw [if_pos e2] at b
        injection b with b
        subst b
        have := hg g d
        have := (h.each i hi a).lt c
        omega
      · rw [if_neg e2] at b
        exact h.apart i j hi hj g a b c d
  · rw [hget] at a
    by_cases e : j = k
    · rw [if_pos e] at a
      injection a with a
      subst a
      have := hg g b
      omega
    · rw [if_neg e] at a
      exact h.out j hd g a b
/-- What stands behind the first region. -/
structure CB (w W : World) (n m : Nat) (s : QRun) (rb wb sb : Nat) : Prop where
  row : Row W ST rb n (List.replicate n (.slice none 0 0))
  whr : MapI W Try.prog 3 3 .i64 (keI .i64) (okI .i64) wb (total s) (whrI s)
  sent : ∃ m' g, m' ≤ m ∧ MapI W Try.prog PT 3 .i64 (keL .i64) (okL .i64 2) sb m' g ∧ ∀ f t, (g [f, t]).getD 0 = s.sent f t
  ge : w.heap.size ≤ rb ∧ w.heap.size ≤ wb ∧ w.heap.size ≤ sb
  ne : rb ≠ wb ∧ rb ≠ sb ∧ wb ≠ sb
  below : Below w.heap.size w W
theorem made_eq (z : Value) (n : Nat) : madeCells #[z] n = (List.replicate n z).toArray := by
  rw [← toList_madeCells_one]
theorem row_made (W : World) (n : Nat) (h : n ≤ 64) : Row (W.alloc (.cells (madeCells #[.slice none 0 0] n) ST)) ST W.heap.size n (List.replicate n (.slice none 0 0)) := by
  rw [made_eq]
  have := Row.lit W (List.replicate n (.slice none 0 0)) ST (by simp [maxLen]; omega)
  rwa [List.length_replicate] at this
theorem Rws.congr {w : World} {p rb wb sb n base : Nat} {f f' : Nat → List It} {hs : List Value} (h : Rws w p rb wb sb n base f hs) (e : ∀ j, j < n → f j = f' j) : Rws w p rb wb sb n base f' hs :=
  ⟨h.rows, h.hlen, fun k hd hk => by rw [← e k (by rw [← h.hlen]; exact (List.getElem?_eq_some_iff.1 hk).1)]; exact h.each k hd hk, h.apart, h.out⟩
theorem parts_of_rws {w : World} {p rb wb sb n m base : Nat} {s : QRun} {hs : List Value} (h : Rws w p rb wb sb n base (row s) hs) (hh : Blk w p #[.slice (some ⟨rb, 0, none⟩) n n, .map (some wb), .map (some sb)] QT)
    (hw : MapI w Try.prog 3 3 .i64 (keI .i64) (okI .i64) wb (total s) (whrI s)) (hs' : ∃ m' g, m' ≤ m ∧ MapI w Try.prog PT 3 .i64 (keL .i64) (okL .i64 2) sb m' g ∧ ∀ f t, (g [f, t]).getD 0 = s.sent f t)
    (ne : p ≠ rb ∧ p ≠ wb ∧ p ≠ sb ∧ rb ≠ wb ∧ rb ≠ sb ∧ wb ≠ sb) (hb : base ≤ p ∧ base ≤ rb ∧ base ≤ wb ∧ base ≤ sb) :
    ∃ F, Parts w p F n m s rb wb sb hs ∧ ∀ x ∈ F, base ≤ x := by
  refine ⟨p :: rb :: wb :: sb :: hs.filterMap Value.ownBlock, ⟨hh, h.rows, h.hlen, h.each, h.apart, fun k hd g a b => ⟨?_, (h.out k hd g a b).2⟩, hw, hs', by simp, ne, fun x hx => ?_⟩, fun x hx => ?_⟩
  · have : g ∈ hs.filterMap Value.ownBlock := List.mem_filterMap.2 ⟨hd, List.mem_of_getElem? a, b⟩
    simp [this]
  · simp only [List.mem_cons] at hx
    rcases hx with rfl | rfl | rfl | rfl | hx
    · exact hh.lt
    · exact h.rows.lt
    · exact hw.lt
    · obtain ⟨_, _, _, h2, _⟩ := hs'; exact h2.lt
    · obtain ⟨hd, h1, h2⟩ := List.mem_filterMap.1 hx
      obtain ⟨k, hk, rfl⟩ := List.mem_iff_getElem.1 h1
      exact (h.each k _ (List.getElem?_eq_getElem hk)).lt h2
  · simp only [List.mem_cons] at hx
    rcases hx with rfl | rfl | rfl | rfl | hx
    · exact hb.1
    · exact hb.2.1
    · exact hb.2.2.1
    · exact hb.2.2.2
    · obtain ⟨hd, h1, h2⟩ := List.mem_filterMap.1 hx
      obtain ⟨k, hk, rfl⟩ := List.mem_iff_getElem.1 h1
      exact (h.out k _ x (List.getElem?_eq_getElem hk) h2).1
set_option maxHeartbeats 8000000 in
theorem clone_calls (w : World) (p : Nat) (F : List Nat) (n m : Nat) (s : QRun) (h : QAt w p F n m s) :
    Calls Try.prog 59 #[.pointer (some ⟨p, 0, none⟩)] w fun e w' => ∃ p', e = .returned (.pointer (some ⟨p', 0, none⟩)) ∧ ∃ F', QAt w' p' F' n m s ∧ (∀ x ∈ F', w.heap.size ≤ x) ∧ Below w.heap.size w w' := by
  obtain ⟨rb0, wb0, sb0, hs, hP⟩ := h.ex
  have HQ := Lib.hid h
  have hn64 := h.ok.n64
  have hmk := fun W => run_make_row' (P := Try.prog) 131 ST (.slice none 0 0) 24 Try.underlying131 infoS rfl .i64 .i64 n (by omega) (by omega) W
  obtain ⟨m0, g0, hm0, hMs, hg0⟩ := hP.sent
  obtain ⟨es1, ck1, he1, hW1⟩ := hP.whr.copy
  obtain ⟨es2, ck2, he2, hS2⟩ := hMs.copy
  have hWat : ∀ W : World, Below w.heap.size w W → MapI (W.alloc (.map es1 ck1)) Try.prog 3 3 .i64 (keI .i64) (okI .i64) W.heap.size (total s) (whrI s) := fun W hb => by
    obtain ⟨es, ck, e, hh⟩ := (hP.whr.below hb).copy
    have e2 := (hb.block wb0 hP.whr.lt).trans he1
    rw [e] at e2
    injection e2 with e2
    injection e2 with e3 e4
    subst e3 e4
    exact hh
  have hSat : ∀ W : World, Below w.heap.size w W → MapI (W.alloc (.map es2 ck2)) Try.prog PT 3 .i64 (keL .i64) (okL .i64 2) W.heap.size m0 g0 := fun W hb => by
    obtain ⟨es, ck, e, hh⟩ := (hMs.below hb).copy
    have e2 := (hb.block sb0 hMs.lt).trans he2
    rw [e] at e2
    injection e2 with e2
    injection e2 with e3 e4
    subst e3 e4
    exact hh
  have HCW := Lib.hid (fun (W : World) (hb : Below w.heap.size w W) => mcloneW_calls W wb0 es1 ck1 ((hb.block wb0 hP.whr.lt).trans he1))
  have HCS := Lib.hid (fun (W : World) (hb : Below w.heap.size w W) => mcloneS_calls W sb0 es2 ck2 ((hb.block sb0 hMs.lt).trans he2))
  have HS := Lib.hid (fun (W : World) (hb : Below w.heap.size w W) => (show W.cell? ⟨p, 0, none⟩ = some (.slice (some ⟨rb0, 0, none⟩) n n) ∧ W.cell? ⟨p, 1, none⟩ = some (.map (some wb0)) ∧ W.cell? ⟨p, 2, none⟩ = some (.map (some sb0)) from by
    have hh := hP.head.below hb
    exact ⟨hh.cell (o := 0) rfl, hh.cell (o := 1) rfl, hh.cell (o := 2) rfl⟩))
  have al : ∀ {W : World} (_ : Below w.heap.size w W) (o : Obj), Below w.heap.size w (W.alloc o) := fun hb o => hb.alloc hb.size o
  have b0 := (Below.refl w.heap.size w)
  have HW := Lib.hid hWat
  have HSt := Lib.hid hSat
  have HP := Lib.hid hP
  have HG := Lib.hid (And.intro hm0 hg0)
  obtain ⟨zs, hzs⟩ : ∃ zs, zs = madeCells #[(.slice none 0 0 : Value)] n := ⟨_, rfl⟩
  have HR := Lib.hid (fun W : World => row_made W n hn64)
  rw [← hzs] at hmk HR
  have B1 := Lib.hid (al b0 (.cells zs ST)).drew
  have B2 := Lib.hid (al b0 (.map es1 ck1)).drew
  have B3 := Lib.hid (al (al b0 (.cells zs ST)) (.map es1 ck1)).drew
  have B4 := Lib.hid (al (al b0 (.map es1 ck1)) (.cells zs ST)).drew
  have B5 := Lib.hid (al (al b0 (.map es1 ck1)) (.map es2 ck2)).drew
  have B6 := Lib.hid (al (al (al b0 (.cells zs ST)) (.map es1 ck1)) (.map es2 ck2)).drew
  have B7 := Lib.hid (al (al (al b0 (.map es1 ck1)) (.cells zs ST)) (.map es2 ck2)).drew
  have B8 := Lib.hid (al (al (al b0 (.map es1 ck1)) (.map es2 ck2)) (.cells zs ST)).drew
  have B0 := Lib.hid b0.drew
  have Bx := Lib.hid (fun (W : World) (hb : Below w.heap.size w W) (o : Obj) => al hb o)
  have C6 := Lib.hid (show CB w (((w.alloc (.cells zs ST)).alloc (.map es1 ck1)).alloc (.map es2 ck2)) n m s w.heap.size (w.heap.size + 1) (w.heap.size + 1 + 1) from by
    have x1 := HR.out w
    have x2 := hWat _ (al b0 (.cells zs ST))
    have x3 := hSat _ (al (al b0 (.cells zs ST)) (.map es1 ck1))
    rw [show (w.alloc (.cells zs ST)).heap.size = w.heap.size + 1 by simp] at x2
    rw [show ((w.alloc (.cells zs ST)).alloc (.map es1 ck1)).heap.size = w.heap.size + 1 + 1 by simp] at x3
    exact ⟨(x1.alloc _).alloc _, x2.alloc _, ⟨m0, g0, hm0, x3, hg0⟩, by omega, by omega, al (al (al b0 _) _) _⟩)
  have C7 := Lib.hid (show CB w (((w.alloc (.map es1 ck1)).alloc (.cells zs ST)).alloc (.map es2 ck2)) n m s (w.heap.size + 1) w.heap.size (w.heap.size + 1 + 1) from by
    have x1 := HR.out (w.alloc (.map es1 ck1))
    have x2 := hWat _ b0
    have x3 := hSat _ (al (al b0 (.map es1 ck1)) (.cells zs ST))
    rw [show (w.alloc (.map es1 ck1)).heap.size = w.heap.size + 1 by simp] at x1
    rw [show ((w.alloc (.map es1 ck1)).alloc (.cells zs ST)).heap.size = w.heap.size + 1 + 1 by simp] at x3
    exact ⟨x1.alloc _, (x2.alloc _).alloc _, ⟨m0, g0, hm0, x3, hg0⟩, by omega, by omega, al (al (al b0 _) _) _⟩)
  have C8 := Lib.hid (show CB w (((w.alloc (.map es1 ck1)).alloc (.map es2 ck2)).alloc (.cells zs ST)) n m s (w.heap.size + 1 + 1) w.heap.size (w.heap.size + 1) from by
    have x1 := HR.out ((w.alloc (.map es1 ck1)).alloc (.map es2 ck2))
    have x2 := hWat _ b0
    have x3 := hSat _ (al b0 (.map es1 ck1))
    rw [show ((w.alloc (.map es1 ck1)).alloc (.map es2 ck2)).heap.size = w.heap.size + 1 + 1 by simp] at x1
    rw [show (w.alloc (.map es1 ck1)).heap.size = w.heap.size + 1 by simp] at x3
    exact ⟨x1, (x2.alloc _).alloc _, ⟨m0, g0, hm0, x3.alloc _, hg0⟩, by omega, by omega, al (al (al b0 _) _) _⟩)
  clear h hP hMs hm0 hg0 he1 he2 hW1 hS2 hWat hSat al b0 hzs
  go_enter Try.func59, Try.ntmps59
  go_upto_region 1 with fail
  go_cut [3] (fun v wc => ∃ W rb wb sb, CB w W n m s rb wb sb ∧ v = .pointer (some ⟨W.heap.size, 0, none⟩) ∧ wc = (W.alloc (.cells #[.slice (some ⟨rb, 0, none⟩) n n, .map (some wb), .map (some sb)] QT)).drew)
  case first =>
    go_region_held3 (fun w' => w'.cell? ⟨p, 0, none⟩ = some (.slice (some ⟨rb0, 0, none⟩) n n) ∧ w'.cell? ⟨p, 1, none⟩ = some (.map (some wb0)) ∧ w'.cell? ⟨p, 2, none⟩ = some (.map (some sb0)))
      (first | exact HS.out _ B0.out | exact HS.out _ B1.out | exact HS.out _ B2.out | exact HS.out _ B3.out | exact HS.out _ B4.out | exact HS.out _ B5.out | exact HS.out _ B6.out | exact HS.out _ B7.out | exact HS.out _ B8.out | exact HS.out _ (Bx.out _ B6.out _) | exact HS.out _ (Bx.out _ B7.out _) | exact HS.out _ (Bx.out _ B8.out _))
      ((first
        | (go_at_call 89; (refine (Calls.mono (HCW.out _ (by first | exact B0.out | exact B1.out)) ?_)); rintro e w2 ⟨rfl, rfl⟩)
        | (go_at_call 90; (refine (Calls.mono (HCS.out _ (by first | exact B2.out | exact B3.out | exact B4.out)) ?_)); rintro e w2 ⟨rfl, rfl⟩)))
    all_goals
      go_wp2_with fail
      go_meet
      first
        | exact ⟨_, _, _, _, C6.out, by simp, rfl⟩
        | exact ⟨_, _, _, _, C7.out, by simp, rfl⟩
        | exact ⟨_, _, _, _, C8.out, by simp, rfl⟩
  case rest =>
  obtain ⟨W, rb, wb, sb, hC, rfl, hwc⟩ := hcut
  clear HCW HCS HS B0 B1 B2 B3 B4 B5 B6 B7 B8 Bx C6 C7 C8 HR HW HSt HG hmk
  obtain ⟨g1, g2, g3⟩ := hC.ge
  obtain ⟨e1, e2, e3⟩ := hC.ne
  have hbW := (Below.refl W.heap.size W).alloc (Nat.le_refl _) (.cells #[.slice (some ⟨rb, 0, none⟩) n n, .map (some wb), .map (some sb)] QT)
  have hhB := Blk.new W #[.slice (some ⟨rb, 0, none⟩) n n, .map (some wb), .map (some sb)] QT
  have hlr := hC.row.lt
  have hlw := hC.whr.lt
  have hls : sb < W.heap.size := by obtain ⟨_, _, _, h2, _⟩ := hC.sent; exact h2.lt
  have hsz := hC.below.size
  have hbW' : Below W.heap.size W wc := by rw [hwc]; exact hbW.drew
  have hh' : Blk wc W.heap.size #[.slice (some ⟨rb, 0, none⟩) n n, .map (some wb), .map (some sb)] QT := by rw [hwc]; exact hhB
  have HNE := Lib.hid (show (W.heap.size ≠ rb ∧ W.heap.size ≠ wb ∧ W.heap.size ≠ sb ∧ rb ≠ wb ∧ rb ≠ sb ∧ wb ≠ sb) ∧ w.heap.size ≤ W.heap.size ∧ w.heap.size ≤ rb ∧ w.heap.size ≤ wb ∧ w.heap.size ≤ sb from by omega)
  have HBw := Lib.hid (below_then hC.below hbW')
  have HH0 := Lib.hid hh'
  have HM0 := Lib.hid (And.intro (hC.whr.below hbW') (show ∃ m' g, m' ≤ m ∧ MapI wc Try.prog PT 3 .i64 (keL .i64) (okL .i64 2) sb m' g ∧ ∀ f t, (g [f, t]).getD 0 = s.sent f t from by
    obtain ⟨m', g, a, b, c⟩ := hC.sent
    exact ⟨m', g, a, b.below hbW', c⟩))
  have HRw0 := Lib.hid (show Rws wc W.heap.size rb wb sb n w.heap.size (fun j => if j < 0 then row s j else []) (List.replicate n (.slice none 0 0)) from by
    have hnil : ∀ (k : Nat) hd, (List.replicate n (Value.slice none 0 0))[k]? = some hd → hd = .slice none 0 0 := fun k hd h => by
      rw [List.getElem?_replicate] at h
      split at h
      · injection h with h; exact h.symm
      · cases h
    exact ⟨hC.row.below hbW', by simp, fun k hd hk => (by rw [hnil k hd hk]; exact .inl ⟨rfl, rfl⟩), fun j k hj hk g h1 h2 h3 h4 => (by rw [hnil j hj h1] at h3; cases h3), fun k hd g h1 h2 => (by rw [hnil k hd h1] at h2; cases h2)⟩)
  have c0 := (HP.out.head.below HBw.out).cell (o := 0) rfl
  clear hC hbW hhB hbW' hh' hwc g1 g2 g3 e1 e2 e3 hlr hlw hls hsz
  generalize W.heap.size = p' at HNE HH0 HRw0 ⊢
  go_wp2_with fail
  clear c0
  go_loopw [4, 5, 29] (fun _ _ i wr => ∃ (k : Nat) (hs' : List Value), k ≤ n ∧ i = .int .i64 k ∧ Rws wr p' rb wb sb n w.heap.size (fun j => if j < k then row s j else []) hs' ∧ Blk wr p' #[.slice (some ⟨rb, 0, none⟩) n n, .map (some wb), .map (some sb)] QT ∧
    MapI wr Try.prog 3 3 .i64 (keI .i64) (okI .i64) wb (total s) (whrI s) ∧ (∃ m' g, m' ≤ m ∧ MapI wr Try.prog PT 3 .i64 (keL .i64) (okL .i64 2) sb m' g ∧ ∀ f t, (g [f, t]).getD 0 = s.sent f t) ∧ Below w.heap.size w wr) (fun _ _ i _ => n - (intOf i).toNat)
  case atStart => exact ⟨0, _, by omega, rfl, HRw0.out, HH0.out, HM0.out.1, HM0.out.2, HBw.out⟩
  case round =>
    obtain ⟨k, hs', hk, rfl, hR, hB, hM1, hM2, hb⟩ := hrel
    have HRk := Lib.hid hR
    have HBk := Lib.hid hB
    have HMk := Lib.hid (And.intro hM1 hM2)
    have Hbk := Lib.hid hb
    clear hR hB hM1 hM2 hb HRw0 HH0 HM0 HBw
    have hk0 : (0 : Int) ≤ (k : Int) := by omega
    by_cases hlt : k < n
    · have hk1 : (k : Int) < (n : Int) := by omega
      obtain ⟨hd, hh, hc, hH⟩ := HP.out.hd hlt
      have ck := (Hbk.out.cell (p := ⟨rb0, k, none⟩) HP.out.rows.lt).trans hc
      have cp := HBk.out.cell (o := 0) rfl
      have HCl := Lib.hid (sclone_calls wr.drew hd (row s k) (hH.below (Hbk.out.drew)) (by have h1 := row_le_total (s := s) k; have h2 := HQ.out.ok.few; have h3 := HQ.out.small; omega))
      have hrl := HRk.out.rows.lt
      have HAf := Lib.hid (fun (w2 : World) (hb2 : Below wr.drew.heap.size wr.drew w2) (v : Value) => (show w2.cell? ⟨p', 0, none⟩ = some (.slice (some ⟨rb, 0, none⟩) n n) ∧ (w2.setCell ⟨rb, k, none⟩ v).cell? ⟨p', 0, none⟩ = some (.slice (some ⟨rb, 0, none⟩) n n) ∧ (∃ u, w2.cell? ⟨rb, k, none⟩ = some u) ∧ w2.frozen? ⟨rb, k, none⟩ = false from by
        have a1 := (HBk.out.drew).below hb2
        have a2 := (HRk.out.rows.drew).below hb2
        refine ⟨a1.cell (o := 0) rfl, (a1.other (a := ⟨rb, k, none⟩) HNE.out.1.1 v).cell (o := 0) rfl, ?_, a2.free k⟩
        have hkl : k < hs'.length := by rw [HRk.out.hlen]; exact hlt
        exact ⟨hs'[k], by rw [a2.cell hkl, List.getElem?_eq_getElem hkl]⟩))
      clear hh hc hH hrl
      go_wp2_with fail
      go_region_held3 (fun w' => w'.cell? ⟨p', 0, none⟩ = some (.slice (some ⟨rb, 0, none⟩) n n))
        (first | exact cp | exact y0 | exact y1)
        ((first
          | (go_at_call 88; (with_reducible refine (Calls.mono HCl.out ?_)); rintro e w2 ⟨hd', rfl, hH2, hg2, hb2⟩; obtain ⟨A2, c2, rfl⟩ := hH2.shape; obtain ⟨y0, y1, ⟨u, y2⟩, y3⟩ := HAf.out w2 hb2 (.slice A2 (row s k).length c2); have HX := Lib.hid (And.intro hH2 (And.intro hg2 (undrew hb2))); clear hH2 hg2 hb2)))
      obtain ⟨hH2, hg2, hb2⟩ := HX.out
      have hg2 : ∀ g, (Value.slice A2 (row s k).length c2).ownBlock = some g → wr.heap.size ≤ g := hg2
      clear y0 y1 y2 y3
      have hl1 := HBk.out.lt
      have hl2 := HRk.out.rows.lt
      have hl3 := HMk.out.1.lt
      have hl4 : sb < wr.heap.size := by obtain ⟨_, _, _, h2, _⟩ := HMk.out.2; exact h2.lt
      have hput := HRk.out.put hlt hb2 hH2 hg2 Hbk.out.size ⟨hl1, hl2, hl3, hl4⟩
      have HPut := Lib.hid (hput.congr (f' := fun j => if j < k + 1 then row s j else []) fun j hj => by
        by_cases e : j = k
        · simp [e]
        · by_cases e2 : j < k
          · simp [e, e2, Nat.lt_succ_of_lt e2]
          · simp [e, e2, show ¬ j < k + 1 by omega])
      have HB2 := Lib.hid ((HBk.out.below hb2).other (a := ⟨rb, k, none⟩) HNE.out.1.1 (.slice A2 (row s k).length c2))
      have HM2 := Lib.hid (And.intro ((HMk.out.1.below hb2).other (a := ⟨rb, k, none⟩) (Ne.symm HNE.out.1.2.2.2.1) (.slice A2 (row s k).length c2)) (show ∃ m' g, m' ≤ m ∧ MapI (w2.setCell ⟨rb, k, none⟩ (.slice A2 (row s k).length c2)) Try.prog PT 3 .i64 (keL .i64) (okL .i64 2) sb m' g ∧ ∀ f t, (g [f, t]).getD 0 = s.sent f t from by
        obtain ⟨m', g, a, b, c⟩ := HMk.out.2
        exact ⟨m', g, a, (b.below hb2).other (a := ⟨rb, k, none⟩) (Ne.symm HNE.out.1.2.2.2.2.1) _, c⟩))
      have Hb2 := Lib.hid ((below_then Hbk.out hb2).setCell (p := ⟨rb, k, none⟩) HNE.out.2.2.1 (.slice A2 (row s k).length c2))
      clear hput hH2 hg2 hb2 hl1 hl2 hl3 hl4 ck cp HBk HRk HMk Hbk HAf HCl
      go_wp2_with fail
      go_roundw
      case rel => exact ⟨k + 1, _, by omega, by go_num, HPut.out, HB2.out, HM2.out.1, HM2.out.2, Hb2.out⟩
      case measure => simp [intOf]; omega
    · obtain rfl : k = n := by omega
      go_wp2_with fail
      go_ret
      obtain ⟨F', hP', hF'⟩ := parts_of_rws (m := m) (HRk.out.congr (f' := row s) fun j hj => by simp [hj]) HBk.out HMk.out.1 HMk.out.2 HNE.out.1 HNE.out.2
      exact ⟨p', rfl, F', ⟨HQ.out.ok, HQ.out.small, rb, wb, sb, _, hP'⟩, hF', Hbk.out⟩
end Go.Proofs.Ytchnhmcedmicgaa.Rem
