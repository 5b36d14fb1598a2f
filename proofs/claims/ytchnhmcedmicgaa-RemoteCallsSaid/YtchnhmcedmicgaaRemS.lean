/- The walk of RemoteEmpty: it returns true. -/
import Derived.Test.YtchnhmcedmicgaaRemR
import Derived.Test.YtchnhmcedmicgaaRemJ
set_option linter.unusedSimpArgs false
namespace Go.Proofs.Ytchnhmcedmicgaa.Rem
open Go.RowKit Go.Proofs.Ytchnhmcedmicgaa.Aid
def obs : Value → List Nat
  | .slice (some a) _ _ => [a.block]
  | _ => []
theorem mem_obs {v : Value} {g : Nat} : v.ownBlock = some g → g ∈ obs v := by
  intro h
  cases v <;> try (cases h; done)
  next A n c =>
    cases A with
    | none => cases h
    | some a =>
      have h : some a.block = some g := h
      injection h with h
      simp [obs, h]
/-- A list of items that was handed out, and an elder clone: what the law compares with. -/
structure Past (w : World) (hd : Value) (L : List It) (p2 : Nat) (F2 : List Nat) (n m : Nat) (s0 : QRun) : Prop where
  list : Hdr encI 3 w IT hd L
  old : QAt w p2 F2 n m s0
theorem Past.kept {w w' : World} {hd : Value} {L : List It} {p2 : Nat} {F F2 : List Nat} {n m : Nat} {s0 : QRun} (h : Past w hd L p2 F2 n m s0) (k : Kept F w w') (ho : ∀ b ∈ obs hd ++ F2, b ∉ F) : Past w' hd L p2 F2 n m s0 :=
  ⟨h.list.kept k fun g hg => ho g (List.mem_append_left _ (mem_obs hg)), h.old.kept k fun x hx => ho x (List.mem_append_right _ hx)⟩
theorem Past.below {w w' : World} {hd : Value} {L : List It} {p2 : Nat} {F2 : List Nat} {n m : Nat} {s0 : QRun} (h : Past w hd L p2 F2 n m s0) (k : Below w.heap.size w w') : Past w' hd L p2 F2 n m s0 := ⟨h.list.below k, h.old.below k⟩
/-- The list's records where they lie. -/
theorem Hdr.recs_of {w : World} {hd : Value} {L : List It} (h : Hdr encI 3 w IT hd L) {i : Nat} {x : It} (hx : L[i]? = some x) : ∃ g c, hd = .slice (some ⟨g, 0, none⟩) L.length c ∧ Recs encI 3 w IT g c L := by
  rcases h with ⟨_, h0⟩ | h0
  · subst h0; simp at hx
  · exact h0
set_option maxHeartbeats 32000000 in
set_option maxRecDepth 8000 in
theorem empty_yes (w : World) (n : Nat) (A : Option Addr) (ca : Nat) (xs : List Q4) (k : Int) (hx : QuadsW w A xs) (h1 : 1 ≤ n) (h2 : n ≤ 64) (hl : ¬ 100 < (xs.length : Int)) :
    Calls Try.prog 10 #[.int .i64 n, .slice A xs.length ca, .int .i64 k] w fun e w' => e = .returned (.bool true) ∧ Below w.heap.size w w' := by
  have HX := Lib.hid hx
  have HN := Lib.hid (And.intro h1 h2)
  clear hx
  go_enter Try.func10, Try.ntmps10
  go_wp2_with fail
  refine (alive_calls w).mono ?_
  rintro e w1 ⟨rfl, hb1⟩
  have HB1 := Lib.hid hb1
  clear hb1
  go_wp2_with fail
  refine (begin_yes w1 n h1 h2).mono ?_
  rintro e w2 ⟨p, F, rp, rfl, hH, hBk, hrp⟩
  have HD0 := Lib.hid (show DQ w w2 p F n 0 (q0 n) rp [rp] [] 0 from by
    have hs := HB1.out.size
    refine ⟨⟨hH.q, ⟨⟨_, hBk, .inl ⟨rfl, rfl⟩, fun g hg => by cases hg⟩, by simp, fun x hx => by simp at hx; subst hx; exact hBk.lt, by simp⟩, fun x hx => (hH.out x hx).1⟩, fun x hx => ?_, below_then HB1.out hH.below, Nat.le_refl _, Nat.le_refl _⟩
    rcases List.mem_append.1 hx with hx | hx
    · have := hH.base x hx; omega
    · simp at hx; subst hx; omega)
  clear hH hBk hrp HB1
  go_wp2_with fail
  go_loopw [10] (fun i wr => ∃ (j : Nat) (F : List Nat) (m : Nat) (s : QRun) (G : List Nat) (log : List RRow), j ≤ xs.length ∧ i = .int .i64 j ∧ DQ w wr p F n m s rp G log j) (fun i _ => xs.length - (intOf i).toNat)
  case atStart => exact ⟨0, F, 0, q0 n, [rp], [], by omega, rfl, HD0.out⟩
  case round =>
    obtain ⟨j, F, m, s, G, log, hj, rfl, hr⟩ := hrel
    have HR := Lib.hid hr
    clear hr HD0
    by_cases hlt : j < xs.length
    · obtain ⟨b, o, rfl, ⟨hlb, x0, x1, x2, x3⟩, hok⟩ := HX.out.below HR.out.below j hlt
      have hj0 : (0 : Int) ≤ (j : Int) := by omega
      have hj1 : (j : Int) < (xs.length : Int) := by omega
      generalize xs.getD j q40 = c at x0 x1 x2 x3 hok
      have HDo := Lib.hid (do_calls wr p F n m s rp G log c hok HR.out.both (by have := HR.out.few; omega) (by have := HR.out.len; omega))
      have HLn := Lib.hid (doL_len n log c)
      generalize doB n s log c = bb at HDo
      clear hok hlb
      go_wp2_with fail
      refine HDo.out.mono ?_
      rintro e w4 ⟨rfl, hd⟩
      have HNx := Lib.hid (HR.out.next hd HLn.out)
      clear hd
      go_wp2_with fail
      go_roundw
      case rel =>
        obtain ⟨F', G', m', h'⟩ := HNx.out
        exact ⟨j + 1, F', m', _, G', _, by omega, by go_num, h'⟩
      case measure => simp [intOf]; omega
    · obtain rfl : j = xs.length := by omega
      have HH := Lib.hid (show Hold w wr p F n m s [] from ⟨HR.out.both.q, fun x hx => HR.out.base x (List.mem_append_left _ hx), HR.out.below, by simp⟩)
      have hm100 : m ≤ 100 := by have := HR.out.few; omega
      have Hm := Lib.hid hm100
      clear HR hm100
      go_wp2_with fail
      refine (all_calls wr p F n m s k HH.out.q).mono ?_
      rintro e w5 ⟨hd, rfl, hHd, hgd, hb5⟩
      have HL5 := Lib.hid hHd
      have HO5 := Lib.hid (show ∀ b ∈ obs hd, b ∉ F ∧ b < w5.heap.size from fun b hb => by
        rcases hHd with ⟨rfl, _⟩ | ⟨g, c, rfl, hR⟩
        · simp [obs] at hb
        · simp [obs] at hb
          subst hb
          exact ⟨fun hx => by have := HH.out.q.flt _ hx; have := hgd b rfl; omega, hR.lt⟩)
      have HH5 := Lib.hid (HH.out.on hb5)
      clear hHd hgd hb5 HH
      go_wp2_with fail
      refine (clone_calls w5 p F n m s HH5.out.q).mono ?_
      rintro e w6 ⟨p2, rfl, F2, hQ2, hF2, hb6⟩
      have HP0 := Lib.hid (show Past w6 hd (rowI n s k) p2 F2 n m s from ⟨HL5.out.below hb6, hQ2⟩)
      have HH6 := Lib.hid (show Hold w w6 p F n m s (obs hd ++ F2) from ⟨HH5.out.q.below hb6, HH5.out.base, below_then HH5.out.below hb6, fun b hb => by
        rcases List.mem_append.1 hb with hb | hb
        · exact ⟨(HO5.out b hb).1, Nat.lt_of_lt_of_le (HO5.out b hb).2 hb6.size⟩
        · exact ⟨fun hx => by have := HH5.out.q.flt _ hx; have := hF2 b hb; omega, hQ2.flt b hb⟩⟩)
      obtain ⟨AL, cL, hde⟩ := HL5.out.shape
      have Hde := Lib.hid hde
      clear hQ2 hF2 hb6 HH5 HL5 HO5
      have HE0 := Lib.hid (Emp.start HH6.out.q.ok k)
      have Hok0 := Lib.hid HH6.out.q.ok
      have HLl := Lib.hid (show (rowI n s k).length ≤ 100 from by
        have h1 := HH6.out.q.ok.few
        have h3 := row_le_total (s := s) k.toNat
        have h4 := Hm.out
        unfold rowI
        split
        · omega
        · simp)
      subst hde
      generalize hLe : rowI n s k = L at HH6 HP0 HLl ⊢
      have HLe := Lib.hid hLe
      clear hLe
      have hLl := HLl.out
      go_wp2_with fail
      go_loopw [13] (fun i wr => ∃ (j : Nat) (F : List Nat) (s1 : QRun), j ≤ L.length ∧ i = .int .i64 j ∧ Hold w wr p F n m s1 (obs (.slice AL L.length cL) ++ F2) ∧ Past wr (.slice AL L.length cL) L p2 F2 n m s ∧ Emp n m s k s1 j) (fun i _ => L.length - (intOf i).toNat)
      case atStart => exact ⟨0, F, s, by omega, rfl, HH6.out, HP0.out, HE0.out⟩
      case round =>
        obtain ⟨j, F, s1, hj, rfl, hH, hP, hE⟩ := hrel
        have HH := Lib.hid hH
        have HP := Lib.hid hP
        have HE := Lib.hid hE
        clear hH hP hE HH6 HP0 HE0
        by_cases hlt : j < L.length
        · obtain ⟨x, hx⟩ : ∃ x, L[j]? = some x := ⟨_, List.getElem?_eq_getElem hlt⟩
          obtain ⟨htv, hE', hwq, hwo, hoa⟩ := HE.out.step Hok0.out (x := x) (by rw [HLe.out]; exact hx)
          obtain ⟨g, c, hgc, hRe0⟩ := Hdr.recs_of HP.out.list hx
          injection hgc with hg1 hg2 hg3
          subst hg1
          subst hg3
          have HRe := Lib.hid hRe0
          clear hRe0
          have hj0 : (0 : Int) ≤ (j : Int) := by omega
          have hj1 : (j : Int) < (L.length : Int) := by omega
          have HTk := Lib.hid (take_calls wr p F n m s1 k HH.out.q)
          rw [htv, show (Value.tuple #[itV (some x), .bool (some x).isSome]) = .tuple #[.agg #[.int .i64 x.frm, .int .i64 x.at_, .int .i64 x.seq], .bool true] from rfl] at HTk
          have HE' := Lib.hid hE'
          have HW := Lib.hid (And.intro hwq (And.intro hwo hoa))
          have HXx := Lib.hid hx
          clear htv hE' hwq hwo hoa hx
          go_wp2_with fail
          refine HTk.out.mono ?_
          rintro e w8 ⟨rfl, hW⟩
          obtain ⟨F', hH', hk'⟩ := HH.out.wrote hW
          have hP' := HP.out.kept hk' fun b hb => (HH.out.out b hb).1
          have hb9 := (Below.refl w8.heap.size w8).alloc (Nat.le_refl _) (.cells #[.int .i64 x.frm, .int .i64 x.at_, .int .i64 x.seq] IT)
          have hB := Blk.new w8 #[.int .i64 x.frm, .int .i64 x.at_, .int .i64 x.seq] IT
          have HH9 := Lib.hid (hH'.on hb9)
          have HP9 := Lib.hid (hP'.below hb9)
          have HB9 := Lib.hid hB
          have HRe9 := Lib.hid ((HRe.out.kept hk' (HH.out.out g (by simp [obs])).1).below hb9)
          clear hW hH' hk' hP' hb9 hB HTk HH HP HRe
          go_upto_region 20 with fail
          generalize w8.alloc (.cells #[.int .i64 x.frm, .int .i64 x.at_, .int .i64 x.seq] IT) = w9 at HH9 HP9 HB9 HRe9 ⊢
          generalize w8.heap.size = xq at HB9 ⊢
          have y0 := HB9.out.cell (o := 0) rfl
          have y1 := HB9.out.cell (o := 1) rfl
          have y2 := HB9.out.cell (o := 2) rfl
          have hRe := HRe9.out
          obtain ⟨r0, r1, r2⟩ := rec_cells hRe HXx.out
          have CWq := Lib.hid (where_calls w9.drew p F' n m (takeS n s1 k) x.at_ HW.out.2.2 HH9.out.q.drew)
          have CWo := Lib.hid (where_calls w9.drew p2 F2 n m s x.at_ HW.out.2.2 HP9.out.old.drew)
          rw [HW.out.1] at CWq
          rw [HW.out.2.1] at CWo
          have hkk : (k != k) = false := by simp
          clear hRe
          go_region_held3 (fun w' => w'.cell? ⟨xq, 0, none⟩ = some (.int .i64 x.frm) ∧ w'.cell? ⟨xq, 1, none⟩ = some (.int .i64 x.at_) ∧ w'.cell? ⟨xq, 2, none⟩ = some (.int .i64 x.seq) ∧ w'.cell? ⟨g, j * 3, none⟩ = some (.int .i64 x.frm) ∧ w'.cell? ⟨g, j * 3 + 1, none⟩ = some (.int .i64 x.at_) ∧ w'.cell? ⟨g, j * 3 + 2, none⟩ = some (.int .i64 x.seq))
            (first | exact ⟨y0, y1, y2, r0, r1, r2⟩)
            ((first
              | (go_at_call 60; (with_reducible refine (Calls.mono CWq.out ?_)); rintro e w10 ⟨rfl, rfl⟩)
              | (go_at_call 60; (with_reducible refine (Calls.mono CWo.out ?_)); rintro e w10 ⟨rfl, rfl⟩)))
          go_wp2_with fail
          go_roundw
          case rel => exact ⟨j + 1, F', _, by omega, by go_num, HH9.out.on (Below.refl _ _).drew, HP9.out.below (Below.refl _ _).drew, HE'.out⟩
          case measure => simp [intOf]; omega
        · obtain rfl : j = L.length := by omega
          have hE := HE.out
          rw [← HLe.out] at hE
          have hrow : rowI n s1 k = [] := by rw [hE.row_, List.drop_eq_nil_of_le (Nat.le_refl _)]
          have htv : takeV n s1 k = none := by rw [takeV_row, hrow]; rfl
          have htot := hE.tot
          rw [HLe.out] at htot
          have HF0 := Lib.hid (Fill.start hE)
          have hts := Hok0.out.few
          have hmm := Hm.out
          have hsub : IntKind.i64.wrap (((total s : Nat) : Int) - (L.length : Nat)) = (total s1 : Nat) := by rw [IntWalk.i64_in _ (by omega)]; omega
          have hnn : (((total s1 : Nat) : Int) != ((total s1 : Nat) : Int)) = false := by simp
          have HTk := Lib.hid (take_calls wr p F n m s1 k HH.out.q)
          rw [htv, show takeS n s1 k = s1 by unfold takeS; rw [htv], show (Value.tuple #[itV none, .bool (none : Option It).isSome]) = .tuple #[.agg #[.int .i64 0, .int .i64 0, .int .i64 0], .bool false] from rfl] at HTk
          have HRow := Lib.hid hrow
          clear hE hrow htv htot hts hmm HE
          go_wp2_with fail
          refine HTk.out.mono ?_
          rintro e w8 ⟨rfl, hW⟩
          obtain ⟨F', hH', hk'⟩ := HH.out.wrote hW
          have hP' := HP.out.kept hk' fun b hb => (HH.out.out b hb).1
          have hb9 := (Below.refl w8.heap.size w8).alloc (Nat.le_refl _) (.cells #[.int .i64 0, .int .i64 0, .int .i64 0] IT)
          have HH9 := Lib.hid (hH'.on hb9)
          have HP9 := Lib.hid (hP'.below hb9)
          clear hW hH' hk' hP' hb9 HTk HH HP
          go_upto_region 23 with fail
          generalize w8.alloc (.cells #[.int .i64 0, .int .i64 0, .int .i64 0] IT) = w9 at HH9 HP9 ⊢
          generalize w8.heap.size = xq
          have CLn := Lib.hid (len_calls w9 p F' n m s1 k HH9.out.q)
          rw [HRow.out] at CLn
          have CTq := Lib.hid (total_calls w9 p F' n m s1 HH9.out.q)
          have CTo := Lib.hid (total_calls w9 p2 F2 n m s HP9.out.old)
          have HF9 := Lib.hid HF0.out
          generalize ht1 : ((total s1 : Nat) : Int) = t1 at CTq hsub hnn
          generalize ht0 : ((total s : Nat) : Int) = t0 at CTo hsub
          have Ht0 := Lib.hid ht0
          clear ht1 ht0
          go_wp2_with (first
            | (go_at_call 55; (with_reducible refine (Calls.mono CLn.out ?_)); rintro e w10 ⟨rfl, rfl⟩)
            | (go_at_call 56; (with_reducible refine (Calls.mono CTq.out ?_)); rintro e w10 ⟨rfl, rfl⟩)
            | (go_at_call 56; (with_reducible refine (Calls.mono CTo.out ?_)); rintro e w10 ⟨rfl, rfl⟩)
            | fail)
          clear hsub hnn
          go_loopw [18] (fun i wr => ∃ (j : Nat) (F : List Nat) (s2 : QRun), j ≤ L.length ∧ i = .int .i64 j ∧ Hold w wr p F n (m + j) s2 (obs (.slice AL L.length cL) ++ F2) ∧ Past wr (.slice AL L.length cL) L p2 F2 n m s ∧ Fill n m s k s2 j) (fun i _ => L.length - (intOf i).toNat)
          case atStart => exact ⟨0, F', s1, by omega, rfl, HH9.out, HP9.out, HF9.out⟩
          case round =>
            obtain ⟨j, F, s2, hj, rfl, hH, hP, hF⟩ := hrel
            have HH := Lib.hid hH
            have HP := Lib.hid hP
            have HF := Lib.hid hF
            clear hH hP hF HH9 HP9 HF9 CLn CTq CTo
            by_cases hlt : j < L.length
            · obtain ⟨x, hx⟩ : ∃ x, L[j]? = some x := ⟨_, List.getElem?_eq_getElem hlt⟩
              obtain ⟨hc, hF'⟩ := HF.out.step Hok0.out (x := x) (by rw [HLe.out]; exact hx)
              obtain ⟨g, c, hgc, hRe⟩ := Hdr.recs_of HP.out.list hx
              injection hgc with hg1 hg2 hg3
              subst hg1
              subst hg3
              obtain ⟨r0, r1, _⟩ := rec_cells hRe hx
              have hj0 : (0 : Int) ≤ (j : Int) := by omega
              have hj1 : (j : Int) < (L.length : Int) := by omega
              have HSd := Lib.hid (send_calls wr.drew p F n (m + j) s2 x.frm k x.at_ HH.out.q.drew (by have := Hm.out; have := HLl.out; omega))
              rw [hc] at HSd
              have HF' := Lib.hid hF'
              have HRx := Lib.hid (fun (W : World) (hw : Wrote p F n (m + j + 1) (sendS n s2 x.frm k x.at_) wr.drew W) => (show W.cell? ⟨g, j * 3, none⟩ = some (.int .i64 x.frm) ∧ W.cell? ⟨g, j * 3 + 1, none⟩ = some (.int .i64 x.at_) from by
                obtain ⟨F', _, k1, _⟩ := hw
                obtain ⟨a0, a1, _⟩ := rec_cells (hRe.kept (undrewK k1) (HH.out.out g (by simp [obs])).1) hx
                exact ⟨a0, a1⟩))
              clear hc hF' hRe hx
              go_wp2_with fail
              go_region_held3 (fun w' => w'.cell? ⟨g, j * 3, none⟩ = some (.int .i64 x.frm) ∧ w'.cell? ⟨g, j * 3 + 1, none⟩ = some (.int .i64 x.at_))
                (first | exact ⟨r0, r1⟩ | exact HRx.out _ hk8.out)
                ((first
                  | (go_at_call 51; (with_reducible refine (Calls.mono HSd.out ?_)); rintro e w8 ⟨rfl, hk⟩; have hk8 := Lib.hid hk; clear hk)))
              go_wp2_with fail
              go_roundw
              case rel =>
                obtain ⟨F', hH', hk'⟩ := (HH.out.on (Below.refl _ _).drew).wrote hk8.out
                exact ⟨j + 1, F', _, by omega, by go_num, hH', (HP.out.below (Below.refl _ _).drew).kept hk' fun b hb => (HH.out.out b hb).1, HF'.out⟩
              case measure => simp [intOf]; omega
            · obtain rfl : j = L.length := by omega
              have HAl := Lib.hid (all_calls wr p F n (m + L.length) s2 k HH.out.q)
              have hlenM := HF.out.len
              have HM := Lib.hid (HF.out.like)
              have htt : ((total s2 : Nat) : Int) = ((total s : Nat) : Int) := by have := HF.out.tot; rw [HLe.out] at this; omega
              have Htt := Lib.hid htt
              clear htt
              generalize rowI n s2 k = M at HAl hlenM HM
              go_wp2_with fail
              refine HAl.out.mono ?_
              rintro e w12 ⟨hd2, rfl, hH2, hg2, hb12⟩
              obtain ⟨AM, cM, rfl⟩ := hH2.shape
              have HH12 := Lib.hid (HH.out.on hb12)
              have HP12 := Lib.hid (HP.out.below hb12)
              have HD2 := Lib.hid hH2
              rw [hlenM] at HD2 ⊢
              clear hH2 hg2 hb12 HAl HH HP HF
              go_wp2_with fail
              go_loopw [20] (fun i wr => ∃ (j : Nat), j ≤ L.length ∧ i = .int .i64 j ∧ Below w12.heap.size w12 wr) (fun i _ => L.length - (intOf i).toNat)
              case atStart => exact ⟨0, by omega, rfl, Below.refl _ _⟩
              case round =>
                obtain ⟨j, hj, rfl, hb⟩ := hrel
                have HB := Lib.hid hb
                clear hb
                by_cases hlt : j < L.length
                · obtain ⟨y, hy⟩ : ∃ y, M[j]? = some y := ⟨_, List.getElem?_eq_getElem (by omega)⟩
                  obtain ⟨x, hx, h1', h2', h3'⟩ := HM.out j y hy
                  rw [HLe.out] at hx
                  obtain ⟨g, c, hgc, hRe⟩ := Hdr.recs_of HP12.out.list hx
                  obtain ⟨r0, r1, r2⟩ := rec_cells (hRe.below HB.out) hx
                  have HD2' := HD2.out
                  rw [← hlenM] at HD2'
                  obtain ⟨gm, cm, hgm, hRm⟩ := Hdr.recs_of HD2' hy
                  obtain ⟨q0, q1, q2⟩ := rec_cells (hRm.below HB.out) hy
                  have e1 := congrArg (fun v => match v with | Value.slice A _ _ => A | _ => none) hgc
                  have e2 := congrArg (fun v => match v with | Value.slice A _ _ => A | _ => none) hgm
                  simp only at e1 e2
                  subst e1
                  subst e2
                  rw [h1'] at q1
                  rw [h2'] at q0
                  have hj0 : (0 : Int) ≤ (j : Int) := by omega
                  have hj1 : (j : Int) < (L.length : Int) := by omega
                  have R1 := Lib.hid (show decide (y.seq ≤ x.seq) = false from decide_eq_false (by omega))
                  clear hgc hRe hgm hRm HD2' h1' h2' h3' hx hy
                  go_wp2_with fail
                  have r1' := R1.out
                  go_region_held3 (fun w' => w'.cell? ⟨gm, j * 3, none⟩ = some (.int .i64 x.frm) ∧ w'.cell? ⟨gm, j * 3 + 1, none⟩ = some (.int .i64 x.at_) ∧ w'.cell? ⟨gm, j * 3 + 2, none⟩ = some (.int .i64 y.seq) ∧ w'.cell? ⟨g, j * 3, none⟩ = some (.int .i64 x.frm) ∧ w'.cell? ⟨g, j * 3 + 1, none⟩ = some (.int .i64 x.at_) ∧ w'.cell? ⟨g, j * 3 + 2, none⟩ = some (.int .i64 x.seq))
                    (first | exact ⟨q0, q1, q2, r0, r1, r2⟩) (fail)
                  go_wp2_with fail
                  go_roundw
                  case rel => exact ⟨j + 1, by omega, by go_num, HB.out.drew⟩
                  case measure => simp [intOf]; omega
                · obtain rfl : j = L.length := by omega
                  have CTq := Lib.hid (total_calls wr p F n (m + L.length) s2 (HH12.out.q.below HB.out))
                  have CTo := Lib.hid (total_calls wr p2 F2 n m s (HP12.out.old.below HB.out))
                  rw [Htt.out] at CTq
                  generalize ((total s : Nat) : Int) = t0 at CTq CTo
                  go_wp2_with (first
                    | (go_at_call 56; (with_reducible refine (Calls.mono CTq.out ?_)); rintro e w14 ⟨rfl, rfl⟩)
                    | (go_at_call 56; (with_reducible refine (Calls.mono CTo.out ?_)); rintro e w14 ⟨rfl, rfl⟩)
                    | fail)
                  go_ret
                  exact ⟨by simp, below_then HH12.out.below HB.out⟩
end Go.Proofs.Ytchnhmcedmicgaa.Rem
