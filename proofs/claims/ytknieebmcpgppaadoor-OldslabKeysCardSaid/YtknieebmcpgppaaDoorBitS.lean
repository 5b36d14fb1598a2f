/- The contract of the reference's Words of layer 3, and of the law's own function Do. -/
import Derived.Test.YtknieebmcpgppaaDoorBitR
namespace Go.Proofs.YtknieebmcpgppaaDoor.Bit
open Go.RowKit Go.Proofs.YtknieebmcpgppaaDoor.Aid
def pref (l : List Bool) (i : Nat) : List Bool := l.take i ++ List.replicate (l.length - i) false
theorem pref_len (l : List Bool) (i : Nat) (h : i ≤ l.length) : (pref l i).length = l.length := by simp [pref]; omega
theorem pref_get (l : List Bool) (i j : Nat) (h : i ≤ l.length) : (pref l i).getD j false = if j < i then l.getD j false else false := by
  unfold pref
  simp only [List.getD_eq_getElem?_getD]
  by_cases hj : j < i
  · rw [if_pos hj, List.getElem?_append_left (by simp; omega), List.getElem?_take_of_lt hj]
  · rw [if_neg hj, List.getElem?_append_right (by simp; omega), List.getElem?_replicate]
    split <;> rfl
theorem list_ext (a b : List Bool) (hl : a.length = b.length) (h : ∀ j, j < a.length → a.getD j false = b.getD j false) : a = b := by
  apply List.ext_getElem hl
  intro j h1 h2
  have := h j h1
  simpa [List.getD_eq_getElem?_getD, h1, h2] using this
theorem pref_true (l : List Bool) (i : Nat) (h : i < l.length) (hb : l.getD i false = true) : (pref l i).set i true = pref l (i + 1) := by
  have e1 := pref_len l i (by omega)
  have e2 := pref_len l (i + 1) (by omega)
  refine list_ext _ _ (by rw [List.length_set, e1, e2]) fun j hj => ?_
  rw [List.length_set, e1] at hj
  rw [getD_set _ _ _ _ (by rw [e1]; exact h), pref_get _ _ _ (by omega), pref_get _ _ _ (by omega)]
  by_cases hij : i = j
  · subst hij; rw [if_pos rfl, if_pos (by omega), hb]
  · rw [if_neg hij]
    by_cases hj1 : j < i
    · rw [if_pos hj1, if_pos (by omega)]
    · rw [if_neg hj1, if_neg (by omega)]
theorem pref_false (l : List Bool) (i : Nat) (h : i < l.length) (hb : l.getD i false = false) : pref l i = pref l (i + 1) := by
  have e1 := pref_len l i (by omega)
  have e2 := pref_len l (i + 1) (by omega)
  refine list_ext _ _ (by rw [e1, e2]) fun j hj => ?_
  rw [pref_get _ _ _ (by omega), pref_get _ _ _ (by omega)]
  by_cases hij : i = j
  · subst hij; rw [if_neg (by omega), if_pos (by omega), hb]
  · by_cases hj1 : j < i
    · rw [if_pos hj1, if_pos (by omega)]
    · rw [if_neg hj1, if_neg (by omega)]
theorem pref_zero (l : List Bool) : pref l 0 = List.replicate l.length false := by simp [pref]
theorem pref_all (l : List Bool) : pref l l.length = l := by simp [pref]
def WordsAt (w : World) (g c : Nat) (l : List Bool) : Prop := Row w 44 g c ((words l).map (.int .u64))
theorem WordsAt.word {w : World} {g c : Nat} {l : List Bool} (h : WordsAt w g c l) {k : Nat} (hk : k < nwords l.length) : w.cell? ⟨g, k, none⟩ = some (.int .u64 (Bit.word l k)) := by
  rw [Row.cell h (by simpa [words_len] using hk)]
  rw [List.getElem?_map, ← words_get l k hk, List.getD_eq_getElem?_getD, List.getElem?_eq_getElem (by rw [words_len]; exact hk)]
  rfl
theorem WordsAt.put {w : World} {g c : Nat} {l : List Bool} (h : WordsAt w g c l) {i : Nat} {b : Bool} (hi : i < l.length) : WordsAt (w.setCell ⟨g, i / 64, none⟩ (.int .u64 (Bit.word (l.set i b) (i / 64)))) g c (l.set i b) := by
  have := Row.store h (i / 64) (.int .u64 (Bit.word (l.set i b) (i / 64)))
  rw [← List.map_set, words_set l i b hi] at this
  exact this
set_option maxHeartbeats 2000000 in
theorem rwords_calls (w : World) (g c : Nat) (l : List Bool) (h : BoolsAt w g c l) (hl : l.length ≤ 4096) :
    Calls Tryd.prog 15 #[.slice (some ⟨g, 0, none⟩) l.length c] w (Fresh64 (words l) w) := by
  have H := Lib.hid h
  have hgl := h.lt
  clear h
  have hm : nwords l.length ≤ 64 := by unfold nwords; omega
  have hi : ((nwords l.length : Nat) : Int) = ((l.length : Int) + 63) / 64 := by unfold nwords; omega
  have Hi := Lib.hid hi
  clear hi
  go_enter Tryd.func15, Tryd.ntmps15
  go_wp2_with (at_make; refine make_row _ rfl _ _ 32 rfl 44 Tryd.underlying32 (.int .u64 0) 8 rfl info_u64 _ _ (nwords l.length) (congrArg (Value.int .i64) (by rw [Hi.out])) (congrArg (Value.int .i64) (by rw [Hi.out])) (by omega) (by decide) ?_)
  intro w1 hrow hlt1 hb1
  have hW : WordsAt w1 w.heap.size (nwords l.length) (pref l 0) := by
    unfold WordsAt
    rw [pref_zero, words_zero, List.map_replicate]
    exact hrow
  have HW := Lib.hid hW
  clear hrow hW
  generalize hq : w.heap.size = q at *
  have Hq := Lib.hid hq
  clear hq
  generalize hn : nwords l.length = n at *
  have Hn := Lib.hid hn
  clear hn
  go_wp2_with fail
  go_loopw [4] (fun i wr => ∃ k : Nat, k ≤ l.length ∧ i = .int .i64 k ∧ WordsAt wr q n (pref l k) ∧ Below q w wr) (fun i _ => l.length - (intOf i).toNat)
  case atStart => exact ⟨0, by omega, rfl, HW.out, hb1⟩
  case round =>
    obtain ⟨k, hk, rfl, hWk, hb⟩ := hrel
    have HWk := Lib.hid hWk
    have HB := Lib.hid hb
    clear hWk hb
    have hk0 : (0 : Int) ≤ (k : Int) := by omega
    by_cases hlt : k < l.length
    · have hc := ((HB.out.cell (p := ⟨g, k, none⟩) hgl)).trans (H.out.cell hlt)
      cases hbit : l.getD k false
      · rw [hbit] at hc
        have HP := Lib.hid (pref_false l k hlt hbit)
        clear hbit
        go_wp2_with fail
        go_roundw
        case rel => exact ⟨k + 1, by omega, by go_num, by rw [← HP.out]; exact HWk.out, HB.out⟩
        case measure => simp [intOf]; omega
      · rw [hbit] at hc
        have hpl := pref_len l k hk
        have HP := Lib.hid (pref_true l k hlt hbit)
        have hwc := HWk.out.word (k := k / 64) (by rw [hpl]; unfold nwords; omega)
        have hfr := Row.free HWk.out (k / 64)
        have hor := or_word (pref l k) k (by rw [hpl]; exact hlt)
        rw [HP.out] at hor
        have hput := HWk.out.put (i := k) (b := true) (by rw [hpl]; exact hlt)
        rw [HP.out] at hput
        have Hput := Lib.hid hput
        have Hor := Lib.hid hor
        have hnk : (k : Int) / 64 < (n : Int) := by have := Hn.out; unfold nwords at this; omega
        have h2 : (0 : Int) ≤ (k : Int) / 64 := by omega
        have h4 : ((k : Int) / 64).toNat = k / 64 := by omega
        have hw2 := Lib.hid (wrap_two (k % 64) (by omega))
        clear hbit hpl hput hor
        generalize Bit.word (pref l k) (k / 64) = x at hwc Hor
        generalize Bit.word (pref l (k + 1)) (k / 64) = y at Hput Hor
        go_wp2_with fail
        go_roundw
        case rel =>
          refine ⟨k + 1, by omega, by go_num, ?_, HB.out.setCell (Nat.le_refl _) _⟩
          rw [hw2.out, Hor.out]; exact Hput.out
        case measure => simp [intOf]; omega
    · obtain rfl : k = l.length := by omega
      go_wp2_with fail
      go_ret
      refine ⟨q, n, ret_slice1 (by rw [words_len, Hn.out]), ?_, by have := Hq.out; omega, by rw [Hq.out]; exact HB.out⟩
      have := HWk.out
      rw [pref_all] at this
      exact this
/-- A call of the law. -/
structure Ask where
  clear : Bool
  k : Int
def ask0 : Ask := ⟨false, 0⟩
structure AskAt (w : World) (b o : Nat) (x : Ask) : Prop where
  lt : b < w.heap.size
  c0 : w.cell? ⟨b, o, none⟩ = some (.bool x.clear)
  c1 : w.cell? ⟨b, o + 1, none⟩ = some (.int .i64 x.k)
def Asks (w : World) (A : Option Addr) (xs : List Ask) : Prop := ∀ k, k < xs.length → ∃ b o, A = some ⟨b, o, none⟩ ∧ AskAt w b (o + k * 2) (xs.getD k ask0)
theorem AskAt.block {w w' : World} {b o : Nat} {x : Ask} (h : AskAt w b o x) (hs : w.heap.size ≤ w'.heap.size) (hb : w'.heap[b]? = w.heap[b]?) : AskAt w' b o x :=
  ⟨Nat.lt_of_lt_of_le h.lt hs, (World.cell?_of_block (w := w) (a := ⟨b, o, none⟩) hb).trans h.c0, (World.cell?_of_block (w := w) (a := ⟨b, o + 1, none⟩) hb).trans h.c1⟩
theorem Asks.below {w w' : World} {A : Option Addr} {xs : List Ask} (h : Asks w A xs) (k : Below w.heap.size w w') : Asks w' A xs := fun j hj => by
  obtain ⟨b, o, e, ht⟩ := h j hj
  exact ⟨b, o, e, ht.block k.size (k.block b ht.lt)⟩
/-- The row behind calls. -/
def doAll (l : List Bool) (xs : List Ask) : List Bool := xs.foldl (fun l x => setL l x.k (!x.clear)) l
theorem doAll_snoc (l : List Bool) (xs : List Ask) (x : Ask) : doAll l (xs ++ [x]) = setL (doAll l xs) x.k (!x.clear) := by simp [doAll]
theorem doAll_len (l : List Bool) : ∀ xs : List Ask, (doAll l xs).length = l.length := by
  intro xs
  induction xs generalizing l with
  | nil => rfl
  | cons x xs ih => exact (ih (setL l x.k (!x.clear))).trans (setL_len _ _ _)
theorem take_ask (xs : List Ask) (j : Nat) (h : j < xs.length) : xs.take (j + 1) = xs.take j ++ [xs.getD j ask0] := by
  rw [List.take_succ_eq_append_getElem h, List.getD_eq_getElem?_getD, List.getElem?_eq_getElem h]; rfl
theorem RowAt.other {w : World} {p g c : Nat} {l : List Bool} (h : RowAt w p g c l) {a : Addr} (hp : p ≠ a.block) (hg : g ≠ a.block) {v : Value} : RowAt (w.setCell a v) p g c l := ⟨h.ne, h.pos, h.head.other hp v, h.row.other hg v, h.small⟩
/-- What Do leaves. -/
structure Done (w : World) (p g c h d : Nat) (l : List Bool) : Prop where
  own : RowAt w p g c l
  bools : BoolsAt w h d l
theorem setB_clear (l : List Bool) (k : Nat) (b : Bool) (hk : k < l.length) : setB l (k : Int) b = (l.getD k false != b) := by
  unfold setB
  rw [inR_nat l k hk, Int.toNat_natCast, Bool.true_and]
theorem setL_in (l : List Bool) (k : Nat) (b : Bool) (hk : k < l.length) : setL l (k : Int) b = l.set k b := by
  unfold setL
  rw [if_pos (inR_nat l k hk), Int.toNat_natCast]
theorem setL_out (l : List Bool) (k : Int) (b : Bool) (h : k < 0 ∨ (l.length : Int) ≤ k) : setL l k b = l := by
  unfold setL
  rw [inR_no l k h]; rfl
theorem setB_out (l : List Bool) (k : Int) (b : Bool) (h : k < 0 ∨ (l.length : Int) ≤ k) : setB l k b = false := by
  unfold setB
  rw [inR_no l k h]; rfl
set_option maxHeartbeats 8000000 in
theorem do_calls (w : World) (p g c h d n : Nat) (l : List Bool) (A : Option Addr) (ca : Nat) (xs : List Ask) (hR : RowAt w p g c l) (hL : BoolsAt w h d l) (hx : Asks w A xs) (hxl : xs.length ≤ 1000000) (hg : g ≠ h) (hp : p ≠ h) (hAg : ∀ b o, xs ≠ [] → A = some ⟨b, o, none⟩ → b ≠ g ∧ b ≠ h) (hn : l.length = n) :
    Calls Tryd.prog 12 #[.pointer (some ⟨p, 0, none⟩), .slice (some ⟨h, 0, none⟩) n d, .slice A xs.length ca] w fun e w' => e = .returned (.bool true) ∧ Done w' p g c h d (doAll l xs) ∧ Kept [g, h] w w' := by
  have HX := Lib.hid hx
  have HA := Lib.hid hAg
  have HN := Lib.hid hn
  have hn4 : n ≤ 4096 := by rw [← hn]; exact hR.small
  clear hx hAg hn
  go_enter Tryd.func12, Tryd.ntmps12
  go_wp2_with fail
  go_loopw [7] (fun i wr => ∃ j : Nat, j ≤ xs.length ∧ i = .int .i64 j ∧ Done wr p g c h d (doAll l (xs.take j)) ∧ Kept [g, h] w wr) (fun i _ => xs.length - (intOf i).toNat)
  case atStart => exact ⟨0, by omega, rfl, ⟨hR, hL⟩, Kept.refl _ _⟩
  case round =>
    obtain ⟨j, hj, rfl, hD, hK⟩ := hrel
    have HD := Lib.hid hD
    have HK := Lib.hid hK
    clear hD hK
    have hj0 : (0 : Int) ≤ (j : Int) := by omega
    by_cases hlt : j < xs.length
    · obtain ⟨b, o, rfl, ht⟩ := HX.out j hlt
      obtain ⟨hbg, hbh⟩ := HA.out b o (by rintro rfl; simp at hlt) rfl
      have hTk := ht.block HK.out.size (HK.out.block b ht.lt (by simp [hbg, hbh]))
      have HS := Lib.hid (show doAll l (xs.take (j + 1)) = setL (doAll l (xs.take j)) (xs.getD j ask0).k (!(xs.getD j ask0).clear) by rw [take_ask xs j hlt, doAll_snoc])
      have hml := doAll_len l (xs.take j)
      rw [HN.out] at hml
      clear ht
      generalize xs.getD j ask0 = x at hTk HS
      generalize doAll l (xs.take j) = m at HD HS hml
      obtain ⟨cl, k⟩ := x
      obtain ⟨hbl, c0, c1⟩ := hTk
      dsimp only at c0 c1 HS
      have HTk := Lib.hid (⟨hbl, c0, c1⟩ : AskAt wr b (o + j * 2) ⟨cl, k⟩)
      have hj1 : (j : Int) < (xs.length : Int) := by omega
      have Hml := Lib.hid hml
      by_cases hk : k < 0 ∨ (n : Int) ≤ k
      · have hko : k < 0 ∨ (m.length : Int) ≤ k := by rw [hml]; exact hk
        have HO := Lib.hid (fun b => setL_out m k b hko)
        have HB1 := Lib.hid (fun b => setB_out m k b hko)
        clear hml hko
        by_cases hk0 : k < 0
        · have hd0 : decide (0 ≤ k) = false := by simp; omega
          clear hk
          cases cl
          · go_wp2_with fail
            go_quiet (fail)
            go_wp2_with fail
            refine (set_calls _ p g c m k (HD.out.own.drewN _)).mono ?_
            rintro e w5 ⟨he, hR5, hK5⟩
            rw [HB1.out true] at he
            subst he
            rw [HO.out true] at hR5
            have HR5 := Lib.hid hR5
            have HK5 := Lib.hid hK5
            clear hR5 hK5 c0 c1
            go_wp2_with fail
            go_roundw
            case rel => exact ⟨j + 1, by omega, by go_num, by rw [HS.out]; simp only [Bool.not_false]; rw [HO.out true]; exact ⟨HR5.out, BoolsAt.kept (w := wr.drewN _) HD.out.bools HK5.out (by simpa using Ne.symm hg)⟩, (HK.out.drewN _).step HK5.out (by simp)⟩
            case measure => simp [intOf]; omega
          · go_wp2_with fail
            go_quiet (fail)
            go_wp2_with fail
            refine (clear_calls _ p g c m k (HD.out.own.drewN _)).mono ?_
            rintro e w5 ⟨he, hR5, hK5⟩
            rw [HB1.out false] at he
            subst he
            rw [HO.out false] at hR5
            have HR5 := Lib.hid hR5
            have HK5 := Lib.hid hK5
            clear hR5 hK5 c0 c1
            go_wp2_with fail
            go_roundw
            case rel => exact ⟨j + 1, by omega, by go_num, by rw [HS.out]; simp only [Bool.not_true]; rw [HO.out false]; exact ⟨HR5.out, BoolsAt.kept (w := wr.drewN _) HD.out.bools HK5.out (by simpa using Ne.symm hg)⟩, (HK.out.drewN _).step HK5.out (by simp)⟩
            case measure => simp [intOf]; omega
        · have hk1 : 0 ≤ k := by omega
          have hk2 : (n : Int) ≤ k := by omega
          have hd0 : decide (k < (n : Int)) = false := by simp; omega
          clear hk
          cases cl
          · go_wp2_with fail
            go_quiet (fail)
            go_wp2_with fail
            refine (set_calls _ p g c m k (HD.out.own.drewN _)).mono ?_
            rintro e w5 ⟨he, hR5, hK5⟩
            rw [HB1.out true] at he
            subst he
            rw [HO.out true] at hR5
            have HR5 := Lib.hid hR5
            have HK5 := Lib.hid hK5
            clear hR5 hK5 c0 c1
            go_wp2_with fail
            go_roundw
            case rel => exact ⟨j + 1, by omega, by go_num, by rw [HS.out]; simp only [Bool.not_false]; rw [HO.out true]; exact ⟨HR5.out, BoolsAt.kept (w := wr.drewN _) HD.out.bools HK5.out (by simpa using Ne.symm hg)⟩, (HK.out.drewN _).step HK5.out (by simp)⟩
            case measure => simp [intOf]; omega
          · go_wp2_with fail
            go_quiet (fail)
            go_wp2_with fail
            refine (clear_calls _ p g c m k (HD.out.own.drewN _)).mono ?_
            rintro e w5 ⟨he, hR5, hK5⟩
            rw [HB1.out false] at he
            subst he
            rw [HO.out false] at hR5
            have HR5 := Lib.hid hR5
            have HK5 := Lib.hid hK5
            clear hR5 hK5 c0 c1
            go_wp2_with fail
            go_roundw
            case rel => exact ⟨j + 1, by omega, by go_num, by rw [HS.out]; simp only [Bool.not_true]; rw [HO.out false]; exact ⟨HR5.out, BoolsAt.kept (w := wr.drewN _) HD.out.bools HK5.out (by simpa using Ne.symm hg)⟩, (HK.out.drewN _).step HK5.out (by simp)⟩
            case measure => simp [intOf]; omega
      · obtain ⟨k, rfl⟩ := Int.eq_ofNat_of_zero_le (show 0 ≤ k by omega)
        have hkn : (k : Int) < (n : Int) := by omega
        have hkn' : k < n := by omega
        have hkm : k < m.length := by rw [hml]; exact hkn'
        have hk1 : (0 : Int) ≤ (k : Int) := by omega
        have hcell := HD.out.bools.cell hkm
        have hfree := HD.out.bools.free k
        have HO := Lib.hid (fun b => setL_in m k b hkm)
        have HB1 := Lib.hid (fun b => setB_clear m k b hkm)
        have Hput := Lib.hid (fun b => HD.out.bools.put k b)
        clear hk hml hkm
        cases cl
        · cases hmb : m.getD k false
          · rw [hmb] at hcell HB1
            clear hmb
            go_wp2_with fail
            go_quiet (fail)
            go_wp2_with fail
            refine (set_calls _ p g c m k ((HD.out.own.drewN _).other hp hg)).mono ?_
            rintro e w5 ⟨he, hR5, hK5⟩
            rw [HB1.out true] at he
            subst he
            rw [HO.out true] at hR5
            have HR5 := Lib.hid hR5
            have HK5 := Lib.hid hK5
            clear hR5 hK5 c0 c1 hcell hfree
            go_wp2_with fail
            go_roundw
            case rel => exact ⟨j + 1, by omega, by go_num, by rw [HS.out]; simp only [Bool.not_false]; rw [HO.out true]; exact ⟨HR5.out, BoolsAt.kept (w := (wr.drewN _).setCell _ _) (Hput.out true) HK5.out (by simpa using Ne.symm hg)⟩, ((HK.out.drewN _).setCell (by simp) _).step HK5.out (by simp)⟩
            case measure => simp [intOf]; omega
          · rw [hmb] at hcell HB1
            clear hmb
            go_wp2_with fail
            go_quiet (fail)
            go_wp2_with fail
            refine (set_calls _ p g c m k ((HD.out.own.drewN _).other hp hg)).mono ?_
            rintro e w5 ⟨he, hR5, hK5⟩
            rw [HB1.out true] at he
            subst he
            rw [HO.out true] at hR5
            have HR5 := Lib.hid hR5
            have HK5 := Lib.hid hK5
            clear hR5 hK5 c0 c1 hcell hfree
            go_wp2_with fail
            go_roundw
            case rel => exact ⟨j + 1, by omega, by go_num, by rw [HS.out]; simp only [Bool.not_false]; rw [HO.out true]; exact ⟨HR5.out, BoolsAt.kept (w := (wr.drewN _).setCell _ _) (Hput.out true) HK5.out (by simpa using Ne.symm hg)⟩, ((HK.out.drewN _).setCell (by simp) _).step HK5.out (by simp)⟩
            case measure => simp [intOf]; omega
        · cases hmb : m.getD k false
          · rw [hmb] at hcell HB1
            clear hmb
            go_wp2_with fail
            go_quiet (fail)
            go_wp2_with fail
            refine (clear_calls _ p g c m k ((HD.out.own.drewN _).other hp hg)).mono ?_
            rintro e w5 ⟨he, hR5, hK5⟩
            rw [HB1.out false] at he
            subst he
            rw [HO.out false] at hR5
            have HR5 := Lib.hid hR5
            have HK5 := Lib.hid hK5
            clear hR5 hK5 c0 c1 hcell hfree
            go_wp2_with fail
            go_roundw
            case rel => exact ⟨j + 1, by omega, by go_num, by rw [HS.out]; simp only [Bool.not_true]; rw [HO.out false]; exact ⟨HR5.out, BoolsAt.kept (w := (wr.drewN _).setCell _ _) (Hput.out false) HK5.out (by simpa using Ne.symm hg)⟩, ((HK.out.drewN _).setCell (by simp) _).step HK5.out (by simp)⟩
            case measure => simp [intOf]; omega
          · rw [hmb] at hcell HB1
            clear hmb
            go_wp2_with fail
            go_quiet (fail)
            go_wp2_with fail
            refine (clear_calls _ p g c m k ((HD.out.own.drewN _).other hp hg)).mono ?_
            rintro e w5 ⟨he, hR5, hK5⟩
            rw [HB1.out false] at he
            subst he
            rw [HO.out false] at hR5
            have HR5 := Lib.hid hR5
            have HK5 := Lib.hid hK5
            clear hR5 hK5 c0 c1 hcell hfree
            go_wp2_with fail
            go_roundw
            case rel => exact ⟨j + 1, by omega, by go_num, by rw [HS.out]; simp only [Bool.not_true]; rw [HO.out false]; exact ⟨HR5.out, BoolsAt.kept (w := (wr.drewN _).setCell _ _) (Hput.out false) HK5.out (by simpa using Ne.symm hg)⟩, ((HK.out.drewN _).setCell (by simp) _).step HK5.out (by simp)⟩
            case measure => simp [intOf]; omega
    · obtain rfl : j = xs.length := by omega
      have hta : xs.take xs.length = xs := List.take_length
      have Hta := Lib.hid hta
      clear hta
      go_wp2_with fail
      go_ret
      refine ⟨rfl, ?_, HK.out⟩
      have := HD.out
      rw [Hta.out] at this
      exact this
end Go.Proofs.YtknieebmcpgppaaDoor.Bit
