/- The contract of package radix's Clone. -/
import Derived.Test.YtldlogmjkbhomaaRadD
import Derived.Test.YtldlogmjkbhomaaAidArr
import Derived.Deep.OwnRows
set_option linter.unusedSimpArgs false
namespace Go.Proofs.Ytldlogmjkbhomaa.Rad
open Go.RowKit Go.Proofs.Ytldlogmjkbhomaa.Aid Go.Proofs.Ytldlogmjkbhomaa.Pack
/-- A leaf that may not yet be copied. -/
def LeafN (w : World) (p rb base : Nat) (f : Nat → Int) (k j : Nat) (v : Value) : Prop :=
  (v = .pointer none ∧ (j < k → cntW f j = 0)) ∨ ∃ g, v = ptrTo g ∧ Blk w g (leafC f j).toArray LT ∧ cntW f j ≠ 0 ∧ base ≤ g ∧ g ≠ p ∧ g ≠ rb
/-- Leaves while they are copied. -/
structure Cop (w : World) (p rb N base : Nat) (f : Nat → Int) (k : Nat) (hs : List Value) : Prop where
  rows : Row w LPT rb N hs
  hlen : hs.length = N
  each : ∀ j v, hs[j]? = some v → LeafN w p rb base f k j v
  fresh : ∀ j v, hs[j]? = some v → k ≤ j → v = .pointer none
  apart : ∀ (i j g : Nat), hs[i]? = some (ptrTo g) → hs[j]? = some (ptrTo g) → i = j
section
variable {w w' : World} {p rb N base k : Nat} {f : Nat → Int} {hs : List Value}
theorem Cop.below (h : Cop w p rb N base f k hs) (hb : Below w.heap.size w w') : Cop w' p rb N base f k hs :=
  ⟨h.rows.below hb, h.hlen, fun j v hv => (by
    rcases h.each j v hv with h1 | ⟨g, h1, h2, h3⟩
    · exact .inl h1
    · exact .inr ⟨g, h1, h2.below hb, h3⟩), h.fresh, h.apart⟩
theorem Cop.skip (h : Cop w p rb N base f k hs) (hc : cntW f k = 0) : Cop w p rb N base f (k + 1) hs :=
  ⟨h.rows, h.hlen, fun j v hv => (by
    rcases h.each j v hv with h1 | h1
    · refine .inl ⟨h1.1, fun hj => ?_⟩
      by_cases e : j = k
      · rw [e]; exact hc
      · exact h1.2 (by omega)
    · exact .inr h1), fun j v hv hj => h.fresh j v hv (by omega), h.apart⟩
theorem Cop.put (h : Cop w p rb N base f k hs) (hk : k < N) {g : Nat} (hB : Blk w g (leafC f k).toArray LT) (hc : cntW f k ≠ 0) (hg : base ≤ g ∧ g ≠ p ∧ g ≠ rb) (hnew : ∀ j : Nat, hs[j]? ≠ some (ptrTo g)) : Cop (w.setCell ⟨rb, k, none⟩ (ptrTo g)) p rb N base f (k + 1) (hs.set k (ptrTo g)) := by
  have hkl : k < hs.length := by rw [h.hlen]; exact hk
  have hget : ∀ j, (hs.set k (ptrTo g))[j]? = if j = k then some (ptrTo g) else hs[j]? := fun j => by
    rw [List.getElem?_set]
    by_cases e : k = j
    · subst e; simp [hkl]
    · rw [if_neg e, if_neg fun e' => e e'.symm]
  refine ⟨h.rows.store k _, by rw [List.length_set]; exact h.hlen, fun j v hv => ?_, fun j v hv hj => ?_, fun i j g' hi hj => ?_⟩
  · rw [hget] at hv
    by_cases e : j = k
    · rw [if_pos e] at hv
      subst e
      exact .inr ⟨g, (Option.some.inj hv).symm, hB.other (a := ⟨rb, j, none⟩) hg.2.2 _, hc, hg⟩
    · rw [if_neg e] at hv
      rcases h.each j v hv with h1 | ⟨g2, h1, h2, h3, h4⟩
      · exact .inl ⟨h1.1, fun hj => h1.2 (by omega)⟩
      · exact .inr ⟨g2, h1, h2.other (a := ⟨rb, k, none⟩) h4.2.2 _, h3, h4⟩
  · rw [hget, if_neg (by omega)] at hv
    exact h.fresh j v hv (by omega)
  · rw [hget] at hi hj
    by_cases e1 : i = k
    · by_cases e2 : j = k
      · omega
      · rw [if_pos e1] at hi
        rw [if_neg e2] at hj
        rw [← ptr_inj (Option.some.inj hi)] at hj
        exact (hnew j hj).elim
    · rw [if_neg e1] at hi
      by_cases e2 : j = k
      · rw [if_pos e2] at hj
        rw [← ptr_inj (Option.some.inj hj)] at hi
        exact (hnew i hi).elim
      · rw [if_neg e2] at hj
        exact h.apart i j g' hi hj
theorem Cop.newb (h : Cop w p rb N base f k hs) {g : Nat} (hg : w.heap.size ≤ g) : ∀ j : Nat, hs[j]? ≠ some (ptrTo g) := fun j hj => by
  rcases h.each j _ hj with h1 | ⟨g2, h1, h2, _⟩
  · cases h1.1
  · cases ptr_inj h1
    have := h2.lt
    omega
def blkOf : Value → Option Nat
  | .pointer (some a) => some a.block
  | _ => none
theorem parts_of_cop {pages : Nat} {s : RS} (h : Cop w p rb (leavesN pages) base s.ws (leavesN pages) hs) (hh : Blk w p #[.int .i64 pages, .slice (some ⟨rb, 0, none⟩) (leavesN pages) (leavesN pages), .int .u64 s.st] MT) (ne : p ≠ rb) (hb : base ≤ p ∧ base ≤ rb) :
    ∃ F, Parts w p F pages s rb hs ∧ ∀ x ∈ F, base ≤ x := by
  have hx : ∀ (j : Nat) v (x : Nat), hs[j]? = some v → blkOf v = some x → v = ptrTo x ∧ base ≤ x ∧ x < w.heap.size := fun j v x h1 h2 => by
    rcases h.each j v h1 with ⟨rfl, _⟩ | ⟨g, rfl, h3, _, h4, _⟩
    · cases h2
    · cases Option.some.inj (show some g = some x from h2)
      exact ⟨rfl, h4, h3.lt⟩
  refine ⟨p :: rb :: hs.filterMap blkOf, ⟨hh, h.rows, h.hlen, fun j v hv => ?_, h.apart, by simp, ne, fun x hx' => ?_⟩, fun x hx' => ?_⟩
  · rcases h.each j v hv with h1 | ⟨g, h1, h2, h3, h4, h5, h6⟩
    · exact .inl ⟨h1.1, h1.2 (by rw [← h.hlen]; exact (List.getElem?_eq_some_iff.1 hv).1)⟩
    · refine .inr ⟨g, h1, h2, h3, ?_, h5, h6⟩
      have : g ∈ hs.filterMap blkOf := List.mem_filterMap.2 ⟨v, List.mem_of_getElem? hv, by rw [h1]; rfl⟩
      simp [this]
  · simp only [List.mem_cons] at hx'
    rcases hx' with rfl | rfl | hx'
    · exact hh.lt
    · exact h.rows.lt
    · obtain ⟨v, h1, h2⟩ := List.mem_filterMap.1 hx'
      obtain ⟨j, hj, rfl⟩ := List.mem_iff_getElem.1 h1
      exact (hx j _ x (List.getElem?_eq_getElem hj) h2).2.2
  · simp only [List.mem_cons] at hx'
    rcases hx' with rfl | rfl | hx'
    · exact hb.1
    · exact hb.2
    · obtain ⟨v, h1, h2⟩ := List.mem_filterMap.1 hx'
      obtain ⟨j, hj, rfl⟩ := List.mem_iff_getElem.1 h1
      exact (hx j _ x (List.getElem?_eq_getElem hj) h2).2.1
end
theorem lay_all (cs : Array Value) (vs : List Value) (h : cs.size = vs.length) : layA cs 0 vs = vs.toArray := by
  unfold layA
  congr 1
  apply List.ext_getElem?
  intro i
  rw [lay_get? _ _ _ _ (by simp [h]), if_neg (by omega)]
  by_cases hi : i < 0 + vs.length
  · rw [if_pos hi, Nat.sub_zero]
  · rw [if_neg hi, List.getElem?_eq_none (by simp; omega), List.getElem?_eq_none (by omega)]
theorem made_eq (z : Value) (n : Nat) : madeCells #[z] n = (List.replicate n z).toArray := by
  rw [← toList_madeCells_one]
theorem leafC_one (f : Nat → Int) (k : Nat) : ∀ v ∈ leafC f k, v.oneCell' = true := by
  intro v hv
  unfold leafC at hv
  rcases List.mem_append.1 hv with h | h
  · obtain ⟨j, _, rfl⟩ := List.mem_map.1 h
    rfl
  · simp at h
    subst h
    rfl
theorem hiL : (Try.prog.info? LT).map (·.size) = some 65 := by kernel_rfl
set_option maxRecDepth 8000 in
set_option maxHeartbeats 8000000 in
theorem clone_calls (w : World) (p : Nat) (F : List Nat) (pages : Nat) (s : RS) (h : RadAt w p F pages s) :
    Calls Try.prog 41 #[.pointer (some ⟨p, 0, none⟩)] w fun e w' => ∃ p', e = .returned (.pointer (some ⟨p', 0, none⟩)) ∧ ∃ F', RadAt w' p' F' pages s ∧ (∀ x ∈ F', w.heap.size ≤ x) ∧ Below w.heap.size w w' := by
  obtain ⟨rb0, hs0, hP⟩ := h.ex
  have HOk := Lib.hid h.ok
  have hL64 : leavesN pages ≤ 64 := by have := h.ok.p12; unfold leavesN; omega
  have hmk := fun W => run_make_row' (P := Try.prog) 110 LPT (.pointer none) 8 Try.underlying110 infoL rfl .i64 .i64 (leavesN pages) (by omega) (by omega) W
  have HS := Lib.hid (fun (W : World) (hb : Below w.heap.size w W) => (show W.cell? ⟨p, 0, none⟩ = some (.int .i64 pages) ∧ W.cell? ⟨p, 1, none⟩ = some (.slice (some ⟨rb0, 0, none⟩) (leavesN pages) (leavesN pages)) ∧ W.cell? ⟨p, 2, none⟩ = some (.int .u64 s.st) from by
    have hh := hP.head.below hb
    exact ⟨hh.cell (o := 0) rfl, hh.cell (o := 1) rfl, hh.cell (o := 2) rfl⟩))
  have b0 := (Below.refl w.heap.size w)
  have hB1 := fun (o : Obj) => balloc b0 o
  have hB2 := fun (o o2 : Obj) => balloc (balloc b0 o) o2
  have B0 := Lib.hid b0.drew
  have B1 := Lib.hid (fun o => (hB1 o).drew)
  have B2 := Lib.hid (fun o o2 => (hB2 o o2).drew)
  have HP := Lib.hid hP
  have hR := Row.lit w (List.replicate (leavesN pages) (.pointer none)) LPT (by simp [maxLen]; omega)
  rw [List.length_replicate, ← made_eq] at hR
  have HR := Lib.hid hR
  generalize hzs : madeCells #[(.pointer none : Value)] (leavesN pages) = zs at hmk HR
  clear h hP b0 hB1 hB2 hzs hR
  go_enter Try.func41, Try.ntmps41
  go_upto_region 1 with fail
  go_cut [3] (fun v wc => v = .pointer (some ⟨(w.alloc (.cells zs LPT)).heap.size, 0, none⟩) ∧ wc = ((w.alloc (.cells zs LPT)).alloc (.cells #[.int .i64 pages, .slice (some ⟨w.heap.size, 0, none⟩) (leavesN pages) (leavesN pages), .int .u64 s.st] MT)).drew)
  case first =>
    go_region_held3 (fun w' => w'.cell? ⟨p, 0, none⟩ = some (.int .i64 pages) ∧ w'.cell? ⟨p, 1, none⟩ = some (.slice (some ⟨rb0, 0, none⟩) (leavesN pages) (leavesN pages)) ∧ w'.cell? ⟨p, 2, none⟩ = some (.int .u64 s.st))
      (first | exact HS.out _ B0.out | exact HS.out _ (B1.out _) | exact HS.out _ (B2.out _ _))
      (fail)
    all_goals
      go_wp2_with fail
      go_meet
      exact ⟨by simp, rfl⟩
  case rest =>
  obtain ⟨rfl, hwc⟩ := hcut
  clear hmk B0 B1 B2
  have hz1 : (w.alloc (.cells zs LPT)).heap.size = w.heap.size + 1 := by simp
  have hB := Blk.new (w.alloc (.cells zs LPT)) #[.int .i64 pages, .slice (some ⟨w.heap.size, 0, none⟩) (leavesN pages) (leavesN pages), .int .u64 s.st] MT
  have hH : Blk wc (w.alloc (.cells zs LPT)).heap.size #[.int .i64 pages, .slice (some ⟨w.heap.size, 0, none⟩) (leavesN pages) (leavesN pages), .int .u64 s.st] MT := by rw [hwc]; exact hB
  have hb : Below w.heap.size w wc := by rw [hwc]; exact (balloc (balloc (Below.refl _ _) _) _).drew
  have hC : Cop wc (w.alloc (.cells zs LPT)).heap.size w.heap.size (leavesN pages) w.heap.size s.ws 0 (List.replicate (leavesN pages) (.pointer none)) := by
    have hnil : ∀ (k : Nat) v, (List.replicate (leavesN pages) (Value.pointer none))[k]? = some v → v = .pointer none := fun k v h => by
      rw [List.getElem?_replicate] at h
      split at h
      · exact (Option.some.inj h).symm
      · cases h
    refine ⟨by rw [hwc]; exact (HR.out.alloc _).drew, List.length_replicate, fun j v hv => .inl ⟨hnil j v hv, fun h => by omega⟩, fun j v hv _ => hnil j v hv, fun i j g hi _ => ?_⟩
    cases hnil i _ hi
  rw [hz1] at hH hC ⊢
  have HW := Lib.hid (show w.heap.size ≤ w.heap.size + 1 ∧ w.heap.size ≤ w.heap.size ∧ w.heap.size + 1 ≠ w.heap.size ∧ w.heap.size ≠ w.heap.size + 1 by omega)
  obtain ⟨base, hbase⟩ : ∃ b, b = w.heap.size := ⟨_, rfl⟩
  have c0 := (HS.out wc hb).2.1
  have HBase := Lib.hid hbase
  have HLe := Lib.hid (show rb0 < w.heap.size from HP.out.rows.lt)
  rw [← hbase] at hC HW hH ⊢
  clear hbase hwc hB HR HS hz1
  generalize base + 1 = p' at hC HW hH ⊢
  obtain ⟨rb, hrb⟩ : ∃ r, r = base := ⟨_, rfl⟩
  have hW : base ≤ p' ∧ base ≤ rb ∧ p' ≠ rb ∧ rb ≠ p' := by rw [hrb]; exact HW.out
  rw [← hrb] at hH
  have hC : Cop wc p' rb (leavesN pages) base s.ws 0 (List.replicate (leavesN pages) (.pointer none)) := by rw [hrb]; exact hC
  clear HW hrb
  have HW := Lib.hid hW
  have HC := Lib.hid hC
  have HH := Lib.hid hH
  have HBl := Lib.hid hb
  clear hW hC hH hb
  go_wp2_with fail
  clear c0
  go_loopw [4, 5, 6, 28] (fun _ _ _ i wr => ∃ (k : Nat) (hs' : List Value), k ≤ leavesN pages ∧ i = .int .i64 k ∧ Cop wr p' rb (leavesN pages) base s.ws k hs' ∧ Blk wr p' #[.int .i64 pages, .slice (some ⟨rb, 0, none⟩) (leavesN pages) (leavesN pages), .int .u64 s.st] MT ∧ Below w.heap.size w wr) (fun _ _ _ i _ => leavesN pages - (intOf i).toNat)
  case atStart => exact ⟨0, _, by omega, rfl, HC.out, HH.out, HBl.out⟩
  case round =>
    obtain ⟨k, hs', hk, rfl, hC, hH, hb⟩ := hrel
    have HCk := Lib.hid hC
    have HHk := Lib.hid hH
    have HBk := Lib.hid hb
    clear hC hH hb HC HH HBl
    have hk0 : (0 : Int) ≤ (k : Int) := by omega
    by_cases hlt : k < leavesN pages
    · have hk1 : (k : Int) < (leavesN pages : Int) := by omega
      obtain ⟨v, hv, hc, hL⟩ := HP.out.at hlt
      have ck := (HBk.out.cell (p := ⟨rb0, k, none⟩) HP.out.rows.lt).trans hc
      rcases hL with ⟨rfl, hz⟩ | ⟨g0, rfl, hB0, hz, _⟩
      · have HZ := Lib.hid hz
        clear hz hc hv
        go_wp2_with fail
        go_roundw
        case rel => exact ⟨k + 1, hs', by omega, by go_num, HCk.out.skip HZ.out, HHk.out, HBk.out⟩
        case measure => simp [intOf]; omega
      · have HZ := Lib.hid hz
        have hBr := hB0.below HBk.out
        unfold ptrTo at ck
        clear hz hc hv hB0
        have hr : wr.rangeAt g0 0 (leafC s.ws k) := hBr.range fun j v hj => by rw [Nat.zero_add]; simpa using hj
        have hone := leafC_one s.ws k
        have hl := leafC_len s.ws k
        have hBn := Blk.new wr Try.zeroCells121 LT
        have HBn := Lib.hid hBn
        have HT := Lib.hid (show (wr.alloc (.cells Try.zeroCells121 LT)).there wr.heap.size 0 (leafC s.ws k).toArray.size from hBn.there (by rw [List.size_toArray, hl]; decide))
        have hr2 : (wr.alloc (.cells Try.zeroCells121 LT)).rangeAt g0 0 (leafC s.ws k) := (hBr.alloc _).range fun j v hj => by rw [Nat.zero_add]; simpa using hj
        have HNf := Lib.hid (HCk.out.newb (Nat.le_refl wr.heap.size))
        have hzb := hBn.lt
        clear hBr hBn
        obtain ⟨cs, hcs⟩ : ∃ cs, cs = leafC s.ws k := ⟨_, rfl⟩
        rw [← hcs] at hr hone hl HT hr2
        have HCS := Lib.hid hcs
        clear hcs
        go_upto_region 6 with fail
        go_cut [6] (fun t wc => t = .pointer (some ⟨wr.heap.size, 0, none⟩) ∧ wc = (wr.alloc (.cells Try.zeroCells121 LT)).setCells wr.heap.size 0 cs)
        case first =>
          go_wp2_with (first
            | (refine wpList_load_mid rfl _ _ rfl _ _ rfl cs _ hr Try.underlying121 rfl (hiL.trans (congrArg some hl.symm)) ?_)
            | (refine wpList_load_mid rfl _ _ rfl _ _ rfl cs _ hr2 Try.underlying121 rfl (hiL.trans (congrArg some hl.symm)) ?_)
            | (refine wpList_store_mid rfl _ _ _ rfl _ _ cs.toArray rfl rfl HT.out (hiL.trans (congrArg some (by simp [hl]))) (all_oneCell_toArray hone) ?_)
            | fail)
          go_meet
          exact ⟨rfl, rfl⟩
        case rest =>
        obtain ⟨rfl, hwc⟩ := hcut
        have hba := (Below.refl wr.heap.size wr).alloc (Nat.le_refl _) (.cells Try.zeroCells121 LT)
        have hb2 : Below wr.heap.size wr wc := by
          rw [hwc]
          exact below_kept hba ((Kept.refl [wr.heap.size] _).setCells (.inl (by simp)) cs 0) hba.size (by simp)
        have hBc := HBn.out.setCells cs 0 (by simp [hl])
        rw [lay_all _ _ (by rw [hl]; decide), ← hwc, HCS.out] at hBc
        have hC2 := HCk.out.below hb2
        have hH2 := HHk.out.below hb2
        have hb3 := bstep HBk.out hb2
        have hpl := HHk.out.lt
        have hrl := HCk.out.rows.lt
        have hbl : base ≤ wr.heap.size := by rw [HBase.out]; exact HBk.out.size
        have hkl : k < hs'.length := by rw [HCk.out.hlen]; exact hlt
        obtain ⟨g, hg⟩ : ∃ g, g = wr.heap.size := ⟨_, rfl⟩
        rw [← hg] at hBc hbl hpl hrl HNf ⊢
        have hPut := hC2.put hlt hBc HZ.out ⟨hbl, by omega, by omega⟩ HNf.out
        have HPut := Lib.hid hPut
        have HH3 := Lib.hid (hH2.other (a := ⟨rb, k, none⟩) HW.out.2.2.1 (ptrTo g))
        have HB3 := Lib.hid (hb3.setCell (p := ⟨rb, k, none⟩) (by rw [← HBase.out]; exact HW.out.2.1) (ptrTo g))
        have cp := hH2.cell (o := 1) rfl
        have cr : ∃ u, wc.cell? ⟨rb, k, none⟩ = some u := ⟨hs'[k], by rw [hC2.rows.cell hkl, List.getElem?_eq_getElem hkl]⟩
        obtain ⟨u, cr⟩ := cr
        have fr := hC2.rows.free k
        clear hba hb2 hBc hC2 hH2 hb3 hpl hrl hbl hg hPut hwc ck hr hr2 hone hl HT HBn HCS HCk HHk HBk hzb hkl
        go_wp2_with fail
        go_roundw
        case rel => exact ⟨k + 1, _, by omega, by go_num, HPut.out, HH3.out, HB3.out⟩
        case measure => simp [intOf]; omega
    · obtain rfl : k = leavesN pages := by omega
      go_wp2_with fail
      go_ret
      obtain ⟨F', hP', hF'⟩ := parts_of_cop HCk.out HHk.out HW.out.2.2.1 ⟨HW.out.1, HW.out.2.1⟩
      exact ⟨p', rfl, F', ⟨HOk.out, rb, _, hP'⟩, by rw [← HBase.out]; exact hF', HBk.out⟩
end Go.Proofs.Ytldlogmjkbhomaa.Rad
