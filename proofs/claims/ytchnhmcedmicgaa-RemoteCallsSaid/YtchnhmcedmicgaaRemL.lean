/- The reference's queues in memory, and the contracts of its methods that read. -/
import Derived.Test.YtchnhmcedmicgaaRemI
namespace Go.Proofs.Ytchnhmcedmicgaa.Rem
open Go.RowKit Go.Proofs.Ytchnhmcedmicgaa.Aid
abbrev RT : TypeId := 105
abbrev RST : TypeId := 106
/-- Something that was sent. -/
structure RRow where
  to_ : Int
  frm : Int
  at_ : Int
  seq : Int
  gone : Bool
def encR (r : RRow) : List Value := [.int .i64 r.to_, .int .i64 r.frm, .int .i64 r.at_, .int .i64 r.seq, .bool r.gone]
theorem encR_len (r : RRow) : (encR r).length = 5 := rfl
theorem encR_one (r : RRow) : ∀ v ∈ encR r, v.oneCell' = true := by
  intro v hv
  simp [encR] at hv
  rcases hv with rfl | rfl | rfl | rfl | rfl <;> rfl
theorem infoR : (Try.prog.info? RT).map (fun i => (i.zero, i.size, i.bytes)) = some (some (.agg #[.int .i64 0, .int .i64 0, .int .i64 0, .int .i64 0, .bool false]), 5, 40) := by kernel_rfl
theorem sizeR : (Try.prog.info? RT).map (·.size) = some 5 := by kernel_rfl
structure RefQ (w : World) (rp : Nat) (F : List Nat) (n : Nat) (log : List RRow) : Prop where
  ex : ∃ hd, Blk w rp #[.int .i64 n, hd] RQ ∧ Hdr encR 5 w RT hd log ∧ ∀ g, hd.ownBlock = some g → g ∈ F ∧ g ≠ rp
  ins : rp ∈ F
  flt : ∀ x ∈ F, x < w.heap.size
  len : log.length ≤ 100000
theorem RefQ.same {w w' : World} {rp n : Nat} {F : List Nat} {log : List RRow} (h : RefQ w rp F n log) (hz : w.heap.size ≤ w'.heap.size) (hb : ∀ i, i < w.heap.size → i ∈ F → w'.heap[i]? = w.heap[i]?) : RefQ w' rp F n log := by
  obtain ⟨hd, h1, h2, h3⟩ := h.ex
  exact ⟨⟨hd, (hb rp h1.lt h.ins).trans h1, h2.same fun g hg => hb g (h2.lt hg) (h3 g hg).1, h3⟩, h.ins, fun x hx => Nat.lt_of_lt_of_le (h.flt x hx) hz, h.len⟩
theorem RefQ.kept {w w' : World} {rp n : Nat} {F G : List Nat} {log : List RRow} (h : RefQ w rp F n log) (k : Kept G w w') (hF : ∀ x ∈ F, x ∉ G) : RefQ w' rp F n log := h.same k.size fun i hi hF' => k.block i hi (hF i hF')
theorem RefQ.below {w w' : World} {rp n : Nat} {F : List Nat} {log : List RRow} (h : RefQ w rp F n log) (k : Below w.heap.size w w') : RefQ w' rp F n log := h.same k.size fun i hi _ => k.block i hi
theorem RefQ.drew {w : World} {rp n : Nat} {F : List Nat} {log : List RRow} (h : RefQ w rp F n log) : RefQ w.drew rp F n log := h.below (Below.refl _ _).drew
/-- What the k-th record's cells say. -/
theorem rec5 {w : World} {g c : Nat} {log : List RRow} (h : Recs encR 5 w RT g c log) {k : Nat} {x : RRow} (hk : log[k]? = some x) :
    w.cell? ⟨g, k * 5, none⟩ = some (.int .i64 x.to_) ∧ w.cell? ⟨g, k * 5 + 1, none⟩ = some (.int .i64 x.frm) ∧ w.cell? ⟨g, k * 5 + 2, none⟩ = some (.int .i64 x.at_) ∧ w.cell? ⟨g, k * 5 + 3, none⟩ = some (.int .i64 x.seq) ∧ w.cell? ⟨g, k * 5 + 4, none⟩ = some (.bool x.gone) :=
  ⟨h.at_ encR_len hk (j := 0) rfl, h.at_ encR_len hk (j := 1) rfl, h.at_ encR_len hk (j := 2) rfl, h.at_ encR_len hk (j := 3) rfl, h.at_ encR_len hk (j := 4) rfl⟩
/-- The struct and its rows, ready for a walk over them. -/
theorem RefQ.open_ {w : World} {rp n : Nat} {F : List Nat} {log : List RRow} (h : RefQ w rp F n log) : ∃ A c, w.cell? ⟨rp, 1, none⟩ = some (.slice A log.length c) ∧ ∀ (k : Nat) (x : RRow), log[k]? = some x → ∃ g, A = some ⟨g, 0, none⟩ ∧ g ∈ F ∧ Recs encR 5 w RT g c log := by
  obtain ⟨hd, h1, h2, h3⟩ := h.ex
  rcases h2 with ⟨rfl, rfl⟩ | ⟨g, c, rfl, h4⟩
  · exact ⟨none, 0, h1.cell rfl, fun k x hk => by simp at hk⟩
  · exact ⟨_, c, h1.cell rfl, fun k x hk => ⟨g, rfl, (h3 g rfl).1, h4⟩⟩
theorem rworker_calls (w : World) (rp : Nat) (F : List Nat) (n : Nat) (log : List RRow) (k : Int) (h : RefQ w rp F n log) :
    Calls Try.prog 94 #[.pointer (some ⟨rp, 0, none⟩), .int .i64 k] w fun e w' => e = .returned (.bool (isW n k)) ∧ w = w' := by
  obtain ⟨hd, h1, _⟩ := h.ex
  have c0 := h1.cell (o := 0) rfl
  unfold isW
  clear h h1
  by_cases h0 : 0 ≤ k
  · by_cases h1 : k < n
    · rw [decide_eq_true ⟨h0, h1⟩]
      go_enter Try.func94, Try.ntmps94
      go_wp2
      go_ret
      exact ⟨rfl, rfl⟩
    · rw [decide_eq_false (by omega)]
      go_enter Try.func94, Try.ntmps94
      go_wp2
      go_ret
      exact ⟨rfl, rfl⟩
  · rw [decide_eq_false (by omega)]
    go_enter Try.func94, Try.ntmps94
    go_wp2
    go_ret
    exact ⟨rfl, rfl⟩
def waitsB (a : Int) (r : RRow) : Bool := !r.gone && r.at_ == a
def placeV (log : List RRow) (a : Int) : Int := match log.findIdx? (waitsB a) with
  | some k => (k : Int)
  | none => -1
theorem placeV_none {a : Int} {log : List RRow} (h : ∀ (k : Nat) (x : RRow), log[k]? = some x → waitsB a x = false) : placeV log a = -1 := by
  unfold placeV
  rw [List.findIdx?_eq_none_iff.2]
  intro x hx
  obtain ⟨k, hk, rfl⟩ := List.mem_iff_getElem.1 hx
  exact h k _ (List.getElem?_eq_getElem hk)
theorem placeV_some {a : Int} {log : List RRow} {k : Nat} {x : RRow} (hk : log[k]? = some x) (hx : waitsB a x = true) (h : ∀ (j : Nat) (y : RRow), j < k → log[j]? = some y → waitsB a y = false) : placeV log a = k := by
  unfold placeV
  obtain ⟨hl, rfl⟩ := List.getElem?_eq_some_iff.1 hk
  rw [List.findIdx?_eq_some_iff_getElem.2 ⟨hl, hx, fun j hj => by
    have := h j _ hj (List.getElem?_eq_getElem (by omega))
    simpa using this⟩]
theorem place_calls (w : World) (rp : Nat) (F : List Nat) (n : Nat) (log : List RRow) (a : Int) (h : RefQ w rp F n log) :
    Calls Try.prog 62 #[.pointer (some ⟨rp, 0, none⟩), .int .i64 a] w fun e w' => e = .returned (.int .i64 (placeV log a)) ∧ w = w' := by
  obtain ⟨A, c, c1, hrec⟩ := h.open_
  have HR := Lib.hid hrec
  have hlen := h.len
  clear h hrec
  go_enter Try.func62, Try.ntmps62
  go_wp2_with fail
  go_loop [5] (fun i => ∃ k : Nat, k ≤ log.length ∧ i = .int .i64 k ∧ ∀ (j : Nat) (y : RRow), j < k → log[j]? = some y → waitsB a y = false) (fun i => log.length - (intOf i).toNat)
  case atStart => exact ⟨0, by omega, rfl, fun j y hj => absurd hj (Nat.not_lt_zero _)⟩
  case round =>
    obtain ⟨k, hk, rfl, hn⟩ := hrel
    have HN := Lib.hid hn
    clear hn
    by_cases hlt : k < log.length
    · obtain ⟨x, hx⟩ : ∃ x, log[k]? = some x := ⟨_, List.getElem?_eq_getElem hlt⟩
      obtain ⟨g, rfl, _, hRe⟩ := HR.out k x hx
      obtain ⟨_, _, r2, _, r4⟩ := rec5 hRe hx
      have hk0 : (0 : Int) ≤ (k : Int) := by omega
      have hk1 : (k : Int) < (log.length : Int) := by omega
      have HX := Lib.hid hx
      have hstep : waitsB a x = false → ∀ (j : Nat) (y : RRow), j < k + 1 → log[j]? = some y → waitsB a y = false := fun hf j y hj hy => by
        by_cases e : j = k
        · subst e
          have := HX.out.symm.trans hy
          injection this with this
          rw [← this]; exact hf
        · exact HN.out j y (by omega) hy
      have HSt := Lib.hid hstep
      clear hx hRe hstep
      cases hg : x.gone with
      | true =>
        rw [hg] at r4
        have HW := Lib.hid (show waitsB a x = false by unfold waitsB; rw [hg]; rfl)
        clear hg
        go_wp2_with fail
        go_round
        case rel => exact ⟨k + 1, by omega, by go_num, HSt.out HW.out⟩
        case measure => simp [intOf]; omega
      | false =>
        rw [hg] at r4
        by_cases he : x.at_ = a
        · have HW := Lib.hid (show waitsB a x = true by unfold waitsB; rw [hg]; simpa using he)
          rw [he] at r2
          clear hg he
          go_wp2_with fail
          go_ret
          exact ⟨by rw [placeV_some HX.out HW.out HN.out]; rfl, rfl⟩
        · have HW := Lib.hid (show waitsB a x = false by unfold waitsB; rw [hg]; simpa using he)
          have hne : (x.at_ == a) = false := by simpa using he
          clear hg he
          go_wp2_with fail
          go_round
          case rel => exact ⟨k + 1, by omega, by go_num, HSt.out HW.out⟩
          case measure => simp [intOf]; omega
    · obtain rfl : k = log.length := by omega
      go_wp2_with fail
      go_ret
      exact ⟨by rw [placeV_none fun j y hy => HN.out j y (List.getElem?_eq_some_iff.1 hy).1 hy]; rfl, rfl⟩
/-! ### Counting -/
theorem filter_take {P : RRow → Bool} {log : List RRow} {k : Nat} {x : RRow} (hx : log[k]? = some x) : (log.take (k + 1)).filter P = (log.take k).filter P ++ (if P x = true then [x] else []) := by
  obtain ⟨hl, rfl⟩ := List.getElem?_eq_some_iff.1 hx
  rw [List.take_succ_eq_append_getElem hl, List.filter_append]
  congr 1
  by_cases e : P log[k] = true
  · rw [if_pos e, List.filter_cons_of_pos e]; rfl
  · rw [if_neg e, List.filter_cons_of_neg e]; rfl
def cntL (P : RRow → Bool) (log : List RRow) (k : Nat) : Nat := ((log.take k).filter P).length
theorem cntL_step {P : RRow → Bool} {log : List RRow} {k : Nat} {x : RRow} (hx : log[k]? = some x) : cntL P log (k + 1) = cntL P log k + (if P x = true then 1 else 0) := by
  unfold cntL
  rw [filter_take hx, List.length_append]
  split <;> rfl
theorem cntL_le (P : RRow → Bool) (log : List RRow) (k : Nat) : cntL P log k ≤ k := by
  unfold cntL
  have := List.length_filter_le P (log.take k)
  rw [List.length_take] at this
  omega
theorem cntL_all (P : RRow → Bool) (log : List RRow) : cntL P log log.length = (log.filter P).length := by
  unfold cntL
  rw [List.take_of_length_le (Nat.le_refl _)]
def sentB (f t : Int) (r : RRow) : Bool := r.frm == f && r.to_ == t
def sentN (log : List RRow) (f t : Int) : Nat := (log.filter (sentB f t)).length
theorem rsent_calls (w : World) (rp : Nat) (F : List Nat) (n : Nat) (log : List RRow) (f t : Int) (h : RefQ w rp F n log) :
    Calls Try.prog 66 #[.pointer (some ⟨rp, 0, none⟩), .int .i64 f, .int .i64 t] w fun e w' => e = .returned (.int .i64 (sentN log f t : Nat)) ∧ w = w' := by
  obtain ⟨A, c, c1, hrec⟩ := h.open_
  have HR := Lib.hid hrec
  have hlen := h.len
  have HAll := Lib.hid (cntL_all (sentB f t) log)
  clear h hrec
  go_enter Try.func66, Try.ntmps66
  go_wp2_with fail
  go_loop [7, 8] (fun a i => ∃ k : Nat, k ≤ log.length ∧ i = .int .i64 k ∧ a = .int .i64 (cntL (sentB f t) log k : Nat)) (fun _ i => log.length - (intOf i).toNat)
  case atStart => exact ⟨0, by omega, rfl, rfl⟩
  case round =>
    obtain ⟨k, hk, rfl, rfl⟩ := hrel
    by_cases hlt : k < log.length
    · obtain ⟨x, hx⟩ : ∃ x, log[k]? = some x := ⟨_, List.getElem?_eq_getElem hlt⟩
      obtain ⟨g, rfl, _, hRe⟩ := HR.out k x hx
      obtain ⟨r0, r1, _, _, _⟩ := rec5 hRe hx
      have hk0 : (0 : Int) ≤ (k : Int) := by omega
      have hk1 : (k : Int) < (log.length : Int) := by omega
      have HS := Lib.hid (cntL_step (P := sentB f t) hx)
      have hle := cntL_le (sentB f t) log k
      have hlz : ((cntL (sentB f t) log k : Nat) : Int) ≤ (k : Int) := by omega
      generalize cntL (sentB f t) log k = cn at HS hlz ⊢
      clear hle hRe hx
      by_cases e1 : x.frm = f
      · by_cases e2 : x.to_ = t
        · have HB := Lib.hid (show sentB f t x = true by simp [sentB, e1, e2])
          rw [e1] at r1
          rw [e2] at r0
          clear e1 e2
          go_wp2_with fail
          go_round
          case rel => exact ⟨k + 1, by omega, by go_num, by rw [HS.out, if_pos HB.out]; go_num⟩
          case measure => simp [intOf]; omega
        · have HB := Lib.hid (show sentB f t x = false by simp [sentB, e2])
          have hne : (x.to_ == t) = false := by simpa using e2
          rw [e1] at r1
          clear e1 e2
          go_wp2_with fail
          go_round
          case rel => exact ⟨k + 1, by omega, by go_num, by rw [HS.out, HB.out]; simp⟩
          case measure => simp [intOf]; omega
      · have HB := Lib.hid (show sentB f t x = false by simp [sentB, e1])
        have hne : (x.frm == f) = false := by simpa using e1
        clear e1
        go_wp2_with fail
        go_round
        case rel => exact ⟨k + 1, by omega, by go_num, by rw [HS.out, HB.out]; simp⟩
        case measure => simp [intOf]; omega
    · obtain rfl : k = log.length := by omega
      go_wp2_with fail
      go_ret
      exact ⟨by rw [HAll.out]; rfl, rfl⟩
end Go.Proofs.Ytchnhmcedmicgaa.Rem
