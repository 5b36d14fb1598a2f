/- Plain words for RemoteCalls: the program's queues and the reference's log tell the same. No program is walked here. -/
import Derived.Test.YtchnhmcedmicgaaRemR
namespace Go.Proofs.Ytchnhmcedmicgaa.Rem
open Go.RowKit Go.Proofs.Ytchnhmcedmicgaa.Aid
def itR (r : RRow) : It := ⟨r.frm, r.at_, r.seq⟩
def liveB (r : RRow) : Bool := !r.gone
theorem sameB_itR (y : RRow) : sameB (itR y) y = true := by simp [sameB, itR]
theorem waitsB_iff {a : Int} {x : RRow} : waitsB a x = true ↔ x.gone = false ∧ x.at_ = a := by simp [waitsB]
theorem forB_iff {k : Int} {x : RRow} : forB k x = true ↔ x.gone = false ∧ x.to_ = k := by simp [forB]
structure LikeQ (n : Nat) (s : QRun) (log : List RRow) : Prop where
  rows : ∀ k : Nat, k < n → row s k = (allL log (k : Int)).map itR
  rng : ∀ x ∈ log, 0 ≤ x.to_ ∧ x.to_ < n
  sent : ∀ f t, s.sent f t = sentN log f t
  nod : (log.filter liveB).Pairwise fun x y => x.at_ ≠ y.at_
  tot : total s = (log.filter liveB).length
theorem like0 (n : Nat) : LikeQ n (q0 n) [] := by
  refine ⟨fun k _ => (by rw [row_q0]; rfl), fun x hx => (by cases hx), fun f t => rfl, List.Pairwise.nil, ?_⟩
  show ((List.replicate n ([] : List It)).map List.length).sum = 0
  induction n with
  | zero => rfl
  | succ n ih => rw [List.replicate_succ, List.map_cons, List.sum_cons, ih]; rfl
section
variable {n m : Nat} {s : QRun} {log : List RRow}
theorem LikeQ.rowsI (h : LikeQ n s log) (k : Int) : rowI n s k = (allL log k).map itR := by
  unfold rowI
  by_cases hk : 0 ≤ k ∧ k < n
  · rw [if_pos hk]
    obtain ⟨j, rfl⟩ := Int.eq_ofNat_of_zero_le hk.1
    exact h.rows j (by omega)
  · rw [if_neg hk]
    have : allL log k = [] := by
      unfold allL
      rw [List.filter_eq_nil_iff]
      intro x hx hf
      have := h.rng x hx
      have := (forB_iff.1 hf).2
      omega
    rw [this]; rfl
theorem LikeQ.waits (h : LikeQ n s log) {x : RRow} (hx : x ∈ log) (hg : x.gone = false) : Waits s x.at_ x.to_.toNat := by
  have hr := h.rng x hx
  refine ⟨itR x, ?_, rfl⟩
  rw [h.rows _ (by omega), Int.toNat_of_nonneg hr.1]
  exact List.mem_map.2 ⟨x, List.mem_filter.2 ⟨hx, forB_iff.2 ⟨hg, rfl⟩⟩, rfl⟩
theorem LikeQ.waited (h : LikeQ n s log) (hok : OkQ n s m) {a : Int} {k : Nat} (hw : Waits s a k) : ∃ x ∈ log, waitsB a x = true ∧ x.to_ = k := by
  have hk := hw.lt
  rw [hok.len] at hk
  obtain ⟨y, hy, he⟩ := hw
  rw [h.rows k hk] at hy
  obtain ⟨x, hx, rfl⟩ := List.mem_map.1 hy
  obtain ⟨hx1, hx2⟩ := List.mem_filter.1 hx
  have := forB_iff.1 hx2
  exact ⟨x, hx1, waitsB_iff.2 ⟨this.1, he⟩, this.2⟩
theorem LikeQ.whr_of_mem (h : LikeQ n s log) (hok : OkQ n s m) {a : Int} {x : RRow} (hx : x ∈ log) (hw : waitsB a x = true) : whr s a = some x.to_.toNat := by
  obtain ⟨h1, h2⟩ := waitsB_iff.1 hw
  exact whr_of hok (h2 ▸ h.waits hx h1)
theorem LikeQ.isSome (h : LikeQ n s log) (hok : OkQ n s m) (a : Int) : (whr s a).isSome = waitsL log a := by
  unfold waitsL
  cases e : log.findIdx? (waitsB a) with
  | some i =>
    rw [List.findIdx?_eq_some_iff_getElem] at e
    obtain ⟨hi, h1, _⟩ := e
    rw [h.whr_of_mem hok (List.getElem_mem hi) h1]
    rfl
  | none =>
    rw [List.findIdx?_eq_none_iff] at e
    cases e2 : whr s a with
    | none => rfl
    | some k =>
      obtain ⟨x, hx, hw, _⟩ := h.waited hok (whr_some e2).2
      rw [e x hx] at hw; cases hw
/-- Where the reference's place stands, there stands the row to which the address was sent. -/
theorem LikeQ.place_some (h : LikeQ n s log) (hok : OkQ n s m) {a : Int} (hp : 0 ≤ placeV log a) : ∃ (k : Nat) (x : RRow), placeV log a = k ∧ log[k]? = some x ∧ whrV s a = x.to_ := by
  unfold placeV at hp ⊢
  cases e : log.findIdx? (waitsB a) with
  | none => rw [e] at hp; simp at hp
  | some i =>
    rw [List.findIdx?_eq_some_iff_getElem] at e
    obtain ⟨hi, h1, _⟩ := e
    refine ⟨i, log[i], rfl, List.getElem?_eq_getElem hi, ?_⟩
    unfold whrV
    rw [h.whr_of_mem hok (List.getElem_mem hi) h1]
    exact Int.toNat_of_nonneg (h.rng _ (List.getElem_mem hi)).1
theorem LikeQ.place_none (h : LikeQ n s log) (hok : OkQ n s m) {a : Int} (hp : ¬ 0 ≤ placeV log a) : whrV s a = -1 := by
  have : waitsL log a = false := by
    unfold waitsL
    unfold placeV at hp
    cases e : log.findIdx? (waitsB a) with
    | none => rfl
    | some i => rw [e] at hp; simp at hp
  rw [← h.isSome hok] at this
  unfold whrV
  cases e : whr s a with
  | none => rfl
  | some k => rw [e] at this; cases this
theorem LikeQ.sendC (h : LikeQ n s log) (hok : OkQ n s m) (f t a : Int) : sendC n s f t a = rsendC n log f t a := by
  unfold Rem.sendC rsendC
  rw [h.isSome hok]
theorem LikeQ.send (h : LikeQ n s log) (hok : OkQ n s m) (f t a : Int) : LikeQ n (sendS n s f t a) (rsendL n log f t a) := by
  unfold sendS rsendL
  rw [← h.sendC hok]
  by_cases hc : Rem.sendC n s f t a = 0
  · rw [if_pos hc, if_pos hc]
    obtain ⟨⟨hf, ht, ha⟩, hw⟩ := sendC_zero hc
    have hnw : ∀ x ∈ log.filter liveB, x.at_ ≠ a := fun x hx e => by
      obtain ⟨hx1, hx2⟩ := List.mem_filter.1 hx
      have := h.waits hx1 (by simpa [liveB] using hx2)
      rw [e] at this
      exact whr_none hw _ this
    refine ⟨fun k hk => ?_, fun x hx => ?_, fun f' t' => ?_, ?_, ?_⟩
    · rw [row_sendD hok ht]
      have hall : allL (log ++ [newR log f t a]) (k : Int) = allL log k ++ (if t = (k : Int) then [newR log f t a] else []) := by
        unfold allL
        rw [List.filter_append]
        congr 1
        by_cases e : t = (k : Int)
        · rw [if_pos e, List.filter_cons_of_pos (by simp [forB, newR, e])]; rfl
        · rw [if_neg e, List.filter_cons_of_neg (by simp [forB, newR, e])]; rfl
      rw [hall, List.map_append]
      by_cases e : k = t.toNat
      · rw [if_pos e, if_pos (by omega), h.rows _ (by omega), e, h.sent]; rfl
      · rw [if_neg e, if_neg (by omega), h.rows k hk]; simp
    · rcases List.mem_append.1 hx with hx | hx
      · exact h.rng x hx
      · rw [List.mem_singleton] at hx; subst hx; exact ht
    · show sent1 s f t f' t' = sentN (log ++ [newR log f t a]) f' t'
      unfold sentN
      rw [List.filter_append, List.length_append]
      unfold sent1
      by_cases e : f' = f ∧ t' = t
      · rw [if_pos e, h.sent, List.filter_cons_of_pos (by simp [sentB, newR, e.1, e.2]), e.1, e.2]; rfl
      · rw [if_neg e, h.sent, List.filter_cons_of_neg (by simp [sentB, newR]; intro e1 e2; exact e ⟨e1.symm, e2.symm⟩)]; rfl
    · rw [List.filter_append, List.pairwise_append]
      refine ⟨h.nod, ?_, fun x hx y hy => ?_⟩
      · exact List.Pairwise.filter _ (List.pairwise_singleton _ _)
      · have hy := (List.mem_filter.1 hy).1
        rw [List.mem_singleton] at hy
        subst hy
        exact hnw x hx
    · rw [total_sendD hok ht, h.tot, List.filter_append, List.length_append]; rfl
  · rw [if_neg hc, if_neg hc]; exact h
/-- What a mark does to the rows that wait. -/
theorem markL_cons (x : RRow) (log : List RRow) (a : Int) : markL (x :: log) a = if waitsB a x = true then goneR x :: log else x :: markL log a := by
  unfold markL
  rw [List.findIdx?_cons]
  by_cases e : waitsB a x = true
  · rw [if_pos e, if_pos e]; simp
  · rw [if_neg e, if_neg e]
    cases e2 : log.findIdx? (waitsB a) with
    | none => rfl
    | some i => simp
theorem liveB_goneR (x : RRow) : liveB (goneR x) = false := rfl
theorem mark_live (a : Int) : ∀ log : List RRow, (log.filter liveB).Pairwise (fun x y => x.at_ ≠ y.at_) → (markL log a).filter liveB = (log.filter liveB).filter fun x => !(x.at_ == a)
  | [], _ => rfl
  | x :: log, hp => by
    rw [markL_cons]
    by_cases hl : liveB x = true
    · rw [List.filter_cons_of_pos hl] at hp
      have hp := List.pairwise_cons.1 hp
      rw [List.filter_cons_of_pos (l := log) hl]
      by_cases e : x.at_ = a
      · rw [if_pos (waitsB_iff.2 ⟨by simpa [liveB] using hl, e⟩), List.filter_cons_of_neg (by rw [liveB_goneR]; simp), List.filter_cons_of_neg (by simp [e])]
        symm
        rw [List.filter_eq_self]
        intro y hy
        have := hp.1 y hy
        simp
        omega
      · rw [if_neg (fun hw => e (waitsB_iff.1 hw).2), List.filter_cons_of_pos hl, List.filter_cons_of_pos (by simpa using e), mark_live a log hp.2]
    · rw [List.filter_cons_of_neg hl] at hp
      rw [if_neg (fun hw => hl (by simpa [liveB] using (waitsB_iff.1 hw).1)), List.filter_cons_of_neg hl, List.filter_cons_of_neg hl, mark_live a log hp]
theorem allL_live (log : List RRow) (k : Int) : allL log k = (log.filter liveB).filter fun x => x.to_ == k := by
  unfold allL
  rw [List.filter_filter]
  congr 1
  funext x
  simp [forB, liveB, Bool.and_comm]
theorem mark_all {a : Int} (h : (log.filter liveB).Pairwise fun x y => x.at_ ≠ y.at_) (k : Int) : allL (markL log a) k = (allL log k).filter fun x => !(x.at_ == a) := by
  rw [allL_live, allL_live, mark_live a log h]
  generalize log.filter liveB = L
  rw [List.filter_filter, List.filter_filter]
  exact List.filter_congr fun x _ => Bool.and_comm _ _
theorem markL_mem {a : Int} : ∀ {log : List RRow} {x : RRow}, x ∈ markL log a → ∃ y ∈ log, x = y ∨ x = goneR y
  | [], x, h => by cases h
  | y :: log, x, h => by
    rw [markL_cons] at h
    split at h
    · rcases List.mem_cons.1 h with rfl | h
      · exact ⟨y, List.mem_cons_self .., .inr rfl⟩
      · exact ⟨x, List.mem_cons_of_mem _ h, .inl rfl⟩
    · rcases List.mem_cons.1 h with rfl | h
      · exact ⟨x, List.mem_cons_self .., .inl rfl⟩
      · obtain ⟨z, hz, e⟩ := markL_mem h
        exact ⟨z, List.mem_cons_of_mem _ hz, e⟩
theorem mark_sent (a f t : Int) : ∀ log : List RRow, sentN (markL log a) f t = sentN log f t
  | [] => rfl
  | x :: log => by
    rw [markL_cons]
    have ih := mark_sent a f t log
    unfold sentN at ih ⊢
    have hg : sentB f t (goneR x) = sentB f t x := rfl
    split
    · by_cases e : sentB f t x = true
      · rw [List.filter_cons_of_pos (by rw [hg]; exact e), List.filter_cons_of_pos e]; rfl
      · rw [List.filter_cons_of_neg (by rw [hg]; exact e), List.filter_cons_of_neg e]
    · by_cases e : sentB f t x = true
      · rw [List.filter_cons_of_pos e, List.filter_cons_of_pos e, List.length_cons, List.length_cons, ih]
      · rw [List.filter_cons_of_neg e, List.filter_cons_of_neg e, ih]
/-- What is left of each row. -/
theorem row_remS (hok : OkQ n s m) (a : Int) (k : Nat) : row (remS s a) k = keeps a (row s k) := by
  have hself : ∀ k, ¬ Waits s a k → keeps a (row s k) = row s k := fun k hw => by
    unfold keeps
    rw [List.filter_eq_self]
    intro x hx
    have : x.at_ ≠ a := fun e => hw ⟨x, hx, e⟩
    simpa using this
  unfold remS
  cases e : whr s a with
  | none => exact (hself k (whr_none e k)).symm
  | some j =>
    show row (remD s a j) k = _
    rw [row_remD hok (whr_some e).1]
    split
    · next e2 => rw [e2]
    · next e2 =>
      refine (hself k fun hw => e2 ?_).symm
      have := whr_of hok hw
      rw [e] at this
      injection this with this
      exact this.symm
theorem map_keeps (a : Int) (l : List RRow) : keeps a (l.map itR) = (l.filter fun x => !(x.at_ == a)).map itR := by
  unfold keeps
  rw [List.filter_map]
  rfl
theorem LikeQ.rem (h : LikeQ n s log) (hok : OkQ n s m) (a : Int) : LikeQ n (remS s a) (markL log a) := by
  have hlive := mark_live a log h.nod
  refine ⟨fun k hk => ?_, fun x hx => ?_, fun f t => ?_, ?_, ?_⟩
  · rw [row_remS hok, h.rows k hk, mark_all h.nod, map_keeps]
  · obtain ⟨y, hy, e⟩ := markL_mem hx
    rcases e with e | e
    · rw [e]; exact h.rng y hy
    · rw [e]; exact h.rng y hy
  · rw [remS_sent, h.sent, mark_sent]
  · rw [hlive]; exact h.nod.filter _
  · rw [hlive]
    cases e : whr s a with
    | none =>
      have e2 : remS s a = s := by unfold remS; rw [e]
      rw [e2, h.tot]
      congr 1
      symm
      rw [List.filter_eq_self]
      intro x hx
      obtain ⟨hx1, hx2⟩ := List.mem_filter.1 hx
      have hw := h.waits hx1 (by simpa [liveB] using hx2)
      have : x.at_ ≠ a := fun e3 => whr_none e _ (e3 ▸ hw)
      simpa using this
    | some k =>
      have h1 := total_rem hok e
      obtain ⟨x, hx, hw, _⟩ := h.waited hok (whr_some e).2
      obtain ⟨hg, ha⟩ := waitsB_iff.1 hw
      have hk : (keeps a ((log.filter liveB).map itR)).length + 1 = ((log.filter liveB).map itR).length := keeps_len (List.pairwise_map.2 h.nod) ⟨itR x, List.mem_map.2 ⟨x, List.mem_filter.2 ⟨hx, by simp [liveB, hg]⟩, rfl⟩, ha⟩
      rw [map_keeps, List.length_map, List.length_map] at hk
      rw [← h.tot] at hk
      omega
theorem remV_isSome (s : QRun) (a : Int) : remV s a = (whr s a).isSome := by
  unfold remV
  cases whr s a <;> rfl
theorem LikeQ.take (h : LikeQ n s log) (hok : OkQ n s m) (w : Int) : takeV n s w = (rtakeV log w).map itR ∧ LikeQ n (takeS n s w) (rtakeL log w) := by
  have hv : takeV n s w = (rtakeV log w).map itR := by
    have := h.rowsI w
    rw [takeV_row, this]
    unfold rtakeV
    rw [List.head?_map]
  refine ⟨hv, ?_⟩
  unfold takeS rtakeL
  rw [hv]
  cases rtakeV log w with
  | none => exact h
  | some x => exact h.rem hok x.at_
theorem LikeQ.do_ (h : LikeQ n s log) (hok : OkQ n s m) (c : Q4) : doB n s log c = true ∧ LikeQ n (doS n s c) (doL n log c) := by
  unfold doB doS doL
  by_cases h0 : c.a = 0
  · rw [if_pos h0, if_pos h0, if_pos h0]
    exact ⟨by rw [h.sendC hok]; simp, h.send hok _ _ _⟩
  · rw [if_neg h0, if_neg h0, if_neg h0]
    by_cases h1 : c.a = 1
    · rw [if_pos h1, if_pos h1, if_pos h1]
      obtain ⟨e1, e2⟩ := h.take hok c.c
      refine ⟨?_, e2⟩
      rw [e1]
      cases rtakeV log c.c with
      | none => rfl
      | some x =>
        show (true == true && sameB (itR x) x) = true
        rw [sameB_itR]; rfl
    · rw [if_neg h1, if_neg h1, if_neg h1]
      by_cases h2 : c.a = 2
      · rw [if_pos h2, if_pos h2, if_pos h2]
        exact ⟨by rw [remV_isSome, h.isSome hok]; simp, h.rem hok _⟩
      · rw [if_neg h2, if_neg h2, if_neg h2]
        exact ⟨rfl, h⟩
end
/-! ### What an iterator tells, and what the law gathers -/
def eachTo (s : QRun) (k : Nat) : List (Nat × It) := (List.range k).flatMap fun j => (row s j).map fun x => (j, x)
def allTo (log : List RRow) (k : Nat) : List RRow := (List.range k).flatMap fun j : Nat => allL log (j : Int)
theorem eachTo_succ (s : QRun) (k : Nat) : eachTo s (k + 1) = eachTo s k ++ (row s k).map fun x => (k, x) := by
  unfold eachTo
  rw [List.range_succ, List.flatMap_append]
  simp
theorem allTo_succ (log : List RRow) (k : Nat) : allTo log (k + 1) = allTo log k ++ allL log (k : Int) := by
  unfold allTo
  rw [List.range_succ, List.flatMap_append]
  simp
theorem LikeQ.each {n : Nat} {s : QRun} {log : List RRow} (h : LikeQ n s log) : ∀ k, k ≤ n → (eachTo s k).map Prod.snd = (allTo log k).map itR
  | 0, _ => rfl
  | k + 1, hk => by
    rw [eachTo_succ, allTo_succ, List.map_append, List.map_append, h.each k (by omega), h.rows k (by omega), List.map_map]
    congr 1
    exact List.map_id'' (fun _ => rfl) _
structure RiseL (n : Nat) (pre : List (Nat × It)) : Prop where
  up : pre.Pairwise fun x y => x.1 ≤ y.1
  lt : ∀ x ∈ pre, x.1 < n
theorem rise_each (s : QRun) : ∀ k, RiseL k (eachTo s k)
  | 0 => ⟨List.Pairwise.nil, fun x hx => by cases hx⟩
  | k + 1 => by
    have ih := rise_each s k
    rw [eachTo_succ]
    refine ⟨?_, fun x hx => ?_⟩
    · rw [List.pairwise_append]
      refine ⟨ih.up, ?_, fun x hx y hy => ?_⟩
      · rw [List.pairwise_map]
        exact List.pairwise_of_forall fun _ _ => Nat.le_refl _
      · obtain ⟨z, _, rfl⟩ := List.mem_map.1 hy
        exact Nat.le_of_lt (ih.lt x hx)
    · rcases List.mem_append.1 hx with hx | hx
      · have := ih.lt x hx; omega
      · obtain ⟨z, _, rfl⟩ := List.mem_map.1 hx; exact Nat.lt_succ_self _
theorem RiseL.pre {n : Nat} {p l : List (Nat × It)} (h : RiseL n l) (hp : p <+: l) : RiseL n p :=
  ⟨h.up.sublist hp.sublist, fun x hx => h.lt x (hp.subset hx)⟩
/-- The last worker told: at least all that came. -/
structure TopL (pre : List (Nat × It)) (fv : Nat) : Prop where
  top : ∀ y ∈ pre, y.1 ≤ fv
  is : fv = 0 ∨ ∃ y ∈ pre, y.1 = fv
theorem topL_snoc {pre : List (Nat × It)} {fv : Nat} (h : TopL pre fv) (x : Nat × It) (hx : fv ≤ x.1) : TopL (pre ++ [x]) x.1 :=
  ⟨fun y hy => by
    rcases List.mem_append.1 hy with hy | hy
    · exact Nat.le_trans (h.top y hy) hx
    · rw [List.mem_singleton] at hy; rw [hy]; exact Nat.le_refl _, .inr ⟨x, by simp, rfl⟩⟩
theorem topL_no {pre : List (Nat × It)} {fv n : Nat} (h : TopL pre fv) (x : Nat × It) (hx : x.1 < fv ∨ n ≤ x.1) : ¬ RiseL n (pre ++ [x]) := by
  intro hr
  rcases hx with hx | hx
  · rcases h.is with h0 | ⟨y, hy, e⟩
    · omega
    · have := (List.pairwise_append.1 hr.up).2.2 y hy x (by simp)
      omega
  · have := hr.lt x (by simp)
    omega
theorem eachTo_len {n m : Nat} {s : QRun} (h : OkQ n s m) : ∀ k, k ≤ n → (eachTo s k).length = sumTo s k
  | 0, _ => rfl
  | k + 1, hk => by
    rw [eachTo_succ, List.length_append, List.length_map, eachTo_len h k (by omega)]
    rfl
theorem eachTo_le {n m : Nat} {s : QRun} (h : OkQ n s m) : (eachTo s n).length ≤ m := by
  rw [eachTo_len h n (Nat.le_refl _), sumTo_all h]
  exact h.few
end Go.Proofs.Ytchnhmcedmicgaa.Rem
