/- Runs of pages in memory, and the contracts of package spans' functions that read. -/
import Derived.Test.YtldlogmjkbhomaaProg
import Derived.Test.YtldlogmjkbhomaaSpaQ
import Derived.Test.YtldlogmjkbhomaaAidRecs
import Derived.Laws.Rows
import Derived.Deep.RegionHeld3
import Derived.Deep.RegionWith
import Derived.Deep.DeepCutAuto
import Derived.BigQuiet
import Derived.Outline
set_option linter.unusedSimpArgs false
namespace Go.Proofs.Ytldlogmjkbhomaa.Spa
open Go.RowKit Go.Proofs.Ytldlogmjkbhomaa.Aid
abbrev RT : TypeId := 99
abbrev ST : TypeId := 147
abbrev RS : TypeId := 94
def encR (r : Rn) : List Value := [.int .i64 r.p, .int .i64 r.n, .bool r.t]
theorem encR_len (r : Rn) : (encR r).length = 3 := rfl
theorem encR_one (r : Rn) : ∀ v ∈ encR r, v.oneCell' = true := by
  intro v hv
  simp [encR] at hv
  rcases hv with rfl | rfl | rfl <;> rfl
/-- Where the runs lie. -/
structure SpP (w : World) (p : Nat) (F : List Nat) (P : Nat) (xs : List Rn) (hd : Value) : Prop where
  head : Blk w p #[.int .i64 P, hd] ST
  runs : Hdr encR 3 w RT hd xs
  own : ∀ g, hd.ownBlock = some g → g ∈ F ∧ g ≠ p
  ins : p ∈ F
  flt : ∀ x ∈ F, x < w.heap.size
structure SpAt (w : World) (p : Nat) (F : List Nat) (P : Nat) (xs : List Rn) : Prop where
  ok : OkS P xs
  ex : ∃ hd, SpP w p F P xs hd
section
variable {w w' : World} {p P : Nat} {F : List Nat} {xs : List Rn} {hd : Value}
theorem SpP.same (h : SpP w p F P xs hd) (hz : w.heap.size ≤ w'.heap.size) (hb : ∀ i, i < w.heap.size → i ∈ F → w'.heap[i]? = w.heap[i]?) : SpP w' p F P xs hd :=
  ⟨(hb p h.head.lt h.ins).trans h.head, h.runs.same fun g hg => hb g (h.runs.lt hg) (h.own g hg).1, h.own, h.ins, fun x hx => Nat.lt_of_lt_of_le (h.flt x hx) hz⟩
theorem SpAt.kept (h : SpAt w p F P xs) {G : List Nat} (k : Kept G w w') (hF : ∀ x ∈ F, x ∉ G) : SpAt w' p F P xs := by
  obtain ⟨hd, h1⟩ := h.ex
  exact ⟨h.ok, hd, h1.same k.size fun i hi hF' => k.block i hi (hF i hF')⟩
theorem SpAt.below (h : SpAt w p F P xs) (k : Below w.heap.size w w') : SpAt w' p F P xs := by
  obtain ⟨hd, h1⟩ := h.ex
  exact ⟨h.ok, hd, h1.same k.size fun i hi _ => k.block i hi⟩
theorem SpAt.flt (h : SpAt w p F P xs) : ∀ x ∈ F, x < w.heap.size := by
  obtain ⟨hd, h1⟩ := h.ex
  exact h1.flt
theorem SpP.c0 (h : SpP w p F P xs hd) : w.cell? ⟨p, 0, none⟩ = some (.int .i64 P) := h.head.cell rfl
theorem SpP.c1 (h : SpP w p F P xs hd) : w.cell? ⟨p, 1, none⟩ = some hd := h.head.cell rfl
/-- A run's cells. -/
theorem recs3 {g c : Nat} (h : Recs encR 3 w RT g c xs) {k : Nat} (hk : k < xs.length) : w.cell? ⟨g, k * 3, none⟩ = some (.int .i64 (xs.getD k r0).p) ∧ w.cell? ⟨g, k * 3 + 1, none⟩ = some (.int .i64 (xs.getD k r0).n) ∧ w.cell? ⟨g, k * 3 + 2, none⟩ = some (.bool (xs.getD k r0).t) := by
  have hx : xs[k]? = some (xs.getD k r0) := by rw [getD_at hk]; exact List.getElem?_eq_getElem hk
  exact ⟨h.at_ encR_len (j := 0) hx rfl, h.at_ encR_len (j := 1) hx rfl, h.at_ encR_len (j := 2) hx rfl⟩
theorem Hdr.open3 (h : Hdr encR 3 w RT hd xs) : ∃ A c, hd = .slice A xs.length c ∧ ∀ k, k < xs.length → ∃ g, A = some ⟨g, 0, none⟩ ∧ w.cell? ⟨g, k * 3, none⟩ = some (.int .i64 (xs.getD k r0).p) ∧ w.cell? ⟨g, k * 3 + 1, none⟩ = some (.int .i64 (xs.getD k r0).n) ∧ w.cell? ⟨g, k * 3 + 2, none⟩ = some (.bool (xs.getD k r0).t) := by
  rcases h with ⟨h, h0⟩ | ⟨g, c, h1, h2⟩
  · subst h0
    exact ⟨none, 0, h, fun k hk => by simp at hk⟩
  · exact ⟨_, c, h1, fun k hk => ⟨g, rfl, recs3 h2 hk⟩⟩
end
/-- A run by value: boxed at once. -/
theorem box3 {w w1 : World} (r : Rn) (hb : Below (w.alloc (.cells #[.int .i64 r.p, .int .i64 r.n, .bool r.t] RT)).heap.size (w.alloc (.cells #[.int .i64 r.p, .int .i64 r.n, .bool r.t] RT)) w1) :
    w1.cell? ⟨w.heap.size, 0, none⟩ = some (.int .i64 r.p) ∧ w1.cell? ⟨w.heap.size, 1, none⟩ = some (.int .i64 r.n) ∧ w1.cell? ⟨w.heap.size, 2, none⟩ = some (.bool r.t) := by
  have h := (Blk.new w #[.int .i64 r.p, .int .i64 r.n, .bool r.t] RT).below hb
  exact ⟨h.cell (o := 0) rfl, h.cell (o := 1) rfl, h.cell (o := 2) rfl⟩
theorem down_bits (n p : Int) (h0 : 0 ≤ n) (h1 : n < 9223372036854775808) (hp : isPow p = true) : Go.bits .andNot .i64 n (p - 1) = n / p * p := by
  obtain ⟨k, hk, rfl⟩ := (isPow_iff p).1 hp
  obtain ⟨a, rfl⟩ := Int.eq_ofNat_of_zero_le h0
  rw [i64_down a (by omega) k (by omega)]
  rw [Int.natCast_mul, Int.natCast_ediv]
theorem first_int {r : Rn} {a : Int} (ha : 1 ≤ a) : ((r.p : Nat) + a - 1) / a * a = ((firstR r a.toNat : Nat) : Int) := by
  obtain ⟨m, rfl⟩ := Int.eq_ofNat_of_zero_le (show 0 ≤ a by omega)
  rw [Int.toNat_natCast]
  unfold firstR
  rw [Int.natCast_mul, Int.natCast_ediv]
  congr 2
  omega
theorem first_calls (w : World) (r : Rn) (a : Int) (hr : r.p ≤ 4096) (ha : isPow a = true) (ha2 : a ≤ 4096) :
    Calls Try.prog 88 #[.agg #[.int .i64 r.p, .int .i64 r.n, .bool r.t], .int .i64 a] w fun e w' => e = .returned (.int .i64 (firstR r a.toNat)) ∧ Below w.heap.size w w' := by
  have h1 := (isPow_bounds ha).1
  have HD := Lib.hid (down_bits ((r.p : Nat) + a - 1) a (by omega) (by omega) ha)
  have HF := Lib.hid (first_int (r := r) h1)
  clear ha
  go_enter Try.func88, Try.ntmps88
  go_wp2
  go_ret
  exact ⟨ret_int (by rw [← HF.out, ← HD.out]), (Below.refl _ _).alloc (Nat.le_refl _) _⟩
theorem end_calls (w : World) (r : Rn) (hr : r.p + r.n ≤ 4096) :
    Calls Try.prog 89 #[.agg #[.int .i64 r.p, .int .i64 r.n, .bool r.t]] w fun e w' => e = .returned (.int .i64 ((r.p + r.n : Nat) : Int)) ∧ Below w.heap.size w w' := by
  go_enter Try.func89, Try.ntmps89
  go_wp2
  go_ret
  exact ⟨ret_int (by omega), (Below.refl _ _).alloc (Nat.le_refl _) _⟩
theorem power_calls (n : Int) (w : World) : Calls Try.prog 99 #[.int .i64 n] w fun e w' => e = .returned (.bool (isPow n)) ∧ w = w' := by
  by_cases h : 1 ≤ n
  · by_cases h2 : n ≤ 1099511627776
    · have hp := Lib.hid (pow_test n h h2)
      go_enter Try.func99, Try.ntmps99
      go_wp2
      go_ret
      exact ⟨ret_bool hp.out, rfl⟩
    · have hp := Lib.hid (isPow_no (n := n) (by omega))
      go_enter Try.func99, Try.ntmps99
      go_wp2
      go_ret
      exact ⟨ret_bool hp.out.symm, rfl⟩
  · have hp := Lib.hid (isPow_no (n := n) (by omega))
    go_enter Try.func99, Try.ntmps99
    go_wp2
    go_ret
    exact ⟨ret_bool hp.out.symm, rfl⟩
theorem right_calls (w : World) (n a : Int) : Calls Try.prog 85 #[.int .i64 n, .int .i64 a] w fun e w' => e = .returned (.bool (rightR n a)) ∧ w = w' := by
  have HP := Lib.hid (power_calls a w)
  unfold rightR
  by_cases h1 : 1 ≤ n
  · cases hp : isPow a with
    | false =>
      rw [hp] at HP
      clear hp
      go_enter Try.func85, Try.ntmps85
      go_wp2_with fail
      refine HP.out.mono ?_
      rintro e w1 ⟨rfl, rfl⟩
      go_wp2_with fail
      go_ret
      exact ⟨ret_bool (by simp), rfl⟩
    | true =>
      rw [hp] at HP
      clear hp
      by_cases h2 : a ≤ 4096
      all_goals
        go_enter Try.func85, Try.ntmps85
        go_wp2_with fail
        refine HP.out.mono ?_
        rintro e w1 ⟨rfl, rfl⟩
        go_wp2_with fail
        go_ret
        exact ⟨ret_bool (by simp [h1, h2]), rfl⟩
  · go_enter Try.func85, Try.ntmps85
    go_wp2_with fail
    go_ret
    exact ⟨ret_bool (by rw [decide_eq_false (show ¬ 1 ≤ n by omega)]; rfl), rfl⟩
set_option maxHeartbeats 1000000 in
theorem holds_calls (w : World) (r : Rn) (n a : Int) (hr : r.p + r.n ≤ 4096) (ha : isPow a = true) (ha2 : a ≤ 4096) :
    Calls Try.prog 100 #[.agg #[.int .i64 r.p, .int .i64 r.n, .bool r.t], .int .i64 n, .int .i64 a] w fun e w' => e = .returned (.bool (holdsR n a.toNat r)) ∧ Below w.heap.size w w' := by
  have hf := first_ge (r := r) (a := a.toNat) (by have := (isPow_bounds ha).1; omega)
  have ha1 := (isPow_bounds ha).1
  have HF := Lib.hid (fun W => first_calls W r a (by omega) ha ha2)
  have HE := Lib.hid (fun W => end_calls W r hr)
  unfold holdsR
  generalize hfv : ((firstR r a.toNat : Nat) : Int) = fv at HF ⊢
  have hfv2 : 0 ≤ fv ∧ fv ≤ 10000 := by omega
  obtain ⟨hfv3, hfv4⟩ := hfv2
  have he1 : (((r.p + r.n : Nat) : Int)) ≤ 4096 := by omega
  have he0 : 0 ≤ (((r.p + r.n : Nat) : Int)) := by omega
  generalize (((r.p + r.n : Nat) : Int)) = ev at HE he0 he1 ⊢
  have hwr : IntKind.i64.wrap (ev - fv) = ev - fv := by rw [i64_wrap]; unfold wrap64; omega
  clear hf hr ha ha2 ha1 hfv
  have hw0 := (Below.refl w.heap.size w).alloc (Nat.le_refl _) (.cells #[.int .i64 r.p, .int .i64 r.n, .bool r.t] RT)
  have hbk := Blk.new w #[.int .i64 r.p, .int .i64 r.n, .bool r.t] RT
  generalize r.t = rt at HF HE hw0 hbk ⊢
  go_enter Try.func100, Try.ntmps100
  go_upto_region 1 with fail
  generalize w.alloc (.cells #[.int .i64 r.p, .int .i64 r.n, .bool rt] RT) = w0 at hw0 hbk ⊢
  generalize hbq : w.heap.size = bq at hbk ⊢
  have HS := Lib.hid (fun W (hb : Below w0.heap.size w0 W) => (show W.cell? ⟨bq, 0, none⟩ = some (.int .i64 r.p) ∧ W.cell? ⟨bq, 1, none⟩ = some (.int .i64 r.n) ∧ W.cell? ⟨bq, 2, none⟩ = some (.bool rt) from
    ⟨(hbk.below hb).cell (o := 0) rfl, (hbk.below hb).cell (o := 1) rfl, (hbk.below hb).cell (o := 2) rfl⟩))
  have HW0 := Lib.hid (And.intro hw0 hbq)
  have hb0 := Lib.hid ((Below.refl w0.heap.size w0).drew)
  clear hw0 hbk hbq
  go_cut [6] (fun v wc => v = .bool (!rt && decide (n ≤ ev - fv)) ∧ Below w0.heap.size w0 wc)
  case first =>
    cases rt with
    | true =>
      obtain ⟨q0, q1, q2⟩ := HS.out w0 (Below.refl _ _)
      go_quiet (fail)
      go_wp2_with fail
      go_meet
      exact ⟨rfl, below_drewN (Below.refl _ _) _⟩
    | false =>
      go_region_held3 (fun w' => w'.cell? ⟨bq, 0, none⟩ = some (.int .i64 r.p) ∧ w'.cell? ⟨bq, 1, none⟩ = some (.int .i64 r.n) ∧ w'.cell? ⟨bq, 2, none⟩ = some (.bool false))
        (first | exact HS.out _ hb3.out | exact HS.out _ hb2.out | exact HS.out _ hb1.out | exact HS.out _ hb0.out)
        ((first
          | (go_at_call 89; (refine (Calls.mono (HE.out _) ?_)); rintro e w1 ⟨rfl, hb⟩; have hb1 := Lib.hid (below_then (by first | exact hb2.out | exact hb0.out) hb))
          | (go_at_call 88; (refine (Calls.mono (HF.out _) ?_)); rintro e w2 ⟨rfl, hb⟩; have hb2 := Lib.hid (below_then (by first | exact hb1.out | exact hb0.out) hb))))
      all_goals
        go_wp2_with fail
        go_meet
        exact ⟨by simp, by first | exact hb1.out | exact hb2.out⟩
  case rest =>
  obtain ⟨rfl, hb⟩ := hcut
  have HB := Lib.hid hb
  clear hb
  go_wp2_with fail
  go_ret
  exact ⟨rfl, HW0.out.1.trans (HB.out.mono HW0.out.1.size)⟩
/-- How many pages are free, and how many the longest free run has. -/
def freeN : List Rn → Nat
  | [] => 0
  | r :: rs => (if r.t = true then 0 else r.n) + freeN rs
def maxN (xs : List Rn) : Nat := xs.foldl (fun m r => if r.t = true then m else max m r.n) 0
theorem freeN_app : ∀ (A B : List Rn), freeN (A ++ B) = freeN A + freeN B
  | [], B => by simp [freeN]
  | r :: A, B => by simp only [List.cons_append, freeN, freeN_app A B]; omega
theorem freeN_le : ∀ (xs : List Rn) {a b : Nat}, chain a xs b → a + freeN xs ≤ b
  | [], a, b, h => by cases h; simp [freeN]
  | r :: rs, a, b, h => by
    have := freeN_le rs h.2.2
    unfold freeN
    split <;> omega
theorem maxN_snoc (A : List Rn) (r : Rn) : maxN (A ++ [r]) = if r.t = true then maxN A else max (maxN A) r.n := by unfold maxN; rw [List.foldl_append]; rfl
theorem maxN_le {xs : List Rn} {m : Nat} (h : ∀ r ∈ xs, r.n ≤ m) : maxN xs ≤ m := by
  unfold maxN
  have : ∀ (l : List Rn) (a : Nat), a ≤ m → (∀ r ∈ l, r.n ≤ m) → l.foldl (fun m r => if r.t = true then m else max m r.n) a ≤ m := fun l => by
    induction l with
    | nil => intro a h _; exact h
    | cons r l ih =>
      intro a h1 h2
      refine ih _ ?_ (fun s hs => h2 s (List.mem_cons_of_mem _ hs))
      have := h2 r (List.mem_cons_self)
      dsimp only
      split <;> omega
  exact this xs 0 (Nat.zero_le _) h
theorem take_snocR {xs : List Rn} {k : Nat} (h : k < xs.length) : xs.take (k + 1) = xs.take k ++ [xs.getD k r0] := by rw [getD_at h, List.take_succ_eq_append_getElem h]
section
variable (w : World) (p : Nat) (F : List Nat) (P : Nat) (xs : List Rn) (h : SpAt w p F P xs)
include h
set_option maxHeartbeats 1000000 in
theorem free_calls : Calls Try.prog 53 #[.pointer (some ⟨p, 0, none⟩)] w fun e w' => e = .returned (.int .i64 (freeN xs : Nat)) ∧ Below w.heap.size w w' := by
  obtain ⟨hd, hP⟩ := h.ex
  have c1 := hP.c1
  have hfl : ∀ k, k ≤ xs.length → freeN (xs.take k) ≤ 4096 := fun k hk => by
    have h1 := freeN_le _ h.ok.ch
    rw [← List.take_append_drop k xs, freeN_app] at h1
    have := h.ok.n
    omega
  have HF := Lib.hid hfl
  have hn := fun k (hk : k < xs.length) => (pos_n h.ok hk).2
  have hP4 := h.ok.n
  have HN := Lib.hid (show ∀ k, k < xs.length → (xs.getD k r0).n ≤ 4096 from fun k hk => by have := hn k hk; omega)
  have hL := len_le h.ok
  obtain ⟨A, c, rfl, hat⟩ := Hdr.open3 hP.runs
  have HAt := Lib.hid hat
  clear hat hP h hfl hn hP4
  go_enter Try.func53, Try.ntmps53
  go_wp2
  go_loopw [3, 11] (fun s i wr => ∃ k : Nat, i = .int .i64 k ∧ k ≤ xs.length ∧ s = .int .i64 (freeN (xs.take k) : Nat) ∧ Below w.heap.size w wr) (fun _ i _ => xs.length - (intOf i).toNat)
  case atStart => exact ⟨0, rfl, by omega, by simp [freeN], Below.refl _ _⟩
  case round =>
    obtain ⟨k, rfl, hk, rfl, hb⟩ := hrel
    have HB := Lib.hid hb
    clear hb
    by_cases hlt : k < xs.length
    · obtain ⟨g, rfl, k0, k1, k2⟩ := HAt.out k hlt
      have hgl : g < w.heap.size := by
        have := World.block_lt_of_cell? _ _ k0
        exact this
      have k0' := (HB.out.cell (p := ⟨g, _, none⟩) hgl).trans k0
      have k1' := (HB.out.cell (p := ⟨g, _, none⟩) hgl).trans k1
      have k2' := (HB.out.cell (p := ⟨g, _, none⟩) hgl).trans k2
      have hf1 := HF.out k (by omega)
      have hf2 := HF.out (k + 1) (by omega)
      have hn := HN.out k hlt
      have hk0 : (0 : Int) ≤ (k : Int) := by omega
      have hk1 : (k : Int) < (xs.length : Int) := by omega
      have HT := Lib.hid (show freeN (xs.take (k + 1)) = freeN (xs.take k) + (if (xs.getD k r0).t = true then 0 else (xs.getD k r0).n) by rw [take_snocR hlt, freeN_app]; simp [freeN])
      clear k0 k1 k2 c1
      generalize xs.getD k r0 = r at *
      cases ht : r.t with
      | true =>
        rw [ht] at k2' HT
        clear ht
        go_wp2_with fail
        go_roundw
        case rel => exact ⟨k + 1, by go_num, by omega, by rw [HT.out]; rfl, HB.out.alloc HB.out.size _⟩
        case measure => simp [intOf]; omega
      | false =>
        rw [ht] at k2' HT
        clear ht
        go_wp2_with fail
        go_roundw
        case rel => exact ⟨k + 1, by go_num, by omega, by rw [HT.out]; go_num, HB.out.alloc HB.out.size _⟩
        case measure => simp [intOf]; omega
    · obtain rfl : k = xs.length := by omega
      rw [List.take_length]
      go_wp2
      go_ret
      exact ⟨rfl, HB.out⟩
set_option maxHeartbeats 1000000 in
theorem largest_calls : Calls Try.prog 54 #[.pointer (some ⟨p, 0, none⟩)] w fun e w' => e = .returned (.int .i64 (maxN xs : Nat)) ∧ Below w.heap.size w w' := by
  obtain ⟨hd, hP⟩ := h.ex
  have c1 := hP.c1
  have hn := fun k (hk : k < xs.length) => (pos_n h.ok hk).2
  have hP4 := h.ok.n
  have HN := Lib.hid (show ∀ k, k < xs.length → (xs.getD k r0).n ≤ 4096 from fun k hk => by have := hn k hk; omega)
  have HM := Lib.hid (show ∀ k, k ≤ xs.length → maxN (xs.take k) ≤ 4096 from fun k hk => maxN_le fun r hr => by
    obtain ⟨j, hj, rfl⟩ := List.mem_iff_getElem.1 (List.mem_of_mem_take hr)
    have := HN.out j hj
    rwa [getD_at hj] at this)
  have hL := len_le h.ok
  obtain ⟨A, c, rfl, hat⟩ := Hdr.open3 hP.runs
  have HAt := Lib.hid hat
  clear hat hP h hn hP4
  go_enter Try.func54, Try.ntmps54
  go_wp2
  go_loopw [3, 11] (fun s i wr => ∃ k : Nat, i = .int .i64 k ∧ k ≤ xs.length ∧ s = .int .i64 (maxN (xs.take k) : Nat) ∧ Below w.heap.size w wr) (fun _ i _ => xs.length - (intOf i).toNat)
  case atStart => exact ⟨0, rfl, by omega, by simp [maxN], Below.refl _ _⟩
  case round =>
    obtain ⟨k, rfl, hk, rfl, hb⟩ := hrel
    have HB := Lib.hid hb
    clear hb
    by_cases hlt : k < xs.length
    · obtain ⟨g, rfl, k0, k1, k2⟩ := HAt.out k hlt
      have hgl : g < w.heap.size := by
        have := World.block_lt_of_cell? _ _ k0
        exact this
      have k0' := (HB.out.cell (p := ⟨g, _, none⟩) hgl).trans k0
      have k1' := (HB.out.cell (p := ⟨g, _, none⟩) hgl).trans k1
      have k2' := (HB.out.cell (p := ⟨g, _, none⟩) hgl).trans k2
      have hf1 := HM.out k (by omega)
      have hn := HN.out k hlt
      have hk0 : (0 : Int) ≤ (k : Int) := by omega
      have hk1 : (k : Int) < (xs.length : Int) := by omega
      have HT := Lib.hid (show maxN (xs.take (k + 1)) = if (xs.getD k r0).t = true then maxN (xs.take k) else max (maxN (xs.take k)) (xs.getD k r0).n by rw [take_snocR hlt, maxN_snoc])
      clear k0 k1 k2 c1
      generalize xs.getD k r0 = r at *
      cases ht : r.t with
      | true =>
        rw [ht] at k2' HT
        clear ht
        go_wp2_with fail
        go_roundw
        case rel => exact ⟨k + 1, by go_num, by omega, by rw [HT.out]; rfl, HB.out.alloc HB.out.size _⟩
        case measure => simp [intOf]; omega
      | false =>
        rw [ht] at k2' HT
        clear ht
        by_cases hm : maxN (xs.take k) < r.n
        all_goals
          have hm2 : ((maxN (xs.take k) : Nat) : Int) < (r.n : Nat) ∨ ¬ ((maxN (xs.take k) : Nat) : Int) < (r.n : Nat) := by omega
          clear hm2
          go_wp2_with fail
          go_roundw
          case rel => exact ⟨k + 1, by go_num, by omega, by rw [HT.out]; simp; omega, HB.out.alloc HB.out.size _⟩
          case measure => simp [intOf]; omega
    · obtain rfl : k = xs.length := by omega
      rw [List.take_length]
      go_wp2
      go_ret
      exact ⟨rfl, HB.out⟩
end
end Go.Proofs.Ytldlogmjkbhomaa.Spa
