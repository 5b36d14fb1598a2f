/- The reference of layer 10 in memory, and its methods' contracts. -/
import Derived.Test.YtldlogmjkbhomaaRadC
namespace Go.Proofs.Ytldlogmjkbhomaa.Rad
open Go.RowKit Go.Proofs.Ytldlogmjkbhomaa.Aid Go.Proofs.Ytldlogmjkbhomaa.Pack
abbrev RMT : TypeId := 44
abbrev UT : TypeId := 40
def wordsC (n : Nat) (f : Nat → Int) : List Value := (List.range n).map fun i => .int .u64 (f i)
theorem wordsC_len (n : Nat) (f : Nat → Int) : (wordsC n f).length = n := by simp [wordsC]
theorem wordsC_at {n : Nat} (f : Nat → Int) {i : Nat} (h : i < n) : (wordsC n f)[i]? = some (.int .u64 (f i)) := by simp [wordsC, h]
theorem wordsC_set (n : Nat) (f : Nat → Int) (i : Nat) (x : Int) : (wordsC n f).set i (.int .u64 x) = wordsC n (putW f i x) := by
  apply List.ext_getElem?
  intro m
  rw [List.getElem?_set]
  rcases Nat.lt_or_ge m n with h | h
  · rw [wordsC_at _ h, wordsC_at _ h]
    by_cases e : i = m
    · subst e
      rw [if_pos rfl, wordsC_len, if_pos h, putW_at]
    · rw [if_neg e, putW_ne f x fun e' => e e'.symm]
  · rw [List.getElem?_eq_none (by rw [wordsC_len]; exact h), List.getElem?_eq_none (by rw [wordsC_len]; exact h)]
    split <;> simp_all
    rw [wordsC_len]
    omega
/-- The reference's map: struct in block p, words in block g. -/
structure RefAt (w : World) (p g n : Nat) (s : RS) : Prop where
  head : Blk w p #[.slice (some ⟨g, 0, none⟩) n n, .int .u64 s.st] RMT
  row : Row w UT g n (wordsC n s.ws)
  ne : p ≠ g
  ok : OkR n s
section
variable {w w' : World} {p g n : Nat} {s : RS}
theorem RefAt.kept (h : RefAt w p g n s) {F : List Nat} (k : Kept F w w') (hp : p ∉ F) (hg : g ∉ F) : RefAt w' p g n s := ⟨h.head.kept k hp, h.row.kept k hg, h.ne, h.ok⟩
theorem RefAt.below (h : RefAt w p g n s) (k : Below w.heap.size w w') : RefAt w' p g n s := ⟨h.head.below k, h.row.below k, h.ne, h.ok⟩
theorem RefAt.c0 (h : RefAt w p g n s) : w.cell? ⟨p, 0, none⟩ = some (.slice (some ⟨g, 0, none⟩) n n) := h.head.cell rfl
theorem RefAt.c1 (h : RefAt w p g n s) : w.cell? ⟨p, 1, none⟩ = some (.int .u64 s.st) := h.head.cell rfl
theorem RefAt.ck (h : RefAt w p g n s) {i : Nat} (hi : i < n) : w.cell? ⟨g, i, none⟩ = some (.int .u64 (s.ws i)) := by rw [h.row.cell (by rw [wordsC_len]; exact hi), wordsC_at _ hi]
theorem RefAt.put (h : RefAt w p g n s) {i : Nat} {x : Int} (hok : OkR n ⟨putW s.ws i x, s.st⟩) : RefAt (w.setCell ⟨g, i, none⟩ (.int .u64 x)) p g n ⟨putW s.ws i x, s.st⟩ := by
  have := h.row.store i (.int .u64 x)
  rw [wordsC_set] at this
  exact ⟨h.head.other (a := ⟨g, i, none⟩) h.ne _, this, h.ne, hok⟩
theorem RefAt.stamp (h : RefAt w p g n s) {t : Int} (ht : 0 ≤ t ∧ t < 1099511627776) : RefAt (w.setCell ⟨p, 1, none⟩ (.int .u64 t)) p g n ⟨s.ws, t⟩ :=
  ⟨h.head.set 1 (.int .u64 t), h.row.other (a := ⟨p, 1, none⟩) (Ne.symm h.ne) _, h.ne, ⟨h.ok.p12, h.ok.out, h.ok.wrd, ht.1, ht.2⟩⟩
end
theorem infoU : (Try.prog.info? UT).map (fun i => (i.zero, i.size, i.bytes)) = some (some (.int .u64 0), 1, 8) := by kernel_rfl
theorem wordsC_zero (n : Nat) : List.replicate n (Value.int .u64 0) = wordsC n rs0.ws := by
  show _ = (List.range n).map fun _ => Value.int .u64 0
  rw [List.map_const', List.length_range]
theorem rnew_yes (w : World) (n : Nat) (h : n ≤ 4096) :
    Calls Try.prog 14 #[.int .i64 n] w fun e w' => ∃ p g, e = .returned (.tuple #[.pointer (some ⟨p, 0, none⟩), .int .i64 0]) ∧ RefAt w' p g n rs0 ∧ w.heap.size ≤ p ∧ w.heap.size ≤ g ∧ Below w.heap.size w w' := by
  have g1 : ¬ (n : Int) < 0 := by omega
  have g2 : ¬ (4096 : Int) < n := by omega
  go_enter Try.func14, Try.ntmps14
  go_wp2_with (at_make; refine make_row _ rfl _ _ 42 rfl UT Try.underlying42 (.int .u64 0) 8 rfl infoU _ _ n rfl rfl (by omega) (by decide) ?_; intro w1 hr1 hlt1 hb1)
  go_ret2
  have hB := Blk.new w1 #[.slice (some ⟨w.heap.size, 0, none⟩) n n, .int .u64 0] RMT
  rw [wordsC_zero] at hr1
  exact ⟨w1.heap.size, rfl, w.heap.size, ⟨hB, hr1.alloc _, by omega, rs0_ok h⟩, by omega, Nat.le_refl _, balloc hb1 _⟩
theorem rnew_no (w : World) (n : Int) (h : n < 0 ∨ 4096 < n) :
    Calls Try.prog 14 #[.int .i64 n] w fun e w' => e = .returned (.tuple #[.pointer none, .int .i64 11]) ∧ w = w' := by
  by_cases h0 : n < 0
  · clear h
    go_enter Try.func14, Try.ntmps14
    go_wp2
    go_ret2
    exact ⟨rfl, rfl⟩
  · have h1 : 0 ≤ n := by omega
    have h2 : 4096 < n := by omega
    clear h
    go_enter Try.func14, Try.ntmps14
    go_wp2
    go_ret2
    exact ⟨rfl, rfl⟩
theorem rin_calls (w : World) (p g pages : Nat) (s : RS) (page n : Int) (h : RefAt w p g pages s) :
    Calls Try.prog 58 #[.pointer (some ⟨p, 0, none⟩), .int .i64 page, .int .i64 n] w fun e w' => e = .returned (.bool (inR pages page n)) ∧ w = w' := by
  have c0 := h.c0
  have hp := h.ok.p12
  unfold inR
  clear h
  by_cases h0 : 1 ≤ n
  · by_cases h1 : 0 ≤ page
    · by_cases h2 : page ≤ (pages : Int)
      · by_cases h3 : n ≤ (pages : Int) - page
        · rw [decide_eq_true ⟨h0, h1, h2, h3⟩]
          go_enter Try.func58, Try.ntmps58
          go_wp2
          go_ret
          exact ⟨rfl, rfl⟩
        · rw [decide_eq_false (by omega)]
          go_enter Try.func58, Try.ntmps58
          go_wp2
          go_ret
          exact ⟨rfl, rfl⟩
      · rw [decide_eq_false (by omega)]
        go_enter Try.func58, Try.ntmps58
        go_wp2
        go_ret
        exact ⟨rfl, rfl⟩
    · rw [decide_eq_false (by omega)]
      go_enter Try.func58, Try.ntmps58
      go_wp2
      go_ret
      exact ⟨rfl, rfl⟩
  · rw [decide_eq_false (by omega)]
    go_enter Try.func58, Try.ntmps58
    go_wp2
    go_ret
    exact ⟨rfl, rfl⟩
theorem right_calls (w : World) (e : En) :
    Calls Try.prog 59 #[.agg (encE e).toArray] w fun r w' => r = .returned (.bool (rightE e)) ∧ Below w.heap.size w w' := by
  obtain ⟨sp, ve, cl, sa⟩ := e
  unfold encE rightE
  simp only
  by_cases a0 : 0 ≤ sp
  · by_cases a1 : sp ≤ 4095
    · by_cases b0 : 0 ≤ ve
      · by_cases b1 : ve ≤ 3
        · by_cases c0 : 0 ≤ cl
          · by_cases c1 : cl ≤ 63
            · by_cases d0 : 0 ≤ sa
              · by_cases d1 : sa ≤ 7
                · rw [decide_eq_true (by omega)]
                  go_enter Try.func59, Try.ntmps59
                  go_wp2
                  go_ret
                  exact ⟨rfl, balloc (Below.refl _ _) _⟩
                · rw [decide_eq_false (by omega)]
                  go_enter Try.func59, Try.ntmps59
                  go_wp2
                  go_ret
                  exact ⟨rfl, balloc (Below.refl _ _) _⟩
              · rw [decide_eq_false (by omega)]
                go_enter Try.func59, Try.ntmps59
                go_wp2
                go_ret
                exact ⟨rfl, balloc (Below.refl _ _) _⟩
            · rw [decide_eq_false (by omega)]
              go_enter Try.func59, Try.ntmps59
              go_wp2
              go_ret
              exact ⟨rfl, balloc (Below.refl _ _) _⟩
          · rw [decide_eq_false (by omega)]
            go_enter Try.func59, Try.ntmps59
            go_wp2
            go_ret
            exact ⟨rfl, balloc (Below.refl _ _) _⟩
        · rw [decide_eq_false (by omega)]
          go_enter Try.func59, Try.ntmps59
          go_wp2
          go_ret
          exact ⟨rfl, balloc (Below.refl _ _) _⟩
      · rw [decide_eq_false (by omega)]
        go_enter Try.func59, Try.ntmps59
        go_wp2
        go_ret
        exact ⟨rfl, balloc (Below.refl _ _) _⟩
    · rw [decide_eq_false (by omega)]
      go_enter Try.func59, Try.ntmps59
      go_wp2
      go_ret
      exact ⟨rfl, balloc (Below.refl _ _) _⟩
  · rw [decide_eq_false (by omega)]
    go_enter Try.func59, Try.ntmps59
    go_wp2
    go_ret
    exact ⟨rfl, balloc (Below.refl _ _) _⟩
end Go.Proofs.Ytldlogmjkbhomaa.Rad
