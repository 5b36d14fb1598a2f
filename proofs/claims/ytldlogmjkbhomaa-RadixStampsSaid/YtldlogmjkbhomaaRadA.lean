/- Pages' words in memory (a row of leaves), and the contracts of package radix's methods that read. -/
import Derived.Test.YtldlogmjkbhomaaProg
import Derived.Test.YtldlogmjkbhomaaRadP
import Derived.Test.YtldlogmjkbhomaaAidObj
import Derived.Test.YtldlogmjkbhomaaAidI64
import Derived.Laws.Rows
import Derived.Deep.RegionHeld3
import Derived.Deep.RegionWith
import Derived.Deep.DeepCutAuto
import Derived.BigQuiet
import Derived.Outline
import Derived.Laws.ResultCell
namespace Go.Proofs.Ytldlogmjkbhomaa.Rad
open Go.RowKit Go.Proofs.Ytldlogmjkbhomaa.Aid Go.Proofs.Ytldlogmjkbhomaa.Pack
abbrev MT : TypeId := 112
abbrev LPT : TypeId := 114
abbrev LT : TypeId := 121
/-- A leaf's cells. -/
def leafC (f : Nat → Int) (k : Nat) : List Value := (List.range 64).map (fun j => Value.int .u64 (f (64 * k + j))) ++ [.int .i64 (cntW f k : Nat)]
theorem leafC_len (f : Nat → Int) (k : Nat) : (leafC f k).length = 65 := by simp [leafC]
theorem leafC_word (f : Nat → Int) (k : Nat) {j : Nat} (hj : j < 64) : (leafC f k)[j]? = some (.int .u64 (f (64 * k + j))) := by
  unfold leafC
  rw [List.getElem?_append_left (by simpa using hj)]
  simp [hj]
theorem leafC_cnt (f : Nat → Int) (k : Nat) : (leafC f k)[64]? = some (.int .i64 (cntW f k : Nat)) := by
  unfold leafC
  rw [List.getElem?_append_right (by simp)]
  simp
def ptrTo (g : Nat) : Value := .pointer (some ⟨g, 0, none⟩)
/-- What the root's place k tells. -/
def LeafAt (w : World) (F : List Nat) (p rb : Nat) (f : Nat → Int) (k : Nat) (v : Value) : Prop :=
  (v = .pointer none ∧ cntW f k = 0) ∨ ∃ g, v = ptrTo g ∧ Blk w g (leafC f k).toArray LT ∧ cntW f k ≠ 0 ∧ g ∈ F ∧ g ≠ p ∧ g ≠ rb
def leavesN (pages : Nat) : Nat := (pages + 63) / 64
/-- Where the parts lie. -/
structure Parts (w : World) (p : Nat) (F : List Nat) (pages : Nat) (s : RS) (rb : Nat) (hs : List Value) : Prop where
  head : Blk w p #[.int .i64 pages, .slice (some ⟨rb, 0, none⟩) (leavesN pages) (leavesN pages), .int .u64 s.st] MT
  rows : Row w LPT rb (leavesN pages) hs
  hlen : hs.length = leavesN pages
  each : ∀ k v, hs[k]? = some v → LeafAt w F p rb s.ws k v
  apart : ∀ (j k g : Nat), hs[j]? = some (ptrTo g) → hs[k]? = some (ptrTo g) → j = k
  ins : p ∈ F ∧ rb ∈ F
  ne : p ≠ rb
  flt : ∀ x ∈ F, x < w.heap.size
/-- A map: its struct in block p, all its blocks in F. -/
structure RadAt (w : World) (p : Nat) (F : List Nat) (pages : Nat) (s : RS) : Prop where
  ok : OkR pages s
  ex : ∃ rb hs, Parts w p F pages s rb hs
section
variable {w w' : World} {p pages : Nat} {F : List Nat} {s : RS} {rb : Nat} {hs : List Value}
theorem LeafAt.same {f : Nat → Int} {k : Nat} {v : Value} (h : LeafAt w F p rb f k v) (hb : ∀ i, i < w.heap.size → i ∈ F → i ≠ p → i ≠ rb → w'.heap[i]? = w.heap[i]?) : LeafAt w' F p rb f k v := by
  rcases h with h | ⟨g, h1, h2, h3, h4, h5, h6⟩
  · exact .inl h
  · exact .inr ⟨g, h1, (hb g h2.lt h4 h5 h6).trans h2, h3, h4, h5, h6⟩
theorem Parts.same (h : Parts w p F pages s rb hs) (hz : w.heap.size ≤ w'.heap.size) (hb : ∀ i, i < w.heap.size → i ∈ F → w'.heap[i]? = w.heap[i]?) : Parts w' p F pages s rb hs :=
  ⟨(hb p h.head.lt h.ins.1).trans h.head, h.rows.block (hb rb h.rows.lt h.ins.2), h.hlen, fun k v hk => (h.each k v hk).same fun i hi hF _ _ => hb i hi hF, h.apart, h.ins, h.ne, fun x hx => Nat.lt_of_lt_of_le (h.flt x hx) hz⟩
theorem RadAt.kept (h : RadAt w p F pages s) {G : List Nat} (k : Kept G w w') (hF : ∀ x ∈ F, x ∉ G) : RadAt w' p F pages s := by
  obtain ⟨rb, hs, h1⟩ := h.ex
  exact ⟨h.ok, rb, hs, h1.same k.size fun i hi hF' => k.block i hi (hF i hF')⟩
theorem RadAt.below (h : RadAt w p F pages s) (k : Below w.heap.size w w') : RadAt w' p F pages s := by
  obtain ⟨rb, hs, h1⟩ := h.ex
  exact ⟨h.ok, rb, hs, h1.same k.size fun i hi _ => k.block i hi⟩
theorem RadAt.flt (h : RadAt w p F pages s) : ∀ x ∈ F, x < w.heap.size := by
  obtain ⟨rb, hs, h1⟩ := h.ex
  exact h1.flt
theorem RadAt.drew (h : RadAt w p F pages s) : RadAt w.drew p F pages s := h.below (Below.refl _ _).drew
theorem RadAt.pin (h : RadAt w p F pages s) : p ∈ F := by
  obtain ⟨rb, hs, h1⟩ := h.ex
  exact h1.ins.1
theorem RadAt.c0 (h : RadAt w p F pages s) : w.cell? ⟨p, 0, none⟩ = some (.int .i64 pages) := by
  obtain ⟨rb, hs, h1⟩ := h.ex
  exact h1.head.cell rfl
theorem RadAt.c2 (h : RadAt w p F pages s) : w.cell? ⟨p, 2, none⟩ = some (.int .u64 s.st) := by
  obtain ⟨rb, hs, h1⟩ := h.ex
  exact h1.head.cell rfl
theorem Parts.c1 (h : Parts w p F pages s rb hs) : w.cell? ⟨p, 1, none⟩ = some (.slice (some ⟨rb, 0, none⟩) (leavesN pages) (leavesN pages)) := h.head.cell rfl
theorem Parts.at (h : Parts w p F pages s rb hs) {k : Nat} (hk : k < leavesN pages) : ∃ v, hs[k]? = some v ∧ w.cell? ⟨rb, k, none⟩ = some v ∧ LeafAt w F p rb s.ws k v := by
  have hk' : k < hs.length := by rw [h.hlen]; exact hk
  refine ⟨hs[k], List.getElem?_eq_getElem hk', ?_, h.each k _ (List.getElem?_eq_getElem hk')⟩
  rw [h.rows.cell hk', List.getElem?_eq_getElem hk']
end
/-! ### pages and numbers -/
theorem in_calls (w : World) (p : Nat) (F : List Nat) (pages : Nat) (s : RS) (page n : Int) (h : RadAt w p F pages s) :
    Calls Try.prog 64 #[.pointer (some ⟨p, 0, none⟩), .int .i64 page, .int .i64 n] w fun e w' => e = .returned (.bool (inR pages page n)) ∧ w = w' := by
  have c0 := h.c0
  have hp := h.ok.p12
  unfold inR
  clear h
  by_cases h0 : 1 ≤ n
  · by_cases h1 : 0 ≤ page
    · by_cases h2 : page ≤ (pages : Int)
      · by_cases h3 : n ≤ (pages : Int) - page
        · rw [decide_eq_true ⟨h0, h1, h2, h3⟩]
          go_enter Try.func64, Try.ntmps64
          go_wp2
          go_ret
          exact ⟨rfl, rfl⟩
        · rw [decide_eq_false (by omega)]
          go_enter Try.func64, Try.ntmps64
          go_wp2
          go_ret
          exact ⟨rfl, rfl⟩
      · rw [decide_eq_false (by omega)]
        go_enter Try.func64, Try.ntmps64
        go_wp2
        go_ret
        exact ⟨rfl, rfl⟩
    · rw [decide_eq_false (by omega)]
      go_enter Try.func64, Try.ntmps64
      go_wp2
      go_ret
      exact ⟨rfl, rfl⟩
  · rw [decide_eq_false (by omega)]
    go_enter Try.func64, Try.ntmps64
    go_wp2
    go_ret
    exact ⟨rfl, rfl⟩
theorem mask40 {t : Int} (h0 : 0 ≤ t) (h1 : t < 1099511627776) : Go.bits .and .u64 (t + 1) 1099511627775 = nextS t := by
  obtain ⟨k, rfl⟩ := Int.eq_ofNat_of_zero_le h0
  have hk : k + 1 < 2 ^ 64 := by omega
  unfold nextS
  have e : ((k : Int) + 1) = ((k + 1 : Nat) : Int) := by omega
  rw [e]
  refine R_ext (R_bits _ _ _) ?_ fun j hj => ?_
  · unfold Aid.R; omega
  · rw [B_and, BitVec.getLsbD_and, bit_nat _ j hj]
    have e2 : (((k + 1 : Nat) : Int) % 1099511627776) = ((((k + 1) % 2 ^ 40 : Nat)) : Int) := by omega
    rw [e2, bit_nat _ j hj, Nat.testBit_mod_two_pow, show (1099511627775 : Int) = ((2 ^ 40 - 1 : Nat) : Int) from rfl, bit_nat _ j hj, Nat.testBit_two_pow_sub_one, Bool.and_comm]
theorem next_calls (w : World) (p : Nat) (F : List Nat) (pages : Nat) (s : RS) (h : RadAt w p F pages s) :
    Calls Try.prog 63 #[.pointer (some ⟨p, 0, none⟩)] w fun e w' => e = .returned (.int .u64 (nextS s.st)) ∧ w = w' := by
  have c2 := h.c2
  have h0 := h.ok.st0
  have h1 := h.ok.st1
  have hm := mask40 h0 h1
  clear h
  go_enter Try.func63, Try.ntmps63
  go_wp2
  go_ret
  exact ⟨rfl, rfl⟩
theorem stamp_calls (w : World) (p : Nat) (F : List Nat) (pages : Nat) (s : RS) (h : RadAt w p F pages s) :
    Calls Try.prog 19 #[.pointer (some ⟨p, 0, none⟩)] w fun e w' => e = .returned (.int .u64 s.st) ∧ w = w' := by
  have c2 := h.c2
  clear h
  go_enter Try.func19, Try.ntmps19
  go_wp2
  go_ret
  exact ⟨rfl, rfl⟩
theorem fields_calls (w : World) : Calls Try.prog 61 #[] w fun e w' => (∃ A, e = .returned (.slice A 6 6) ∧ Pairs w' A flds) ∧ Below w.heap.size w w' := by
  go_enter Try.func61, Try.ntmps61
  go_wp2
  go_ret
  refine ⟨⟨_, rfl, ?_⟩, (Below.refl _ _).alloc (Nat.le_refl _) _⟩
  intro k hk
  have hB := Blk.new w #[.int .i64 0, .int .i64 1, .int .i64 1, .int .i64 3, .int .i64 4, .int .i64 6, .int .i64 10, .int .i64 2, .int .i64 12, .int .i64 12, .int .i64 24, .int .i64 40] 156
  have hk6 : k < 6 := hk
  refine ⟨w.heap.size, 0, rfl, hB.lt, ?_, ?_⟩
  · rw [Nat.zero_add]
    rcases k with _ | _ | _ | _ | _ | _ | k
    all_goals first | exact hB.cell rfl | omega
  · rw [Nat.zero_add]
    rcases k with _ | _ | _ | _ | _ | _ | k
    all_goals first | exact hB.cell rfl | omega
def min4 (a b c d : Int) : Int := min (min (min a b) c) d
@[go_sem] theorem run_min_int4 {P : Program} (w : World) (ts : Array TypeId) (t : TypeId) (k : IntKind) (a b c d : Int) :
    (Builtin.min_ ts t #[.int k a, .int k b, .int k c, .int k d]).run P w = .ok (.int k (min4 a b c d)) w := by
  have h : ∀ x y : Int, (if y < x then y else x) = min x y := fun x y => by
    rw [Int.min_def]
    split <;> split <;> omega
  unfold min4
  simp [Builtin.min_, Builtin.min2, h]
/-- An entry as a value. -/
def encE (e : En) : List Value := [.int .i64 e.span, .int .i64 e.ver, .int .i64 e.cls, .int .i64 e.sta]
structure En64 (e : En) : Prop where
  s0 : -9223372036854775808 ≤ e.span
  s1 : e.span < 9223372036854775808
  v0 : -9223372036854775808 ≤ e.ver
  v1 : e.ver < 9223372036854775808
  c0 : -9223372036854775808 ≤ e.cls
  c1 : e.cls < 9223372036854775808
  t0 : -9223372036854775808 ≤ e.sta
  t1 : e.sta < 9223372036854775808
def wordV (e : En) (st : Int) : Int := if rightE e = true then wordE e st else 0
theorem cell_lt {W : World} {a : Addr} {v : Value} (h : W.cell? a = some v) : a.block < W.heap.size := by
  rcases Nat.lt_or_ge a.block W.heap.size with h1 | h1
  · exact h1
  · exfalso
    unfold World.cell? at h
    rw [Array.getElem?_eq_none h1] at h
    simp at h
theorem held4 {W w3 : World} {q : Nat} {a b c d : Value} (h : W.cell? ⟨q, 0, none⟩ = some a ∧ W.cell? ⟨q, 1, none⟩ = some b ∧ W.cell? ⟨q, 2, none⟩ = some c ∧ W.cell? ⟨q, 3, none⟩ = some d) (hb : Below W.heap.size W w3) :
    w3.cell? ⟨q, 0, none⟩ = some a ∧ w3.cell? ⟨q, 1, none⟩ = some b ∧ w3.cell? ⟨q, 2, none⟩ = some c ∧ w3.cell? ⟨q, 3, none⟩ = some d :=
  have hz : q < W.heap.size := cell_lt h.1
  ⟨(hb.cell (p := ⟨q, 0, none⟩) hz).trans h.1, (hb.cell (p := ⟨q, 1, none⟩) hz).trans h.2.1, (hb.cell (p := ⟨q, 2, none⟩) hz).trans h.2.2.1, (hb.cell (p := ⟨q, 3, none⟩) hz).trans h.2.2.2⟩
theorem ints6 (W : World) (a b c d e f : Int) (T : TypeId) : Ints (W.alloc (.cells #[.int .u64 a, .int .u64 b, .int .u64 c, .int .u64 d, .int .u64 e, .int .u64 f] T)) .u64 (some ⟨W.heap.size, 0, none⟩) [a, b, c, d, e, f] := by
  intro k hk
  have hB := Blk.new W #[.int .u64 a, .int .u64 b, .int .u64 c, .int .u64 d, .int .u64 e, .int .u64 f] T
  have hk6 : k < 6 := hk
  refine ⟨W.heap.size, 0, rfl, hB.lt, ?_⟩
  rw [Nat.zero_add]
  rcases k with _ | _ | _ | _ | _ | _ | k
  all_goals first | exact hB.cell rfl | omega
theorem ints6d (W : World) (a b c d e f : Int) (T : TypeId) : Ints (W.alloc (.cells #[.int .u64 a, .int .u64 b, .int .u64 c, .int .u64 d, .int .u64 e, .int .u64 f] T)).drew .u64 (some ⟨W.heap.size, 0, none⟩) [a, b, c, d, e, f] := ints6 W a b c d e f T
theorem u64_in {x : Int} (h0 : 0 ≤ x) (h1 : x < 18446744073709551616) : IntKind.u64.wrap x = x := by
  show x % 2 ^ 64 = x
  omega
theorem pack_said {sp ve cl sa st : Int} (hneg : ¬(sp < 0 ∨ ve < 0 ∨ cl < 0 ∨ sa < 0)) (s1 : sp < 9223372036854775808) (v1 : ve < 9223372036854775808) (c1 : cl < 9223372036854775808) (t1 : sa < 9223372036854775808) (h0 : 0 ≤ st) (h1 : st < 1099511627776) :
    Ending.returned (.tuple #[.int .u64 ((packGo 0 flds [1, IntKind.u64.wrap sa, IntKind.u64.wrap cl, IntKind.u64.wrap ve, IntKind.u64.wrap sp, st]).getD 0), .bool (packGo 0 flds [1, IntKind.u64.wrap sa, IntKind.u64.wrap cl, IntKind.u64.wrap ve, IntKind.u64.wrap sp, st]).isSome]) =
      .returned (.tuple #[.int .u64 (wordV ⟨sp, ve, cl, sa⟩ st), .bool (rightE ⟨sp, ve, cl, sa⟩)]) := by
  rw [u64_in (by omega) (by omega), u64_in (by omega) (by omega), u64_in (by omega) (by omega), u64_in (by omega) (by omega)]
  unfold wordV
  cases hr : rightE ⟨sp, ve, cl, sa⟩ with
  | true =>
    have := pack_flds hr h0 h1
    simp only at this
    rw [this, if_pos rfl]
    rfl
  | false =>
    have := pack_flds_no (e := ⟨sp, ve, cl, sa⟩) (st := st) hr (by simp only; omega) (by simp only; omega) (by simp only; omega) (by simp only; omega) t1 c1 v1 s1
    simp only at this
    rw [this, if_neg (by simp)]
    rfl
theorem bstep {w a b : World} (h : Below w.heap.size w a) (k : Below a.heap.size a b) : Below w.heap.size w b := h.trans (k.mono h.size)
theorem balloc {w a : World} (h : Below w.heap.size w a) (o : Obj) : Below w.heap.size w (a.alloc o) := h.alloc h.size o
theorem word_calls (w : World) (e : En) (st : Int) (he : En64 e) (h0 : 0 ≤ st) (h1 : st < 1099511627776) :
    Calls Try.prog 62 #[.agg (encE e).toArray, .int .u64 st] w fun r w' => r = .returned (.tuple #[.int .u64 (wordV e st), .bool (rightE e)]) ∧ Below w.heap.size w w' := by
  obtain ⟨sp, ve, cl, sa⟩ := e
  unfold encE
  simp only
  obtain ⟨s0, s1, v0, v1, c0, c1, t0, t1⟩ := he
  simp only at s0 s1 v0 v1 c0 c1 t0 t1
  by_cases hneg : sp < 0 ∨ ve < 0 ∨ cl < 0 ∨ sa < 0
  · have hm : min4 sp ve cl sa < 0 := by unfold min4; omega
    have hr : rightE ⟨sp, ve, cl, sa⟩ = false := by unfold rightE; simp only [decide_eq_false_iff_not]; omega
    unfold wordV
    rw [hr, if_neg (by decide)]
    clear hneg s0 s1 v0 v1 c0 c1 t0 t1 hr
    go_enter Try.func62, Try.ntmps62
    go_wp2
    go_ret2
    exact ⟨rfl, (Below.refl _ _).alloc (Nat.le_refl _) _⟩
  · have hm : ¬ min4 sp ve cl sa < 0 := by unfold min4; omega
    go_enter Try.func62, Try.ntmps62
    go_upto_region 3 with fail
    have hB := Blk.new w #[.int .i64 sp, .int .i64 ve, .int .i64 cl, .int .i64 sa] 32
    have hb0 := (Below.refl w.heap.size w).alloc (Nat.le_refl _) (.cells #[.int .i64 sp, .int .i64 ve, .int .i64 cl, .int .i64 sa] 32)
    have hz := hB.lt
    generalize w.alloc (.cells #[.int .i64 sp, .int .i64 ve, .int .i64 cl, .int .i64 sa] 32) = w2 at hB hb0 hz ⊢
    have k0 : w2.cell? ⟨w.heap.size, 0, none⟩ = some (.int .i64 sp) := hB.cell rfl
    have k1 : w2.cell? ⟨w.heap.size, 1, none⟩ = some (.int .i64 ve) := hB.cell rfl
    have k2 : w2.cell? ⟨w.heap.size, 2, none⟩ = some (.int .i64 cl) := hB.cell rfl
    have k3 : w2.cell? ⟨w.heap.size, 3, none⟩ = some (.int .i64 sa) := hB.cell rfl
    obtain ⟨q, hq⟩ : ∃ q, q = w.heap.size := ⟨_, rfl⟩
    rw [← hq] at k0 k1 k2 k3 hz ⊢
    have HQ := Lib.hid hq
    have HB := Lib.hid hB
    have HB0 := Lib.hid hb0
    clear hq hB hb0
    go_region_held3 (fun w' => w'.cell? ⟨q, 0, none⟩ = some (.int .i64 sp) ∧ w'.cell? ⟨q, 1, none⟩ = some (.int .i64 ve) ∧ w'.cell? ⟨q, 2, none⟩ = some (.int .i64 cl) ∧ w'.cell? ⟨q, 3, none⟩ = some (.int .i64 sa))
      (first | go_keep | exact HK.out)
      ((first
        | (go_at_call 61; (refine (fields_calls _).mono ?_); rintro r w3 ⟨⟨A, rfl, hPr⟩, hb3⟩; have hk3 := hb3.size; have HK := Lib.hid (held4 (by assumption) hb3); have HPr := Lib.hid hPr; have HB3 := Lib.hid hb3; clear hPr hb3)
        | (go_at_call 94; (refine (pack_calls flds _ _ [1, IntKind.u64.wrap sa, IntKind.u64.wrap cl, IntKind.u64.wrap ve, IntKind.u64.wrap sp, st] _ _ _ ?_ ?_ (by decide) flds_apart rfl).mono ?_); (first | exact HPr.out | exact HPr.out.below ((Below.refl _ _).alloc (Nat.le_refl _) _)); (first | exact ints6 _ _ _ _ _ _ _ _ | exact (ints6d _ _ _ _ _ _ _ _).below HB3.out); rintro r w4 ⟨rfl, hb4⟩; clear HK; have HK := Lib.hid (held4 (by assumption) hb4); have HB4 := Lib.hid hb4; clear hb4)))
    all_goals
      go_wp2
      go_ret2
      refine ⟨pack_said hneg s1 v1 c1 t1 h0 h1, ?_⟩
      first
        | exact bstep (balloc (bstep HB0.out (undrew HB3.out)) _) HB4.out
        | exact bstep (bstep (balloc HB0.out _) (undrew HB3.out)) HB4.out
/-- A page's word. -/
def wordAt (pages : Nat) (s : RS) (page : Int) : Int := if 0 ≤ page ∧ page < pages then s.ws page.toNat else 0
/-- Where a page's word lies. -/
structure Place (pages i k j : Nat) : Prop where
  shr : (i : Int) / 64 = (k : Int)
  and : Go.bits .and .i64 (i : Int) 63 = (j : Int)
  lt : i < pages
  k1 : k < leavesN pages
  j1 : j < 64
  sum : 64 * k + j = i
theorem place {pages i : Nat} (hp : pages ≤ 4096) (h : i < pages) : ∃ k j, Place pages i k j := by
  refine ⟨i / 64, i % 64, by omega, ?_, h, by unfold leavesN; omega, by omega, by omega⟩
  have := i64_and_nat i 63 (by omega) (by decide)
  rw [show (63 : Int) = ((63 : Nat) : Int) from rfl, this, show (63 : Nat) = 2 ^ 6 - 1 from rfl, Nat.and_two_pow_sub_one_eq_mod]
theorem rword_calls (w : World) (p : Nat) (F : List Nat) (pages : Nat) (s : RS) (page : Int) (h : RadAt w p F pages s) :
    Calls Try.prog 24 #[.pointer (some ⟨p, 0, none⟩), .int .i64 page] w fun e w' => e = .returned (.int .u64 (wordAt pages s page)) ∧ w = w' := by
  have c0 := h.c0
  have hp := h.ok.p12
  obtain ⟨rb, hs, hP⟩ := h.ex
  have c1 := hP.c1
  unfold wordAt
  by_cases h0 : 0 ≤ page
  · by_cases h1 : page < (pages : Int)
    · rw [if_pos ⟨h0, h1⟩]
      obtain ⟨i, rfl⟩ := Int.eq_ofNat_of_zero_le h0
      obtain ⟨k, j, hPl⟩ := place hp (show i < pages by omega)
      obtain ⟨v, hv, hc, hL⟩ := hP.at hPl.k1
      have HPl := Lib.hid hPl
      obtain ⟨e1, e2, _, hk1, hj1, _⟩ := hPl
      have hk0 : (0 : Int) ≤ (k : Int) := by omega
      have hj0 : (0 : Int) ≤ (j : Int) := by omega
      have hk1' : (k : Int) < (leavesN pages : Int) := by omega
      have hj1' : (j : Int) < 64 := by omega
      rcases hL with ⟨rfl, hz⟩ | ⟨g, rfl, hB, _⟩
      · have HX := Lib.hid (cntW_zero.1 hz j HPl.out.j1)
        clear hz hv hP h
        go_enter Try.func24, Try.ntmps24
        go_wp2
        go_ret
        refine ⟨?_, rfl⟩
        have := HX.out
        rw [HPl.out.sum] at this
        rw [Int.toNat_natCast, this]
        rfl
      · have hw := leafC_word s.ws k HPl.out.j1
        have hcw := hB.cell (o := j) (v := .int .u64 (s.ws i)) (by rw [List.getElem?_toArray, hw, HPl.out.sum])
        clear hv hP h hw hB
        unfold ptrTo at hc
        go_enter Try.func24, Try.ntmps24
        go_wp2
        go_ret
        exact ⟨rfl, rfl⟩
    · rw [if_neg (by omega)]
      clear hP h
      go_enter Try.func24, Try.ntmps24
      go_wp2
      go_ret
      exact ⟨rfl, rfl⟩
  · rw [if_neg (by omega)]
    clear hP h
    go_enter Try.func24, Try.ntmps24
    go_wp2
    go_ret
    exact ⟨rfl, rfl⟩
theorem wordAt_ok {pages : Nat} {s : RS} (h : OkR pages s) (page : Int) : wrdOk (wordAt pages s page) := by
  unfold wordAt
  split
  · exact h.wrd _
  · exact .inl rfl
theorem results_cell_rec {P : Program} {fn : Func} {p u : Tmp} {ty : TypeId} (h : fn.results = #[.cell p ty, .tmp u]) (tmps : Array Value) (w : World) (g : Nat) (t : TypeId) (cs : Array Value) (d : TypeDesc) (hp : tmps.getD p undef = .pointer (some ⟨g, 0, none⟩)) (hg : Blk w g cs t)
    (hu : P.underlying ty = some d) (hd : (match d with | .struct _ | .array _ _ => true | _ => false) = true) (hi : (P.info? ty).map (·.size) = some cs.size) (v : Value) (hv : tmps.getD u undef = v) :
    (results fn tmps).run P w = .ok (.tuple #[.agg cs, v]) w := by
  have hp' : tmps[p]?.getD undef = .pointer (some ⟨g, 0, none⟩) := by simpa using hp
  rw [results_cell_tmp h, hv]
  simp [hp', asAddr, run_loadVar_row w g t ty cs (0, 0) d hg hu hd hi]
theorem sizeE : (Try.prog.info? 32).map (·.size) = some 4 := by kernel_rfl
/-- What Get tells. -/
def getE (x : Int) : Ending := if x = 0 then .returned (.tuple #[.agg (encE ⟨0, 0, 0, 0⟩).toArray, .bool false]) else .returned (.tuple #[.agg (encE (entW x)).toArray, .bool true])
theorem get_calls (w : World) (p : Nat) (F : List Nat) (pages : Nat) (s : RS) (page : Int) (h : RadAt w p F pages s) :
    Calls Try.prog 22 #[.pointer (some ⟨p, 0, none⟩), .int .i64 page] w fun e w' => e = getE (wordAt pages s page) ∧ Below w.heap.size w w' := by
  have hx := wordAt_ok h.ok page
  have HW := Lib.hid (rword_calls _ p F pages s page (h.below ((Below.refl w.heap.size w).alloc (Nat.le_refl _) (.cells #[.int .i64 0, .int .i64 0, .int .i64 0, .int .i64 0] 32))))
  clear h
  generalize wordAt pages s page = x at hx HW
  have HX := Lib.hid hx
  go_enter Try.func22, Try.ntmps22
  go_wp2_with fail
  refine HW.out.mono ?_
  rintro e w1 ⟨rfl, rfl⟩
  go_wp2_with fail
  refine (fields_calls _).mono ?_
  rintro e w1 ⟨⟨A, rfl, hPr⟩, hb1⟩
  go_wp2_with fail
  have hz1 := hb1.size
  have hBq1 := (Blk.new w #[.int .i64 0, .int .i64 0, .int .i64 0, .int .i64 0] 32).below hb1
  have hB1 := bstep (balloc (Below.refl w.heap.size w) (.cells #[.int .i64 0, .int .i64 0, .int .i64 0, .int .i64 0] 32)) hb1
  refine (unpack_calls x flds A 6 w1 hPr (by decide) flds_apart).mono ?_
  rintro e w2 ⟨v, rfl, hO, hb2⟩
  rw [unpack_flds HX.out.R] at hO
  have hBq2 := hBq1.below hb2
  have HB := Lib.hid (bstep hB1 hb2)
  have hqg := hBq1.lt
  obtain ⟨A', c', hv, _⟩ := hO.shape
  obtain ⟨g, c, rfl, _, hR, hg⟩ := Row.of_own hO (by rw [hv]; simp)
  have r0 := hR.cell (k := 0) (by simp)
  have r1 := hR.cell (k := 1) (by simp)
  have r2 := hR.cell (k := 2) (by simp)
  have r3 := hR.cell (k := 3) (by simp)
  have r4 := hR.cell (k := 4) (by simp)
  simp only [List.map_cons, List.map_nil, List.getElem?_cons_zero, List.getElem?_cons_succ] at r0 r1 r2 r3 r4
  obtain ⟨q, hq⟩ : ∃ q, q = w.heap.size := ⟨_, rfl⟩
  rw [← hq] at hBq2 hqg ⊢
  have hne : g ≠ q := by omega
  have hne' : q ≠ g := by omega
  have q0 := hBq2.cell (o := 0) rfl
  have q1 := hBq2.cell (o := 1) rfl
  have q2 := hBq2.cell (o := 2) rfl
  have q3 := hBq2.cell (o := 3) rfl
  have f0 := hBq2.free 0
  have f1 := hBq2.free 1
  have f2 := hBq2.free 2
  have f3 := hBq2.free 3
  have HQ := Lib.hid (Nat.le_of_eq hq.symm)
  have HBq := Lib.hid hBq2
  clear hPr hb1 hb2 hBq1 hBq2 hB1 hO hv hR hg hqg hz1 hx hq HW
  by_cases h0 : x = 0
  · subst h0
    go_wp2_with fail
    have hq2 := (((HBq.out.set 0 (.int .i64 0)).set 1 (.int .i64 0)).set 2 (.int .i64 0)).set 3 (.int .i64 0)
    refine bodyPost_ret_by (results_cell_rec rfl _ _ q 32 #[.int .i64 0, .int .i64 0, .int .i64 0, .int .i64 0] _ rfl hq2 Try.underlying32 rfl sizeE _ rfl) rfl ?_
    exact ⟨rfl, (((HB.out.setCell (p := ⟨q, 0, none⟩) HQ.out _).setCell (p := ⟨q, 1, none⟩) HQ.out _).setCell (p := ⟨q, 2, none⟩) HQ.out _).setCell (p := ⟨q, 3, none⟩) HQ.out _⟩
  · rw [(HX.out.odd).resolve_left h0] at r0
    have HG := Lib.hid (show getE x = .returned (.tuple #[.agg #[.int .i64 (x / 4096 % 4096), .int .i64 (x / 1024 % 4), .int .i64 (x / 16 % 64), .int .i64 (x / 2 % 8)], .bool true]) from by unfold getE; rw [if_neg h0]; rfl)
    have n1 : 0 ≤ x / 2 % 8 ∧ x / 2 % 8 < 4096 := by omega
    have n2 : 0 ≤ x / 16 % 64 ∧ x / 16 % 64 < 4096 := by omega
    have n3 : 0 ≤ x / 1024 % 4 ∧ x / 1024 % 4 < 4096 := by omega
    have n4 : 0 ≤ x / 4096 % 4096 ∧ x / 4096 % 4096 < 4096 := by omega
    generalize x / 2 % 8 = a1 at r1 n1 HG ⊢
    generalize x / 16 % 64 = a2 at r2 n2 HG ⊢
    generalize x / 1024 % 4 = a3 at r3 n3 HG ⊢
    generalize x / 4096 % 4096 = a4 at r4 n4 HG ⊢
    obtain ⟨n10, n11⟩ := n1
    obtain ⟨n20, n21⟩ := n2
    obtain ⟨n30, n31⟩ := n3
    obtain ⟨n40, n41⟩ := n4
    clear h0
    go_upto_region 4 with fail
    go_region_held3 (fun w' => w'.cell? ⟨g, 1, none⟩ = some (.int .u64 a1) ∧ w'.cell? ⟨g, 2, none⟩ = some (.int .u64 a2) ∧ w'.cell? ⟨g, 3, none⟩ = some (.int .u64 a3) ∧ w'.cell? ⟨g, 4, none⟩ = some (.int .u64 a4)) (go_keep) (fail)
    all_goals
      go_wp2_with fail
      rw [IntWalk.i64_in a1 ⟨by omega, by omega⟩, IntWalk.i64_in a2 ⟨by omega, by omega⟩, IntWalk.i64_in a3 ⟨by omega, by omega⟩, IntWalk.i64_in a4 ⟨by omega, by omega⟩]
      have hq2 := ((((HBq.out.set 0 (.int .i64 a4)).set 1 (.int .i64 a3)).set 2 (.int .i64 a2)).set 3 (.int .i64 a1)).drew
      refine bodyPost_ret_by (results_cell_rec rfl _ _ q 32 #[.int .i64 a4, .int .i64 a3, .int .i64 a2, .int .i64 a1] _ rfl hq2 Try.underlying32 rfl sizeE _ rfl) rfl ?_
      rw [HG.out]
      exact ⟨rfl, ((((HB.out.setCell (p := ⟨q, 0, none⟩) HQ.out _).setCell (p := ⟨q, 1, none⟩) HQ.out _).setCell (p := ⟨q, 2, none⟩) HQ.out _).setCell (p := ⟨q, 3, none⟩) HQ.out _).drew⟩
end Go.Proofs.Ytldlogmjkbhomaa.Rad
