/- Plain words on packed words: a field that is put adds, a field that is read divides; the word of a page's entry. No function of the program is walked here. -/
import Derived.Test.YtldlogmjkbhomaaRadPB
import Derived.Test.YtldlogmjkbhomaaRadPL
namespace Go.Proofs.Ytldlogmjkbhomaa.Rad
open Go.Proofs.Ytldlogmjkbhomaa.Aid Go.Proofs.Ytldlogmjkbhomaa.Pack
theorem bit_nat (a j : Nat) (hj : j < 64) : (B (a : Int)).getLsbD j = a.testBit j := by
  unfold B
  rw [BitVec.ofInt_natCast, BitVec.getLsbD_ofNat]
  simp [hj]
theorem R_nat {a : Nat} (h : a < 2 ^ 64) : R (a : Int) := by unfold R; omega
theorem big_bit {a i j : Nat} (h : a < 2 ^ i) (hj : i ≤ j) : a.testBit j = false := Nat.testBit_lt_two_pow (Nat.lt_of_lt_of_le h (Nat.pow_le_pow_right (by decide) hj))
theorem putV_nat (X S N V : Nat) (h1 : 1 ≤ N) (h2 : S + N ≤ 64) (hx : X < 2 ^ S) (hv : V < 2 ^ N) : putB S N V = true ∧ putV X S N V = ((X + V * 2 ^ S : Nat) : Int) := by
  have hr : rightB (S : Int) (N : Int) = true := by
    unfold rightB wideB
    simp
    omega
  have hV : V < 2 ^ 64 := Nat.lt_of_lt_of_le hv (Nat.pow_le_pow_right (by decide) (by omega))
  have hX : X < 2 ^ 64 := Nat.lt_of_lt_of_le hx (Nat.pow_le_pow_right (by decide) (by omega))
  have hY : X + V * 2 ^ S < 2 ^ 64 := by
    have a1 : (V + 1) * 2 ^ S ≤ 2 ^ N * 2 ^ S := Nat.mul_le_mul_right _ hv
    rw [← Nat.pow_add, Nat.succ_mul] at a1
    have a2 : 2 ^ (N + S) ≤ 2 ^ 64 := Nat.pow_le_pow_right (by decide) (by omega)
    omega
  have hc : (Go.bits .andNot .u64 (V : Int) (maskV N) != 0) = false := clean_of_bits (by omega) (by omega) fun j hj hn => by
    rw [bit_nat V j hj]
    exact big_bit hv (by omega)
  refine ⟨by unfold putB; rw [hr, hc]; rfl, R_ext (R_putV _ _ _ _) (R_nat hY) fun j hj => ?_⟩
  rw [putV_bit (X : Int) S N V hr (R_nat hV) hc j hj, bit_nat _ j hj, bit_nat _ j hj, Nat.add_comm X, Nat.mul_comm V, Nat.testBit_two_pow_mul_add V hx j]
  by_cases hs : j < S
  · rw [if_neg (by omega), if_pos hs]
  · rw [if_neg hs]
    by_cases hn : j < S + N
    · rw [if_pos (by omega), Int.toNat_natCast, bit_nat _ _ (by omega)]
    · rw [if_neg (by omega), big_bit hx (by omega), big_bit hv (by omega)]
theorem putB_no {S N V : Int} (h1 : 1 ≤ N) (h2 : N < 64) (hv : R V) (h : 2 ^ N.toNat ≤ V) : putB S N V = false := by
  unfold putB
  obtain ⟨v, rfl⟩ := Int.eq_ofNat_of_zero_le hv.1
  obtain ⟨k, rfl⟩ := Int.eq_ofNat_of_zero_le (show 0 ≤ N by omega)
  cases hc : (Go.bits .andNot .u64 (v : Int) (maskV (k : Nat)) != 0) with
  | true => simp
  | false =>
    exfalso
    have hlt : v < 2 ^ k := by
      apply Nat.lt_pow_two_of_testBit
      intro j hj
      rcases Nat.lt_or_ge j 64 with h64 | h64
      · have := not_above hv (by omega) (by omega) hc j (by omega)
        rwa [bit_nat v j h64] at this
      · exact big_bit (i := 64) (by have := hv.2; omega) h64
    rw [Int.toNat_natCast] at h
    have : ((2 ^ k : Nat) : Int) ≤ v := by push_cast; exact h
    omega
theorem getV_nat (X S N : Nat) (h1 : 1 ≤ N) (h2 : S + N ≤ 64) (hx : X < 2 ^ 64) : getV (X : Int) ((S : Int), (N : Int)) = ((X / 2 ^ S % 2 ^ N : Nat) : Int) := by
  have hm : X / 2 ^ S % 2 ^ N < 2 ^ 64 := Nat.lt_of_le_of_lt (Nat.mod_le _ _) (Nat.lt_of_le_of_lt (Nat.div_le_self _ _) hx)
  refine R_ext (R_bits _ _ _) (R_nat hm) fun j hj => ?_
  unfold getV
  rw [B_and, BitVec.getLsbD_and, shr_B _ (R_nat hx) _ (by simp; omega), BitVec.getLsbD_ushiftRight, mask_bit _ (by omega) (by omega) j hj, bit_nat _ j hj, Nat.testBit_mod_two_pow, Nat.testBit_div_two_pow, Int.toNat_natCast]
  by_cases hb : S + j < 64
  · rw [bit_nat X _ hb, Nat.add_comm j]
    by_cases hn : j < N
    · simp [hn]
    · simp [hn]
  · rw [BitVec.getLsbD_of_ge _ _ (by omega), big_bit (i := 64) hx (by omega)]
    simp
/-- What is told of a page. -/
structure En where
  span : Int
  ver : Int
  cls : Int
  sta : Int
def rightE (e : En) : Bool := decide ((0 ≤ e.span ∧ e.span ≤ 4095) ∧ (0 ≤ e.ver ∧ e.ver ≤ 3) ∧ (0 ≤ e.cls ∧ e.cls ≤ 63) ∧ 0 ≤ e.sta ∧ e.sta ≤ 7)
def wordE (e : En) (st : Int) : Int := 1 + 2 * e.sta + 16 * e.cls + 1024 * e.ver + 4096 * e.span + 16777216 * st
def flds : List (Int × Int) := [(0, 1), (1, 3), (4, 6), (10, 2), (12, 12), (24, 40)]
theorem flds_apart : apartGo 0 flds = true := by decide +kernel
theorem packGo_step {x s n v : Int} {t : List (Int × Int)} {u : List Int} (h : putB s n v = true) : packGo x ((s, n) :: t) (v :: u) = packGo (putV x s n v) t u := by
  rw [packGo, if_pos h]
theorem packGo_stop {x s n v : Int} {t : List (Int × Int)} {u : List Int} (h : putB s n v = false) : packGo x ((s, n) :: t) (v :: u) = none := by
  rw [packGo, if_neg (by rw [h]; simp)]
theorem put_step (X S N V : Nat) (h1 : 1 ≤ N) (h2 : S + N ≤ 64) (hx : X < 2 ^ S) (hv : V < 2 ^ N) (t : List (Int × Int)) (u : List Int) : packGo (X : Int) ((((S : Nat) : Int), ((N : Nat) : Int)) :: t) ((V : Int) :: u) = packGo ((X + V * 2 ^ S : Nat) : Int) t u := by
  obtain ⟨h, e⟩ := putV_nat X S N V h1 h2 hx hv
  rw [packGo_step h, e]
theorem nat_of {x : Int} (h : 0 ≤ x) : ∃ k : Nat, x = k := Int.eq_ofNat_of_zero_le h
/-- The word of an entry, field by field. -/
theorem pack_flds {e : En} {st : Int} (h : rightE e = true) (h0 : 0 ≤ st) (h1 : st < 1099511627776) : packGo 0 flds [1, e.sta, e.cls, e.ver, e.span, st] = some (wordE e st) := by
  obtain ⟨sp, ve, cl, sa⟩ := e
  unfold rightE at h
  simp only [decide_eq_true_eq] at h
  obtain ⟨a, rfl⟩ := nat_of h.2.2.2.1
  obtain ⟨b, rfl⟩ := nat_of h.2.2.1.1
  obtain ⟨c, rfl⟩ := nat_of h.2.1.1
  obtain ⟨d, rfl⟩ := nat_of h.1.1
  obtain ⟨t, rfl⟩ := nat_of h0
  unfold wordE flds
  simp only
  rw [show (0 : Int) = ((0 : Nat) : Int) from rfl]
  refine (put_step 0 0 1 1 (by decide) (by decide) (by decide) (by decide) _ _).trans ?_
  refine (put_step _ 1 3 a (by decide) (by decide) (by decide) (by omega) _ _).trans ?_
  refine (put_step _ 4 6 b (by decide) (by decide) (by omega) (by omega) _ _).trans ?_
  refine (put_step _ 10 2 c (by decide) (by decide) (by omega) (by omega) _ _).trans ?_
  refine (put_step _ 12 12 d (by decide) (by decide) (by omega) (by omega) _ _).trans ?_
  refine (put_step _ 24 40 t (by decide) (by decide) (by omega) (by omega) _ _).trans ?_
  have e : ((0 + 1 * 2 ^ 0 + a * 2 ^ 1 + b * 2 ^ 4 + c * 2 ^ 10 + d * 2 ^ 12 + t * 2 ^ 24 : Nat) : Int) = 1 + 2 * (a : Int) + 16 * b + 1024 * c + 4096 * d + 16777216 * t := by omega
  exact congrArg some e
theorem pack_flds_no {e : En} {st : Int} (h : rightE e = false) (h1 : 0 ≤ e.sta) (h2 : 0 ≤ e.cls) (h3 : 0 ≤ e.ver) (h4 : 0 ≤ e.span) (r1 : e.sta < 9223372036854775808) (r2 : e.cls < 9223372036854775808) (r3 : e.ver < 9223372036854775808) (r4 : e.span < 9223372036854775808) :
    packGo 0 flds [1, e.sta, e.cls, e.ver, e.span, st] = none := by
  obtain ⟨sp, ve, cl, sa⟩ := e
  simp only at h1 h2 h3 h4 r1 r2 r3 r4
  unfold rightE at h
  simp only [decide_eq_false_iff_not] at h
  obtain ⟨a, rfl⟩ := nat_of h1
  obtain ⟨b, rfl⟩ := nat_of h2
  obtain ⟨c, rfl⟩ := nat_of h3
  obtain ⟨d, rfl⟩ := nat_of h4
  unfold flds
  simp only
  rw [show (0 : Int) = ((0 : Nat) : Int) from rfl]
  refine (put_step 0 0 1 1 (by decide) (by decide) (by decide) (by decide) _ _).trans ?_
  by_cases e1 : a < 8
  · refine (put_step _ 1 3 a (by decide) (by decide) (by decide) (by omega) _ _).trans ?_
    by_cases e2 : b < 64
    · refine (put_step _ 4 6 b (by decide) (by decide) (by omega) (by omega) _ _).trans ?_
      by_cases e3 : c < 4
      · refine (put_step _ 10 2 c (by decide) (by decide) (by omega) (by omega) _ _).trans ?_
        by_cases e4 : d < 4096
        · exfalso; apply h; omega
        · exact packGo_stop (putB_no (by decide) (by decide) ⟨by omega, by omega⟩ (show ((2 : Int) ^ (12 : Nat)) ≤ (d : Int) by omega))
      · exact packGo_stop (putB_no (by decide) (by decide) ⟨by omega, by omega⟩ (show ((2 : Int) ^ (2 : Nat)) ≤ (c : Int) by omega))
    · exact packGo_stop (putB_no (by decide) (by decide) ⟨by omega, by omega⟩ (show ((2 : Int) ^ (6 : Nat)) ≤ (b : Int) by omega))
  · exact packGo_stop (putB_no (by decide) (by decide) ⟨by omega, by omega⟩ (show ((2 : Int) ^ (3 : Nat)) ≤ (a : Int) by omega))
/-- What Unpack tells of a word. -/
theorem unpack_flds {x : Int} (h : R x) : flds.map (getV x) = [x % 2, x / 2 % 8, x / 16 % 64, x / 1024 % 4, x / 4096 % 4096, x / 16777216 % 1099511627776] := by
  obtain ⟨k, rfl⟩ := nat_of h.1
  have hk : k < 2 ^ 64 := by have := h.2; omega
  unfold flds
  simp only [List.map_cons, List.map_nil]
  have e0 := getV_nat k 0 1 (by decide) (by decide) hk
  have e1 := getV_nat k 1 3 (by decide) (by decide) hk
  have e2 := getV_nat k 4 6 (by decide) (by decide) hk
  have e3 := getV_nat k 10 2 (by decide) (by decide) hk
  have e4 := getV_nat k 12 12 (by decide) (by decide) hk
  have e5 := getV_nat k 24 40 (by decide) (by decide) hk
  simp only [Int.cast_ofNat_Int] at e0 e1 e2 e3 e4 e5
  rw [e0, e1, e2, e3, e4, e5]
  simp
/-! ### The map -/
structure RS where
  ws : Nat → Int
  st : Int
def wrdOk (x : Int) : Prop := x = 0 ∨ ∃ e t, rightE e = true ∧ 0 ≤ t ∧ t < 1099511627776 ∧ x = wordE e t
structure OkR (pages : Nat) (s : RS) : Prop where
  p12 : pages ≤ 4096
  out : ∀ i, pages ≤ i → s.ws i = 0
  wrd : ∀ i, wrdOk (s.ws i)
  st0 : 0 ≤ s.st
  st1 : s.st < 1099511627776
theorem wrdOk.R {x : Int} (h : wrdOk x) : Aid.R x := by
  rcases h with rfl | ⟨e, t, h1, h2, h3, rfl⟩
  · exact R_zero
  · unfold rightE at h1
    simp only [decide_eq_true_eq] at h1
    unfold wordE Aid.R
    omega
theorem wrdOk.odd {x : Int} (h : wrdOk x) : x = 0 ∨ x % 2 = 1 := by
  rcases h with rfl | ⟨e, t, h1, h2, h3, rfl⟩
  · exact .inl rfl
  · right
    unfold wordE
    omega
def entW (x : Int) : En := ⟨x / 4096 % 4096, x / 1024 % 4, x / 16 % 64, x / 2 % 8⟩
theorem entW_word {e : En} {t : Int} (h : rightE e = true) : entW (wordE e t) = e := by
  unfold rightE at h
  simp only [decide_eq_true_eq] at h
  obtain ⟨a, b, c, d⟩ := e
  unfold entW wordE
  simp only at h ⊢
  congr 1 <;> omega
theorem wordE_ne {e : En} {t : Int} : wordE e t ≠ 0 := by unfold wordE; omega
def inR (pages : Nat) (page n : Int) : Bool := decide (1 ≤ n ∧ 0 ≤ page ∧ page ≤ pages ∧ n ≤ pages - page)
def nextS (t : Int) : Int := (t + 1) % 1099511627776
def putW (f : Nat → Int) (page : Nat) (x : Int) : Nat → Int := fun i => if i = page then x else f i
def fillW (f : Nat → Int) (page n : Nat) (x : Int) : Nat → Int := fun i => if page ≤ i ∧ i < page + n then x else f i
theorem fillW_zero (f : Nat → Int) (page : Nat) (x : Int) : fillW f page 0 x = f := by
  funext i
  unfold fillW
  rw [if_neg (by omega)]
theorem fillW_succ (f : Nat → Int) (page n : Nat) (x : Int) : fillW f page (n + 1) x = putW (fillW f page n x) (page + n) x := by
  funext i
  show (if page ≤ i ∧ i < page + (n + 1) then x else f i) = if i = page + n then x else if page ≤ i ∧ i < page + n then x else f i
  by_cases h : i = page + n
  · rw [if_pos h, if_pos (by omega)]
  · rw [if_neg h]
    by_cases h2 : page ≤ i ∧ i < page + n
    · rw [if_pos h2, if_pos (by omega)]
    · rw [if_neg h2, if_neg (by omega)]
def allNZ (f : Nat → Int) (page n : Nat) : Bool := (List.range n).all fun k => f (page + k) != 0
def setC (pages : Nat) (page n : Int) (e : En) : Int := if inR pages page n = true ∧ rightE e = true then 0 else 11
def setS (pages : Nat) (s : RS) (page n : Int) (e : En) : RS := if setC pages page n e = 0 then ⟨fillW s.ws page.toNat n.toNat (wordE e (nextS s.st)), nextS s.st⟩ else s
def clrC (pages : Nat) (s : RS) (page n : Int) : Int := if inR pages page n = true then (if allNZ s.ws page.toNat n.toNat = true then 0 else 16) else 11
def clrS (pages : Nat) (s : RS) (page n : Int) : RS := if clrC pages s page n = 0 then ⟨fillW s.ws page.toNat n.toNat 0, nextS s.st⟩ else s
theorem nextS_ok (t : Int) : 0 ≤ nextS t ∧ nextS t < 1099511627776 := by unfold nextS; omega
theorem OkR.fill {pages : Nat} {s : RS} (h : OkR pages s) {page n : Nat} (hn : page + n ≤ pages) {x : Int} (hx : wrdOk x) (t : Int) (ht : 0 ≤ t ∧ t < 1099511627776) : OkR pages ⟨fillW s.ws page n x, t⟩ := by
  refine ⟨h.p12, fun i hi => ?_, fun i => ?_, ht.1, ht.2⟩
  · show fillW s.ws page n x i = 0
    unfold fillW
    rw [if_neg (by omega)]
    exact h.out i hi
  · show wrdOk (fillW s.ws page n x i)
    unfold fillW
    split
    · exact hx
    · exact h.wrd i
/-- How many words of a leaf are not nought. -/
def cntW (f : Nat → Int) (k : Nat) : Nat := ((List.range 64).filter fun j => f (64 * k + j) != 0).length
def leavesW (f : Nat → Int) (L : Nat) : Nat := ((List.range L).filter fun k => cntW f k != 0).length
def hasE (x ver sta : Int) : Bool := x != 0 && (entW x).ver == ver && (entW x).sta == sta
def countW (f : Nat → Int) (pages : Nat) (ver sta : Int) : Nat := ((List.range pages).filter fun i => hasE (f i) ver sta).length
theorem cntW_zero {f : Nat → Int} {k : Nat} : cntW f k = 0 ↔ ∀ j, j < 64 → f (64 * k + j) = 0 := by
  unfold cntW
  rw [List.length_eq_zero_iff, List.filter_eq_nil_iff]
  simp
theorem cntW_le (f : Nat → Int) (k : Nat) : cntW f k ≤ 64 := by
  unfold cntW
  have := List.length_filter_le (fun j => f (64 * k + j) != 0) (List.range 64)
  rwa [List.length_range] at this
end Go.Proofs.Ytldlogmjkbhomaa.Rad
