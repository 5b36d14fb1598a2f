/- How many bits of a word are set, as Go's OnesCount64 reckons it; the least set bit. No program stands here. -/
import Derived.Test.YtloflnachpjlgaaBitP
namespace Go.Proofs.Ytloflnachpjlgaa.Bit
open Go.RowKit Go.Proofs.Ytloflnachpjlgaa.Aid
/-- How many are true. -/
def cnt (f : Nat → Bool) : Nat → Nat
  | 0 => 0
  | n + 1 => cnt f n + (if f n then 1 else 0)
theorem cnt_add (f : Nat → Bool) (a : Nat) : ∀ b, cnt f (a + b) = cnt f a + cnt (fun j => f (a + j)) b
  | 0 => rfl
  | b + 1 => by rw [← Nat.add_assoc, cnt, cnt_add f a b, cnt]; omega
theorem cnt_le (f : Nat → Bool) : ∀ n, cnt f n ≤ n
  | 0 => Nat.le_refl _
  | n + 1 => by unfold cnt; have := cnt_le f n; split <;> omega
theorem cnt_congr {f g : Nat → Bool} : ∀ n, (∀ j, j < n → f j = g j) → cnt f n = cnt g n
  | 0, _ => rfl
  | n + 1, h => by unfold cnt; rw [cnt_congr n (fun j hj => h j (by omega)), h n (by omega)]
/-- and, byte by byte. -/
theorem and_byte (x y m n : Nat) (hx : x < 256) (hm : m < 256) : (x + 256 * y) &&& (m + 256 * n) = (x &&& m) + 256 * (y &&& n) := by
  apply Nat.eq_of_testBit_eq
  intro j
  have e1 : x + 256 * y = 2 ^ 8 * y + x := by omega
  have e2 : m + 256 * n = 2 ^ 8 * n + m := by omega
  have e3 : (x &&& m) + 256 * (y &&& n) = 2 ^ 8 * (y &&& n) + (x &&& m) := by omega
  have hxm : x &&& m < 2 ^ 8 := Nat.and_lt_two_pow _ (by omega)
  rw [e1, e2, e3, Nat.testBit_and, Nat.testBit_two_pow_mul_add _ (by omega), Nat.testBit_two_pow_mul_add _ (by omega), Nat.testBit_two_pow_mul_add _ hxm]
  split <;> simp
theorem byte_lt (x m : Nat) (hm : m < 256) : x &&& m < 256 := by have := Nat.and_le_right (n := x) (m := m); omega
/-- A shift and a mask that lets no bit of the next byte in. -/
theorem shr_and_byte (x y n m : Nat) (k : Nat) (hk : k ≤ 8) (hx : x < 256) (hm : m < 2 ^ (8 - k)) : ((x + 256 * y) / 2 ^ k) &&& (m + 256 * n) = ((x / 2 ^ k) &&& m) + 256 * ((y / 2 ^ k) &&& n) := by
  apply Nat.eq_of_testBit_eq
  intro j
  have hm8 : m < 256 := Nat.lt_of_lt_of_le hm (by have : 2 ^ (8 - k) ≤ 2 ^ 8 := Nat.pow_le_pow_right (by decide) (by omega); simpa using this)
  have e1 : x + 256 * y = 2 ^ 8 * y + x := by omega
  have e2 : m + 256 * n = 2 ^ 8 * n + m := by omega
  have hlt : (x / 2 ^ k) &&& m < 2 ^ 8 := byte_lt _ _ hm8
  have e3 : ((x / 2 ^ k) &&& m) + 256 * ((y / 2 ^ k) &&& n) = 2 ^ 8 * ((y / 2 ^ k) &&& n) + ((x / 2 ^ k) &&& m) := by omega
  rw [e1, e2, e3, Nat.testBit_and, Nat.testBit_div_two_pow, Nat.testBit_two_pow_mul_add _ (by omega), Nat.testBit_two_pow_mul_add _ (by omega), Nat.testBit_two_pow_mul_add _ hlt]
  simp only [Nat.testBit_and, Nat.testBit_div_two_pow]
  by_cases hj : j < 8
  · rw [if_pos hj, if_pos hj]
    by_cases hjk : k + j < 8
    · rw [if_pos (by omega)]
    · have : m.testBit j = false := Nat.testBit_lt_two_pow (Nat.lt_of_lt_of_le hm (Nat.pow_le_pow_right (by decide) (by omega)))
      simp [this]
  · rw [if_neg hj, if_neg hj, if_neg (by omega)]
    congr 2; omega
def val : List Nat → Nat
  | [] => 0
  | x :: l => x + 256 * val l
def Small (xs : List Nat) : Prop := ∀ x ∈ xs, x < 256
theorem val_and (k : Nat) (hk : k ≤ 8) : ∀ (xs ms : List Nat), xs.length = ms.length → Small xs → (∀ m ∈ ms, m < 2 ^ (8 - k)) → (val xs / 2 ^ k) &&& val ms = val (List.zipWith (fun x m => (x / 2 ^ k) &&& m) xs ms)
  | [], [], _, _, _ => by simp [val]
  | x :: xs, m :: ms, hl, hx, hm => by
    rw [List.zipWith_cons_cons]
    simp only [val]
    rw [shr_and_byte x (val xs) (val ms) m k hk (hx x (by simp)) (hm m (by simp)),
      val_and k hk xs ms (by simpa using hl) (fun y hy => hx y (by simp [hy])) (fun y hy => hm y (by simp [hy]))]
theorem zip_const (f : Nat → Nat → Nat) (m : Nat) : ∀ xs : List Nat, List.zipWith f xs (List.replicate xs.length m) = xs.map fun x => f x m
  | [] => rfl
  | x :: xs => by simp [List.replicate_succ, zip_const f m xs]
theorem val_mask (k m : Nat) (hk : k ≤ 8) (hm : m < 2 ^ (8 - k)) (xs : List Nat) (hx : Small xs) : (val xs / 2 ^ k) &&& val (List.replicate xs.length m) = val (xs.map fun x => (x / 2 ^ k) &&& m) := by
  rw [val_and k hk xs _ (by simp) hx (fun y hy => by rw [List.eq_of_mem_replicate hy]; exact hm), zip_const]
theorem val_add (f g : Nat → Nat) : ∀ xs : List Nat, val (xs.map f) + val (xs.map g) = val (xs.map fun x => f x + g x)
  | [] => rfl
  | x :: xs => by
    have := val_add f g xs
    simp only [List.map_cons, val]
    omega
theorem val_lt : ∀ xs : List Nat, Small xs → val xs < 256 ^ xs.length
  | [], _ => by simp [val]
  | x :: xs, h => by
    have h1 := val_lt xs (fun y hy => h y (by simp [hy]))
    have h2 := h x (by simp)
    rw [List.length_cons, Nat.pow_succ, val]
    omega
def c1 (b : Nat) : Nat := (b / 2 &&& 85) + (b &&& 85)
def c2 (b : Nat) : Nat := (b / 4 &&& 51) + (b &&& 51)
theorem c12 : ∀ b, b < 256 → c1 b < 256 ∧ c2 (c1 b) < 256 ∧ c2 (c1 b) % 16 ≤ 4 ∧ c2 (c1 b) / 16 ≤ 4 ∧ c2 (c1 b) / 16 + c2 (c1 b) % 16 = cnt b.testBit 8 := by decide +kernel
theorem and15 : ∀ b, b < 256 → b &&& 15 = b % 16 := by decide +kernel
def by8 (x : Nat) : List Nat := [x % 256, x / 256 % 256, x / 65536 % 256, x / 16777216 % 256, x / 4294967296 % 256, x / 1099511627776 % 256, x / 281474976710656 % 256, x / 72057594037927936 % 256]
theorem by8_val (x : Nat) (h : x < 18446744073709551616) : val (by8 x) = x := by
  simp only [by8, val]; omega
theorem by8_small (x : Nat) : Small (by8 x) := by
  intro y hy
  simp only [by8, List.mem_cons, List.not_mem_nil, or_false] at hy
  omega
theorem masks : val (List.replicate 8 85) = 6148914691236517205 ∧ val (List.replicate 8 51) = 3689348814741910323 ∧ val (List.replicate 8 15) = 1085102592571150095 := by decide +kernel
theorem cnt_byte (x : Nat) (i : Nat) : cnt (x / 2 ^ (8 * i) % 256).testBit 8 = cnt (fun j => x.testBit (8 * i + j)) 8 := by
  refine cnt_congr 8 fun j hj => ?_
  rw [show (256 : Nat) = 2 ^ 8 from rfl, Nat.testBit_mod_two_pow, Nat.testBit_div_two_pow]
  simp [hj, Nat.add_comm]
theorem cnt_bytes (x : Nat) : cnt x.testBit 64 = cnt (x % 256).testBit 8 + cnt (x / 256 % 256).testBit 8 + cnt (x / 65536 % 256).testBit 8 + cnt (x / 16777216 % 256).testBit 8 + cnt (x / 4294967296 % 256).testBit 8 + cnt (x / 1099511627776 % 256).testBit 8 + cnt (x / 281474976710656 % 256).testBit 8 + cnt (x / 72057594037927936 % 256).testBit 8 := by
  have h0 := cnt_byte x 0
  have h1 := cnt_byte x 1
  have h2 := cnt_byte x 2
  have h3 := cnt_byte x 3
  have h4 := cnt_byte x 4
  have h5 := cnt_byte x 5
  have h6 := cnt_byte x 6
  have h7 := cnt_byte x 7
  simp only [Nat.reduceMul, Nat.reducePow, Nat.div_one, Nat.zero_add] at h0 h1 h2 h3 h4 h5 h6 h7
  have h0' : cnt (fun j => x.testBit j) 8 = cnt x.testBit 8 := rfl
  rw [h0'] at h0
  have a1 := cnt_add x.testBit 8 56
  have a2 := cnt_add (fun j => x.testBit (8 + j)) 8 48
  have a3 := cnt_add (fun j => x.testBit (16 + j)) 8 40
  have a4 := cnt_add (fun j => x.testBit (24 + j)) 8 32
  have a5 := cnt_add (fun j => x.testBit (32 + j)) 8 24
  have a6 := cnt_add (fun j => x.testBit (40 + j)) 8 16
  have a7 := cnt_add (fun j => x.testBit (48 + j)) 8 8
  simp only [← Nat.add_assoc, Nat.reduceAdd] at a1 a2 a3 a4 a5 a6 a7
  rw [h0, h1, h2, h3, h4, h5, h6, h7]
  omega
theorem t16 (z V : Nat) : (z + 256 * V) / 16 + (z + 256 * V) = (z + z / 16 + 16 * (V % 16)) + 256 * (V / 16 + V) := by omega
theorem m16 (z V : Nat) : (z + 256 * V) % 16 = z % 16 := by omega
theorem val16 (z y : Nat) (l : List Nat) : val (z :: y :: l) / 16 + val (z :: y :: l) = (z + z / 16 + 16 * (y % 16)) + 256 * (val (y :: l) / 16 + val (y :: l)) := by
  rw [show val (z :: y :: l) = z + 256 * val (y :: l) from rfl, t16, show val (y :: l) = y + 256 * val l from rfl, m16]
theorem stages_end (s0 s1 s2 s3 s4 s5 s6 s7 : Nat) (q0 : s0 ≤ 4 + 4) (q1 : s1 ≤ 4 + 4) (q2 : s2 ≤ 4 + 4) (q3 : s3 ≤ 4 + 4) (q4 : s4 ≤ 4 + 4) (q5 : s5 ≤ 4 + 4) (q6 : s6 ≤ 4 + 4) (q7 : s7 ≤ 4 + 4) :
    (s0 + 256 * (s1 + 256 * (s2 + 256 * (s3 + 256 * (s4 + 256 * (s5 + 256 * (s6 + 256 * (s7 + 256 * 0))))))) + (s0 + 256 * (s1 + 256 * (s2 + 256 * (s3 + 256 * (s4 + 256 * (s5 + 256 * (s6 + 256 * (s7 + 256 * 0)))))))) / 256 + (s0 + 256 * (s1 + 256 * (s2 + 256 * (s3 + 256 * (s4 + 256 * (s5 + 256 * (s6 + 256 * (s7 + 256 * 0))))))) + (s0 + 256 * (s1 + 256 * (s2 + 256 * (s3 + 256 * (s4 + 256 * (s5 + 256 * (s6 + 256 * (s7 + 256 * 0)))))))) / 256) / 65536 +
      (s0 + 256 * (s1 + 256 * (s2 + 256 * (s3 + 256 * (s4 + 256 * (s5 + 256 * (s6 + 256 * (s7 + 256 * 0))))))) + (s0 + 256 * (s1 + 256 * (s2 + 256 * (s3 + 256 * (s4 + 256 * (s5 + 256 * (s6 + 256 * (s7 + 256 * 0)))))))) / 256 + (s0 + 256 * (s1 + 256 * (s2 + 256 * (s3 + 256 * (s4 + 256 * (s5 + 256 * (s6 + 256 * (s7 + 256 * 0))))))) + (s0 + 256 * (s1 + 256 * (s2 + 256 * (s3 + 256 * (s4 + 256 * (s5 + 256 * (s6 + 256 * (s7 + 256 * 0)))))))) / 256) / 65536) / 4294967296) % 128 =
      s0 + s1 + s2 + s3 + s4 + s5 + s6 + s7 ∧ (s0 + 256 * (s1 + 256 * (s2 + 256 * (s3 + 256 * (s4 + 256 * (s5 + 256 * (s6 + 256 * (s7 + 256 * 0))))))) + (s0 + 256 * (s1 + 256 * (s2 + 256 * (s3 + 256 * (s4 + 256 * (s5 + 256 * (s6 + 256 * (s7 + 256 * 0)))))))) / 256 + (s0 + 256 * (s1 + 256 * (s2 + 256 * (s3 + 256 * (s4 + 256 * (s5 + 256 * (s6 + 256 * (s7 + 256 * 0))))))) + (s0 + 256 * (s1 + 256 * (s2 + 256 * (s3 + 256 * (s4 + 256 * (s5 + 256 * (s6 + 256 * (s7 + 256 * 0)))))))) / 256) / 65536 +
      (s0 + 256 * (s1 + 256 * (s2 + 256 * (s3 + 256 * (s4 + 256 * (s5 + 256 * (s6 + 256 * (s7 + 256 * 0))))))) + (s0 + 256 * (s1 + 256 * (s2 + 256 * (s3 + 256 * (s4 + 256 * (s5 + 256 * (s6 + 256 * (s7 + 256 * 0)))))))) / 256 + (s0 + 256 * (s1 + 256 * (s2 + 256 * (s3 + 256 * (s4 + 256 * (s5 + 256 * (s6 + 256 * (s7 + 256 * 0))))))) + (s0 + 256 * (s1 + 256 * (s2 + 256 * (s3 + 256 * (s4 + 256 * (s5 + 256 * (s6 + 256 * (s7 + 256 * 0)))))))) / 256) / 65536) / 4294967296) < 9223372036854775808 ∧
      s0 + 256 * (s1 + 256 * (s2 + 256 * (s3 + 256 * (s4 + 256 * (s5 + 256 * (s6 + 256 * (s7 + 256 * 0))))))) + (s0 + 256 * (s1 + 256 * (s2 + 256 * (s3 + 256 * (s4 + 256 * (s5 + 256 * (s6 + 256 * (s7 + 256 * 0)))))))) / 256 < 9223372036854775808 ∧
      (s0 + 256 * (s1 + 256 * (s2 + 256 * (s3 + 256 * (s4 + 256 * (s5 + 256 * (s6 + 256 * (s7 + 256 * 0))))))) + (s0 + 256 * (s1 + 256 * (s2 + 256 * (s3 + 256 * (s4 + 256 * (s5 + 256 * (s6 + 256 * (s7 + 256 * 0)))))))) / 256 + (s0 + 256 * (s1 + 256 * (s2 + 256 * (s3 + 256 * (s4 + 256 * (s5 + 256 * (s6 + 256 * (s7 + 256 * 0))))))) + (s0 + 256 * (s1 + 256 * (s2 + 256 * (s3 + 256 * (s4 + 256 * (s5 + 256 * (s6 + 256 * (s7 + 256 * 0)))))))) / 256) / 65536) < 9223372036854775808 ∧
      s0 + 256 * (s1 + 256 * (s2 + 256 * (s3 + 256 * (s4 + 256 * (s5 + 256 * (s6 + 256 * (s7 + 256 * 0))))))) < 9223372036854775808 := by
  rw [Nat.mul_zero, Nat.add_zero]
  obtain ⟨V6, h6⟩ : ∃ V, V = s6 + 256 * s7 := ⟨_, rfl⟩
  rw [← h6]
  obtain ⟨V5, h5⟩ : ∃ V, V = s5 + 256 * V6 := ⟨_, rfl⟩
  rw [← h5]
  obtain ⟨V4, h4⟩ : ∃ V, V = s4 + 256 * V5 := ⟨_, rfl⟩
  rw [← h4]
  obtain ⟨V3, h3⟩ : ∃ V, V = s3 + 256 * V4 := ⟨_, rfl⟩
  rw [← h3]
  obtain ⟨V2, h2⟩ : ∃ V, V = s2 + 256 * V3 := ⟨_, rfl⟩
  rw [← h2]
  obtain ⟨V1, h1⟩ : ∃ V, V = s1 + 256 * V2 := ⟨_, rfl⟩
  rw [← h1]
  obtain ⟨V0, h0⟩ : ∃ V, V = s0 + 256 * V1 := ⟨_, rfl⟩
  rw [← h0]
  have k1 : V0 / 256 = V1 := by omega
  rw [k1]
  have k2 : (V0 + V1) / 65536 = V2 + V3 := by omega
  rw [k2]
  have k3 : (V0 + V1 + (V2 + V3)) / 4294967296 = V4 + V5 + V6 + s7 := by omega
  rw [k3]
  refine ⟨?_, ?_, ?_, ?_, ?_⟩
  · omega
  · omega
  · omega
  · omega
  · omega
/-- What Go reckons, stage by stage. -/
theorem ones_stages (x : Nat) (hx : x < 18446744073709551616) :
    ∃ y1 y2 y7 y3 y4 y5 y6 : Nat, (x / 2 &&& 6148914691236517205) + (x &&& 6148914691236517205) = y1 ∧ (y1 / 4 &&& 3689348814741910323) + (y1 &&& 3689348814741910323) = y2 ∧ y2 / 16 + y2 = y7 ∧ y7 &&& 1085102592571150095 = y3 ∧
      y3 + y3 / 256 = y4 ∧ y4 + y4 / 65536 = y5 ∧ y5 + y5 / 4294967296 = y6 ∧ y6 % 128 = cnt x.testBit 64 ∧ y1 < 18446744073709551616 ∧ y2 < 18446744073709551616 ∧ y7 < 18446744073709551616 ∧ y6 < 9223372036854775808 ∧ y4 < 9223372036854775808 ∧ y5 < 9223372036854775808 ∧ y3 < 9223372036854775808 := by
  obtain ⟨m5, m3, mf⟩ := masks
  have hs := by8_small x
  have hv := by8_val x hx
  have hl : (by8 x).length = 8 := rfl
  have s1 : (x / 2 &&& 6148914691236517205) + (x &&& 6148914691236517205) = val ((by8 x).map c1) := by
    have e1 := val_mask 1 85 (by decide) (by decide) (by8 x) hs
    have e2 := val_mask 0 85 (by decide) (by decide) (by8 x) hs
    rw [hl, m5, hv] at e1 e2
    simp only [Nat.pow_one, Nat.pow_zero, Nat.div_one] at e1 e2
    rw [e1, e2, val_add]
    rfl
  have hs1 : Small ((by8 x).map c1) := fun y hy => by
    obtain ⟨z, hz, rfl⟩ := List.mem_map.1 hy
    exact (c12 z (hs z hz)).1
  have s2 : (val ((by8 x).map c1) / 4 &&& 3689348814741910323) + (val ((by8 x).map c1) &&& 3689348814741910323) = val ((by8 x).map fun b => c2 (c1 b)) := by
    have e1 := val_mask 2 51 (by decide) (by decide) ((by8 x).map c1) hs1
    have e2 := val_mask 0 51 (by decide) (by decide) ((by8 x).map c1) hs1
    rw [List.length_map, hl, m3] at e1 e2
    simp only [Nat.pow_zero, Nat.div_one, show (2 : Nat) ^ 2 = 4 from rfl] at e1 e2
    rw [e1, e2, val_add, List.map_map]
    rfl
  have hs2 : Small ((by8 x).map fun b => c2 (c1 b)) := fun y hy => by
    obtain ⟨z, hz, rfl⟩ := List.mem_map.1 hy
    exact (c12 z (hs z hz)).2.1
  have l1 := val_lt _ hs1
  have l2 := val_lt _ hs2
  rw [List.length_map, hl] at l1 l2
  have e64 : (256 : Nat) ^ 8 = 18446744073709551616 := by decide
  rw [e64] at l1 l2
  rw [s1]
  refine ⟨_, _, _, _, _, _, _, rfl, rfl, rfl, rfl, rfl, rfl, rfl, ?_⟩
  rw [s2]
  rw [cnt_bytes x]
  have hb : ∀ b ∈ by8 x, b < 256 := hs
  unfold by8 at hb l1 l2 ⊢
  simp only [List.map_cons, List.map_nil] at l1 l2 ⊢
  have q := fun b hbm => c12 b (hb b hbm)
  have q0 := q _ (List.mem_cons_self ..)
  have q1 := q (x / 256 % 256) (by simp)
  have q2 := q (x / 65536 % 256) (by simp)
  have q3 := q (x / 16777216 % 256) (by simp)
  have q4 := q (x / 4294967296 % 256) (by simp)
  have q5 := q (x / 1099511627776 % 256) (by simp)
  have q6 := q (x / 281474976710656 % 256) (by simp)
  have q7 := q (x / 72057594037927936 % 256) (by simp)
  rw [← q0.2.2.2.2, ← q1.2.2.2.2, ← q2.2.2.2.2, ← q3.2.2.2.2, ← q4.2.2.2.2, ← q5.2.2.2.2, ← q6.2.2.2.2, ← q7.2.2.2.2]
  clear q hb hs hv hl s1 s2 hs1 hs2 m5 m3
  generalize c2 (c1 (x % 256)) = z0 at *
  generalize c2 (c1 (x / 256 % 256)) = z1 at *
  generalize c2 (c1 (x / 65536 % 256)) = z2 at *
  generalize c2 (c1 (x / 16777216 % 256)) = z3 at *
  generalize c2 (c1 (x / 4294967296 % 256)) = z4 at *
  generalize c2 (c1 (x / 1099511627776 % 256)) = z5 at *
  generalize c2 (c1 (x / 281474976710656 % 256)) = z6 at *
  generalize c2 (c1 (x / 72057594037927936 % 256)) = z7 at *
  obtain ⟨_, a0, b0, d0, _⟩ := q0
  obtain ⟨_, a1, b1, d1, _⟩ := q1
  obtain ⟨_, a2, b2, d2, _⟩ := q2
  obtain ⟨_, a3, b3, d3, _⟩ := q3
  obtain ⟨_, a4, b4, d4, _⟩ := q4
  obtain ⟨_, a5, b5, d5, _⟩ := q5
  obtain ⟨_, a6, b6, d6, _⟩ := q6
  obtain ⟨_, a7, b7, d7, _⟩ := q7
  have s7 : val [z0, z1, z2, z3, z4, z5, z6, z7] / 16 + val [z0, z1, z2, z3, z4, z5, z6, z7] = val [z0 + z0 / 16 + 16 * (z1 % 16), z1 + z1 / 16 + 16 * (z2 % 16), z2 + z2 / 16 + 16 * (z3 % 16), z3 + z3 / 16 + 16 * (z4 % 16), z4 + z4 / 16 + 16 * (z5 % 16), z5 + z5 / 16 + 16 * (z6 % 16), z6 + z6 / 16 + 16 * (z7 % 16), z7 + z7 / 16] := by
    rw [val16, val16, val16, val16, val16, val16, val16]
    simp only [val, Nat.mul_zero, Nat.add_zero]
    rw [Nat.add_comm (z7 / 16) z7]
  have hu : Small [z0 + z0 / 16 + 16 * (z1 % 16), z1 + z1 / 16 + 16 * (z2 % 16), z2 + z2 / 16 + 16 * (z3 % 16), z3 + z3 / 16 + 16 * (z4 % 16), z4 + z4 / 16 + 16 * (z5 % 16), z5 + z5 / 16 + 16 * (z6 % 16), z6 + z6 / 16 + 16 * (z7 % 16), z7 + z7 / 16] := by
    intro y hy
    simp only [List.mem_cons, List.not_mem_nil, or_false] at hy
    omega
  have l7 := val_lt _ hu
  simp only [List.length_cons, List.length_nil, Nat.zero_add, Nat.reduceAdd, e64] at l7
  have e3 := val_mask 0 15 (by decide) (by decide) _ hu
  simp only [List.length_cons, List.length_nil, Nat.zero_add, Nat.reduceAdd, mf, Nat.pow_zero, Nat.div_one, List.map_cons, List.map_nil] at e3
  rw [and15 _ (by omega), and15 _ (by omega), and15 _ (by omega), and15 _ (by omega), and15 _ (by omega), and15 _ (by omega), and15 _ (by omega), and15 _ (by omega)] at e3
  rw [s7, e3]
  clear e3 hu e64 mf s7
  simp only [val] at l1 l2 l7 ⊢
  have f0 : (z0 + z0 / 16 + 16 * (z1 % 16)) % 16 = z0 / 16 + z0 % 16 := by omega
  have f1 : (z1 + z1 / 16 + 16 * (z2 % 16)) % 16 = z1 / 16 + z1 % 16 := by omega
  have f2 : (z2 + z2 / 16 + 16 * (z3 % 16)) % 16 = z2 / 16 + z2 % 16 := by omega
  have f3 : (z3 + z3 / 16 + 16 * (z4 % 16)) % 16 = z3 / 16 + z3 % 16 := by omega
  have f4 : (z4 + z4 / 16 + 16 * (z5 % 16)) % 16 = z4 / 16 + z4 % 16 := by omega
  have f5 : (z5 + z5 / 16 + 16 * (z6 % 16)) % 16 = z5 / 16 + z5 % 16 := by omega
  have f6 : (z6 + z6 / 16 + 16 * (z7 % 16)) % 16 = z6 / 16 + z6 % 16 := by omega
  have f7 : (z7 + z7 / 16) % 16 = z7 / 16 + z7 % 16 := by omega
  rw [f0, f1, f2, f3, f4, f5, f6, f7]
  obtain ⟨g1, g2, g3, g4, g5⟩ := stages_end (z0 / 16 + z0 % 16) (z1 / 16 + z1 % 16) (z2 / 16 + z2 % 16) (z3 / 16 + z3 % 16) (z4 / 16 + z4 % 16) (z5 / 16 + z5 % 16) (z6 / 16 + z6 % 16) (z7 / 16 + z7 % 16) (Nat.add_le_add d0 b0) (Nat.add_le_add d1 b1) (Nat.add_le_add d2 b2) (Nat.add_le_add d3 b3) (Nat.add_le_add d4 b4) (Nat.add_le_add d5 b5) (Nat.add_le_add d6 b6) (Nat.add_le_add d7 b7)
  exact ⟨g1, l1, l2, l7, g2, g3, g4, g5⟩
end Go.Proofs.Ytloflnachpjlgaa.Bit
