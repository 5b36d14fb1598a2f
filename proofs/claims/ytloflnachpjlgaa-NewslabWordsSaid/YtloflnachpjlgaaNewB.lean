/- Slabs of the new layout in memory; Slot, Address, next. -/
import Derived.Test.YtloflnachpjlgaaNewA
import Derived.Test.YtloflnachpjlgaaCellC
import Derived.Test.YtloflnachpjlgaaCellR
import Derived.Test.YtloflnachpjlgaaBitR
set_option linter.unusedSimpArgs false
namespace Go.Proofs.Ytloflnachpjlgaa.New
open Go.RowKit Go.Proofs.Ytloflnachpjlgaa.Aid Go.Proofs.Ytloflnachpjlgaa.Cell
abbrev ST : TypeId := 100
abbrev IT : TypeId := 3
structure Sn where
  b : Nat
  c : Nat
  z : Nat
  n : Nat
  head : Int
  cnt : Nat
structure OkN (x : Sn) (bs : List Int) : Prop where
  hi : x.b + 1024 ≤ bs.length
  sm : bs.length ≤ 1048576
  byt : Byt bs
  cl : x.c < 12
  z1 : 8 ≤ x.z
  z2 : x.z ≤ 512
  nz : x.n = 1024 / x.z
  h1 : -1 ≤ x.head
  h2 : x.head < x.n
  ct : x.cnt ≤ x.n
theorem OkN.many {x : Sn} {bs : List Int} (h : OkN x bs) : x.n ≤ 128 ∧ 2 ≤ x.n ∧ x.n * x.z ≤ 1024 := by
  rw [h.nz]
  have h1 := h.z1
  have h2 := h.z2
  refine ⟨?_, ?_, Nat.div_mul_le_self _ _⟩
  · exact Nat.le_trans (Nat.div_le_div_left h1 (by decide)) (by decide)
  · rw [Nat.le_div_iff_mul_le (by omega)]
    omega
theorem OkN.at_ {x : Sn} {bs : List Int} (h : OkN x bs) {k : Nat} (hk : k < x.n) : k * x.z + x.z ≤ 1024 := by
  have h1 := h.many.2.2
  have h2 : (k + 1) * x.z ≤ x.n * x.z := Nat.mul_le_mul_right _ hk
  rw [Nat.succ_mul] at h2
  omega
/-- The word at a place. -/
def ldV (bs : List Int) (a : Nat) : Nat := (orTo bs a 8).toNat
theorem ld_lt {bs : List Int} (hb : Byt bs) {a : Nat} (ha : a + 8 ≤ bs.length) : orTo bs a 8 = (ldV bs a : Int) ∧ ldV bs a < 18446744073709551616 := by
  have h1 := or_num bs a 8 (by omega) ha hb
  have hb2 : Byt (sub bs a 8) := fun k hk => by
    unfold sub at hk ⊢
    simp only [List.length_take, List.length_drop] at hk
    have := hb (a + k) (by omega)
    simpa [List.getD_eq_getElem?_getD, List.getElem?_take, show k < 8 by omega] using this
  have h2 := num_bounds _ hb2
  have h3 := num_small _ hb2 (by unfold sub; simp; omega)
  unfold ldV
  rw [h1]
  omega
/-- The next slot, by a slot's word. -/
def nextO (x : Sn) (bs : List Int) (s : Nat) : Option Int :=
  if (wordOk (ldV bs (x.b + s * x.z)) && (slotOf (ldV bs (x.b + s * x.z)) == s && (classOf (ldV bs (x.b + s * x.z)) == x.c && decide (nextOf (ldV bs (x.b + s * x.z)) < x.n)))) = true then some (nextOf (ldV bs (x.b + s * x.z))) else none
structure SnP (w : World) (p mp mg mc : Nat) (x : Sn) (bs : List Int) : Prop where
  head : Blk w p #[.pointer (some ⟨mp, 0, none⟩), .int .i64 x.b, .int .i64 x.c, .int .i64 x.z, .int .i64 x.n, .int .i64 x.head, .int .i64 x.cnt] ST
  mem : CellAt w mp mg mc bs
  n1 : p ≠ mp
  n2 : p ≠ mg
  ok : OkN x bs
theorem SnP.kept {w w' : World} {p mp mg mc : Nat} {x : Sn} {bs : List Int} {G : List Nat} (h : SnP w p mp mg mc x bs) (k : Kept G w w') (h1 : p ∉ G) (h2 : mp ∉ G) (h3 : mg ∉ G) : SnP w' p mp mg mc x bs :=
  ⟨h.head.kept k h1, h.mem.kept k h2 h3, h.n1, h.n2, h.ok⟩
theorem SnP.below {w w' : World} {p mp mg mc : Nat} {x : Sn} {bs : List Int} (h : SnP w p mp mg mc x bs) (k : Below w.heap.size w w') : SnP w' p mp mg mc x bs :=
  ⟨h.head.below k, h.mem.below k, h.n1, h.n2, h.ok⟩
theorem SnP.cells {w : World} {p mp mg mc : Nat} {x : Sn} {bs : List Int} (h : SnP w p mp mg mc x bs) : w.cell? ⟨p, 0, none⟩ = some (.pointer (some ⟨mp, 0, none⟩)) ∧ w.cell? ⟨p, 1, none⟩ = some (.int .i64 x.b) ∧ w.cell? ⟨p, 2, none⟩ = some (.int .i64 x.c) ∧ w.cell? ⟨p, 3, none⟩ = some (.int .i64 x.z) ∧ w.cell? ⟨p, 4, none⟩ = some (.int .i64 x.n) ∧ w.cell? ⟨p, 5, none⟩ = some (.int .i64 x.head) ∧ w.cell? ⟨p, 6, none⟩ = some (.int .i64 x.cnt) :=
  ⟨h.head.cell rfl, h.head.cell rfl, h.head.cell rfl, h.head.cell rfl, h.head.cell rfl, h.head.cell rfl, h.head.cell rfl⟩
/-- Where a slot begins. -/
def addrV (x : Sn) (k : Int) : Int := if 0 ≤ k ∧ k < x.n then (x.b : Int) + k * x.z else -1
section
variable (w : World) (p mp mg mc : Nat) (x : Sn) (bs : List Int) (h : SnP w p mp mg mc x bs)
include h
theorem addr_calls (k : Int) : Calls Try.prog 27 #[.pointer (some ⟨p, 0, none⟩), .int .i64 k] w fun e w' => e = .returned (.tuple #[.int .i64 (addrV x k), .bool (decide (0 ≤ k ∧ k < x.n))]) ∧ Below w.heap.size w w' := by
  have hok := h.ok
  obtain ⟨_, c1, _, c3, c4, _⟩ := h.cells
  clear h
  by_cases h0 : k < 0
  · rw [show addrV x k = -1 by unfold addrV; rw [if_neg (by omega)], show decide (0 ≤ k ∧ k < (x.n : Int)) = false by simp; omega]
    go_enter Try.func27, Try.ntmps27
    go_wp2_with fail
    go_ret2
    exact ⟨rfl, Below.refl _ _⟩
  · obtain ⟨j, rfl⟩ := Int.eq_ofNat_of_zero_le (show 0 ≤ k by omega)
    clear h0
    have hj0 : (0 : Int) ≤ (j : Int) := by omega
    by_cases h2 : x.n ≤ j
    · rw [show addrV x (j : Int) = -1 by unfold addrV; rw [if_neg (by omega)], show decide ((0 : Int) ≤ (j : Int) ∧ (j : Int) < (x.n : Int)) = false by simp; omega]
      clear hok
      go_enter Try.func27, Try.ntmps27
      go_wp2_with fail
      go_ret2
      exact ⟨rfl, Below.refl _ _⟩
    · have hj := hok.at_ (show j < x.n by omega)
      have hbz := hok.hi
      have hsm := hok.sm
      have hmv : ((j : Int) * (x.z : Int)) = ((j * x.z : Nat) : Int) := by simp
      rw [show addrV x (j : Int) = (x.b : Int) + ((j * x.z : Nat) : Int) by unfold addrV; rw [if_pos (by omega), hmv], show decide ((0 : Int) ≤ (j : Int) ∧ (j : Int) < (x.n : Int)) = true by simp; omega]
      have hmul : IntKind.i64.wrap ((j : Int) * (x.z : Int)) = ((j * x.z : Nat) : Int) := by
        rw [hmv]
        exact IntWalk.i64_in _ (by omega)
      clear hmv
      generalize j * x.z = m at *
      have hz := hok.z1
      clear hok
      generalize x.b = b at *
      generalize x.z = z at *
      generalize x.n = n at *
      have hadd : IntKind.i64.wrap ((b : Int) + (m : Int)) = (b : Int) + (m : Int) := IntWalk.i64_in _ (by omega)
      clear hj hbz hz hsm
      go_enter Try.func27, Try.ntmps27
      go_wp2_with fail
      go_quiet (fail)
      go_wp2_with fail
      go_ret2
      exact ⟨rfl, below_drewN (Below.refl _ _) _⟩
end
end Go.Proofs.Ytloflnachpjlgaa.New
