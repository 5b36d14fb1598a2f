/- Small words on memory for walks: what a contract that leaves old memory alone gives; slices of numbers and of pairs; results. Nothing of the program stands here. -/
import Derived.WalkKit
import Derived.Below
import Derived.Lib.Hide
import Derived.Deep.QuietTactic
import Derived.Deep.Draws
import Derived.Laws.Rows
import Derived.BigQuiet
import Derived.Laws.OwnMore
import Derived.Laws.AppendOwn
import Derived.OwnWalk
import Derived.Maps.AppendAt
namespace Go.Proofs.Ytloflnachpjlgaa.Aid
open Go.RowKit
theorem ret_bool {a b : Bool} (h : a = b) : Ending.returned (.bool a) = .returned (.bool b) := by rw [h]
theorem ret_int {k : IntKind} {a b : Int} (h : a = b) : Ending.returned (.int k a) = .returned (.int k b) := by rw [h]
theorem ret_pair {k : IntKind} {a b : Int} {c d : Bool} (h : a = b) (h' : c = d) : Ending.returned (.tuple #[.int k a, .bool c]) = .returned (.tuple #[.int k b, .bool d]) := by rw [h, h']
/-- What old memory reads as behind a call that left it alone. -/
theorem bcell {W w1 : World} (hb : Below W.heap.size W w1) : (∀ b o, b < W.heap.size → w1.cell? ⟨b, o, none⟩ = W.cell? ⟨b, o, none⟩) ∧ (∀ b o, b < W.heap.size → w1.frozen? ⟨b, o, none⟩ = W.frozen? ⟨b, o, none⟩) :=
  ⟨fun b o h => hb.cell (p := ⟨b, o, none⟩) h, fun b o h => hb.frozen (p := ⟨b, o, none⟩) h⟩
/-- A box of two cells behind such a call. -/
theorem box2 {w w1 : World} {a b : Value} {T : TypeId} (hb : Below (w.alloc (.cells #[a, b] T)).heap.size (w.alloc (.cells #[a, b] T)) w1) :
    w1.cell? ⟨w.heap.size, 0, none⟩ = some a ∧ w1.cell? ⟨w.heap.size, 1, none⟩ = some b := by
  obtain ⟨hc, _⟩ := bcell hb
  refine ⟨(hc _ 0 (by simp)).trans ?_, (hc _ 1 (by simp)).trans ?_⟩ <;> go_simp
theorem below_box {w w1 : World} {o : Obj} (hb : Below (w.alloc o).heap.size (w.alloc o) w1) : Below w.heap.size w w1 :=
  ((Below.refl _ _).alloc (Nat.le_refl _) o).trans (hb.mono (by simp))
theorem below_drewN {B : Nat} {a w : World} (h : Below B a w) (n : Nat) : Below B a (w.drewN n) := ⟨h.os, h.tape, h.output, h.size, h.block⟩
theorem below_alloc {B : Nat} {a w : World} (h : Below B a w) (hB : B ≤ w.heap.size) (o : Obj) : Below B a (w.alloc o) := h.alloc hB o
theorem quiet_left {P : Program} {f : FuncId} {args : Array Value} {w : World} {n : Nat} {v : Value}
    (h : Calls P f args (w.drewN n) fun e w' => e = .returned v ∧ w.drewN n = w') : Calls P f args (w.drewN n) fun e w'' => e = .returned v ∧ ∃ m, w'' = w.drewN m :=
  h.mono fun _ _ ⟨he, hm⟩ => ⟨he, n, hm.symm⟩
theorem quiet_add_left {P : Program} {f : FuncId} {args : Array Value} {w : World} {a n : Nat} {v : Value}
    (h : Calls P f args (w.drewN (a + n)) fun e w' => e = .returned v ∧ w.drewN (a + n) = w') :
    Calls P f args (w.drewN (a + n)) fun e w'' => e = .returned v ∧ ∃ m, w'' = w.drewN (a + m) :=
  h.mono fun _ _ ⟨he, hm⟩ => ⟨he, n, hm.symm⟩
/-- A box of two numbers. -/
def Bx (w : World) (b : Nat) (s n : Int) : Prop := w.cell? ⟨b, 0, none⟩ = some (.int .i64 s) ∧ w.cell? ⟨b, 1, none⟩ = some (.int .i64 n) ∧ b < w.heap.size
theorem Bx.new (w : World) (s n : Int) (T : TypeId) : Bx (w.alloc (.cells #[.int .i64 s, .int .i64 n] T)) w.heap.size s n := by
  refine ⟨?_, ?_, by simp⟩ <;> go_simp
theorem Bx.below {w w' : World} {b : Nat} {s n : Int} (h : Bx w b s n) (hb : Below w.heap.size w w') : Bx w' b s n :=
  ⟨(hb.cell (p := ⟨b, 0, none⟩) h.2.2).trans h.1, (hb.cell (p := ⟨b, 1, none⟩) h.2.2).trans h.2.1, Nat.lt_of_lt_of_le h.2.2 hb.size⟩
theorem Bx.alloc {w : World} {b : Nat} {s n : Int} (h : Bx w b s n) (o : Obj) : Bx (w.alloc o) b s n := h.below ((Below.refl _ _).alloc (Nat.le_refl _) o)
theorem below_then {w w1 w2 : World} (h : Below w.heap.size w w1) (k : Below w1.heap.size w1 w2) : Below w.heap.size w w2 := h.trans (k.mono h.size)
theorem below_box_then {w w1 w2 : World} {o : Obj} (h : Below w.heap.size w w1) (k : Below (w1.alloc o).heap.size (w1.alloc o) w2) : Below w.heap.size w w2 := below_then h (below_box k)
/-- A slice of numbers reads as a list. -/
def Ints (w : World) (q : IntKind) (A : Option Addr) (xs : List Int) : Prop :=
  ∀ k, k < xs.length → ∃ b o, A = some ⟨b, o, none⟩ ∧ b < w.heap.size ∧ w.cell? ⟨b, o + k, none⟩ = some (.int q (xs.getD k 0))
theorem Ints.below {w w' : World} {q : IntKind} {A : Option Addr} {xs : List Int} (h : Ints w q A xs) (hb : Below w.heap.size w w') : Ints w' q A xs := fun k hk => by
  obtain ⟨b, o, e, hlt, h1⟩ := h k hk
  exact ⟨b, o, e, Nat.lt_of_lt_of_le hlt hb.size, (hb.cell (p := ⟨b, _, none⟩) hlt).trans h1⟩
/-- A slice of pairs of numbers reads as a list. -/
def Pairs (w : World) (A : Option Addr) (xs : List (Int × Int)) : Prop :=
  ∀ k, k < xs.length → ∃ b o, A = some ⟨b, o, none⟩ ∧ b < w.heap.size ∧ w.cell? ⟨b, o + k * 2, none⟩ = some (.int .i64 (xs.getD k (0, 0)).1) ∧ w.cell? ⟨b, o + k * 2 + 1, none⟩ = some (.int .i64 (xs.getD k (0, 0)).2)
theorem Pairs.below {w w' : World} {A : Option Addr} {xs : List (Int × Int)} (h : Pairs w A xs) (hb : Below w.heap.size w w') : Pairs w' A xs := fun k hk => by
  obtain ⟨b, o, e, hlt, h1, h2⟩ := h k hk
  exact ⟨b, o, e, Nat.lt_of_lt_of_le hlt hb.size, (hb.cell (p := ⟨b, _, none⟩) hlt).trans h1, (hb.cell (p := ⟨b, _, none⟩) hlt).trans h2⟩
theorem drop_int {xs : List Int} {k : Nat} (h : k < xs.length) : xs.drop k = xs.getD k 0 :: xs.drop (k + 1) := by
  rw [List.drop_eq_getElem_cons h]
  congr 1
  rw [List.getD_eq_getElem?_getD, List.getElem?_eq_getElem h]; rfl
theorem drop_pair {xs : List (Int × Int)} {k : Nat} (h : k < xs.length) : xs.drop k = ((xs.getD k (0, 0)).1, (xs.getD k (0, 0)).2) :: xs.drop (k + 1) := by
  rw [List.drop_eq_getElem_cons h]
  congr 1
  rw [List.getD_eq_getElem?_getD, List.getElem?_eq_getElem h]; rfl
theorem take_pair {xs : List (Int × Int)} {k : Nat} (h : k < xs.length) : xs.take (k + 1) = xs.take k ++ [((xs.getD k (0, 0)).1, (xs.getD k (0, 0)).2)] := by
  rw [List.take_succ_eq_append_getElem h]
  congr 2
  rw [List.getD_eq_getElem?_getD, List.getElem?_eq_getElem h]; rfl
/-- A slice of the call's own, of numbers. -/
def Own (w : World) (base : Nat) (e : TypeId) (q : IntKind) (v : Value) (xs : List Int) : Prop := w.ownsRow base e 1 v xs.length (xs.map (Value.int q))
theorem Own.shape {w : World} {base : Nat} {e : TypeId} {q : IntKind} {v : Value} {xs : List Int} (h : Own w base e q v xs) : ∃ A c, v = .slice A xs.length c ∧ Ints w q A xs := by
  have h' := h
  obtain ⟨_, h2⟩ := h'
  rcases h2 with ⟨rfl, h0⟩ | ⟨g, cap, cur, rfl, _, hh, hn, _, hs, ht⟩
  · exact ⟨none, 0, by rw [h0], fun k hk => by omega⟩
  · refine ⟨_, _, rfl, fun k hk => ⟨g, 0, rfl, ?_, ?_⟩⟩
    · rcases Nat.lt_or_ge g w.heap.size with hlt | hge
      · exact hlt
      · rw [Array.getElem?_eq_none hge] at hh; cases hh
    · have := World.ownsRow.cellAt h k (by omega)
      rw [Nat.zero_add, this]
      simp [hk]
theorem Own.src {w : World} {base : Nat} {e : TypeId} {q : IntKind} {v : Value} {xs : List Int} (h : Own w base e q v xs) : ∃ A c, v = .slice A xs.length c ∧ Ints w q A xs ∧ (A = none → c = 0) := by
  obtain ⟨A, c, rfl, hi⟩ := h.shape
  refine ⟨A, c, rfl, hi, ?_⟩
  rintro rfl
  obtain ⟨_, h2⟩ := h
  rcases h2 with ⟨h2, _⟩ | ⟨g, cap, cur, h2, _⟩
  · injection h2
  · injection h2 with h3
    cases h3
theorem Own.below {w w' : World} {base : Nat} {e : TypeId} {q : IntKind} {v : Value} {xs : List Int} (h : Own w base e q v xs) (hb : Below w.heap.size w w') : Own w' base e q v xs := by
  obtain ⟨h1, h2⟩ := h
  refine ⟨h1, ?_⟩
  rcases h2 with h2 | ⟨g, cap, cur, hv, hg, hh, r⟩
  · exact .inl h2
  · refine .inr ⟨g, cap, cur, hv, hg, ?_, r⟩
    rw [hb.block g ?_]
    · exact hh
    · rcases Nat.lt_or_ge g w.heap.size with hlt | hge
      · exact hlt
      · rw [Array.getElem?_eq_none hge] at hh; cases hh
theorem Own.alloc {w : World} {base : Nat} {e : TypeId} {q : IntKind} {v : Value} {xs : List Int} (h : Own w base e q v xs) (o : Obj) : Own (w.alloc o) base e q v xs := World.ownsRow.alloc h o
theorem Own.nil (w : World) (base : Nat) (e : TypeId) (q : IntKind) : Own w base e q (.slice none 0 0) [] := World.ownsRow_nil _ _ _ _
theorem Own.snoc {w : World} {base : Nat} {e : TypeId} {q : IntKind} {v : Value} {xs : List Int} {x : Int} (h : w.ownsRow base e 1 v (xs.length + 1) (xs.map (Value.int q) ++ [.int q x])) : Own w base e q v (xs ++ [x]) := by
  unfold Own; simpa using h
/-- Where an owned slice lies. -/
theorem Own.base_le {w : World} {base : Nat} {e : TypeId} {q : IntKind} {v : Value} {xs : List Int} (h : Own w base e q v xs) : ∀ k, v.ownBlock = some k → base ≤ k ∧ k < w.heap.size := World.ownsRow.lt h
/-- append of one number to a slice of the call's own. -/
theorem append_int {P : Program} {W : World} {ops : Array Oper} {rest : List Oper} {o : Oper} {a : Act} {Q : Exit → Act → World → Prop} (hgd : o.guard = none) (s x : Operand) (t : TypeId)
    (ho : o.op = .call { callee := .builtin .append, args := #[s, x], argTypes := #[t, t] }) (base : Nat) (e : TypeId) (q : IntKind) (bytes : Nat) (ht : P.underlying t = some (.slice e))
    (hinfo : (P.info? e).map (fun i => (i.zero, i.size, i.bytes)) = some (some (.int q 0), 1, bytes)) (v : Value) (xs : List Int) (hs : a.eval s = v) (hown : Own W base e q v xs) (y : Int)
    (hx : a.eval x = .slice (some ⟨W.heap.size, 0, none⟩) 1 1) (h63 : xs.length + 1 ≤ 140737488355328) (hl : (xs.length + 1) * bytes ≤ 140737488355328) (hbase : base ≤ W.heap.size)
    (h : ∀ v' w', Own w' base e q v' (xs ++ [y]) → Below base W w' → W.grownBy w' v.ownBlock → wpList P ops Q rest (a.put o.dst v') w') :
    wpList P ops Q (o :: rest) a (W.alloc (.cells #[.int q y] e)) := by
  obtain ⟨i0, hi, hz0, hz1, hz2⟩ := info_parts hinfo
  refine wpList_append_own (W.alloc (.cells #[.int q y] e)) hgd s x t ho base e i0 (.int q 0) 1 bytes ht hi hz0 hz1 hz2 rfl (by decide) v xs.length _ hs (hown.alloc _) ⟨W.heap.size, 0, none⟩ 1 1 [.int q y] hx rfl ?_ ?_ ?_ hl ?_ ?_
  · intro j u hj
    match j, hj with
    | 0, hj => simp at hj; subst hj; simp [Addr.add]
  · intro u hu; simp at hu; subst hu; rfl
  · unfold maxLen; omega
  · simp; omega
  · intro v' w' h1 h2 _
    have hg := (World.grownBy_alloc W (.cells #[.int q y] e) v.ownBlock).trans h2
    exact h v' w' (Own.snoc h1) ((Below.refl base W).grown hg hbase (fun k hk => (hown.base_le k hk).1)) hg
end Go.Proofs.Ytloflnachpjlgaa.Aid
