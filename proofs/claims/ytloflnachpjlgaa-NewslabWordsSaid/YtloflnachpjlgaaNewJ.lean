/- Slabs of the new layout in plain words: Some and GiveAll. -/
import Derived.Test.YtloflnachpjlgaaNewI
set_option linter.unusedSimpArgs false
namespace Go.Proofs.Ytloflnachpjlgaa.New
open Go.RowKit Go.Proofs.Ytloflnachpjlgaa.Aid Go.Proofs.Ytloflnachpjlgaa.Cell
def adr (x : Sn) (k : Nat) : Int := (x.b : Int) + ((k * x.z : Nat) : Int)
/-- The same slab, but for its list. -/
structure Like (x y : Sn) : Prop where
  b : y.b = x.b
  c : y.c = x.c
  z : y.z = x.z
  n : y.n = x.n
theorem Like.refl (x : Sn) : Like x x := ⟨rfl, rfl, rfl, rfl⟩
theorem Like.trans {x y z : Sn} (h : Like x y) (k : Like y z) : Like x z := ⟨k.b.trans h.b, k.c.trans h.c, k.z.trans h.z, k.n.trans h.n⟩
theorem Like.adr {x y : Sn} (h : Like x y) (k : Nat) : adr y k = adr x k := by unfold New.adr; rw [h.b, h.z]
theorem Like.slot {x y : Sn} (h : Like x y) (a : Int) : slotO y a = slotO x a := by unfold slotO; rw [h.b, h.z, h.n]
def popsX (x : Sn) (bs : List Int) : Nat → Sn
  | 0 => x
  | j + 1 => popX (popsX x bs j) bs
theorem pops_like (x : Sn) (bs : List Int) : ∀ j, Like x (popsX x bs j)
  | 0 => Like.refl x
  | j + 1 => (pops_like x bs j).trans ⟨rfl, rfl, rfl, rfl⟩
theorem pops_list {x : Sn} {bs : List Int} {L : List Nat} (h : OkN x bs) (hL : ListOf x bs L) : ∀ j, j ≤ L.length → OkN (popsX x bs j) bs ∧ ListOf (popsX x bs j) bs (L.drop j)
  | 0, _ => ⟨h, hL⟩
  | j + 1, hj => by
    obtain ⟨h1, h2⟩ := pops_list h hL j (by omega)
    have hd : L.drop j = L[j]'(by omega) :: L.drop (j + 1) := List.drop_eq_getElem_cons (by omega)
    rw [hd] at h2
    obtain ⟨_, _, _, h3, h4, _⟩ := pop_list h1 h2
    exact ⟨h4, h3⟩
theorem pops_cnt {x : Sn} {bs : List Int} {L : List Nat} (h : OkN x bs) (hL : ListOf x bs L) {j : Nat} (hj : j ≤ L.length) : (popsX x bs j).cnt = L.length - j := by
  rw [← (pops_list h hL j hj).2.len, List.length_drop]
/-- Slots are given back one after the other. -/
def pushes : Sn × List Int → List Nat → Sn × List Int
  | s, [] => s
  | s, k :: r => pushes (pushX s.1 k, layB s.1 s.2 k) r
theorem pushes_snoc : ∀ (l : List Nat) (s : Sn × List Int) (k : Nat), pushes s (l ++ [k]) = (pushX (pushes s l).1 k, layB (pushes s l).1 (pushes s l).2 k)
  | [], s, k => rfl
  | a :: l, s, k => by
    rw [List.cons_append, pushes, pushes_snoc l _ k]
    rfl
theorem pushes_take {l : List Nat} {j : Nat} (hj : j < l.length) (s : Sn × List Int) : pushes s (l.take (j + 1)) = (pushX (pushes s (l.take j)).1 (l.getD j 0), layB (pushes s (l.take j)).1 (pushes s (l.take j)).2 (l.getD j 0)) := by
  rw [List.take_succ_eq_append_getElem hj, pushes_snoc]
  simp [List.getD_eq_getElem?_getD, hj]
/-- Slots that may be given. -/
structure Fit (x : Sn) (L l : List Nat) : Prop where
  lt : ∀ k ∈ l, k < x.n
  nd : l.Nodup
  out : ∀ k ∈ l, k ∉ L
theorem Fit.head {x : Sn} {L l : List Nat} {k : Nat} (h : Fit x L (k :: l)) : k < x.n ∧ k ∉ L ∧ Fit x (k :: L) l := by
  have hn := List.nodup_cons.1 h.nd
  refine ⟨h.lt k (by simp), h.out k (by simp), fun m hm => h.lt m (by simp [hm]), hn.2, fun m hm hx => ?_⟩
  rcases List.mem_cons.1 hx with rfl | hx
  · exact hn.1 hm
  · exact h.out m (by simp [hm]) hx
structure Pushed (x : Sn) (bs : List Int) (M : List Nat) (s : Sn × List Int) : Prop where
  ok : OkN s.1 s.2
  ls : ListOf s.1 s.2 M
  like : Like x s.1
  len : s.2.length = bs.length
theorem pushes_ok : ∀ (l : List Nat) {x : Sn} {bs : List Int} {L : List Nat}, OkN x bs → ListOf x bs L → Fit x L l → Pushed x bs (l.reverse ++ L) (pushes (x, bs) l)
  | [], x, bs, L, h, hL, _ => ⟨h, hL, Like.refl x, rfl⟩
  | k :: l, x, bs, L, h, hL, hf => by
    obtain ⟨h1, h2, h3⟩ := hf.head
    have h4 := pushes_ok l (push_ok h h1 hL h2) (push_list h h1 hL h2) ⟨h3.lt, h3.nd, h3.out⟩
    rw [List.reverse_cons, List.append_assoc]
    exact ⟨h4.ok, h4.ls, (show Like x (pushX x k) from ⟨rfl, rfl, rfl, rfl⟩).trans h4.like, h4.len.trans (layB_len h h1)⟩
theorem Fit.take {x : Sn} {L l : List Nat} (h : Fit x L l) (j : Nat) : Fit x L (l.take j) :=
  ⟨fun k hk => h.lt k (List.mem_of_mem_take hk), h.nd.sublist (List.take_sublist _ _), fun k hk => h.out k (List.mem_of_mem_take hk)⟩
theorem Fit.next {x : Sn} {L l : List Nat} (h : Fit x L l) {j : Nat} (hj : j < l.length) : l.getD j 0 < x.n ∧ l.getD j 0 ∉ (l.take j).reverse ++ L := by
  have e : l.getD j 0 = l[j] := by simp [List.getD_eq_getElem?_getD, hj]
  have hm : l.getD j 0 ∈ l := by rw [e]; exact List.getElem_mem hj
  refine ⟨h.lt _ hm, fun hx => ?_⟩
  rcases List.mem_append.1 hx with hx | hx
  · rw [List.mem_reverse] at hx
    have hn := h.nd
    rw [← List.take_append_drop j l, List.drop_eq_getElem_cons hj] at hn
    rw [e] at hx
    exact (List.nodup_append.1 hn).2.2 _ hx _ (List.mem_cons_self ..) rfl
  · exact h.out _ hm hx
/-- Addresses that are to be given: an error, or the slots. -/
def allGo (x : Sn) (L : List Nat) : List Int → List Nat → Int × List Nat
  | [], seen => (0, seen)
  | a :: r, seen => match slotO x a with
    | none => (12, seen)
    | some k => if k ∈ L ++ seen then (19, seen) else allGo x L r (seen ++ [k])
theorem allGo_step {x : Sn} {L : List Nat} {vs : List Int} {k : Nat} (hk : k < vs.length) (seen : List Nat) : allGo x L (vs.drop k) seen = match slotO x (vs.getD k 0) with
    | none => (12, seen)
    | some j => if j ∈ L ++ seen then (19, seen) else allGo x L (vs.drop (k + 1)) (seen ++ [j]) := by
  have hd : vs.drop k = vs.getD k 0 :: vs.drop (k + 1) := by
    rw [List.drop_eq_getElem_cons hk]
    simp [List.getD_eq_getElem?_getD, hk]
  rw [hd, allGo]
/-- What is behind it. -/
def allS (x : Sn) (bs : List Int) (L : List Nat) (vs : List Int) : Sn × List Int := if (allGo x L vs []).1 = 0 then pushes (x, bs) (allGo x L vs []).2 else (x, bs)
end Go.Proofs.Ytloflnachpjlgaa.New
