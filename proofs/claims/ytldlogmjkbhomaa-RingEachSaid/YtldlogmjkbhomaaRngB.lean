/- The contracts of package ring's join and Remove. -/
import Derived.Test.YtldlogmjkbhomaaRngA
namespace Go.Proofs.Ytldlogmjkbhomaa.Rng
open Go.RowKit Go.Proofs.Ytldlogmjkbhomaa.Aid
theorem rows_eq {N : Nat} {f : Nat → R3} {Y : List R3} (hl : Y.length = N) (h : ∀ i, i < N → Y[i]? = some (f i)) : Y = (List.range N).map f := by
  apply List.ext_getElem?
  intro i
  rcases Nat.lt_or_ge i N with hi | hi
  · rw [h i hi]
    simp [hi]
  · rw [List.getElem?_eq_none (by omega), List.getElem?_eq_none (by simpa using hi)]
theorem set_at {Y : List R3} {k : Nat} {v : R3} (i : Nat) (hk : k < Y.length) : (Y.set k v)[i]? = if i = k then some v else Y[i]? := by
  rw [List.getElem?_set]
  by_cases e : k = i
  · subst e; simp [hk]
  · rw [if_neg e, if_neg fun e' => e e'.symm]
section
variable {w w' : World} {p N L : Nat} {F : List Nat} {s s' : RgS} {A : Option Addr} {gi ci gl cl : Nat}
/-- The two rows anew. -/
theorem Parts.anew (h : Parts w p F N L s A gi ci gl cl) (k : Kept [gi, gl] w w') (_hN : 0 < N) (h1 : Recs enc3 3 w' KT gi ci (itemsL s' L N)) (h2 : Recs enc3 3 w' NT gl cl (endsL s' L)) : Parts w' p F N L s' A gi ci gl cl := by
  obtain ⟨i1, _, i3, i4, i5⟩ := h.items (Nat.zero_le _)
  exact ⟨h.head.kept k (by simp; exact ⟨Ne.symm i4, h.ne⟩), fun _ => ⟨i1, h1, i3, i4, i5⟩, h2, h.ins, h.ne, fun x hx => Nat.lt_of_lt_of_le (h.flt x hx) k.size⟩
end
theorem nodup_le : ∀ (N : Nat) (l : List Nat), l.Nodup → (∀ x ∈ l, x < N) → l.length ≤ N
  | 0, l, _, h => by
    cases l with
    | nil => simp
    | cons a l => have := h a (by simp); omega
  | N + 1, l, hd, h => by
    by_cases hN : N ∈ l
    · have := nodup_le N (l.erase N) (hd.erase N) fun x hx => by
        have h1 := h x (List.mem_of_mem_erase hx)
        have h2 : x ≠ N := (hd.mem_erase_iff.1 hx).1
        omega
      rw [List.length_erase_of_mem hN] at this
      omega
    · have := nodup_le N l hd fun x hx => by
        have h1 := h x hx
        have h2 : x ≠ N := fun e => hN (e ▸ hx)
        omega
      omega
theorem OkG.len {N L : Nat} {s : RgS} (h : OkG N L s) (l : Nat) : (s l).length ≤ N := nodup_le N _ (h.nd l) fun x hx => h.lt l x hx
section
variable {w : World} {e : TypeId} {g c : Nat} {xs : List R3} {k : Nat} {r : R3}
theorem putA (h : Recs enc3 3 w e g c xs) (hk : xs[k]? = some r) (v : Int) : Recs enc3 3 (w.setCell ⟨g, k * 3, none⟩ (.int .i64 v)) e g c (xs.set k ⟨v, r.b, r.c⟩) := h.putCell (j := 0) enc3_len hk (by decide) rfl
theorem putB (h : Recs enc3 3 w e g c xs) (hk : xs[k]? = some r) (v : Int) : Recs enc3 3 (w.setCell ⟨g, k * 3 + 1, none⟩ (.int .i64 v)) e g c (xs.set k ⟨r.a, v, r.c⟩) := h.putCell (j := 1) enc3_len hk (by decide) rfl
theorem putC (h : Recs enc3 3 w e g c xs) (hk : xs[k]? = some r) (v : Int) : Recs enc3 3 (w.setCell ⟨g, k * 3 + 2, none⟩ (.int .i64 v)) e g c (xs.set k ⟨r.a, r.b, v⟩) := h.putCell (j := 2) enc3_len hk (by decide) rfl
theorem putABC (h : Recs enc3 3 w e g c xs) (hk : k < xs.length) (u v y : Int) : Recs enc3 3 (((w.setCell ⟨g, k * 3, none⟩ (.int .i64 u)).setCell ⟨g, k * 3 + 1, none⟩ (.int .i64 v)).setCell ⟨g, k * 3 + 2, none⟩ (.int .i64 y)) e g c (xs.set k ⟨u, v, y⟩) := by
  have h1 := putA h (List.getElem?_eq_getElem hk) u
  have h2 := putB h1 (by rw [set_at k hk, if_pos rfl]) v
  have h3 := putC h2 (by rw [set_at k (by simpa using hk), if_pos rfl]) y
  rw [List.set_set, List.set_set] at h3
  exact h3
end
section
variable {N L : Nat} {s : RgS} {l x : Nat} {A B : List Nat} (h : OkG N L s) (e : s l = A ++ B) (hl : l < L) (hx : ∀ k, x ∉ s k) (hN : x < N)
include e in
theorem join_len : endR (updL s l (A ++ x :: B)) l = ⟨if A = [] then x else headI (s l), if B = [] then x else lastI (s l), ((s l).length + 1 : Nat)⟩ := by
  unfold endR
  rw [updL_at, e]
  congr 1
  · by_cases hA : A = []
    · rw [if_pos hA, hA]
      rfl
    · rw [if_neg hA, headI_app _ hA, headI_app _ hA]
  · by_cases hB : B = []
    · rw [if_pos hB, hB, lastI_snoc]
    · rw [if_neg hB, lastI_mid, show x :: B = [x] ++ B from rfl, lastI_app [x] hB, lastI_app A hB]
  · simp
    omega
include hl in
theorem join_ends {Y : R3} (hY : Y = endR (updL s l (A ++ x :: B)) l) : (endsL s L).set l Y = endsL (updL s l (A ++ x :: B)) L := by
  refine rows_eq (by rw [List.length_set, endsL_len]) fun k hk => ?_
  rw [set_at k (by rw [endsL_len]; exact hl)]
  by_cases ek : k = l
  · rw [if_pos ek, hY, ek]
  · rw [if_neg ek, endsL_at s hk]
    unfold endR
    rw [updL_ne s _ ek]
include h e hl hx hN in
theorem join_items (Y : List R3) (hY : Y.length = N) (h2 : ∀ i, i < N → Y[i]? = some (if i = x then ⟨l, lastI A, headI B⟩ else if lastI A = i then ⟨(lk s L i).a, (lk s L i).b, x⟩ else if headI B = i then ⟨(lk s L i).a, x, (lk s L i).c⟩ else lk s L i)) : Y = itemsL (updL s l (A ++ x :: B)) L N :=
  rows_eq hY fun i hi => by rw [h2 i hi, lk_ins h e (ok_ins h e hl hx hN) hx]
end
set_option maxHeartbeats 4000000 in
theorem join_both (w : World) (p : Nat) (F : List Nat) (N L : Nat) (s : RgS) (A : Option Addr) (gi ci gl cl l x q r : Nat) (A0 : List Nat) (B0 : List Nat) (h : Parts w p F N L s A gi ci gl cl) (hok : OkG N L s) (hl : l < L) (hx : x < N) (hxn : ∀ k, x ∉ s k) (e : s l = A0 ++ B0) (hq : lastI A0 = q) (hr : headI B0 = r) :
    Calls Try.prog 109 #[.pointer (some ⟨p, 0, none⟩), .int .i64 l, .int .i64 q, .int .i64 x, .int .i64 r] w fun e w' => (∃ v, e = .returned v) ∧ Parts w' p F N L (updL s l (A0 ++ x :: B0)) A gi ci gl cl ∧ Kept [gi, gl] w w' := by
  have c0 := h.c0
  have c1 := h.c1
  obtain ⟨rfl, hR, _, hip, hil⟩ := h.items (by omega)
  have hqm : q ∈ s l := by rw [e]; exact List.mem_append_left _ (lastI_mem hq)
  have hqN := hok.lt l q hqm
  have hqx : q ≠ x := fun e => hxn l (e ▸ hqm)
  obtain ⟨q0, q1, q2⟩ := h.item hqN
  have fq2 := hR.free (q * 3 + 2)
  have hAn : A0 ≠ [] := fun e => by rw [e] at hq; simp [lastI] at hq
  have hrm : r ∈ s l := by rw [e]; exact List.mem_append_right _ (headI_mem hr)
  have hrN := hok.lt l r hrm
  have hrx : r ≠ x := fun e => hxn l (e ▸ hrm)
  obtain ⟨r0, r1, r2⟩ := h.item hrN
  have fr1 := hR.free (r * 3 + 1)
  have hBn : B0 ≠ [] := fun e => by rw [e] at hr; simp [headI] at hr
  have hqr : q ≠ r := fun e' => by
    have := hok.nd l
    rw [e, List.nodup_append] at this
    exact this.2.2 q (lastI_mem hq) r (headI_mem hr) e'
  obtain ⟨x0, x1, x2⟩ := h.item hx
  obtain ⟨l0, l1, l2⟩ := h.list hl
  have fx0 := hR.free (x * 3)
  have fx1 := hR.free (x * 3 + 1)
  have fx2 := hR.free (x * 3 + 2)
  have fl2 := h.ends.free (l * 3 + 2)
  have hpi : p ≠ gi := Ne.symm hip
  have hli : gl ≠ gi := Ne.symm hil
  have hpl : p ≠ gl := h.ne
  have hlp : gl ≠ p := Ne.symm hpl
  have hlen := hok.len l
  have HJl := Lib.hid (join_len (x := x) e)
  have HJe := Lib.hid (fun Y => join_ends (s := s) (x := x) (A := A0) (B := B0) hl (Y := Y))
  have HJi := Lib.hid (join_items hok e hl hxn hx)
  rw [if_neg hAn, if_neg hBn] at HJl
  have HP := Lib.hid h
  have HR := Lib.hid hR
  have hN := hok.n
  have hL := hok.l2
  generalize (s l).length = n at l2 hlen HJl
  clear h hR e hok hqm hAn hrm hBn
  go_enter Try.func109, Try.ntmps109
  go_wp2
  go_end0
  refine ⟨⟨_, rfl⟩, ?_⟩
  have hI := putABC HR.out (k := x) (by rw [itemsL_len]; exact hx) l q r
  have hI2 := putC hI (k := q) (r := lk s L q) (by rw [set_at q (by rw [itemsL_len]; exact hx), if_neg hqx, itemsL_at s L hqN]) x
  have hI3 := putB hI2 (k := r) (r := lk s L r) (by rw [set_at r (by rw [List.length_set, itemsL_len]; exact hqN), if_neg (Ne.symm hqr), set_at r (by rw [itemsL_len]; exact hx), if_neg hrx, itemsL_at s L hrN]) x
  have hY := HJi.out ((((itemsL s L N).set x ⟨l, q, r⟩).set q ⟨(lk s L q).a, (lk s L q).b, x⟩).set r ⟨(lk s L r).a, x, (lk s L r).c⟩) (by simp [itemsL_len]) (fun i hi => by
    rw [set_at i (by simp only [List.length_set, itemsL_len]; exact hrN), set_at i (by simp only [List.length_set, itemsL_len]; exact hqN), set_at i (by rw [itemsL_len]; exact hx), itemsL_at s L hi, hq, hr]
    by_cases e1 : i = r
    · rw [if_pos e1, if_neg (by omega), if_neg (by omega), if_pos (by omega), e1]
    rw [if_neg e1]
    by_cases e2 : i = q
    · rw [if_pos e2, if_neg (by omega), if_pos (by omega), e2]
    rw [if_neg e2]
    by_cases e3 : i = x
    · rw [if_pos e3, if_pos e3]
    · rw [if_neg e3, if_neg e3, if_neg (by omega), if_neg (by omega)])
  rw [hY] at hI3
  have hE := HP.out.ends
  have hE := hE.other (a := ⟨gi, x * 3, none⟩) hli (.int .i64 l)
  have hE := hE.other (a := ⟨gi, x * 3 + 1, none⟩) hli (.int .i64 q)
  have hE := hE.other (a := ⟨gi, x * 3 + 2, none⟩) hli (.int .i64 r)
  have hE := hE.other (a := ⟨gi, q * 3 + 2, none⟩) hli (.int .i64 x)
  have hE := hE.other (a := ⟨gi, r * 3 + 1, none⟩) hli (.int .i64 x)
  have hE := putC hE (k := l) (r := endR s l) (endsL_at s hl) ((n : Int) + 1)
  rw [HJe.out _ (by rw [HJl.out]; exact congrArg (fun z => (⟨headI (s l), lastI (s l), z⟩ : R3)) (by omega))] at hE
  have hk := ((((((Kept.refl [gi, gl] w).setCell (p := ⟨gi, x * 3, none⟩) (by simp) (.int .i64 l)).setCell (p := ⟨gi, x * 3 + 1, none⟩) (by simp) (.int .i64 q)).setCell (p := ⟨gi, x * 3 + 2, none⟩) (by simp) (.int .i64 r)).setCell (p := ⟨gi, q * 3 + 2, none⟩) (by simp) (.int .i64 x)).setCell (p := ⟨gi, r * 3 + 1, none⟩) (by simp) (.int .i64 x)).setCell (p := ⟨gl, l * 3 + 2, none⟩) (by simp) (.int .i64 ((n : Int) + 1))
  exact ⟨HP.out.anew hk (by omega) (hI3.other (a := ⟨gl, l * 3 + 2, none⟩) hil _) hE, hk⟩
set_option maxHeartbeats 4000000 in
theorem join_back (w : World) (p : Nat) (F : List Nat) (N L : Nat) (s : RgS) (A : Option Addr) (gi ci gl cl l x q : Nat) (A0 : List Nat) (h : Parts w p F N L s A gi ci gl cl) (hok : OkG N L s) (hl : l < L) (hx : x < N) (hxn : ∀ k, x ∉ s k) (e : s l = A0 ++ []) (hq : lastI A0 = q) :
    Calls Try.prog 109 #[.pointer (some ⟨p, 0, none⟩), .int .i64 l, .int .i64 q, .int .i64 x, .int .i64 (-1)] w fun e w' => (∃ v, e = .returned v) ∧ Parts w' p F N L (updL s l (A0 ++ x :: [])) A gi ci gl cl ∧ Kept [gi, gl] w w' := by
  have c0 := h.c0
  have c1 := h.c1
  obtain ⟨rfl, hR, _, hip, hil⟩ := h.items (by omega)
  have hqm : q ∈ s l := by rw [e]; exact List.mem_append_left _ (lastI_mem hq)
  have hqN := hok.lt l q hqm
  have hqx : q ≠ x := fun e => hxn l (e ▸ hqm)
  obtain ⟨q0, q1, q2⟩ := h.item hqN
  have fq2 := hR.free (q * 3 + 2)
  have hAn : A0 ≠ [] := fun e => by rw [e] at hq; simp [lastI] at hq
  have fl1 := h.ends.free (l * 3 + 1)
  obtain ⟨x0, x1, x2⟩ := h.item hx
  obtain ⟨l0, l1, l2⟩ := h.list hl
  have fx0 := hR.free (x * 3)
  have fx1 := hR.free (x * 3 + 1)
  have fx2 := hR.free (x * 3 + 2)
  have fl2 := h.ends.free (l * 3 + 2)
  have hpi : p ≠ gi := Ne.symm hip
  have hli : gl ≠ gi := Ne.symm hil
  have hpl : p ≠ gl := h.ne
  have hlp : gl ≠ p := Ne.symm hpl
  have hlen := hok.len l
  have HJl := Lib.hid (join_len (x := x) e)
  have HJe := Lib.hid (fun Y => join_ends (s := s) (x := x) (A := A0) (B := []) hl (Y := Y))
  have HJi := Lib.hid (join_items hok e hl hxn hx)
  rw [if_neg hAn, if_pos rfl] at HJl
  have HP := Lib.hid h
  have HR := Lib.hid hR
  have hN := hok.n
  have hL := hok.l2
  generalize (s l).length = n at l2 hlen HJl
  clear h hR e hok hqm hAn
  go_enter Try.func109, Try.ntmps109
  go_wp2
  go_end0
  refine ⟨⟨_, rfl⟩, ?_⟩
  have hI := putABC HR.out (k := x) (by rw [itemsL_len]; exact hx) l q (-1)
  have hI2 := putC hI (k := q) (r := lk s L q) (by rw [set_at q (by rw [itemsL_len]; exact hx), if_neg hqx, itemsL_at s L hqN]) x
  have hI3 := hI2.other (a := ⟨gl, l * 3 + 1, none⟩) hil (.int .i64 x)
  have hY := HJi.out (((itemsL s L N).set x ⟨l, q, (-1)⟩).set q ⟨(lk s L q).a, (lk s L q).b, x⟩) (by simp [itemsL_len]) (fun i hi => by
    rw [set_at i (by simp only [List.length_set, itemsL_len]; exact hqN), set_at i (by rw [itemsL_len]; exact hx), itemsL_at s L hi, hq]
    have hh0 : headI ([] : List Nat) = -1 := rfl
    rw [hh0]
    by_cases e2 : i = q
    · rw [if_pos e2, if_neg (by omega), if_pos (by omega), e2]
    rw [if_neg e2]
    by_cases e3 : i = x
    · rw [if_pos e3, if_pos e3]
    · rw [if_neg e3, if_neg e3, if_neg (by omega), if_neg (by omega)])
  rw [hY] at hI3
  have hE := HP.out.ends
  have hE := hE.other (a := ⟨gi, x * 3, none⟩) hli (.int .i64 l)
  have hE := hE.other (a := ⟨gi, x * 3 + 1, none⟩) hli (.int .i64 q)
  have hE := hE.other (a := ⟨gi, x * 3 + 2, none⟩) hli (.int .i64 (-1))
  have hE := hE.other (a := ⟨gi, q * 3 + 2, none⟩) hli (.int .i64 x)
  have hE := putB hE (k := l) (r := endR s l) (endsL_at s hl) x
  have hE := putC hE (k := l) (r := ⟨(endR s l).a, (x : Int), (endR s l).c⟩) (by rw [set_at l (by simpa [endsL_len] using hl), if_pos rfl]) ((n : Int) + 1)
  simp only [List.set_set] at hE
  rw [HJe.out _ (by rw [HJl.out]; exact congrArg (fun z => (⟨headI (s l), (x : Int), z⟩ : R3)) (by omega))] at hE
  have hk := ((((((Kept.refl [gi, gl] w).setCell (p := ⟨gi, x * 3, none⟩) (by simp) (.int .i64 l)).setCell (p := ⟨gi, x * 3 + 1, none⟩) (by simp) (.int .i64 q)).setCell (p := ⟨gi, x * 3 + 2, none⟩) (by simp) (.int .i64 (-1))).setCell (p := ⟨gi, q * 3 + 2, none⟩) (by simp) (.int .i64 x)).setCell (p := ⟨gl, l * 3 + 1, none⟩) (by simp) (.int .i64 x)).setCell (p := ⟨gl, l * 3 + 2, none⟩) (by simp) (.int .i64 ((n : Int) + 1))
  exact ⟨HP.out.anew hk (by omega) (hI3.other (a := ⟨gl, l * 3 + 2, none⟩) hil _) hE, hk⟩
set_option maxHeartbeats 4000000 in
theorem join_front (w : World) (p : Nat) (F : List Nat) (N L : Nat) (s : RgS) (A : Option Addr) (gi ci gl cl l x r : Nat) (B0 : List Nat) (h : Parts w p F N L s A gi ci gl cl) (hok : OkG N L s) (hl : l < L) (hx : x < N) (hxn : ∀ k, x ∉ s k) (e : s l = [] ++ B0) (hr : headI B0 = r) :
    Calls Try.prog 109 #[.pointer (some ⟨p, 0, none⟩), .int .i64 l, .int .i64 (-1), .int .i64 x, .int .i64 r] w fun e w' => (∃ v, e = .returned v) ∧ Parts w' p F N L (updL s l ([] ++ x :: B0)) A gi ci gl cl ∧ Kept [gi, gl] w w' := by
  have c0 := h.c0
  have c1 := h.c1
  obtain ⟨rfl, hR, _, hip, hil⟩ := h.items (by omega)
  have fl0 := h.ends.free (l * 3)
  have hrm : r ∈ s l := by rw [e]; exact List.mem_append_right _ (headI_mem hr)
  have hrN := hok.lt l r hrm
  have hrx : r ≠ x := fun e => hxn l (e ▸ hrm)
  obtain ⟨r0, r1, r2⟩ := h.item hrN
  have fr1 := hR.free (r * 3 + 1)
  have hBn : B0 ≠ [] := fun e => by rw [e] at hr; simp [headI] at hr
  obtain ⟨x0, x1, x2⟩ := h.item hx
  obtain ⟨l0, l1, l2⟩ := h.list hl
  have fx0 := hR.free (x * 3)
  have fx1 := hR.free (x * 3 + 1)
  have fx2 := hR.free (x * 3 + 2)
  have fl2 := h.ends.free (l * 3 + 2)
  have hpi : p ≠ gi := Ne.symm hip
  have hli : gl ≠ gi := Ne.symm hil
  have hpl : p ≠ gl := h.ne
  have hlp : gl ≠ p := Ne.symm hpl
  have hlen := hok.len l
  have HJl := Lib.hid (join_len (x := x) e)
  have HJe := Lib.hid (fun Y => join_ends (s := s) (x := x) (A := []) (B := B0) hl (Y := Y))
  have HJi := Lib.hid (join_items hok e hl hxn hx)
  rw [if_pos rfl, if_neg hBn] at HJl
  have HP := Lib.hid h
  have HR := Lib.hid hR
  have hN := hok.n
  have hL := hok.l2
  generalize (s l).length = n at l2 hlen HJl
  clear h hR e hok hrm hBn
  go_enter Try.func109, Try.ntmps109
  go_wp2
  go_end0
  refine ⟨⟨_, rfl⟩, ?_⟩
  have hI := putABC HR.out (k := x) (by rw [itemsL_len]; exact hx) l (-1) r
  have hI2 := hI.other (a := ⟨gl, l * 3, none⟩) hil (.int .i64 x)
  have hI3 := putB hI2 (k := r) (r := lk s L r) (by rw [set_at r (by rw [itemsL_len]; exact hx), if_neg hrx, itemsL_at s L hrN]) x
  have hY := HJi.out (((itemsL s L N).set x ⟨l, (-1), r⟩).set r ⟨(lk s L r).a, x, (lk s L r).c⟩) (by simp [itemsL_len]) (fun i hi => by
    rw [set_at i (by simp only [List.length_set, itemsL_len]; exact hrN), set_at i (by rw [itemsL_len]; exact hx), itemsL_at s L hi, hr]
    have hl0 : lastI ([] : List Nat) = -1 := rfl
    rw [hl0]
    by_cases e1 : i = r
    · rw [if_pos e1, if_neg (by omega), if_neg (by omega), if_pos (by omega), e1]
    rw [if_neg e1]
    by_cases e3 : i = x
    · rw [if_pos e3, if_pos e3]
    · rw [if_neg e3, if_neg e3, if_neg (by omega), if_neg (by omega)])
  rw [hY] at hI3
  have hE := HP.out.ends
  have hE := hE.other (a := ⟨gi, x * 3, none⟩) hli (.int .i64 l)
  have hE := hE.other (a := ⟨gi, x * 3 + 1, none⟩) hli (.int .i64 (-1))
  have hE := hE.other (a := ⟨gi, x * 3 + 2, none⟩) hli (.int .i64 r)
  have hE := putA hE (k := l) (r := endR s l) (endsL_at s hl) x
  have hE := hE.other (a := ⟨gi, r * 3 + 1, none⟩) hli (.int .i64 x)
  have hE := putC hE (k := l) (r := ⟨(x : Int), (endR s l).b, (endR s l).c⟩) (by rw [set_at l (by simpa [endsL_len] using hl), if_pos rfl]) ((n : Int) + 1)
  simp only [List.set_set] at hE
  rw [HJe.out _ (by rw [HJl.out]; exact congrArg (fun z => (⟨(x : Int), lastI (s l), z⟩ : R3)) (by omega))] at hE
  have hk := ((((((Kept.refl [gi, gl] w).setCell (p := ⟨gi, x * 3, none⟩) (by simp) (.int .i64 l)).setCell (p := ⟨gi, x * 3 + 1, none⟩) (by simp) (.int .i64 (-1))).setCell (p := ⟨gi, x * 3 + 2, none⟩) (by simp) (.int .i64 r)).setCell (p := ⟨gl, l * 3, none⟩) (by simp) (.int .i64 x)).setCell (p := ⟨gi, r * 3 + 1, none⟩) (by simp) (.int .i64 x)).setCell (p := ⟨gl, l * 3 + 2, none⟩) (by simp) (.int .i64 ((n : Int) + 1))
  exact ⟨HP.out.anew hk (by omega) (hI3.other (a := ⟨gl, l * 3 + 2, none⟩) hil _) hE, hk⟩
set_option maxHeartbeats 4000000 in
theorem join_only (w : World) (p : Nat) (F : List Nat) (N L : Nat) (s : RgS) (A : Option Addr) (gi ci gl cl l x : Nat) (h : Parts w p F N L s A gi ci gl cl) (hok : OkG N L s) (hl : l < L) (hx : x < N) (hxn : ∀ k, x ∉ s k) (e : s l = [] ++ []) :
    Calls Try.prog 109 #[.pointer (some ⟨p, 0, none⟩), .int .i64 l, .int .i64 (-1), .int .i64 x, .int .i64 (-1)] w fun e w' => (∃ v, e = .returned v) ∧ Parts w' p F N L (updL s l ([] ++ x :: [])) A gi ci gl cl ∧ Kept [gi, gl] w w' := by
  have c0 := h.c0
  have c1 := h.c1
  obtain ⟨rfl, hR, _, hip, hil⟩ := h.items (by omega)
  have fl0 := h.ends.free (l * 3)
  have fl1 := h.ends.free (l * 3 + 1)
  obtain ⟨x0, x1, x2⟩ := h.item hx
  obtain ⟨l0, l1, l2⟩ := h.list hl
  have fx0 := hR.free (x * 3)
  have fx1 := hR.free (x * 3 + 1)
  have fx2 := hR.free (x * 3 + 2)
  have fl2 := h.ends.free (l * 3 + 2)
  have hpi : p ≠ gi := Ne.symm hip
  have hli : gl ≠ gi := Ne.symm hil
  have hpl : p ≠ gl := h.ne
  have hlp : gl ≠ p := Ne.symm hpl
  have hlen := hok.len l
  have HJl := Lib.hid (join_len (x := x) e)
  have HJe := Lib.hid (fun Y => join_ends (s := s) (x := x) (A := []) (B := []) hl (Y := Y))
  have HJi := Lib.hid (join_items hok e hl hxn hx)
  rw [if_pos rfl, if_pos rfl] at HJl
  have HP := Lib.hid h
  have HR := Lib.hid hR
  have hN := hok.n
  have hL := hok.l2
  generalize (s l).length = n at l2 hlen HJl
  clear h hR e hok
  go_enter Try.func109, Try.ntmps109
  go_wp2
  go_end0
  refine ⟨⟨_, rfl⟩, ?_⟩
  have hI := putABC HR.out (k := x) (by rw [itemsL_len]; exact hx) l (-1) (-1)
  have hI2 := hI.other (a := ⟨gl, l * 3, none⟩) hil (.int .i64 x)
  have hI3 := hI2.other (a := ⟨gl, l * 3 + 1, none⟩) hil (.int .i64 x)
  have hY := HJi.out ((itemsL s L N).set x ⟨l, (-1), (-1)⟩) (by simp [itemsL_len]) (fun i hi => by
    rw [set_at i (by rw [itemsL_len]; exact hx), itemsL_at s L hi]
    have hl0 : lastI ([] : List Nat) = -1 := rfl
    rw [hl0]
    have hh0 : headI ([] : List Nat) = -1 := rfl
    rw [hh0]
    by_cases e3 : i = x
    · rw [if_pos e3, if_pos e3]
    · rw [if_neg e3, if_neg e3, if_neg (by omega), if_neg (by omega)])
  rw [hY] at hI3
  have hE := HP.out.ends
  have hE := hE.other (a := ⟨gi, x * 3, none⟩) hli (.int .i64 l)
  have hE := hE.other (a := ⟨gi, x * 3 + 1, none⟩) hli (.int .i64 (-1))
  have hE := hE.other (a := ⟨gi, x * 3 + 2, none⟩) hli (.int .i64 (-1))
  have hE := putA hE (k := l) (r := endR s l) (endsL_at s hl) x
  have hE := putB hE (k := l) (r := ⟨x, (endR s l).b, (endR s l).c⟩) (by rw [set_at l (by rw [endsL_len]; exact hl), if_pos rfl]) x
  have hE := putC hE (k := l) (r := ⟨(x : Int), (x : Int), (endR s l).c⟩) (by rw [set_at l (by simpa [endsL_len] using hl), if_pos rfl]) ((n : Int) + 1)
  simp only [List.set_set] at hE
  rw [HJe.out _ (by rw [HJl.out]; exact congrArg (fun z => (⟨(x : Int), (x : Int), z⟩ : R3)) (by omega))] at hE
  have hk := ((((((Kept.refl [gi, gl] w).setCell (p := ⟨gi, x * 3, none⟩) (by simp) (.int .i64 l)).setCell (p := ⟨gi, x * 3 + 1, none⟩) (by simp) (.int .i64 (-1))).setCell (p := ⟨gi, x * 3 + 2, none⟩) (by simp) (.int .i64 (-1))).setCell (p := ⟨gl, l * 3, none⟩) (by simp) (.int .i64 x)).setCell (p := ⟨gl, l * 3 + 1, none⟩) (by simp) (.int .i64 x)).setCell (p := ⟨gl, l * 3 + 2, none⟩) (by simp) (.int .i64 ((n : Int) + 1))
  exact ⟨HP.out.anew hk (by omega) (hI3.other (a := ⟨gl, l * 3 + 2, none⟩) hil _) hE, hk⟩
end Go.Proofs.Ytldlogmjkbhomaa.Rng
