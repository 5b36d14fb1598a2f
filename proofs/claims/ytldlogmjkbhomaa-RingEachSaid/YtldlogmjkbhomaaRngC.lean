/- The contract of package ring's Remove. -/
import Derived.Test.YtldlogmjkbhomaaRngB
namespace Go.Proofs.Ytldlogmjkbhomaa.Rng
open Go.RowKit Go.Proofs.Ytldlogmjkbhomaa.Aid
theorem cell_off {w : World} {g o o' : Nat} (v : Value) (h : o ≠ o') : (w.setCell ⟨g, o', none⟩ v).cell? ⟨g, o, none⟩ = w.cell? ⟨g, o, none⟩ := by
  unfold World.setCell World.cell?
  simp only [Array.getElem?_modify, if_pos]
  cases hh : w.heap[g]? with
  | none => rfl
  | some ob =>
    cases ob <;> simp [Ne.symm h]
theorem cell_blk {w : World} {g g' o o' : Nat} (v : Value) (h : g ≠ g') : (w.setCell ⟨g', o', none⟩ v).cell? ⟨g, o, none⟩ = w.cell? ⟨g, o, none⟩ := by
  have := Below.heap_setCell w ⟨g', o', none⟩ v g (by exact h)
  unfold World.cell?
  rw [this]
theorem pdrew {w w' : World} {p N L : Nat} {F G : List Nat} {s : RgS} {A : Option Addr} {gi ci gl cl : Nat} (h : Parts w' p F N L s A gi ci gl cl ∧ Kept G w w') : Parts w'.drew p F N L s A gi ci gl cl ∧ Kept G w w'.drew :=
  ⟨h.1.same (Nat.le_refl _) fun _ _ _ => rfl, h.2.drew⟩
section
variable {N L : Nat} {s : RgS} {l x : Nat} {A B v : List Nat}
theorem rem_end (_e : s l = A ++ x :: B) : endR (updL s l (A ++ B)) l = ⟨if A = [] then headI B else headI (s l), if B = [] then lastI A else lastI (s l), ((A ++ B).length : Nat)⟩ := by
  unfold endR
  rw [updL_at, _e]
  congr 1
  · by_cases hA : A = []
    · rw [if_pos hA, hA]
      rfl
    · rw [if_neg hA, headI_app _ hA, headI_app _ hA]
  · by_cases hB : B = []
    · rw [if_pos hB, hB, List.append_nil]
    · rw [if_neg hB, lastI_mid, show x :: B = [x] ++ B from rfl, lastI_app [x] hB, lastI_app A hB]
theorem rem_ends (hl : l < L) {Y : R3} (hY : Y = endR (updL s l v) l) : (endsL s L).set l Y = endsL (updL s l v) L := by
  refine rows_eq (by rw [List.length_set, endsL_len]) fun k hk => ?_
  rw [set_at k (by rw [endsL_len]; exact hl)]
  by_cases ek : k = l
  · rw [if_pos ek, hY, ek]
  · rw [if_neg ek, endsL_at s hk]
    unfold endR
    rw [updL_ne s _ ek]
theorem rem_items (h : OkG N L s) (e : s l = A ++ x :: B) (Y : List R3) (hY : Y.length = N) (h2 : ∀ i, i < N → Y[i]? = some (if i = x then ⟨-1, -1, -1⟩ else if lastI A = i then ⟨(lk s L i).a, (lk s L i).b, headI B⟩ else if headI B = i then ⟨(lk s L i).a, lastI A, (lk s L i).c⟩ else lk s L i)) : Y = itemsL (updL s l (A ++ B)) L N :=
  rows_eq hY fun i hi => by rw [h2 i hi, lk_del h e]
end
set_option maxHeartbeats 4000000 in
theorem remove_both (w : World) (p : Nat) (F : List Nat) (N L : Nat) (s : RgS) (A : Option Addr) (gi ci gl cl l x q r : Nat) (A0 : List Nat) (B0 : List Nat) (h : Parts w p F N L s A gi ci gl cl) (hok : OkG N L s) (e : s l = A0 ++ x :: B0) (hq : lastI A0 = q) (hr : headI B0 = r) :
    Calls Try.prog 69 #[.pointer (some ⟨p, 0, none⟩), .int .i64 x] w fun e w' => e = .returned (.int .i64 0) ∧ Parts w' p F N L (updL s l (A0 ++ B0)) A gi ci gl cl ∧ Kept [gi, gl] w w' := by
  have hxm : x ∈ s l := by rw [e]; simp
  have hx : x < N := hok.lt l x hxm
  have hl : l < L := hok.lL hxm
  have HI := Lib.hid (item_calls w p F N L s A gi ci gl cl (x : Int) h hok.n)
  rw [atP_in hx] at HI
  have c0 := h.c0
  have c1 := h.c1
  obtain ⟨rfl, hR, _, hip, hil⟩ := h.items (by omega)
  have hlk := lk_at hok e
  have hqm : q ∈ s l := by rw [e]; exact List.mem_append_left _ (lastI_mem hq)
  have hqN := hok.lt l q hqm
  have hqx : q ≠ x := fun e' => by
    have := hok.nd l
    rw [e, List.nodup_append] at this
    exact this.2.2 q (lastI_mem hq) x (by simp) e'
  obtain ⟨q0, q1, q2⟩ := h.item hqN
  have fq2 := hR.free (q * 3 + 2)
  have hAn : A0 ≠ [] := fun e => by rw [e] at hq; simp [lastI] at hq
  rw [hq] at hlk
  have hrm : r ∈ s l := by rw [e]; exact List.mem_append_right _ (List.mem_cons_of_mem _ (headI_mem hr))
  have hrN := hok.lt l r hrm
  have hrx : r ≠ x := fun e' => by
    have := hok.nd l
    rw [e, List.nodup_append] at this
    exact (List.nodup_cons.1 this.2.1).1 (e' ▸ headI_mem hr)
  obtain ⟨r0, r1, r2⟩ := h.item hrN
  have fr1 := hR.free (r * 3 + 1)
  have hBn : B0 ≠ [] := fun e => by rw [e] at hr; simp [headI] at hr
  rw [hr] at hlk
  have hxq : x ≠ q := Ne.symm hqx
  have o1 : x * 3 ≠ q * 3 + 1 := by omega
  have o2 : q * 3 + 1 ≠ x * 3 := by omega
  have o3 : x * 3 + 1 ≠ q * 3 + 2 := by omega
  have o4 : q * 3 + 2 ≠ x * 3 + 1 := by omega
  have o5 : x * 3 + 2 ≠ q * 3 + 2 := by omega
  have o6 : q * 3 + 2 ≠ x * 3 + 2 := by omega
  have hxr : x ≠ r := Ne.symm hrx
  have u1 : x * 3 + 1 ≠ r * 3 := by omega
  have u2 : r * 3 ≠ x * 3 + 1 := by omega
  have u3 : x * 3 + 1 ≠ r * 3 + 1 := by omega
  have u4 : r * 3 + 1 ≠ x * 3 + 1 := by omega
  have u5 : x * 3 + 2 ≠ r * 3 + 1 := by omega
  have u6 : r * 3 + 1 ≠ x * 3 + 2 := by omega
  have hqr : q ≠ r := fun e' => by
    have := hok.nd l
    rw [e, List.nodup_append] at this
    exact this.2.2 q (lastI_mem hq) r (List.mem_cons_of_mem _ (headI_mem hr)) e'
  obtain ⟨x0, x1, x2⟩ := h.item hx
  rw [hlk] at x0 x1 x2
  simp only at x0 x1 x2
  obtain ⟨l0, l1, l2⟩ := h.list hl
  have fx0 := hR.free (x * 3)
  have fx1 := hR.free (x * 3 + 1)
  have fx2 := hR.free (x * 3 + 2)
  have fl2 := h.ends.free (l * 3 + 2)
  have hpi : p ≠ gi := Ne.symm hip
  have hli : gl ≠ gi := Ne.symm hil
  have hpl : p ≠ gl := h.ne
  have hlp : gl ≠ p := Ne.symm hpl
  have hlen := hok.len l
  have hn1 : ((s l).length : Int) = ((A0 ++ B0).length : Nat) + 1 := by rw [e]; simp <;> omega
  have HJl := Lib.hid (rem_end e)
  have HJe := Lib.hid (fun Y => rem_ends (s := s) (v := A0 ++ B0) hl (Y := Y))
  have HJi := Lib.hid (rem_items hok e (N := N))
  rw [if_neg hAn, if_neg hBn] at HJl
  have HK1 := Lib.hid (show (w.setCell ⟨gi, q * 3 + 2, none⟩ (.int .i64 r)).cell? ⟨p, 0, none⟩ = some (.slice (some ⟨gi, 0, none⟩) N ci) ∧ (w.setCell ⟨gi, q * 3 + 2, none⟩ (.int .i64 r)).cell? ⟨gi, x * 3 + 1, none⟩ = some (.int .i64 q) ∧ (w.setCell ⟨gi, q * 3 + 2, none⟩ (.int .i64 r)).cell? ⟨gi, x * 3 + 2, none⟩ = some (.int .i64 r) from ⟨(cell_blk _ hpi).trans c0, (cell_off _ o3).trans x1, (cell_off _ o5).trans x2⟩)
  have hk0 : (w.setCell ⟨gi, q * 3 + 2, none⟩ (.int .i64 r)).cell? ⟨p, 0, none⟩ = some (.slice (some ⟨gi, 0, none⟩) N ci) ∧ (w.setCell ⟨gi, q * 3 + 2, none⟩ (.int .i64 r)).cell? ⟨gi, x * 3 + 1, none⟩ = some (.int .i64 q) ∧ (w.setCell ⟨gi, q * 3 + 2, none⟩ (.int .i64 r)).cell? ⟨gi, x * 3 + 2, none⟩ = some (.int .i64 r) := HK1.out
  have HK2 := Lib.hid (show ((w.setCell ⟨gi, q * 3 + 2, none⟩ (.int .i64 r)).setCell ⟨gi, r * 3 + 1, none⟩ (.int .i64 q)).cell? ⟨p, 0, none⟩ = some (.slice (some ⟨gi, 0, none⟩) N ci) ∧ ((w.setCell ⟨gi, q * 3 + 2, none⟩ (.int .i64 r)).setCell ⟨gi, r * 3 + 1, none⟩ (.int .i64 q)).cell? ⟨gi, x * 3 + 1, none⟩ = some (.int .i64 q) ∧ ((w.setCell ⟨gi, q * 3 + 2, none⟩ (.int .i64 r)).setCell ⟨gi, r * 3 + 1, none⟩ (.int .i64 q)).cell? ⟨gi, x * 3 + 2, none⟩ = some (.int .i64 r) from ⟨(cell_blk _ hpi).trans hk0.1, (cell_off _ u3).trans hk0.2.1, (cell_off _ u5).trans hk0.2.2⟩)
  clear hk0
  have HP := Lib.hid h
  have HR := Lib.hid hR
  have hN := hok.n
  have hL := hok.l2
  rw [hn1] at l2
  have hm : (A0 ++ B0 : List Nat).length ≤ N := by omega
  generalize (A0 ++ B0 : List Nat).length = n at l2 HJl hm
  clear h hR e hok hxm hn1 hlen hlk hqm hAn hrm hBn
  go_enter Try.func69, Try.ntmps69
  go_wp2_with fail
  refine HI.out.mono ?_
  rintro e w1 ⟨rfl, rfl⟩
  go_upto_region 6 with fail
  go_region_held3 (fun w' => w'.cell? ⟨p, 1, none⟩ = some (.slice (some ⟨gl, 0, none⟩) L cl) ∧ w'.cell? ⟨gi, x * 3, none⟩ = some (.int .i64 l)) (go_keep) (fail)
  go_upto_region 9 with fail
  go_region_held3 (fun w' => w'.cell? ⟨p, 0, none⟩ = some (.slice (some ⟨gi, 0, none⟩) N ci) ∧ w'.cell? ⟨gi, x * 3 + 1, none⟩ = some (.int .i64 q) ∧ w'.cell? ⟨gi, x * 3 + 2, none⟩ = some (.int .i64 r)) (first | exact HK1.out | go_keep) (fail)
  go_upto_region 12 with fail
  go_region_held3 (fun w' => w'.cell? ⟨p, 0, none⟩ = some (.slice (some ⟨gi, 0, none⟩) N ci) ∧ w'.cell? ⟨gi, x * 3 + 1, none⟩ = some (.int .i64 q) ∧ w'.cell? ⟨gi, x * 3 + 2, none⟩ = some (.int .i64 r)) (first | exact HK2.out | go_keep) (fail)
  go_wp2_with fail
  go_ret
  have hI := HR.out
  have hI := putC hI (k := q) (r := lk s L q) (itemsL_at s L hqN) r
  have hI := putB hI (k := r) (r := lk s L r) (by rw [set_at r (by rw [itemsL_len]; exact hqN), if_neg (Ne.symm hqr), itemsL_at s L hrN]) q
  have hI := hI.other (a := ⟨gl, l * 3 + 2, none⟩) hil (.int .i64 (n : Int))
  have hI := putABC hI (k := x) (by simpa [itemsL_len] using hx) (-1) (-1) (-1)
  have hY := HJi.out ((((itemsL s L N).set q ⟨(lk s L q).a, (lk s L q).b, r⟩).set r ⟨(lk s L r).a, q, (lk s L r).c⟩).set x ⟨-1, -1, -1⟩) (by simp [itemsL_len]) (fun i hi => by
    rw [set_at i (by simpa [itemsL_len] using hx), set_at i (by simpa [itemsL_len] using hrN), set_at i (by rw [itemsL_len]; exact hqN), itemsL_at s L hi, hq, hr]
    by_cases e3 : i = x
    · rw [if_pos e3, if_pos e3]
    rw [if_neg e3, if_neg e3]
    by_cases e1 : i = r
    · rw [if_pos e1, if_neg (by omega), if_pos (by omega), e1]
    rw [if_neg e1]
    by_cases e2 : i = q
    · rw [if_pos e2, if_pos (by omega), e2]
    rw [if_neg e2]
    rw [if_neg (by omega), if_neg (by omega)])
  rw [hY] at hI
  have hE := HP.out.ends
  have hE := hE.other (a := ⟨gi, q * 3 + 2, none⟩) hli (.int .i64 r)
  have hE := hE.other (a := ⟨gi, r * 3 + 1, none⟩) hli (.int .i64 q)
  have hE := putC hE (k := l) (r := endR s l) (endsL_at s hl) (n : Int)
  have hE := hE.other (a := ⟨gi, x * 3, none⟩) hli (.int .i64 (-1))
  have hE := hE.other (a := ⟨gi, x * 3 + 1, none⟩) hli (.int .i64 (-1))
  have hE := hE.other (a := ⟨gi, x * 3 + 2, none⟩) hli (.int .i64 (-1))
  rw [HJe.out _ (by rw [HJl.out] <;> rfl)] at hE
  have hk := ((((((Kept.refl [gi, gl] w).setCell (p := ⟨gi, q * 3 + 2, none⟩) (by simp) (.int .i64 r)).setCell (p := ⟨gi, r * 3 + 1, none⟩) (by simp) (.int .i64 q)).setCell (p := ⟨gl, l * 3 + 2, none⟩) (by simp) (.int .i64 (n : Int))).setCell (p := ⟨gi, x * 3, none⟩) (by simp) (.int .i64 (-1))).setCell (p := ⟨gi, x * 3 + 1, none⟩) (by simp) (.int .i64 (-1))).setCell (p := ⟨gi, x * 3 + 2, none⟩) (by simp) (.int .i64 (-1))
  have hres := And.intro (HP.out.anew hk (by omega) hI hE) hk
  refine ⟨rfl, ?_⟩
  first | (with_reducible exact hres) | (with_reducible exact pdrew hres) | (with_reducible exact pdrew (pdrew hres)) | (with_reducible exact pdrew (pdrew (pdrew hres)))
set_option maxHeartbeats 4000000 in
theorem remove_back (w : World) (p : Nat) (F : List Nat) (N L : Nat) (s : RgS) (A : Option Addr) (gi ci gl cl l x q : Nat) (A0 : List Nat) (h : Parts w p F N L s A gi ci gl cl) (hok : OkG N L s) (e : s l = A0 ++ x :: []) (hq : lastI A0 = q) :
    Calls Try.prog 69 #[.pointer (some ⟨p, 0, none⟩), .int .i64 x] w fun e w' => e = .returned (.int .i64 0) ∧ Parts w' p F N L (updL s l (A0 ++ [])) A gi ci gl cl ∧ Kept [gi, gl] w w' := by
  have hxm : x ∈ s l := by rw [e]; simp
  have hx : x < N := hok.lt l x hxm
  have hl : l < L := hok.lL hxm
  have HI := Lib.hid (item_calls w p F N L s A gi ci gl cl (x : Int) h hok.n)
  rw [atP_in hx] at HI
  have c0 := h.c0
  have c1 := h.c1
  obtain ⟨rfl, hR, _, hip, hil⟩ := h.items (by omega)
  have hlk := lk_at hok e
  have hqm : q ∈ s l := by rw [e]; exact List.mem_append_left _ (lastI_mem hq)
  have hqN := hok.lt l q hqm
  have hqx : q ≠ x := fun e' => by
    have := hok.nd l
    rw [e, List.nodup_append] at this
    exact this.2.2 q (lastI_mem hq) x (by simp) e'
  obtain ⟨q0, q1, q2⟩ := h.item hqN
  have fq2 := hR.free (q * 3 + 2)
  have hAn : A0 ≠ [] := fun e => by rw [e] at hq; simp [lastI] at hq
  rw [hq] at hlk
  rw [show headI ([] : List Nat) = -1 from rfl] at hlk
  have fl1 := h.ends.free (l * 3 + 1)
  have hxq : x ≠ q := Ne.symm hqx
  have o1 : x * 3 ≠ q * 3 + 1 := by omega
  have o2 : q * 3 + 1 ≠ x * 3 := by omega
  have o3 : x * 3 + 1 ≠ q * 3 + 2 := by omega
  have o4 : q * 3 + 2 ≠ x * 3 + 1 := by omega
  have o5 : x * 3 + 2 ≠ q * 3 + 2 := by omega
  have o6 : q * 3 + 2 ≠ x * 3 + 2 := by omega
  obtain ⟨x0, x1, x2⟩ := h.item hx
  rw [hlk] at x0 x1 x2
  simp only at x0 x1 x2
  obtain ⟨l0, l1, l2⟩ := h.list hl
  have fx0 := hR.free (x * 3)
  have fx1 := hR.free (x * 3 + 1)
  have fx2 := hR.free (x * 3 + 2)
  have fl2 := h.ends.free (l * 3 + 2)
  have hpi : p ≠ gi := Ne.symm hip
  have hli : gl ≠ gi := Ne.symm hil
  have hpl : p ≠ gl := h.ne
  have hlp : gl ≠ p := Ne.symm hpl
  have hlen := hok.len l
  have hn1 : ((s l).length : Int) = ((A0 ++ []).length : Nat) + 1 := by rw [e]; simp <;> omega
  have HJl := Lib.hid (rem_end e)
  have HJe := Lib.hid (fun Y => rem_ends (s := s) (v := A0 ++ []) hl (Y := Y))
  have HJi := Lib.hid (rem_items hok e (N := N))
  rw [if_neg hAn, if_pos rfl] at HJl
  rw [hq] at HJl
  have HK1 := Lib.hid (show (w.setCell ⟨gi, q * 3 + 2, none⟩ (.int .i64 (-1))).cell? ⟨p, 0, none⟩ = some (.slice (some ⟨gi, 0, none⟩) N ci) ∧ (w.setCell ⟨gi, q * 3 + 2, none⟩ (.int .i64 (-1))).cell? ⟨gi, x * 3 + 1, none⟩ = some (.int .i64 q) ∧ (w.setCell ⟨gi, q * 3 + 2, none⟩ (.int .i64 (-1))).cell? ⟨gi, x * 3 + 2, none⟩ = some (.int .i64 (-1)) from ⟨(cell_blk _ hpi).trans c0, (cell_off _ o3).trans x1, (cell_off _ o5).trans x2⟩)
  have HP := Lib.hid h
  have HR := Lib.hid hR
  have hN := hok.n
  have hL := hok.l2
  rw [hn1] at l2
  have hm : (A0 ++ [] : List Nat).length ≤ N := by omega
  generalize (A0 ++ [] : List Nat).length = n at l2 HJl hm
  clear h hR e hok hxm hn1 hlen hlk hqm hAn
  go_enter Try.func69, Try.ntmps69
  go_wp2_with fail
  refine HI.out.mono ?_
  rintro e w1 ⟨rfl, rfl⟩
  go_upto_region 6 with fail
  go_region_held3 (fun w' => w'.cell? ⟨p, 1, none⟩ = some (.slice (some ⟨gl, 0, none⟩) L cl) ∧ w'.cell? ⟨gi, x * 3, none⟩ = some (.int .i64 l)) (go_keep) (fail)
  go_upto_region 9 with fail
  go_region_held3 (fun w' => w'.cell? ⟨p, 0, none⟩ = some (.slice (some ⟨gi, 0, none⟩) N ci) ∧ w'.cell? ⟨gi, x * 3 + 1, none⟩ = some (.int .i64 q) ∧ w'.cell? ⟨gi, x * 3 + 2, none⟩ = some (.int .i64 (-1))) (first | exact HK1.out | go_keep) (fail)
  go_wp2_with fail
  go_ret
  have hI := HR.out
  have hI := putC hI (k := q) (r := lk s L q) (itemsL_at s L hqN) (-1)
  have hI := hI.other (a := ⟨gl, l * 3 + 1, none⟩) hil (.int .i64 q)
  have hI := hI.other (a := ⟨gl, l * 3 + 2, none⟩) hil (.int .i64 (n : Int))
  have hI := putABC hI (k := x) (by simpa [itemsL_len] using hx) (-1) (-1) (-1)
  have hY := HJi.out (((itemsL s L N).set q ⟨(lk s L q).a, (lk s L q).b, (-1)⟩).set x ⟨-1, -1, -1⟩) (by simp [itemsL_len]) (fun i hi => by
    rw [set_at i (by simpa [itemsL_len] using hx), set_at i (by rw [itemsL_len]; exact hqN), itemsL_at s L hi, hq]
    have hh0 : headI ([] : List Nat) = -1 := rfl
    rw [hh0]
    by_cases e3 : i = x
    · rw [if_pos e3, if_pos e3]
    rw [if_neg e3, if_neg e3]
    by_cases e2 : i = q
    · rw [if_pos e2, if_pos (by omega), e2]
    rw [if_neg e2]
    rw [if_neg (by omega), if_neg (by omega)])
  rw [hY] at hI
  have hE := HP.out.ends
  have hE := hE.other (a := ⟨gi, q * 3 + 2, none⟩) hli (.int .i64 (-1))
  have hE := putB hE (k := l) (r := endR s l) (endsL_at s hl) q
  have hE := putC hE (k := l) (r := ⟨(endR s l).a, (q : Int), (endR s l).c⟩) (by rw [set_at l (by simpa [endsL_len] using hl), if_pos rfl]) (n : Int)
  have hE := hE.other (a := ⟨gi, x * 3, none⟩) hli (.int .i64 (-1))
  have hE := hE.other (a := ⟨gi, x * 3 + 1, none⟩) hli (.int .i64 (-1))
  have hE := hE.other (a := ⟨gi, x * 3 + 2, none⟩) hli (.int .i64 (-1))
  simp only [List.set_set] at hE
  rw [HJe.out _ (by rw [HJl.out] <;> rfl)] at hE
  have hk := ((((((Kept.refl [gi, gl] w).setCell (p := ⟨gi, q * 3 + 2, none⟩) (by simp) (.int .i64 (-1))).setCell (p := ⟨gl, l * 3 + 1, none⟩) (by simp) (.int .i64 q)).setCell (p := ⟨gl, l * 3 + 2, none⟩) (by simp) (.int .i64 (n : Int))).setCell (p := ⟨gi, x * 3, none⟩) (by simp) (.int .i64 (-1))).setCell (p := ⟨gi, x * 3 + 1, none⟩) (by simp) (.int .i64 (-1))).setCell (p := ⟨gi, x * 3 + 2, none⟩) (by simp) (.int .i64 (-1))
  have hres := And.intro (HP.out.anew hk (by omega) hI hE) hk
  refine ⟨rfl, ?_⟩
  first | (with_reducible exact hres) | (with_reducible exact pdrew hres) | (with_reducible exact pdrew (pdrew hres)) | (with_reducible exact pdrew (pdrew (pdrew hres)))
set_option maxHeartbeats 4000000 in
theorem remove_front (w : World) (p : Nat) (F : List Nat) (N L : Nat) (s : RgS) (A : Option Addr) (gi ci gl cl l x r : Nat) (B0 : List Nat) (h : Parts w p F N L s A gi ci gl cl) (hok : OkG N L s) (e : s l = [] ++ x :: B0) (hr : headI B0 = r) :
    Calls Try.prog 69 #[.pointer (some ⟨p, 0, none⟩), .int .i64 x] w fun e w' => e = .returned (.int .i64 0) ∧ Parts w' p F N L (updL s l ([] ++ B0)) A gi ci gl cl ∧ Kept [gi, gl] w w' := by
  have hxm : x ∈ s l := by rw [e]; simp
  have hx : x < N := hok.lt l x hxm
  have hl : l < L := hok.lL hxm
  have HI := Lib.hid (item_calls w p F N L s A gi ci gl cl (x : Int) h hok.n)
  rw [atP_in hx] at HI
  have c0 := h.c0
  have c1 := h.c1
  obtain ⟨rfl, hR, _, hip, hil⟩ := h.items (by omega)
  have hlk := lk_at hok e
  rw [show lastI ([] : List Nat) = -1 from rfl] at hlk
  have fl0 := h.ends.free (l * 3)
  have hrm : r ∈ s l := by rw [e]; exact List.mem_append_right _ (List.mem_cons_of_mem _ (headI_mem hr))
  have hrN := hok.lt l r hrm
  have hrx : r ≠ x := fun e' => by
    have := hok.nd l
    rw [e, List.nodup_append] at this
    exact (List.nodup_cons.1 this.2.1).1 (e' ▸ headI_mem hr)
  obtain ⟨r0, r1, r2⟩ := h.item hrN
  have fr1 := hR.free (r * 3 + 1)
  have hBn : B0 ≠ [] := fun e => by rw [e] at hr; simp [headI] at hr
  rw [hr] at hlk
  have hxr : x ≠ r := Ne.symm hrx
  have u1 : x * 3 + 1 ≠ r * 3 := by omega
  have u2 : r * 3 ≠ x * 3 + 1 := by omega
  have u3 : x * 3 + 1 ≠ r * 3 + 1 := by omega
  have u4 : r * 3 + 1 ≠ x * 3 + 1 := by omega
  have u5 : x * 3 + 2 ≠ r * 3 + 1 := by omega
  have u6 : r * 3 + 1 ≠ x * 3 + 2 := by omega
  obtain ⟨x0, x1, x2⟩ := h.item hx
  rw [hlk] at x0 x1 x2
  simp only at x0 x1 x2
  obtain ⟨l0, l1, l2⟩ := h.list hl
  have fx0 := hR.free (x * 3)
  have fx1 := hR.free (x * 3 + 1)
  have fx2 := hR.free (x * 3 + 2)
  have fl2 := h.ends.free (l * 3 + 2)
  have hpi : p ≠ gi := Ne.symm hip
  have hli : gl ≠ gi := Ne.symm hil
  have hpl : p ≠ gl := h.ne
  have hlp : gl ≠ p := Ne.symm hpl
  have hlen := hok.len l
  have hn1 : ((s l).length : Int) = (([] ++ B0).length : Nat) + 1 := by rw [e]; simp <;> omega
  have HJl := Lib.hid (rem_end e)
  have HJe := Lib.hid (fun Y => rem_ends (s := s) (v := [] ++ B0) hl (Y := Y))
  have HJi := Lib.hid (rem_items hok e (N := N))
  rw [if_pos rfl, if_neg hBn] at HJl
  rw [hr] at HJl
  have hk0 : (w.setCell ⟨gl, l * 3, none⟩ (.int .i64 r)).cell? ⟨p, 0, none⟩ = some (.slice (some ⟨gi, 0, none⟩) N ci) ∧ (w.setCell ⟨gl, l * 3, none⟩ (.int .i64 r)).cell? ⟨gi, x * 3 + 1, none⟩ = some (.int .i64 (-1)) ∧ (w.setCell ⟨gl, l * 3, none⟩ (.int .i64 r)).cell? ⟨gi, x * 3 + 2, none⟩ = some (.int .i64 r) := (And.intro ((cell_blk (v := .int .i64 r) hpl).trans c0) (And.intro ((cell_blk (v := .int .i64 r) hil).trans x1) ((cell_blk (v := .int .i64 r) hil).trans x2)))
  have HK2 := Lib.hid (show ((w.setCell ⟨gl, l * 3, none⟩ (.int .i64 r)).setCell ⟨gi, r * 3 + 1, none⟩ (.int .i64 (-1))).cell? ⟨p, 0, none⟩ = some (.slice (some ⟨gi, 0, none⟩) N ci) ∧ ((w.setCell ⟨gl, l * 3, none⟩ (.int .i64 r)).setCell ⟨gi, r * 3 + 1, none⟩ (.int .i64 (-1))).cell? ⟨gi, x * 3 + 1, none⟩ = some (.int .i64 (-1)) ∧ ((w.setCell ⟨gl, l * 3, none⟩ (.int .i64 r)).setCell ⟨gi, r * 3 + 1, none⟩ (.int .i64 (-1))).cell? ⟨gi, x * 3 + 2, none⟩ = some (.int .i64 r) from ⟨(cell_blk _ hpi).trans hk0.1, (cell_off _ u3).trans hk0.2.1, (cell_off _ u5).trans hk0.2.2⟩)
  clear hk0
  have HP := Lib.hid h
  have HR := Lib.hid hR
  have hN := hok.n
  have hL := hok.l2
  rw [hn1] at l2
  have hm : ([] ++ B0 : List Nat).length ≤ N := by omega
  generalize ([] ++ B0 : List Nat).length = n at l2 HJl hm
  clear h hR e hok hxm hn1 hlen hlk hrm hBn
  go_enter Try.func69, Try.ntmps69
  go_wp2_with fail
  refine HI.out.mono ?_
  rintro e w1 ⟨rfl, rfl⟩
  go_upto_region 6 with fail
  go_region_held3 (fun w' => w'.cell? ⟨p, 1, none⟩ = some (.slice (some ⟨gl, 0, none⟩) L cl) ∧ w'.cell? ⟨gi, x * 3, none⟩ = some (.int .i64 l)) (go_keep) (fail)
  go_upto_region 12 with fail
  go_region_held3 (fun w' => w'.cell? ⟨p, 0, none⟩ = some (.slice (some ⟨gi, 0, none⟩) N ci) ∧ w'.cell? ⟨gi, x * 3 + 1, none⟩ = some (.int .i64 (-1)) ∧ w'.cell? ⟨gi, x * 3 + 2, none⟩ = some (.int .i64 r)) (first | exact HK2.out | go_keep) (fail)
  go_wp2_with fail
  go_ret
  have hI := HR.out
  have hI := hI.other (a := ⟨gl, l * 3, none⟩) hil (.int .i64 r)
  have hI := putB hI (k := r) (r := lk s L r) (itemsL_at s L hrN) (-1)
  have hI := hI.other (a := ⟨gl, l * 3 + 2, none⟩) hil (.int .i64 (n : Int))
  have hI := putABC hI (k := x) (by simpa [itemsL_len] using hx) (-1) (-1) (-1)
  have hY := HJi.out (((itemsL s L N).set r ⟨(lk s L r).a, (-1), (lk s L r).c⟩).set x ⟨-1, -1, -1⟩) (by simp [itemsL_len]) (fun i hi => by
    rw [set_at i (by simpa [itemsL_len] using hx), set_at i (by rw [itemsL_len]; exact hrN), itemsL_at s L hi, hr]
    have hl0 : lastI ([] : List Nat) = -1 := rfl
    rw [hl0]
    by_cases e3 : i = x
    · rw [if_pos e3, if_pos e3]
    rw [if_neg e3, if_neg e3]
    by_cases e1 : i = r
    · rw [if_pos e1, if_neg (by omega), if_pos (by omega), e1]
    rw [if_neg e1]
    rw [if_neg (by omega), if_neg (by omega)])
  rw [hY] at hI
  have hE := HP.out.ends
  have hE := putA hE (k := l) (r := endR s l) (endsL_at s hl) r
  have hE := hE.other (a := ⟨gi, r * 3 + 1, none⟩) hli (.int .i64 (-1))
  have hE := putC hE (k := l) (r := ⟨(r : Int), (endR s l).b, (endR s l).c⟩) (by rw [set_at l (by simpa [endsL_len] using hl), if_pos rfl]) (n : Int)
  have hE := hE.other (a := ⟨gi, x * 3, none⟩) hli (.int .i64 (-1))
  have hE := hE.other (a := ⟨gi, x * 3 + 1, none⟩) hli (.int .i64 (-1))
  have hE := hE.other (a := ⟨gi, x * 3 + 2, none⟩) hli (.int .i64 (-1))
  simp only [List.set_set] at hE
  rw [HJe.out _ (by rw [HJl.out] <;> rfl)] at hE
  have hk := ((((((Kept.refl [gi, gl] w).setCell (p := ⟨gl, l * 3, none⟩) (by simp) (.int .i64 r)).setCell (p := ⟨gi, r * 3 + 1, none⟩) (by simp) (.int .i64 (-1))).setCell (p := ⟨gl, l * 3 + 2, none⟩) (by simp) (.int .i64 (n : Int))).setCell (p := ⟨gi, x * 3, none⟩) (by simp) (.int .i64 (-1))).setCell (p := ⟨gi, x * 3 + 1, none⟩) (by simp) (.int .i64 (-1))).setCell (p := ⟨gi, x * 3 + 2, none⟩) (by simp) (.int .i64 (-1))
  have hres := And.intro (HP.out.anew hk (by omega) hI hE) hk
  simp only [List.nil_append] at hres
  refine ⟨rfl, ?_⟩
  first | (with_reducible exact hres) | (with_reducible exact pdrew hres) | (with_reducible exact pdrew (pdrew hres)) | (with_reducible exact pdrew (pdrew (pdrew hres)))
set_option maxHeartbeats 4000000 in
theorem remove_only (w : World) (p : Nat) (F : List Nat) (N L : Nat) (s : RgS) (A : Option Addr) (gi ci gl cl l x : Nat) (h : Parts w p F N L s A gi ci gl cl) (hok : OkG N L s) (e : s l = [] ++ x :: []) :
    Calls Try.prog 69 #[.pointer (some ⟨p, 0, none⟩), .int .i64 x] w fun e w' => e = .returned (.int .i64 0) ∧ Parts w' p F N L (updL s l ([] ++ [])) A gi ci gl cl ∧ Kept [gi, gl] w w' := by
  have hxm : x ∈ s l := by rw [e]; simp
  have hx : x < N := hok.lt l x hxm
  have hl : l < L := hok.lL hxm
  have HI := Lib.hid (item_calls w p F N L s A gi ci gl cl (x : Int) h hok.n)
  rw [atP_in hx] at HI
  have c0 := h.c0
  have c1 := h.c1
  obtain ⟨rfl, hR, _, hip, hil⟩ := h.items (by omega)
  have hlk := lk_at hok e
  rw [show lastI ([] : List Nat) = -1 from rfl] at hlk
  have fl0 := h.ends.free (l * 3)
  rw [show headI ([] : List Nat) = -1 from rfl] at hlk
  have fl1 := h.ends.free (l * 3 + 1)
  obtain ⟨x0, x1, x2⟩ := h.item hx
  rw [hlk] at x0 x1 x2
  simp only at x0 x1 x2
  obtain ⟨l0, l1, l2⟩ := h.list hl
  have fx0 := hR.free (x * 3)
  have fx1 := hR.free (x * 3 + 1)
  have fx2 := hR.free (x * 3 + 2)
  have fl2 := h.ends.free (l * 3 + 2)
  have hpi : p ≠ gi := Ne.symm hip
  have hli : gl ≠ gi := Ne.symm hil
  have hpl : p ≠ gl := h.ne
  have hlp : gl ≠ p := Ne.symm hpl
  have hlen := hok.len l
  have hn1 : ((s l).length : Int) = (([] ++ [] : List Nat).length : Nat) + 1 := by rw [e]; rfl
  have HJl := Lib.hid (rem_end e)
  have HJe := Lib.hid (fun Y => rem_ends (s := s) (v := [] ++ []) hl (Y := Y))
  have HJi := Lib.hid (rem_items hok e (N := N))
  rw [if_pos rfl, if_pos rfl] at HJl
  rw [show headI ([] : List Nat) = -1 from rfl, show lastI ([] : List Nat) = -1 from rfl] at HJl
  have HP := Lib.hid h
  have HR := Lib.hid hR
  have hN := hok.n
  have hL := hok.l2
  rw [hn1] at l2
  have hm : ([] ++ [] : List Nat).length ≤ N := by omega
  generalize ([] ++ [] : List Nat).length = n at l2 HJl hm
  clear h hR e hok hxm hn1 hlen hlk
  go_enter Try.func69, Try.ntmps69
  go_wp2_with fail
  refine HI.out.mono ?_
  rintro e w1 ⟨rfl, rfl⟩
  go_upto_region 6 with fail
  go_region_held3 (fun w' => w'.cell? ⟨p, 1, none⟩ = some (.slice (some ⟨gl, 0, none⟩) L cl) ∧ w'.cell? ⟨gi, x * 3, none⟩ = some (.int .i64 l)) (go_keep) (fail)
  go_wp2_with fail
  go_ret
  have hI := HR.out
  have hI := hI.other (a := ⟨gl, l * 3, none⟩) hil (.int .i64 (-1))
  have hI := hI.other (a := ⟨gl, l * 3 + 1, none⟩) hil (.int .i64 (-1))
  have hI := hI.other (a := ⟨gl, l * 3 + 2, none⟩) hil (.int .i64 (n : Int))
  have hI := putABC hI (k := x) (by rw [itemsL_len]; exact hx) (-1) (-1) (-1)
  have hY := HJi.out ((itemsL s L N).set x ⟨-1, -1, -1⟩) (by simp [itemsL_len]) (fun i hi => by
    rw [set_at i (by rw [itemsL_len]; exact hx), itemsL_at s L hi]
    have hl0 : lastI ([] : List Nat) = -1 := rfl
    rw [hl0]
    have hh0 : headI ([] : List Nat) = -1 := rfl
    rw [hh0]
    by_cases e3 : i = x
    · rw [if_pos e3, if_pos e3]
    rw [if_neg e3, if_neg e3]
    rw [if_neg (by omega), if_neg (by omega)])
  rw [hY] at hI
  have hE := HP.out.ends
  have hE := putA hE (k := l) (r := endR s l) (endsL_at s hl) (-1)
  have hE := putB hE (k := l) (r := ⟨((-1) : Int), (endR s l).b, (endR s l).c⟩) (by rw [set_at l (by rw [endsL_len]; exact hl), if_pos rfl]) (-1)
  have hE := putC hE (k := l) (r := ⟨((-1) : Int), ((-1) : Int), (endR s l).c⟩) (by rw [set_at l (by simpa [endsL_len] using hl), if_pos rfl]) (n : Int)
  have hE := hE.other (a := ⟨gi, x * 3, none⟩) hli (.int .i64 (-1))
  have hE := hE.other (a := ⟨gi, x * 3 + 1, none⟩) hli (.int .i64 (-1))
  have hE := hE.other (a := ⟨gi, x * 3 + 2, none⟩) hli (.int .i64 (-1))
  simp only [List.set_set] at hE
  rw [HJe.out _ (by rw [HJl.out] <;> rfl)] at hE
  have hk := ((((((Kept.refl [gi, gl] w).setCell (p := ⟨gl, l * 3, none⟩) (by simp) (.int .i64 (-1))).setCell (p := ⟨gl, l * 3 + 1, none⟩) (by simp) (.int .i64 (-1))).setCell (p := ⟨gl, l * 3 + 2, none⟩) (by simp) (.int .i64 (n : Int))).setCell (p := ⟨gi, x * 3, none⟩) (by simp) (.int .i64 (-1))).setCell (p := ⟨gi, x * 3 + 1, none⟩) (by simp) (.int .i64 (-1))).setCell (p := ⟨gi, x * 3 + 2, none⟩) (by simp) (.int .i64 (-1))
  have hres := And.intro (HP.out.anew hk (by omega) hI hE) hk
  simp only [List.append_nil] at hres
  refine ⟨rfl, ?_⟩
  first | (with_reducible exact hres) | (with_reducible exact pdrew hres) | (with_reducible exact pdrew (pdrew hres)) | (with_reducible exact pdrew (pdrew (pdrew hres)))
end Go.Proofs.Ytldlogmjkbhomaa.Rng
