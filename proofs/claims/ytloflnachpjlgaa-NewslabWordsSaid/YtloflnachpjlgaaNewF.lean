/- Slabs of the new layout: row, Check, List, what is read, State. -/
import Derived.Test.YtloflnachpjlgaaNewE
set_option linter.unusedSimpArgs false
namespace Go.Proofs.Ytloflnachpjlgaa.New
open Go.RowKit Go.Proofs.Ytloflnachpjlgaa.Aid Go.Proofs.Ytloflnachpjlgaa.Cell
theorem recs_ints {w : World} {g c : Nat} {vs : List Int} (h : Recs encI 1 w IT g c vs) : Ints w .i64 (some ⟨g, 0, none⟩) vs := fun k hk => by
  have hx : vs[k]? = some (vs.getD k 0) := by rw [List.getD_eq_getElem?_getD, List.getElem?_eq_getElem hk]; rfl
  have := h.at_ encI_len (j := 0) hx rfl
  exact ⟨g, 0, rfl, h.lt, by rw [Nat.zero_add]; simpa using this⟩
theorem hdr_ints {w : World} {v : Value} {vs : List Int} (h : Hdr encI 1 w IT v vs) : ∃ A c, v = .slice A vs.length c ∧ Ints w .i64 A vs ∧ (∀ b o, A = some ⟨b, o, none⟩ → v.ownBlock = some b) := by
  rcases h with ⟨rfl, rfl⟩ | ⟨g, c, rfl, hR⟩
  · exact ⟨none, 0, rfl, fun k hk => by simp at hk, fun b o e => by cases e⟩
  · exact ⟨_, c, rfl, recs_ints hR, fun b o e => by
      injection e with e
      injection e with e1 _ _
      rw [← e1]
      rfl⟩
section
variable (w : World) (p mp mg mc : Nat) (x : Sn) (bs : List Int) (h : SnP w p mp mg mc x bs)
include h
theorem row_calls : Calls Try.prog 73 #[.pointer (some ⟨p, 0, none⟩)] w (RowIs w x.n (listO x bs)) := by
  have HW := Lib.hid (walk_row w p mp mg mc x bs h)
  clear h
  cases ho : listO x bs with
  | none =>
    rw [ho] at HW
    go_enter Try.func73, Try.ntmps73
    go_wp2_with fail
    refine HW.out.mono ?_
    rintro e w1 ⟨rfl, hb⟩
    have H1 := Lib.hid hb
    clear hb
    go_wp2_with fail
    go_ret2
    exact ⟨rfl, H1.out⟩
  | some L =>
    rw [ho] at HW
    go_enter Try.func73, Try.ntmps73
    go_wp2_with fail
    refine HW.out.mono ?_
    rintro e w1 ⟨rp, rg, rc, rfl, hr⟩
    have H1 := Lib.hid hr
    clear hr
    go_wp2_with fail
    go_ret2
    exact ⟨rp, rg, rc, rfl, H1.out⟩
theorem check_calls : Calls Try.prog 33 #[.pointer (some ⟨p, 0, none⟩)] w fun e w' => e = .returned (.int .i64 (if (listO x bs).isSome = true then 0 else 10)) ∧ Below w.heap.size w w' := by
  have HW := Lib.hid (row_calls w p mp mg mc x bs h)
  clear h
  cases ho : listO x bs with
  | none =>
    rw [ho] at HW
    rw [if_neg (by simp)]
    go_enter Try.func33, Try.ntmps33
    go_wp2_with fail
    refine HW.out.mono ?_
    rintro e w1 ⟨rfl, hb⟩
    have H1 := Lib.hid hb
    clear hb
    go_wp2_with fail
    go_ret
    exact ⟨rfl, H1.out⟩
  | some L =>
    rw [ho] at HW
    rw [if_pos (show (some L).isSome = true from rfl)]
    go_enter Try.func33, Try.ntmps33
    go_wp2_with fail
    refine HW.out.mono ?_
    rintro e w1 ⟨rp, rg, rc, rfl, _, _, _, hb⟩
    have H1 := Lib.hid hb
    clear hb
    go_wp2_with fail
    go_ret
    exact ⟨rfl, H1.out⟩
/-- What List answers. -/
def ListGives (w : World) (o : Option (List Nat)) (e : Ending) (w' : World) : Prop := match o with
  | none => e = .returned (.tuple #[.slice none 0 0, .int .i64 10]) ∧ Below w.heap.size w w'
  | some L => ∃ A c, e = .returned (.tuple #[.slice A L.length c, .int .i64 0]) ∧ Ints w' .i64 A (asI L) ∧ (∀ b o, A = some ⟨b, o, none⟩ → w.heap.size ≤ b) ∧ Below w.heap.size w w'
set_option maxHeartbeats 1000000 in
theorem list_calls : Calls Try.prog 26 #[.pointer (some ⟨p, 0, none⟩)] w (ListGives w (listO x bs)) := by
  have hp := h.head.lt
  have hmp := h.mem.head.lt
  have hmg := h.mem.row.lt
  have H := Lib.hid h
  clear h
  go_enter Try.func26, Try.ntmps26
  go_upto_region 2 with fail
  have hb0 := (Below.refl w.heap.size w).alloc (Nat.le_refl _) (.cells #[.slice none 0 0] IS)
  have HW := Lib.hid (walk_list (w.alloc (.cells #[.slice none 0 0] IS)) p mp mg mc x bs (H.out.below hb0) w.heap.size ⟨Blk.new w #[.slice none 0 0] IS, .inl ⟨rfl, rfl⟩, fun g hg => by cases hg⟩ hp hmp hmg)
  have HB := Lib.hid hb0
  clear hb0 hp hmp hmg
  generalize w.alloc (.cells #[.slice none 0 0] IS) = w1 at HW HB ⊢
  have HQ := Lib.hid (show ∃ b, b = w.heap.size from ⟨_, rfl⟩)
  generalize hq : w.heap.size = b at HW HB ⊢
  have HQ := Lib.hid hq
  clear hq
  cases ho : listO x bs with
  | none =>
    rw [ho] at HW
    go_wp2_with fail
    refine HW.out.mono ?_
    rintro e w2 ⟨rfl, hb⟩
    have H2 := Lib.hid (HB.out.trans hb)
    clear hb
    go_wp2_with fail
    go_ret2
    rw [ho]
    exact ⟨rfl, by rw [HQ.out]; exact H2.out⟩
  | some L =>
    rw [ho] at HW
    go_wp2_with fail
    refine HW.out.mono ?_
    rintro e w2 ⟨⟨rp, rfl⟩, ⟨v, hbag⟩, hb⟩
    have H2 := Lib.hid (And.intro hbag (HB.out.trans hb))
    obtain ⟨A, c, rfl, hI, hA⟩ := hdr_ints hbag.row
    have c0 := hbag.box.cell (o := 0) rfl
    have HI := Lib.hid (And.intro hI hA)
    clear hb hbag hI hA
    go_wp2_with fail
    go_ret2
    rw [ho]
    simp only [ListGives]
    rw [HQ.out, ← asI_len L]
    refine ⟨A, c, rfl, HI.out.1, fun b2 o e => ?_, H2.out.2⟩
    have := H2.out.1.far b2 (HI.out.2 b2 o e)
    omega
theorem base_calls : Calls Try.prog 41 #[.pointer (some ⟨p, 0, none⟩)] w fun e w' => e = .returned (.int .i64 x.b) ∧ w = w' := by
  obtain ⟨_, c1, _⟩ := h.cells
  clear h
  go_enter Try.func41, Try.ntmps41
  go_wp2_with fail
  go_ret
  exact ⟨rfl, rfl⟩
theorem class_calls : Calls Try.prog 42 #[.pointer (some ⟨p, 0, none⟩)] w fun e w' => e = .returned (.int .i64 x.c) ∧ w = w' := by
  obtain ⟨_, _, c2, _⟩ := h.cells
  clear h
  go_enter Try.func42, Try.ntmps42
  go_wp2_with fail
  go_ret
  exact ⟨rfl, rfl⟩
theorem size_calls : Calls Try.prog 46 #[.pointer (some ⟨p, 0, none⟩)] w fun e w' => e = .returned (.int .i64 x.z) ∧ w = w' := by
  obtain ⟨_, _, _, c3, _⟩ := h.cells
  clear h
  go_enter Try.func46, Try.ntmps46
  go_wp2_with fail
  go_ret
  exact ⟨rfl, rfl⟩
theorem slots_calls : Calls Try.prog 29 #[.pointer (some ⟨p, 0, none⟩)] w fun e w' => e = .returned (.int .i64 x.n) ∧ w = w' := by
  obtain ⟨_, _, _, _, c4, _⟩ := h.cells
  clear h
  go_enter Try.func29, Try.ntmps29
  go_wp2_with fail
  go_ret
  exact ⟨rfl, rfl⟩
theorem head_calls : Calls Try.prog 44 #[.pointer (some ⟨p, 0, none⟩)] w fun e w' => e = .returned (.int .i64 x.head) ∧ w = w' := by
  obtain ⟨_, _, _, _, _, c5, _⟩ := h.cells
  clear h
  go_enter Try.func44, Try.ntmps44
  go_wp2_with fail
  go_ret
  exact ⟨rfl, rfl⟩
theorem free_calls : Calls Try.prog 38 #[.pointer (some ⟨p, 0, none⟩)] w fun e w' => e = .returned (.int .i64 x.cnt) ∧ w = w' := by
  obtain ⟨_, _, _, _, _, _, c6⟩ := h.cells
  clear h
  go_enter Try.func38, Try.ntmps38
  go_wp2_with fail
  go_ret
  exact ⟨rfl, rfl⟩
theorem state_calls : Calls Try.prog 32 #[.pointer (some ⟨p, 0, none⟩)] w fun e w' => e = .returned (.int .i64 (if x.cnt = x.n then 0 else if x.cnt = 0 then 2 else 1)) ∧ w = w' := by
  obtain ⟨_, _, _, _, c4, _, c6⟩ := h.cells
  clear h
  generalize x.cnt = c at *
  generalize x.n = n at *
  by_cases h0 : c = n
  · subst h0
    rw [if_pos rfl]
    go_enter Try.func32, Try.ntmps32
    go_wp2_with fail
    go_ret
    exact ⟨rfl, rfl⟩
  · rw [if_neg h0]
    have h1 : ((c : Int) == (n : Int)) = false := by rw [beq_eq_false_iff_ne]; omega
    by_cases h2 : c = 0
    · subst h2
      rw [if_pos rfl]
      go_enter Try.func32, Try.ntmps32
      go_wp2_with fail
      go_ret
      exact ⟨rfl, rfl⟩
    · rw [if_neg h2]
      have h3 : ((c : Int) == 0) = false := by rw [beq_eq_false_iff_ne]; omega
      go_enter Try.func32, Try.ntmps32
      go_wp2_with fail
      go_ret
      exact ⟨rfl, rfl⟩
end
end Go.Proofs.Ytloflnachpjlgaa.New
