/- The law's alive (layer 10): pages are set, cleared and told. -/
import Derived.Test.YtldlogmjkbhomaaRadE
import Derived.Laws.StructEq
namespace Go.Proofs.Ytldlogmjkbhomaa.Rad
open Go.RowKit Go.Proofs.Ytldlogmjkbhomaa.Aid Go.Proofs.Ytldlogmjkbhomaa.Pack
/-- A map of the call's own, and blocks that are none of its. -/
structure Hold (w0 w : World) (p : Nat) (F : List Nat) (pages : Nat) (s : RS) (bs : List Nat) : Prop where
  q : RadAt w p F pages s
  base : ∀ x ∈ F, w0.heap.size ≤ x
  below : Below w0.heap.size w0 w
  out : ∀ b ∈ bs, b ∉ F ∧ b < w.heap.size
section
variable {w0 w w' : World} {p pages : Nat} {F : List Nat} {s s' : RS} {bs : List Nat}
theorem Hold.wrote (h : Hold w0 w p F pages s bs) (k : Wrote p F pages s' w w') : ∃ F', Hold w0 w' p F' pages s' bs ∧ Kept F w w' := by
  have hz := h.below.size
  obtain ⟨F', h1, h2, h3⟩ := k
  refine ⟨F', ⟨h1, fun x hx => ?_, below_kept h.below h2 hz h.base, fun b hb => ⟨fun hF => ?_, ?_⟩⟩, h2⟩
  · rcases h3 x hx with e | e
    · exact h.base x e
    · omega
  · obtain ⟨o1, o2⟩ := h.out b hb
    rcases h3 b hF with e | e
    · exact o1 e
    · omega
  · have := h2.size
    have := (h.out b hb).2
    omega
theorem Hold.on (h : Hold w0 w p F pages s bs) (k : Below w.heap.size w w') : Hold w0 w' p F pages s bs :=
  ⟨h.q.below k, h.base, bstep h.below k, fun b hb => ⟨(h.out b hb).1, Nat.lt_of_lt_of_le (h.out b hb).2 k.size⟩⟩
theorem Hold.more (h : Hold w0 w p F pages s bs) (o : Obj) : Hold w0 (w.alloc o) p F pages s (w.heap.size :: bs) := by
  have k := balloc (Below.refl w.heap.size w) o
  have h1 := h.on k
  refine ⟨h1.q, h1.base, h1.below, fun b hb => ?_⟩
  rcases List.mem_cons.1 hb with rfl | hb
  · exact ⟨fun hF => by have := h.q.flt _ hF; omega, by simp⟩
  · exact h1.out b hb
theorem Hold.also {cs : List Nat} (h : Hold w0 w p F pages s bs) (hc : ∀ b ∈ cs, b ∉ F ∧ b < w.heap.size) : Hold w0 w p F pages s (cs ++ bs) :=
  ⟨h.q, h.base, h.below, fun b hb => by
    rcases List.mem_append.1 hb with hb | hb
    · exact hc b hb
    · exact h.out b hb⟩
end
def ae : En := ⟨5, 1, 2, 3⟩
def a1 : RS := setS 200 rs0 5 1 ae
def a2 : RS := setS 200 a1 60 100 ae
def a3 : RS := clrS 200 a2 64 64
theorem c1 : setC 200 5 1 ae = 0 := by decide +kernel
theorem c2 : setC 200 60 100 ae = 0 := by decide +kernel
theorem d1 : clrC 200 a2 64 64 = 0 := by decide +kernel
theorem d2 : clrC 200 a3 64 1 = 16 := by decide +kernel
theorem d2s : clrS 200 a3 64 1 = a3 := by unfold clrS; rw [d2]; rfl
theorem x5 : wordAt 200 a1 5 = 16798759 := by decide +kernel
theorem x63 : wordAt 200 a3 63 = 33575975 := by decide +kernel
theorem x64 : wordAt 200 a3 64 = 0 := by decide +kernel
theorem n3 : a3.st = 3 := by decide +kernel
theorem v2 : leavesW a3.ws (leavesN 200) = 2 := by decide +kernel
theorem k37 : countW a3.ws 200 1 3 = 37 := by decide +kernel
theorem ae64 : En64 ae := ⟨by decide, by decide, by decide, by decide, by decide, by decide, by decide, by decide⟩
theorem g63 : getE 33575975 = .returned (.tuple #[.agg #[.int .i64 5, .int .i64 1, .int .i64 2, .int .i64 3], .bool true]) := rfl
theorem g64 : getE 0 = .returned (.tuple #[.agg #[.int .i64 0, .int .i64 0, .int .i64 0, .int .i64 0], .bool false]) := rfl
set_option maxHeartbeats 8000000 in
set_option maxRecDepth 4000 in
theorem alive_calls (w : World) : Calls Try.prog 12 #[] w fun e w' => e = .returned (.bool true) ∧ Below w.heap.size w w' := by
  go_enter Try.func12, Try.ntmps12
  go_wp2_with fail
  refine (new_yes w 200 (by decide)).mono ?_
  rintro e w1 ⟨p, F, rfl, hQ, hF, hb⟩
  have hH : Hold w w1 p F 200 rs0 [] := ⟨hQ, fun x hx => hF x (by simp [hx]), hb, by simp⟩
  have H1 := Lib.hid (show Hold w (w1.alloc (.cells #[.int .i64 5, .int .i64 1, .int .i64 2, .int .i64 3] 32)) p F 200 rs0 [w1.heap.size] from hH.more _)
  have X1 := Lib.hid (Blk.new w1 #[.int .i64 5, .int .i64 1, .int .i64 2, .int .i64 3] 32)
  clear hQ hF hb hH
  go_upto_region 5 with fail
  generalize w1.alloc (.cells #[.int .i64 5, .int .i64 1, .int .i64 2, .int .i64 3] 32) = w2 at H1 X1 ⊢
  generalize w1.heap.size = q at H1 X1 ⊢
  have y0 := X1.out.cell (o := 0) rfl
  have y1 := X1.out.cell (o := 1) rfl
  have y2 := X1.out.cell (o := 2) rfl
  have y3 := X1.out.cell (o := 3) rfl
  go_wp2_with fail
  refine (set_calls w2 p F 200 rs0 5 1 ae ae64 H1.out.q).mono ?_
  rintro e w3 ⟨he, hW⟩
  rw [c1] at he
  subst he
  obtain ⟨F3, hH, hk⟩ := H1.out.wrote hW
  have X3 := Lib.hid (X1.out.kept hk (H1.out.out q (by simp)).1)
  have H3 := Lib.hid (show Hold w w3 p F3 200 a1 [q] from hH)
  clear hW hH hk H1 X1 y0 y1 y2 y3
  go_wp2_with fail
  refine (rword_calls w3 p F3 200 a1 5 H3.out.q).mono ?_
  rintro e w4 ⟨he, rfl⟩
  rw [x5] at he
  subst he
  have y0 := X3.out.cell (o := 0) rfl
  have y1 := X3.out.cell (o := 1) rfl
  have y2 := X3.out.cell (o := 2) rfl
  have y3 := X3.out.cell (o := 3) rfl
  go_wp2_with fail
  refine (set_calls w3 p F3 200 a1 60 100 ae ae64 H3.out.q).mono ?_
  rintro e w4 ⟨he, hW⟩
  rw [c2] at he
  subst he
  obtain ⟨F4, hH, hk⟩ := H3.out.wrote hW
  have X4 := Lib.hid (X3.out.kept hk (H3.out.out q (by simp)).1)
  have H4 := Lib.hid (show Hold w w4 p F4 200 a2 [q] from hH)
  clear hW hH hk H3 X3 y0 y1 y2 y3
  go_wp2_with fail
  refine (clear_calls w4 p F4 200 a2 64 64 H4.out.q).mono ?_
  rintro e w5 ⟨he, hW⟩
  rw [d1] at he
  subst he
  obtain ⟨F5, hH, hk⟩ := H4.out.wrote hW
  have X5 := Lib.hid (X4.out.kept hk (H4.out.out q (by simp)).1)
  have H5 := Lib.hid (show Hold w w5 p F5 200 a3 [q] from hH)
  clear hW hH hk H4 X4
  go_wp2_with fail
  refine (clear_calls w5 p F5 200 a3 64 1 H5.out.q).mono ?_
  rintro e w6 ⟨he, hW⟩
  rw [d2] at he
  subst he
  rw [d2s] at hW
  obtain ⟨F6, hH, hk⟩ := H5.out.wrote hW
  have X6 := Lib.hid (X5.out.kept hk (H5.out.out q (by simp)).1)
  have H6 := Lib.hid (show Hold w w6 p F6 200 a3 [q] from hH)
  clear hW hH hk H5 X5
  go_wp2_with fail
  refine (get_calls w6 p F6 200 a3 63 H6.out.q).mono ?_
  rintro e w7 ⟨he, hb⟩
  rw [x63, g63] at he
  subst he
  have X7 := Lib.hid (X6.out.below hb)
  have H7 := Lib.hid (H6.out.on hb)
  have hb8 := balloc (Below.refl w7.heap.size w7) (.cells #[.int .i64 5, .int .i64 1, .int .i64 2, .int .i64 3] 32)
  have X8 := Lib.hid (X7.out.below hb8)
  have H8 := Lib.hid (H7.out.on hb8)
  have Y8 := Lib.hid (Blk.new w7 #[.int .i64 5, .int .i64 1, .int .i64 2, .int .i64 3] 32)
  clear hb H6 X6 X7 H7 hb8
  go_upto_region 11 with fail
  generalize w7.alloc (.cells #[.int .i64 5, .int .i64 1, .int .i64 2, .int .i64 3] 32) = w8 at X8 H8 Y8 ⊢
  generalize w7.heap.size = q8 at Y8 ⊢
  go_wp2_with fail
  refine (get_calls w8 p F6 200 a3 64 H8.out.q).mono ?_
  rintro e w9 ⟨he, hb⟩
  rw [x64, g64] at he
  subst he
  have hb8 := bstep (Below.refl w8.heap.size w8) (balloc hb (.cells #[.int .i64 0, .int .i64 0, .int .i64 0, .int .i64 0] 32))
  have X9 := Lib.hid (X8.out.below hb8)
  have H9 := Lib.hid (H8.out.on hb8)
  have Y9 := Lib.hid (Y8.out.below hb8)
  clear hb H8 X8 Y8 hb8
  go_upto_region 12 with fail
  generalize w9.alloc (.cells #[.int .i64 0, .int .i64 0, .int .i64 0, .int .i64 0] 32) = w10 at X9 H9 Y9 ⊢
  generalize w9.heap.size = q10
  have x0 := X9.out.cell (o := 0) rfl
  have x1 := X9.out.cell (o := 1) rfl
  have x2 := X9.out.cell (o := 2) rfl
  have x3 := X9.out.cell (o := 3) rfl
  have y0 := Y9.out.cell (o := 0) rfl
  have y1 := Y9.out.cell (o := 1) rfl
  have y2 := Y9.out.cell (o := 2) rfl
  have y3 := Y9.out.cell (o := 3) rfl
  have CS := Lib.hid ((stamp_calls w10 p F6 200 a3 H9.out.q).mono (R' := fun e w'' => e = .returned (.int .u64 3) ∧ w10 = w'') (fun e w'' h => by rw [n3] at h; exact h))
  have CL := Lib.hid ((leaves_calls w10 p F6 200 a3 H9.out.q).mono (R' := fun e w'' => e = .returned (.int .i64 2) ∧ w10 = w'') (fun e w'' h => by rw [v2] at h; exact h))
  have CC := Lib.hid ((count_calls w10 p F6 200 a3 1 3 H9.out.q).mono (R' := fun e w'' => e = .returned (.int .i64 37) ∧ Below w10.heap.size w10 w'') (fun e w'' h => by rw [k37] at h; exact h))
  go_wp2_with (first
    | (go_at_call 19; (with_reducible refine (Calls.mono CS.out ?_)); rintro e w15 ⟨rfl, rfl⟩)
    | (go_at_call 20; (with_reducible refine (Calls.mono CL.out ?_)); rintro e w15 ⟨rfl, rfl⟩)
    | (go_at_call 25; (with_reducible refine (Calls.mono CC.out ?_)); rintro e w15 ⟨rfl, hb15⟩)
    | fail)
  go_ret
  exact ⟨rfl, (H9.out.on hb15).below⟩
end Go.Proofs.Ytldlogmjkbhomaa.Rad
