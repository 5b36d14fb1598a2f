/- The law's alive: two workers' items are sent, taken, removed. -/
import Derived.Test.YtchnhmcedmicgaaRemG
import Derived.Laws.StructEq
namespace Go.Proofs.Ytchnhmcedmicgaa.Rem
open Go.RowKit Go.Proofs.Ytchnhmcedmicgaa.Aid
def a1 : QRun := sendS 3 (q0 3) 1 0 64
def a2 : QRun := sendS 3 a1 2 0 128
def a3 : QRun := sendS 3 a2 1 0 192
def a4 : QRun := takeS 3 a3 0
def a5 : QRun := remS a4 128
def a6 : QRun := takeS 3 a5 0
theorem c1 : sendC 3 (q0 3) 1 0 64 = 0 := by decide +kernel
theorem c2 : sendC 3 a1 2 0 128 = 0 := by decide +kernel
theorem c3 : sendC 3 a2 1 0 192 = 0 := by decide +kernel
theorem c4 : sendC 3 a3 1 2 64 = 15 := by decide +kernel
theorem c4s : sendS 3 a3 1 2 64 = a3 := by unfold sendS; rw [c4]; rfl
theorem t1 : takeV 3 a3 0 = some ⟨1, 64, 1⟩ := rfl
theorem r1 : remV a4 128 = true := by decide +kernel
theorem t2 : takeV 3 a5 0 = some ⟨1, 192, 2⟩ := rfl
theorem t3 : takeV 3 a6 0 = none := rfl
theorem t3s : takeS 3 a6 0 = a6 := rfl
theorem l4 : rowI 3 a4 0 = [⟨2, 128, 1⟩, ⟨1, 192, 2⟩] := rfl
theorem n6 : total a6 = 0 := rfl
theorem n4 : total a4 = 2 := rfl
theorem w4 : whrV a4 192 = 0 := rfl
theorem w6 : whrV a6 192 = -1 := rfl
theorem s6 : a6.sent 1 0 = 2 := by decide +kernel
/-- The queues, and blocks that are none of theirs. -/
structure Hold (w0 w : World) (p : Nat) (F : List Nat) (n m : Nat) (s : QRun) (bs : List Nat) : Prop where
  q : QAt w p F n m s
  base : ∀ x ∈ F, w0.heap.size ≤ x
  below : Below w0.heap.size w0 w
  out : ∀ b ∈ bs, b ∉ F ∧ b < w.heap.size
theorem Hold.wrote {w0 w w' : World} {p : Nat} {F : List Nat} {n m m' : Nat} {s s' : QRun} {bs : List Nat} (h : Hold w0 w p F n m s bs) (k : Wrote p F n m' s' w w') : ∃ F', Hold w0 w' p F' n m' s' bs ∧ Kept F w w' := by
  obtain ⟨F', h1, h2, h3⟩ := k
  have hz := h.below.size
  refine ⟨F', ⟨h1, fun x hx => ?_, below_kept h.below h2 hz h.base, fun b hb => ⟨fun hF => ?_, ?_⟩⟩, h2⟩
  · rcases h3 x hx with e | e
    · exact h.base x e
    · omega
  · obtain ⟨o1, o2⟩ := h.out b hb
    rcases h3 b hF with e | e
    · exact o1 e
    · omega
  · have := h2.size
    have := (h.out b hb).2
    omega
theorem Hold.on {w0 w w' : World} {p : Nat} {F : List Nat} {n m : Nat} {s : QRun} {bs : List Nat} (h : Hold w0 w p F n m s bs) (k : Below w.heap.size w w') : Hold w0 w' p F n m s bs :=
  ⟨h.q.below k, h.base, below_then h.below k, fun b hb => ⟨(h.out b hb).1, Nat.lt_of_lt_of_le (h.out b hb).2 k.size⟩⟩
theorem Hold.more {w0 w : World} {p : Nat} {F : List Nat} {n m : Nat} {s : QRun} {bs : List Nat} (h : Hold w0 w p F n m s bs) (o : Obj) : Hold w0 (w.alloc o) p F n m s (w.heap.size :: bs) := by
  have k := (Below.refl w.heap.size w).alloc (Nat.le_refl _) o
  have h1 := h.on k
  refine ⟨h1.q, h1.base, h1.below, fun b hb => ?_⟩
  rcases List.mem_cons.1 hb with rfl | hb
  · exact ⟨fun hF => by have := h.q.flt _ hF; omega, by simp⟩
  · exact h1.out b hb
theorem Hold.also {w0 w : World} {p : Nat} {F : List Nat} {n m : Nat} {s : QRun} {bs cs : List Nat} (h : Hold w0 w p F n m s bs) (hc : ∀ b ∈ cs, b ∉ F ∧ b < w.heap.size) : Hold w0 w p F n m s (cs ++ bs) :=
  ⟨h.q, h.base, h.below, fun b hb => by
    rcases List.mem_append.1 hb with hb | hb
    · exact hc b hb
    · exact h.out b hb⟩
theorem blk_kept {w w' : World} {F : List Nat} {b : Nat} {cs : Array Value} {T : TypeId} (h : Blk w b cs T) (k : Kept F w w') (hb : b ∉ F) : Blk w' b cs T := h.kept k hb
set_option maxHeartbeats 8000000 in
set_option maxRecDepth 4000 in
theorem alive_calls (w : World) : Calls Try.prog 49 #[] w fun e w' => e = .returned (.bool true) ∧ Below w.heap.size w w' := by
  go_enter Try.func49, Try.ntmps49
  go_wp2_with fail
  refine (new_yes w 3 (by decide) (by decide)).mono ?_
  rintro e w1 ⟨p, F, rfl, hQ, hF, hb⟩
  have H1 := Lib.hid (show Hold w w1 p F 3 0 (q0 3) [] from ⟨hQ, fun x hx => hF x (by simp [hx]), hb, by simp⟩)
  clear hQ hF hb
  go_wp2_with fail
  refine (send_calls w1 p F 3 0 (q0 3) 1 0 64 H1.out.q (by decide)).mono ?_
  rintro e w2 ⟨he, hW⟩
  rw [c1] at he
  subst he
  obtain ⟨F2, hH, _⟩ := H1.out.wrote hW
  have H2 := Lib.hid (show Hold w w2 p F2 3 1 a1 [] from hH)
  clear hW hH H1
  go_wp2_with fail
  refine (send_calls w2 p F2 3 1 a1 2 0 128 H2.out.q (by decide)).mono ?_
  rintro e w3 ⟨he, hW⟩
  rw [c2] at he
  subst he
  obtain ⟨F3, hH, _⟩ := H2.out.wrote hW
  have H3 := Lib.hid (show Hold w w3 p F3 3 2 a2 [] from hH)
  clear hW hH H2
  go_wp2_with fail
  refine (send_calls w3 p F3 3 2 a2 1 0 192 H3.out.q (by decide)).mono ?_
  rintro e w4 ⟨he, hW⟩
  rw [c3] at he
  subst he
  obtain ⟨F4, hH, _⟩ := H3.out.wrote hW
  have H4 := Lib.hid (show Hold w w4 p F4 3 3 a3 [] from hH)
  clear hW hH H3
  go_wp2_with fail
  refine (send_calls w4 p F4 3 3 a3 1 2 64 H4.out.q (by decide)).mono ?_
  rintro e w5 ⟨he, hW⟩
  rw [c4] at he
  subst he
  rw [c4s] at hW
  obtain ⟨F5, hH, _⟩ := H4.out.wrote hW
  have H5 := Lib.hid hH
  clear hW hH H4
  go_wp2_with fail
  refine (take_calls w5 p F5 3 4 a3 0 H5.out.q).mono ?_
  rintro e w6 ⟨he, hW⟩
  rw [show (Value.tuple #[itV (takeV 3 a3 0), .bool (takeV 3 a3 0).isSome]) = .tuple #[.agg #[.int .i64 1, .int .i64 64, .int .i64 1], .bool true] from rfl] at he
  subst he
  obtain ⟨F6, hH, _⟩ := H5.out.wrote hW
  have H6 := Lib.hid (show Hold w (w6.alloc (.cells #[.int .i64 1, .int .i64 64, .int .i64 1] IT)) p F6 3 4 a4 [w6.heap.size] from hH.more _)
  have X6 := Lib.hid (Blk.new w6 #[.int .i64 1, .int .i64 64, .int .i64 1] IT)
  clear hW hH H5
  go_upto_region 9 with fail
  generalize w6.alloc (.cells #[.int .i64 1, .int .i64 64, .int .i64 1] IT) = w7 at H6 X6 ⊢
  generalize w6.heap.size = q7 at H6 X6 ⊢
  go_wp2_with fail
  refine (clone_calls w7 p F6 3 4 a4 H6.out.q).mono ?_
  rintro e w8 ⟨p2, rfl, G, hQ2, hG, hb⟩
  have HG := Lib.hid (show ∀ x ∈ G, x ∉ F6 from fun x hx hx2 => by have := hG x hx; have := H6.out.q.flt x hx2; omega)
  have H8 := Lib.hid (show Hold w w8 p F6 3 4 a4 (G ++ [q7]) from (H6.out.on hb).also fun b hb2 => ⟨HG.out b hb2, hQ2.flt b hb2⟩)
  have X8 := Lib.hid (X6.out.below hb)
  have Q8 := Lib.hid hQ2
  clear hQ2 hG hb H6 X6 HG
  go_wp2_with fail
  refine (remove_calls w8 p F6 3 4 a4 128 (okI_at (by decide) (by decide)) H8.out.q).mono ?_
  rintro e w9 ⟨he, hW⟩
  rw [r1] at he
  subst he
  obtain ⟨F9, hH, hk⟩ := H8.out.wrote hW
  have X9 := Lib.hid (X8.out.kept hk (H8.out.out q7 (by simp)).1)
  have Q9 := Lib.hid (Q8.out.kept hk fun x hx => (H8.out.out x (by simp [hx])).1)
  have H9 := Lib.hid (show Hold w w9 p F9 3 4 a5 (G ++ [q7]) from hH)
  clear hW hH hk H8 X8 Q8
  go_wp2_with fail
  refine (take_calls w9 p F9 3 4 a5 0 H9.out.q).mono ?_
  rintro e w10 ⟨he, hW⟩
  rw [show (Value.tuple #[itV (takeV 3 a5 0), .bool (takeV 3 a5 0).isSome]) = .tuple #[.agg #[.int .i64 1, .int .i64 192, .int .i64 2], .bool true] from rfl] at he
  subst he
  obtain ⟨F10, hH, hk⟩ := H9.out.wrote hW
  have hb10 := (Below.refl w10.heap.size w10).alloc (Nat.le_refl _) (.cells #[.int .i64 1, .int .i64 192, .int .i64 2] IT)
  have X10 := Lib.hid ((X9.out.kept hk (H9.out.out q7 (by simp)).1).below hb10)
  have Q10 := Lib.hid ((Q9.out.kept hk fun x hx => (H9.out.out x (by simp [hx])).1).below hb10)
  have H10 := Lib.hid (show Hold w (w10.alloc (.cells #[.int .i64 1, .int .i64 192, .int .i64 2] IT)) p F10 3 4 a6 (w10.heap.size :: (G ++ [q7])) from hH.more _)
  have Y10 := Lib.hid (Blk.new w10 #[.int .i64 1, .int .i64 192, .int .i64 2] IT)
  clear hW hH hk hb10 H9 X9 Q9
  go_upto_region 12 with fail
  generalize w10.alloc (.cells #[.int .i64 1, .int .i64 192, .int .i64 2] IT) = w11 at H10 X10 Q10 Y10 ⊢
  generalize w10.heap.size = q11 at H10 Y10 ⊢
  go_wp2_with fail
  refine (take_calls w11 p F10 3 4 a6 0 H10.out.q).mono ?_
  rintro e w12 ⟨he, hW⟩
  rw [show (Value.tuple #[itV (takeV 3 a6 0), .bool (takeV 3 a6 0).isSome]) = .tuple #[.agg #[.int .i64 0, .int .i64 0, .int .i64 0], .bool false] from rfl] at he
  subst he
  rw [t3s] at hW
  obtain ⟨F12, hH, hk⟩ := H10.out.wrote hW
  have hb12 := (Below.refl w12.heap.size w12).alloc (Nat.le_refl _) (.cells #[.int .i64 0, .int .i64 0, .int .i64 0] IT)
  have X12 := Lib.hid ((X10.out.kept hk (H10.out.out q7 (by simp)).1).below hb12)
  have Y12 := Lib.hid ((Y10.out.kept hk (H10.out.out q11 (by simp)).1).below hb12)
  have Q12 := Lib.hid ((Q10.out.kept hk fun x hx => (H10.out.out x (by simp [hx])).1).below hb12)
  have H12 := Lib.hid (hH.on hb12)
  clear hW hH hk hb12 H10 X10 Q10 Y10
  go_upto_region 13 with fail
  generalize w12.alloc (.cells #[.int .i64 0, .int .i64 0, .int .i64 0] IT) = w13 at H12 X12 Q12 Y12 ⊢
  generalize w12.heap.size = q13
  go_wp2_with fail
  refine (all_calls w13 p2 G 3 4 a4 0 Q12.out).mono ?_
  rintro e w14 ⟨hd, rfl, hH, _, hb⟩
  rw [l4] at hH
  obtain ⟨g, c, rfl, hR⟩ : ∃ g c, hd = .slice (some ⟨g, 0, none⟩) 2 c ∧ Recs encI 3 w14 IT g c [⟨2, 128, 1⟩, ⟨1, 192, 2⟩] := by
    rcases hH with ⟨_, h0⟩ | ⟨g, c, e, h0⟩
    · cases h0
    · exact ⟨g, c, e, h0⟩
  have HR := Lib.hid (rec_cells hR (k := 0) rfl)
  have X14 := Lib.hid (X12.out.below hb)
  have Y14 := Lib.hid (Y12.out.below hb)
  have Q14 := Lib.hid (Q12.out.below hb)
  have H14 := Lib.hid (H12.out.on hb)
  clear hH hR hb X12 Y12 Q12 H12
  have x0 := X14.out.cell (o := 0) rfl
  have x1 := X14.out.cell (o := 1) rfl
  have x2 := X14.out.cell (o := 2) rfl
  have y0 := Y14.out.cell (o := 0) rfl
  have y1 := Y14.out.cell (o := 1) rfl
  have y2 := Y14.out.cell (o := 2) rfl
  have z1 := HR.out.2.1
  rw [Nat.zero_mul, Nat.zero_add] at z1
  have CT := Lib.hid ((total_calls w14 p F12 3 4 a6 H14.out.q).mono (R' := fun e w'' => e = .returned (.int .i64 0) ∧ w14 = w'') (fun e w'' h => h))
  have CT2 := Lib.hid ((total_calls w14 p2 G 3 4 a4 Q14.out).mono (R' := fun e w'' => e = .returned (.int .i64 2) ∧ w14 = w'') (fun e w'' h => h))
  have CL := Lib.hid ((len_calls w14 p2 G 3 4 a4 0 Q14.out).mono (R' := fun e w'' => e = .returned (.int .i64 2) ∧ w14 = w'') (fun e w'' h => h))
  have CW := Lib.hid ((where_calls w14 p2 G 3 4 a4 192 (okI_at (by decide) (by decide)) Q14.out).mono (R' := fun e w'' => e = .returned (.int .i64 0) ∧ w14 = w'') (fun e w'' h => h))
  have CW2 := Lib.hid ((where_calls w14 p F12 3 4 a6 192 (okI_at (by decide) (by decide)) H14.out.q).mono (R' := fun e w'' => e = .returned (.int .i64 (-1)) ∧ w14 = w'') (fun e w'' h => h))
  have CS := Lib.hid ((sent_calls w14 p F12 3 4 a6 1 0 (okI_at (by decide) (by decide)) (okI_at (by decide) (by decide)) H14.out.q).mono (R' := fun e w'' => e = .returned (.int .i64 2) ∧ w14 = w'') (fun e w'' h => by rw [s6] at h; exact h))
  have CK := Lib.hid ((workers_calls w14 p F12 3 4 a6 H14.out.q).mono (R' := fun e w'' => e = .returned (.int .i64 3) ∧ w14 = w'') (fun e w'' h => h))
  go_wp2_with (first
    | (go_at_call 56; (with_reducible refine (Calls.mono CT.out ?_)); rintro e w15 ⟨rfl, rfl⟩)
    | (go_at_call 56; (with_reducible refine (Calls.mono CT2.out ?_)); rintro e w15 ⟨rfl, rfl⟩)
    | (go_at_call 55; (with_reducible refine (Calls.mono CL.out ?_)); rintro e w15 ⟨rfl, rfl⟩)
    | (go_at_call 60; (with_reducible refine (Calls.mono CW.out ?_)); rintro e w15 ⟨rfl, rfl⟩)
    | (go_at_call 60; (with_reducible refine (Calls.mono CW2.out ?_)); rintro e w15 ⟨rfl, rfl⟩)
    | (go_at_call 53; (with_reducible refine (Calls.mono CS.out ?_)); rintro e w15 ⟨rfl, rfl⟩)
    | (go_at_call 67; (with_reducible refine (Calls.mono CK.out ?_)); rintro e w15 ⟨rfl, rfl⟩)
    | fail)
  go_ret
  exact ⟨rfl, H14.out.below⟩
end Go.Proofs.Ytchnhmcedmicgaa.Rem
