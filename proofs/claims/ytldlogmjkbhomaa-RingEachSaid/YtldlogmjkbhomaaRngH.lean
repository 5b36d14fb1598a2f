/- The contract of the law's told: a call on both. -/
import Derived.Test.YtldlogmjkbhomaaRngU
set_option linter.unusedSimpArgs false
namespace Go.Proofs.Ytldlogmjkbhomaa.Rng
open Go.RowKit Go.Proofs.Ytldlogmjkbhomaa.Aid
abbrev CT : TypeId := 65
def toldS (N L : Nat) (s : RgS) (c : R3) : RgS := if c.a = 0 then putS s N L c.b c.c true else if c.a = 1 then putS s N L c.b c.c false else if c.a = 2 then remS s N L c.c else if c.a = 3 then popS s N L c.b else s
/-- Both that a law has. -/
structure Both (w : World) (p q : Nat) (F G : List Nat) (N L : Nat) (s : RgS) : Prop where
  rng : RngAt w p F N L s
  ref : LAt w q G N L s
  dis : ∀ x ∈ F, x ∉ G
theorem Both.below {w w' : World} {p q N L : Nat} {F G : List Nat} {s : RgS} (h : Both w p q F G N L s) (k : Below w.heap.size w w') : Both w' p q F G N L s := ⟨h.rng.below k, h.ref.below k, h.dis⟩
theorem Both.kept {w w' : World} {p q N L : Nat} {F G H : List Nat} {s : RgS} (h : Both w p q F G N L s) (k : Kept H w w') (h1 : ∀ x ∈ F, x ∉ H) (h2 : ∀ x ∈ G, x ∉ H) : Both w' p q F G N L s := ⟨h.rng.kept k h1, h.ref.kept k h2, h.dis⟩
/-- What told leaves. -/
def Told (w : World) (p q : Nat) (F G : List Nat) (N L : Nat) (s' : RgS) (w' : World) : Prop := ∃ G', Both w' p q F G' N L s' ∧ Kept (F ++ G) w w' ∧ ∀ x ∈ G', x ∈ G ∨ w.heap.size ≤ x
/-- One writes, then the other. -/
theorem told_of {w w0 w1 w2 : World} {p q N L : Nat} {F G : List Nat} {s s' : RgS} (h : Both w p q F G N L s) (hb : Below w.heap.size w w0) (h1 : Wrote p F N L s' w0 w1) (h2 : LWrote q G N L s' w1 w2) : Told w p q F G N L s' w2 := by
  obtain ⟨G', hL, hK, hG⟩ := h2
  have hfl := h.rng.flt
  have hz : w.heap.size ≤ w1.heap.size := Nat.le_trans hb.size h1.2.size
  refine ⟨G', ⟨h1.1.kept hK fun x hx => h.dis x hx, hL, fun x hx hx2 => ?_⟩, ?_, fun x hx => ?_⟩
  · rcases hG x hx2 with e | e
    · exact h.dis x hx e
    · have := hfl x hx; omega
  · exact ((Kept.of_below hb (F ++ G)).trans (h1.2.mono fun x hx => List.mem_append_left _ hx)).trans (hK.mono fun x hx => List.mem_append_right _ hx)
  · rcases hG x hx with e | e
    · exact .inl e
    · exact .inr (by omega)
theorem told_same {w w' : World} {p q N L : Nat} {F G : List Nat} {s : RgS} (h : Both w p q F G N L s) (hb : Below w.heap.size w w') : Told w p q F G N L s w' :=
  ⟨G, h.below hb, Kept.of_below hb _, fun _ hx => .inl hx⟩
section
variable (w : World) (p q : Nat) (F G : List Nat) (N L : Nat) (s : RgS)
theorem undrewK {F : List Nat} {a w : World} (h : Kept F a.drew w) : Kept F a w := ⟨h.os, h.tape, h.output, h.size, h.block⟩
theorem keepc {w w' : World} {b : Nat} {c : R3} {F : List Nat} (k : Kept F w w') (hb : b ∉ F) (h : Blk w b (enc3 c).toArray CT) : Blk w' b (enc3 c).toArray CT := h.kept k hb
theorem cells3 {w : World} {b : Nat} {c : R3} (h : Blk w b (enc3 c).toArray CT) : w.cell? ⟨b, 0, none⟩ = some (.int .i64 c.a) ∧ w.cell? ⟨b, 1, none⟩ = some (.int .i64 c.b) ∧ w.cell? ⟨b, 2, none⟩ = some (.int .i64 c.c) :=
  ⟨h.cell (o := 0) rfl, h.cell (o := 1) rfl, h.cell (o := 2) rfl⟩
set_option maxRecDepth 20000 in
set_option maxHeartbeats 4000000 in
theorem told_calls (c : R3) (h : Both w p q F G N L s) :
    Calls Try.prog 32 #[.pointer (some ⟨p, 0, none⟩), .pointer (some ⟨q, 0, none⟩), .agg #[.int .i64 c.a, .int .i64 c.b, .int .i64 c.c]] w fun e w' => e = .returned (.bool true) ∧ Told w p q F G N L (toldS N L s c) w' := by
  obtain ⟨ca, cb, cx⟩ := c
  simp only
  have hb0 := (Below.refl w.heap.size w).alloc (Nat.le_refl _) (.cells #[.int .i64 ca, .int .i64 cb, .int .i64 cx] CT)
  have hB0 : Blk (w.alloc (.cells #[.int .i64 ca, .int .i64 cb, .int .i64 cx] CT)) w.heap.size (enc3 ⟨ca, cb, cx⟩).toArray CT := Blk.new w _ CT
  have h0 := h.below hb0
  have HH := Lib.hid h
  have hbF : w.heap.size ∉ F := fun hx => Nat.lt_irrefl _ (h.rng.flt _ hx)
  have hbG : w.heap.size ∉ G := fun hx => Nat.lt_irrefl _ (h.ref.flt _ hx)
  have HB0 := Lib.hid hb0
  have HF := Lib.hid (And.intro hbF hbG)
  have HBk := Lib.hid hB0
  have H0 := Lib.hid h0
  have hdis := Lib.hid h.dis
  unfold toldS
  by_cases g0 : ca = 0
  · rw [if_pos g0]; subst g0
    have HW1 := Lib.hid (push_calls _ p F N L s cb cx h0.rng.drew)
    have HW2 := Lib.hid (fun (W : World) (hW : LAt W q G N L s) => rput_calls W q G N L s cb cx true hW)
    clear h h0 hb0 hB0 hbF hbG
    go_enter Try.func32, Try.ntmps32
    go_upto_region 3 with fail
    generalize w.alloc (.cells #[.int .i64 0, .int .i64 cb, .int .i64 cx] CT) = w0 at HB0 HBk H0 HW1 ⊢
    have HK0 := Lib.hid (cells3 HBk.out)
    generalize hbe : w.heap.size = b0 at HF HBk HK0 ⊢
    clear hbe
    go_cut [6] (fun v wc => v = .bool true ∧ Told w p q F G N L (putS s N L cb cx true) wc)
    case first =>
      go_region_held3 (fun w' => w'.cell? ⟨b0, 0, none⟩ = some (.int .i64 0) ∧ w'.cell? ⟨b0, 1, none⟩ = some (.int .i64 cb) ∧ w'.cell? ⟨b0, 2, none⟩ = some (.int .i64 cx))
        (first | exact HK2.out | exact HK1.out | exact HK0.out)
        ((first
          | (go_at_call 66; (refine (Calls.mono HW1.out ?_)); rintro e w1 ⟨rfl, hW1⟩; have HX1 := Lib.hid hW1; have HBk1 := Lib.hid (keepc (undrewK hW1.2) HF.out.1 HBk.out); have HK1 := Lib.hid (cells3 HBk1.out); have HL1 := Lib.hid (H0.out.ref.kept (undrewK hW1.2) fun x hx hx2 => H0.out.dis x hx2 hx); clear hW1)
          | (go_at_call 72; (refine (Calls.mono (HW2.out _ HL1.out) ?_)); rintro e w2 ⟨rfl, hW2⟩; have HX2 := Lib.hid hW2; have HK2 := Lib.hid (cells3 (by obtain ⟨_, _, hk, _⟩ := hW2; exact keepc hk HF.out.2 HBk1.out)); clear hW2)))
      all_goals
        go_wp2_with fail
        go_meet
        exact ⟨rfl, told_of HH.out HB0.out.drew HX1.out HX2.out⟩
    case rest =>
    obtain ⟨rfl, hT⟩ := hcut
    have HT := Lib.hid hT
    clear hT
    go_wp2_with fail
    go_ret
    exact ⟨rfl, HT.out⟩
  · rw [if_neg g0]
    by_cases g1 : ca = 1
    · rw [if_pos g1]; subst g1
      have HW1 := Lib.hid (append_calls _ p F N L s cb cx h0.rng.drew)
      have HW2 := Lib.hid (fun (W : World) (hW : LAt W q G N L s) => rput_calls W q G N L s cb cx false hW)
      clear h h0 hb0 hB0 hbF hbG
      go_enter Try.func32, Try.ntmps32
      go_upto_region 5 with fail
      generalize w.alloc (.cells #[.int .i64 1, .int .i64 cb, .int .i64 cx] CT) = w0 at HB0 HBk H0 HW1 ⊢
      have HK0 := Lib.hid (cells3 HBk.out)
      generalize hbe : w.heap.size = b0 at HF HBk HK0 ⊢
      clear hbe
      go_cut [6] (fun v wc => v = .bool true ∧ Told w p q F G N L (putS s N L cb cx false) wc)
      case first =>
        go_region_held3 (fun w' => w'.cell? ⟨b0, 0, none⟩ = some (.int .i64 1) ∧ w'.cell? ⟨b0, 1, none⟩ = some (.int .i64 cb) ∧ w'.cell? ⟨b0, 2, none⟩ = some (.int .i64 cx))
          (first | exact HK2.out | exact HK1.out | exact HK0.out)
          ((first
            | (go_at_call 67; (refine (Calls.mono HW1.out ?_)); rintro e w1 ⟨rfl, hW1⟩; have HX1 := Lib.hid hW1; have HBk1 := Lib.hid (keepc (undrewK hW1.2) HF.out.1 HBk.out); have HK1 := Lib.hid (cells3 HBk1.out); have HL1 := Lib.hid (H0.out.ref.kept (undrewK hW1.2) fun x hx hx2 => H0.out.dis x hx2 hx); clear hW1)
            | (go_at_call 72; (refine (Calls.mono (HW2.out _ HL1.out) ?_)); rintro e w2 ⟨rfl, hW2⟩; have HX2 := Lib.hid hW2; have HK2 := Lib.hid (cells3 (by obtain ⟨_, _, hk, _⟩ := hW2; exact keepc hk HF.out.2 HBk1.out)); clear hW2)))
        all_goals
          go_wp2_with fail
          go_meet
          exact ⟨rfl, told_of HH.out HB0.out.drew HX1.out HX2.out⟩
      case rest =>
      obtain ⟨rfl, hT⟩ := hcut
      have HT := Lib.hid hT
      clear hT
      go_wp2_with fail
      go_ret
      exact ⟨rfl, HT.out⟩
    · rw [if_neg g1]
      by_cases g2 : ca = 2
      · rw [if_pos g2]; subst g2
        have HW1 := Lib.hid (remove_calls _ p F N L s cx h0.rng.drew)
        have HW2 := Lib.hid (fun (W : World) (hW : LAt W q G N L s) => rremove_calls W q G N L s cx hW)
        clear h h0 hb0 hB0 hbF hbG
        go_enter Try.func32, Try.ntmps32
        go_upto_region 7 with fail
        generalize w.alloc (.cells #[.int .i64 2, .int .i64 cb, .int .i64 cx] CT) = w0 at HB0 HBk H0 HW1 ⊢
        have HK0 := Lib.hid (cells3 HBk.out)
        generalize hbe : w.heap.size = b0 at HF HBk HK0 ⊢
        clear hbe
        go_cut [6] (fun v wc => v = .bool true ∧ Told w p q F G N L (remS s N L cx) wc)
        case first =>
          go_region_held3 (fun w' => w'.cell? ⟨b0, 0, none⟩ = some (.int .i64 2) ∧ w'.cell? ⟨b0, 1, none⟩ = some (.int .i64 cb) ∧ w'.cell? ⟨b0, 2, none⟩ = some (.int .i64 cx))
            (first | exact HK2.out | exact HK1.out | exact HK0.out)
            ((first
              | (go_at_call 69; (refine (Calls.mono HW1.out ?_)); rintro e w1 ⟨rfl, hW1⟩; have HX1 := Lib.hid hW1; have HBk1 := Lib.hid (keepc (undrewK hW1.2) HF.out.1 HBk.out); have HK1 := Lib.hid (cells3 HBk1.out); have HL1 := Lib.hid (H0.out.ref.kept (undrewK hW1.2) fun x hx hx2 => H0.out.dis x hx2 hx); clear hW1)
              | (go_at_call 73; (refine (Calls.mono (HW2.out _ HL1.out) ?_)); rintro e w2 ⟨rfl, hW2⟩; have HX2 := Lib.hid hW2; have HK2 := Lib.hid (cells3 (by obtain ⟨_, _, hk, _⟩ := hW2; exact keepc hk HF.out.2 HBk1.out)); clear hW2)))
          all_goals
            go_wp2_with fail
            go_meet
            exact ⟨rfl, told_of HH.out HB0.out.drew HX1.out HX2.out⟩
        case rest =>
        obtain ⟨rfl, hT⟩ := hcut
        have HT := Lib.hid hT
        clear hT
        go_wp2_with fail
        go_ret
        exact ⟨rfl, HT.out⟩
      · rw [if_neg g2]
        by_cases g3 : ca = 3
        · rw [if_pos g3]; subst g3
          have HA := Lib.hid (rall_calls _ q G N L s cb h0.ref)
          have HP := Lib.hid (pop_calls _ p F N L s cb h0.rng)
          cases hls : lsI s L cb with
          | nil =>
            have hp2 : popS s N L cb = s := by unfold popS; rw [hls, if_pos rfl]
            rw [hls, show headI ([] : List Nat) = -1 from rfl] at HP
            rw [hls] at HA
            rw [hp2] at HP ⊢
            clear h h0 hb0 hB0 hbF hbG g0 g1 g2 hls hp2
            go_enter Try.func32, Try.ntmps32
            go_wp2_with fail
            refine HA.out.mono ?_
            rintro e w1 ⟨⟨hd, rfl, hH, _⟩, rfl⟩
            obtain ⟨A, c, rfl, _⟩ := Hdr.open1 hH
            clear hH
            go_wp2_with fail
            refine HP.out.mono ?_
            rintro e w1 ⟨rfl, hW1⟩
            have HT := Lib.hid (told_of HH.out HB0.out hW1 (lwrote_same (H0.out.ref.kept hW1.2 fun x hx hx2 => H0.out.dis x hx2 hx)))
            clear hW1
            go_wp2_with fail
            go_ret
            exact ⟨rfl, HT.out⟩
          | cons x t =>
            have hp2 : popS s N L cb = remS s N L x := by unfold popS; rw [hls, if_neg (by simp)]; rfl
            rw [hls, show headI (x :: t) = (x : Int) from rfl, show (((x : Nat) : Int) != -1) = true by simp] at HP
            rw [hls] at HA
            rw [hp2] at HP ⊢
            have HR := Lib.hid (fun (W : World) (hW : LAt W q G N L s) => rremove_calls W q G N L s x hW)
            have hlen : (0 : Int) < ((t.length + 1 : Nat) : Int) := by omega
            clear h h0 hb0 hB0 hbF hbG g0 g1 g2 hls hp2
            go_enter Try.func32, Try.ntmps32
            go_wp2_with fail
            refine HA.out.mono ?_
            rintro e w1 ⟨⟨hd, rfl, hH, hg⟩, rfl⟩
            have HH1 := Lib.hid hH
            have HG1 := Lib.hid hg
            obtain ⟨A, c, rfl, hat⟩ := Hdr.open1 hH
            obtain ⟨g, rfl, _⟩ := hat 0 x rfl
            clear hH hat hg
            go_wp2_with fail
            refine HP.out.mono ?_
            rintro e w1 ⟨rfl, hW1⟩
            have hc0 : w1.cell? ⟨g, 0, none⟩ = some (.int .i64 x) := by
              obtain ⟨A', c', e1, h2⟩ := Hdr.open1 (HH1.out.kept hW1.2 fun g' hg' hF => H0.out.dis g' hF (HG1.out g' hg'))
              obtain ⟨g', e3, h4⟩ := h2 0 x rfl
              subst e3
              injection e1 with e1
              injection e1 with e1
              injection e1 with e1
              subst e1
              exact h4
            have HL1 := Lib.hid (H0.out.ref.kept hW1.2 fun x hx hx2 => H0.out.dis x hx2 hx)
            have HX1 := Lib.hid hW1
            clear hW1
            go_wp2_with fail
            refine (HR.out _ HL1.out).mono ?_
            rintro e w2 ⟨rfl, hW2⟩
            have HT := Lib.hid (told_of HH.out HB0.out HX1.out hW2)
            clear hW2
            go_wp2_with fail
            go_ret
            exact ⟨rfl, HT.out⟩
        · rw [if_neg g3]
          clear h h0 hb0 hB0 hbF hbG
          go_enter Try.func32, Try.ntmps32
          go_wp2
          go_ret
          exact ⟨rfl, told_same HH.out HB0.out⟩
end
end Go.Proofs.Ytldlogmjkbhomaa.Rng
