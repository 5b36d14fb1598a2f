/- OldslabCalls: one call on the program; one call on the document. -/
import Derived.Test.YtknieebmcpgppaaDoorOldW
import Derived.Test.YtknieebmcpgppaaDoorOldO
set_option linter.unusedSimpArgs false
namespace Go.Proofs.YtknieebmcpgppaaDoor.Old
open Go.RowKit Go.Proofs.YtknieebmcpgppaaDoor.Aid Go.Proofs.YtknieebmcpgppaaDoor.Bit
abbrev CT : TypeId := 78
/-- What a call does. -/
def Did (x : Sb) (cl : Cl) (x' : Sb) (out : List Int) (e : Int) : Prop :=
  (cl.what = 0 ∧ x' = takeX x ∧ out = [takeA x] ∧ e = takeE x) ∨ (cl.what = 1 ∧ x' = { x with l := giveL x x.l cl.at_ } ∧ out = [] ∧ e = giveE x x.l cl.at_) ∨
  (cl.what = 2 ∧ ∃ i, stops x cl.at_ i ∧ x' = st x i ∧ out = sm x i ∧ e = 0) ∨ ((cl.what ≠ 0 ∧ cl.what ≠ 1 ∧ cl.what ≠ 2) ∧ x' = allX x cl.l ∧ out = [] ∧ e = (giveAll x x.l cl.l).1)
theorem Did.one {x : Sb} {cl : Cl} {x1 x2 : Sb} {o1 o2 : List Int} {e1 e2 : Int} (h : Did x cl x1 o1 e1) (k : Did x cl x2 o2 e2) : x1 = x2 ∧ o1 = o2 ∧ e1 = e2 := by
  rcases h with ⟨h0, rfl, rfl, rfl⟩ | ⟨h0, rfl, rfl, rfl⟩ | ⟨h0, i, hi, rfl, rfl, rfl⟩ | ⟨⟨h0, h1, h2⟩, rfl, rfl, rfl⟩ <;>
    rcases k with ⟨k0, rfl, rfl, rfl⟩ | ⟨k0, rfl, rfl, rfl⟩ | ⟨k0, j, hj, rfl, rfl, rfl⟩ | ⟨⟨k0, k1, k2⟩, rfl, rfl, rfl⟩ <;>
      first
      | exact ⟨rfl, rfl, rfl⟩
      | (obtain rfl := stops_one hi hj; exact ⟨rfl, rfl, rfl⟩)
      | (exfalso; omega)
/-- What the program's answer is. -/
def DoneIs (w : World) (p : Nat) (F : List Nat) (x : Sb) (cl : Cl) (e : Ending) (w' : World) : Prop :=
  ∃ (x' : Sb) (out : List Int) (er : Int) (A : Option Addr) (c : Nat), e = .returned (.tuple #[.slice A out.length c, .int .i64 er]) ∧ Did x cl x' out er ∧ Ints w' .i64 A out ∧ (∀ b o, A = some ⟨b, o, none⟩ → 0 < out.length → w.heap.size ≤ b) ∧ Slw w p F x' w'
theorem box_cells {w : World} {b : Nat} {m a : Int} {A : Option Addr} {n c : Nat} (h : Blk w b #[.int .i64 m, .int .i64 a, .slice A n c] CT) : w.cell? ⟨b, 0, none⟩ = some (.int .i64 m) ∧ w.cell? ⟨b, 1, none⟩ = some (.int .i64 a) ∧ w.cell? ⟨b, 2, none⟩ = some (.slice A n c) := ⟨h.cell rfl, h.cell rfl, h.cell rfl⟩
theorem Slw.from {w w1 w' : World} {p : Nat} {F : List Nat} {x' : Sb} (h : Slw w1 p F x' w') (k : Below w.heap.size w w1) : Slw w p F x' w' := by
  obtain ⟨F', h1, h2, h3⟩ := h
  have hz := k.size
  exact ⟨F', h1, (Kept.of_below k F).trans h2, fun y hy => by
    rcases h3 y hy with e | e
    · exact .inl e
    · exact .inr (by omega)⟩
theorem own_block {w : World} {base n c : Nat} {e : TypeId} {q : IntKind} {A : Option Addr} {xs : List Int} (h : Aid.Own w base e q (.slice A n c) xs) : ∀ b o, A = some ⟨b, o, none⟩ → base ≤ b := by
  rintro b o rfl
  obtain ⟨_, h2⟩ := h
  rcases h2 with ⟨e2, _⟩ | ⟨g, cap, cur, e2, h3, _⟩
  · cases e2
  · injection e2 with e3
    injection e3 with e4
    injection e4 with e5
    omega
theorem ints1 (w : World) (a : Int) : Ints (w.alloc (.cells #[.int .i64 a] 3)) .i64 (some ⟨w.heap.size, 0, none⟩) [a] := by
  intro k hk
  refine ⟨_, _, rfl, by simp, ?_⟩
  have : k = 0 := by simp at hk; omega
  subst this
  go_simp
theorem ints0 (w : World) : Ints w .i64 none [] := fun k hk => by simp at hk
set_option maxHeartbeats 4000000 in
theorem done_calls (w0 w : World) (p : Nat) (F : List Nat) (x : Sb) (h : Hd w0 w p F x) (cl : Cl) (A : Option Addr) (c : Nat) (hN : Nums w A c cl.l) (hl : cl.l.length ≤ 200) :
    Calls Tryd.prog 48 #[.pointer (some ⟨p, 0, none⟩), .agg #[.int .i64 cl.what, .int .i64 cl.at_, .slice A cl.l.length c]] w (DoneIs w p F x cl) := by
  have H := Lib.hid (And.intro h hN)
  clear h hN
  obtain ⟨m, a, vs⟩ := cl
  dsimp only at hl ⊢
  go_enter Tryd.func48, Tryd.ntmps48
  go_upto_region 1 with fail
  have hb0 := (Below.refl w.heap.size w).alloc (Nat.le_refl _) (.cells #[.int .i64 m, .int .i64 a, .slice A vs.length c] CT)
  have HK := Lib.hid (And.intro (Blk.new w #[.int .i64 m, .int .i64 a, .slice A vs.length c] CT) hb0)
  have H1 := Lib.hid (And.intro (H.out.1.on hb0) (H.out.2.below hb0))
  have HB := Lib.hid hb0
  clear hb0
  generalize w.alloc (.cells #[.int .i64 m, .int .i64 a, .slice A vs.length c] CT) = w1 at HK H1 HB ⊢
  generalize w.heap.size = b1 at HK ⊢
  obtain ⟨d0, d1, d2⟩ := box_cells HK.out.1
  by_cases h0 : m = 0
  · subst h0
    clear d1 d2
    go_wp2_with fail
    refine (take_calls w1 p F x H1.out.1.sl H1.out.1.tab).mono ?_
    rintro e w2 ⟨rfl, hk⟩
    have H2 := Lib.hid hk
    clear hk d0
    go_wp2_with fail
    go_ret2
    have hba := (Below.refl w2.heap.size w2).alloc (Nat.le_refl _) (.cells #[.int .i64 (takeA x)] 3)
    exact ⟨takeX x, [takeA x], takeE x, _, _, rfl, .inl ⟨rfl, rfl, rfl, rfl⟩, ints1 w2 _, fun b o e _ => by
      injection e with e
      injection e with e
      have h1 := HB.out.size
      have h2 := H2.out.2.size
      omega, Slw.from ⟨F, H2.out.1.below hba, H2.out.2.and_below hba, fun _ hy => .inl hy⟩ HB.out⟩
  · have h0' : (m == 0) = false := by rw [beq_eq_false_iff_ne]; exact h0
    by_cases h1 : m = 1
    · subst h1
      clear d2
      go_wp2_with fail
      refine (give_calls w1 p F x H1.out.1.sl a).mono ?_
      rintro e w2 ⟨rfl, hk⟩
      have H2 := Lib.hid hk
      clear hk d0 d1
      go_wp2_with fail
      go_ret2
      exact ⟨_, [], _, _, _, rfl, .inr (.inl ⟨rfl, rfl, rfl, rfl⟩), ints0 _, fun _ _ _ h => absurd h (by simp), Slw.from ⟨F, H2.out.1, H2.out.2, fun _ hy => .inl hy⟩ HB.out⟩
    · have h1' : (m == 1) = false := by rw [beq_eq_false_iff_ne]; exact h1
      by_cases h2 : m = 2
      · subst h2
        clear d2
        go_wp2_with fail
        refine (some_calls w1 p F x H1.out.1.sl H1.out.1.tab a H1.out.1.pos0).mono ?_
        rintro e w2 ⟨i, v, rfl, hst, hown, hk⟩
        obtain ⟨A2, c2, rfl, hi⟩ := hown.shape
        have H2 := Lib.hid (And.intro hst (And.intro hi hk))
        have HOB := Lib.hid (own_block hown)
        clear hst hown hi hk d0 d1
        go_wp2_with fail
        go_ret2
        exact ⟨_, sm x i, _, A2, c2, rfl, .inr (.inr (.inl ⟨rfl, i, H2.out.1, rfl, rfl, rfl⟩)), H2.out.2.1, fun b o e _ => Nat.le_trans HB.out.size (HOB.out b o e), Slw.from ⟨F, H2.out.2.2.1, H2.out.2.2.2, fun _ hy => .inl hy⟩ HB.out⟩
      · have h2' : (m == 2) = false := by rw [beq_eq_false_iff_ne]; exact h2
        have HM := Lib.hid (show m ≠ 0 ∧ m ≠ 1 ∧ m ≠ 2 from ⟨h0, h1, h2⟩)
        clear d1 h0 h1 h2
        go_wp2_with fail
        refine (copy_calls w1 A c vs H1.out.2.1 H1.out.2.2 (by omega)).mono ?_
        rintro e w2 ⟨v, rfl, hown, hb⟩
        obtain ⟨A2, c2, rfl, hi⟩ := hown.shape
        have H2 := Lib.hid (And.intro (H1.out.1.on hb) (And.intro hi (HB.out.trans (hb.mono HB.out.size))))
        clear hown hi hb d0 d2
        go_wp2_with fail
        refine (all_calls w2 p F x H2.out.1.sl A2 c2 vs H2.out.2.1 (by omega)).mono ?_
        rintro e w3 ⟨rfl, hk⟩
        have H3 := Lib.hid hk
        clear hk
        go_wp2_with fail
        go_ret2
        exact ⟨_, [], _, _, _, rfl, .inr (.inr (.inr ⟨HM.out, rfl, rfl, rfl⟩)), ints0 _, fun _ _ _ h => absurd h (by simp), Slw.from H3.out H2.out.2.2⟩
def Rlw (w : World) (q : Nat) (G : List Nat) (x' : Sb) (w' : World) : Prop := ∃ G', RfAt w' q G' x' ∧ Kept G w w' ∧ ∀ y ∈ G', y ∈ G ∨ w.heap.size ≤ y
theorem Rlw.from {w w1 w' : World} {q : Nat} {G : List Nat} {x' : Sb} (h : Rlw w1 q G x' w') (k : Below w.heap.size w w1) : Rlw w q G x' w' := by
  obtain ⟨F', h1, h2, h3⟩ := h
  have hz := k.size
  exact ⟨F', h1, (Kept.of_below k G).trans h2, fun y hy => by
    rcases h3 y hy with e | e
    · exact .inl e
    · exact .inr (by omega)⟩
def ManyIs (w : World) (q : Nat) (G : List Nat) (x : Sb) (cl : Cl) (e : Ending) (w' : World) : Prop :=
  ∃ (x' : Sb) (out : List Int) (er : Int) (A : Option Addr) (c : Nat), e = .returned (.tuple #[.slice A out.length c, .int .i64 er]) ∧ Did x cl x' out er ∧ Ints w' .i64 A out ∧ Rlw w q G x' w'
theorem slot_with {x : Sb} {l : List Bool} (h : l.length = x.l.length) (a : Int) : slotO { x with l := l } a = slotO x a := by
  unfold slotO
  show (List.range l.length).find? _ = _
  rw [h]
theorem give_with {x : Sb} {l : List Bool} (h : l.length = x.l.length) (a : Int) : giveE { x with l := l } l a = giveE x l a ∧ giveL { x with l := l } l a = giveL x l a := by
  unfold giveE giveL
  rw [slot_with h]
  exact ⟨rfl, rfl⟩
theorem RfAt.grow {w w' : World} {q B : Nat} {G : List Nat} {x : Sb} (h : RfAt w q G x) (k : Below B w w') (hG : ∀ y ∈ G, y < B) : RfAt w' q G x :=
  h.kept (kept_range k) fun y hy hy2 => by
    have h1 := in_range hy2
    have h2 := hG y hy
    omega
set_option maxHeartbeats 4000000 in
theorem many_some (w : World) (q : Nat) (G : List Nat) (x : Sb) (h : RfAt w q G x) (a : Int) (vs : List Int) (A : Option Addr) (n c : Nat) :
    Calls Tryd.prog 49 #[.pointer (some ⟨q, 0, none⟩), .agg #[.int .i64 2, .int .i64 a, .slice A n c]] w (ManyIs w q G x ⟨2, a, vs⟩) := by
  have H := Lib.hid h
  clear h
  go_enter Tryd.func49, Tryd.ntmps49
  go_upto_region 1 with fail
  have hb0 := (Below.refl w.heap.size w).alloc (Nat.le_refl _) (.cells #[.int .i64 2, .int .i64 a, .slice A n c] CT)
  have HK := Lib.hid (And.intro (Blk.new w #[.int .i64 2, .int .i64 a, .slice A n c] CT) (And.intro (H.out.below hb0) (show (∀ y ∈ G, y ≠ w.heap.size) from fun y hy => by have := H.out.flt y hy; omega)))
  have HB := Lib.hid hb0
  clear hb0
  generalize w.alloc (.cells #[.int .i64 2, .int .i64 a, .slice A n c] CT) = w1 at HK HB ⊢
  generalize w.heap.size = b1 at HK ⊢
  go_upto_region 2 with fail
  have hb1 := (Below.refl w1.heap.size w1).alloc (Nat.le_refl _) (.cells #[] 3)
  have H2 := Lib.hid (show RfAt (w1.alloc (.cells #[] 3)) q G x ∧ Aid.Own (w1.alloc (.cells #[] 3)) w1.heap.size 3 .i64 (.slice (some ⟨w1.heap.size, 0, none⟩) 0 0) (sm x 0) ∧ Blk (w1.alloc (.cells #[] 3)) b1 #[.int .i64 2, .int .i64 a, .slice A n c] CT ∧ (∀ y ∈ G, y < w1.heap.size) ∧ b1 < w1.heap.size ∧ Kept G w1 (w1.alloc (.cells #[] 3)) ∧ w1.heap.size ≤ (w1.alloc (.cells #[] 3)).heap.size from ⟨HK.out.2.1.below hb1, Aid.Own.lit0 w1 _ (Nat.le_refl _) _ .i64, HK.out.1.below hb1, HK.out.2.1.flt, HK.out.1.lt, Kept.of_below hb1 G, by simp⟩)
  clear hb1
  generalize w1.alloc (.cells #[] 3) = w2 at H2 ⊢
  have HZ0 := Lib.hid (show ∃ b0, b0 = w1.heap.size from ⟨_, rfl⟩)
  generalize hq0 : w1.heap.size = b0 at H2 ⊢
  have HQ0 := Lib.hid hq0
  clear hq0
  obtain ⟨d0, _, _⟩ := box_cells H2.out.2.2.1
  go_wp2_with fail
  go_loopw [6, 9] (fun s i wr => ∃ k : Nat, i = .int .i64 k ∧ (∀ j, j < k → (j : Int) < a ∧ takeE (st x j) = 0) ∧ Aid.Own wr b0 3 .i64 s (sm x k) ∧ RfAt wr q G (st x k) ∧ Kept G w1 wr ∧ Blk wr b1 #[.int .i64 2, .int .i64 a, .slice A n c] CT ∧ b0 ≤ wr.heap.size) (fun _ i _ => 65 - (intOf i).toNat)
  case atStart => exact ⟨0, rfl, fun j hj => by omega, H2.out.2.1, H2.out.1, H2.out.2.2.2.2.2.1, H2.out.2.2.1, H2.out.2.2.2.2.2.2⟩
  case round =>
    obtain ⟨k, rfl, hki, hO, hR, hK, hB, hz⟩ := hrel
    have hle := (stops_le k fun j hj => (hki j hj).2).2
    have hmm := H.out.ok.many.1
    have hk64 : k ≤ 64 := by omega
    have hk0 : (0 : Int) ≤ (k : Int) := by omega
    have HR := Lib.hid (And.intro hki (And.intro hO (And.intro hR (And.intro hK hB))))
    have HL := Lib.hid (rleast_calls wr q G (st x k) hR)
    obtain ⟨_, d1, _⟩ := box_cells hB
    clear hki hO hR hK hB d0 hle hmm
    by_cases hlt : (k : Int) < a
    · by_cases hf : first (st x k).l 0 false = -1
      · have hE : takeE (st x k) ≠ 0 := by unfold takeE; rw [if_pos hf]; decide
        rw [hf] at HL
        have HE := Lib.hid hE
        clear hE hf
        go_wp2_with fail
        refine HL.out.mono ?_
        rintro e w3 ⟨rfl, rfl⟩
        go_wp2_with fail
        go_ret2
        obtain ⟨A2, c2, rfl, hi⟩ := HR.out.2.1.shape
        exact ⟨_, sm x k, _, A2, c2, rfl, .inr (.inr (.inl ⟨rfl, k, ⟨.inr HE.out, HR.out.1⟩, rfl, rfl, rfl⟩)), hi, Rlw.from ⟨G, HR.out.2.2.1, HR.out.2.2.2.1, fun _ hy => .inl hy⟩ HB.out⟩
      · have hE : takeE (st x k) = 0 := by unfold takeE; rw [if_neg hf]
        have hf0 : ∃ f : Nat, first (st x k).l 0 false = (f : Int) := by
          rcases first_is (st x k).l 0 false with ⟨h1, _⟩ | ⟨f, h1, _⟩
          · exact absurd h1 hf
          · exact ⟨f, h1⟩
        obtain ⟨f, hf1⟩ := hf0
        rw [hf1] at HL
        have HE := Lib.hid hE
        clear hE hf hf1
        go_wp2_with fail
        refine HL.out.mono ?_
        rintro e w3 ⟨rfl, rfl⟩
        go_wp2_with fail
        refine (rtake_calls wr q G (st x k) HR.out.2.2.1).mono ?_
        rintro e w3 ⟨rfl, hr3, hk3⟩
        have H3 := Lib.hid (And.intro hr3 (And.intro (HR.out.2.2.2.1.trans hk3) (And.intro (own_kept HR.out.2.1 hk3 H2.out.2.2.2.1) (HR.out.2.2.2.2.kept hk3 fun hy => HK.out.2.2 b1 hy rfl))))
        have hz3 : b0 ≤ w3.heap.size := Nat.le_trans hz hk3.size
        have HSM := Lib.hid (show sm x (k + 1) = sm x k ++ [takeA (st x k)] from rfl)
        have hsl := sm_len x k
        clear hr3 hk3 d1
        generalize takeA (st x k) = ta at *
        go_wp2_with (at_builtin; refine append_int rfl _ _ 30 rfl b0 3 .i64 8 Tryd.underlying30 info_int _ (sm x k) rfl H3.out.2.2.1 ta rfl (by rw [hsl]; omega) (by rw [hsl]; omega) hz3 ?_)
        intro v1 w4 hown1 hb1 _
        have hr := kept_range hb1
        have H4 := Lib.hid (show Aid.Own w4 b0 3 .i64 v1 (sm x k ++ [ta]) ∧ RfAt w4 q G (takeX (st x k)) ∧ Kept G w1 w4 ∧ Blk w4 b1 #[.int .i64 2, .int .i64 a, .slice A n c] CT ∧ b0 ≤ w4.heap.size from ⟨hown1, H3.out.1.grow hb1 H2.out.2.2.2.1, H3.out.2.1.step hr fun y hy => .inr (by rw [HQ0.out]; exact in_range hy), H3.out.2.2.2.kept hr fun hy => by
          have h1 := in_range hy
          have h2 := H2.out.2.2.2.2.1
          omega, Nat.le_trans hz3 hb1.size⟩)
        have hle2 := (stops_le (k + 1) fun j hj => by
          rcases Nat.lt_or_ge j k with e | e
          · exact (HR.out.1 j e).2
          · obtain rfl : j = k := by omega
            exact HE.out).2
        have hmm := H.out.ok.many.1
        clear hown1 hb1 hr
        go_wp2_with fail
        go_roundw
        case rel =>
          refine ⟨k + 1, by go_num, fun j hj => ?_, by rw [HSM.out]; exact H4.out.1, H4.out.2.1, H4.out.2.2.1, H4.out.2.2.2.1, H4.out.2.2.2.2⟩
          rcases Nat.lt_or_ge j k with e | e
          · exact HR.out.1 j e
          · obtain rfl : j = k := by omega
            exact ⟨hlt, HE.out⟩
        case measure => simp [intOf]; omega
    · go_wp2_with fail
      go_ret2
      obtain ⟨A2, c2, rfl, hi⟩ := HR.out.2.1.shape
      exact ⟨_, sm x k, _, A2, c2, rfl, .inr (.inr (.inl ⟨rfl, k, ⟨.inl (by omega), HR.out.1⟩, rfl, rfl, rfl⟩)), hi, Rlw.from ⟨G, HR.out.2.2.1, HR.out.2.2.2.1, fun _ hy => .inl hy⟩ HB.out⟩
set_option maxHeartbeats 4000000 in
theorem many_calls (w : World) (q : Nat) (G : List Nat) (x : Sb) (h : RfAt w q G x) (cl : Cl) (A : Option Addr) (c : Nat) (hN : Nums w A c cl.l) (hl : cl.l.length ≤ 200) :
    Calls Tryd.prog 49 #[.pointer (some ⟨q, 0, none⟩), .agg #[.int .i64 cl.what, .int .i64 cl.at_, .slice A cl.l.length c]] w (ManyIs w q G x cl) := by
  obtain ⟨m, a, vs⟩ := cl
  dsimp only at hl hN ⊢
  by_cases h2 : m = 2
  · subst h2
    exact many_some w q G x h a vs A vs.length c
  have h2' : (m == 2) = false := by rw [beq_eq_false_iff_ne]; exact h2
  have H := Lib.hid (And.intro h hN)
  clear h hN
  go_enter Tryd.func49, Tryd.ntmps49
  go_upto_region 1 with fail
  have hb0 := (Below.refl w.heap.size w).alloc (Nat.le_refl _) (.cells #[.int .i64 m, .int .i64 a, .slice A vs.length c] CT)
  have HK := Lib.hid (And.intro (Blk.new w #[.int .i64 m, .int .i64 a, .slice A vs.length c] CT) (And.intro (H.out.1.below hb0) (And.intro (H.out.2.below hb0) (show (∀ y ∈ G, y ≠ w.heap.size) from fun y hy => by have := H.out.1.flt y hy; omega))))
  have HB := Lib.hid hb0
  clear hb0
  generalize w.alloc (.cells #[.int .i64 m, .int .i64 a, .slice A vs.length c] CT) = w1 at HK HB ⊢
  generalize w.heap.size = b1 at HK ⊢
  go_upto_region 2 with fail
  have hb1 := (Below.refl w1.heap.size w1).alloc (Nat.le_refl _) (.cells #[] 3)
  have H2 := Lib.hid (show RfAt (w1.alloc (.cells #[] 3)) q G x ∧ Nums (w1.alloc (.cells #[] 3)) A c vs ∧ Blk (w1.alloc (.cells #[] 3)) b1 #[.int .i64 m, .int .i64 a, .slice A vs.length c] CT ∧ Below w.heap.size w (w1.alloc (.cells #[] 3)) from ⟨HK.out.2.1.below hb1, HK.out.2.2.1.below hb1, HK.out.1.below hb1, HB.out.trans (hb1.mono HB.out.size)⟩)
  have HG := Lib.hid HK.out.2.2.2
  clear hb1 HK
  generalize w1.alloc (.cells #[] 3) = w2 at H2 ⊢
  generalize w1.heap.size = b0 at H2 ⊢
  obtain ⟨d0, d1, d2⟩ := box_cells H2.out.2.2.1
  by_cases h0 : m = 0
  · subst h0
    clear d1 d2
    go_wp2_with fail
    refine (rtake_calls w2 q G x H2.out.1).mono ?_
    rintro e w3 ⟨rfl, hk⟩
    have H3 := Lib.hid hk
    clear hk d0
    go_wp2_with fail
    go_ret2
    have hba := (Below.refl w3.heap.size w3).alloc (Nat.le_refl _) (.cells #[.int .i64 (takeA x)] 3)
    exact ⟨takeX x, [takeA x], takeE x, _, _, rfl, .inl ⟨rfl, rfl, rfl, rfl⟩, ints1 w3 _, Rlw.from ⟨G, H3.out.1.below hba, H3.out.2.and_below hba, fun _ hy => .inl hy⟩ H2.out.2.2.2⟩
  · have h0' : (m == 0) = false := by rw [beq_eq_false_iff_ne]; exact h0
    by_cases h1 : m = 1
    · subst h1
      clear d2
      go_wp2_with fail
      refine (rgive_calls w2 q G x H2.out.1 a).mono ?_
      rintro e w3 ⟨rfl, hk⟩
      have H3 := Lib.hid hk
      clear hk d0 d1
      go_wp2_with fail
      go_ret2
      exact ⟨_, [], _, _, _, rfl, .inr (.inl ⟨rfl, rfl, rfl, rfl⟩), fun k hk => by simp at hk, Rlw.from ⟨G, H3.out.1, H3.out.2, fun _ hy => .inl hy⟩ H2.out.2.2.2⟩
    · have h1' : (m == 1) = false := by rw [beq_eq_false_iff_ne]; exact h1
      have HM := Lib.hid (show m ≠ 0 ∧ m ≠ 1 ∧ m ≠ 2 from ⟨h0, h1, h2⟩)
      clear d1 h0 h1 h2
      go_wp2_with fail
      refine (rcopy_calls w2 q G x H2.out.1).mono ?_
      rintro e w3 ⟨r, g2, c2, rfl, hP, hr, hg, hb⟩
      have H3 := Lib.hid (And.intro hP (And.intro hr (And.intro hg hb)))
      clear hP hr hg hb d0 d2
      go_wp2_with fail
      go_loopw [13] (fun i wr => ∃ (k : Nat) (l : List Bool) (c3 : Nat), i = .int .i64 k ∧ k ≤ vs.length ∧ RfP wr r g2 c3 { x with l := l } ∧ l.length = x.l.length ∧ giveAll x l (vs.drop k) = giveAll x x.l vs ∧ Kept [r, g2] w3 wr) (fun i _ => vs.length - (intOf i).toNat)
      case atStart => exact ⟨0, x.l, c2, rfl, by omega, H3.out.1, rfl, rfl, Kept.refl _ _⟩
      case round =>
        obtain ⟨k, l, c3, rfl, hk, hP, hll, hga, hK⟩ := hrel
        have HR := Lib.hid (And.intro hP (And.intro hll (And.intro hga hK)))
        have hlw2 := hK.below H3.out.2.2.2.size (by simp; exact ⟨H3.out.2.1, H3.out.2.2.1⟩)
        have HB2 := Lib.hid (H3.out.2.2.2.trans hlw2)
        obtain ⟨_, _, d2⟩ := box_cells (H2.out.2.2.1.below HB2.out)
        clear hP hll hga hK hlw2
        by_cases hlt : k < vs.length
        · have hk0 : (0 : Int) ≤ (k : Int) := by omega
          have hk1 : (k : Int) < (vs.length : Int) := by omega
          have HST := Lib.hid (giveAll_step x (l := l) hlt)
          obtain ⟨b, o, rfl, _, ca⟩ := (H2.out.2.1.below HB2.out).1 k hlt
          generalize vs.getD k 0 = v at ca HST
          have hRA : RfAt wr r [r, g2] { x with l := l } := ⟨H2.out.1.ok.with HR.out.2.1, ⟨g2, c3, HR.out.1, by simp, by simp⟩, fun y hy => by
            have h1 := HR.out.1.head.lt
            have h2 := HR.out.1.row.lt
            simp at hy
            omega⟩
          have HRG := Lib.hid (rgive_calls wr r [r, g2] _ hRA v)
          obtain ⟨hw1, hw2⟩ := give_with HR.out.2.1 v
          dsimp only at HRG
          rw [hw1, hw2] at HRG
          clear hRA hw1 hw2
          go_wp2_with fail
          refine HRG.out.mono ?_
          rintro e w5 ⟨rfl, hr5, hk5⟩
          have H5 := Lib.hid (show (∃ c4, RfP w5 r g2 c4 { x with l := giveL x l v }) ∧ Kept [r, g2] w3 w5 from by
            obtain ⟨g', c4, h1, _, h3⟩ := hr5.ex
            have hne := h1.ne
            simp at h3
            rcases h3 with e | e
            · exact absurd e.symm hne
            · subst e
              exact ⟨⟨c4, h1⟩, HR.out.2.2.2.trans hk5⟩)
          clear hr5 hk5 HRG
          by_cases hE : giveE x l v = 0
          · have hga := HST.out
            rw [if_pos hE, HR.out.2.2.1] at hga
            have HGA := Lib.hid hga
            rw [hE]
            clear hga hE
            obtain ⟨c4, h4⟩ := H5.out.1
            have H4 := Lib.hid h4
            clear h4
            go_wp2_with fail
            go_roundw
            case rel => exact ⟨k + 1, _, c4, by go_num, by omega, H4.out, (giveL_len _ _ _).trans HR.out.2.1, HGA.out.symm, H5.out.2⟩
            case measure => simp [intOf]; omega
          · have hga := HST.out
            rw [if_neg hE, HR.out.2.2.1] at hga
            have HE := Lib.hid (And.intro hE hga)
            have hE2 : (giveE x l v != 0) = true := by simpa using hE
            clear hga hE
            generalize giveE x l v = te at HE hE2 ⊢
            go_wp2_with fail
            go_ret2
            have hbk := H3.out.2.2.2.trans (H5.out.2.below H3.out.2.2.2.size (by simp; exact ⟨H3.out.2.1, H3.out.2.2.1⟩))
            refine ⟨x, [], te, _, _, rfl, .inr (.inr (.inr ⟨HM.out, (allX_no HE.out.2.symm HE.out.1).symm, rfl, by rw [HE.out.2]⟩)), fun k hk => by simp at hk, Rlw.from ⟨G, H2.out.1.below hbk, Kept.of_below hbk G, fun _ hy => .inl hy⟩ H2.out.2.2.2⟩
        · obtain rfl : k = vs.length := by omega
          have hga := HR.out.2.2.1
          rw [List.drop_length] at hga
          have HGA := Lib.hid (show giveAll x x.l vs = (0, l) from hga.symm)
          have hRq := H2.out.1.below HB2.out
          obtain ⟨gq, cq, hPq, mq, _⟩ := hRq.ex
          obtain ⟨_, _, _, e3⟩ := hPq.cells
          have fz := hPq.head.free 3
          obtain ⟨_, _, _, f3⟩ := HR.out.1.cells
          have HQ := Lib.hid (And.intro hPq (And.intro mq hRq))
          have hqlt := hRq.flt q mq
          clear hga hPq mq hRq hlt hk
          dsimp only at f3
          go_wp2_with fail
          go_ret2
          have hql : q < w2.heap.size := H2.out.1.flt q HQ.out.2.1
          have hr3 : w2.heap.size ≤ r := H3.out.2.1
          have hg3 : w2.heap.size ≤ g2 := H3.out.2.2.1
          have hzz := H2.out.2.2.2.size
          refine ⟨_, [], _, _, _, rfl, .inr (.inr (.inr ⟨HM.out, (allX_yes HGA.out).symm, rfl, by rw [HGA.out]⟩)), fun k hk => by simp at hk, ?_⟩
          refine Rlw.from ⟨[q, g2], ⟨H2.out.1.ok.with HR.out.2.1, ⟨g2, c3, ⟨?_, ?_, by omega⟩, by simp, by simp⟩, ?_⟩, ?_, ?_⟩ H2.out.2.2.2
          · exact HQ.out.1.head.set 3 _
          · exact Row.other HR.out.1.row (a := ⟨q, 3, none⟩) (by show g2 ≠ q; omega) _
          · intro y hy
            rw [World.size_setCell]
            have h2 := HR.out.1.row.lt
            simp at hy
            rcases hy with rfl | rfl
            · exact hqlt
            · exact h2
          · exact (Kept.of_below HB2.out G).setCell (p := ⟨q, 3, none⟩) (.inl HQ.out.2.1) _
          · intro y hy
            simp at hy
            rcases hy with rfl | rfl
            · exact .inl HQ.out.2.1
            · exact .inr hg3
end Go.Proofs.YtknieebmcpgppaaDoor.Old
