/- The contracts of the reference's Next, Ack, Behind. -/
import Derived.Test.YtchnhmcedmicgaaEpoR
namespace Go.Proofs.Ytchnhmcedmicgaa.Epo
open Go.RowKit Go.Proofs.Ytchnhmcedmicgaa.Aid
/-- What a call of the reference's leaves. -/
def RLeaves (rp sb : Nat) (av : List Nat) (n : Nat) (s : ERun) (w w' : World) : Prop := ∃ sb' c', RefAt w' rp sb' c' av n s.now s.hist ∧ Kept [rp, sb] w w' ∧ (sb' = sb ∨ w.heap.size ≤ sb')
theorem row_cell {w : World} {e : TypeId} {g c : Nat} {r : List Int} (h : Row w e g c (r.map (.int .u64))) {k : Nat} (hk : k < r.length) : w.cell? ⟨g, k, none⟩ = some (.int .u64 (g64 r k)) := by
  rw [h.cell (by simpa using hk)]
  simp [g64, List.getD_eq_getElem?_getD, hk]
/-- What the two appends of a new state do. -/
structure Grown (w : World) (rp sb c n : Nat) (av : List Nat) (now : Int) (hist : List (List Int)) (x : List Int) (g c3 : Nat) (w2 : World) (sb2 c2 : Nat) (w3 : World) : Prop where
  r2 : (Builtin.append_ #[61, 61] 61 #[.slice (some ⟨sb, 0, none⟩) hist.length c, .slice (some ⟨w2.heap.size, 0, none⟩) 1 1]).run Try.prog (w2.alloc (.cells #[.slice (some ⟨g, 0, none⟩) n c3] 51)) = .ok (.slice (some ⟨sb2, 0, none⟩) (hist.length + 1) c2) w3
  free : w3.frozen? ⟨rp, 1, none⟩ = false
  had : w3.cell? ⟨rp, 1, none⟩ = some (.slice (some ⟨sb, 0, none⟩) hist.length c)
  fin : RefAt (w3.setCell ⟨rp, 1, none⟩ (.slice (some ⟨sb2, 0, none⟩) (hist.length + 1) c2)) rp sb2 c2 av n now (hist ++ [x])
  kept : Kept [rp, sb] w (w3.setCell ⟨rp, 1, none⟩ (.slice (some ⟨sb2, 0, none⟩) (hist.length + 1) c2))
  loc : sb2 = sb ∨ w.heap.size ≤ sb2
theorem grown_of {w w2 : World} {rp sb c n g c3 : Nat} {av : List Nat} {now : Int} {hist : List (List Int)} {x : List Int} (h : RefAt w rp sb c av n now hist) (hav : ∀ y ∈ av, y < w.heap.size) (hb : Below w.heap.size w w2)
    (hg : w.heap.size ≤ g) (hlt : g < w2.heap.size) (hx : x.length = n) (hI : Ints w2 .u64 (some ⟨g, 0, none⟩) x) (hsm : hist.length ≤ 1000000) : ∃ sb2 c2 w3, Grown w rp sb c n av now hist x g c3 w2 sb2 c2 w3 := by
  have h2 := h.below hb
  have hz := hb.size
  have hr := h.lt
  obtain ⟨sb2, c2, w3, e, hL, hk, hloc⟩ := append_list_run (P := Try.prog) 61 61 51 .u64 Try.underlying61 info_u64s h2.lists (c' := c3) (by omega) (by
    intro hm
    rcases List.mem_cons.1 hm with hm | hm
    · omega
    · have := hav _ hm; omega) hlt hx hI hsm (by
    intro y hy
    rcases List.mem_cons.1 hy with rfl | hy
    · omega
    · have := hav y hy; omega)
  have hP6 := h2.head.kept hk (by have := h2.ne; simpa using this)
  refine ⟨sb2, c2, w3, e, hP6.free 1, hP6.cell (o := 1) rfl, ⟨?_, ?_⟩, ?_, ?_⟩
  · have hP7 := hP6.set 1 (.slice (some ⟨sb2, 0, none⟩) (hist.length + 1) c2)
    simp only [List.setIfInBounds_toArray, List.set_cons_zero, List.set_cons_succ] at hP7
    rw [show (hist ++ [x]).length = hist.length + 1 by simp]
    exact hP7
  · exact hL.kept ((Kept.refl [rp] w3).setCell (p := ⟨rp, 1, none⟩) (by simp) (.slice (some ⟨sb2, 0, none⟩) (hist.length + 1) c2)) (by simp)
  · exact ((Kept.of_below hb [rp, sb]).trans (hk.mono (by simp))).setCell (p := ⟨rp, 1, none⟩) (by simp) _
  · rcases hloc with h | h
    · exact .inl h
    · right; omega
set_option maxRecDepth 4000 in
attribute [-go_sem] Builtin.append_ in
set_option maxHeartbeats 8000000 in
theorem rnext_calls (w : World) (rp sb c n : Nat) (av : List Nat) (s : ERun) (h : RefAt w rp sb c av n s.now s.hist) (hok : OkE n s) (hsm : s.hist.length ≤ 100000) (hav : ∀ y ∈ av, y < w.heap.size) :
    Calls Try.prog 71 #[.pointer (some ⟨rp, 0, none⟩)] w fun e w' => (∃ v, e = .returned v) ∧ RLeaves rp sb av n (nextE s) w w' := by
  have c0 := h.head.cell (o := 0) rfl
  have f0 := h.head.free 0
  have hn0 := hok.now0
  have hn1 := hok.now1
  have hw : IntKind.u64.wrap (s.now + 1) = s.now + 1 := by simp [IntKind.wrap, IntKind.bits, IntKind.signed]; omega
  have HR1 := Lib.hid (show RefAt (w.setCell ⟨rp, 0, none⟩ (.int .u64 (s.now + 1))) rp sb c av n (s.now + 1) s.hist from by
    have hP := h.head.set 0 (.int .u64 (s.now + 1))
    simp only [List.setIfInBounds_toArray, List.set_cons_zero] at hP
    exact ⟨hP, h.lists.kept ((Kept.refl [rp] w).setCell (p := ⟨rp, 0, none⟩) (by simp) (.int .u64 (s.now + 1))) (by simp)⟩)
  have HK1 := Lib.hid ((Kept.refl [rp, sb] w).setCell (p := ⟨rp, 0, none⟩) (by simp) (.int .u64 (s.now + 1)))
  have HAV := Lib.hid (show ∀ y ∈ av, y < (w.setCell ⟨rp, 0, none⟩ (.int .u64 (s.now + 1))).heap.size from fun y hy => Nat.lt_of_lt_of_le (hav y hy) HK1.out.size)
  have HN1 := Lib.hid (hok.n1)
  have HN64 := Lib.hid (hok.n64)
  have HLN := Lib.hid hok.len
  have HHL := Lib.hid (show 1 ≤ s.hist.length by obtain ⟨hs, e⟩ := hok.last; rw [e]; simp)
  have HOK := Lib.hid hok
  have Hsm := Lib.hid hsm
  clear h hok hn0 hn1 hsm hav
  go_enter Try.func71, Try.ntmps71
  go_upto_region 1 with fail
  generalize w.setCell ⟨rp, 0, none⟩ (.int .u64 (s.now + 1)) = w1 at HR1 HK1 HAV ⊢
  clear c0 f0
  obtain ⟨b, c', hLA, hI, hbl, hbr, hbs, hba⟩ := RefAt.last HR1.out HOK.out
  have hr0 := HR1.out.lt
  have hba0 := (Below.refl w1.heap.size w1).alloc (Nat.le_refl _) (.cells #[] 59)
  have HL := Lib.hid (fun w' (hb : Below w1.heap.size w1 w') => last_calls w' rp sb c n s.hist.length b c' (hLA.below hr0 hb) HHL.out (by have := Hsm.out; omega))
  have HB0 := Lib.hid ((Below.refl w1.heap.size w1).drew)
  have HB1 := Lib.hid (hba0.drew)
  have x0 := hLA.c1
  have x1 := (hLA.below hr0 hba0).c1
  have HAPP := Lib.hid (show ∀ W : World, (∃ k, W = (w1.alloc (.cells #[] 59)).drewN k) → ∃ g c3 w2 sb2 c2 w3, (Builtin.append_ #[51, 51] 51 #[.slice (some ⟨w1.heap.size, 0, none⟩) 0 0, .slice (some ⟨b, 0, none⟩) n c']).run Try.prog W = .ok (.slice (some ⟨g, 0, none⟩) n c3) w2 ∧ LastAt w2 rp sb c n s.hist.length b c' ∧ LastAt (w2.alloc (.cells #[.slice (some ⟨g, 0, none⟩) n c3] 51)) rp sb c n s.hist.length b c' ∧ Grown w1 rp sb c n av (s.now + 1) s.hist s.row g c3 w2 sb2 c2 w3 from by
    rintro W ⟨k, rfl⟩
    obtain ⟨g, c3, w2, e1, hrow, hg, hb2⟩ := append_all_run (P := Try.prog) (W := (w1.alloc (.cells #[] 59)).drewN k) 51 51 w1.heap.size 59 .u64 8 Try.underlying51 info_u64 w1.heap.size 0
      (show Own _ _ _ _ _ _ from Own.lit0 w1 w1.heap.size (Nat.le_refl _) 59 .u64) s.row ⟨b, 0, none⟩ c' (hI.below (below_drewN hba0 k)) (by have h1 := HLN.out; have h2 := HN64.out; omega) (by have h1 := HLN.out; have h2 := HN64.out; omega) (by show w1.heap.size ≤ (w1.alloc (.cells #[] 59)).heap.size; simp)
    rw [HLN.out] at e1
    have hb3 : Below w1.heap.size w1 w2 := (below_drewN hba0 k).trans hb2
    obtain ⟨sb2, c2, w3, hG⟩ := grown_of (c3 := c3) HR1.out HAV.out hb3 hg hrow.lt HLN.out hrow.ints (by have := Hsm.out; omega)
    exact ⟨g, c3, w2, sb2, c2, w3, e1, hLA.below hr0 hb3, hLA.below hr0 (hb3.alloc hb3.size _), hG⟩)
  clear hLA hI hba0 hr0
  have hal : ∀ (k : Nat) (o : Obj), (w1.drewN k).alloc o = (w1.alloc o).drewN k := fun _ _ => rfl
  go_region_with (first
    | (go_at_call 34; refine (HL.out _ (by first | exact HB1.out | exact HB0.out)).mono ?_; rintro e w3 ⟨rfl, nq, rfl⟩; obtain ⟨g, c3, w2, sb2, c2, w4, r1, ⟨y0, _⟩, ⟨y1, _⟩, hG⟩ := HAPP.out ((w1.alloc (.cells #[] 59)).drewN (1 + nq)) ⟨_, rfl⟩; have r2 := hG.r2; have y2 := hG.free; have y3 := hG.had; have HG := Lib.hid hG; clear hG)
    | fail)
  all_goals
    go_end0
    exact ⟨⟨_, rfl⟩, sb2, c2, HG.out.fin, HK1.out.trans HG.out.kept, by rcases HG.out.loc with h | h; exact .inl h; exact .inr (Nat.le_trans HK1.out.size h)⟩
end Go.Proofs.Ytchnhmcedmicgaa.Epo
