/- The contracts of the reference's epoch. -/
import Derived.Test.YtchnhmcedmicgaaEpoD
import Derived.Test.YtchnhmcedmicgaaAidRun
import Derived.Test.YtchnhmcedmicgaaAidLists
namespace Go.Proofs.Ytchnhmcedmicgaa.Epo
open Go.RowKit Go.Proofs.Ytchnhmcedmicgaa.Aid
theorem info_u64 : (Try.prog.info? 59).map (fun i => (i.zero, i.size, i.bytes)) = some (some (.int .u64 0), 1, 8) := by kernel_rfl
theorem info_u64s : (Try.prog.info? 51).map (fun i => (i.zero, i.size, i.bytes)) = some (some (.slice none 0 0), 1, 24) := by kernel_rfl
/-- The reference's epoch: its struct in block rp, its rows in block sb. -/
structure RefAt (w : World) (rp sb c : Nat) (av : List Nat) (n : Nat) (now : Int) (hist : List (List Int)) : Prop where
  head : Blk w rp #[.int .u64 now, .slice (some ⟨sb, 0, none⟩) hist.length c] 63
  lists : Lists w 51 .u64 n sb c (rp :: av) hist
section
variable {w w' : World} {rp sb c n : Nat} {av : List Nat} {now : Int} {hist : List (List Int)}
theorem RefAt.ne (h : RefAt w rp sb c av n now hist) : rp ≠ sb := fun e => h.lists.out (by simp [e])
theorem RefAt.kept (h : RefAt w rp sb c av n now hist) {F : List Nat} (k : Kept F w w') (hF : ∀ x ∈ F, x ∈ av) (hr : rp ∉ F) : RefAt w' rp sb c av n now hist := ⟨h.head.kept k hr, h.lists.kept k (fun x hx => by simp [hF x hx])⟩
theorem RefAt.below (h : RefAt w rp sb c av n now hist) (k : Below w.heap.size w w') : RefAt w' rp sb c av n now hist := ⟨h.head.below k, h.lists.below k⟩
theorem RefAt.lt (h : RefAt w rp sb c av n now hist) : rp < w.heap.size ∧ sb < w.heap.size := ⟨h.head.lt, by obtain ⟨⟨hs, h1, _⟩, _⟩ := h.lists; exact h1.lt⟩
end
theorem _root_.Go.Proofs.Ytchnhmcedmicgaa.Aid.Lists.at2 {w : World} {e : TypeId} {q : IntKind} {m sb c : Nat} {av : List Nat} {hist : List (List Int)} (h : Lists w e q m sb c av hist) {k : Nat} (hk : k < hist.length) :
    ∃ b c', w.cell? ⟨sb, k, none⟩ = some (.slice (some ⟨b, 0, none⟩) m c') ∧ (hist.getD k []).length = m ∧ Ints w q (some ⟨b, 0, none⟩) (hist.getD k []) ∧ b ≠ sb ∧ b ∉ av := by
  obtain ⟨⟨hs, h1, h2, h3⟩, _⟩ := h
  have hk' : k < hs.length := by omega
  obtain ⟨b, c', e, p1, p2, _, h5, h6⟩ := h3 k _ (List.getElem?_eq_getElem hk')
  exact ⟨b, c', by rw [h1.cell hk', List.getElem?_eq_getElem hk', e], h5, h6, p1, p2⟩
/-- Where the last row lies. -/
structure LastAt (w : World) (rp sb c n : Nat) (hl : Nat) (b c' : Nat) : Prop where
  c1 : w.cell? ⟨rp, 1, none⟩ = some (.slice (some ⟨sb, 0, none⟩) hl c)
  cl : w.cell? ⟨sb, hl - 1, none⟩ = some (.slice (some ⟨b, 0, none⟩) n c')
theorem RefAt.last {w : World} {rp sb c n : Nat} {av : List Nat} {now : Int} {s : ERun} (h : RefAt w rp sb c av n now s.hist) (hok : OkE n s) : ∃ b c', LastAt w rp sb c n s.hist.length b c' ∧ Ints w .u64 (some ⟨b, 0, none⟩) s.row ∧ b < w.heap.size ∧ b ≠ rp ∧ b ≠ sb ∧ b ∉ av := by
  obtain ⟨hs, e⟩ := hok.last
  obtain ⟨b, c', hc, hl, hi, hne, hnav⟩ := h.lists.at2 (k := hs.length) (by rw [e]; simp)
  have hr : s.hist.getD hs.length [] = s.row := by rw [e]; simp [List.getD_eq_getElem?_getD]
  rw [hr] at hi hl
  refine ⟨b, c', ⟨h.head.cell (o := 1) rfl, ?_⟩, hi, ?_, fun x => hnav (by simp [x]), hne, fun x => hnav (by simp [x])⟩
  · rw [show s.hist.length - 1 = hs.length by rw [e]; simp]
    exact hc
  · obtain ⟨b', o', e, hlt, _⟩ := hi 0 (by have := hok.n1; rw [hok.len]; omega)
    injection e with e
    injection e with e
    subst e
    exact hlt
theorem LastAt.below {w w' : World} {rp sb c n hl b c' : Nat} (h : LastAt w rp sb c n hl b c') (hr : rp < w.heap.size ∧ sb < w.heap.size) (k : Below w.heap.size w w') : LastAt w' rp sb c n hl b c' :=
  ⟨(k.cell (p := ⟨rp, 1, none⟩) hr.1).trans h.c1, (k.cell (p := ⟨sb, _, none⟩) hr.2).trans h.cl⟩
theorem last_calls (w : World) (rp sb c n hl b c' : Nat) (h : LastAt w rp sb c n hl b c') (h1 : 1 ≤ hl) (h2 : hl ≤ 1000000) :
    Calls Try.prog 34 #[.pointer (some ⟨rp, 0, none⟩)] w fun e w' => e = .returned (.slice (some ⟨b, 0, none⟩) n c') ∧ ∃ nq, w' = w.drewN nq := by
  obtain ⟨k, rfl⟩ : ∃ k, hl = k + 1 := ⟨hl - 1, by omega⟩
  obtain ⟨c1, hc⟩ := h
  rw [Nat.add_sub_cancel] at hc
  have h0 : (0 : Int) ≤ (k : Int) := by omega
  have hw : IntKind.i64.wrap ((k : Int) + 1) = (k : Int) + 1 := IntWalk.i64_in _ (by omega)
  have hw2 : IntKind.i64.wrap (((k + 1 : Nat) : Int) - 1) = (k : Int) := by rw [IntWalk.i64_in _ (by omega)]; omega
  go_enter Try.func34, Try.ntmps34
  go_wp2_with fail
  go_quiet (fail)
  go_wp2_with fail
  go_ret
  exact ⟨rfl, _, rfl⟩
theorem rnew_yes (w : World) (n : Nat) (av : List Nat) (h1 : 1 ≤ n) (h2 : n ≤ 64) (hav : ∀ y ∈ av, y < w.heap.size) :
    Calls Try.prog 29 #[.int .i64 n] w fun e w' => ∃ rp sb, e = .returned (.tuple #[.pointer (some ⟨rp, 0, none⟩), .int .i64 0]) ∧ RefAt w' rp sb 1 av n 0 (run0 n).hist ∧ w.heap.size ≤ rp ∧ w.heap.size ≤ sb ∧ Below w.heap.size w w' := by
  have HAV := Lib.hid hav
  have g1 : ¬ (n : Int) < 1 := by omega
  have g2 : ¬ (64 : Int) < n := by omega
  clear hav
  go_enter Try.func29, Try.ntmps29
  go_wp2_with (at_make; refine make_row _ rfl _ _ 51 rfl 59 Try.underlying51 (.int .u64 0) 8 rfl info_u64 _ _ n rfl rfl (by omega) (by decide) ?_; intro w1 hr1 hlt1 hb1)
  go_ret2
  have hrow := Row.lit w1 [.slice (some ⟨w.heap.size, 0, none⟩) n n] 51 (by show 1 ≤ maxLen; decide)
  have hba : Below w.heap.size w (w1.alloc (.cells #[.slice (some ⟨w.heap.size, 0, none⟩) n n] 51)) := hb1.alloc hb1.size _
  have hints : Ints w1 .u64 (some ⟨w.heap.size, 0, none⟩) (List.replicate n 0) := by
    have h2 : Row w1 59 w.heap.size n ((List.replicate n 0).map (.int .u64)) := by rw [List.map_replicate]; exact hr1
    exact h2.ints
  have hsz : (w1.alloc (.cells #[.slice (some ⟨w.heap.size, 0, none⟩) n n] 51)).heap.size = w1.heap.size + 1 := by simp
  have hP := Blk.new (w1.alloc (.cells #[.slice (some ⟨w.heap.size, 0, none⟩) n n] 51)) #[.int .u64 0, .slice (some ⟨w1.heap.size, 0, none⟩) 1 1] 63
  rw [hsz] at hP
  refine ⟨_, rfl, w1.heap.size, ⟨hP, ⟨[.slice (some ⟨w.heap.size, 0, none⟩) n n], ?_, rfl, fun k hd hk => ?_⟩, ?_⟩, by have := hba.size; rw [hsz] at this; exact this, hb1.size, hba.alloc hba.size _⟩
  · exact hrow.alloc _
  · match k, hk with
    | 0, hk =>
      simp at hk
      subst hk
      refine ⟨w.heap.size, n, rfl, by omega, fun hx => ?_, by simp; omega, by simp [run0], (hints.below ((Below.refl _ _).alloc (Nat.le_refl _) _)).below ((Below.refl _ _).alloc (Nat.le_refl _) _)⟩
      rcases List.mem_cons.1 hx with e | hx
      · omega
      · have := HAV.out _ hx; omega
  · intro hx
    rcases List.mem_cons.1 hx with e | hx
    · omega
    · have := HAV.out _ hx; omega
theorem rnew_no (w : World) (n : Int) (h : n < 1 ∨ 64 < n) :
    Calls Try.prog 29 #[.int .i64 n] w fun e w' => e = .returned (.tuple #[.pointer none, .int .i64 11]) ∧ w = w' := by
  by_cases h0 : n < 1
  · clear h
    go_enter Try.func29, Try.ntmps29
    go_wp2
    go_ret2
    exact ⟨rfl, rfl⟩
  · have h1 : 64 < n := by omega
    clear h
    go_enter Try.func29, Try.ntmps29
    go_wp2
    go_ret2
    exact ⟨rfl, rfl⟩
end Go.Proofs.Ytchnhmcedmicgaa.Epo
