/- The contracts of package radix's New, Leaves and put. -/
import Derived.Test.YtldlogmjkbhomaaRadA
import Derived.Test.YtldlogmjkbhomaaAidApp
namespace Go.Proofs.Ytldlogmjkbhomaa.Rad
open Go.RowKit Go.Proofs.Ytldlogmjkbhomaa.Aid Go.Proofs.Ytldlogmjkbhomaa.Pack
/-! ### plain -/
theorem filter_upd (p q : Nat → Bool) (j : Nat) (h : ∀ i, i ≠ j → p i = q i) : ∀ n, j < n → ((List.range n).filter p).length + (q j).toNat = ((List.range n).filter q).length + (p j).toNat := by
  have hlow : ∀ n, n ≤ j → ((List.range n).filter p) = ((List.range n).filter q) := fun n hn => List.filter_congr fun i hi => h i (by have := List.mem_range.1 hi; omega)
  intro n
  induction n with
  | zero => intro h; omega
  | succ n ih =>
    intro hn
    rw [List.range_succ, List.filter_append, List.filter_append, List.length_append, List.length_append]
    by_cases e : n = j
    · subst e
      rw [hlow n (Nat.le_refl _)]
      cases hp : p n <;> cases hq : q n <;> simp [hp, hq]
    · have := ih (by omega)
      have e2 := h n e
      cases hp : p n with
      | true => rw [hp] at e2; simp only [List.filter_cons, List.filter_nil, hp, ← e2, if_true, List.length_cons, List.length_nil]; omega
      | false => rw [hp] at e2; simp only [List.filter_cons, List.filter_nil, hp, ← e2]; simpa using this
theorem putW_at (f : Nat → Int) (i : Nat) (x : Int) : putW f i x i = x := by unfold putW; rw [if_pos rfl]
theorem putW_ne (f : Nat → Int) {i m : Nat} (x : Int) (h : m ≠ i) : putW f i x m = f m := by unfold putW; rw [if_neg h]
theorem cntW_put (f : Nat → Int) {i k j : Nat} (hj : j < 64) (hi : 64 * k + j = i) (x : Int) : cntW (putW f i x) k + (f i != 0).toNat = cntW f k + (x != 0).toNat := by
  have := filter_upd (fun m => putW f i x (64 * k + m) != 0) (fun m => f (64 * k + m) != 0) j (fun m hm => by rw [putW_ne f x (by omega)]) 64 hj
  simp only [hi, putW_at] at this
  exact this
theorem cntW_other (f : Nat → Int) {i k k' j : Nat} (hj : j < 64) (hi : 64 * k + j = i) (hk : k' ≠ k) (x : Int) : cntW (putW f i x) k' = cntW f k' := by
  unfold cntW
  congr 1
  exact List.filter_congr fun m hm => by rw [putW_ne f x (by have := List.mem_range.1 hm; omega)]
theorem leafC_other (f : Nat → Int) {i k k' j : Nat} (hj : j < 64) (hi : 64 * k + j = i) (hk : k' ≠ k) (x : Int) : leafC (putW f i x) k' = leafC f k' := by
  unfold leafC
  rw [cntW_other f hj hi hk]
  congr 1
  exact List.map_congr_left fun m hm => by rw [putW_ne f x (by have := List.mem_range.1 hm; omega)]
theorem leafC_put (f : Nat → Int) {i k j : Nat} (hj : j < 64) (hi : 64 * k + j = i) (x : Int) : ((leafC f k).set j (.int .u64 x)).set 64 (.int .i64 (cntW (putW f i x) k : Nat)) = leafC (putW f i x) k := by
  apply List.ext_getElem?
  intro m
  rw [List.getElem?_set, List.getElem?_set]
  by_cases h64 : 64 = m
  · subst h64
    rw [if_pos rfl, leafC_cnt]
    simp [leafC_len]
  · rw [if_neg h64]
    by_cases hjm : j = m
    · subst hjm
      rw [if_pos rfl, leafC_word _ _ hj, hi, putW_at, leafC_len, if_pos (by omega)]
    · rw [if_neg hjm]
      rcases Nat.lt_or_ge m 64 with h | h
      · rw [leafC_word _ _ h, leafC_word _ _ h, putW_ne f x (by omega)]
      · rw [List.getElem?_eq_none (by rw [leafC_len]; omega), List.getElem?_eq_none (by rw [leafC_len]; omega)]
/-- A leaf of noughts. -/
theorem leafC_new {f : Nat → Int} {k : Nat} (h : cntW f k = 0) : leafC f k = List.replicate 64 (.int .u64 0) ++ [.int .i64 0] := by
  have hz := cntW_zero.1 h
  unfold leafC
  rw [h]
  congr 1
  apply List.ext_getElem?
  intro m
  rcases Nat.lt_or_ge m 64 with hm | hm
  · rw [List.getElem?_replicate, if_pos hm, List.getElem?_map, List.getElem?_range hm]
    exact congrArg (fun z => some (Value.int .u64 z)) (hz m hm)
  · rw [List.getElem?_eq_none (by simpa using hm), List.getElem?_eq_none (by simpa using hm)]
section
variable {w w' : World} {p pages : Nat} {F : List Nat} {s : RS} {rb : Nat} {hs : List Value}
/-- What a call that writes leaves. -/
def Wrote (p : Nat) (F : List Nat) (pages : Nat) (s' : RS) (w w' : World) : Prop := ∃ F', RadAt w' p F' pages s' ∧ Kept F w w' ∧ ∀ x ∈ F', x ∈ F ∨ w.heap.size ≤ x
theorem wrote_same (h : RadAt w p F pages s) (k : Below w.heap.size w w') : Wrote p F pages s w w' := ⟨F, h.below k, Kept.of_below k F, fun _ hx => .inl hx⟩
theorem ptr_inj {a b : Nat} (h : ptrTo a = ptrTo b) : a = b := by
  have := Value.pointer.inj h
  have := Option.some.inj this
  exact congrArg Addr.block this
/-- One place of the root anew. -/
theorem parts_put (h : Parts w p F pages s rb hs) {i k j : Nat} (hP : Place pages i k j) (x : Int) {v v' : Value} (hv : hs[k]? = some v) (hrow : Row w' LPT rb (leavesN pages) (hs.set k v'))
    (hnew : (v' = .pointer none ∧ cntW (putW s.ws i x) k = 0) ∨ ∃ g, v' = ptrTo g ∧ Blk w' g (leafC (putW s.ws i x) k).toArray LT ∧ cntW (putW s.ws i x) k ≠ 0 ∧ (v = ptrTo g ∨ w.heap.size ≤ g))
    (hz : w.heap.size ≤ w'.heap.size) (hold : ∀ b, b < w.heap.size → b ≠ rb → v ≠ ptrTo b → w'.heap[b]? = w.heap[b]?) :
    ∃ F', Parts w' p F' pages ⟨putW s.ws i x, s.st⟩ rb (hs.set k v') ∧ ∀ y ∈ F', y ∈ F ∨ w.heap.size ≤ y := by
  have hkl : k < hs.length := (List.getElem?_eq_some_iff.1 hv).1
  have hget : ∀ m, (hs.set k v')[m]? = if m = k then some v' else hs[m]? := fun m => by
    rw [List.getElem?_set]
    by_cases e : k = m
    · subst e; simp [hkl]
    · rw [if_neg e, if_neg fun e' => e e'.symm]
  have hpl := h.head.lt
  have hrl := h.rows.lt
  have hpn : v ≠ ptrTo p := fun e => by
    subst e
    rcases h.each k _ hv with ⟨h1, _⟩ | ⟨g, h1, _, _, _, h2, _⟩
    · cases h1
    · exact h2 (ptr_inj h1).symm
  have hvF : ∀ g, v = ptrTo g → g ∈ F ∧ g ≠ p ∧ g ≠ rb ∧ g < w.heap.size := fun g e => by
    subst e
    rcases h.each k _ hv with ⟨h1, _⟩ | ⟨g', h1, h2, _, h3, h4, h5⟩
    · cases h1
    · cases ptr_inj h1
      exact ⟨h3, h4, h5, h2.lt⟩
  have hother : ∀ (m : Nat) (u : Value) (F' : List Nat), (∀ y ∈ F, y ∈ F') → m ≠ k → hs[m]? = some u → LeafAt w' F' p rb (putW s.ws i x) m u := fun m u F' hF' hm hu => by
    rcases h.each m u hu with ⟨h1, h2⟩ | ⟨g, h1, h2, h3, h4, h5, h6⟩
    · exact .inl ⟨h1, by rw [cntW_other _ hP.j1 hP.sum hm]; exact h2⟩
    · refine .inr ⟨g, h1, ?_, by rw [cntW_other _ hP.j1 hP.sum hm]; exact h3, hF' g h4, h5, h6⟩
      rw [leafC_other _ hP.j1 hP.sum hm]
      refine (hold g h2.lt h6 fun e => hm ?_).trans h2
      subst h1
      subst e
      exact h.apart m k g hu hv
  rcases hnew with ⟨rfl, hc⟩ | ⟨g, rfl, hB, hc, hg⟩
  · refine ⟨F, ⟨(hold p hpl h.ne hpn).trans h.head, hrow, by rw [List.length_set]; exact h.hlen, fun m u hu => ?_, fun a b g ha hb => ?_, h.ins, h.ne, fun y hy => Nat.lt_of_lt_of_le (h.flt y hy) hz⟩, fun y hy => .inl hy⟩
    · rw [hget] at hu
      by_cases e : m = k
      · rw [if_pos e] at hu
        subst e
        exact .inl ⟨(Option.some.inj hu).symm, hc⟩
      · rw [if_neg e] at hu
        exact hother m u F (fun _ hy => hy) e hu
    · rw [hget] at ha hb
      by_cases e1 : a = k
      · rw [if_pos e1] at ha
        cases Option.some.inj ha
      · by_cases e2 : b = k
        · rw [if_pos e2] at hb
          cases Option.some.inj hb
        · rw [if_neg e1] at ha
          rw [if_neg e2] at hb
          exact h.apart a b g ha hb
  · have hgo : g ≠ p ∧ g ≠ rb := by
      rcases hg with e | e
      · exact ⟨(hvF g e).2.1, (hvF g e).2.2.1⟩
      · omega
    refine ⟨g :: F, ⟨(hold p hpl h.ne hpn).trans h.head, hrow, by rw [List.length_set]; exact h.hlen, fun m u hu => ?_, fun a b g' ha hb => ?_, ⟨List.mem_cons_of_mem _ h.ins.1, List.mem_cons_of_mem _ h.ins.2⟩, h.ne, fun y hy => ?_⟩, fun y hy => ?_⟩
    · rw [hget] at hu
      by_cases e : m = k
      · rw [if_pos e] at hu
        subst e
        exact .inr ⟨g, (Option.some.inj hu).symm, hB, hc, List.mem_cons_self, hgo⟩
      · rw [if_neg e] at hu
        exact hother m u _ (fun _ hy => List.mem_cons_of_mem _ hy) e hu
    · have hx : ∀ m, m ≠ k → hs[m]? = some (ptrTo g) → False := fun m hm hm2 => by
        rcases hg with e | e
        · exact hm (h.apart m k g hm2 (by rw [hv, e]))
        · rcases h.each m _ hm2 with ⟨h1, _⟩ | ⟨g2, h1, h2, _⟩
          · cases h1
          · cases ptr_inj h1
            have := h2.lt
            omega
      rw [hget] at ha hb
      by_cases e1 : a = k
      · by_cases e2 : b = k
        · omega
        · rw [if_pos e1] at ha
          rw [if_neg e2] at hb
          cases ptr_inj (Option.some.inj ha)
          exact (hx b e2 hb).elim
      · rw [if_neg e1] at ha
        by_cases e2 : b = k
        · rw [if_pos e2] at hb
          cases ptr_inj (Option.some.inj hb)
          exact (hx a e1 ha).elim
        · rw [if_neg e2] at hb
          exact h.apart a b g' ha hb
    · rcases List.mem_cons.1 hy with rfl | hy
      · exact hB.lt
      · exact Nat.lt_of_lt_of_le (h.flt y hy) hz
    · rcases List.mem_cons.1 hy with rfl | hy
      · rcases hg with e | e
        · exact .inl (hvF y e).1
        · exact .inr e
      · exact .inl hy
end
theorem cnt_nz {c : Nat} (h : c ≠ 0) : ((c : Int) == 0) = false := beq_eq_false_iff_ne.2 (by omega)
theorem cnt_nz1 (c : Nat) : (((c : Int) + 1) == 0) = false := beq_eq_false_iff_ne.2 (by omega)
theorem cnt_wrap {c : Nat} (h : c ≤ 64) : wrap64 (c : Int) = (c : Int) ∧ wrap64 ((c : Int) - 1) = (c : Int) - 1 ∧ wrap64 ((c : Int) + 1) = (c : Int) + 1 := by
  unfold wrap64
  omega
theorem wrote_put {w w' : World} {p pages : Nat} {F : List Nat} {s : RS} {rb : Nat} {hs : List Value} (h : Parts w p F pages s rb hs) {i k j : Nat} (hP : Place pages i k j) {x : Int} (hok : OkR pages ⟨putW s.ws i x, s.st⟩) {v v' : Value} (hv : hs[k]? = some v) (hrow : Row w' LPT rb (leavesN pages) (hs.set k v'))
    (hnew : (v' = .pointer none ∧ cntW (putW s.ws i x) k = 0) ∨ ∃ g, v' = ptrTo g ∧ Blk w' g (leafC (putW s.ws i x) k).toArray LT ∧ cntW (putW s.ws i x) k ≠ 0 ∧ (v = ptrTo g ∨ w.heap.size ≤ g))
    {G : List Nat} (hK : Kept G w w') (hG : ∀ b ∈ G, b = rb ∨ v = ptrTo b ∨ w.heap.size ≤ b) : Wrote p F pages ⟨putW s.ws i x, s.st⟩ w w' := by
  obtain ⟨F', h1, h2⟩ := parts_put h hP x hv hrow hnew hK.size (fun b hb h1 h2 => hK.block b hb fun hx => by
    rcases hG b hx with e | e | e
    · exact h1 e
    · exact h2 e
    · omega)
  refine ⟨F', ⟨hok, rb, _, h1⟩, (Kept.refl F w).step hK fun b hb => ?_, h2⟩
  rcases hG b hb with e | e | e
  · exact .inl (e ▸ h.ins.2)
  · rcases h.each k v hv with ⟨h3, _⟩ | ⟨g, h3, _, _, h4, _⟩
    · rw [h3] at e
      cases e
    · rw [h3] at e
      exact .inl (ptr_inj e ▸ h4)
  · exact .inr e
theorem set_self {α : Type} {l : List α} {k : Nat} {v : α} (h : l[k]? = some v) : l.set k v = l := by
  apply List.ext_getElem?
  intro m
  rw [List.getElem?_set]
  by_cases e : k = m
  · subst e
    rw [if_pos rfl, if_pos (List.getElem?_eq_some_iff.1 h).1, h]
  · rw [if_neg e]
theorem leaf_store {f f' : Nat → Int} {k j : Nat} {x : Int} {n : Nat} {w : World} {g : Nat} (h : Blk w g (((leafC f k).set j (.int .u64 x)).set 64 (.int .i64 (n : Nat))).toArray LT) (e : ((leafC f k).set j (.int .u64 x)).set 64 (.int .i64 (cntW f' k : Nat)) = leafC f' k) (hn : cntW f' k = n) : Blk w g (leafC f' k).toArray LT := by
  rw [← e, hn]
  exact h
theorem setL {w : World} {b : Nat} {cs : List Value} {T : TypeId} (h : Blk w b cs.toArray T) (o : Nat) (v : Value) : Blk (w.setCell ⟨b, o, none⟩ v) b (cs.set o v).toArray T := by
  have := h.set o v
  rwa [List.setIfInBounds_toArray] at this
set_option maxHeartbeats 4000000 in
theorem put_both (w : World) (p : Nat) (F : List Nat) (pages : Nat) (s : RS) (i : Nat) (x : Int) (rb g k j : Nat) (hs : List Value) (hP : Parts w p F pages s rb hs) (hPl : Place pages i k j) (hv : hs[k]? = some (ptrTo g)) (hB : Blk w g (leafC s.ws k).toArray LT) (hc : cntW s.ws k ≠ 0) (hgr : g ≠ rb)
    (hf : s.ws i ≠ 0) (hx : x ≠ 0) (hok : OkR pages ⟨putW s.ws i x, s.st⟩) :
    Calls Try.prog 65 #[.pointer (some ⟨p, 0, none⟩), .int .i64 i, .int .u64 x] w fun e w' => (∃ v, e = .returned v) ∧ Wrote p F pages ⟨putW s.ws i x, s.st⟩ w w' := by
  have hcnt := cntW_put s.ws hPl.j1 hPl.sum x
  have hle := cntW_le s.ws k
  have HLC := Lib.hid (leafC_put s.ws hPl.j1 hPl.sum x)
  have HPl := Lib.hid hPl
  have HPt := Lib.hid hP
  have HB := Lib.hid hB
  have c1 := hP.c1
  have hkl : k < hs.length := (List.getElem?_eq_some_iff.1 hv).1
  have hck := (hP.rows.cell hkl).trans hv
  have hfr := hP.rows.free k
  have hcw := hB.cell (o := j) (v := .int .u64 (s.ws i)) (by rw [List.getElem?_toArray, leafC_word s.ws k hPl.j1, hPl.sum])
  have hcn := hB.cell (o := 64) (v := .int .i64 (cntW s.ws k : Nat)) (by rw [List.getElem?_toArray, leafC_cnt])
  have fj := hB.free j
  have f64 := hB.free 64
  obtain ⟨e1, e2, _, hk1, hj1, _⟩ := hPl
  have hk0 : (0 : Int) ≤ (k : Int) := by omega
  have hj0 : (0 : Int) ≤ (j : Int) := by omega
  have hk1' : (k : Int) < (leavesN pages : Int) := by omega
  have hj1' : (j : Int) < 64 := by omega
  have hj64 : j ≠ 64 := by omega
  have hj64' : 64 ≠ j := by omega
  have hgr' : rb ≠ g := Ne.symm hgr
  have hf' : (s.ws i != 0) = true := by simpa using hf
  have hx' : (x != 0) = true := by simpa using hx
  rw [hf', hx'] at hcnt
  have HC := Lib.hid (show cntW (putW s.ws i x) k = cntW s.ws k from Nat.add_right_cancel hcnt)
  have HN := Lib.hid hc
  generalize cntW s.ws k = c at hcn hc hle HC HN
  have r1 : wrap64 ((c : Int) - 1) = (c : Int) - 1 := (cnt_wrap hle).2.1
  have r2 : wrap64 (c : Int) = (c : Int) := (cnt_wrap hle).1
  have r3 : ((c : Int) == 0) = false := cnt_nz HN.out
  clear hcnt hf hx hle hc
  unfold ptrTo at hck
  have HV := Lib.hid hv
  have HKl := Lib.hid hkl
  have HO := Lib.hid hok
  clear hP hB hv hkl hok
  go_enter Try.func65, Try.ntmps65
  go_wp2
  go_end0
  have hb := setL (setL (setL HB.out 64 (.int .i64 ((c : Int) - 1))) 64 (.int .i64 (c : Int))) j (.int .u64 x)
  rw [List.set_set, List.set_comm _ _ hj64'] at hb
  have hb2 := leaf_store hb HLC.out HC.out
  have hk := (((Kept.refl [g] w).setCell (p := ⟨g, 64, none⟩) (by simp) (.int .i64 ((c : Int) - 1))).setCell (p := ⟨g, 64, none⟩) (by simp) (.int .i64 (c : Int))).setCell (p := ⟨g, j, none⟩) (by simp) (.int .u64 x)
  refine ⟨⟨_, rfl⟩, wrote_put HPt.out HPl.out HO.out HV.out ?_ (.inr ⟨g, rfl, hb2, by rw [HC.out]; exact HN.out, .inl rfl⟩) hk (fun b hb => .inr (.inl ?_))⟩
  · rw [set_self HV.out]
    exact HPt.out.rows.kept hk (by simpa using hgr')
  · rw [List.mem_singleton] at hb
    rw [hb]
set_option maxHeartbeats 4000000 in
theorem put_fresh (w : World) (p : Nat) (F : List Nat) (pages : Nat) (s : RS) (i : Nat) (x : Int) (rb g k j : Nat) (hs : List Value) (hP : Parts w p F pages s rb hs) (hPl : Place pages i k j) (hv : hs[k]? = some (ptrTo g)) (hB : Blk w g (leafC s.ws k).toArray LT) (_hc : cntW s.ws k ≠ 0) (hgr : g ≠ rb)
    (hf : s.ws i = 0) (hx : x ≠ 0) (hok : OkR pages ⟨putW s.ws i x, s.st⟩) :
    Calls Try.prog 65 #[.pointer (some ⟨p, 0, none⟩), .int .i64 i, .int .u64 x] w fun e w' => (∃ v, e = .returned v) ∧ Wrote p F pages ⟨putW s.ws i x, s.st⟩ w w' := by
  have hcnt := cntW_put s.ws hPl.j1 hPl.sum x
  have hle := cntW_le s.ws k
  have HLC := Lib.hid (leafC_put s.ws hPl.j1 hPl.sum x)
  have HPl := Lib.hid hPl
  have HPt := Lib.hid hP
  have HB := Lib.hid hB
  have c1 := hP.c1
  have hkl : k < hs.length := (List.getElem?_eq_some_iff.1 hv).1
  have hck := (hP.rows.cell hkl).trans hv
  have hfr := hP.rows.free k
  have hcw := hB.cell (o := j) (v := .int .u64 (s.ws i)) (by rw [List.getElem?_toArray, leafC_word s.ws k hPl.j1, hPl.sum])
  have hcn := hB.cell (o := 64) (v := .int .i64 (cntW s.ws k : Nat)) (by rw [List.getElem?_toArray, leafC_cnt])
  have fj := hB.free j
  have f64 := hB.free 64
  obtain ⟨e1, e2, _, hk1, hj1, _⟩ := hPl
  have hk0 : (0 : Int) ≤ (k : Int) := by omega
  have hj0 : (0 : Int) ≤ (j : Int) := by omega
  have hk1' : (k : Int) < (leavesN pages : Int) := by omega
  have hj1' : (j : Int) < 64 := by omega
  have hj64 : j ≠ 64 := by omega
  have hj64' : 64 ≠ j := by omega
  have hgr' : rb ≠ g := Ne.symm hgr
  have hf' : (s.ws i != 0) = false := by simpa using hf
  have hx' : (x != 0) = true := by simpa using hx
  rw [hf', hx'] at hcnt
  have HC := Lib.hid (show cntW (putW s.ws i x) k = cntW s.ws k + 1 from hcnt)
  generalize cntW s.ws k = c at hcn _hc hle HC
  have r1 : wrap64 ((c : Int) + 1) = (c : Int) + 1 := (cnt_wrap hle).2.2
  have r3 : (((c : Int) + 1) == 0) = false := cnt_nz1 c
  clear hcnt hx hle _hc
  rw [hf] at hcw
  clear hf
  unfold ptrTo at hck
  have HV := Lib.hid hv
  have HKl := Lib.hid hkl
  have HO := Lib.hid hok
  clear hP hB hv hkl hok
  go_enter Try.func65, Try.ntmps65
  go_wp2
  go_end0
  have hb := setL (setL HB.out 64 (.int .i64 ((c : Int) + 1))) j (.int .u64 x)
  rw [List.set_comm _ _ hj64'] at hb
  have hb2 := leaf_store (n := c + 1) hb HLC.out HC.out
  have hk := ((Kept.refl [g] w).setCell (p := ⟨g, 64, none⟩) (by simp) (.int .i64 ((c : Int) + 1))).setCell (p := ⟨g, j, none⟩) (by simp) (.int .u64 x)
  refine ⟨⟨_, rfl⟩, wrote_put HPt.out HPl.out HO.out HV.out ?_ (.inr ⟨g, rfl, hb2, by rw [HC.out]; omega, .inl rfl⟩) hk (fun b hb => .inr (.inl ?_))⟩
  · rw [set_self HV.out]
    exact HPt.out.rows.kept hk (by simpa using hgr')
  · rw [List.mem_singleton] at hb
    rw [hb]
set_option maxHeartbeats 4000000 in
theorem put_last (w : World) (p : Nat) (F : List Nat) (pages : Nat) (s : RS) (i : Nat) (x : Int) (rb g k j : Nat) (hs : List Value) (hP : Parts w p F pages s rb hs) (hPl : Place pages i k j) (hv : hs[k]? = some (ptrTo g)) (hB : Blk w g (leafC s.ws k).toArray LT) (_hc : cntW s.ws k ≠ 0) (hgr : g ≠ rb)
    (hf : s.ws i ≠ 0) (hx : x = 0) (h1 : cntW s.ws k = 1) (hok : OkR pages ⟨putW s.ws i x, s.st⟩) :
    Calls Try.prog 65 #[.pointer (some ⟨p, 0, none⟩), .int .i64 i, .int .u64 x] w fun e w' => (∃ v, e = .returned v) ∧ Wrote p F pages ⟨putW s.ws i x, s.st⟩ w w' := by
  have hcnt := cntW_put s.ws hPl.j1 hPl.sum x
  have hle := cntW_le s.ws k
  have HLC := Lib.hid (leafC_put s.ws hPl.j1 hPl.sum x)
  have HPl := Lib.hid hPl
  have HPt := Lib.hid hP
  have HB := Lib.hid hB
  have c1 := hP.c1
  have hkl : k < hs.length := (List.getElem?_eq_some_iff.1 hv).1
  have hck := (hP.rows.cell hkl).trans hv
  have hfr := hP.rows.free k
  have hcw := hB.cell (o := j) (v := .int .u64 (s.ws i)) (by rw [List.getElem?_toArray, leafC_word s.ws k hPl.j1, hPl.sum])
  have hcn := hB.cell (o := 64) (v := .int .i64 (cntW s.ws k : Nat)) (by rw [List.getElem?_toArray, leafC_cnt])
  have fj := hB.free j
  have f64 := hB.free 64
  obtain ⟨e1, e2, _, hk1, hj1, _⟩ := hPl
  have hk0 : (0 : Int) ≤ (k : Int) := by omega
  have hj0 : (0 : Int) ≤ (j : Int) := by omega
  have hk1' : (k : Int) < (leavesN pages : Int) := by omega
  have hj1' : (j : Int) < 64 := by omega
  have hj64 : j ≠ 64 := by omega
  have hj64' : 64 ≠ j := by omega
  have hgr' : rb ≠ g := Ne.symm hgr
  subst hx
  have hf' : (s.ws i != 0) = true := by simpa using hf
  rw [hf'] at hcnt
  have HC := Lib.hid (show cntW (putW s.ws i 0) k = 0 from by simp at hcnt; omega)
  rw [h1] at hcn
  clear hcnt hf hle _hc h1
  unfold ptrTo at hck
  have HV := Lib.hid hv
  have HKl := Lib.hid hkl
  have HO := Lib.hid hok
  clear hP hB hv hkl hok
  go_enter Try.func65, Try.ntmps65
  go_wp2
  go_end0
  have hk := (((Kept.refl [g, rb] w).setCell (p := ⟨g, 64, none⟩) (by simp) (.int .i64 0)).setCell (p := ⟨g, j, none⟩) (by simp) (.int .u64 0)).setCell (p := ⟨rb, k, none⟩) (by simp) (.pointer none)
  refine ⟨⟨_, rfl⟩, wrote_put HPt.out HPl.out HO.out HV.out ?_ (.inl ⟨rfl, HC.out⟩) hk (fun b hb => ?_)⟩
  · exact ((HPt.out.rows.other (a := ⟨g, 64, none⟩) hgr' _).other (a := ⟨g, j, none⟩) hgr' _).store k _
  · rcases List.mem_cons.1 hb with rfl | hb
    · exact .inr (.inl rfl)
    · rw [List.mem_singleton] at hb
      exact .inl hb
set_option maxHeartbeats 4000000 in
theorem put_less (w : World) (p : Nat) (F : List Nat) (pages : Nat) (s : RS) (i : Nat) (x : Int) (rb g k j : Nat) (hs : List Value) (hP : Parts w p F pages s rb hs) (hPl : Place pages i k j) (hv : hs[k]? = some (ptrTo g)) (hB : Blk w g (leafC s.ws k).toArray LT) (hc : cntW s.ws k ≠ 0) (hgr : g ≠ rb)
    (hf : s.ws i ≠ 0) (hx : x = 0) (h1 : cntW s.ws k ≠ 1) (hok : OkR pages ⟨putW s.ws i x, s.st⟩) :
    Calls Try.prog 65 #[.pointer (some ⟨p, 0, none⟩), .int .i64 i, .int .u64 x] w fun e w' => (∃ v, e = .returned v) ∧ Wrote p F pages ⟨putW s.ws i x, s.st⟩ w w' := by
  have hcnt := cntW_put s.ws hPl.j1 hPl.sum x
  have hle := cntW_le s.ws k
  have HLC := Lib.hid (leafC_put s.ws hPl.j1 hPl.sum x)
  have HPl := Lib.hid hPl
  have HPt := Lib.hid hP
  have HB := Lib.hid hB
  have c1 := hP.c1
  have hkl : k < hs.length := (List.getElem?_eq_some_iff.1 hv).1
  have hck := (hP.rows.cell hkl).trans hv
  have hfr := hP.rows.free k
  have hcw := hB.cell (o := j) (v := .int .u64 (s.ws i)) (by rw [List.getElem?_toArray, leafC_word s.ws k hPl.j1, hPl.sum])
  have hcn := hB.cell (o := 64) (v := .int .i64 (cntW s.ws k : Nat)) (by rw [List.getElem?_toArray, leafC_cnt])
  have fj := hB.free j
  have f64 := hB.free 64
  obtain ⟨e1, e2, _, hk1, hj1, _⟩ := hPl
  have hk0 : (0 : Int) ≤ (k : Int) := by omega
  have hj0 : (0 : Int) ≤ (j : Int) := by omega
  have hk1' : (k : Int) < (leavesN pages : Int) := by omega
  have hj1' : (j : Int) < 64 := by omega
  have hj64 : j ≠ 64 := by omega
  have hj64' : 64 ≠ j := by omega
  have hgr' : rb ≠ g := Ne.symm hgr
  subst hx
  have hf' : (s.ws i != 0) = true := by simpa using hf
  rw [hf'] at hcnt
  have HC := Lib.hid (show cntW (putW s.ws i 0) k = cntW s.ws k - 1 from by simp at hcnt; omega)
  have HN := Lib.hid (show cntW s.ws k - 1 ≠ 0 by omega)
  have hcn' : w.cell? ⟨g, 64, none⟩ = some (.int .i64 ((cntW s.ws k - 1 : Nat) + 1)) := by rw [hcn]; congr 2; omega
  clear hcn
  generalize cntW s.ws k - 1 = c at hcn' HC HN
  have hc64 : c ≤ 64 := by simp at hcnt; have := HC.out; omega
  have r1 : wrap64 (c : Int) = (c : Int) := (cnt_wrap hc64).1
  have r3 : ((c : Int) == 0) = false := cnt_nz HN.out
  clear hcnt hf hle hc h1 hc64
  unfold ptrTo at hck
  have HV := Lib.hid hv
  have HKl := Lib.hid hkl
  have HO := Lib.hid hok
  clear hP hB hv hkl hok
  go_enter Try.func65, Try.ntmps65
  go_wp2
  go_end0
  have hb := setL (setL HB.out 64 (.int .i64 (c : Int))) j (.int .u64 0)
  rw [List.set_comm _ _ hj64'] at hb
  have hb2 := leaf_store hb HLC.out HC.out
  have hk := ((Kept.refl [g] w).setCell (p := ⟨g, 64, none⟩) (by simp) (.int .i64 (c : Int))).setCell (p := ⟨g, j, none⟩) (by simp) (.int .u64 0)
  refine ⟨⟨_, rfl⟩, wrote_put HPt.out HPl.out HO.out HV.out ?_ (.inr ⟨g, rfl, hb2, by rw [HC.out]; exact HN.out, .inl rfl⟩) hk (fun b hb => .inr (.inl ?_))⟩
  · rw [set_self HV.out]
    exact HPt.out.rows.kept hk (by simpa using hgr')
  · rw [List.mem_singleton] at hb
    rw [hb]
theorem zeroLeaf_eq {f : Nat → Int} {k : Nat} (h : cntW f k = 0) : Try.zeroCells121 = (leafC f k).toArray := by
  rw [leafC_new h]
  rfl
set_option maxHeartbeats 4000000 in
theorem put_make (w : World) (p : Nat) (F : List Nat) (pages : Nat) (s : RS) (i : Nat) (x : Int) (rb k j : Nat) (hs : List Value) (hP : Parts w p F pages s rb hs) (hPl : Place pages i k j) (hv : hs[k]? = some (.pointer none)) (hc : cntW s.ws k = 0)
    (hx : x ≠ 0) (hok : OkR pages ⟨putW s.ws i x, s.st⟩) :
    Calls Try.prog 65 #[.pointer (some ⟨p, 0, none⟩), .int .i64 i, .int .u64 x] w fun e w' => (∃ v, e = .returned v) ∧ Wrote p F pages ⟨putW s.ws i x, s.st⟩ w w' := by
  have hcnt := cntW_put s.ws hPl.j1 hPl.sum x
  have hf := cntW_zero.1 hc j hPl.j1
  rw [hPl.sum] at hf
  have HLC := Lib.hid (leafC_put s.ws hPl.j1 hPl.sum x)
  have HPl := Lib.hid hPl
  have HPt := Lib.hid hP
  have c1 := hP.c1
  have hkl : k < hs.length := (List.getElem?_eq_some_iff.1 hv).1
  have hck := (hP.rows.cell hkl).trans hv
  have hfr := hP.rows.free k
  obtain ⟨e1, e2, _, hk1, hj1, _⟩ := hPl
  have hk0 : (0 : Int) ≤ (k : Int) := by omega
  have hj0 : (0 : Int) ≤ (j : Int) := by omega
  have hk1' : (k : Int) < (leavesN pages : Int) := by omega
  have hj1' : (j : Int) < 64 := by omega
  have hj64 : j ≠ 64 := by omega
  have hj64' : 64 ≠ j := by omega
  have hx' : (x != 0) = true := by simpa using hx
  rw [hf, hx', hc] at hcnt
  have HC := Lib.hid (show cntW (putW s.ws i x) k = 1 from hcnt)
  have hrl := hP.rows.lt
  have hgr : w.heap.size ≠ rb := by omega
  have hgr' : rb ≠ w.heap.size := by omega
  have HV := Lib.hid hv
  have HO := Lib.hid hok
  have HR := Lib.hid ((hP.rows.store k (ptrTo w.heap.size)).alloc (.cells (leafC s.ws k).toArray LT))
  have HK := Lib.hid (((Kept.refl [rb] w).setCell (p := ⟨rb, k, none⟩) (by simp) (ptrTo w.heap.size)).alloc (.cells (leafC s.ws k).toArray LT))
  have HB := Lib.hid (show Blk ((w.setCell ⟨rb, k, none⟩ (ptrTo w.heap.size)).alloc (.cells (leafC s.ws k).toArray LT)) w.heap.size (leafC s.ws k).toArray LT from by
    have := Blk.new (w.setCell ⟨rb, k, none⟩ (ptrTo w.heap.size)) (leafC s.ws k).toArray LT
    rwa [World.size_setCell] at this)
  have HF := Lib.hid hf
  have HCz := Lib.hid hc
  clear hP hv hok hcnt hx hkl hf hc
  go_enter Try.func65, Try.ntmps65
  go_upto_region 2 with fail
  go_cut [] (fun wc => wc = (w.setCell ⟨rb, k, none⟩ (ptrTo w.heap.size)).alloc (.cells (leafC s.ws k).toArray LT))
  case first =>
    go_wp2_with fail
    go_meet
    rw [← zeroLeaf_eq HCz.out]
    exact rfl
  case rest =>
  rw [← hcut] at HB HR HK
  clear hcut
  obtain ⟨g, hg⟩ : ∃ g, g = w.heap.size := ⟨_, rfl⟩
  rw [← hg] at hgr hgr' HB HR
  have HG := Lib.hid (Nat.le_of_eq hg.symm)
  clear hg hrl
  have hB := HB.out
  have hcw := hB.cell (o := j) (v := .int .u64 0) (by rw [List.getElem?_toArray, leafC_word s.ws k hj1, HPl.out.sum, HF.out])
  have hcn := hB.cell (o := 64) (v := .int .i64 0) (by rw [List.getElem?_toArray, leafC_cnt, HCz.out]; rfl)
  have fj := hB.free j
  have f64 := hB.free 64
  have hkl2 : k < (hs.set k (ptrTo g)).length := by rw [List.length_set, HPt.out.hlen]; exact hk1
  have hck2 := (HR.out.cell hkl2).trans (by rw [List.getElem?_set, if_pos rfl, if_pos (by rw [HPt.out.hlen]; exact hk1)])
  unfold ptrTo at hck2
  clear hB hkl2 hck hfr c1
  go_wp2_with fail
  go_end0
  have hb := setL (setL HB.out 64 (.int .i64 1)) j (.int .u64 x)
  rw [List.set_comm _ _ hj64'] at hb
  have hb2 := leaf_store (n := 1) hb HLC.out HC.out
  have hk := ((HK.out.step (Kept.refl [g] wc) (fun b hb => .inr (by rw [List.mem_singleton] at hb; rw [hb]; exact HG.out))).mono (G := [g, rb]) (by simp)).setCell (p := ⟨g, 64, none⟩) (by simp) (.int .i64 1)
  have hk := hk.setCell (p := ⟨g, j, none⟩) (by simp) (.int .u64 x)
  refine ⟨⟨_, rfl⟩, wrote_put HPt.out HPl.out HO.out HV.out ((HR.out.other (a := ⟨g, 64, none⟩) hgr' _).other (a := ⟨g, j, none⟩) hgr' _) (.inr ⟨g, rfl, hb2, by rw [HC.out]; decide, .inr HG.out⟩) hk (fun b hb => ?_)⟩
  rcases List.mem_cons.1 hb with rfl | hb
  · exact .inr (.inr HG.out)
  · rw [List.mem_singleton] at hb
    exact .inl hb
end Go.Proofs.Ytldlogmjkbhomaa.Rad
