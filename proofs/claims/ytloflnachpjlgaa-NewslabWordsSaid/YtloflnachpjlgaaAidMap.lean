/- Small words on a map from keys to numbers that lies in a block of its own: what stands at which key, how many keys there are; look-up, store, delete, len and clone, for walks. Nothing of the program stands here. -/
import Derived.Test.YtloflnachpjlgaaAidObj
import Derived.Maps.OwnSet
import Derived.DeepKeys4
import Derived.WideKeyEntry
import Derived.Shelf.SlMaps.Clone
namespace Go.Proofs.Ytloflnachpjlgaa.Aid
open Go.RowKit Go.Maps
/-- How things of one's own stand for a map's keys. -/
structure KeyAs {α : Type} (P : Program) (k : TypeId) (ke : α → Value) (OK : α → Prop) : Prop where
  law : Keyed P k
  some_ : ∀ a, OK a → ∃ kl, keyOf P k (ke a) = some kl
  inj : ∀ a b, ke a = ke b → a = b
/-- Block b is a map of n keys; g tells what stands at a key. -/
def MapI {α : Type} (w : World) (P : Program) (k e : TypeId) (q : IntKind) (ke : α → Value) (OK : α → Prop) (b n : Nat) (g : α → Option Int) : Prop :=
  ∃ D : DataW Unit, w.ownsMap P k (plainElem P e) b n D ∧ Maps.size D = n ∧ ∀ a kl, OK a → keyOf P k (ke a) = some kl → Maps.has D kl = (g a).isSome ∧ D.atKey kl (.lit (.int q 0)) = .lit (.int q ((g a).getD 0))
theorem owns_block {H : Type} {P : Program} {k : TypeId} {R : Value → Option (DataW H × List MemPlace)} {w w' : World} {b n : Nat} {D : DataW H} (h : w.ownsMap P k R b n D) (hb : w'.heap[b]? = w.heap[b]?) : w'.ownsMap P k R b n D := by
  obtain ⟨es, clock, h1, r⟩ := h
  exact ⟨es, clock, hb.trans h1, r⟩
theorem owns_tight {H : Type} {P : Program} {k : TypeId} {R : Value → Option (DataW H × List MemPlace)} {w : World} {b n : Nat} {D : DataW H} (h : w.ownsMap P k R b n D) : w.ownsMap P k R b (Maps.size D) D := by
  obtain ⟨es, clock, h1, F, hs, rfl⟩ := h
  exact ⟨es, clock, h1, F, by simp [Maps.size, length_sorted], rfl⟩
section
variable {α : Type} {w w' : World} {P : Program} {k e : TypeId} {q : IntKind} {ke : α → Value} {OK : α → Prop} {b n : Nat} {g : α → Option Int}
theorem MapI.made (w : World) (P : Program) (k e : TypeId) (q : IntKind) (ke : α → Value) (OK : α → Prop) : MapI (w.alloc (.map #[] 0)) P k e q ke OK w.heap.size 0 (fun _ => none) :=
  ⟨.map [], World.ownsMap_made _ _ _ _, rfl, fun _ _ _ _ => ⟨rfl, rfl⟩⟩
theorem MapI.lt (h : MapI w P k e q ke OK b n g) : b < w.heap.size := by obtain ⟨D, h1, _⟩ := h; exact h1.lt
theorem MapI.block (h : MapI w P k e q ke OK b n g) (hb : w'.heap[b]? = w.heap[b]?) : MapI w' P k e q ke OK b n g := by
  obtain ⟨D, h1, r⟩ := h
  exact ⟨D, owns_block h1 hb, r⟩
theorem MapI.kept (h : MapI w P k e q ke OK b n g) {F : List Nat} (hk : Kept F w w') (hb : b ∉ F) : MapI w' P k e q ke OK b n g := h.block (hk.block b h.lt hb)
theorem MapI.below (h : MapI w P k e q ke OK b n g) (hk : Below w.heap.size w w') : MapI w' P k e q ke OK b n g := h.block (hk.block b h.lt)
theorem MapI.alloc (h : MapI w P k e q ke OK b n g) (o : Obj) : MapI (w.alloc o) P k e q ke OK b n g := h.block (Below.heap_alloc _ _ _ h.lt)
theorem MapI.drewN (h : MapI w P k e q ke OK b n g) (m : Nat) : MapI (w.drewN m) P k e q ke OK b n g := h
theorem MapI.drew (h : MapI w P k e q ke OK b n g) : MapI w.drew P k e q ke OK b n g := h
theorem MapI.other (h : MapI w P k e q ke OK b n g) {a : Addr} (ha : b ≠ a.block) (v : Value) : MapI (w.setCell a v) P k e q ke OK b n g := h.block (Below.heap_setCell _ _ _ _ ha)
theorem MapI.congr (h : MapI w P k e q ke OK b n g) {g' : α → Option Int} (hg : ∀ a, OK a → g a = g' a) : MapI w P k e q ke OK b n g' := by
  obtain ⟨D, h1, h2, h3⟩ := h
  exact ⟨D, h1, h2, fun a kl ha hk => by rw [← hg a ha]; exact h3 a kl ha hk⟩
theorem undrewK {F : List Nat} {w w' : World} (h : Kept F w.drew w') : Kept F w w' := ⟨h.os, h.tape, h.output, h.size, h.block⟩
variable [DecidableEq α]
def upd (g : α → Option Int) (y : α) (z : Option Int) : α → Option Int := fun a => if a = y then z else g a
omit [DecidableEq α] in
theorem kl_ne (K : KeyAs P k ke OK) {a y : α} {kl kl' : Lit} (h : keyOf P k (ke a) = some kl') (hy : keyOf P k (ke y) = some kl) (hne : a ≠ y) : kl' ≠ kl := fun e => hne (K.inj _ _ (K.law.inj (e ▸ h) hy))
theorem MapI.put (h : MapI w P k e q ke OK b n g) (K : KeyAs P k ke OK) {t : TypeId} (ht : P.underlying t = some (.map k e)) (he : P.underlying e = some (.int q)) (hn : n < maxLen) {y : α} (hy : OK y) {z : Int} (hz : (Lit.int q z).wf = true) :
    ∃ w', (Instr.mapUpdate t (.map (some b)) (ke y) (.int q z)).run P w = .ok () w' ∧ MapI w' P k e q ke OK b (if (g y).isSome = true then n else n + 1) (upd g y (some z)) ∧ Kept [b] w w' := by
  obtain ⟨D, h1, h2, h3⟩ := h
  obtain ⟨kl, hkl⟩ := K.some_ y hy
  obtain ⟨w', hrun, ho, hg⟩ := h1.update K.law ht hn hkl (plainElem_int he hz)
  have hD := h1.tidy K.law
  have hsz := size_put (k := kl) hD (.lit (.int q z))
  rw [(h3 y kl hy hkl).1, h2] at hsz
  refine ⟨w', hrun, ⟨_, by rw [← hsz]; exact owns_tight ho, hsz, fun a kl' ha hka => ?_⟩, ⟨hg.os, hg.tape, hg.output, hg.size, fun i hi hF => hg.block i hi (by intro e; injection e with e; exact hF (by simp [e]))⟩⟩
  by_cases hay : a = y
  · subst hay
    obtain rfl : kl' = kl := Option.some.inj (hka.symm.trans hkl)
    rw [has_put_same hD.isMap (K.law.key hkl), atKey_put_same hD.isMap (K.law.key hkl)]
    simp [upd]
  · have hne := kl_ne K hka hkl hay
    rw [has_put_other hne, atKey_put_other hne]
    simpa [upd, hay] using h3 a kl' ha hka
theorem MapI.drop (h : MapI w P k e q ke OK b n g) (K : KeyAs P k ke OK) {t : TypeId} (ht : P.underlying t = some (.map k e)) {y : α} (hy : OK y) (ty : TypeId) :
    ∃ w', (Builtin.delete_ #[t, k] ty #[.map (some b), ke y]).run P w = .ok (.tuple #[]) w' ∧ MapI w' P k e q ke OK b (if (g y).isSome = true then n - 1 else n) (upd g y none) ∧ Kept [b] w w' := by
  obtain ⟨D, h1, h2, h3⟩ := h
  obtain ⟨kl, hkl⟩ := K.some_ y hy
  obtain ⟨w', hrun, ho, hg⟩ := h1.drop K.law ht hkl ty
  have hg := hg.grown
  have hD := h1.tidy K.law
  have hsz := size_del (k := kl) hD
  rw [(h3 y kl hy hkl).1, h2] at hsz
  have hsz' : Maps.size (D.del kl) = if (g y).isSome = true then n - 1 else n := by split at hsz <;> simp_all <;> omega
  refine ⟨w', hrun, ⟨_, by rw [← hsz']; exact owns_tight ho, hsz', fun a kl' ha hka => ?_⟩, ⟨hg.os, hg.tape, hg.output, hg.size, fun i hi hF => hg.block i hi (by intro e; injection e with e; exact hF (by simp [e]))⟩⟩
  by_cases hay : a = y
  · subst hay
    obtain rfl : kl' = kl := Option.some.inj (hka.symm.trans hkl)
    rw [has_del_same, atKey_del_same]
    simp [upd]
  · have hne := kl_ne K hka hkl hay
    rw [has_del_other hne, atKey_del_other hne]
    simpa [upd, hay] using h3 a kl' ha hka
omit [DecidableEq α] in
theorem MapI.look (h : MapI w P k e q ke OK b n g) (K : KeyAs P k ke OK) {t : TypeId} (ht : P.underlying t = some (.map k e)) (he : P.underlying e = some (.int q)) (hz : (zeroValue e).run P w = .ok (.int q 0) w) {y : α} (hy : OK y) :
    (Instr.lookup t (.map (some b)) (ke y) false).run P w = .ok (.int q ((g y).getD 0)) w ∧ (Instr.lookup t (.map (some b)) (ke y) true).run P w = .ok (.tuple #[.int q ((g y).getD 0), .bool (g y).isSome]) w ∧ (Lit.int q ((g y).getD 0)).wf = true := by
  obtain ⟨D, h1, h2, h3⟩ := h
  obtain ⟨kl, hkl⟩ := K.some_ y hy
  obtain ⟨h4, h5⟩ := h3 y kl hy hkl
  obtain ⟨c, hrun, hat, hw⟩ := h1.lookup_int K.law ht he hz hkl
  have hw0 : (Lit.int q 0).wf = true := by cases q <;> decide
  obtain ⟨v, ps, hrun2, hv⟩ := h1.look_ok K.law ht hz (plainElem_int he hw0) hkl
  obtain ⟨c2, rfl, hc2, _⟩ := plainElem_int_inv he hv
  rw [h5] at hat hc2
  simp only [DataW.lit.injEq, Lit.int.injEq, true_and, Prod.mk.injEq] at hat hc2
  rw [h4] at hrun2
  rw [← hat] at hrun hw
  rw [← hc2.1] at hrun2
  exact ⟨hrun, hrun2, hw⟩
omit [DecidableEq α] in
theorem MapI.len (h : MapI w P k e q ke OK b n g) {t : TypeId} (ht : P.underlying t = some (.map k e)) (ty : TypeId) : (Builtin.len_ #[t] ty #[.map (some b)]).run P w = .ok (.int .i64 n) w := by
  obtain ⟨D, h1, h2, h3⟩ := h
  rw [h1.len ht ty, h2]
end
section
variable {α : Type} {P : Program} {k e : TypeId} {q : IntKind} {ke : α → Value} {OK : α → Prop} {b n : Nat} {g : α → Option Int} (w : World) {ops : Array Oper} {rest : List Oper} {o : Oper} {a : Act} {Q : Exit → Act → World → Prop}
/-- 'm[k]'. -/
theorem at_look (hg : o.guard = none) (m x : Operand) (t : TypeId) (hop : o.op = Op.lookup t m x false) (K : KeyAs P k ke OK) (ht : P.underlying t = some (.map k e)) (he : P.underlying e = some (.int q)) (hz : (zeroValue e).run P w = .ok (.int q 0) w)
    (hown : MapI w P k e q ke OK b n g) (hm : a.eval m = .map (some b)) (y : α) (hy : OK y) (hx : a.eval x = ke y) (hK : wpList P ops Q rest (a.put o.dst (.int q ((g y).getD 0))) w) : wpList P ops Q (o :: rest) a w := by
  refine wpList_plain hg fun K' hK' => ?_
  obtain ⟨hrun, _, _⟩ := hown.look K ht he hz hy
  unfold Oper.wp
  simp [execOp, hop, hm, hx, hrun, Result.andThen]
  exact hK' _ _ hK
/-- 'v, ok := m[k]'. -/
theorem at_look_ok (hg : o.guard = none) (m x : Operand) (t : TypeId) (hop : o.op = Op.lookup t m x true) (K : KeyAs P k ke OK) (ht : P.underlying t = some (.map k e)) (he : P.underlying e = some (.int q)) (hz : (zeroValue e).run P w = .ok (.int q 0) w)
    (hown : MapI w P k e q ke OK b n g) (hm : a.eval m = .map (some b)) (y : α) (hy : OK y) (hx : a.eval x = ke y) (hK : wpList P ops Q rest (a.put o.dst (.tuple #[.int q ((g y).getD 0), .bool (g y).isSome])) w) : wpList P ops Q (o :: rest) a w := by
  refine wpList_plain hg fun K' hK' => ?_
  obtain ⟨_, hrun, _⟩ := hown.look K ht he hz hy
  unfold Oper.wp
  simp [execOp, hop, hm, hx, hrun, Result.andThen]
  exact hK' _ _ hK
/-- 'len(m)'. -/
theorem at_maplen (hg : o.guard = none) (m : Operand) (t : TypeId) (hop : o.op = Op.call { callee := Callee.builtin Builtin.len, args := #[m], argTypes := #[t] }) (ht : P.underlying t = some (.map k e))
    (hown : MapI w P k e q ke OK b n g) (hm : a.eval m = .map (some b)) (hK : wpList P ops Q rest (a.put o.dst (.int .i64 n)) w) : wpList P ops Q (o :: rest) a w := by
  obtain ⟨D, h1, h2, h3⟩ := hown
  refine wpList_len_own w hg m t hop k e ht _ b n D hm h1 ?_
  rw [h2]; exact hK
variable [DecidableEq α]
/-- 'm[k] = v'. -/
theorem at_store (hg : o.guard = none) (m x v : Operand) (t : TypeId) (hop : o.op = Op.mapUpdate t m x v) (K : KeyAs P k ke OK) (ht : P.underlying t = some (.map k e)) (he : P.underlying e = some (.int q)) (hn : n < maxLen)
    (hown : MapI w P k e q ke OK b n g) (hm : a.eval m = .map (some b)) (y : α) (hy : OK y) (z : Int) (hz : (Lit.int q z).wf = true) (hx : a.eval x = ke y) (hv : a.eval v = .int q z)
    (hK : ∀ w', MapI w' P k e q ke OK b (if (g y).isSome = true then n else n + 1) (upd g y (some z)) → Kept [b] w w' → wpList P ops Q rest (a.put o.dst undef) w') : wpList P ops Q (o :: rest) a w := by
  refine wpList_plain hg fun K' hK' => ?_
  obtain ⟨w', hrun, r1, r2⟩ := hown.put K ht he hn hy hz
  unfold Oper.wp
  simp [execOp, hop, hm, hx, hv, hrun, Result.andThen]
  exact hK' _ _ (hK w' r1 r2)
/-- An entry of a map's literal. -/
theorem at_insert (hg : o.guard = none) (m x v : Operand) (t : TypeId) (hop : o.op = Op.insert t m x v) (K : KeyAs P k ke OK) (ht : P.underlying t = some (.map k e)) (he : P.underlying e = some (.int q)) (hn : n < maxLen)
    (hown : MapI w P k e q ke OK b n g) (hm : a.eval m = .map (some b)) (y : α) (hy : OK y) (z : Int) (hz : (Lit.int q z).wf = true) (hx : a.eval x = ke y) (hv : a.eval v = .int q z)
    (hK : ∀ w', MapI w' P k e q ke OK b (if (g y).isSome = true then n else n + 1) (upd g y (some z)) → Kept [b] w w' → wpList P ops Q rest (a.put o.dst undef) w') : wpList P ops Q (o :: rest) a w := by
  refine wpList_plain hg fun K' hK' => ?_
  obtain ⟨w', hrun, r1, r2⟩ := hown.put K ht he hn hy hz
  unfold Oper.wp
  simp [execOp, hop, hm, hx, hv, hrun, Result.andThen]
  exact hK' _ _ (hK w' r1 r2)
/-- 'delete(m, k)'. -/
theorem at_drop (hg : o.guard = none) (m x : Operand) (t k' : TypeId) (hop : o.op = Op.call { callee := Callee.builtin Builtin.delete, args := #[m, x], argTypes := #[t, k'] }) (hk' : k' = k) (K : KeyAs P k ke OK) (ht : P.underlying t = some (.map k e))
    (hown : MapI w P k e q ke OK b n g) (hm : a.eval m = .map (some b)) (y : α) (hy : OK y) (hx : a.eval x = ke y)
    (hK : ∀ w', MapI w' P k e q ke OK b (if (g y).isSome = true then n - 1 else n) (upd g y none) → Kept [b] w w' → wpList P ops Q rest (a.put o.dst (.tuple #[])) w') : wpList P ops Q (o :: rest) a w := by
  subst hk'
  refine wpList_plain hg fun K' hK' => ?_
  obtain ⟨w', hrun, r1, r2⟩ := hown.drop K ht hy o.type
  unfold Oper.wp
  simp [execOp, hop, resolve, invoke, builtin, hm, hx, hrun, Result.andThen]
  exact hK' _ _ (hK w' r1 r2)
end
/-- 'm[k]++' and its like: the entry is found or made, looked up, and stored to. -/
theorem MapI.bump {α : Type} [DecidableEq α] {P : Program} {k e t : TypeId} {q : IntKind} {ke : α → Value} {OK : α → Prop} {b n : Nat} {g : α → Option Int} {w : World} (h : MapI w P k e q ke OK b n g) (K : KeyAs P k ke OK) (L : WideMaps.KeyLaw P k)
    (ht : P.underlying t = some (.map k e)) (he : P.underlying e = some (.int q)) (hz : ∀ u : World, (zeroValue e).run P u = .ok (.int q 0) u) (hn : n < maxLen) {y : α} (hy : OK y) :
    ∃ (v0 : Value) (st : Nat) (w1 : World), (Instr.mapEntry t (.map (some b)) (ke y)).run P w = .ok (.tuple #[v0, .int .i64 st]) w1 ∧
      (Instr.lookup t (.map (some b)) (ke y) false).run P w = .ok (.int q ((g y).getD 0)) w ∧ (Instr.lookup t (.map (some b)) (ke y) false).run P w1 = .ok (.int q ((g y).getD 0)) w1 ∧ Kept [b] w w1 ∧
      ∀ z, (Lit.int q z).wf = true → ∃ w2, (Instr.entryStore t (.map (some b)) (.int .i64 st) (.int q z)).run P w1 = .ok () w2 ∧ MapI w2 P k e q ke OK b (if (g y).isSome = true then n else n + 1) (upd g y (some z)) ∧ Kept [b] w w2 := by
  obtain ⟨D, h1, h2, h3⟩ := id h
  obtain ⟨kl, hkl⟩ := K.some_ y hy
  obtain ⟨es, clock, hb, F, hs, rfl⟩ := id h1
  obtain ⟨v0, st, es1, clock1, hrun, _, hst⟩ := WideElems.entry_then_store L ht hz hb F hkl
  have hw1 : (ChangeMaps.setBlock w b (.map es1 clock1)).heap[b]? = some (.map es1 clock1) := ChangeMaps.heap_setBlock_same hb _
  have hK : ∀ o, Kept [b] w (ChangeMaps.setBlock w b o) := fun o => ⟨rfl, rfl, rfl, by simp [ChangeMaps.setBlock], fun i _ hi => ChangeMaps.heap_setBlock_other hb _ (by simpa using hi)⟩
  have hw0 : (Lit.int q 0).wf = true := by cases q <;> decide
  have hl := (h.look K ht he (hz w) hy).1
  refine ⟨v0, st, _, hrun, hl, ?_, hK _, fun z hz' => ?_⟩
  · rcases L.find w hkl es.toList F.keys with ⟨f1, _⟩ | ⟨j, e0, f1, f2, f3⟩
    · have hr2 : (Instr.mapEntry t (.map (some b)) (ke y)).run P w = .ok (.tuple #[.int q 0, goInt clock]) (ChangeMaps.setBlock w b (.map (es.push ⟨ke y, .int q 0, clock⟩) (clock + 1))) := by
        simp [Instr.mapEntry, run_underlying ht, MapKept.run_getObj_map hb, L.check w false hkl, f1, hz, MapKept.run_setObj_map _ hb, Result.andThen, ChangeMaps.setBlock]
      have hp : (Instr.mapUpdate t (.map (some b)) (ke y) (.int q 0)).run P w = .ok () (ChangeMaps.setBlock w b (.map (es.push ⟨ke y, .int q 0, clock⟩) (clock + 1))) := by
        simp [Instr.mapUpdate, run_underlying ht, MapKept.run_getObj_map hb, L.check w false hkl, f1, MapKept.run_setObj_map _ hb, Result.andThen, ChangeMaps.setBlock]
      have hg0 : (Instr.lookup t (.map (some b)) (ke y) false).run P w = .ok (.int q 0) w := by
        simp [Instr.lookup, run_underlying ht, MapKept.run_getObj_map hb, L.check w es.isEmpty hkl, f1, hz, Result.andThen]
      rw [hl] at hg0
      simp only [Result.ok.injEq, Value.int.injEq, true_and, and_true] at hg0
      obtain ⟨w', hrun', hM, _⟩ := h.put K ht he hn hy hw0
      rw [hp] at hrun'
      rw [hr2] at hrun
      simp only [Result.ok.injEq, true_and] at hrun' hrun
      rw [← hrun.2, hrun']
      have := (hM.look K ht he (hz _) hy).1
      rw [this, hg0]
      simp [upd]
    · have hj : es[j]? = some e0 := by simpa using f2
      have hr2 : (Instr.mapEntry t (.map (some b)) (ke y)).run P w = .ok (.tuple #[e0.val, goInt e0.born]) (ChangeMaps.setBlock w b (.map (es.modify j fun e => { e with key := ke y }) clock)) := by
        simp [Instr.mapEntry, run_underlying ht, MapKept.run_getObj_map hb, L.check w false hkl, f1, hj, f3, L.stays w hkl, MapKept.run_setObj_map _ hb, Result.andThen, ChangeMaps.setBlock]
      have hsame : es.modify j (fun e => { e with key := ke y }) = es := by
        apply Array.ext_getElem?
        intro i
        rw [Array.getElem?_modify]
        by_cases hi : j = i
        · subst hi
          rw [if_pos rfl, hj]
          simp [← f3]
        · rw [if_neg hi]
      have hself : ChangeMaps.setBlock w b (.map es clock) = w := by
        have e : w.heap.setIfInBounds b (.map es clock) = w.heap := by
          apply Array.ext_getElem?
          intro i
          by_cases hi : i = b
          · subst hi
            exact (ChangeMaps.heap_setBlock_same hb _).trans hb.symm
          · exact ChangeMaps.heap_setBlock_other hb _ hi
        unfold ChangeMaps.setBlock
        rw [e]
      rw [hr2, hsame] at hrun
      simp only [Result.ok.injEq] at hrun
      rw [← hrun.2, hself]
      exact hl
  · obtain ⟨es', clock', s1, s2⟩ := hst _ (.int q z) hw1
    obtain ⟨w', hrun', hM, hk⟩ := h.put K ht he hn hy hz'
    rw [s2] at hrun'
    simp only [Result.ok.injEq, true_and] at hrun'
    refine ⟨_, s1, ?_⟩
    have e2 : ChangeMaps.setBlock (ChangeMaps.setBlock w b (.map es1 clock1)) b (.map es' clock') = w' := by rw [← hrun']; simp [ChangeMaps.setBlock]
    rw [e2]
    exact ⟨hM, hk⟩
theorem law_of {P : Program} {k : TypeId} {d : TypeDesc} (hl : laidOutB P = true) (hu : P.underlying k = some d) (hd : (match d with | .array _ _ | .struct _ => true | _ => false) = true) (hrow : k < P.types.size) (hk2 : P.keyTypeAt 2 k = true) : WideMaps.KeyLaw P k :=
  deep_law_laid hl (m := 2) (by omega) hrow hk2 (by rw [hu]; cases d <;> simp_all)
/-- The copy that maps.Clone lays. -/
theorem MapI.copy {α : Type} {w : World} {P : Program} {k e : TypeId} {q : IntKind} {ke : α → Value} {OK : α → Prop} {b n : Nat} {g : α → Option Int} (h : MapI w P k e q ke OK b n g) : ∃ es clock, w.heap[b]? = some (.map es clock) ∧ MapI (w.alloc (.map es clock)) P k e q ke OK w.heap.size n g := by
  obtain ⟨D, ⟨es, clock, hb, F, hs, hD⟩, r⟩ := h
  exact ⟨es, clock, hb, D, ⟨es, clock, (MapKept.heap_alloc w _).1, F, hs, hD⟩, r⟩
/-! ### Keys that are numbers, or rows of numbers -/
def keI (q : IntKind) : Int → Value := .int q
def okI (q : IntKind) (x : Int) : Prop := (Lit.int q x).wf = true
theorem keyI {P : Program} {k : TypeId} {q : IntKind} (hk : P.underlying k = some (.int q)) : KeyAs P k (keI q) (okI q) :=
  ⟨int_keyed hk, fun a ha => ⟨_, keyOf_int_mk hk ha⟩, fun a b h => by unfold keI at h; injection h⟩
def keL (q : IntKind) (xs : List Int) : Value := .agg (xs.map (Value.int q)).toArray
def okL (q : IntKind) (n : Nat) (xs : List Int) : Prop := xs.length = n ∧ ∀ x ∈ xs, (Lit.int q x).wf = true
theorem keL_inj (q : IntKind) (a b : List Int) (h : keL q a = keL q b) : a = b := by
  unfold keL at h
  injection h with h
  have h := congrArg Array.toList h
  simp only at h
  have : ∀ a b : List Int, a.map (Value.int q) = b.map (Value.int q) → a = b := by
    intro a
    induction a with
    | nil => intro b h; cases b <;> simp at h; rfl
    | cons x r ih => intro b h; cases b with
      | nil => simp at h
      | cons y s => simp at h; rw [h.1, ih s h.2]
  exact this a b h
theorem mapM_some {β γ : Type} (f : β → Option γ) (g : β → γ) : ∀ L : List β, (∀ x ∈ L, f x = some (g x)) → L.mapM f = some (L.map g)
  | [], _ => rfl
  | x :: r, h => by
    rw [List.mapM_cons, h x (by simp), mapM_some f g r (fun y hy => h y (by simp [hy]))]
    rfl
/-- An array of numbers as a key. -/
theorem keyL_arr {P : Program} {k e : TypeId} {q : IntKind} {n m : Nat} (hl : laidOutB P = true) (hu : P.underlying k = some (.array n e)) (he : P.underlying e = some (.int q)) (h1 : P.cellsOf e = 1) (hc : P.cellsOf k = n) (hkt : P.keyType k = true) (hsz : P.types.size = m + 1) (hrow : k < P.types.size)
    (hk2 : P.keyTypeAt 2 k = true) : KeyAs P k (keL q) (okL q n) := by
  refine ⟨Keyed.of_law (deep_law_laid hl (m := 2) (by omega) hrow hk2 (by rw [hu])), fun xs ⟨hx, hw⟩ => ?_, keL_inj q⟩
  unfold keyOf keL
  simp only [hu]
  rw [if_pos (by simp [hkt, Value.formed, hu, hc, hx]), hsz]
  unfold Program.keyLits
  simp only [hu, Value.cells]
  rw [if_pos (by simp [hc, hx]), mapM_some _ (fun i => [Lit.int q (xs.getD i 0)])]
  · exact ⟨_, rfl⟩
  · intro i hi
    have hi : i < xs.length := by simpa [hx] using hi
    rw [h1, Nat.mul_one]
    have e1 : ((List.map (Value.int q) xs).drop i).take 1 = [.int q (xs.getD i 0)] := by
      rw [List.drop_eq_getElem_cons (by simpa using hi), List.take_succ_cons, List.take_zero]
      simp [List.getD_eq_getElem?_getD, hi]
    have hw' := hw (xs.getD i 0) (by simp [List.getD_eq_getElem?_getD, hi])
    rw [e1]
    generalize xs.getD i 0 = z at hw' ⊢
    simp [Program.keyLits, he, hw']
end Go.Proofs.Ytloflnachpjlgaa.Aid
