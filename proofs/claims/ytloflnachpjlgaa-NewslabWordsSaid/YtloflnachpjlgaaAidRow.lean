/- The last step of every law's row: if at each readable input the law returns true and nothing below its own memory turns, the row's closing condition holds. Nothing of the program stands here. -/
import Derived.WalkKit
import Derived.ProofKit
import Derived.OpenShut
import Derived.ChangeOld
import Derived.Below
import Derived.SizedLaws
namespace Go.Proofs.Ytloflnachpjlgaa.Aid
open Go.ChangeShapes Go.WideShapes Go.ChangeAt Go.RowKit
section
variable {H : Type} {enc : TypeId × Value → H} {P : Program} {W W' : World}
/-- What was read before reads so behind, below the heap's old size. -/
theorem trodAll_stays (hl : laidOutB P = true) (hb : Below W.heap.size W W') : ∀ (ts : List TypeId) (vs : List Value) (ds : List (DataW H)) (ps : List MemPlace),
    ts.all (fun t => P.readableRec t && decide (t < P.types.size)) = true → DataW.TrodAll enc P W 0 (fun _ => true) true ts vs ds ps → (∀ x ∈ ps, x.block < W.heap.size) →
    DataW.TrodAll enc P W' 0 (fun b => decide (b < W.heap.size)) true ts vs ds ps
  | [], vs, ds, ps, _, h, _ => by
    obtain ⟨rfl, rfl, rfl⟩ := trodAll_nil h
    exact trodAll_mk0
  | t :: ts, vs, ds, ps, hr, h, hlt => by
    obtain ⟨v, vs', d, ds', p, q, rfl, rfl, rfl, hv, hs⟩ := trodAll_cons h
    simp only [List.all_cons, Bool.and_eq_true, decide_eq_true_eq] at hr
    exact trodAll_cons_mk (Below.trod hl hr.1.1 hr.1.2 hv hb (fun x hx => hlt x (List.mem_append_left _ hx)))
      (trodAll_stays hl hb ts vs' ds' q hr.2 hs (fun x hx => hlt x (List.mem_append_right _ hx)))
/-- The row's closing condition, of a law that returned true. -/
theorem law_post {f : Func} {s : ChangeSpec} {args : Array Value} {ds gs : List (DataW H)} {before : List MemPlace}
    (hl : laidOutB P = true) (hr : f.params.toList.all (fun t => P.readableRec t && decide (t < P.types.size)) = true) (hv : s.vars = []) {t4 : TypeId} (h4 : f.resultTypes = #[t4]) (hu : P.underlying t4 = some .bool)
    (hfn : ∀ es : List (DataW H), es.length = f.params.size → s.fn H es = { results := [.lit (.bool true)], args := es })
    (hW : DataW.Whole enc P f.params.toList s.vars false W args.toList ds gs before) (hlen : ds.length = f.params.size) (hb : Below W.heap.size W W') :
    s.post enc P f false true false false W args (.bool true) W' := by
  obtain ⟨p, q, hA, hV, hps, hfz, hnd⟩ := id hW
  have hgs : gs = [] ∧ q = [] := by
    rw [hv] at hV
    exact trodVars_none hV
  obtain ⟨rfl, rfl⟩ := hgs
  rw [List.append_nil] at hps
  subst hps
  have hf : s.fn H (ds ++ []) = { results := [.lit (.bool true)], args := ds } := by rw [List.append_nil]; exact hfn ds hlen
  refine ⟨ds, [], before, [], before, [], hW, ?_, ?_, ?_, hb.frame _, fun h => by cases h⟩
  · rw [hf, h4]
    exact trodAll_mk1 (shut_bool hu _)
  · rw [hf]
    exact trodAll_stays hl hb _ _ _ _ hr hA (fun x hx => hW.lt x hx)
  · rw [hv]
    have : (s.fn H (ds ++ [])).vars = [] := by rw [hf]
    rw [this]
    exact rfl
/-- How many things were read. -/
theorem trodAll_length : ∀ (ts : List TypeId) (vs : List Value) (ds : List (DataW H)) (ps : List MemPlace), DataW.TrodAll enc P W 0 (fun _ => true) true ts vs ds ps → ds.length = ts.length
  | [], vs, ds, ps, h => by
    obtain ⟨rfl, rfl, rfl⟩ := trodAll_nil h
    rfl
  | t :: ts, vs, ds, ps, h => by
    obtain ⟨v, vs', d, ds', p, q, rfl, rfl, rfl, hv, hs⟩ := trodAll_cons h
    simp [trodAll_length ts vs' ds' q hs]
end
/-- A law's closing condition from its walk. -/
theorem law_lifted {H : Type} {enc : TypeId × Value → H} {C : Checked} {os : Os} {f : FuncId} {fn : Func} {s : ChangeSpec} {t4 : TypeId} (own : ownKnob C.prog.godebug = none) (started : os.Started) (noInit : C.prog.inits.idxOf? f = none) (hfn : C.prog.funcs[f]? = some fn)
    (witness : ∃ (w : World) (tape : Tape) (i : Input), w.os = os ∧ (w.forCall tape i).Shaped C.prog ∧ i.vars = [] ∧ Input.okWide C.prog (w.forCall tape i) .any w.heap.size f i ∧
      s.pre6 enc C.prog fn [] false (w.forCall tape i).memory i.args ∧ ({} : Assume).holds C.prog (lone (Frame.enter C.prog f i.args .normal) [] (w.forCall tape i)))
    (hl : laidOutB C.prog = true) (hr : fn.params.toList.all (fun t => C.prog.readableRec t && decide (t < C.prog.types.size)) = true) (hv : s.vars = []) (h4 : fn.resultTypes = #[t4]) (hu : C.prog.underlying t4 = some .bool)
    (hspec : ∀ es : List (DataW H), es.length = fn.params.size → s.fn H es = { results := [.lit (.bool true)], args := es }) (hvt : s.plain.varTypes C.prog = [])
    (calls : ∀ (W : World) (base : Nat) (args : Array Value) (ds : List (DataW H)) (ps : List MemPlace), (∀ (j : Nat) t v, fn.params[j]? = some t → args[j]? = some v → Value.okWide C.prog W .any base t v) →
      DataW.TrodAll enc C.prog W 0 (fun _ => true) true fn.params.toList args.toList ds ps → (∀ x ∈ ps, x.block < W.heap.size) → (DataW.weightsEach C.prog fn.params.toList ds).all (· ≤ reachBytes) = true →
      Calls C.prog f args W fun e W' => e = .returned (.bool true) ∧ Below W.heap.size W W') :
    ReturnsInHanded {} C os f .any (s.pre6 enc C.prog fn [] false) (s.post enc C.prog fn false true false false) := by
  refine returnsInHanded_of_change_sized own started noInit hfn witness ?_
  intro W base args ds gs before hval hW _ hsz _
  obtain ⟨p, q, hA, hV, hps, hfz, hnd⟩ := id hW
  have hgs : gs = [] ∧ q = [] := by
    rw [hv] at hV
    exact trodVars_none hV
  obtain ⟨rfl, rfl⟩ := hgs
  rw [List.append_nil] at hps
  subst hps
  rw [hvt, List.append_nil, List.append_nil] at hsz
  refine (calls W base args ds before hval hA (fun x hx => hW.lt x hx) hsz).mono fun e W' ⟨he, hb⟩ => ?_
  exact ⟨_, he, law_post hl hr hv h4 hu hspec hW (by rw [trodAll_length _ _ _ _ hA]; simp) hb⟩
end Go.Proofs.Ytloflnachpjlgaa.Aid
