/- A region that draws its order, inside a round of a loop over a function: it goes as outside, for none of its operations defers. Nothing of the program stands here. -/
import Derived.RangeFuncCalls
import Derived.Deep.RegionHeld3
import Derived.OrdersIn
import Derived.RangeFuncNested
namespace Go.Proofs.YtknieebmcpgppaaDoor.Aid
open Go.RowKit
section
variable {P : Program} {Q : Exit → Act → World → Prop} {S : World → Prop}
theorem rowsIn_of {n l : Nat} {row : String} {args : Array Value} {w : World} {R : Value → World → Prop} (h : Rows P row args w R) : RowsIn (Fence.wide.inRound l) n P row args w R := fun c cs _ => by
  obtain ⟨v, w', r, s⟩ := h c cs
  exact ⟨v, w', r, stepsIn_wide.2 s⟩
theorem opIn_of {n l : Nat} {o : Oper} {a : Act} {w : World} {K : Act → World → Prop} (hd : ∀ c, o.op ≠ .defer c) (h : o.wp P a w K Q) : o.wpIn (Fence.wide.inRound l) n P a w K Q := by
  refine ⟨fun _ _ => trivial, ?_⟩
  rw [Oper.semAt_eq _ _ _ hd]
  unfold Oper.wp at h
  generalize (execOp a.eval o).run P w = r at h
  cases r with
  | ok x w' =>
    cases x with
    | enter f args => exact ⟨(fun h => by cases h), (callsIn_wide.2 h).inRound l⟩
    | row r args => exact ⟨(fun h => by cases h), rowsIn_of h⟩
    | _ => first | exact h | exact h.elim
  | halt x w' => cases x <;> first | exact h | exact h.elim
theorem anyIn_of {n l : Nat} {md : Region.Mode} {ops : Array Oper} (hnd : ∀ (i : Nat) (o : Oper), ops[i]? = some o → ∀ c, o.op ≠ .defer c) (hq : ¬ LetsOut Q) :
    ∀ (fuel : Nat) (listed : Array Bool) (a : Act) (w : World), wpAny P md ops Q fuel listed a w → wpAnyIn (Fence.wide.inRound l) n P md ops Q fuel listed a w
  | 0, _, _, _, h => h
  | fuel + 1, listed, a, w, h => by
    refine ⟨h.1, fun i hi => ?_⟩
    have h1 := h.2 i hi
    unfold wpOp at h1
    unfold wpOpIn
    cases ho : ops[i]? with
    | none =>
      simp only [ho] at h1 ⊢
      exact anyIn_of hnd hq fuel _ _ _ h1
    | some o =>
      simp only [ho] at h1 ⊢
      by_cases hw : Region.wanted o (yielded ops a.tmps) = true
      · rw [if_pos hw] at h1 ⊢
        rcases h1 with h1 | h1
        · exact Oper.wpIn_mono (fun a w h => anyIn_of hnd hq fuel _ a w h) (opIn_of (hnd i o ho) h1)
        · exact absurd h1.2 hq
      · rw [if_neg hw] at h1 ⊢
        exact ⟨fun _ _ => trivial, anyIn_of hnd hq fuel _ _ _ h1⟩
def noDefer (ops : Array Oper) : Bool := ops.toList.all fun o => match o.op with
  | .defer _ => false
  | _ => true
theorem noDefer_of {ops : Array Oper} (h : noDefer ops = true) : ∀ (i : Nat) (o : Oper), ops[i]? = some o → ∀ c, o.op ≠ .defer c := fun i o ho c e => by
  unfold noDefer at h
  have := List.all_eq_true.1 h o (Array.mem_toList_iff.2 (Array.mem_of_getElem? ho))
  rw [e] at this
  cases this
/-- The region's beginning, as wp_region_held_drew. -/
theorem round_held_drew {n l id : Nat} {ops : Array Oper} {a : Act} {w : World} (hm : P.follows .mixedOrders = true) (hnd : noDefer ops = true) (hq : ¬ LetsOut Q) (hS : S w.drew)
    (h : S w.drew → wpAnyH P .any ops Q S ops.size (Array.replicate ops.size false) a w.drew) : (Code.region id ops true).wpIn (Fence.wide.inRound l) n P Q a w :=
  wpIn_region_any hm (anyIn_of (noDefer_of hnd) hq _ _ _ _ (wpAny_of_held _ _ _ _ (h hS)))
end
section
variable {P : Program} {ops : Array Oper} {Q : Exit → Act → World → Prop} {md : Region.Mode} {S : World → Prop}
/-- An operation that its guard passes over is taken first. -/
theorem wpAnyH_skip {i : Nat} (d : Tmp) {fuel : Nat} {listed : Array Bool} {a : Act} {w : World} (hd : (ops[i]?).bind (·.dst) = some d)
    (hs : Region.noSelect ops = true) (hf : Region.free md ops listed i = true) (hr : (Region.ready md ops listed).contains i = true)
    (hw : ((ops[i]?).map fun o => Region.wanted o (yielded ops a.tmps)) = some false) (hQ : ∀ c a w, Q (.panic c) (a.put (some d) undef) w → Q (.panic c) a w) (hS : S w)
    (h : wpAnyH P md ops Q S fuel (listed.setIfInBounds i true) ⟨a.tmps.setIfInBounds d undef, a.defers⟩ w) : wpAnyH P md ops Q S (fuel + 1) listed a w := by
  cases ho : ops[i]? with
  | none => rw [ho] at hd; cases hd
  | some o =>
    rw [ho] at hd hw
    have e : o.dst = some d := hd
    refine wpAnyH_take (v := undef) ho hs hf hr (by rw [e]; exact hQ) (.inr ⟨Option.some.inj hw, rfl⟩) hS ?_
    rw [e]
    exact h
/-- An operation that yields is taken first. -/
theorem wpAnyH_yield {i : Nat} (d : Tmp) {v : Value} {fuel : Nat} {listed : Array Bool} {a : Act} {w : World} (hd : (ops[i]?).bind (·.dst) = some d)
    (hs : Region.noSelect ops = true) (hf : Region.free md ops listed i = true) (hr : (Region.ready md ops listed).contains i = true)
    (hw : ((ops[i]?).map fun o => Region.wanted o (yielded ops a.tmps)) = some true) (hQ : ∀ c a w, Q (.panic c) (a.put (some d) v) w → Q (.panic c) a w) (hS : S w)
    (hv : ∀ w, S w → ((ops[i]?).map fun o => (execOp a.eval o).run P w) = some (.ok (.value v) w))
    (h : wpAnyH P md ops Q S fuel (listed.setIfInBounds i true) ⟨a.tmps.setIfInBounds d v, a.defers⟩ w) : wpAnyH P md ops Q S (fuel + 1) listed a w := by
  cases ho : ops[i]? with
  | none => rw [ho] at hd; cases hd
  | some o =>
    rw [ho] at hd hw
    have e : o.dst = some d := hd
    refine wpAnyH_take (v := v) ho hs hf hr (by rw [e]; exact hQ) (.inl ⟨Option.some.inj hw, fun w hw => ?_⟩) hS ?_
    · have := hv w hw
      rw [ho] at this
      exact Option.some.inj this
    · rw [e]
      exact h
end
section
variable {F : Fence} {n : Nat} {P : Program}
/-- The law of the loop over a function, where a round's frame is the loop's own with some slots written. -/
theorem range_upd0 {α : Type} {g : Operand} {ps : Array Tmp} {assign body : Code} {Q : Exit → Act → World → Prop} {t : Array Value} {w : World}
    (hro : F.round = none) (h1 : 1 ≤ n) {gf : Nat} {lb : Array Value} (hg : (Act.mk t []).eval g = .func (.func gf) #[] lb) (hFg : F.fn gf) (eg : ∀ args w, (callFunc gf args).run P w = .ok (.enter gf args) w)
    {encs : α → Array Value} {Kp : World → World → Prop} {S Sp : List α → Prop} {N : Nat} {w0 : World} (hseq : SeqStopsK F (n - 1) P gf lb encs Kp S Sp N w0)
    (hKt : ∀ {A B C : World}, Kp A B → Kp B C → Kp A C) (hKb : ∀ (W : World) (l : Nat) (o o' : Obj), w.heap.size ≤ l → W.heap[l]? = some o → o.isCells = false → o.isWalk = false → Kp W (W.putObj l o')) (hb0 : Below w0.heap.size w0 w) (hps : ∀ x, (encs x).size = ps.size)
    (I : List α → World → Prop) (Ix : Code → List α → World → Prop) (hI : OwnFrom w.heap.size I) (hIx : ∀ c, OwnFrom w.heap.size (Ix c)) (h0 : I [] w) (fr : Array Value → α → Array Value) (hfr : ∀ x, (ps.zip (encs x)).foldl (fun t (p, v) => t.setIfInBounds p v) t = fr t x) (upd : Array Value → α → Array Value)
    (hassign : ∀ (l : Nat) (x : α) (W : World) (K : Act → World → Prop), K ⟨upd t x, []⟩ W → assign.wpIn (F.inRound l) (n - 1 - 1) P (Exit.then K (fun _ _ _ => False)) { tmps := fr t x, defers := [] } W)
    (hbody : ∀ (l : Nat) (pre : List α) (x : α) (W : World), I pre W → pre.length < N → body.wpIn (F.inRound l) (n - 1 - 1) P (ownPostG w.heap.size Kp I Ix (pre ++ [x]) W) ⟨upd t x, []⟩ W)
    (hdone : ∀ (D : Nat) (xs : List α) (W : World), w.heap.size ≤ D → S xs → I xs W → W.heap[D]? = some (.deferred (some [])) → Q .normal { tmps := t, defers := [{ target := .collected D, args := #[] }] } W)
    (hstop : ∀ (D : Nat) (c : Code) (pre : List α) (W : World), w.heap.size ≤ D → Sp pre → Ix c pre W → W.heap[D]? = some (.deferred (some [])) → c.wpIn F n P Q { tmps := t, defers := [{ target := .collected D, args := #[] }] } W)
    (hKr : ∀ W, Kp W W) :
    (Code.rangeFunc g ps assign body).wpIn F n P Q ⟨t, []⟩ w :=
  wpIn_rangeFunc_ownG_of_H hro h1 hg hFg eg hseq hKt hKb hb0 hps I Ix hI hIx h0 (fun x => ⟨upd t x, []⟩) (fun l x W K hK => by rw [show (Act.mk t []).tmps = t from rfl, hfr]; exact hassign l x W K hK) hbody hdone hstop hKr
end
end Go.Proofs.YtknieebmcpgppaaDoor.Aid
