/- OldslabCalls: great; both slabs side by side. -/
import Derived.Test.YtknieebmcpgppaaDoorOldK
import Derived.Test.YtknieebmcpgppaaDoorOldY
set_option linter.unusedSimpArgs false
namespace Go.Proofs.YtknieebmcpgppaaDoor.Old
open Go.RowKit Go.Proofs.YtknieebmcpgppaaDoor.Aid Go.Proofs.YtknieebmcpgppaaDoor.Bit
def greatB (xs : List Cl) : Bool := decide (200 < xs.length) || xs.any fun c => decide (200 < c.l.length)
theorem great_calls (w : World) (A : Option Addr) (c : Nat) (xs : List Cl) (hx : Cls w A xs) (_hl : xs.length ≤ maxLen) : Calls Tryd.prog 43 #[.slice A xs.length c] w fun e w' => e = .returned (.bool (greatB xs)) ∧ w = w' := by
  have hmax : maxLen < 9223372036854775808 := by decide
  have HX := Lib.hid hx
  clear hx
  by_cases h0 : 200 < xs.length
  · have hg : greatB xs = true := by unfold greatB; simp [h0]
    have h1 : (200 : Int) < (xs.length : Int) := by omega
    rw [hg]
    clear hg h0 hmax
    go_enter Tryd.func43, Tryd.ntmps43
    go_wp2_with fail
    go_ret
    exact ⟨rfl, rfl⟩
  · have h200 : xs.length ≤ 200 := by omega
    have hg : greatB xs = xs.any fun c => decide (200 < c.l.length) := by unfold greatB; simp [h0]
    have HG := Lib.hid hg
    clear hg h0 hmax
    go_enter Tryd.func43, Tryd.ntmps43
    go_wp2_with fail
    go_loopw [3] (fun i wr => ∃ k : Nat, i = .int .i64 k ∧ k ≤ xs.length ∧ (xs.any fun c => decide (200 < c.l.length)) = ((xs.drop k).any fun c => decide (200 < c.l.length)) ∧ w = wr) (fun i _ => xs.length - (intOf i).toNat)
    case atStart => exact ⟨0, rfl, by omega, rfl, rfl⟩
    case round =>
      obtain ⟨k, rfl, hk, ha, rfl⟩ := hrel
      by_cases hlt : k < xs.length
      · have hk0 : (0 : Int) ≤ (k : Int) := by omega
        have hk1 : (k : Int) < (xs.length : Int) := by omega
        obtain ⟨b, o, rfl, hC⟩ := HX.out k hlt
        obtain ⟨A2, c2, d2, _, hl2⟩ := hC.c2
        rw [show xs.drop k = xs.getD k cl0 :: xs.drop (k + 1) by
          rw [List.drop_eq_getElem_cons hlt, List.getD_eq_getElem?_getD, List.getElem?_eq_getElem hlt]; rfl, List.any_cons] at ha
        generalize (xs.getD k cl0).l.length = n at *
        clear hC
        by_cases hn : 200 < n
        · have hn1 : (200 : Int) < (n : Int) := by omega
          have HA := Lib.hid (show (xs.any fun c => decide (200 < c.l.length)) = true by rw [ha]; simp [hn])
          clear ha hn hl2
          go_wp2_with fail
          go_ret
          exact ⟨by rw [HG.out, HA.out]; rfl, rfl⟩
        · have hn1 : ¬ (200 : Int) < (n : Int) := by omega
          have HA := Lib.hid (show (xs.any fun c => decide (200 < c.l.length)) = ((xs.drop (k + 1)).any fun c => decide (200 < c.l.length)) by rw [ha]; simp [hn])
          clear ha hl2
          go_wp2_with fail
          go_roundw
          case rel => exact ⟨k + 1, by go_num, by omega, HA.out, by first | rfl | trivial⟩
          case measure => simp [intOf]; omega
      · obtain rfl : k = xs.length := by omega
        rw [List.drop_length] at ha
        have HA := Lib.hid ha
        clear ha hlt hk
        go_wp2_with fail
        go_ret
        exact ⟨by rw [HG.out, HA.out]; rfl, rfl⟩
structure Tw (w0 w : World) (p : Nat) (F : List Nat) (q : Nat) (G : List Nat) (x : Sb) : Prop where
  hd : Hd w0 w p F x
  rf : RfAt w q G x
  dis : ∀ y ∈ F, y ∉ G
  base : ∀ y ∈ G, w0.heap.size ≤ y
theorem Tw.on {w0 w w' : World} {p : Nat} {F : List Nat} {q : Nat} {G : List Nat} {x : Sb} (h : Tw w0 w p F q G x) (k : Below w.heap.size w w') : Tw w0 w' p F q G x := ⟨h.hd.on k, h.rf.below k, h.dis, h.base⟩
theorem Tw.ours {w0 w w' : World} {p : Nat} {F : List Nat} {q : Nat} {G : List Nat} {x x' : Sb} (h : Tw w0 w p F q G x) (k : Slw w p F x' w') : ∃ F', Hd w0 w' p F' x' ∧ RfAt w' q G x ∧ ∀ y ∈ F', y ∉ G := by
  obtain ⟨F', h1, h2, h3⟩ := h.hd.slw k
  refine ⟨F', h1, h.rf.kept h2 fun y hy hf => h.dis y hf hy, fun y hy hg => ?_⟩
  rcases h3 y hy with e | e
  · exact h.dis y e hg
  · have := h.rf.flt y hg
    omega
theorem tw_refs {w0 w w' : World} {p : Nat} {F : List Nat} {q : Nat} {G : List Nat} {x' : Sb} (h : Hd w0 w p F x') (hd : ∀ y ∈ F, y ∉ G) (hb : ∀ y ∈ G, w0.heap.size ≤ y) (k : Rlw w q G x' w') : ∃ G', Tw w0 w' p F q G' x' ∧ Kept G w w' := by
  obtain ⟨G', h1, h2, h3⟩ := k
  have hz := h.below.size
  have h0 : 0 ∉ G := fun hx => by
    have h1 := hb 0 hx
    have h2 := h.pos
    omega
  refine ⟨G', ⟨⟨h.sl.kept h2 hd, h.base, h.below.trans (h2.below hz hb), h.pos, h.tab.kept h2 h0⟩, h1, fun y hy hg => ?_, fun y hy => ?_⟩, h2⟩
  · rcases h3 y hg with e | e
    · exact hd y hy e
    · have := h.sl.flt y hy
      omega
  · rcases h3 y hy with e | e
    · exact hb y e
    · omega
theorem ints_kept {w w' : World} {A : Option Addr} {xs : List Int} {G : List Nat} (h : Ints w .i64 A xs) (k : Kept G w w') (hA : ∀ b o, A = some ⟨b, o, none⟩ → 0 < xs.length → b ∉ G) : Ints w' .i64 A xs := fun j hj => by
  obtain ⟨b, o, e, hlt, hc⟩ := h j hj
  refine ⟨b, o, e, Nat.lt_of_lt_of_le hlt k.size, ?_⟩
  rw [← hc]
  unfold World.cell?
  rw [show w'.heap[b]? = w.heap[b]? from k.block b hlt (hA b o e (by omega))]
end Go.Proofs.YtknieebmcpgppaaDoor.Old
