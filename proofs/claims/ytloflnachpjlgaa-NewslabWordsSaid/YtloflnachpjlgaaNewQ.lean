/- Slabs of the new layout that a law holds: contracts by their lists. -/
import Derived.Test.YtloflnachpjlgaaNewO
import Derived.Test.YtloflnachpjlgaaSame
set_option linter.unusedSimpArgs false
namespace Go.Proofs.Ytloflnachpjlgaa.New
open Go.RowKit Go.Proofs.Ytloflnachpjlgaa.Aid Go.Proofs.Ytloflnachpjlgaa.Cell
/-- A slab, its memory and its list, all of a call's own. -/
structure Hn (w0 w : World) (p mp mg mc : Nat) (x : Sn) (bs : List Int) (L : List Nat) : Prop where
  sn : SnP w p mp mg mc x bs
  ls : ListOf x bs L
  b1 : w0.heap.size ≤ p
  b2 : w0.heap.size ≤ mp
  b3 : w0.heap.size ≤ mg
  below : Below w0.heap.size w0 w
theorem Hn.on {w0 w w' : World} {p mp mg mc : Nat} {x : Sn} {bs : List Int} {L : List Nat} (h : Hn w0 w p mp mg mc x bs L) (k : Below w.heap.size w w') : Hn w0 w' p mp mg mc x bs L := ⟨h.sn.below k, h.ls, h.b1, h.b2, h.b3, below_then h.below k⟩
theorem Hn.wrote {w0 w w' : World} {p mp mg mc : Nat} {x y : Sn} {bs bs' : List Int} {L L' : List Nat} (h : Hn w0 w p mp mg mc x bs L) (h1 : SnP w' p mp mg mc y bs') (h2 : ListOf y bs' L') (k : Kept [p, mg] w w') : Hn w0 w' p mp mg mc y bs' L' :=
  ⟨h1, h2, h.b1, h.b2, h.b3, h.below.trans (k.below h.below.size fun i hi => by
    simp at hi
    rcases hi with rfl | rfl
    · exact h.b1
    · exact h.b3)⟩
theorem Hn.listO {w0 w : World} {p mp mg mc : Nat} {x : Sn} {bs : List Int} {L : List Nat} (h : Hn w0 w p mp mg mc x bs L) : listO x bs = some L := listO_iff.2 h.ls
section
variable {w0 w : World} {p mp mg mc : Nat} {x : Sn} {bs : List Int} {L : List Nat}
theorem Hn.take_nil (h : Hn w0 w p mp mg mc x bs []) : Calls Try.prog 35 #[.pointer (some ⟨p, 0, none⟩)] w fun e w' => e = .returned (.tuple #[.int .i64 (-1), .int .i64 18]) ∧ Hn w0 w' p mp mg mc x bs [] ∧ Below w.heap.size w w' := by
  have HT := take_calls w p mp mg mc x bs h.sn
  rw [h.listO] at HT
  exact HT.mono fun e w' he => ⟨he.1, h.on he.2, he.2⟩
theorem Hn.take_cons {k : Nat} (h : Hn w0 w p mp mg mc x bs (k :: L)) : Calls Try.prog 35 #[.pointer (some ⟨p, 0, none⟩)] w fun e w' => e = .returned (.tuple #[.int .i64 (adr x k), .int .i64 0]) ∧ Hn w0 w' p mp mg mc (popX x bs) bs L ∧ Kept [p] w w' := by
  have HT := take_calls w p mp mg mc x bs h.sn
  rw [h.listO] at HT
  exact HT.mono fun e w' he => ⟨he.1, h.wrote he.2.1 (pop_list h.sn.ok h.ls).2.2.2.1 (he.2.2.mono (by simp)), he.2.2⟩
theorem pop_like (x : Sn) (bs : List Int) : Like x (popX x bs) := ⟨rfl, rfl, rfl, rfl⟩
/-- One slot is given back. -/
theorem all_one {a : Int} {k : Nat} (hs : slotO x a = some k) (hin : k ∉ L) : allGo x L [a] [] = (0, [k]) := by
  unfold allGo
  rw [hs]
  simp [hin]
  rfl
theorem all_none {a : Int} (hs : slotO x a = none) : allGo x L [a] [] = (12, []) := by
  unfold allGo
  rw [hs]
theorem all_twice {a : Int} {k : Nat} (hs : slotO x a = some k) (hin : k ∈ L) : allGo x L [a] [] = (19, []) := by
  unfold allGo
  rw [hs]
  simp [hin]
theorem Hn.give_ok (h : Hn w0 w p mp mg mc x bs L) {a : Int} {k : Nat} (hs : slotO x a = some k) (hin : k ∉ L) : Calls Try.prog 31 #[.pointer (some ⟨p, 0, none⟩), .int .i64 a] w fun e w' => e = .returned (.int .i64 0) ∧ Hn w0 w' p mp mg mc (pushX x k) (layB x bs k) (k :: L) ∧ Kept [p, mg] w w' := by
  have HT := give_calls w p mp mg mc x bs h.sn a
  rw [h.listO] at HT
  refine HT.mono fun e w' he => ?_
  unfold AllIs allS at he
  dsimp only at he
  rw [all_one hs hin] at he
  obtain ⟨he, h1, h2⟩ := he
  exact ⟨he, h.wrote h1 (push_list h.sn.ok (slotO_some hs).1 h.ls hin) h2, h2⟩
theorem Hn.give_err (h : Hn w0 w p mp mg mc x bs L) {a er : Int} {M : List Nat} (hg : allGo x L [a] [] = (er, M)) (he : er ≠ 0) : Calls Try.prog 31 #[.pointer (some ⟨p, 0, none⟩), .int .i64 a] w fun e w' => e = .returned (.int .i64 er) ∧ Hn w0 w' p mp mg mc x bs L ∧ Kept [p, mg] w w' := by
  have HT := give_calls w p mp mg mc x bs h.sn a
  rw [h.listO] at HT
  refine HT.mono fun e w' hA => ?_
  unfold AllIs allS at hA
  dsimp only at hA
  rw [hg, if_neg he] at hA
  obtain ⟨hA, h1, h2⟩ := hA
  exact ⟨hA, h.wrote h1 h.ls h2, h2⟩
theorem Hn.list (h : Hn w0 w p mp mg mc x bs L) : Calls Try.prog 26 #[.pointer (some ⟨p, 0, none⟩)] w fun e w' => ∃ A c, e = .returned (.tuple #[.slice A L.length c, .int .i64 0]) ∧ Ints w' .i64 A (asI L) ∧ Hn w0 w' p mp mg mc x bs L ∧ (∀ b o, A = some ⟨b, o, none⟩ → w.heap.size ≤ b) ∧ Below w.heap.size w w' := by
  have HT := New.list_calls w p mp mg mc x bs h.sn
  rw [h.listO] at HT
  refine HT.mono fun e w' hA => ?_
  obtain ⟨A, c, he, hI, hA, hb⟩ := hA
  exact ⟨A, c, he, hI, h.on hb, hA, hb⟩
theorem Hn.taken (h : Hn w0 w p mp mg mc x bs L) : Calls Try.prog 25 #[.pointer (some ⟨p, 0, none⟩)] w fun e w' => ∃ A c, e = .returned (.tuple #[.slice A (asI (compl x.n L)).length c, .int .i64 0]) ∧ Ints w' .i64 A (asI (compl x.n L)) ∧ Hn w0 w' p mp mg mc x bs L ∧ (∀ b o, A = some ⟨b, o, none⟩ → w.heap.size ≤ b) ∧ Below w.heap.size w w' := by
  have HT := taken_calls w p mp mg mc x bs h.sn
  rw [h.listO] at HT
  refine HT.mono fun e w' hA => ?_
  obtain ⟨A, c, he, hI, hA, hb⟩ := hA
  exact ⟨A, c, he, hI, h.on hb, hA, hb⟩
theorem Hn.check (h : Hn w0 w p mp mg mc x bs L) : Calls Try.prog 33 #[.pointer (some ⟨p, 0, none⟩)] w fun e w' => e = .returned (.int .i64 0) ∧ Hn w0 w' p mp mg mc x bs L ∧ Below w.heap.size w w' := by
  have HT := check_calls w p mp mg mc x bs h.sn
  rw [h.listO] at HT
  exact HT.mono fun e w' he => ⟨he.1, h.on he.2, he.2⟩
theorem Hn.some_ (h : Hn w0 w p mp mg mc x bs L) (n : Int) : Calls Try.prog 36 #[.pointer (some ⟨p, 0, none⟩), .int .i64 n] w fun e w' => ∃ v, e = .returned (.tuple #[v, .int .i64 0]) ∧ Aid.Own w' w.heap.size IT .i64 v (adrs x (L.take n.toNat)) ∧ Hn w0 w' p mp mg mc (popsX x bs (L.take n.toNat).length) bs (L.drop (L.take n.toNat).length) ∧ Kept [p] w w' := by
  have HT := some_calls w p mp mg mc x bs h.sn n
  rw [h.listO] at HT
  refine HT.mono fun e w' hA => ?_
  obtain ⟨v, he, ho, hS, hK⟩ := hA
  exact ⟨v, he, ho, h.wrote hS (pops_list h.sn.ok h.ls _ (by rw [List.length_take]; omega)).2 (hK.mono (by simp)), hK⟩
end
theorem intsK {w w' : World} {A : Option Addr} {xs : List Int} {G : List Nat} (h : Ints w .i64 A xs) (k : Kept G w w') (hA : ∀ b o, A = some ⟨b, o, none⟩ → b ∉ G) : Ints w' .i64 A xs := fun j hj => by
  obtain ⟨b, o, e, hlt, hc⟩ := h j hj
  refine ⟨b, o, e, Nat.lt_of_lt_of_le hlt k.size, ?_⟩
  rw [← hc]
  unfold World.cell?
  rw [show w'.heap[b]? = w.heap[b]? from k.block b hlt (hA b o e)]
/-- Behind With. -/
theorem hn_with {w0 w w' : World} {mp mg mc : Nat} {bs : List Int} (h : CellAt w mp mg mc bs) (b2 : w0.heap.size ≤ mp) (b3 : w0.heap.size ≤ mg) (hb : Below w0.heap.size w0 w) {b c : Nat} (hn : newOk bs b c) {T : List Nat} {e : Ending} (hW : WithIs w mp mg mc bs b c (some T) e w') : ∃ p, e = .returned (.tuple #[.pointer (some ⟨p, 0, none⟩), .int .i64 0]) ∧ Hn w0 w' p mp mg mc (newS b c bs T).1 (newS b c bs T).2 (compl (newN b c).n T) ∧ w.heap.size ≤ p ∧ Kept [mg] w w' := by
  obtain ⟨p, he, hS, hp, hK⟩ := hW
  have hz := hb.size
  exact ⟨p, he, ⟨hS, (newS_ok hn h.byt h.small T).ls, by omega, b2, b3, hb.trans (hK.below hz fun i hi => by simp at hi; rw [hi]; exact b3)⟩, hp, hK⟩
end Go.Proofs.Ytloflnachpjlgaa.New
