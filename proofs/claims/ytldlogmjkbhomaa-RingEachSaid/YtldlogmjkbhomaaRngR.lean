/- The document's lists in memory, and the contracts of package underpinref07's New, In and All. -/
import Derived.Test.YtldlogmjkbhomaaRngM
import Derived.Test.YtldlogmjkbhomaaAidApp
set_option linter.unusedSimpArgs false
namespace Go.Proofs.Ytldlogmjkbhomaa.Rng
open Go.RowKit Go.Proofs.Ytldlogmjkbhomaa.Aid
abbrev DT : TypeId := 71
abbrev LT : TypeId := 68
abbrev IT : TypeId := 3
def enc1 (x : Nat) : List Value := [.int .i64 x]
theorem enc1_len (x : Nat) : (enc1 x).length = 1 := rfl
theorem enc1_one (x : Nat) : ∀ v ∈ enc1 x, v.oneCell' = true := by
  intro v hv
  simp [enc1] at hv
  subst hv
  rfl
theorem info_ints : (Try.prog.info? LT).map (fun i => (i.zero, i.size, i.bytes)) = some (some (.slice none 0 0), 1, 24) := by kernel_rfl
/-- Where the document's lists lie. -/
structure LParts (w : World) (q : Nat) (F : List Nat) (N L : Nat) (s : RgS) (lb : Nat) (hs : List Value) : Prop where
  head : Blk w q #[.int .i64 N, .slice (some ⟨lb, 0, none⟩) L L] DT
  rows : Row w LT lb L hs
  hlen : hs.length = L
  each : ∀ (k : Nat) hd, hs[k]? = some hd → Hdr enc1 1 w IT hd (s k)
  out : ∀ (k : Nat) hd (g : Nat), hs[k]? = some hd → hd.ownBlock = some g → g ∈ F ∧ g ≠ q ∧ g ≠ lb
  ins : q ∈ F ∧ lb ∈ F
  ne : q ≠ lb
  flt : ∀ x ∈ F, x < w.heap.size
structure LAt (w : World) (q : Nat) (F : List Nat) (N L : Nat) (s : RgS) : Prop where
  ok : OkG N L s
  ex : ∃ lb hs, LParts w q F N L s lb hs
section
variable {w w' : World} {q N L : Nat} {F : List Nat} {s : RgS} {lb : Nat} {hs : List Value}
theorem LParts.same (h : LParts w q F N L s lb hs) (hz : w.heap.size ≤ w'.heap.size) (hb : ∀ i, i < w.heap.size → i ∈ F → w'.heap[i]? = w.heap[i]?) : LParts w' q F N L s lb hs :=
  ⟨(hb q h.head.lt h.ins.1).trans h.head, h.rows.block (hb lb h.rows.lt h.ins.2), h.hlen, fun k hd hk => (h.each k hd hk).same fun g hg => hb g ((h.each k hd hk).lt hg) (h.out k hd g hk hg).1, h.out, h.ins, h.ne, fun x hx => Nat.lt_of_lt_of_le (h.flt x hx) hz⟩
theorem LAt.kept (h : LAt w q F N L s) {G : List Nat} (k : Kept G w w') (hF : ∀ x ∈ F, x ∉ G) : LAt w' q F N L s := by
  obtain ⟨lb, hs, h1⟩ := h.ex
  exact ⟨h.ok, lb, hs, h1.same k.size fun i hi hF' => k.block i hi (hF i hF')⟩
theorem LAt.below (h : LAt w q F N L s) (k : Below w.heap.size w w') : LAt w' q F N L s := by
  obtain ⟨lb, hs, h1⟩ := h.ex
  exact ⟨h.ok, lb, hs, h1.same k.size fun i hi _ => k.block i hi⟩
theorem LAt.flt (h : LAt w q F N L s) : ∀ x ∈ F, x < w.heap.size := by
  obtain ⟨lb, hs, h1⟩ := h.ex
  exact h1.flt
theorem LParts.c0 (h : LParts w q F N L s lb hs) : w.cell? ⟨q, 0, none⟩ = some (.int .i64 N) := h.head.cell rfl
theorem LParts.c1 (h : LParts w q F N L s lb hs) : w.cell? ⟨q, 1, none⟩ = some (.slice (some ⟨lb, 0, none⟩) L L) := h.head.cell rfl
theorem LParts.row (h : LParts w q F N L s lb hs) {l : Nat} (hl : l < L) : ∃ hd, hs[l]? = some hd ∧ w.cell? ⟨lb, l, none⟩ = some hd ∧ Hdr enc1 1 w IT hd (s l) := by
  have hlt : l < hs.length := by rw [h.hlen]; exact hl
  exact ⟨hs[l], List.getElem?_eq_getElem hlt, by rw [h.rows.cell hlt, List.getElem?_eq_getElem hlt], h.each l _ (List.getElem?_eq_getElem hlt)⟩
/-- A list's header, and its cells. -/
theorem Hdr.open1 {hd : Value} {xs : List Nat} (h : Hdr enc1 1 w IT hd xs) : ∃ A c, hd = .slice A xs.length c ∧ ∀ (k : Nat) (x : Nat), xs[k]? = some x → ∃ g, A = some ⟨g, 0, none⟩ ∧ w.cell? ⟨g, k, none⟩ = some (.int .i64 x) := by
  rcases h with ⟨h, h0⟩ | ⟨g, c, h1, h2⟩
  · subst h0
    exact ⟨none, 0, h, fun k x hx => by simp at hx⟩
  · refine ⟨_, c, h1, fun k x hx => ⟨g, rfl, ?_⟩⟩
    have := h2.at_ enc1_len (j := 0) hx rfl
    rwa [Nat.mul_one, Nat.add_zero] at this
end
/-- Where an item is. -/
def InAt (s : RgS) (L : Nat) (i a b : Int) : Prop :=
  (a = -1 ∧ b = -1 ∧ ∀ l, l < L → ∀ x ∈ s l, (x : Int) ≠ i) ∨ ∃ l A x B, a = (l : Nat) ∧ b = (A.length : Nat) ∧ l < L ∧ s l = A ++ x :: B ∧ i = (x : Nat)
set_option maxHeartbeats 4000000 in
theorem rin_calls (w : World) (q : Nat) (F : List Nat) (N L : Nat) (s : RgS) (i : Int) (h : LAt w q F N L s) :
    Calls Try.prog 33 #[.pointer (some ⟨q, 0, none⟩), .int .i64 i] w fun e w' => (∃ a b, e = .returned (.tuple #[.int .i64 a, .int .i64 b]) ∧ InAt s L i a b) ∧ w = w' := by
  obtain ⟨lb, hs, hP⟩ := h.ex
  have c1 := hP.c1
  have hN := h.ok.n
  have hL := h.ok.l2
  have HLen := Lib.hid (fun l => h.ok.len l)
  have HR := Lib.hid (fun l (hl : l < L) => hP.row hl)
  clear h hP
  go_enter Try.func33, Try.ntmps33
  go_wp2
  go_loopw [6] (fun u wr => ∃ l : Nat, u = .int .i64 l ∧ l ≤ L ∧ (∀ j, j < l → ∀ x ∈ s j, (x : Int) ≠ i) ∧ w = wr) (fun u _ => L - (intOf u).toNat)
  case atStart => exact ⟨0, rfl, Nat.zero_le _, fun j hj => by omega, rfl⟩
  case round =>
    obtain ⟨l, rfl, hl, hno, rfl⟩ := hrel
    have HNo := Lib.hid hno
    clear hno
    by_cases hlt : l < L
    · have hl0 : (0 : Int) ≤ (l : Int) := by omega
      have hl1 : (l : Int) < (L : Int) := by omega
      obtain ⟨hd, _, hc, hH⟩ := HR.out l hlt
      obtain ⟨A, c, rfl, hat⟩ := Hdr.open1 hH
      have HAt := Lib.hid hat
      have hln := HLen.out l
      clear hat hH
      go_wp2
      go_loopw [7] (fun u wr => ∃ k : Nat, u = .int .i64 k ∧ k ≤ (s l).length ∧ (∀ x ∈ (s l).take k, (x : Int) ≠ i) ∧ w = wr) (fun u _ => (s l).length - (intOf u).toNat)
      case atStart => exact ⟨0, rfl, Nat.zero_le _, fun x hx => by simp at hx, rfl⟩
      case round =>
        obtain ⟨k, rfl, hk, hnk, rfl⟩ := hrel
        have HNk := Lib.hid hnk
        clear hnk
        by_cases hkl : k < (s l).length
        · have hk0 : (0 : Int) ≤ (k : Int) := by omega
          have hk1 : (k : Int) < ((s l).length : Int) := by omega
          obtain ⟨x, hx⟩ : ∃ x, (s l)[k]? = some x := ⟨_, List.getElem?_eq_getElem hkl⟩
          obtain ⟨g, rfl, hcx⟩ := HAt.out k x hx
          have HX := Lib.hid hx
          clear hx
          by_cases hxi : (x : Int) = i
          · have HXi := Lib.hid hxi
            go_wp2
            go_ret2
            refine ⟨⟨_, _, rfl, .inr ⟨l, (s l).take k, x, (s l).drop (k + 1), rfl, ?_, hlt, ?_, HXi.out.symm⟩⟩, rfl⟩
            · rw [List.length_take, Nat.min_eq_left hk]
            · obtain ⟨h1, h2⟩ := List.getElem?_eq_some_iff.1 HX.out
              rw [← h2, ← List.drop_eq_getElem_cons, List.take_append_drop]
          · go_wp2
            go_round
            case rel =>
              refine ⟨k + 1, by go_num, hkl, fun y hy => ?_, trivial⟩
              rw [List.take_add_one, HX.out] at hy
              rcases List.mem_append.1 hy with hy | hy
              · exact HNk.out y hy
              · simp at hy
                subst hy
                exact hxi
            case measure => simp [intOf]; omega
        · obtain rfl : k = (s l).length := by omega
          have HNk := Lib.hid (show ∀ x ∈ s l, (x : Int) ≠ i from fun x hx => HNk.out x (by rw [List.take_length]; exact hx))
          go_wp2
          go_round
          case rel =>
            refine ⟨l + 1, by go_num, hlt, fun j hj => ?_, trivial⟩
            by_cases e : j = l
            · rw [e]; exact HNk.out
            · exact HNo.out j (by omega)
          case measure => simp [intOf]; omega
    · obtain rfl : l = L := by omega
      go_wp2
      go_ret2
      exact ⟨⟨_, _, rfl, .inl ⟨rfl, rfl, HNo.out⟩⟩, rfl⟩
theorem rall_calls (w : World) (q : Nat) (F : List Nat) (N L : Nat) (s : RgS) (i : Int) (h : LAt w q F N L s) :
    Calls Try.prog 34 #[.pointer (some ⟨q, 0, none⟩), .int .i64 i] w fun e w' => (∃ hd, e = .returned hd ∧ Hdr enc1 1 w IT hd (lsI s L i) ∧ ∀ g, hd.ownBlock = some g → g ∈ F) ∧ w = w' := by
  obtain ⟨lb, hs, hP⟩ := h.ex
  have c1 := hP.c1
  unfold lsI
  by_cases hi : 0 ≤ i ∧ i < (L : Int)
  · rw [if_pos hi]
    obtain ⟨k, rfl⟩ := Int.eq_ofNat_of_zero_le hi.1
    obtain ⟨hd, hk0, hc, hH⟩ := hP.row (show k < L by omega)
    have HH := Lib.hid hH
    have HO := Lib.hid (fun g (hg : hd.ownBlock = some g) => (hP.out k hd g hk0 hg).1)
    have hk1 : (k : Int) < (L : Int) := hi.2
    rw [Int.toNat_natCast]
    clear h hP hH hi hk0
    go_enter Try.func34, Try.ntmps34
    go_wp2
    go_ret
    exact ⟨⟨_, rfl, HH.out, HO.out⟩, rfl⟩
  · rw [if_neg hi]
    clear h hP
    by_cases h0 : 0 ≤ i
    · have h1 : ¬ i < (L : Int) := by omega
      clear hi
      go_enter Try.func34, Try.ntmps34
      go_wp2
      go_ret
      exact ⟨⟨_, rfl, .inl ⟨rfl, rfl⟩, fun g hg => (by cases hg)⟩, rfl⟩
    · clear hi
      go_enter Try.func34, Try.ntmps34
      go_wp2
      go_ret
      exact ⟨⟨_, rfl, .inl ⟨rfl, rfl⟩, fun g hg => (by cases hg)⟩, rfl⟩
theorem rnew_yes (w : World) (N L : Nat) (h1 : N ≤ 4096) (h2 : 1 ≤ L) (h3 : L ≤ 256) :
    Calls Try.prog 31 #[.int .i64 N, .int .i64 L] w fun e w' => ∃ p F, e = .returned (.tuple #[.pointer (some ⟨p, 0, none⟩), .int .i64 0]) ∧ LAt w' p F N L (fun _ => []) ∧ (∀ x ∈ F, w.heap.size ≤ x) ∧ Below w.heap.size w w' := by
  have g1 : ¬ (N : Int) < 0 := by omega
  have g2 : ¬ (4096 : Int) < N := by omega
  have g3 : ¬ (L : Int) < 1 := by omega
  have g4 : ¬ (256 : Int) < L := by omega
  go_enter Try.func31, Try.ntmps31
  go_wp2_with (at_make; refine make_row _ rfl _ _ 69 rfl LT Try.underlying69 (.slice none 0 0) 24 rfl info_ints _ _ L rfl rfl (by omega) (by decide) ?_; intro w1 hr1 hlt1 hb1)
  go_ret2
  have hnil : ∀ (k : Nat) hd, (List.replicate L (Value.slice none 0 0))[k]? = some hd → hd = .slice none 0 0 := fun k hd h => by
    rw [List.getElem?_replicate] at h
    split at h
    · exact (Option.some.inj h).symm
    · cases h
  refine ⟨w1.heap.size, rfl, [w1.heap.size, w.heap.size], ⟨ok_none h1 h2 h3, w.heap.size, _, ⟨Blk.new w1 _ DT, hr1.alloc _, by simp, fun k hd hk => .inl ⟨hnil k hd hk, rfl⟩, fun k hd g hk hg => ?_, by simp, by omega, ?_⟩⟩, ?_, hb1.alloc hb1.size _⟩
  · rw [hnil k hd hk] at hg; cases hg
  · intro x hx
    simp at hx ⊢
    omega
  · intro x hx
    simp at hx
    omega
theorem rnew_no (w : World) (N L : Int) (h : N < 0 ∨ 4096 < N ∨ L < 1 ∨ 256 < L) :
    Calls Try.prog 31 #[.int .i64 N, .int .i64 L] w fun e w' => e = .returned (.tuple #[.pointer none, .int .i64 11]) ∧ w = w' := by
  by_cases h0 : N < 0
  · clear h
    go_enter Try.func31, Try.ntmps31
    go_wp2
    go_ret2
    exact ⟨rfl, rfl⟩
  · by_cases h1 : 4096 < N
    · clear h
      go_enter Try.func31, Try.ntmps31
      go_wp2
      go_ret2
      exact ⟨rfl, rfl⟩
    · by_cases h2 : L < 1
      · clear h
        go_enter Try.func31, Try.ntmps31
        go_wp2
        go_ret2
        exact ⟨rfl, rfl⟩
      · have h3 : 256 < L := by omega
        clear h
        go_enter Try.func31, Try.ntmps31
        go_wp2
        go_ret2
        exact ⟨rfl, rfl⟩
end Go.Proofs.Ytldlogmjkbhomaa.Rng
