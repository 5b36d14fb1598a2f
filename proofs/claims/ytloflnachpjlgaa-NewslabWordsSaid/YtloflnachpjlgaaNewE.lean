/- Slabs of the new layout: walk over the free slots, for their list; List. -/
import Derived.Test.YtloflnachpjlgaaNewD
import Derived.Test.YtloflnachpjlgaaAidRec
set_option linter.unusedSimpArgs false
namespace Go.Proofs.Ytloflnachpjlgaa.New
open Go.RowKit Go.Proofs.Ytloflnachpjlgaa.Aid Go.Proofs.Ytloflnachpjlgaa.Cell
def encI (x : Int) : List Value := [.int .i64 x]
theorem encI_len (x : Int) : (encI x).length = 1 := rfl
theorem encI_one (x : Int) : ∀ v ∈ encI x, v.oneCell' = true := by
  intro v hv
  simp [encI] at hv
  rw [hv]; rfl
theorem info_int : (Try.prog.info? IT).map (fun i => (i.zero, i.size, i.bytes)) = some (some (.int .i64 0), 1, 8) := by kernel_rfl
abbrev IS : TypeId := 30
theorem kept_rangeN {B : Nat} {w w' : World} (h : Below B w w') : Kept ((List.range w.heap.size).filter fun i => decide (B ≤ i)) w w' :=
  ⟨h.os, h.tape, h.output, h.size, fun k hk hn => h.block k (by
    rcases Nat.lt_or_ge k B with e | e
    · exact e
    · exact absurd (List.mem_filter.2 ⟨List.mem_range.2 hk, by simpa using e⟩) hn)⟩
theorem in_rangeN {B n k : Nat} (h : k ∈ (List.range n).filter fun i => decide (B ≤ i)) : B ≤ k := by simpa using (List.mem_filter.1 h).2
/-- A box that holds a slice of the call's own. -/
structure Bag (w : World) (b : Nat) (v : Value) (L : List Int) : Prop where
  box : Blk w b #[v] IS
  row : Hdr encI 1 w IT v L
  far : ∀ g, v.ownBlock = some g → b < g
theorem Bag.below {w w' : World} {b : Nat} {v : Value} {L : List Int} (h : Bag w b v L) (k : Below w.heap.size w w') : Bag w' b v L := ⟨h.box.below k, h.row.below k, h.far⟩
theorem Bag.kept {w w' : World} {b : Nat} {v : Value} {L : List Int} {G : List Nat} (h : Bag w b v L) (k : Kept G w w') (h1 : b ∉ G) (h2 : ∀ g, v.ownBlock = some g → g ∉ G) : Bag w' b v L := ⟨h.box.kept k h1, h.row.kept k h2, h.far⟩
set_option maxHeartbeats 1000000 in
attribute [-go_sem] Builtin.append_ in
theorem put_calls (w : World) (b : Nat) (v : Value) (L : List Int) (h : Bag w b v L) (hL : L.length ≤ 1000) (a : Int) :
    Calls Try.prog 76 #[.int .i64 a, .pointer (some ⟨b, 0, none⟩)] w fun e w' => e = .returned (.tuple #[]) ∧ ∃ v', Bag w' b v' (L ++ [a]) ∧ (∀ i, i < w.heap.size → i ≠ b → v.ownBlock ≠ some i → w'.heap[i]? = w.heap[i]?) ∧ (∀ g, v'.ownBlock = some g → v.ownBlock = some g ∨ w.heap.size ≤ g) ∧ w.heap.size ≤ w'.heap.size ∧ w'.os = w.os ∧ w'.tape = w.tape ∧ w'.output = w.output := by
  have c0 := h.box.cell (o := 0) rfl
  have f0 := h.box.free 0
  have hblt := h.box.lt
  obtain ⟨g4, c4, w4, e4, hR4, hold, hown, hz4, y1, y2, y3⟩ := append_rec_run (P := Try.prog) (W := w) IS IS IT (.int .i64 0) 8 Try.underlying30 info_int rfl (by decide) encI_len encI_one h.row a (by omega) (by decide)
  have hg4 : b < g4 := by
    rcases hown with e | e
    · exact h.far g4 e
    · omega
  have hb4 : w4.heap[b]? = w.heap[b]? := hold b hblt fun e => absurd (h.far b e) (Nat.lt_irrefl _)
  have HB4 := Lib.hid (show Blk w4 b #[v] IS from hb4.trans h.box)
  have hz9 : b < w4.heap.size := by omega
  have d0 := HB4.out.cell (o := 0) rfl
  have g0 := HB4.out.free 0
  obtain ⟨A, cc, hv⟩ := h.row.shape
  unfold encI at e4
  subst hv
  have HH := Lib.hid h
  have HW := Lib.hid (And.intro hR4 (And.intro hold (And.intro hown (And.intro hz4 (And.intro y1 (And.intro y2 (And.intro y3 hg4)))))))
  clear h hR4 hold hown hz4 y1 y2 y3 hg4 hb4
  go_enter Try.func76, Try.ntmps76
  go_wp2_with fail
  go_end0
  obtain ⟨hR4, hold, hown, hz4, y1, y2, y3, hg4⟩ := HW.out
  refine ⟨rfl, .slice (some ⟨g4, 0, none⟩) (L.length + 1) c4, ⟨?_, .inr ⟨g4, c4, ?_, ?_⟩, ?_⟩, ?_, ?_, ?_, ?_, ?_, ?_⟩
  · exact HB4.out.set 0 _
  · rw [List.length_append]; rfl
  · exact hR4.other (a := ⟨b, 0, none⟩) (by show g4 ≠ b; omega) _
  · intro g hg
    cases hg
    exact hg4
  · intro i hi hne ho
    rw [← hold i hi ho]
    exact Below.heap_setCell _ _ _ _ (by show i ≠ b; exact hne)
  · intro g hg
    cases hg
    exact hown
  · rw [World.size_setCell]; exact hz4
  · exact y1
  · exact y2
  · exact y3
def asI (L : List Nat) : List Int := L.map fun (s : Nat) => (s : Int)
theorem asI_len (L : List Nat) : (asI L).length = L.length := by simp [asI]
theorem asI_snoc (L : List Nat) (s : Nat) : asI (L ++ [s]) = asI L ++ [(s : Int)] := by simp [asI]
/-- What a walk for the list answers. -/
def ListIs (w : World) (b : Nat) (o : Option (List Nat)) (e : Ending) (w' : World) : Prop := match o with
  | none => e = .returned (.tuple #[.pointer none, .int .i64 10]) ∧ Below b w w'
  | some L => (∃ rp, e = .returned (.tuple #[.pointer (some ⟨rp, 0, none⟩), .int .i64 0])) ∧ (∃ v, Bag w' b v (asI L)) ∧ Below b w w'
set_option maxHeartbeats 2000000 in
theorem walk_list (w : World) (p mp mg mc : Nat) (x : Sn) (bs : List Int) (h : SnP w p mp mg mc x bs) (b : Nat) (hbag : Bag w b (.slice none 0 0) []) (hp : p < b) (hmp : mp < b) (hmg : mg < b) : Calls Try.prog 75 #[.pointer (some ⟨p, 0, none⟩), .func (.func 76) #[] #[.pointer (some ⟨b, 0, none⟩)]] w (ListIs w b (listO x bs)) := by
  have H := Lib.hid h
  have HBG := Lib.hid (And.intro hbag (And.intro hp (And.intro hmp hmg)))
  have hm := h.ok.many.1
  have hct := h.ok.ct
  have hw0 : 0 < w.heap.size := by have := h.head.lt; omega
  have hbw := hbag.box.lt
  obtain ⟨_, _, _, _, c4, _⟩ := h.cells
  have HHD := Lib.hid (And.intro h.ok.h1 h.ok.h2)
  clear h hbag hp hmp hmg
  go_enter Try.func75, Try.ntmps75
  go_wp2_with fail
  refine (Bit.new_yes w x.n (by omega) hw0).mono ?_
  rintro e w1 ⟨rp, rg, rfl, hr, hr1, hg1, hb⟩
  have H1 := Lib.hid (And.intro hr (And.intro hr1 (And.intro hg1 hb)))
  obtain ⟨_, _, _, _, _, c5, c6⟩ := (H.out.below hb).cells
  have HB1 := Lib.hid (HBG.out.1.below hb)
  clear hr hr1 hg1 hb c4
  go_wp2_with fail
  go_loopw [8, 27] (fun a i wr => ∃ (k : Nat) (at_ : Int) (seen : List Nat) (v : Value), i = .int .i64 k ∧ k ≤ x.cnt ∧ a = .int .i64 at_ ∧ -1 ≤ at_ ∧ at_ < x.n ∧ walkGo x bs (x.cnt - k) at_ seen = listO x bs ∧ seen.length = k ∧ Bit.RowAt wr rp rg (Bit.nwords x.n) (marks x.n seen) ∧ Bag wr b v (asI seen) ∧ (∀ g, v.ownBlock = some g → g ≠ rp ∧ g ≠ rg) ∧ Below b w wr) (fun _ i _ => x.cnt - (intOf i).toNat)
  case atStart => exact ⟨0, x.head, [], .slice none 0 0, rfl, by omega, rfl, HHD.out.1, HHD.out.2, rfl, rfl, H1.out.1, HB1.out, fun g hg => (by cases hg), H1.out.2.2.2.mono (by omega)⟩
  case round =>
    obtain ⟨k, at_, seen, v, rfl, hk, rfl, ha1, ha2, hgo, hsl, hr, hbg, hfr, hB⟩ := hrel
    have HR := Lib.hid (And.intro hr (And.intro hbg (And.intro hfr hB)))
    have HSP := Lib.hid (show SnP wr p mp mg mc x bs from by
      have hk := kept_rangeN hB
      refine H.out.kept hk (fun hx => ?_) (fun hx => ?_) (fun hx => ?_)
      · have := in_rangeN hx
        have := HBG.out.2.1
        omega
      · have := in_rangeN hx
        have := HBG.out.2.2.1
        omega
      · have := in_rangeN hx
        have := HBG.out.2.2.2
        omega)
    clear hr hbg hfr hB c5 c6
    by_cases hlt : k < x.cnt
    · have hk0 : (0 : Int) ≤ (k : Int) := by omega
      have hk1 : (k : Int) < (x.cnt : Int) := by omega
      rw [show x.cnt - k = (x.cnt - (k + 1)) + 1 by omega] at hgo
      by_cases hneg : at_ < 0
      · have HGO := Lib.hid (show none = listO x bs from by rw [← hgo, walkGo, if_pos hneg])
        have HN := Lib.hid (next_out wr p mp mg mc x bs HSP.out at_ (.inl hneg))
        clear hgo
        go_wp2_with fail
        refine HN.out.mono ?_
        rintro e w2 ⟨rfl, hb⟩
        have H2 := Lib.hid (show Below b w w2 from HR.out.2.2.2.trans (hb.mono (by have := HR.out.2.1.box.lt; omega)))
        clear hb
        go_wp2_with fail
        go_ret2
        rw [← HGO.out]
        exact ⟨rfl, H2.out⟩
      · obtain ⟨s, rfl⟩ := Int.eq_ofNat_of_zero_le (show 0 ≤ at_ by omega)
        have hs : s < x.n := by omega
        have HN := Lib.hid (next_in wr p mp mg mc x bs HSP.out s hs)
        rw [walkGo, if_neg hneg, Int.toNat_natCast] at hgo
        cases hnx : nextO x bs s with
        | none =>
          rw [hnx] at hgo HN
          have HGO := Lib.hid (show none = listO x bs from hgo)
          clear hgo hnx hneg ha1
          go_wp2_with fail
          refine HN.out.mono ?_
          rintro e w2 ⟨v2, rfl, _, hb⟩
          have H2 := Lib.hid (show Below b w w2 from HR.out.2.2.2.trans (hb.mono (by have := HR.out.2.1.box.lt; omega)))
          rw [show (none : Option Int).isSome = false from rfl]
          clear hb
          go_wp2_with fail
          go_ret2
          rw [← HGO.out]
          exact ⟨rfl, H2.out⟩
        | some nx =>
          have hnl := next_lt hnx
          rw [hnx] at hgo HN
          have hgo2 : (if s ∈ seen then none else walkGo x bs (x.cnt - (k + 1)) nx (seen ++ [s])) = listO x bs := hgo
          have HNL := Lib.hid hnl
          clear hgo hnx hneg ha1 hnl
          go_wp2_with fail
          refine HN.out.mono ?_
          rintro e w2 ⟨v2, rfl, hv, hb⟩
          obtain rfl := hv nx rfl
          have H2 := Lib.hid (And.intro (HR.out.1.below hb) (And.intro (HR.out.2.1.below hb) (show Below b w w2 from HR.out.2.2.2.trans (hb.mono (by have := HR.out.2.1.box.lt; omega)))))
          rw [show (some v2).isSome = true from rfl]
          clear hb HN hv
          have HST := Lib.hid (Bit.set_calls w2 rp rg (Bit.nwords x.n) (marks x.n seen) (s : Int) H2.out.1)
          unfold Bit.PutGives at HST
          rw [marks_setB seen hs, marks_setL seen hs] at HST
          have HBR := Lib.hid (show b < rp ∧ b < rg from ⟨Nat.lt_of_lt_of_le hbw H1.out.2.1, Nat.lt_of_lt_of_le hbw H1.out.2.2.1⟩)
          by_cases hin : s ∈ seen
          · rw [if_pos hin] at hgo2
            rw [show decide (s ∈ seen) = true by simpa using hin] at HST
            have HGO := Lib.hid hgo2
            clear hgo2 hin
            go_wp2_with fail
            refine HST.out.mono ?_
            rintro e w3 ⟨rfl, _, hK3⟩
            have H3 := Lib.hid (show Below b w w3 from H2.out.2.2.trans (hK3.below (by have := H2.out.2.1.box.lt; omega) (by simp; have := HBR.out; omega)))
            clear hK3
            go_wp2_with fail
            go_ret2
            rw [← HGO.out]
            exact ⟨rfl, H3.out⟩
          · rw [if_neg hin] at hgo2
            rw [show decide (s ∈ seen) = false by simpa using hin] at HST
            have HGO := Lib.hid hgo2
            clear hgo2 hin
            go_wp2_with fail
            refine HST.out.mono ?_
            rintro e w3 ⟨rfl, hr3, hK3⟩
            have H3 := Lib.hid (And.intro hr3 (And.intro (show Bag w3 b v (asI seen) from H2.out.2.1.kept hK3 (by simp; have := HBR.out; omega) (fun g hg => by simp; exact (HR.out.2.2.1 g hg).2)) (show Below b w w3 from H2.out.2.2.trans (hK3.below (by have := H2.out.2.1.box.lt; omega) (by simp; have := HBR.out; omega)))))
            clear hr3 hK3
            go_wp2_with fail
            refine (put_calls w3 b v (asI seen) H3.out.2.1 (by rw [asI_len]; omega) (s : Int)).mono ?_
            rintro e w4 ⟨rfl, v4, hbag, hold, hown, hz4, y1, y2, y3⟩
            have hrl := H3.out.1.head.lt
            have hrl2 := H3.out.1.row.lt
            have H4 := Lib.hid (show Bit.RowAt w4 rp rg (Bit.nwords x.n) (marks x.n (seen ++ [s])) ∧ Bag w4 b v4 (asI (seen ++ [s])) ∧ (∀ g, v4.ownBlock = some g → g ≠ rp ∧ g ≠ rg) ∧ Below b w w4 from by
              have hb3 := H3.out.2.1.box.lt
              have hbr := HBR.out
              refine ⟨⟨H3.out.1.ne, H3.out.1.pos, ?_, ?_, H3.out.1.small⟩, by rw [asI_snoc]; exact hbag, fun g hg => ?_, ?_⟩
              · exact (hold rp hrl (by omega) fun e => absurd rfl (HR.out.2.2.1 rp e).1).trans H3.out.1.head
              · exact H3.out.1.row.block (hold rg hrl2 (by omega) fun e => absurd rfl (HR.out.2.2.1 rg e).2)
              · rcases hown g hg with e | e
                · exact HR.out.2.2.1 g e
                · omega
              · refine H3.out.2.2.trans ⟨y1, y2, y3, hz4, fun i hi => hold i (by omega) (by omega) fun e => ?_⟩
                have := H3.out.2.1.far i e
                omega)
            clear hbag hold hown hz4 y1 y2 y3 hrl hrl2
            go_wp2_with fail
            go_roundw
            case rel => exact ⟨k + 1, v2, seen ++ [s], v4, by go_num, by omega, rfl, HNL.out.1, HNL.out.2, HGO.out, by rw [List.length_append]; simp [hsl], H4.out.1, H4.out.2.1, H4.out.2.2.1, H4.out.2.2.2⟩
            case measure => simp [intOf]; omega
    · obtain rfl : k = x.cnt := by omega
      rw [Nat.sub_self, walkGo] at hgo
      by_cases he : at_ = -1
      · subst he
        rw [if_pos rfl] at hgo
        have HGO := Lib.hid hgo
        clear hgo hlt hk ha1 ha2
        go_wp2_with fail
        go_ret2
        rw [← HGO.out]
        exact ⟨⟨rp, rfl⟩, ⟨v, HR.out.2.1⟩, HR.out.2.2.2⟩
      · rw [if_neg he] at hgo
        have HGO := Lib.hid hgo
        have hne : (at_ != -1) = true := by simpa using he
        clear hgo hlt hk ha1 ha2 he
        go_wp2_with fail
        go_ret2
        rw [← HGO.out]
        exact ⟨rfl, HR.out.2.2.2⟩
end Go.Proofs.Ytloflnachpjlgaa.New
