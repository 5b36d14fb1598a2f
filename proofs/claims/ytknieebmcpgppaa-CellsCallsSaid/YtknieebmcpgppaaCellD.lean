/- The contracts of Differ, the program's and the reference's. -/
import Derived.Test.YtknieebmcpgppaaCellC
import Derived.Test.YtknieebmcpgppaaCellP
import Derived.Deep.LoopGhost
import Derived.Deep.DeepCutAuto
namespace Go.Proofs.Ytknieebmcpgppaa.Cell
open Go.RowKit Go.Proofs.Ytknieebmcpgppaa.Aid
theorem info_rspan : (Try.prog.info? 56).map (fun i => (i.zero, i.size, i.bytes)) = some (some (.agg #[.int .i64 0, .int .i64 0]), 2, 16) := by kernel_rfl
theorem info_span : (Try.prog.info? 55).map (fun i => (i.zero, i.size, i.bytes)) = some (some (.agg #[.int .i64 0, .int .i64 0]), 2, 16) := by kernel_rfl
theorem ret_i {a b : Int} (h : a = b) : Value.int .i64 a = .int .i64 b := by rw [h]
def DifGives (e : TypeId) (o : List (Int × Int)) (w : World) (r : Ending) (w' : World) : Prop := ∃ v, r = .returned v ∧ OwnR encP 2 w' w.heap.size e v o ∧ Below w.heap.size w w'
/-- What stands in the two rows at a place. -/
theorem unl_at (a b : List Int) (k : Nat) : (a.length ≤ k ∧ unl a b k = true) ∨ (k < a.length ∧ b.length ≤ k ∧ unl a b k = true) ∨ (k < a.length ∧ k < b.length ∧ unl a b k = (a.getD k 0 != b.getD k 0)) := by
  by_cases h1 : a.length ≤ k
  · exact .inl ⟨h1, by simp [unl, h1]⟩
  · by_cases h2 : b.length ≤ k
    · exact .inr (.inl ⟨by omega, h2, by simp [unl, h2]⟩)
    · exact .inr (.inr ⟨by omega, by omega, by simp [unl, h1, h2, bne]⟩)
set_option maxHeartbeats 4000000 in
set_option maxRecDepth 100000 in
theorem rdiffer_calls (w : World) (a b : List Int) (A B : Option Addr) (c d n : Nat) (ha : Ints w .u8 A a) (hb : Ints w .u8 B b) (hla : a.length ≤ 1048576) (hlb : b.length ≤ 1048576) (hn : n = max a.length b.length) :
    Calls Try.prog 20 #[.slice A a.length c, .slice B b.length d] w (DifGives 56 (difTo a b n).1 w) := by
  have HA := Lib.hid ha
  have HB := Lib.hid hb
  have HN := Lib.hid hn
  have hn1 : n ≤ 1048576 := by omega
  clear ha hb hn
  go_enter Try.func20, Try.ntmps20
  go_wp2_with fail
  go_loopg [5, 6, 7] n (fun m s5 s6 s7 wr => ∃ k : Nat, k ≤ n ∧ m = n - k ∧ s7 = .int .i64 k ∧ s6 = .bool (difTo a b k).2 ∧ OwnR encP 2 wr w.heap.size 56 s5 (difTo a b k).1 ∧ Below w.heap.size w wr)
  case atStart => exact ⟨0, by omega, by omega, rfl, rfl, OwnR.lit0 w _ (Nat.le_refl _) _ 2, (Below.refl _ _).alloc (Nat.le_refl _) _⟩
  case round =>
    obtain ⟨k, hk, rfl, rfl, rfl, hown, hbl⟩ := hrel
    have HO := Lib.hid hown
    have HL := Lib.hid hbl
    have hsz := hbl.size
    clear hown hbl
    by_cases hlt : k < n
    · have hu := unl_at a b k
      have hor : (k : Int) < (a.length : Int) ∨ (k : Int) < (b.length : Int) := by have := HN.out; omega
      have hi0 : (0 : Int) ≤ (k : Int) := by omega
      have HD := Lib.hid (show difTo a b (k + 1) = (match unl a b k, (difTo a b k).2 with | true, true => bump (difTo a b k).1 | true, false => (difTo a b k).1 ++ [((k : Int), 1)] | false, _ => (difTo a b k).1, unl a b k) from rfl)
      have hsh := dif_shape a b k
      generalize difTo a b k = dd at HD HO hsh ⊢
      obtain ⟨o, l⟩ := dd
      dsimp only at HD HO hsh ⊢
      have hol := hsh.1
      rcases hu with ⟨h1, hu⟩ | ⟨h1, h2, hu⟩ | ⟨h1, h2, hu⟩
      · have h3 : (a.length : Int) ≤ (k : Int) := by omega
        have hd1 : decide (a.length ≤ k) = true := by simpa using h1
        have h4 : (k : Int) < (b.length : Int) := by omega
        clear hor
        rw [hu] at HD
        clear hu
        cases l
        · go_wp2_with fail
          go_quiet (fail)
          go_wp2_with (at_builtin; refine append_pair rfl _ _ 51 rfl w.heap.size 56 Try.underlying51 info_rspan _ o rfl (OwnR.drewN HO.out nq) (k : Int) 1 rfl (by omega) hsz ?_)
          intro v1 w1 hown1 hb1 _
          have HO1 := Lib.hid hown1
          have HL1 := Lib.hid ((below_drewN HL.out nq).trans hb1)
          clear hown1 hb1
          go_wp2_with fail
          go_roundg (n - (k + 1))
          case measure => omega
          case rel => exact ⟨k + 1, by omega, rfl, by go_num, by rw [HD.out], by rw [HD.out]; exact HO1.out, HL1.out⟩
        · obtain ⟨p, x, rfl⟩ : ∃ p x, o = p ++ [x] := ⟨o.dropLast, o.getLast (hsh.2.2 rfl), (List.dropLast_concat_getLast (hsh.2.2 rfl)).symm⟩
          obtain ⟨s, m⟩ := x
          rw [bump_snoc] at HD
          have hsm := hsh.2.1 (s, m) (by simp)
          have hpl := hsh.1
          simp only [List.length_append, List.length_cons, List.length_nil] at hpl hsm
          obtain ⟨_, _, hm1, hm2⟩ := hsm
          obtain ⟨g, c1, rfl, hg, hgl, hcell, hfree, hset⟩ := ownR_last HO.out
          have HS := Lib.hid hset
          clear hset hsh
          go_wp2_with fail
          go_quiet (fail)
          go_wp2_with fail
          go_roundg (n - (k + 1))
          case measure => omega
          case rel => exact ⟨k + 1, by omega, rfl, by go_num, by rw [HD.out], by rw [HD.out]; exact OwnR.drewN (HS.out _) _, below_drewN (HL.out.setCell hg _) _⟩
      · have h3 : (k : Int) < (a.length : Int) := by omega
        have h4 : (b.length : Int) ≤ (k : Int) := by omega
        have hd1 : decide (a.length ≤ k) = false := by simpa using h1
        have hd2 : decide (b.length ≤ k) = true := by simpa using h2
        clear hor
        rw [hu] at HD
        clear hu
        cases l
        · go_wp2_with fail
          go_quiet (fail)
          go_wp2_with (at_builtin; refine append_pair rfl _ _ 51 rfl w.heap.size 56 Try.underlying51 info_rspan _ o rfl (OwnR.drewN HO.out nq) (k : Int) 1 rfl (by omega) hsz ?_)
          intro v1 w1 hown1 hb1 _
          have HO1 := Lib.hid hown1
          have HL1 := Lib.hid ((below_drewN HL.out nq).trans hb1)
          clear hown1 hb1
          go_wp2_with fail
          go_roundg (n - (k + 1))
          case measure => omega
          case rel => exact ⟨k + 1, by omega, rfl, by go_num, by rw [HD.out], by rw [HD.out]; exact HO1.out, HL1.out⟩
        · obtain ⟨p, x, rfl⟩ : ∃ p x, o = p ++ [x] := ⟨o.dropLast, o.getLast (hsh.2.2 rfl), (List.dropLast_concat_getLast (hsh.2.2 rfl)).symm⟩
          obtain ⟨s, m⟩ := x
          rw [bump_snoc] at HD
          have hsm := hsh.2.1 (s, m) (by simp)
          have hpl := hsh.1
          simp only [List.length_append, List.length_cons, List.length_nil] at hpl hsm
          obtain ⟨_, _, hm1, hm2⟩ := hsm
          obtain ⟨g, c1, rfl, hg, hgl, hcell, hfree, hset⟩ := ownR_last HO.out
          have HS := Lib.hid hset
          clear hset hsh
          go_wp2_with fail
          go_quiet (fail)
          go_wp2_with fail
          go_roundg (n - (k + 1))
          case measure => omega
          case rel => exact ⟨k + 1, by omega, rfl, by go_num, by rw [HD.out], by rw [HD.out]; exact OwnR.drewN (HS.out _) _, below_drewN (HL.out.setCell hg _) _⟩
      · have h3 : (k : Int) < (a.length : Int) := by omega
        have h4 : (k : Int) < (b.length : Int) := by omega
        have hd1 : decide (a.length ≤ k) = false := by simpa using h1
        have hd2 : decide (b.length ≤ k) = false := by simpa using h2
        obtain ⟨ba, oa, rfl, hla1, hva⟩ := HA.out k h1
        obtain ⟨bb, ob, rfl, hlb1, hvb⟩ := HB.out k h2
        have hva := (HL.out.cell (p := ⟨ba, _, none⟩) hla1).trans hva
        have hvb := (HL.out.cell (p := ⟨bb, _, none⟩) hlb1).trans hvb
        generalize a.getD k 0 = x0 at hva hu
        generalize b.getD k 0 = y0 at hvb hu
        clear hor
        cases hxy : (x0 != y0)
        · rw [hu, hxy] at HD
          clear hu
          have hxn : (x0 == y0) = true := by simpa [bne] using hxy
          cases l
          · go_wp2_with fail
            go_quiet (fail)
            go_wp2_with fail
            go_roundg (n - (k + 1))
            case measure => omega
            case rel => exact ⟨k + 1, by omega, rfl, by go_num, by rw [HD.out], by rw [HD.out]; exact OwnR.drewN HO.out _, below_drewN HL.out _⟩
          · go_wp2_with fail
            go_quiet (fail)
            go_wp2_with fail
            go_roundg (n - (k + 1))
            case measure => omega
            case rel => exact ⟨k + 1, by omega, rfl, by go_num, by rw [HD.out], by rw [HD.out]; exact OwnR.drewN HO.out _, below_drewN HL.out _⟩
        · rw [hu, hxy] at HD
          clear hu
          have hxn : (x0 == y0) = false := by simpa [bne] using hxy
          cases l
          · go_wp2_with fail
            go_quiet (fail)
            go_wp2_with (at_builtin; refine append_pair rfl _ _ 51 rfl w.heap.size 56 Try.underlying51 info_rspan _ o rfl (OwnR.drewN HO.out nq) (k : Int) 1 rfl (by omega) hsz ?_)
            intro v1 w1 hown1 hb1 _
            have HO1 := Lib.hid hown1
            have HL1 := Lib.hid ((below_drewN HL.out nq).trans hb1)
            clear hown1 hb1
            go_wp2_with fail
            go_roundg (n - (k + 1))
            case measure => omega
            case rel => exact ⟨k + 1, by omega, rfl, by go_num, by rw [HD.out], by rw [HD.out]; exact HO1.out, HL1.out⟩
          · obtain ⟨p, x, rfl⟩ : ∃ p x, o = p ++ [x] := ⟨o.dropLast, o.getLast (hsh.2.2 rfl), (List.dropLast_concat_getLast (hsh.2.2 rfl)).symm⟩
            obtain ⟨s, m⟩ := x
            rw [bump_snoc] at HD
            have hsm := hsh.2.1 (s, m) (by simp)
            have hpl := hsh.1
            simp only [List.length_append, List.length_cons, List.length_nil] at hpl hsm
            obtain ⟨_, _, hm1, hm2⟩ := hsm
            obtain ⟨g, c1, rfl, hg, hgl, hcell, hfree, hset⟩ := ownR_last HO.out
            have HS := Lib.hid hset
            clear hset hsh
            go_wp2_with fail
            go_quiet (fail)
            go_wp2_with fail
            go_roundg (n - (k + 1))
            case measure => omega
            case rel => exact ⟨k + 1, by omega, rfl, by go_num, by rw [HD.out], by rw [HD.out]; exact OwnR.drewN (HS.out _) _, below_drewN (HL.out.setCell hg _) _⟩
    · obtain rfl : k = n := by omega
      have h1 : a.length ≤ k := by have := HN.out; omega
      have h2 : b.length ≤ k := by have := HN.out; omega
      go_wp2
      go_ret
      exact ⟨_, rfl, HO.out, HL.out⟩
set_option maxHeartbeats 4000000 in
set_option maxRecDepth 100000 in
theorem differ_calls (w : World) (a b : List Int) (p g c p' g' c' n : Nat) (ha : CellAt w p g c a) (hb : CellAt w p' g' c' b) (hn : n = max a.length b.length) :
    Calls Try.prog 19 #[.pointer (some ⟨p, 0, none⟩), .pointer (some ⟨p', 0, none⟩)] w (DifGives 55 (difTo a b n).1 w) := by
  have HA := Lib.hid ha
  have HB := Lib.hid hb
  have HN := Lib.hid hn
  have hla := ha.small
  have hlb := hb.small
  have hn1 : n ≤ 1048576 := by omega
  have hca := ha.head.cell (o := 0) rfl
  have hcb := hb.head.cell (o := 0) rfl
  have hmx : max (a.length : Int) (b.length : Int) = (n : Int) := by omega
  have Hmx := Lib.hid hmx
  clear ha hb hn hmx
  go_enter Try.func19, Try.ntmps19
  go_upto_region 3 with fail
  go_cut [19, 20] (fun s19 s20 wc => s19 = .int .i64 (n : Int) ∧ s20 = .int .i64 0 ∧ ∃ nq, wc = w.drewN nq)
  case first =>
    go_quiet (fail)
    all_goals (go_wp2_with fail)
    all_goals (go_meet; exact ⟨ret_i (by have := HN.out; omega), rfl, _, rfl⟩)
  case rest =>
  obtain ⟨rfl, rfl, nq, rfl⟩ := hcut
  clear hca hcb
  go_wp2_with fail
  go_loopg [5, 6, 20] n (fun m s5 s6 s20 wr => ∃ k : Nat, k ≤ n ∧ m = n - k ∧ s20 = .int .i64 k ∧ s6 = .bool (difTo a b k).2 ∧ OwnR encP 2 wr w.heap.size 55 s5 (difTo a b k).1 ∧ Below w.heap.size w wr)
  case atStart => exact ⟨0, by omega, by omega, rfl, rfl, OwnR.nil _ _ _ 2, below_drewN (Below.refl _ _) _⟩
  case round =>
    obtain ⟨k, hk, rfl, rfl, rfl, hown, hbl⟩ := hrel
    have HO := Lib.hid hown
    have HL := Lib.hid hbl
    have hsz := hbl.size
    have hca := (hbl.cell (p := ⟨p, 0, none⟩) HA.out.head.lt).trans (HA.out.head.cell (o := 0) rfl)
    have hcb := (hbl.cell (p := ⟨p', 0, none⟩) HB.out.head.lt).trans (HB.out.head.cell (o := 0) rfl)
    clear hown hbl
    by_cases hlt : k < n
    · have hu := unl_at a b k
      have hi0 : (0 : Int) ≤ (k : Int) := by omega
      have hi1 : (k : Int) < (n : Int) := by omega
      have HD := Lib.hid (show difTo a b (k + 1) = (match unl a b k, (difTo a b k).2 with | true, true => bump (difTo a b k).1 | true, false => (difTo a b k).1 ++ [((k : Int), 1)] | false, _ => (difTo a b k).1, unl a b k) from rfl)
      have hsh := dif_shape a b k
      generalize difTo a b k = dd at HD HO hsh ⊢
      obtain ⟨o, l⟩ := dd
      dsimp only at HD HO hsh ⊢
      have hol := hsh.1
      rcases hu with ⟨h1, hu⟩ | ⟨h1, h2, hu⟩ | ⟨h1, h2, hu⟩
      · have h3 : (a.length : Int) ≤ (k : Int) := by omega
        have hd1 : decide (a.length ≤ k) = true := by simpa using h1
        rw [hu] at HD
        clear hu
        cases l
        · go_wp2_with fail
          go_quiet (fail)
          go_wp2_with (at_builtin; refine append_pair rfl _ _ 49 rfl w.heap.size 55 Try.underlying49 info_span _ o rfl (OwnR.drewN HO.out nq) (k : Int) 1 rfl (by omega) hsz ?_)
          intro v1 w1 hown1 hb1 _
          have HO1 := Lib.hid hown1
          have HL1 := Lib.hid ((below_drewN HL.out nq).trans hb1)
          clear hown1 hb1
          go_wp2_with fail
          go_roundg (n - (k + 1))
          case measure => omega
          case rel => exact ⟨k + 1, by omega, rfl, by go_num, by rw [HD.out], by rw [HD.out]; exact HO1.out, HL1.out⟩
        · obtain ⟨p, x, rfl⟩ : ∃ p x, o = p ++ [x] := ⟨o.dropLast, o.getLast (hsh.2.2 rfl), (List.dropLast_concat_getLast (hsh.2.2 rfl)).symm⟩
          obtain ⟨s, m⟩ := x
          rw [bump_snoc] at HD
          have hsm := hsh.2.1 (s, m) (by simp)
          have hpl := hsh.1
          simp only [List.length_append, List.length_cons, List.length_nil] at hpl hsm
          obtain ⟨_, _, hm1, hm2⟩ := hsm
          obtain ⟨g, c1, rfl, hg, hgl, hcell, hfree, hset⟩ := ownR_last HO.out
          have HS := Lib.hid hset
          clear hset hsh
          go_wp2_with fail
          go_quiet (fail)
          go_wp2_with fail
          go_roundg (n - (k + 1))
          case measure => omega
          case rel => exact ⟨k + 1, by omega, rfl, by go_num, by rw [HD.out], by rw [HD.out]; exact OwnR.drewN (HS.out _) _, below_drewN (HL.out.setCell hg _) _⟩
      · have h3 : (k : Int) < (a.length : Int) := by omega
        have h4 : (b.length : Int) ≤ (k : Int) := by omega
        have hd1 : decide (a.length ≤ k) = false := by simpa using h1
        have hd2 : decide (b.length ≤ k) = true := by simpa using h2
        rw [hu] at HD
        clear hu
        cases l
        · go_wp2_with fail
          go_quiet (fail)
          go_wp2_with (at_builtin; refine append_pair rfl _ _ 49 rfl w.heap.size 55 Try.underlying49 info_span _ o rfl (OwnR.drewN HO.out nq) (k : Int) 1 rfl (by omega) hsz ?_)
          intro v1 w1 hown1 hb1 _
          have HO1 := Lib.hid hown1
          have HL1 := Lib.hid ((below_drewN HL.out nq).trans hb1)
          clear hown1 hb1
          go_wp2_with fail
          go_roundg (n - (k + 1))
          case measure => omega
          case rel => exact ⟨k + 1, by omega, rfl, by go_num, by rw [HD.out], by rw [HD.out]; exact HO1.out, HL1.out⟩
        · obtain ⟨p, x, rfl⟩ : ∃ p x, o = p ++ [x] := ⟨o.dropLast, o.getLast (hsh.2.2 rfl), (List.dropLast_concat_getLast (hsh.2.2 rfl)).symm⟩
          obtain ⟨s, m⟩ := x
          rw [bump_snoc] at HD
          have hsm := hsh.2.1 (s, m) (by simp)
          have hpl := hsh.1
          simp only [List.length_append, List.length_cons, List.length_nil] at hpl hsm
          obtain ⟨_, _, hm1, hm2⟩ := hsm
          obtain ⟨g, c1, rfl, hg, hgl, hcell, hfree, hset⟩ := ownR_last HO.out
          have HS := Lib.hid hset
          clear hset hsh
          go_wp2_with fail
          go_quiet (fail)
          go_wp2_with fail
          go_roundg (n - (k + 1))
          case measure => omega
          case rel => exact ⟨k + 1, by omega, rfl, by go_num, by rw [HD.out], by rw [HD.out]; exact OwnR.drewN (HS.out _) _, below_drewN (HL.out.setCell hg _) _⟩
      · have h3 : (k : Int) < (a.length : Int) := by omega
        have h4 : (k : Int) < (b.length : Int) := by omega
        have hd1 : decide (a.length ≤ k) = false := by simpa using h1
        have hd2 : decide (b.length ≤ k) = false := by simpa using h2
        have hva := (HL.out.cell (p := ⟨g, _, none⟩) HA.out.row.lt).trans (HA.out.byte h1)
        have hvb := (HL.out.cell (p := ⟨g', _, none⟩) HB.out.row.lt).trans (HB.out.byte h2)
        generalize a.getD k 0 = x0 at hva hu
        generalize b.getD k 0 = y0 at hvb hu
        cases hxy : (x0 != y0)
        · rw [hu, hxy] at HD
          clear hu
          have hxn : (x0 == y0) = true := by simpa [bne] using hxy
          cases l
          · go_wp2_with fail
            go_quiet (fail)
            go_wp2_with fail
            go_roundg (n - (k + 1))
            case measure => omega
            case rel => exact ⟨k + 1, by omega, rfl, by go_num, by rw [HD.out], by rw [HD.out]; exact OwnR.drewN HO.out _, below_drewN HL.out _⟩
          · go_wp2_with fail
            go_quiet (fail)
            go_wp2_with fail
            go_roundg (n - (k + 1))
            case measure => omega
            case rel => exact ⟨k + 1, by omega, rfl, by go_num, by rw [HD.out], by rw [HD.out]; exact OwnR.drewN HO.out _, below_drewN HL.out _⟩
        · rw [hu, hxy] at HD
          clear hu
          have hxn : (x0 == y0) = false := by simpa [bne] using hxy
          cases l
          · go_wp2_with fail
            go_quiet (fail)
            go_wp2_with (at_builtin; refine append_pair rfl _ _ 49 rfl w.heap.size 55 Try.underlying49 info_span _ o rfl (OwnR.drewN HO.out nq) (k : Int) 1 rfl (by omega) hsz ?_)
            intro v1 w1 hown1 hb1 _
            have HO1 := Lib.hid hown1
            have HL1 := Lib.hid ((below_drewN HL.out nq).trans hb1)
            clear hown1 hb1
            go_wp2_with fail
            go_roundg (n - (k + 1))
            case measure => omega
            case rel => exact ⟨k + 1, by omega, rfl, by go_num, by rw [HD.out], by rw [HD.out]; exact HO1.out, HL1.out⟩
          · obtain ⟨p, x, rfl⟩ : ∃ p x, o = p ++ [x] := ⟨o.dropLast, o.getLast (hsh.2.2 rfl), (List.dropLast_concat_getLast (hsh.2.2 rfl)).symm⟩
            obtain ⟨s, m⟩ := x
            rw [bump_snoc] at HD
            have hsm := hsh.2.1 (s, m) (by simp)
            have hpl := hsh.1
            simp only [List.length_append, List.length_cons, List.length_nil] at hpl hsm
            obtain ⟨_, _, hm1, hm2⟩ := hsm
            obtain ⟨g, c1, rfl, hg, hgl, hcell, hfree, hset⟩ := ownR_last HO.out
            have HS := Lib.hid hset
            clear hset hsh
            go_wp2_with fail
            go_quiet (fail)
            go_wp2_with fail
            go_roundg (n - (k + 1))
            case measure => omega
            case rel => exact ⟨k + 1, by omega, rfl, by go_num, by rw [HD.out], by rw [HD.out]; exact OwnR.drewN (HS.out _) _, below_drewN (HL.out.setCell hg _) _⟩
    · obtain rfl : k = n := by omega
      have h1 : a.length ≤ k := by have := HN.out; omega
      have h2 : b.length ≤ k := by have := HN.out; omega
      go_wp2
      go_ret
      exact ⟨_, rfl, HO.out, HL.out⟩
end Go.Proofs.Ytknieebmcpgppaa.Cell
