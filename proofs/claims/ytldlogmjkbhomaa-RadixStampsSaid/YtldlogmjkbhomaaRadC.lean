/- The contracts of package radix's put (all ways), Leaves, Count and New. -/
import Derived.Test.YtldlogmjkbhomaaRadB
namespace Go.Proofs.Ytldlogmjkbhomaa.Rad
open Go.RowKit Go.Proofs.Ytldlogmjkbhomaa.Aid Go.Proofs.Ytldlogmjkbhomaa.Pack
theorem put_calls (w : World) (p : Nat) (F : List Nat) (pages : Nat) (s : RS) (i : Nat) (x : Int) (h : RadAt w p F pages s) (hi : i < pages) (hx : x ≠ 0 ∨ s.ws i ≠ 0) (hok : OkR pages ⟨putW s.ws i x, s.st⟩) :
    Calls Try.prog 65 #[.pointer (some ⟨p, 0, none⟩), .int .i64 i, .int .u64 x] w fun e w' => (∃ v, e = .returned v) ∧ Wrote p F pages ⟨putW s.ws i x, s.st⟩ w w' := by
  obtain ⟨rb, hs, hP⟩ := h.ex
  obtain ⟨k, j, hPl⟩ := place h.ok.p12 hi
  obtain ⟨v, hv, _, hL⟩ := hP.at hPl.k1
  rcases hL with ⟨rfl, hz⟩ | ⟨g, rfl, hB, hc, _, _, hgr⟩
  · have hf := cntW_zero.1 hz j hPl.j1
    rw [hPl.sum] at hf
    exact put_make w p F pages s i x rb k j hs hP hPl hv hz (hx.resolve_right fun e => e hf) hok
  · by_cases hf : s.ws i = 0
    · exact put_fresh w p F pages s i x rb g k j hs hP hPl hv hB hc hgr hf (hx.resolve_right fun e => e hf) hok
    · by_cases h0 : x = 0
      · by_cases h1 : cntW s.ws k = 1
        · exact put_last w p F pages s i x rb g k j hs hP hPl hv hB hc hgr hf h0 h1 hok
        · exact put_less w p F pages s i x rb g k j hs hP hPl hv hB hc hgr hf h0 h1 hok
      · exact put_both w p F pages s i x rb g k j hs hP hPl hv hB hc hgr hf h0 hok
/-! ### counting -/
theorem leavesW_succ (f : Nat → Int) (k : Nat) : leavesW f (k + 1) = leavesW f k + (cntW f k != 0).toNat := by
  unfold leavesW
  rw [List.range_succ, List.filter_append, List.length_append]
  cases h : cntW f k != 0 <;> simp [h]
theorem leavesW_le (f : Nat → Int) (k : Nat) : leavesW f k ≤ k := by
  unfold leavesW
  have := List.length_filter_le (fun j => cntW f j != 0) (List.range k)
  rwa [List.length_range] at this
theorem countW_succ (f : Nat → Int) (k : Nat) (a b : Int) : countW f (k + 1) a b = countW f k a b + (hasE (f k) a b).toNat := by
  unfold countW
  rw [List.range_succ, List.filter_append, List.length_append]
  cases h : hasE (f k) a b <;> simp [h]
theorem countW_le (f : Nat → Int) (k : Nat) (a b : Int) : countW f k a b ≤ k := by
  unfold countW
  have := List.length_filter_le (fun i => hasE (f i) a b) (List.range k)
  rwa [List.length_range] at this
theorem leaves_calls (w : World) (p : Nat) (F : List Nat) (pages : Nat) (s : RS) (h : RadAt w p F pages s) :
    Calls Try.prog 20 #[.pointer (some ⟨p, 0, none⟩)] w fun e w' => e = .returned (.int .i64 (leavesW s.ws (leavesN pages) : Nat)) ∧ w = w' := by
  obtain ⟨rb, hs, hP⟩ := h.ex
  have c1 := hP.c1
  have HP := Lib.hid hP
  have HL := Lib.hid (show leavesN pages ≤ 64 by have := h.ok.p12; unfold leavesN; omega)
  clear h hP
  generalize hN : leavesN pages = N at c1 HL
  have HN := Lib.hid hN
  clear hN
  go_enter Try.func20, Try.ntmps20
  go_wp2_with fail
  go_loopw [3, 11] (fun n i wr => ∃ k : Nat, i = .int .i64 k ∧ k ≤ N ∧ n = .int .i64 (leavesW s.ws k : Nat) ∧ w = wr) (fun _ i _ => N - (intOf i).toNat)
  case atStart => exact ⟨0, rfl, by omega, rfl, rfl⟩
  case round =>
    obtain ⟨k, rfl, hk, rfl, rfl⟩ := hrel
    have hl64 := HL.out
    by_cases hlt : k < N
    · obtain ⟨v, hv, hc, hL⟩ := HP.out.at (k := k) (by rw [HN.out]; exact hlt)
      have hs1 := leavesW_succ s.ws k
      have HS := Lib.hid hs1
      have HLe := Lib.hid (leavesW_le s.ws k)
      rcases hL with ⟨rfl, hz⟩ | ⟨g, rfl, hB, hz, _⟩
      · have HZ := Lib.hid hz
        clear hs1 hz hv
        go_wp2
        go_roundw
        case rel => exact ⟨k + 1, by go_num, by omega, by rw [HS.out, HZ.out]; rfl, trivial⟩
        case measure => simp [intOf]; omega
      · have HZ := Lib.hid hz
        unfold ptrTo at hc
        clear hs1 hz hv hB
        go_wp2
        go_roundw
        case rel => exact ⟨k + 1, by go_num, by omega, by rw [HS.out, show (cntW s.ws k != 0) = true by simpa using HZ.out]; exact congrArg (Value.int .i64) (by have := HLe.out; have := HL.out; unfold wrap64; simp only [Bool.toNat_true]; omega), trivial⟩
        case measure => simp [intOf]; omega
    · obtain rfl : k = N := by omega
      go_wp2
      go_ret
      exact ⟨rfl, rfl⟩
theorem getE_val (x : Int) : ∃ v b, getE x = .returned (.tuple #[.agg (encE v).toArray, .bool b]) ∧ b = (x != 0) ∧ (b = true → v = entW x) := by
  unfold getE
  by_cases h : x = 0
  · exact ⟨_, _, by rw [if_pos h], by simp [h], fun h => by cases h⟩
  · exact ⟨_, _, by rw [if_neg h], by simp [h], fun _ => rfl⟩
theorem wordAt_in {pages : Nat} {s : RS} {k : Nat} (h : k < pages) : wordAt pages s (k : Int) = s.ws k := by
  unfold wordAt
  rw [if_pos ⟨by omega, by omega⟩, Int.toNat_natCast]
theorem count_calls (w : World) (p : Nat) (F : List Nat) (pages : Nat) (s : RS) (a b : Int) (h : RadAt w p F pages s) :
    Calls Try.prog 25 #[.pointer (some ⟨p, 0, none⟩), .int .i64 a, .int .i64 b] w fun e w' => e = .returned (.int .i64 (countW s.ws pages a b : Nat)) ∧ Below w.heap.size w w' := by
  have c0 := h.c0
  have HP := Lib.hid h
  have hl := h.ok.p12
  clear h
  go_enter Try.func25, Try.ntmps25
  go_wp2_with fail
  go_loopw [7, 15] (fun n i wr => ∃ k : Nat, i = .int .i64 k ∧ k ≤ pages ∧ n = .int .i64 (countW s.ws k a b : Nat) ∧ Below w.heap.size w wr) (fun _ i _ => pages - (intOf i).toNat)
  case atStart => exact ⟨0, rfl, by omega, rfl, Below.refl _ _⟩
  case round =>
    obtain ⟨k, rfl, hk, rfl, hb⟩ := hrel
    by_cases hlt : k < pages
    · have HG := Lib.hid (get_calls wr p F pages s k (HP.out.below hb))
      rw [wordAt_in hlt] at HG
      have HS := Lib.hid (countW_succ s.ws k a b)
      have HLe := Lib.hid (countW_le s.ws k a b)
      have HBw := Lib.hid hb
      obtain ⟨v, ok, hv, hok, hvv⟩ := getE_val (s.ws k)
      rw [hv] at HG
      have HE := Lib.hid (show hasE (s.ws k) a b = (ok && (v.ver == a && v.sta == b)) from by
        unfold hasE
        rw [← hok]
        cases ok with
        | true => rw [hvv rfl]; simp
        | false => simp)
      clear hb hv hok hvv
      obtain ⟨sp, ve, cl, sa⟩ := v
      unfold encE at HG
      simp only at HG HE
      have hmore : ∀ n : Bool, hasE (s.ws k) a b = n → (countW s.ws (k + 1) a b : Int) = countW s.ws k a b + (n.toNat : Nat) := fun n e => by rw [HS.out, e]; rfl
      have HM := Lib.hid hmore
      have hcl := HLe.out
      clear hmore
      go_wp2_with fail
      refine HG.out.mono ?_
      rintro e w1 ⟨rfl, hb1⟩
      have HB1 := Lib.hid (bstep HBw.out hb1)
      clear hb1
      cases ok with
      | false =>
        go_wp2_with fail
        go_roundw
        case rel => exact ⟨k + 1, by go_num, by omega, congrArg (Value.int .i64) (by rw [HM.out false HE.out]; simp), balloc HB1.out _⟩
        case measure => simp [intOf]; omega
      | true =>
        by_cases h1 : ve = a
        · subst h1
          by_cases h2 : sa = b
          · subst h2
            go_wp2_with fail
            go_roundw
            case rel => exact ⟨k + 1, by go_num, by omega, congrArg (Value.int .i64) (by rw [HM.out true (by rw [HE.out]; simp)]; rfl), balloc HB1.out _⟩
            case measure => simp [intOf]; omega
          · have h2' : (sa == b) = false := beq_eq_false_iff_ne.2 h2
            clear h2
            go_wp2_with fail
            go_roundw
            case rel => exact ⟨k + 1, by go_num, by omega, congrArg (Value.int .i64) (by rw [HM.out false (by rw [HE.out, h2']; simp)]; simp), balloc HB1.out _⟩
            case measure => simp [intOf]; omega
        · have h1' : (ve == a) = false := beq_eq_false_iff_ne.2 h1
          clear h1
          go_wp2_with fail
          go_roundw
          case rel => exact ⟨k + 1, by go_num, by omega, congrArg (Value.int .i64) (by rw [HM.out false (by rw [HE.out, h1']; simp)]; simp), balloc HB1.out _⟩
          case measure => simp [intOf]; omega
    · obtain rfl : k = pages := by omega
      go_wp2
      go_ret
      exact ⟨rfl, hb⟩
def rs0 : RS := ⟨fun _ => 0, 0⟩
theorem rs0_ok {n : Nat} (h : n ≤ 4096) : OkR n rs0 := ⟨h, fun _ _ => rfl, fun _ => .inl rfl, by decide, by decide⟩
theorem cnt0 (k : Nat) : cntW rs0.ws k = 0 := cntW_zero.2 fun _ _ => rfl
theorem infoL : (Try.prog.info? LPT).map (fun i => (i.zero, i.size, i.bytes)) = some (some (.pointer none), 1, 8) := by kernel_rfl
theorem new_yes (w : World) (n : Nat) (h : n ≤ 4096) :
    Calls Try.prog 13 #[.int .i64 n] w fun e w' => ∃ p F, e = .returned (.tuple #[.pointer (some ⟨p, 0, none⟩), .int .i64 0]) ∧ RadAt w' p F n rs0 ∧ (∀ x ∈ p :: F, w.heap.size ≤ x) ∧ Below w.heap.size w w' := by
  have g1 : ¬ (n : Int) < 0 := by omega
  have g2 : ¬ (4096 : Int) < n := by omega
  have Hi := Lib.hid (show ((n : Int) + 63) / 64 = (leavesN n : Int) by unfold leavesN; omega)
  have hL : leavesN n ≤ 64 := by unfold leavesN; omega
  go_enter Try.func13, Try.ntmps13
  go_wp2_with (at_make; refine make_row _ rfl _ _ 110 rfl LPT Try.underlying110 (.pointer none) 8 rfl infoL _ _ (leavesN n) (congrArg (Value.int .i64) (by rw [Hi.out])) (congrArg (Value.int .i64) (by rw [Hi.out])) (by omega) (by decide) ?_; intro w1 hr1 hlt1 hb1)
  go_ret2
  have hB := Blk.new w1 #[.int .i64 n, .slice (some ⟨w.heap.size, 0, none⟩) (leavesN n) (leavesN n), .int .u64 0] MT
  refine ⟨w1.heap.size, rfl, [w1.heap.size, w.heap.size], ⟨rs0_ok h, w.heap.size, _, ⟨hB, hr1.alloc _, List.length_replicate, fun k v hk => ?_, fun j k g hj _ => ?_, ⟨by simp, by simp⟩, by omega, fun x hx => ?_⟩⟩, ?_, balloc hb1 _⟩
  · refine .inl ⟨?_, cnt0 k⟩
    rw [List.getElem?_replicate] at hk
    split at hk
    · exact (Option.some.inj hk).symm
    · cases hk
  · rw [List.getElem?_replicate] at hj
    split at hj
    · cases Option.some.inj hj
    · cases hj
  · simp at hx
    have := hb1.size
    rw [World.size_alloc]
    omega
  · have := hb1.size
    simp
    omega
theorem new_no (w : World) (n : Int) (h : n < 0 ∨ 4096 < n) :
    Calls Try.prog 13 #[.int .i64 n] w fun e w' => e = .returned (.tuple #[.pointer none, .int .i64 11]) ∧ w = w' := by
  by_cases h0 : n < 0
  · clear h
    go_enter Try.func13, Try.ntmps13
    go_wp2
    go_ret2
    exact ⟨rfl, rfl⟩
  · have h1 : 0 ≤ n := by omega
    have h2 : 4096 < n := by omega
    clear h
    go_enter Try.func13, Try.ntmps13
    go_wp2
    go_ret2
    exact ⟨rfl, rfl⟩
end Go.Proofs.Ytldlogmjkbhomaa.Rad
