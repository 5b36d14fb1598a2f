/- The walk of CellsCalls: it returns true. -/
import Derived.Test.YtknieebmcpgppaaCellU
namespace Go.Proofs.Ytknieebmcpgppaa.Cell
open Go.RowKit Go.Proofs.Ytknieebmcpgppaa.Aid
theorem told_calls (w : World) (p g c h d : Nat) (bs : List Int) (x : Tell) (hB : Both w p g c h d bs) (hS : Ints w .u8 x.B x.bytes) (hSb : Byt x.bytes) (hN : x.B = none → x.cap = 0) :
    Calls Try.prog 13 #[.pointer (some ⟨p, 0, none⟩), .slice (some ⟨h, 0, none⟩) bs.length d, .agg x.cells] w (ToldGives p g c (stepB x bs) w) := by
  obtain ⟨what, a, n, src, kw, v, B, bytes, cap⟩ := x
  unfold stepB
  dsimp only at hS hSb hN ⊢
  by_cases h0 : what = 0
  · subst h0
    rw [if_pos rfl]
    cases hp : (widthB kw && partB bs.length a kw)
    · rw [if_neg (by simp)]
      exact told0_no w p g c h d bs _ hB rfl hp
    · rw [if_pos rfl]
      rw [Bool.and_eq_true] at hp
      obtain ⟨h3, h4, h5, h6⟩ := partB_true hp.2
      obtain ⟨a, rfl⟩ := Int.eq_ofNat_of_zero_le h4
      obtain ⟨kw, rfl⟩ := Int.eq_ofNat_of_zero_le h3
      exact told0_yes w p g c h d bs n src v B bytes cap hB a kw hp.1 (by omega)
  · rw [if_neg h0]
    by_cases h1 : what = 1
    · subst h1
      rw [if_pos rfl]
      cases hp : partB bs.length a bytes.length
      · rw [if_neg (by simp)]
        exact told1_no w p g c h d bs a n src kw v B bytes cap hB hp
      · rw [if_pos rfl]
        obtain ⟨h3, h4, h5, h6⟩ := partB_true hp
        obtain ⟨a, rfl⟩ := Int.eq_ofNat_of_zero_le h4
        exact told1_yes w p g c h d bs a n src kw v B bytes cap hB hS hSb hN (by omega)
    · rw [if_neg h1]
      by_cases h2 : what = 2
      · subst h2
        rw [if_pos rfl]
        cases hp : partB bs.length a n
        · rw [if_neg (by simp)]
          exact told2_no w p g c h d bs a n src kw v B bytes cap hB hp
        · rw [if_pos rfl]
          obtain ⟨h3, h4, h5, h6⟩ := partB_true hp
          obtain ⟨a, rfl⟩ := Int.eq_ofNat_of_zero_le h4
          obtain ⟨n, rfl⟩ := Int.eq_ofNat_of_zero_le h3
          exact told2_yes w p g c h d bs a n src kw v B bytes cap hB (by omega)
      · rw [if_neg h2]
        by_cases h3 : what = 3
        · subst h3
          rw [if_pos rfl]
          cases hp : (partB bs.length a n && partB bs.length src n)
          · rw [if_neg (by simp)]
            exact told3_no w p g c h d bs a n src kw v B bytes cap hB hp
          · rw [if_pos rfl]
            rw [Bool.and_eq_true] at hp
            obtain ⟨h3, h4, h5, h6⟩ := partB_true hp.1
            obtain ⟨_, h7, h8, h9⟩ := partB_true hp.2
            obtain ⟨a, rfl⟩ := Int.eq_ofNat_of_zero_le h4
            obtain ⟨n, rfl⟩ := Int.eq_ofNat_of_zero_le h3
            obtain ⟨src, rfl⟩ := Int.eq_ofNat_of_zero_le h7
            exact told3_yes w p g c h d bs a n src kw v B bytes cap hB (by omega) (by omega)
        · rw [if_neg h3]
          exact told_else w p g c h d bs _ hB (by simpa using h0) (by simpa using h1) (by simpa using h2) (by simpa using h3)
theorem stepB_len (x : Tell) (bs : List Int) : (stepB x bs).length = bs.length := by
  unfold stepB
  repeat' split
  · rename_i h
    rw [Bool.and_eq_true] at h
    have := partB_true h.2
    exact lay_len _ _ _ (by rw [bytesTo_len]; omega)
  · rfl
  · rename_i h
    have := partB_true h
    exact lay_len _ _ _ (by omega)
  · rfl
  · rename_i h
    have := partB_true h
    exact lay_len _ _ _ (by simp; omega)
  · rfl
  · rename_i h
    rw [Bool.and_eq_true] at h
    have := partB_true h.1
    have := partB_true h.2
    exact lay_len _ _ _ (by rw [sub_len _ _ _ (by omega)]; omega)
  · rfl
  · rfl
def tell0 : Tell := ⟨0, 0, 0, 0, 0, 0, none, [], 0⟩
/-- A slice of calls. -/
structure TellAt (w : World) (b o : Nat) (x : Tell) : Prop where
  lt : b < w.heap.size
  c0 : w.cell? ⟨b, o, none⟩ = some (.int .i64 x.what)
  c1 : w.cell? ⟨b, o + 1, none⟩ = some (.int .i64 x.at_)
  c2 : w.cell? ⟨b, o + 2, none⟩ = some (.int .i64 x.n)
  c3 : w.cell? ⟨b, o + 3, none⟩ = some (.int .i64 x.src)
  c4 : w.cell? ⟨b, o + 4, none⟩ = some (.int .i64 x.w)
  c5 : w.cell? ⟨b, o + 5, none⟩ = some (.int .u64 x.v)
  c6 : w.cell? ⟨b, o + 6, none⟩ = some (.slice x.B x.bytes.length x.cap)
  ints : Ints w .u8 x.B x.bytes
  byt : Byt x.bytes
  nil : x.B = none → x.cap = 0
  len : x.bytes.length ≤ maxLen
theorem TellAt.below {w w' : World} {b o : Nat} {x : Tell} (h : TellAt w b o x) (k : Below w.heap.size w w') : TellAt w' b o x :=
  ⟨Nat.lt_of_lt_of_le h.lt k.size, (k.cell (p := ⟨b, _, none⟩) h.lt).trans h.c0, (k.cell (p := ⟨b, _, none⟩) h.lt).trans h.c1, (k.cell (p := ⟨b, _, none⟩) h.lt).trans h.c2, (k.cell (p := ⟨b, _, none⟩) h.lt).trans h.c3, (k.cell (p := ⟨b, _, none⟩) h.lt).trans h.c4, (k.cell (p := ⟨b, _, none⟩) h.lt).trans h.c5, (k.cell (p := ⟨b, _, none⟩) h.lt).trans h.c6, h.ints.below k, h.byt, h.nil, h.len⟩
def Tells (w : World) (A : Option Addr) (xs : List Tell) : Prop := ∀ k, k < xs.length → ∃ b o, A = some ⟨b, o, none⟩ ∧ TellAt w b (o + k * 7) (xs.getD k tell0)
theorem Tells.below {w w' : World} {A : Option Addr} {xs : List Tell} (h : Tells w A xs) (k : Below w.heap.size w w') : Tells w' A xs := fun j hj => by
  obtain ⟨b, o, e, ht⟩ := h j hj
  exact ⟨b, o, e, ht.below k⟩
/-- What great tells. -/
def GreatGives (n : Int) (m : Nat) (w : World) (e : Ending) (w' : World) : Prop := ∃ t, e = .returned (.bool t) ∧ (t = false → n ≤ 2000 ∧ m ≤ 60) ∧ w = w'
theorem great_calls (w : World) (n : Int) (A : Option Addr) (c : Nat) (xs : List Tell) (hx : Tells w A xs) (hl : xs.length ≤ maxLen) :
    Calls Try.prog 12 #[.int .i64 n, .slice A xs.length c] w (GreatGives n xs.length w) := by
  unfold maxLen at hl
  have HX := Lib.hid hx
  clear hx
  by_cases h1 : 2000 < n
  · go_enter Try.func12, Try.ntmps12
    go_wp2_with fail
    go_ret
    exact ⟨true, rfl, by simp, rfl⟩
  · have h1' : n ≤ 2000 := by omega
    by_cases h2 : 60 < (xs.length : Int)
    · go_enter Try.func12, Try.ntmps12
      go_wp2_with fail
      go_ret
      exact ⟨true, rfl, by simp, rfl⟩
    · have h2' : (xs.length : Int) ≤ 60 := by omega
      go_enter Try.func12, Try.ntmps12
      go_wp2_with fail
      go_loop [5] (fun i => ∃ j : Nat, j ≤ xs.length ∧ i = .int .i64 j) (fun i => xs.length - (intOf i).toNat)
      case atStart => exact ⟨0, by omega, rfl⟩
      case round =>
        obtain ⟨j, hj, rfl⟩ := hrel
        by_cases hlt : j < xs.length
        · obtain ⟨b, o, rfl, ht⟩ := HX.out j hlt
          have hc := ht.c6
          have hm := ht.len
          unfold maxLen at hm
          generalize (xs.getD j tell0).bytes.length = m at hc hm
          clear ht
          have hi0 : (0 : Int) ≤ (j : Int) := by omega
          by_cases hbig : 2000 < (m : Int)
          · go_wp2
            go_ret
            exact ⟨true, rfl, by simp, rfl⟩
          · go_wp2
            go_round
            case rel => exact ⟨j + 1, by omega, by go_num⟩
            case measure => simp [intOf]; omega
        · obtain rfl : j = xs.length := by omega
          go_wp2
          go_ret
          exact ⟨false, rfl, fun _ => ⟨h1', by omega⟩, rfl⟩
theorem same_len (xs ys : List Int) (n m : Nat) (hn : xs.length = n) (hm : ys.length = m) (A A' : Option Addr) (c c' : Nat) (w : World) (hx : Ints w .u8 A xs) (hy : Ints w .u8 A' ys) (hl : xs.length ≤ maxLen) :
    Calls Try.prog 15 #[.slice A n c, .slice A' m c'] w fun e w' => e = .returned (.bool (xs == ys)) ∧ ∃ nq, w' = w.drewN nq := by
  subst hn hm
  exact same_bytes xs ys A A' c c' w hx hy hl
set_option maxHeartbeats 8000000 in
set_option maxRecDepth 100000 in
theorem calls_small (w : World) (n : Nat) (A : Option Addr) (c : Nat) (xs : List Tell) (a k : Int) (hx : Tells w A xs) (hl : xs.length ≤ maxLen) :
    Calls Try.prog 4 #[.int .i64 n, .slice A xs.length c, .int .i64 a, .int .i64 k] w fun e w' => e = .returned (.bool true) ∧ Below w.heap.size w w' := by
  have HX := Lib.hid hx
  have HL := Lib.hid hl
  clear hx hl
  go_enter Try.func4, Try.ntmps4
  go_wp2_with fail
  refine (alive_calls _).mono ?_
  rintro e w1 ⟨rfl, hb1⟩
  go_wp2_with fail
  refine (great_calls w1 n A c xs (HX.out.below hb1) HL.out).mono ?_
  rintro e w' ⟨t, rfl, ht, rfl⟩
  cases t
  · obtain ⟨hn, hm⟩ := ht rfl
    have hn0 : (0 : Int) ≤ (n : Int) := by omega
    clear ht
    go_wp2_with fail
    refine (new_yes w1 n (by omega)).mono ?_
    rintro e w2 ⟨p, g, rfl, hC, hp, hg, hb2⟩
    have HC2 := Lib.hid hC
    have hb2' := below_then hb1 hb2
    have hs1 := hb1.size
    have hs2 := hb2'.size
    clear hC hb2
    go_wp2_with (at_make; refine make_row _ rfl _ _ 30 rfl 5 Try.underlying30 (.int .u8 0) 1 rfl info_u8 _ _ n rfl rfl (by omega) (by decide) ?_)
    intro w3 hrow hlt hb3
    have hB3 : Both w3 p g n w2.heap.size n (List.replicate n 0) := ⟨HC2.out.below hb3, by simpa using hrow, by have := HC2.out.row.lt; omega⟩
    have HB3 := Lib.hid hB3
    have hb3' := below_then hb2' hb3
    have hlr : (List.replicate n (0 : Int)).length = n := by simp
    have Hlr := Lib.hid hlr
    clear hrow hb3 hB3 hlr
    generalize List.replicate n (0 : Int) = zs at HB3 Hlr
    go_wp2_with fail
    go_loopw [11, 12] (fun s i wr => ∃ (j h d : Nat) (bs : List Int), j ≤ xs.length ∧ i = .int .i64 j ∧ s = .slice (some ⟨h, 0, none⟩) n d ∧ bs.length = n ∧ Both wr p g n h d bs ∧ Below w.heap.size w wr) (fun _ i _ => xs.length - (intOf i).toNat)
    case atStart => exact ⟨0, _, n, zs, by omega, rfl, rfl, Hlr.out, HB3.out, hb3'⟩
    case round =>
      obtain ⟨j, h, d, bs, hj, rfl, rfl, hlen, hB, hbl⟩ := hrel
      have HB := Lib.hid hB
      have HBL := Lib.hid hbl
      have hsr := hbl.size
      have Hlen := Lib.hid hlen
      have hpl := hB.own.head.lt
      have hgl := hB.own.row.lt
      have hbm := hB.row.cap
      simp only [List.length_map] at hbm
      unfold maxLen at hbm
      clear hB hbl
      by_cases hlt : j < xs.length
      · obtain ⟨b, o, rfl, ht⟩ := HX.out j hlt
        have htr := ht.below (w' := wr) (HBL.out.mono (by omega))
        clear ht
        generalize xs.getD j tell0 = x at htr
        obtain ⟨hlb, c0, c1, c2, c3, c4, c5, c6, hi, hby, hni, hle⟩ := htr
        have T := told_calls wr p g n h d bs x HB.out hi hby hni
        rw [Hlen.out] at T
        have HT := Lib.hid T
        clear T hi hby hni hle
        have hi0 : (0 : Int) ≤ (j : Int) := by omega
        have hi1 : (j : Int) < (xs.length : Int) := by omega
        go_wp2_with fail
        refine HT.out.mono ?_
        rintro e w5 ⟨h5, d5, he, hB5, hk5⟩
        rw [stepB_len, Hlen.out] at he
        subst he
        have hl5 : (stepB x bs).length = n := by rw [stepB_len]; exact Hlen.out
        have Hl5 := Lib.hid hl5
        have HB5 := Lib.hid hB5
        have hb5 := below_kept HBL.out hk5 hsr (by simp; omega)
        have hs5 := hb5.size
        clear hl5 hB5 hk5 HT HB Hlen c0 c1 c2 c3 c4 c5 c6
        generalize stepB x bs = ys at HB5 Hl5
        go_wp2_with fail
        refine (read_yes w5 p g n ys 0 n HB5.out.own (by rw [Hl5.out]; omega)).mono ?_
        rw [show sub ys 0 n = ys by rw [← Hl5.out]; simp [sub]]
        rintro e w6 ⟨g6, c6, he, hr6, hg6, hb6⟩
        rw [Hl5.out] at he
        subst he
        have HR6 := Lib.hid hr6
        have HB6 := Lib.hid (HB5.out.below hb6)
        have hb6' := below_then hb5 hb6
        have hs6 := hb6'.size
        have hsm := HB5.out.own.small
        clear hr6 hb6
        cases hp : (widthB k && partB n a k)
        · have hp1 : (widthB k && partB ys.length a k) = false := by rw [Hl5.out]; exact hp
          have L1 := load_no w6 p g n ys a k HB6.out.own hp1
          have L2 := rload_no w6 ys (some ⟨h5, 0, none⟩) d5 a k hp1 hsm
          rw [Hl5.out] at L2
          have HL1 := Lib.hid L1
          have HL2 := Lib.hid L2
          clear L1 L2 hp hp1
          have S := same_bytes ys ys (some ⟨g6, 0, none⟩) (some ⟨h5, 0, none⟩) c6 d5 w6 HR6.out.ints HB6.out.row.ints (by rw [Hl5.out]; unfold maxLen; omega)
          rw [Hl5.out, show (ys == ys) = true by simp] at S
          have HS := Lib.hid S
          clear S
          go_wp2_with fail
          refine HL1.out.mono ?_
          rintro e w' ⟨rfl, rfl⟩
          go_wp2_with fail
          refine HL2.out.mono ?_
          rintro e w' ⟨rfl, rfl⟩
          go_wp2_with fail
          refine HS.out.mono ?_
          rintro e w' ⟨rfl, nq, rfl⟩
          go_wp2_with fail
          go_roundw
          case rel => exact ⟨j + 1, h5, d5, ys, by omega, by go_num, rfl, Hl5.out, ⟨HB6.out.own.drewN nq, HB6.out.row.drewN nq, HB6.out.ne⟩, below_drewN hb6' nq⟩
          case measure => simp [intOf]; omega
        · rw [Bool.and_eq_true] at hp
          obtain ⟨q1, q2, q3, q4⟩ := partB_true hp.2
          obtain ⟨a', rfl⟩ := Int.eq_ofNat_of_zero_le q2
          obtain ⟨k', rfl⟩ := Int.eq_ofNat_of_zero_le q1
          have q5 : a' + k' ≤ ys.length := by rw [Hl5.out]; omega
          have q6 : k' ≤ 8 := by have := width_cases hp.1; omega
          have L1 := load_yes w6 p g n ys a' k' HB6.out.own hp.1 q5
          have L2 := rload_yes w6 ys (some ⟨h5, 0, none⟩) d5 a' k' HB6.out.row.ints HB6.out.own.byt hp.1 q5 hsm
          rw [or_num ys a' k' q6 q5 HB6.out.own.byt] at L1
          rw [Hl5.out] at L2
          have HL1 := Lib.hid L1
          have HL2 := Lib.hid L2
          have S := same_bytes ys ys (some ⟨g6, 0, none⟩) (some ⟨h5, 0, none⟩) c6 d5 w6 HR6.out.ints HB6.out.row.ints (by rw [Hl5.out]; unfold maxLen; omega)
          rw [Hl5.out, show (ys == ys) = true by simp] at S
          have HS := Lib.hid S
          clear S L1 L2 hp q1 q2 q3 q4 q5 q6
          generalize num (sub ys a' k') = u at HL1 HL2
          have hu : (u != u) = false := by simp
          go_wp2_with fail
          refine HL1.out.mono ?_
          rintro e w' ⟨rfl, rfl⟩
          go_wp2_with fail
          refine HL2.out.mono ?_
          rintro e w' ⟨rfl, rfl⟩
          go_wp2_with fail
          refine HS.out.mono ?_
          rintro e w' ⟨rfl, nq, rfl⟩
          go_wp2_with fail
          go_roundw
          case rel => exact ⟨j + 1, h5, d5, ys, by omega, by go_num, rfl, Hl5.out, ⟨HB6.out.own.drewN nq, HB6.out.row.drewN nq, HB6.out.ne⟩, below_drewN hb6' nq⟩
          case measure => simp [intOf]; omega
      · obtain rfl : j = xs.length := by omega
        cases hp : partB n a k
        · have R1 := read_no wr p g n bs a k HB.out.own (by rw [Hlen.out]; exact hp)
          have I1 := in_calls n a k wr (by omega) (by omega)
          rw [hp] at I1
          have HR1 := Lib.hid R1
          have HI1 := Lib.hid I1
          have hle := len_calls wr p g n bs HB.out.own
          rw [Hlen.out] at hle
          have HLE := Lib.hid hle
          clear R1 I1 hp hle
          go_wp2_with fail
          refine HR1.out.mono ?_
          rintro e w' ⟨rfl, rfl⟩
          go_wp2_with fail
          refine HI1.out.mono ?_
          rintro e w' ⟨rfl, rfl⟩
          go_wp2_with fail
          refine HLE.out.mono ?_
          rintro e w' ⟨rfl, rfl⟩
          go_wp2_with fail
          go_ret
          exact ⟨rfl, HBL.out⟩
        · obtain ⟨q1, q2, q3, q4⟩ := partB_true hp
          obtain ⟨a', rfl⟩ := Int.eq_ofNat_of_zero_le q2
          obtain ⟨k', rfl⟩ := Int.eq_ofNat_of_zero_le q1
          have q5 : a' + k' ≤ bs.length := by rw [Hlen.out]; omega
          have R1 := read_yes wr p g n bs a' k' HB.out.own q5
          have I1 := in_calls n a' k' wr (by omega) (by omega)
          rw [hp] at I1
          have HR1 := Lib.hid R1
          have HI1 := Lib.hid I1
          have Hsl := Lib.hid (sub_len bs a' k' q5)
          have q7 : (a' : Int) + (k' : Int) ≤ (d : Int) := by have := Hlen.out; omega
          have q8 : a' + k' ≤ d := by omega
          clear R1 I1 hp
          go_wp2_with fail
          refine HR1.out.mono ?_
          rintro e w7 ⟨g7, c7, he, hr7, hg7, hb7⟩
          rw [Hsl.out] at he
          subst he
          have HR7 := Lib.hid hr7
          have HB7 := Lib.hid (HB.out.below hb7)
          have hb7' := below_then HBL.out hb7
          clear hr7 hb7
          have I2 := in_calls n a' k' w7 (by omega) (by omega)
          rw [show partB n a' k' = true by unfold partB; simp; omega] at I2
          have HI2 := Lib.hid I2
          have hle := len_calls (w7) p g n bs HB7.out.own
          rw [Hlen.out] at hle
          clear I2 hle HI1
          go_wp2_with fail
          refine HI2.out.mono ?_
          rintro e w' ⟨rfl, rfl⟩
          have HSub := Lib.hid (ints_sub HB7.out.row.ints a' k' q5)
          have hbs : (sub bs a' k' == sub bs a' k') = true := by simp
          by_cases hda : d = a'
          · obtain rfl : k' = 0 := by omega
            have hs0 : sub bs a' 0 = [] := by simp [sub]
            go_wp2_with fail
            refine (same_len (sub bs a' 0) [] _ _ (by rw [Hsl.out]) (by simp) _ _ _ _ _ HR7.out.ints (ints_nil _ _ _) (by rw [Hsl.out]; unfold maxLen; omega)).mono ?_
            rw [hs0]
            rintro e w' ⟨rfl, nq, rfl⟩
            have hle := len_calls (w7.drewN nq) p g n bs (HB7.out.own.drewN nq)
            rw [Hlen.out] at hle
            have HLE := Lib.hid hle
            clear hle
            go_wp2_with fail
            refine HLE.out.mono ?_
            rintro e w' ⟨rfl, rfl⟩
            go_wp2_with fail
            go_ret
            exact ⟨rfl, below_drewN hb7' nq⟩
          · go_wp2_with fail
            refine (same_len (sub bs a' k') (sub bs a' k') _ _ (by rw [Hsl.out]) (by rw [Hsl.out]) _ _ _ _ _ HR7.out.ints (by rw [Nat.zero_add] at HSub; exact HSub.out) (by rw [Hsl.out]; unfold maxLen; omega)).mono ?_
            rw [hbs]
            rintro e w' ⟨rfl, nq, rfl⟩
            have hle := len_calls (w7.drewN nq) p g n bs (HB7.out.own.drewN nq)
            rw [Hlen.out] at hle
            have HLE := Lib.hid hle
            clear hle hbs
            go_wp2_with fail
            refine HLE.out.mono ?_
            rintro e w' ⟨rfl, rfl⟩
            go_wp2_with fail
            go_ret
            exact ⟨rfl, below_drewN hb7' nq⟩
  · go_wp2_with fail
    go_ret
    exact ⟨rfl, hb1⟩
theorem calls_neg (w : World) (n : Int) (hn : n < 0) (A : Option Addr) (c : Nat) (xs : List Tell) (a k : Int) (hx : Tells w A xs) (hl : xs.length ≤ maxLen) :
    Calls Try.prog 4 #[.int .i64 n, .slice A xs.length c, .int .i64 a, .int .i64 k] w fun e w' => e = .returned (.bool true) ∧ Below w.heap.size w w' := by
  have HX := Lib.hid hx
  have HL := Lib.hid hl
  clear hx hl
  go_enter Try.func4, Try.ntmps4
  go_wp2_with fail
  refine (alive_calls _).mono ?_
  rintro e w1 ⟨rfl, hb1⟩
  go_wp2_with fail
  refine (great_calls w1 n A c xs (HX.out.below hb1) HL.out).mono ?_
  rintro e w' ⟨t, rfl, ht, rfl⟩
  clear ht
  cases t
  · go_wp2_with fail
    refine (new_no w1 n (.inl hn)).mono ?_
    rintro e w' ⟨rfl, rfl⟩
    go_wp2_with fail
    go_ret
    exact ⟨rfl, hb1⟩
  · go_wp2_with fail
    go_ret
    exact ⟨rfl, hb1⟩
theorem calls_walk (n : Int) (xs : List Tell) (A : Option Addr) (c : Nat) (a k : Int) {w : World} (hx : Tells w A xs) (hl : xs.length ≤ maxLen) :
    Calls Try.prog 4 #[.int .i64 n, .slice A xs.length c, .int .i64 a, .int .i64 k] w fun e w' => e = .returned (.bool true) ∧ Below w.heap.size w w' := by
  by_cases h : n < 0
  · exact calls_neg w n h A c xs a k hx hl
  · obtain ⟨n, rfl⟩ := Int.eq_ofNat_of_zero_le (show 0 ≤ n by omega)
    exact calls_small w n A c xs a k hx hl
end Go.Proofs.Ytknieebmcpgppaa.Cell
