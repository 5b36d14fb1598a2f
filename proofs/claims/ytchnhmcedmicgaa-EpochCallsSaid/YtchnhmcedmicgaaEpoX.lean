/- The walk of EpochRises: it returns true. -/
import Derived.Test.YtchnhmcedmicgaaEpoW
namespace Go.Proofs.Ytchnhmcedmicgaa.Epo
open Go.RowKit Go.Proofs.Ytchnhmcedmicgaa.Aid
/-- What the law holds on to while it calls: both epochs, and what else stands. -/
structure Run1 (w0 w : World) (p mb rp sb c n : Nat) (s : ERun) : Prop where
  both : Both w p mb rp sb c n s
  mine : w0.heap.size ≤ p ∧ w0.heap.size ≤ mb ∧ w0.heap.size ≤ rp ∧ w0.heap.size ≤ sb
  below : Below w0.heap.size w0 w
theorem Run1.next {w0 w w' : World} {p mb rp sb c n : Nat} {s s' : ERun} (h : Run1 w0 w p mb rp sb c n s) (k : DoLeaves p mb rp sb n s' w w') : ∃ sb' c', Run1 w0 w' p mb rp sb' c' n s' := by
  obtain ⟨sb', c', h1, h2, h3⟩ := k
  obtain ⟨m1, m2, m3, m4⟩ := h.mine
  have hz := h.below.size
  refine ⟨sb', c', h1, ⟨m1, m2, m3, by rcases h3 with h3 | h3 <;> omega⟩, below_kept h.below h2 hz (by simp; omega)⟩
theorem Run1.on {w0 w w' : World} {p mb rp sb c n : Nat} {s : ERun} (h : Run1 w0 w p mb rp sb c n s) (k : Below w.heap.size w w') : Run1 w0 w' p mb rp sb c n s := ⟨h.both.below k, h.mine, below_then h.below k⟩
/-- The beginning of each of the three laws. -/
theorem begun_run {w0 w1 w2 w3 : World} {p mb rp sb n : Nat} (hb1 : Below w0.heap.size w0 w1) (hE : EpAt w2 p mb n (run0 n)) (hp : w1.heap.size ≤ p) (hm : w1.heap.size ≤ mb) (hb2 : Below w1.heap.size w1 w2)
    (hR : RefAt w3 rp sb 1 [p, mb] n 0 (run0 n).hist) (hrp : w2.heap.size ≤ rp) (hsb : w2.heap.size ≤ sb) (hb3 : Below w2.heap.size w2 w3) : Run1 w0 w3 p mb rp sb 1 n (run0 n) := by
  have h1 := hb1.size
  have h2 := hb2.size
  have h3 := hE.lt
  exact ⟨⟨hE.below hb3, hR, by omega, by omega⟩, by omega, below_then (below_then hb1 hb2) hb3⟩
/-- What stands beside: a clone, and an array. -/
structure Side (w : World) (p mb rp sb p2 mb2 q n : Nat) (s : ERun) (r : List Int) : Prop where
  e : EpAt w p2 mb2 n s
  v : Blk w q ((pad r).map (Value.int .u64)).toArray VT
  a1 : p2 ≠ p ∧ p2 ≠ mb ∧ p2 ≠ rp ∧ p2 ≠ sb
  a2 : mb2 ≠ p ∧ mb2 ≠ mb ∧ mb2 ≠ rp ∧ mb2 ≠ sb
  a3 : q ≠ p ∧ q ≠ mb ∧ q ≠ rp ∧ q ≠ sb
theorem Side.on {w w' : World} {p mb rp sb p2 mb2 q n : Nat} {s : ERun} {r : List Int} (h : Side w p mb rp sb p2 mb2 q n s r) (k : Below w.heap.size w w') : Side w' p mb rp sb p2 mb2 q n s r := ⟨h.e.below k, h.v.below k, h.a1, h.a2, h.a3⟩
theorem Side.next {w w' : World} {p mb rp sb sb' p2 mb2 q n : Nat} {s : ERun} {r : List Int} (h : Side w p mb rp sb p2 mb2 q n s r) (k : Kept [p, mb, rp, sb] w w') (hl : sb' = sb ∨ w.heap.size ≤ sb') : Side w' p mb rp sb' p2 mb2 q n s r := by
  have l1 := h.e.lt
  have l2 := h.v.lt
  obtain ⟨a, b, c, d⟩ := h.a1
  obtain ⟨a', b', c', d'⟩ := h.a2
  obtain ⟨a'', b'', c'', d''⟩ := h.a3
  exact ⟨h.e.kept k (by simp [a, b, c, d]) (by simp [a', b', c', d']), h.v.kept k (by simp [a'', b'', c'', d'']), ⟨a, b, c, by rcases hl with e | e; (rw [e]; exact d); omega⟩, ⟨a', b', c', by rcases hl with e | e; (rw [e]; exact d'); omega⟩, ⟨a'', b'', c'', by rcases hl with e | e; (rw [e]; exact d''); omega⟩⟩
theorem step_rises {n : Nat} {s : ERun} (h : OkE n s) (c : Int) (k : Nat) (hk : k < n) : g64 s.row k ≤ g64 (stepE n s c).row k ∧ g64 (stepE n s c).row k ≤ (stepE n s c).now := by
  have hb : ∀ j, j < n → g64 s.row j ≤ s.now := fun j hj => (h.below _ (by
    unfold g64
    rw [List.getD_eq_getElem?_getD, List.getElem?_eq_getElem (by rw [h.len]; exact hj)]
    simp)).2
  unfold stepE
  split
  · have := hb k hk
    exact ⟨Int.le_refl _, by simp only [nextE]; omega⟩
  · unfold stepA ackE
    by_cases hc : 0 ≤ c ∧ c < n
    · rw [if_pos hc]
      by_cases he : s.row.getD c.toNat 0 = s.now
      · rw [if_pos he]
        exact ⟨Int.le_refl _, hb k hk⟩
      · rw [if_neg he]
        have h3 := hb k hk
        show g64 s.row k ≤ g64 (s.row.set c.toNat s.now) k ∧ g64 (s.row.set c.toNat s.now) k ≤ s.now
        unfold g64 at h3 ⊢
        simp only [List.getD_eq_getElem?_getD, List.getElem?_set]
        by_cases e : c.toNat = k
        · rw [if_pos e, if_pos (by rw [h.len]; omega)]
          rw [List.getD_eq_getElem?_getD] at h3
          exact ⟨h3, Int.le_refl _⟩
        · rw [if_neg e]
          rw [List.getD_eq_getElem?_getD] at h3
          exact ⟨Int.le_refl _, h3⟩
    · rw [if_neg hc]
      exact ⟨Int.le_refl _, hb k hk⟩
set_option maxHeartbeats 8000000 in
set_option maxRecDepth 8000 in
attribute [-go_sem] Instr.storeAt in
theorem rises_yes (w : World) (n : Nat) (A : Option Addr) (ca : Nat) (xs : List Int) (B : Option Addr) (cb : Nat) (ys : List Int) (hx : Ints w .i64 A xs) (hy : Ints w .i64 B ys) (h1 : 1 ≤ n) (h2 : n ≤ 64) (hl : ¬ 200 < (xs.length : Int)) (hm : ¬ 200 < (ys.length : Int)) :
    Calls Try.prog 7 #[.int .i64 n, .slice A xs.length ca, .slice B ys.length cb] w fun e w' => e = .returned (.bool true) ∧ Below w.heap.size w w' := by
  have HX := Lib.hid hx
  have HY := Lib.hid hy
  have HN := Lib.hid (And.intro h1 h2)
  clear hx hy
  go_enter Try.func7, Try.ntmps7
  go_wp2_with fail
  refine (alive_calls w).mono ?_
  rintro e w1 ⟨rfl, hb1⟩
  go_wp2_with fail
  refine (new_yes w1 n h1 h2).mono ?_
  rintro e w2 ⟨p, mb, rfl, hE, hp, hm2, hb2⟩
  go_wp2_with fail
  refine (rnew_yes w2 n [p, mb] h1 h2 (by have := hE.lt; simp; omega)).mono ?_
  rintro e w3 ⟨rp, sb, rfl, hR, hrp, hsb, hb3⟩
  have H0 := Lib.hid (begun_run hb1 hE hp hm2 hb2 hR hrp hsb hb3)
  clear hb1 hE hp hm2 hb2 hR hrp hsb hb3
  go_wp2_with fail
  go_loopw [11] (fun i wr => ∃ (j : Nat) (s : ERun) (sb c : Nat), j ≤ xs.length ∧ i = .int .i64 j ∧ Run1 w wr p mb rp sb c n s ∧ s.hist.length ≤ j + 1) (fun i _ => xs.length - (intOf i).toNat)
  case atStart => exact ⟨0, run0 n, sb, 1, by omega, rfl, H0.out, by simp [run0]⟩
  case round =>
    obtain ⟨j, s, sb, c, hj, rfl, hr, hs⟩ := hrel
    have HR := Lib.hid hr
    have Hs := Lib.hid hs
    clear hr hs H0
    by_cases hlt : j < xs.length
    · obtain ⟨b, o, rfl, hlb, ck⟩ := HX.out.below HR.out.below j hlt
      have hj0 : (0 : Int) ≤ (j : Int) := by omega
      have hj1 : (j : Int) < (xs.length : Int) := by omega
      generalize xs.getD j 0 = x at ck
      have HD := Lib.hid (do_calls wr p mb rp sb c n s x HR.out.both (by have := Hs.out; omega))
      have HL := Lib.hid (stepE_len n s x)
      go_wp2_with fail
      refine HD.out.mono ?_
      rintro e w4 ⟨rfl, hd⟩
      obtain ⟨sb', c', hr'⟩ := HR.out.next hd
      have HR' := Lib.hid hr'
      clear hd hr'
      go_wp2_with fail
      go_roundw
      case rel => exact ⟨j + 1, stepE n s x, sb', c', by omega, by go_num, HR'.out, by have := HL.out; have := Hs.out; omega⟩
      case measure => simp [intOf]; omega
    · obtain rfl : j = xs.length := by omega
      go_wp2_with fail
      refine (clone_calls _ p mb n s HR.out.both.e).mono ?_
      rintro e w5 ⟨p2, mb2, rfl, hC, hp2, hm2, hb5⟩
      go_wp2_with fail
      refine (vector_calls w5 p2 mb2 n s hC).mono ?_
      rintro e w6 ⟨rfl, hb6⟩
      obtain ⟨w7, e7, hQ, hb7⟩ := laid w6 s.row (pad_len _ (by rw [HR.out.both.e.ok.len]; exact h2))
      have hC7 := (hC.below hb6).below hb7
      have HS := Lib.hid (show Side w7 p mb rp sb p2 mb2 w6.heap.size n s s.row from by
        have l1 := HR.out.both.e.lt
        have l2 := HR.out.both.r.lt
        have z5 := hb5.size
        have z6 := hb6.size
        exact ⟨hC7, hQ, by omega, by omega, by omega⟩)
      have HR7 := Lib.hid (((HR.out.on hb5).on hb6).on hb7)
      clear hC hp2 hm2 hb5 hb6 hb7 hQ hC7 HR
      unfold zeros at e7
      go_upto_region 17 with fail
      generalize w6.heap.size = q at HS ⊢
      clear e7
      go_wp2_with fail
      refine (now_calls w7 p2 mb2 n s HS.out.e).mono ?_
      rintro e w8 ⟨rfl, rfl⟩
      go_wp2_with fail
      go_loopw [15] (fun i wr => ∃ (k : Nat) (t : ERun) (sb c : Nat), k ≤ ys.length ∧ i = .int .i64 k ∧ Run1 w wr p mb rp sb c n t ∧ t.hist.length ≤ xs.length + 1 + k ∧ Side wr p mb rp sb p2 mb2 q n s s.row) (fun i _ => ys.length - (intOf i).toNat)
      case atStart => exact ⟨0, s, sb, c, by omega, rfl, HR7.out, by have := Hs.out; omega, HS.out⟩
      case round =>
        obtain ⟨k, t, sb, c, hk, rfl, hr, ht, hS⟩ := hrel
        have HR := Lib.hid hr
        have HT := Lib.hid ht
        have HSd := Lib.hid hS
        clear hr ht hS HR7 HS Hs
        by_cases hlt : k < ys.length
        · obtain ⟨b, o, rfl, hlb, ck⟩ := HY.out k hlt
          have hk0 : (0 : Int) ≤ (k : Int) := by omega
          have hk1 : (k : Int) < (ys.length : Int) := by omega
          generalize ys.getD k 0 = x at ck
          go_wp2_with fail
          refine (vector_calls wr p mb n t HR.out.both.e).mono ?_
          rintro e w9 ⟨rfl, hb9⟩
          obtain ⟨w10, e10, hQ, hb10⟩ := laid w9 t.row (pad_len _ (by rw [HR.out.both.e.ok.len]; exact h2))
          have HR10 := Lib.hid ((HR.out.on hb9).on hb10)
          have HS10 := Lib.hid ((HSd.out.on hb9).on hb10)
          have HQ := Lib.hid hQ
          have HA := Lib.hid (show w9.heap.size ≠ p ∧ w9.heap.size ≠ mb ∧ w9.heap.size ≠ rp ∧ w9.heap.size ≠ sb from by
            have l1 := HR.out.both.e.lt
            have l2 := HR.out.both.r.lt
            have z9 := hb9.size
            omega)
          have ck10 := (HR10.out.below.cell (p := ⟨b, _, none⟩) hlb).trans ck
          clear hb9 hb10 hQ HR HSd ck
          unfold zeros at e10
          go_upto_region 22 with fail
          generalize w9.heap.size = g at HQ HA ⊢
          clear e10
          have HD := Lib.hid (do_calls w10 p mb rp sb c n t x HR10.out.both (by have := HT.out; omega))
          have HL := Lib.hid (stepE_len n t x)
          have HTl := Lib.hid HR10.out.both.e.ok.len
          have HRi := Lib.hid (step_rises HR10.out.both.e.ok x)
          go_wp2_with fail
          refine HD.out.mono ?_
          rintro e w11 ⟨rfl, hd⟩
          have hq11 : Blk w11 g ((pad t.row).map (Value.int .u64)).toArray VT := by
            obtain ⟨sb', c', _, k2, _⟩ := hd
            exact HQ.out.kept k2 (by have := HA.out; simp [this.1, this.2.1, this.2.2.1, this.2.2.2])
          obtain ⟨sb', c', hd1, hd2, hd3⟩ := hd
          have HS11 := Lib.hid (HS10.out.next hd2 hd3)
          have HR11 := Lib.hid (show Run1 w w11 p mb rp sb' c' n (stepE n t x) from ⟨hd1, ⟨HR10.out.mine.1, HR10.out.mine.2.1, HR10.out.mine.2.2.1, by have h4 := HR10.out.mine.2.2.2; have h5 := HR10.out.below.size; rcases hd3 with h | h <;> omega⟩, below_kept HR10.out.below hd2 HR10.out.below.size (by have := HR10.out.mine; simp; omega)⟩)
          have HQ11 := Lib.hid hq11
          clear hd1 hd2 hd3 hq11 HD HS10 HR10 HQ
          go_wp2_with fail
          generalize hT : stepE n t x = t' at HR11 HL HRi ⊢
          clear hT
          go_loopw [17] (fun i wq => ∃ m : Nat, m ≤ n ∧ i = .int .i64 m ∧ Below w11.heap.size w11 wq) (fun i _ => n - (intOf i).toNat)
          case atStart => exact ⟨0, by omega, rfl, Below.refl _ _⟩
          case round =>
            obtain ⟨m, hm', rfl, hbm⟩ := hrel
            have HBm := Lib.hid hbm
            clear hbm
            by_cases hmn : m < n
            · have hm0 : (0 : Int) ≤ (m : Int) := by omega
              have hm1 : (m : Int) < (n : Int) := by omega
              have hm2' : (m : Int) < 64 := by omega
              have hE := HR11.out.both.e.below HBm.out
              have hpl : (pad t.row).length = 64 := pad_len _ (by rw [HTl.out]; exact h2)
              have x0 : wr.cell? ⟨g, m, none⟩ = some (.int .u64 (g64 (pad t.row) m)) := (HQ11.out.below HBm.out).cell (by simp [g64, List.getD_eq_getElem?_getD, hpl, show m < 64 by omega])
              rw [show g64 (pad t.row) m = g64 t.row m from pad_get _ _ (by rw [HTl.out]; exact hmn)] at x0
              have HSe := Lib.hid (seen_calls wr.drew p mb n t' m hE.drew)
              rw [show seenV n t'.row m = g64 t'.row m from by unfold seenV; rw [if_pos ⟨hm0, hm1⟩, Int.toNat_natCast]] at HSe
              have HNo := Lib.hid (now_calls wr.drew p mb n t' hE.drew)
              obtain ⟨r1, r2⟩ := HRi.out m hmn
              have R1 := Lib.hid (show decide (g64 t'.row m < g64 t.row m) = false from by simpa using r1)
              have R2 := Lib.hid (show decide (t'.now < g64 t'.row m) = false from by simpa using r2)
              clear hE hpl r1 r2
              generalize g64 t'.row m = sn at HSe R1 R2
              generalize g64 t.row m = od at x0 R1
              go_wp2_with fail
              have r1' := R1.out
              have r2' := R2.out
              go_region_held3 (fun w' => w'.cell? ⟨g, m, none⟩ = some (.int .u64 od)) (first | exact x0)
                ((first | (go_at_call 35; (with_reducible refine (Calls.mono HSe.out ?_)); rintro e w12 ⟨rfl, rfl⟩) | (go_at_call 31; (with_reducible refine (Calls.mono HNo.out ?_)); rintro e w12 ⟨rfl, rfl⟩)))
              go_wp2_with fail
              go_roundw
              case rel => exact ⟨m + 1, by omega, by go_num, HBm.out.drew⟩
              case measure => simp [intOf]; omega
            · obtain rfl : m = n := by omega
              go_wp2_with fail
              go_roundw
              case rel => exact ⟨k + 1, t', sb', c', by omega, by go_num, HR11.out.on HBm.out, by have := HL.out; have := HT.out; omega, HS11.out.on HBm.out⟩
              case measure => simp [intOf]; omega
        · obtain rfl : k = ys.length := by omega
          go_wp2_with fail
          have hlr : (pad s.row).length = 64 := pad_len _ (by rw [HSd.out.e.ok.len]; exact h2)
          have HV := Lib.hid (vector_calls wr.drew p2 mb2 n s HSd.out.e.drew)
          have HNw := Lib.hid (fun (w' : World) (hb : Below wr.drew.heap.size wr.drew w') => now_calls w' p2 mb2 n s (HSd.out.e.drew.below hb))
          have HRg := Lib.hid (fun (w' : World) (hb : Below wr.drew.heap.size wr.drew w') => (show w'.rangeAt q 0 ((pad s.row).map (Value.int .u64)) from ((show Blk wr.drew q _ VT from HSd.out.v).below hb).range fun j v hj => by rw [Nat.zero_add]; simpa using hj))
          have hel : ((pad s.row).map (Value.int .u64)).length = 64 := by simp [hlr]
          have heq : ∀ w : World, (Op.equalIn 10000 VT (.agg ((pad s.row).map (Value.int .u64)).toArray) (.agg ((pad s.row).map (Value.int .u64)).toArray)).run Try.prog w = .ok true w := fun w => by
            have := eq_nums (P := Try.prog) (T := VT) (q := .u64) (n := 64) huV huU hcU hpU (pad s.row) (pad s.row) hlr hlr w
            rw [show (pad s.row == pad s.row) = true from by simp] at this
            exact this
          unfold vv keL at HV
          generalize (pad s.row).map (Value.int .u64) = cs at HV HRg hel heq
          have hu := huV
          have hi := hiV.trans (congrArg some hel.symm)
          have hrg := HRg.out _ (Below.refl _ _)
          clear hel hlr
          go_region_held3 (fun w' => w'.rangeAt q 0 cs) (first | exact hrg | exact hrg1)
            ((first | (go_at_call 32; (with_reducible refine (Calls.mono HV.out ?_)); rintro e w12 ⟨rfl, hb12⟩; have hrg1 := HRg.out _ hb12; have HB12 := Lib.hid hb12; clear hb12) | (go_at_call 31; (with_reducible refine (Calls.mono (HNw.out _ HB12.out) ?_)); rintro e w13 ⟨rfl, rfl⟩)))
          go_wp2_with fail
          go_ret
          exact ⟨by simp, below_then HR.out.below (show Below wr.heap.size wr _ from undrew HB12.out)⟩
end Go.Proofs.Ytchnhmcedmicgaa.Epo
