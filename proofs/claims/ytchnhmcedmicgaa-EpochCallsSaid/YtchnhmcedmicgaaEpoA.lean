/- The contracts of package epoch's methods that read and write its own memory. -/
import Derived.Test.YtchnhmcedmicgaaProg
import Derived.Test.YtchnhmcedmicgaaEpoP
import Derived.Laws.Rows
import Derived.Deep.RegionHeld3
import Derived.Deep.RegionWith
import Derived.Deep.DeepCutAuto
import Derived.BigQuiet
import Derived.Outline
namespace Go.Proofs.Ytchnhmcedmicgaa.Epo
open Go.RowKit Go.Proofs.Ytchnhmcedmicgaa.Aid
abbrev VT : TypeId := 65
abbrev MT : TypeId := 118
theorem huV : Try.prog.underlying VT = some (.array 64 59) := by kernel_rfl
theorem huU : Try.prog.underlying 59 = some (.int .u64) := by kernel_rfl
theorem huI : Try.prog.underlying 3 = some (.int .i64) := by kernel_rfl
theorem huM : Try.prog.underlying MT = some (.map VT 3) := by kernel_rfl
theorem hiV : (Try.prog.info? VT).map (·.size) = some 64 := by kernel_rfl
theorem hpU : Try.prog.plainKey 59 = true := by kernel_rfl
theorem hcU : Try.prog.cellsOf 59 = 1 := by kernel_rfl
theorem keyAsV : KeyAs Try.prog VT (keL .u64) (okL .u64 64) :=
  keyL_arr (m := Try.prog.types.size - 1) (by kernel_rfl) huV huU (by kernel_rfl) (by kernel_rfl) (by kernel_rfl) (by kernel_rfl) (of_decide_eq_true (by kernel_rfl)) (by kernel_rfl)
theorem lawKV : WideMaps.KeyLaw Try.prog VT := law_of (by kernel_rfl) huV rfl (of_decide_eq_true (by kernel_rfl)) (by kernel_rfl)
theorem zero_int (w : World) : (zeroValue 3).run Try.prog w = .ok (.int .i64 0) w := by kernel_rfl
/-- The struct's cells. -/
def hdr (now : Int) (n : Nat) (v : List Int) (mb : Nat) : List Value := .int .u64 now :: .int .i64 n :: (v.map (Value.int .u64) ++ [.map (some mb)])
def g64 (r : List Int) (k : Nat) : Int := r.getD k 0
theorem hdr_at {now : Int} {n : Nat} {v : List Int} {mb k : Nat} (hk : k < v.length) : (hdr now n v mb)[2 + k]? = some (.int .u64 (g64 v k)) := by
  unfold hdr g64
  rw [show 2 + k = k + 1 + 1 by omega, List.getElem?_cons_succ, List.getElem?_cons_succ, List.getElem?_append_left (by simpa using hk)]
  simp [List.getD_eq_getElem?_getD, hk]
theorem hdr_map {now : Int} {n : Nat} {v : List Int} {mb : Nat} (hv : v.length = 64) : (hdr now n v mb)[66]? = some (.map (some mb)) := by
  unfold hdr
  rw [List.getElem?_cons_succ, List.getElem?_cons_succ, List.getElem?_append_right (by simp [hv])]
  simp [hv]
theorem hdr_set {now : Int} {n : Nat} {v : List Int} {mb k : Nat} {x : Int} (hk : k < v.length) : (hdr now n v mb).set (2 + k) (.int .u64 x) = hdr now n (v.set k x) mb := by
  unfold hdr
  rw [show 2 + k = k + 1 + 1 by omega, List.set_cons_succ, List.set_cons_succ, List.set_append_left _ _ (by simpa using hk), List.map_set]
/-- Epochs: their struct in block p, their map in block mb. -/
structure EpAt (w : World) (p mb n : Nat) (s : ERun) : Prop where
  head : Blk w p (hdr s.now n (pad s.row) mb).toArray 120
  ne : p ≠ mb
  ok : OkE n s
  map : ∃ m g, MapI w Try.prog VT 3 .i64 (keL .u64) (okL .u64 64) mb m g ∧ m ≤ s.hist.length ∧ ∀ r, (g r).getD 0 = ((s.hist.map pad).count r : Nat)
  small : s.hist.length ≤ 100000
section
variable {w w' : World} {p mb n : Nat} {s : ERun}
theorem EpAt.kept (h : EpAt w p mb n s) {F : List Nat} (k : Kept F w w') (hp : p ∉ F) (hm : mb ∉ F) : EpAt w' p mb n s := by
  obtain ⟨m, g, h1, h2⟩ := h.map
  exact ⟨h.head.kept k hp, h.ne, h.ok, ⟨m, g, h1.kept k hm, h2⟩, h.small⟩
theorem EpAt.below (h : EpAt w p mb n s) (k : Below w.heap.size w w') : EpAt w' p mb n s := by
  obtain ⟨m, g, h1, h2⟩ := h.map
  exact ⟨h.head.below k, h.ne, h.ok, ⟨m, g, h1.below k, h2⟩, h.small⟩
theorem EpAt.lt (h : EpAt w p mb n s) : p < w.heap.size ∧ mb < w.heap.size := by
  obtain ⟨m, g, h1, h2⟩ := h.map
  exact ⟨h.head.lt, h1.lt⟩
theorem EpAt.drew (h : EpAt w p mb n s) : EpAt w.drew p mb n s := ⟨h.head, h.ne, h.ok, h.map, h.small⟩
theorem EpAt.plen (h : EpAt w p mb n s) : (pad s.row).length = 64 := pad_len _ (by rw [h.ok.len]; exact h.ok.n64)
theorem EpAt.c0 (h : EpAt w p mb n s) : w.cell? ⟨p, 0, none⟩ = some (.int .u64 s.now) := h.head.cell rfl
theorem EpAt.c1 (h : EpAt w p mb n s) : w.cell? ⟨p, 1, none⟩ = some (.int .i64 (n : Int)) := h.head.cell rfl
theorem EpAt.cm (h : EpAt w p mb n s) : w.cell? ⟨p, 66, none⟩ = some (.map (some mb)) := h.head.cell (by have := hdr_map (now := s.now) (n := n) (mb := mb) h.plen; simpa using this)
theorem EpAt.ck (h : EpAt w p mb n s) {k : Nat} (hk : k < n) : w.cell? ⟨p, 2 + k, none⟩ = some (.int .u64 (g64 s.row k)) := by
  have h1 := hdr_at (now := s.now) (n := n) (v := pad s.row) (mb := mb) (k := k) (by rw [h.plen]; have := h.ok.n64; omega)
  have h2 := pad_get s.row k (by rw [h.ok.len]; exact hk)
  unfold g64 at h1 ⊢
  rw [h2] at h1
  exact h.head.cell (by simpa using h1)
theorem EpAt.range (h : EpAt w p mb n s) : w.rangeAt p 2 ((pad s.row).map (Value.int .u64)) := h.head.range fun j v hj => by
  have hl : j < (pad s.row).length := by
    have := (List.getElem?_eq_some_iff.1 hj).1
    simpa using this
  have h1 := hdr_at (now := s.now) (n := n) (mb := mb) hl
  rw [List.getElem?_map] at hj
  have h2 : (pad s.row)[j]? = some (g64 (pad s.row) j) := by simp [g64, List.getD_eq_getElem?_getD, hl]
  rw [h2] at hj
  simp at hj
  subst hj
  simpa using h1
/-- A struct whose last state is not yet counted. -/
structure EpPre (w : World) (p mb n : Nat) (s : ERun) (hs : List (List Int)) : Prop where
  head : Blk w p (hdr s.now n (pad s.row) mb).toArray 120
  ne : p ≠ mb
  ok : OkE n s
  map : ∃ m g, MapI w Try.prog VT 3 .i64 (keL .u64) (okL .u64 64) mb m g ∧ m ≤ hs.length ∧ ∀ r, (g r).getD 0 = ((hs.map pad).count r : Nat)
  hist : s.hist = hs ++ [s.row]
  small : s.hist.length ≤ 100000
theorem head_range {r : List Int} {now : Int} (_hl : (pad r).length = 64) (h : Blk w p (hdr now n (pad r) mb).toArray 120) : w.rangeAt p 2 ((pad r).map (Value.int .u64)) := h.range fun j v hj => by
  have hl : j < (pad r).length := by
    have := (List.getElem?_eq_some_iff.1 hj).1
    simpa using this
  have h1 := hdr_at (now := now) (n := n) (mb := mb) hl
  rw [List.getElem?_map] at hj
  have h2 : (pad r)[j]? = some (g64 (pad r) j) := by simp [g64, List.getD_eq_getElem?_getD, hl]
  rw [h2] at hj
  simp at hj
  subst hj
  simpa using h1
theorem head_map {r : List Int} {now : Int} (hl : (pad r).length = 64) (h : Blk w p (hdr now n (pad r) mb).toArray 120) : w.cell? ⟨p, 66, none⟩ = some (.map (some mb)) := h.cell (by have := hdr_map (now := now) (n := n) (mb := mb) hl; simpa using this)
/-- What the counting of a state meets. -/
def SeesB (w : World) (p mb : Nat) (cs : List Value) : Prop := w.cell? ⟨p, 66, none⟩ = some (.map (some mb)) ∧ w.rangeAt p 2 cs
theorem EpPre.drew {hs : List (List Int)} (h : EpPre w p mb n s hs) : EpPre w.drew p mb n s hs := ⟨h.head, h.ne, h.ok, h.map, h.hist, h.small⟩
theorem EpPre.bump {hs : List (List Int)} (h : EpPre w p mb n s hs) :
    ∃ (cs : List Value) (cn : Nat) (v0 : Value) (st : Nat) (w1 w2 : World), cs.length = 64 ∧ SeesB w.drew p mb cs ∧ SeesB w1 p mb cs ∧ SeesB w2 p mb cs ∧
      (Instr.mapEntry MT (.map (some mb)) (.agg cs.toArray)).run Try.prog w.drew = .ok (.tuple #[v0, .int .i64 st]) w1 ∧
      (Instr.lookup MT (.map (some mb)) (.agg cs.toArray) false).run Try.prog w.drew = .ok (.int .i64 (cn : Nat)) w.drew ∧
      (Instr.lookup MT (.map (some mb)) (.agg cs.toArray) false).run Try.prog w1 = .ok (.int .i64 (cn : Nat)) w1 ∧
      (Instr.entryStore MT (.map (some mb)) (.int .i64 st) (.int .i64 (IntKind.i64.wrap ((cn : Nat) + 1)))).run Try.prog w1 = .ok () w2 ∧ EpAt w2 p mb n s ∧ Kept [mb] w w2 := by
  obtain ⟨m, g, h1, h2, h3⟩ := h.map
  have hl : (pad s.row).length = 64 := pad_len _ (by rw [h.ok.len]; exact h.ok.n64)
  have hsm := h.small
  have hsl : hs.length < 100000 := by rw [h.hist] at hsm; simp at hsm; omega
  obtain ⟨v0, st, w1, e1, e2, e3, k1, hst⟩ := (show MapI w.drew Try.prog VT 3 .i64 (keL .u64) (okL .u64 64) mb m g from h1).bump keyAsV lawKV huM huI zero_int (by unfold maxLen; omega) (h.ok.wf h.small)
  have hc : (hs.map pad).count (pad s.row) ≤ hs.length := by have := List.count_le_length (l := hs.map pad) (a := pad s.row); simpa using this
  obtain ⟨w2, e4, hM, k2⟩ := hst (((hs.map pad).count (pad s.row) : Nat) + 1) (by simp [Lit.wf, IntKind.min, IntKind.max, IntKind.signed, IntKind.bits]; omega)
  rw [h3] at e2 e3
  have hP1 := h.head.kept (undrewK k1) (by simpa using h.ne)
  have hP2 := h.head.kept (undrewK k2) (by simpa using h.ne)
  refine ⟨(pad s.row).map (Value.int .u64), (hs.map pad).count (pad s.row), v0, st, w1, w2, by simp [hl], ⟨head_map hl h.head, head_range hl h.head⟩, ⟨head_map hl hP1, head_range hl hP1⟩, ⟨head_map hl hP2, head_range hl hP2⟩, e1, e2, e3, by rw [IntWalk.i64_in _ (by omega)]; exact e4, ⟨hP2, h.ne, h.ok, ⟨_, _, hM, by rw [h.hist]; simp; split <;> omega, fun r => ?_⟩, h.small⟩, undrewK k2⟩
  unfold upd
  rw [h.hist, List.map_append, List.count_append]
  by_cases e : r = pad s.row
  · subst e
    rw [if_pos rfl]
    simp
  · rw [if_neg e, h3]
    have : List.count r (List.map pad [s.row]) = 0 := List.count_eq_zero.2 (by simpa using e)
    rw [this]; rfl
theorem EpAt.look (h : EpAt w p mb n s) {r : List Int} (hr : okL .u64 64 r) : (Instr.lookup MT (.map (some mb)) (keL .u64 r) false).run Try.prog w = .ok (.int .i64 ((s.hist.map pad).count r : Nat)) w := by
  obtain ⟨m, g, h1, _, h3⟩ := h.map
  have := (h1.look keyAsV huM huI (zero_int w) hr).1
  rw [h3] at this
  exact this
end
def isW (n : Nat) (k : Int) : Bool := decide (0 ≤ k ∧ k < n)
theorem worker_calls (w : World) (p mb n : Nat) (s : ERun) (k : Int) (h : EpAt w p mb n s) :
    Calls Try.prog 73 #[.pointer (some ⟨p, 0, none⟩), .int .i64 k] w fun e w' => e = .returned (.bool (isW n k)) ∧ w = w' := by
  have c1 := h.c1
  unfold isW
  clear h
  by_cases h0 : 0 ≤ k
  · by_cases h1 : k < n
    · rw [decide_eq_true ⟨h0, h1⟩]
      go_enter Try.func73, Try.ntmps73
      go_wp2
      go_ret
      exact ⟨rfl, rfl⟩
    · rw [decide_eq_false (by omega)]
      go_enter Try.func73, Try.ntmps73
      go_wp2
      go_ret
      exact ⟨rfl, rfl⟩
  · rw [decide_eq_false (by omega)]
    go_enter Try.func73, Try.ntmps73
    go_wp2
    go_ret
    exact ⟨rfl, rfl⟩
theorem now_calls (w : World) (p mb n : Nat) (s : ERun) (h : EpAt w p mb n s) :
    Calls Try.prog 31 #[.pointer (some ⟨p, 0, none⟩)] w fun e w' => e = .returned (.int .u64 s.now) ∧ w = w' := by
  have c0 := h.c0
  clear h
  go_enter Try.func31, Try.ntmps31
  go_wp2
  go_ret
  exact ⟨rfl, rfl⟩
theorem workers_calls (w : World) (p mb n : Nat) (s : ERun) (h : EpAt w p mb n s) :
    Calls Try.prog 41 #[.pointer (some ⟨p, 0, none⟩)] w fun e w' => e = .returned (.int .i64 n) ∧ w = w' := by
  have c1 := h.c1
  clear h
  go_enter Try.func41, Try.ntmps41
  go_wp2
  go_ret
  exact ⟨rfl, rfl⟩
def seenV (n : Nat) (r : List Int) (k : Int) : Int := if 0 ≤ k ∧ k < n then g64 r k.toNat else 0
theorem seen_calls (w : World) (p mb n : Nat) (s : ERun) (k : Int) (h : EpAt w p mb n s) :
    Calls Try.prog 35 #[.pointer (some ⟨p, 0, none⟩), .int .i64 k] w fun e w' => e = .returned (.int .u64 (seenV n s.row k)) ∧ w = w' := by
  have HW := Lib.hid (worker_calls w p mb n s k h)
  unfold seenV
  by_cases hk : 0 ≤ k ∧ k < n
  · rw [if_pos hk]
    rw [show isW n k = true from decide_eq_true hk] at HW
    obtain ⟨j, rfl⟩ := Int.eq_ofNat_of_zero_le hk.1
    have c := h.ck (k := j) (by omega)
    have h64 := h.ok.n64
    have hj : (j : Int) < 64 := by omega
    rw [Int.toNat_natCast]
    clear h hk
    go_enter Try.func35, Try.ntmps35
    go_wp2_with fail
    refine HW.out.mono ?_
    rintro e w1 ⟨rfl, rfl⟩
    go_wp2_with fail
    go_ret
    exact ⟨rfl, rfl⟩
  · rw [if_neg hk]
    rw [show isW n k = false from decide_eq_false hk] at HW
    clear h hk
    go_enter Try.func35, Try.ntmps35
    go_wp2_with fail
    refine HW.out.mono ?_
    rintro e w1 ⟨rfl, rfl⟩
    go_wp2_with fail
    go_ret
    exact ⟨rfl, rfl⟩
/-- What a call that adds a state gives. -/
def Adds (p mb n : Nat) (s' : ERun) (v : Value) (w : World) (e : Ending) (w' : World) : Prop := e = .returned v ∧ EpAt w' p mb n s' ∧ Kept [p, mb] w w'
set_option maxRecDepth 8000 in
set_option maxHeartbeats 4000000 in
theorem next_calls (w : World) (p mb n : Nat) (s : ERun) (h : EpAt w p mb n s) (hs : s.hist.length < 100000) :
    Calls Try.prog 44 #[.pointer (some ⟨p, 0, none⟩)] w (Adds p mb n (nextE s) (.int .u64 (s.now + 1)) w) := by
  have c0 := h.c0
  have f0 := h.head.free 0
  have hn0 := h.ok.now0
  have hn1 := h.ok.now1
  have hw : IntKind.u64.wrap (s.now + 1) = s.now + 1 := by simp [IntKind.wrap, IntKind.bits, IntKind.signed]; omega
  have HK := Lib.hid ((Kept.refl [p, mb] w).setCell (p := ⟨p, 0, none⟩) (by simp) (.int .u64 (s.now + 1)))
  have HM := Lib.hid (show EpPre (w.setCell ⟨p, 0, none⟩ (.int .u64 (s.now + 1))) p mb n (nextE s) s.hist from by
    obtain ⟨m, g, h1, h2⟩ := h.map
    refine ⟨?_, h.ne, nextE_ok h.ok, ⟨m, g, h1.other (a := ⟨p, 0, none⟩) (Ne.symm h.ne) _, h2⟩, rfl, by simp [nextE]; omega⟩
    have := h.head.set 0 (.int .u64 (s.now + 1))
    rw [List.setIfInBounds_toArray] at this
    exact this)
  clear h hs hn0 hn1
  go_enter Try.func44, Try.ntmps44
  go_upto_region 2 with fail
  generalize w.setCell ⟨p, 0, none⟩ (.int .u64 (s.now + 1)) = w1 at HK HM ⊢
  clear c0 f0
  obtain ⟨cs, cn, v0, st, wa, wb, hcs, s0, s1, s2, e1, e2, e3, e4, hE, k2⟩ := HM.out.bump
  have hu := huV
  have hi := hiV.trans (congrArg some hcs.symm)
  have HS0 := Lib.hid s0
  have HS1 := Lib.hid s1
  have HS2 := Lib.hid s2
  have HE := Lib.hid hE
  have HK2 := Lib.hid (HK.out.trans (k2.mono (G := [p, mb]) (by simp)))
  clear hcs s0 s1 s2 hE k2 HK HM
  have hd0 := HE.out.c0
  go_cut [] (fun wc => wb = wc)
  case first =>
    go_region_held3 (fun w' => w'.cell? ⟨p, 66, none⟩ = some (.map (some mb)) ∧ w'.rangeAt p 2 cs)
      (first | exact HS0.out | exact HS1.out | exact HS2.out)
      (fail)
    all_goals (go_wp2_with fail; go_meet; exact rfl)
  case rest =>
  obtain rfl := hcut
  go_wp2_with fail
  go_ret
  exact ⟨rfl, HE.out, HK2.out⟩
theorem EpAt.pre {w : World} {p mb n : Nat} {s : ERun} (h : EpAt w p mb n s) (hs : s.hist.length < 100000) {k : Nat} (hk : k < n) (he : s.row.getD k 0 ≠ s.now) :
    EpPre (w.setCell ⟨p, 2 + k, none⟩ (.int .u64 s.now)) p mb n (stepA n s k) s.hist ∧ stepA n s k = ⟨s.now, s.row.set k s.now, s.hist ++ [s.row.set k s.now]⟩ := by
  have h1 : stepA n s k = ⟨s.now, s.row.set k s.now, s.hist ++ [s.row.set k s.now]⟩ := by
    unfold stepA ackE
    rw [if_pos (by omega), Int.toNat_natCast, if_neg he]
  have hok := stepA_ok h.ok (k : Int)
  rw [h1] at hok ⊢
  refine ⟨⟨?_, h.ne, hok, ?_, rfl, by simp; omega⟩, rfl⟩
  · have := h.head.set (2 + k) (.int .u64 s.now)
    rw [List.setIfInBounds_toArray, hdr_set (by rw [h.plen]; have := h.ok.n64; omega), pad_set _ _ _ (by rw [h.ok.len]; exact hk)] at this
    exact this
  · obtain ⟨m, g, h1, h2⟩ := h.map
    exact ⟨m, g, h1.other (a := ⟨p, 2 + k, none⟩) (Ne.symm h.ne) _, h2⟩
set_option maxRecDepth 8000 in
set_option maxHeartbeats 4000000 in
theorem ack_calls (w : World) (p mb n : Nat) (s : ERun) (k : Int) (h : EpAt w p mb n s) (hs : s.hist.length < 100000) :
    Calls Try.prog 43 #[.pointer (some ⟨p, 0, none⟩), .int .i64 k] w (Adds p mb n (stepA n s k) (.int .i64 (ackE n s k).1) w) := by
  have HW := Lib.hid (worker_calls w p mb n s k h)
  have HH := Lib.hid h
  by_cases hk : 0 ≤ k ∧ k < n
  · rw [show isW n k = true from decide_eq_true hk] at HW
    obtain ⟨j, rfl⟩ := Int.eq_ofNat_of_zero_le hk.1
    have hjn : j < n := by omega
    have c := h.ck hjn
    have c0 := h.c0
    have h64 := h.ok.n64
    have hj : (j : Int) < 64 := by omega
    by_cases he : s.row.getD j 0 = s.now
    · have h1 : stepA n s j = s := by unfold stepA ackE; rw [if_pos (by omega), Int.toNat_natCast, if_pos he]; try rfl
      have h2 : (ackE n s j).1 = 15 := by unfold ackE; rw [if_pos (by omega), Int.toNat_natCast, if_pos he]
      rw [h1, h2]
      unfold g64 at c
      rw [he] at c
      clear h hk hs h1 h2 he h64
      go_enter Try.func43, Try.ntmps43
      go_wp2_with fail
      refine HW.out.mono ?_
      rintro e w1 ⟨rfl, rfl⟩
      go_wp2_with fail
      go_region_held3 (fun w' => w'.cell? ⟨p, 2 + j, none⟩ = some (.int .u64 s.now) ∧ w'.cell? ⟨p, 0, none⟩ = some (.int .u64 s.now)) (exact ⟨c, c0⟩) (fail)
      go_wp2_with fail
      go_ret
      exact ⟨rfl, HH.out.drew, undrewK (Kept.refl _ _)⟩
    · have h2 : (ackE n s j).1 = 0 := by unfold ackE; rw [if_pos (by omega), Int.toNat_natCast, if_neg he]
      have HP := Lib.hid (h.pre hs hjn he)
      rw [h2]
      have HK := Lib.hid ((Kept.refl [p, mb] w).setCell (p := ⟨p, 2 + j, none⟩) (by simp) (.int .u64 s.now))
      have hne : g64 s.row j ≠ s.now := he
      have hf := h.head.free (2 + j)
      clear h hk hs h2 he h64
      go_enter Try.func43, Try.ntmps43
      go_wp2_with fail
      refine HW.out.mono ?_
      rintro e w1 ⟨rfl, rfl⟩
      go_wp2_with fail
      go_region_held3 (fun w' => w'.cell? ⟨p, 2 + j, none⟩ = some (.int .u64 (g64 s.row j)) ∧ w'.cell? ⟨p, 0, none⟩ = some (.int .u64 s.now)) (exact ⟨c, c0⟩) (fail)
      go_wp2_with fail
      have d0 := Lib.hid (show (w.setCell ⟨p, 2 + j, none⟩ (.int .u64 s.now)).cell? ⟨p, 0, none⟩ = some (.int .u64 s.now) from by rw [HP.out.2] at HP; exact HP.out.1.head.cell (o := 0) rfl)
      go_region_held3 (fun w' => w'.cell? ⟨p, 0, none⟩ = some (.int .u64 s.now) ∧ w'.frozen? ⟨p, 2 + j, none⟩ = false) (first | exact ⟨c0, hf⟩ | exact ⟨d0.out, HP.out.1.head.free (2 + j)⟩) (fail)
      go_wp2_with fail
      have HP1 := Lib.hid HP.out.1.drew.drew
      have HK1 := Lib.hid (HK.out.drew.drew)
      generalize (w.setCell ⟨p, 2 + j, none⟩ (.int .u64 s.now)).drew.drew = w1 at HP1 HK1 ⊢
      clear d0 HP HK c c0 hf hne HH
      obtain ⟨cs, cn, v0, st, wa, wb, hcs, s0, s1, s2, e1, e2, e3, e4, hE, k2⟩ := HP1.out.bump
      have hu := huV
      have hi := hiV.trans (congrArg some hcs.symm)
      have HS0 := Lib.hid s0
      have HS1 := Lib.hid s1
      have HS2 := Lib.hid s2
      have HE := Lib.hid hE
      have HK2 := Lib.hid (HK1.out.trans (k2.mono (G := [p, mb]) (by simp)))
      clear hcs s0 s1 s2 hE k2 HK1 HP1
      go_cut [] (fun wc => wb = wc)
      case first =>
        go_region_held3 (fun w' => w'.cell? ⟨p, 66, none⟩ = some (.map (some mb)) ∧ w'.rangeAt p 2 cs)
          (first | exact HS0.out | exact HS1.out | exact HS2.out)
          (fail)
        all_goals (go_wp2_with fail; go_meet; exact rfl)
      case rest =>
      obtain rfl := hcut
      go_wp2_with fail
      go_ret
      exact ⟨rfl, HE.out, HK2.out⟩
  · rw [show isW n k = false from decide_eq_false hk] at HW
    have h1 : stepA n s k = s := by unfold stepA ackE; rw [if_neg hk]; try rfl
    have h2 : (ackE n s k).1 = 11 := by unfold ackE; rw [if_neg hk]
    rw [h1, h2]
    clear h hk h1 h2 hs
    go_enter Try.func43, Try.ntmps43
    go_wp2_with fail
    refine HW.out.mono ?_
    rintro e w1 ⟨rfl, rfl⟩
    go_wp2_with fail
    go_ret
    exact ⟨rfl, HH.out, Kept.refl _ _⟩
end Go.Proofs.Ytchnhmcedmicgaa.Epo
