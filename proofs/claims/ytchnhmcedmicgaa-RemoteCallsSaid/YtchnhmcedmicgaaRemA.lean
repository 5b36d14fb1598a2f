/- Workers' queues in memory, and the contracts of package remote's methods that read. -/
import Derived.Test.YtchnhmcedmicgaaProg
import Derived.Test.YtchnhmcedmicgaaRemP
import Derived.Test.YtchnhmcedmicgaaAidRec
import Derived.Laws.Rows
import Derived.Deep.RegionHeld3
import Derived.Deep.RegionWith
import Derived.Deep.DeepCutAuto
import Derived.BigQuiet
import Derived.Outline
namespace Go.Proofs.Ytchnhmcedmicgaa.Rem
open Go.RowKit Go.Proofs.Ytchnhmcedmicgaa.Aid
abbrev QT : TypeId := 134
abbrev IT : TypeId := 92
abbrev PT : TypeId := 130
theorem huW : Try.prog.underlying 86 = some (.map 3 3) := by kernel_rfl
theorem huS : Try.prog.underlying 132 = some (.map PT 3) := by kernel_rfl
theorem huI : Try.prog.underlying 3 = some (.int .i64) := by kernel_rfl
theorem huP : ∃ f0 f1 : Field, Try.prog.underlying PT = some (.struct #[f0, f1]) ∧ f0.offset = 0 ∧ f1.offset = 1 ∧ f0.type = 3 ∧ f1.type = 3 ∧ (#[f0, f1].all (·.name != "_")) = true := ⟨_, _, Try.underlying130, rfl, rfl, rfl, rfl, by kernel_rfl⟩
theorem keyAsI : KeyAs Try.prog 3 (keI .i64) (okI .i64) := keyI huI
theorem keyAsP : KeyAs Try.prog PT (keL .i64) (okL .i64 2) := by
  obtain ⟨f0, f1, h, o0, o1, t0, t1, hn⟩ := huP
  have c : Try.prog.cellsOf 3 = 1 := by kernel_rfl
  exact keyL_st2 (m := Try.prog.types.size - 1) (by kernel_rfl) h (by rw [t0]; exact huI) (by rw [t1]; exact huI) o0 o1 (by rw [t0]; exact c) (by rw [t1]; exact c) hn (by kernel_rfl) (by kernel_rfl) (by kernel_rfl) (of_decide_eq_true (by kernel_rfl)) (by kernel_rfl)
theorem lawKP : WideMaps.KeyLaw Try.prog PT := by
  obtain ⟨f0, f1, h, _⟩ := huP
  exact law_of (by kernel_rfl) h rfl (of_decide_eq_true (by kernel_rfl)) (by kernel_rfl)
theorem zero_int (w : World) : (zeroValue 3).run Try.prog w = .ok (.int .i64 0) w := by kernel_rfl
theorem infoI : (Try.prog.info? IT).map (fun i => (i.zero, i.size, i.bytes)) = some (some (.agg #[.int .i64 0, .int .i64 0, .int .i64 0]), 3, 24) := by kernel_rfl
theorem sizeI : (Try.prog.info? IT).map (·.size) = some 3 := by kernel_rfl
/-- An item's cells. -/
def encI (x : It) : List Value := [.int .i64 x.frm, .int .i64 x.at_, .int .i64 x.seq]
theorem encI_len (x : It) : (encI x).length = 3 := rfl
theorem encI_one (x : It) : ∀ v ∈ encI x, v.oneCell' = true := by
  intro v hv
  simp [encI] at hv
  rcases hv with rfl | rfl | rfl <;> rfl
/-- Where the parts lie. -/
structure Parts (w : World) (p : Nat) (F : List Nat) (n m : Nat) (s : QRun) (rb wb sb : Nat) (hs : List Value) : Prop where
  head : Blk w p #[.slice (some ⟨rb, 0, none⟩) n n, .map (some wb), .map (some sb)] QT
  rows : Row w 100 rb n hs
  hlen : hs.length = n
  each : ∀ k hd, hs[k]? = some hd → Hdr encI 3 w IT hd (row s k)
  apart : ∀ (j k : Nat) hj hk (g : Nat), hs[j]? = some hj → hs[k]? = some hk → hj.ownBlock = some g → hk.ownBlock = some g → j = k
  out : ∀ (k : Nat) hd (g : Nat), hs[k]? = some hd → hd.ownBlock = some g → g ∈ F ∧ g ≠ p ∧ g ≠ rb ∧ g ≠ wb ∧ g ≠ sb
  whr : MapI w Try.prog 3 3 .i64 (keI .i64) (okI .i64) wb (total s) (whrI s)
  sent : ∃ m' g, m' ≤ m ∧ MapI w Try.prog PT 3 .i64 (keL .i64) (okL .i64 2) sb m' g ∧ ∀ f t, (g [f, t]).getD 0 = s.sent f t
  ins : p ∈ F ∧ rb ∈ F ∧ wb ∈ F ∧ sb ∈ F
  ne : p ≠ rb ∧ p ≠ wb ∧ p ≠ sb ∧ rb ≠ wb ∧ rb ≠ sb ∧ wb ≠ sb
  flt : ∀ x ∈ F, x < w.heap.size
/-- Queues: their struct in block p, all their blocks in F. -/
structure QAt (w : World) (p : Nat) (F : List Nat) (n m : Nat) (s : QRun) : Prop where
  ok : OkQ n s m
  small : m ≤ 100000
  ex : ∃ rb wb sb hs, Parts w p F n m s rb wb sb hs
section
variable {w w' : World} {p n m : Nat} {F : List Nat} {s : QRun} {rb wb sb : Nat} {hs : List Value}
theorem Parts.same (h : Parts w p F n m s rb wb sb hs) (hz : w.heap.size ≤ w'.heap.size) (hb : ∀ i, i < w.heap.size → i ∈ F → w'.heap[i]? = w.heap[i]?) : Parts w' p F n m s rb wb sb hs := by
  obtain ⟨i1, i2, i3, i4⟩ := h.ins
  obtain ⟨m', g, s1, s2, s3⟩ := h.sent
  exact ⟨(hb p h.head.lt i1).trans h.head, h.rows.block (hb rb h.rows.lt i2), h.hlen, fun k hd hk => (h.each k hd hk).same fun g hg => hb g ((h.each k hd hk).lt hg) (h.out k hd g hk hg).1, h.apart, h.out, h.whr.block (hb wb h.whr.lt i3), ⟨m', g, s1, s2.block (hb sb s2.lt i4), s3⟩, h.ins, h.ne, fun x hx => Nat.lt_of_lt_of_le (h.flt x hx) hz⟩
theorem QAt.kept (h : QAt w p F n m s) {G : List Nat} (k : Kept G w w') (hF : ∀ x ∈ F, x ∉ G) : QAt w' p F n m s := by
  obtain ⟨rb, wb, sb, hs, h1⟩ := h.ex
  exact ⟨h.ok, h.small, rb, wb, sb, hs, h1.same k.size fun i hi hF' => k.block i hi (hF i hF')⟩
theorem QAt.below (h : QAt w p F n m s) (k : Below w.heap.size w w') : QAt w' p F n m s := by
  obtain ⟨rb, wb, sb, hs, h1⟩ := h.ex
  exact ⟨h.ok, h.small, rb, wb, sb, hs, h1.same k.size fun i hi _ => k.block i hi⟩
theorem QAt.flt (h : QAt w p F n m s) : ∀ x ∈ F, x < w.heap.size := by
  obtain ⟨rb, wb, sb, hs, h1⟩ := h.ex
  exact h1.flt
theorem QAt.drew (h : QAt w p F n m s) : QAt w.drew p F n m s := h.below (Below.refl _ _).drew
theorem Parts.c0 (h : Parts w p F n m s rb wb sb hs) : w.cell? ⟨p, 0, none⟩ = some (.slice (some ⟨rb, 0, none⟩) n n) := h.head.cell rfl
theorem Parts.c1 (h : Parts w p F n m s rb wb sb hs) : w.cell? ⟨p, 1, none⟩ = some (.map (some wb)) := h.head.cell rfl
theorem Parts.c2 (h : Parts w p F n m s rb wb sb hs) : w.cell? ⟨p, 2, none⟩ = some (.map (some sb)) := h.head.cell rfl
theorem Parts.hd (h : Parts w p F n m s rb wb sb hs) {k : Nat} (hk : k < n) : ∃ hd, hs[k]? = some hd ∧ w.cell? ⟨rb, k, none⟩ = some hd ∧ Hdr encI 3 w IT hd (row s k) := by
  have hk' : k < hs.length := by rw [h.hlen]; exact hk
  refine ⟨hs[k], List.getElem?_eq_getElem hk', ?_, h.each k _ (List.getElem?_eq_getElem hk')⟩
  rw [h.rows.cell hk', List.getElem?_eq_getElem hk']
end
def isW (n : Nat) (k : Int) : Bool := decide (0 ≤ k ∧ k < n)
set_option maxRecDepth 8000 in
theorem worker_calls (w : World) (p : Nat) (F : List Nat) (n m : Nat) (s : QRun) (k : Int) (h : QAt w p F n m s) :
    Calls Try.prog 80 #[.pointer (some ⟨p, 0, none⟩), .int .i64 k] w fun e w' => e = .returned (.bool (isW n k)) ∧ w = w' := by
  obtain ⟨rb, wb, sb, hs, hP⟩ := h.ex
  have c0 := hP.c0
  unfold isW
  clear h hP
  by_cases h0 : 0 ≤ k
  · by_cases h1 : k < n
    · rw [decide_eq_true ⟨h0, h1⟩]
      go_enter Try.func80, Try.ntmps80
      go_wp2
      go_ret
      exact ⟨rfl, rfl⟩
    · rw [decide_eq_false (by omega)]
      go_enter Try.func80, Try.ntmps80
      go_wp2
      go_ret
      exact ⟨rfl, rfl⟩
  · rw [decide_eq_false (by omega)]
    go_enter Try.func80, Try.ntmps80
    go_wp2
    go_ret
    exact ⟨rfl, rfl⟩
def rowI (n : Nat) (s : QRun) (k : Int) : List It := if 0 ≤ k ∧ k < n then row s k.toNat else []
theorem rqueue_calls (w : World) (p : Nat) (F : List Nat) (n m : Nat) (s : QRun) (k : Int) (h : QAt w p F n m s) :
    Calls Try.prog 81 #[.pointer (some ⟨p, 0, none⟩), .int .i64 k] w fun e w' => (∃ hd, e = .returned hd ∧ Hdr encI 3 w IT hd (rowI n s k) ∧ ∀ g, hd.ownBlock = some g → g ∈ F) ∧ w = w' := by
  have HW := Lib.hid (worker_calls w p F n m s k h)
  obtain ⟨rb, wb, sb, hs, hP⟩ := h.ex
  have c0 := hP.c0
  unfold rowI
  by_cases hk : 0 ≤ k ∧ k < n
  · rw [show isW n k = true from decide_eq_true hk] at HW
    rw [if_pos hk]
    obtain ⟨j, rfl⟩ := Int.eq_ofNat_of_zero_le hk.1
    obtain ⟨hd, hh, hc, hH⟩ := hP.hd (k := j) (by omega)
    have HO := Lib.hid (And.intro hH fun g hg => (hP.out j hd g hh hg).1)
    have hj0 : (0 : Int) ≤ (j : Int) := hk.1
    have hj1 : (j : Int) < (n : Int) := hk.2
    have h64 := h.ok.n64
    clear h hP hH hk hh
    go_enter Try.func81, Try.ntmps81
    go_wp2_with fail
    refine HW.out.mono ?_
    rintro e w1 ⟨rfl, rfl⟩
    go_wp2_with fail
    go_ret
    exact ⟨⟨hd, rfl, HO.out⟩, rfl⟩
  · rw [show isW n k = false from decide_eq_false hk] at HW
    rw [if_neg hk]
    clear h hP hk
    go_enter Try.func81, Try.ntmps81
    go_wp2_with fail
    refine HW.out.mono ?_
    rintro e w1 ⟨rfl, rfl⟩
    go_wp2_with fail
    go_ret
    exact ⟨⟨_, rfl, .inl ⟨rfl, rfl⟩, fun g hg => by cases hg⟩, rfl⟩
theorem len_calls (w : World) (p : Nat) (F : List Nat) (n m : Nat) (s : QRun) (k : Int) (h : QAt w p F n m s) :
    Calls Try.prog 55 #[.pointer (some ⟨p, 0, none⟩), .int .i64 k] w fun e w' => e = .returned (.int .i64 ((rowI n s k).length : Nat)) ∧ w = w' := by
  have HW := Lib.hid (rqueue_calls w p F n m s k h)
  clear h
  go_enter Try.func55, Try.ntmps55
  go_wp2_with fail
  refine HW.out.mono ?_
  rintro e w1 ⟨⟨hd, rfl, hH, _⟩, rfl⟩
  obtain ⟨A, c, rfl⟩ := hH.shape
  clear hH
  go_wp2_with fail
  go_ret
  exact ⟨rfl, rfl⟩
theorem total_calls (w : World) (p : Nat) (F : List Nat) (n m : Nat) (s : QRun) (h : QAt w p F n m s) :
    Calls Try.prog 56 #[.pointer (some ⟨p, 0, none⟩)] w fun e w' => e = .returned (.int .i64 (total s : Nat)) ∧ w = w' := by
  obtain ⟨rb, wb, sb, hs, hP⟩ := h.ex
  have c1 := hP.c1
  have HM := Lib.hid hP.whr
  clear h hP
  go_enter Try.func56, Try.ntmps56
  go_wp2_with (first
    | (refine at_maplen _ rfl _ _ rfl huW HM.out rfl ?_)
    | fail)
  go_ret
  exact ⟨rfl, rfl⟩
theorem workers_calls (w : World) (p : Nat) (F : List Nat) (n m : Nat) (s : QRun) (h : QAt w p F n m s) :
    Calls Try.prog 67 #[.pointer (some ⟨p, 0, none⟩)] w fun e w' => e = .returned (.int .i64 n) ∧ w = w' := by
  obtain ⟨rb, wb, sb, hs, hP⟩ := h.ex
  have c0 := hP.c0
  clear h hP
  go_enter Try.func67, Try.ntmps67
  go_wp2
  go_ret
  exact ⟨rfl, rfl⟩
def whrV (s : QRun) (a : Int) : Int := match whr s a with
  | some k => (k : Int)
  | none => -1
theorem where_calls (w : World) (p : Nat) (F : List Nat) (n m : Nat) (s : QRun) (a : Int) (ha : okI .i64 a) (h : QAt w p F n m s) :
    Calls Try.prog 60 #[.pointer (some ⟨p, 0, none⟩), .int .i64 a] w fun e w' => e = .returned (.int .i64 (whrV s a)) ∧ w = w' := by
  obtain ⟨rb, wb, sb, hs, hP⟩ := h.ex
  have c1 := hP.c1
  have HM := Lib.hid hP.whr
  clear h hP
  unfold whrV
  cases e : whr s a with
  | none =>
    have e1 := whrI_none e
    clear e
    go_enter Try.func60, Try.ntmps60
    go_wp2_with (first
      | (refine at_look_ok _ rfl _ _ _ rfl keyAsI huW huI (zero_int _) HM.out rfl a ha rfl ?_; rw [e1])
      | fail)
    go_ret
    exact ⟨rfl, rfl⟩
  | some k =>
    have e1 := whrI_some e
    clear e
    go_enter Try.func60, Try.ntmps60
    go_wp2_with (first
      | (refine at_look_ok _ rfl _ _ _ rfl keyAsI huW huI (zero_int _) HM.out rfl a ha rfl ?_; rw [e1])
      | fail)
    go_ret
    exact ⟨rfl, rfl⟩
theorem sent_calls (w : World) (p : Nat) (F : List Nat) (n m : Nat) (s : QRun) (f t : Int) (hf : okI .i64 f) (ht : okI .i64 t) (h : QAt w p F n m s) :
    Calls Try.prog 53 #[.pointer (some ⟨p, 0, none⟩), .int .i64 f, .int .i64 t] w fun e w' => e = .returned (.int .i64 (s.sent f t : Nat)) ∧ w = w' := by
  obtain ⟨rb, wb, sb, hs, hP⟩ := h.ex
  have c2 := hP.c2
  obtain ⟨m', g, _, hM, hg⟩ := hP.sent
  have HM := Lib.hid hM
  have HG := Lib.hid (hg f t)
  have HK := Lib.hid (show okL .i64 2 [f, t] from ⟨rfl, fun x hx => by simp at hx; rcases hx with rfl | rfl; exact hf; exact ht⟩)
  clear h hP hM hg
  go_enter Try.func53, Try.ntmps53
  go_wp2_with (first
    | (refine at_look _ rfl _ _ _ rfl keyAsP huS huI (zero_int _) HM.out rfl [f, t] HK.out rfl ?_; rw [HG.out])
    | fail)
  go_ret
  exact ⟨rfl, rfl⟩
end Go.Proofs.Ytchnhmcedmicgaa.Rem
