/- The contracts of package epoch's Least, Behind, Settled. -/
import Derived.Test.YtchnhmcedmicgaaEpoB
namespace Go.Proofs.Ytchnhmcedmicgaa.Epo
open Go.RowKit Go.Proofs.Ytchnhmcedmicgaa.Aid
theorem info_int : (Try.prog.info? 3).map (fun i => (i.zero, i.size, i.bytes)) = some (some (.int .i64 0), 1, 8) := by kernel_rfl
def leastTo (m : Int) (r : List Int) : Nat → Int
  | 0 => m
  | k + 1 => min (leastTo m r k) (r.getD k 0)
theorem leastTo_same (m : Int) (r : List Int) (h : r.getD 0 0 ≤ m) : ∀ k, leastTo m r (k + 1) = leastTo (r.getD 0 0) r (k + 1)
  | 0 => by simp only [leastTo]; omega
  | k + 1 => by rw [leastTo, leastTo_same m r h k]; rfl
def behTo (now : Int) (r : List Int) : Nat → List Int
  | 0 => []
  | k + 1 => behTo now r k ++ (if r.getD k 0 = now then [] else [(k : Int)])
theorem behTo_len (now : Int) (r : List Int) : ∀ k, (behTo now r k).length ≤ k
  | 0 => Nat.le_refl _
  | k + 1 => by
    have := behTo_len now r k
    rw [behTo, List.length_append]
    split <;> simp <;> omega
theorem smin_calls (w : World) (b o : Nat) (ca : Nat) (r : List Int) (h1 : 1 ≤ r.length) (hl : r.length ≤ 64) (hc : ∀ k, k < r.length → w.cell? ⟨b, o + k, none⟩ = some (.int .u64 (g64 r k))) :
    Calls Try.prog 74 #[.slice (some ⟨b, o, none⟩) r.length ca] w fun e w' => e = .returned (.int .u64 (leastTo (g64 r 0) r r.length)) ∧ w = w' := by
  have c0 := hc 0 (by omega)
  rw [Nat.add_zero] at c0
  have HC := Lib.hid hc
  clear hc
  have hl1 : ¬ (r.length : Int) < 1 := by omega
  have hl0 : (0 : Int) < (r.length : Int) := by omega
  go_enter Try.func74, Try.ntmps74
  go_wp2_with fail
  go_loop [3, 4] (fun m i => ∃ k : Nat, 1 ≤ k ∧ k ≤ r.length ∧ i = .int .i64 k ∧ m = .int .u64 (leastTo (g64 r 0) r k)) (fun _ i => r.length - (intOf i).toNat)
  case atStart => exact ⟨1, by omega, h1, rfl, by simp [leastTo, g64]⟩
  case round =>
    obtain ⟨k, hk1, hk, rfl, rfl⟩ := hrel
    by_cases hlt : k < r.length
    · have ck := HC.out k hlt
      have hk0 : (0 : Int) ≤ (k : Int) := by omega
      have hk2 : (k : Int) < (r.length : Int) := by omega
      have HS := Lib.hid (show leastTo (g64 r 0) r (k + 1) = min (leastTo (g64 r 0) r k) (g64 r k) from rfl)
      generalize leastTo (g64 r 0) r k = m at HS ⊢
      generalize g64 r k = x at ck HS
      go_wp2_with fail
      go_round
      case rel => exact ⟨k + 1, by omega, by omega, by go_num, by rw [HS.out]; congr 1; split <;> omega⟩
      case measure => simp [intOf]; omega
    · obtain rfl : k = r.length := by omega
      go_wp2_with fail
      go_ret
      exact ⟨rfl, rfl⟩
def leastV (s : ERun) : Int := leastTo (g64 s.row 0) s.row s.row.length
set_option maxRecDepth 4000 in
theorem least_calls (w : World) (p mb n : Nat) (s : ERun) (h : EpAt w p mb n s) :
    Calls Try.prog 36 #[.pointer (some ⟨p, 0, none⟩)] w fun e w' => e = .returned (.int .u64 (leastV s)) ∧ Below w.heap.size w w' := by
  have c1 := h.c1
  have h64 : (n : Int) ≤ 64 := by have := h.ok.n64; omega
  have HM := Lib.hid (smin_calls w.drew p 2 64 s.row (by have := h.ok.len; have := h.ok.n1; omega) (by have := h.ok.len; have := h.ok.n64; omega) (fun k hk => h.ck (by rw [← h.ok.len]; exact hk)))
  rw [h.ok.len] at HM
  have HL := Lib.hid (show leastV s = leastTo (g64 s.row 0) s.row n by unfold leastV; rw [h.ok.len])
  have hb := Below.refl w.heap.size w
  clear h
  go_enter Try.func36, Try.ntmps36
  go_wp2_with fail
  go_region_held3 (fun w' => w'.cell? ⟨p, 1, none⟩ = some (.int .i64 n)) (exact c1) (first | (go_at_call 74; with_reducible refine (Calls.mono HM.out ?_); rintro e w1 ⟨rfl, rfl⟩))
  go_wp2_with fail
  go_ret
  rw [HL.out]
  exact ⟨rfl, hb.drew⟩
/-- Who is behind. -/
def behV (s : ERun) : List Int := behTo s.now s.row s.row.length
set_option maxHeartbeats 1000000 in
set_option maxRecDepth 4000 in
theorem behind_calls (w : World) (p mb n : Nat) (s : ERun) (h : EpAt w p mb n s) :
    Calls Try.prog 38 #[.pointer (some ⟨p, 0, none⟩)] w fun e w' => ∃ v, e = .returned v ∧ Own w' w.heap.size 3 .i64 v (behV s) ∧ Below w.heap.size w w' := by
  have c1 := h.c1
  have h64 : (n : Int) ≤ 64 := by have := h.ok.n64; omega
  have HH := Lib.hid h
  have HL := Lib.hid (show behV s = behTo s.now s.row n by unfold behV; rw [h.ok.len])
  clear h
  go_enter Try.func38, Try.ntmps38
  go_wp2_with fail
  go_region_held3 (fun w' => w'.cell? ⟨p, 1, none⟩ = some (.int .i64 n)) (exact c1) (fail)
  go_wp2_with fail
  go_loopw [3, 15] (fun v i wr => ∃ k : Nat, k ≤ n ∧ i = .int .i64 k ∧ Own wr w.heap.size 3 .i64 v (behTo s.now s.row k) ∧ Below w.heap.size w wr) (fun _ i _ => n - (intOf i).toNat)
  case atStart => exact ⟨0, by omega, rfl, Own.nil _ _ _ _, (Below.refl _ _).drew⟩
  case round =>
    obtain ⟨k, hk, rfl, hown, hb⟩ := hrel
    have HO := Lib.hid hown
    have HB := Lib.hid hb
    have hsz := hb.size
    clear hown hb
    by_cases hlt : k < n
    · have hE := HH.out.below HB.out
      have ck := hE.ck hlt
      have c0 := hE.c0
      clear hE
      have hk0 : (0 : Int) ≤ (k : Int) := by omega
      have hk2 : (k : Int) < (n : Int) := by omega
      have HS := Lib.hid (show behTo s.now s.row (k + 1) = behTo s.now s.row k ++ (if g64 s.row k = s.now then [] else [(k : Int)]) from rfl)
      have hbl := behTo_len s.now s.row k
      generalize behTo s.now s.row k = bs at HO HS hbl
      generalize g64 s.row k = x at ck HS
      by_cases he : x = s.now
      · subst he
        go_wp2_with fail
        go_roundw
        case rel => exact ⟨k + 1, by omega, by go_num, by rw [HS.out, if_pos rfl, List.append_nil]; exact HO.out, HB.out⟩
        case measure => simp [intOf]; omega
      · go_wp2_with (at_builtin; refine append_int rfl _ _ 40 rfl w.heap.size 3 .i64 8 Try.underlying40 info_int _ bs rfl HO.out (k : Int) rfl (by omega) (by omega) hsz ?_)
        intro v1 w1 hown1 hb1 _
        have HO1 := Lib.hid hown1
        have HB1 := Lib.hid (HB.out.trans hb1)
        clear hown1 hb1
        go_wp2_with fail
        go_roundw
        case rel => exact ⟨k + 1, by omega, by go_num, by rw [HS.out, if_neg he]; exact HO1.out, HB1.out⟩
        case measure => simp [intOf]; omega
    · obtain rfl : k = n := by omega
      go_wp2_with fail
      go_ret
      rw [HL.out]
      exact ⟨_, rfl, HO.out, HB.out⟩
def setV (s : ERun) : Bool := (behV s).length == 0
theorem settled_calls (w : World) (p mb n : Nat) (s : ERun) (h : EpAt w p mb n s) :
    Calls Try.prog 40 #[.pointer (some ⟨p, 0, none⟩)] w fun e w' => e = .returned (.bool (setV s)) ∧ Below w.heap.size w w' := by
  have HB := Lib.hid (behind_calls w p mb n s h)
  have hz : ((((behV s).length : Nat) : Int) == 0) = setV s := by
    unfold setV
    rw [Bool.eq_iff_iff]
    simp
  clear h
  go_enter Try.func40, Try.ntmps40
  go_wp2_with fail
  refine HB.out.mono ?_
  rintro e w1 ⟨v, rfl, hO, hb⟩
  obtain ⟨A, c, rfl, _⟩ := hO.shape
  clear hO
  go_wp2_with fail
  go_ret
  exact ⟨rfl, hb⟩
end Go.Proofs.Ytchnhmcedmicgaa.Epo
