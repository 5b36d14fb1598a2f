/- The contracts of package remote's New, All and Clone. -/
import Derived.Test.YtchnhmcedmicgaaRemE
import Derived.Shelf.SlMaps.Clone
namespace Go.Proofs.Ytchnhmcedmicgaa.Rem
open Go.RowKit Go.Proofs.Ytchnhmcedmicgaa.Aid
abbrev ST : TypeId := 100
theorem infoS : (Try.prog.info? ST).map (fun i => (i.zero, i.size, i.bytes)) = some (some (.slice none 0 0), 1, 24) := by kernel_rfl
theorem parts_new {w' : World} {n rb wb sb p : Nat} {F : List Nat} (hh : Blk w' p #[.slice (some ⟨rb, 0, none⟩) n n, .map (some wb), .map (some sb)] QT) (hr : Row w' ST rb n (List.replicate n (.slice none 0 0)))
    (hw : MapI w' Try.prog 3 3 .i64 (keI .i64) (okI .i64) wb 0 (fun _ => none)) (hs : MapI w' Try.prog PT 3 .i64 (keL .i64) (okL .i64 2) sb 0 (fun _ => none)) (hF : F = [p, rb, wb, sb]) (ne : p ≠ rb ∧ p ≠ wb ∧ p ≠ sb ∧ rb ≠ wb ∧ rb ≠ sb ∧ wb ≠ sb) :
    Parts w' p F n 0 (q0 n) rb wb sb (List.replicate n (.slice none 0 0)) := by
  subst hF
  have hnil : ∀ (k : Nat) hd, (List.replicate n (Value.slice none 0 0))[k]? = some hd → hd = .slice none 0 0 := fun k hd h => by
    rw [List.getElem?_replicate] at h
    split at h
    · injection h with h; exact h.symm
    · cases h
  refine ⟨hh, hr, by simp, fun k hd hk => ?_, fun j k hj hk g h1 h2 h3 h4 => ?_, fun k hd g h1 h2 => ?_, ?_, ⟨0, _, Nat.le_refl _, hs, fun _ _ => rfl⟩, by simp, ne, fun x hx => ?_⟩
  · rw [hnil k hd hk, row_q0]; exact .inl ⟨rfl, rfl⟩
  · rw [hnil j hj h1] at h3; cases h3
  · rw [hnil k hd h1] at h2; cases h2
  · have : total (q0 n) = 0 := by simp [total, q0]
    rw [this]
    exact hw.congr fun a _ => (whrI_none (whr_q0 n a)).symm
  · simp at hx
    rcases hx with rfl | rfl | rfl | rfl
    · exact hh.lt
    · exact hr.lt
    · exact hw.lt
    · exact hs.lt
set_option maxHeartbeats 1000000 in
theorem new_yes (w : World) (n : Nat) (h1 : 1 ≤ n) (h2 : n ≤ 64) :
    Calls Try.prog 78 #[.int .i64 n] w fun e w' => ∃ p F, e = .returned (.tuple #[.pointer (some ⟨p, 0, none⟩), .int .i64 0]) ∧ QAt w' p F n 0 (q0 n) ∧ (∀ x ∈ p :: F, w.heap.size ≤ x) ∧ Below w.heap.size w w' := by
  have hmm := @run_makeMap Try.prog
  have g1 : ¬ (n : Int) < 1 := by omega
  have g2 : ¬ (64 : Int) < n := by omega
  go_enter Try.func78, Try.ntmps78
  go_wp2_with (at_make; refine make_row _ rfl _ _ 131 rfl ST Try.underlying131 (.slice none 0 0) 24 rfl infoS _ _ n rfl rfl (by omega) (by decide) ?_; intro w1 hr1 hlt1 hb1)
  go_ret2
  have hW := MapI.made w1 Try.prog 3 3 .i64 (keI .i64) (okI .i64)
  have hS := MapI.made (w1.alloc (.map #[] 0)) Try.prog PT 3 .i64 (keL .i64) (okL .i64 2)
  have hz1 : (w1.alloc (.map #[] 0)).heap.size = w1.heap.size + 1 := by simp
  have hz2 : ((w1.alloc (.map #[] 0)).alloc (.map #[] 0)).heap.size = w1.heap.size + 1 + 1 := by simp
  have hB := Blk.new ((w1.alloc (.map #[] 0)).alloc (.map #[] 0)) #[.slice (some ⟨w.heap.size, 0, none⟩) n n, .map (some w1.heap.size), .map (some (w1.alloc (.map #[] 0)).heap.size)] QT
  have hsz := hb1.size
  rw [hz2, hz1] at hB
  rw [hz1] at hS
  refine ⟨_, rfl, [w1.heap.size + 1 + 1, w.heap.size, w1.heap.size, w1.heap.size + 1], ⟨q0_ok n h1 h2, by omega, _, _, _, _, parts_new hB (((hr1.alloc _).alloc _).alloc _) ((hW.alloc _).alloc _) (hS.alloc _) rfl (by omega)⟩, ?_, ((hb1.alloc hsz _).alloc (by rw [hz1]; omega) _).alloc (by rw [hz2]; omega) _⟩
  simp
  omega
theorem new_no (w : World) (n : Int) (h : n < 1 ∨ 64 < n) :
    Calls Try.prog 78 #[.int .i64 n] w fun e w' => e = .returned (.tuple #[.pointer none, .int .i64 11]) ∧ w = w' := by
  by_cases h0 : n < 1
  · clear h
    go_enter Try.func78, Try.ntmps78
    go_wp2
    go_ret2
    exact ⟨rfl, rfl⟩
  · have h1 : 64 < n := by omega
    clear h
    go_enter Try.func78, Try.ntmps78
    go_wp2
    go_ret2
    exact ⟨rfl, rfl⟩
attribute [-go_sem] Builtin.append_ in
/-- slices.Clone at items: nil stays nil; else a new row. -/
theorem sclone_calls (w : World) (hd : Value) (xs : List It) (hH : Hdr encI 3 w IT hd xs) (hl : xs.length ≤ 1000000) :
    Calls Try.prog 88 #[hd] w fun e w' => ∃ hd', e = .returned hd' ∧ Hdr encI 3 w' IT hd' xs ∧ (∀ g, hd'.ownBlock = some g → w.heap.size ≤ g) ∧ Below w.heap.size w w' := by
  rcases hH with ⟨rfl, rfl⟩ | ⟨g, c, rfl, hR⟩
  · clear hl
    have hq := fun w => Go.Lib.run_eql_slice_nil (P := Try.prog) w ST IT none 0 0 0 0 Try.underlying100
    go_enter Try.func88, Try.ntmps88
    go_wp2
    go_ret
    exact ⟨_, rfl, .inl ⟨rfl, rfl⟩, fun g (hg : (Value.slice none 0 0).ownBlock = some g) => (by cases hg), Below.refl _ _⟩
  · obtain ⟨g', c', w', e1, hR', hg', hb⟩ := append_recs_run (P := Try.prog) (W := w) 100 100 IT _ 24 Try.underlying100 infoI rfl (by decide) encI_len encI_one hR hl (by decide)
    have HR := Lib.hid (And.intro hR' (And.intro hg' hb))
    clear hR hR' hg' hb hl
    have hq := fun w => Go.Lib.run_eql_slice_nil (P := Try.prog) w ST IT (some ⟨g, 0, none⟩) xs.length c 0 0 Try.underlying100
    go_enter Try.func88, Try.ntmps88
    go_wp2
    go_ret
    exact ⟨_, rfl, .inr ⟨g', c', rfl, HR.out.1⟩, fun g hg => by injection hg with hg; subst hg; exact HR.out.2.1, HR.out.2.2⟩
theorem all_calls (w : World) (p : Nat) (F : List Nat) (n m : Nat) (s : QRun) (k : Int) (h : QAt w p F n m s) :
    Calls Try.prog 58 #[.pointer (some ⟨p, 0, none⟩), .int .i64 k] w fun e w' => ∃ hd', e = .returned hd' ∧ Hdr encI 3 w' IT hd' (rowI n s k) ∧ (∀ g, hd'.ownBlock = some g → w.heap.size ≤ g) ∧ Below w.heap.size w w' := by
  have HW := Lib.hid (rqueue_calls w p F n m s k h)
  have hl := Lib.hid (rowI_len h k)
  clear h
  go_enter Try.func58, Try.ntmps58
  go_wp2_with fail
  refine HW.out.mono ?_
  rintro e w1 ⟨⟨hd, rfl, hH, _⟩, rfl⟩
  have HC := Lib.hid (sclone_calls w hd _ hH hl.out)
  clear hH HW
  go_wp2_with fail
  refine HC.out.mono ?_
  rintro e w2 ⟨hd', rfl, hH2, hg2, hb2⟩
  go_wp2_with fail
  go_ret
  exact ⟨_, rfl, hH2, hg2, hb2⟩
set_option maxRecDepth 10000 in
theorem mcloneW_calls (w : World) (b : Nat) (es : Array MapEntry) (clock : Nat) (hb : w.heap[b]? = some (.map es clock)) :
    Calls Try.prog 89 #[.map (some b)] w fun e w' => e = .returned (.map (some w.heap.size)) ∧ w' = w.alloc (.map es clock) := by
  have hq := fun w => run_eql_map_nil_sl (P := Try.prog) w 86 _ _ (some b) huW
  go_enter Try.func89, Try.ntmps89
  go_wp2
  rw [run_callFunc_extern Try.func92 (by kernel_rfl) (by kernel_rfl) (by kernel_rfl) (e := Extern.MapsClone.clone) (by kernel_rfl), run_maps_clone_sl w 86 hb]
  simp only [Result.andThen]
  rw [Oper.upon_value]
  go_wp2
  rw [run_typeAssert_map_sl _ 86 20 _ _ _ huW]
  simp only [Result.andThen]
  rw [Oper.upon_value]
  go_wp2
  go_ret
  exact ⟨rfl, rfl⟩
set_option maxRecDepth 10000 in
theorem mcloneS_calls (w : World) (b : Nat) (es : Array MapEntry) (clock : Nat) (hb : w.heap[b]? = some (.map es clock)) :
    Calls Try.prog 90 #[.map (some b)] w fun e w' => e = .returned (.map (some w.heap.size)) ∧ w' = w.alloc (.map es clock) := by
  have hq := fun w => run_eql_map_nil_sl (P := Try.prog) w 132 _ _ (some b) huS
  go_enter Try.func90, Try.ntmps90
  go_wp2
  rw [run_callFunc_extern Try.func92 (by kernel_rfl) (by kernel_rfl) (by kernel_rfl) (e := Extern.MapsClone.clone) (by kernel_rfl), run_maps_clone_sl w 132 hb]
  simp only [Result.andThen]
  rw [Oper.upon_value]
  go_wp2
  rw [run_typeAssert_map_sl _ 132 20 _ _ _ huS]
  simp only [Result.andThen]
  rw [Oper.upon_value]
  go_wp2
  go_ret
  exact ⟨rfl, rfl⟩
end Go.Proofs.Ytchnhmcedmicgaa.Rem
