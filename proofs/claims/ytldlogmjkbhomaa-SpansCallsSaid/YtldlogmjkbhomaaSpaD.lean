/- The contracts of package spans' Find and Runs. -/
import Derived.Test.YtldlogmjkbhomaaSpaC
import Derived.Lib.SliceRun
import Derived.Lib.LazyBuf
set_option linter.unusedSimpArgs false
namespace Go.Proofs.Ytldlogmjkbhomaa.Spa
open Go.RowKit Go.Proofs.Ytldlogmjkbhomaa.Aid
theorem info_run : (Try.prog.info? RT).map (fun i => (i.zero, i.size, i.bytes)) = some (some (.agg #[.int .i64 0, .int .i64 0, .bool false]), 3, 24) := by kernel_rfl
theorem zero_box (w : World) : Blk (w.alloc (.cells #[.int .i64 0, .int .i64 0, .bool false] RT)) w.heap.size (encR r0).toArray RT := Blk.new w _ _
theorem setc3 {w0 w : World} {b : Nat} (hb : Below b w0 w) (u0 u1 u2 : Value) : Below b w0 (((w.setCell ⟨b, 0, none⟩ u0).setCell ⟨b, 1, none⟩ u1).setCell ⟨b, 2, none⟩ u2) :=
  ((hb.setCell (p := ⟨b, 0, none⟩) (Nat.le_refl _) u0).setCell (p := ⟨b, 1, none⟩) (Nat.le_refl _) u1).setCell (p := ⟨b, 2, none⟩) (Nat.le_refl _) u2
theorem blk3 {w : World} {b : Nat} {cs : List Value} (hb : Blk w b cs.toArray RT) (hl : cs.length = 3) (r : Rn) : Blk (((w.setCell ⟨b, 0, none⟩ (.int .i64 r.p)).setCell ⟨b, 1, none⟩ (.int .i64 r.n)).setCell ⟨b, 2, none⟩ (.bool r.t)) b (encR r).toArray RT := by
  have h := ((hb.set 0 (.int .i64 r.p)).set 1 (.int .i64 r.n)).set 2 (.bool r.t)
  match cs, hl with
  | [a, b, c], _ => exact h
theorem results_run {fn : Func} (h : fn.results = #[.cell 4 RT, .tmp 5]) (tmps : Array Value) (w : World) (b : Nat) (r : Rn) (v : Value) (hp : tmps.getD 4 undef = .pointer (some ⟨b, 0, none⟩)) (h5 : tmps.getD 5 undef = v) (hb : Blk w b (encR r).toArray RT) :
    (results fn tmps).run Try.prog w = .ok (.tuple #[.agg #[.int .i64 r.p, .int .i64 r.n, .bool r.t], v]) w := by
  have hp' : tmps[4]?.getD undef = .pointer (some ⟨b, 0, none⟩) := by simpa using hp
  have h5' : tmps[5]?.getD undef = v := by simpa using h5
  have c0 := hb.cell (o := 0) rfl
  have c1 := hb.cell (o := 1) rfl
  have c2 := hb.cell (o := 2) rfl
  simp [results, h, hp', h5', asAddr, go_sem, c0, c1, c2, encR]
section
variable (w : World) (p : Nat) (F : List Nat) (P : Nat) (xs : List Rn) (h : SpAt w p F P xs)
include h
theorem find_no (page : Int) (hp : page < 0 ∨ (P : Int) ≤ page) : Calls Try.prog 51 #[.pointer (some ⟨p, 0, none⟩), .int .i64 page] w fun e w' => e = .returned (.tuple #[.agg #[.int .i64 0, .int .i64 0, .bool false], .bool false]) ∧ Below w.heap.size w w' := by
  obtain ⟨hd, hP⟩ := h.ex
  have c0 := hP.c0
  have hbz := (Below.refl w.heap.size w).alloc (Nat.le_refl _) (.cells #[.int .i64 0, .int .i64 0, .bool false] RT)
  have c0' := (hP.head.below hbz).cell (o := 0) rfl
  have HZ := Lib.hid hbz
  clear h hP hbz c0
  by_cases h0 : page < 0
  · clear hp
    go_enter Try.func51, Try.ntmps51
    go_wp2
    exact bodyPost_ret_by (results_run rfl _ _ _ r0 _ rfl rfl (zero_box w)) rfl ⟨rfl, HZ.out⟩
  · have h1 : (P : Int) ≤ page := by omega
    clear hp
    go_enter Try.func51, Try.ntmps51
    go_wp2
    exact bodyPost_ret_by (results_run rfl _ _ _ r0 _ rfl rfl (zero_box w)) rfl ⟨rfl, HZ.out⟩
set_option maxHeartbeats 1000000 in
theorem find_yes (k i : Nat) (hk : k < xs.length) (h1 : (xs.getD k r0).p ≤ i) (h2 : i < (xs.getD k r0).p + (xs.getD k r0).n) : Calls Try.prog 51 #[.pointer (some ⟨p, 0, none⟩), .int .i64 i] w fun e w' => e = .returned (.tuple #[.agg #[.int .i64 (xs.getD k r0).p, .int .i64 (xs.getD k r0).n, .bool (xs.getD k r0).t], .bool true]) ∧ Below w.heap.size w w' := by
  obtain ⟨hd, hP⟩ := h.ex
  have hpn := pos_n h.ok hk
  have hbz := (Below.refl w.heap.size w).alloc (Nat.le_refl _) (.cells #[.int .i64 0, .int .i64 0, .bool false] RT)
  have c0' := (hP.head.below hbz).cell (o := 0) rfl
  have hk0 : (0 : Int) ≤ (k : Int) := by omega
  have hk1 : (k : Int) < (xs.length : Int) := by omega
  have hiP : (i : Int) < (P : Int) := by omega
  have HI := Lib.hid (fun W (hb : Below w.heap.size w W) => index_calls W p F P xs k i (h.below hb) hk h1 h2)
  obtain ⟨A, c, rfl, hat⟩ := Hdr.open3 hP.runs
  obtain ⟨g, rfl, k0, k1, k2⟩ := hat k hk
  have hgl : g < w.heap.size := World.block_lt_of_cell? _ _ k0
  have HS := Lib.hid (fun W (hb : Below w.heap.size w W) => (show W.cell? ⟨p, 1, none⟩ = some (.slice (some ⟨g, 0, none⟩) xs.length c) ∧ W.cell? ⟨g, k * 3, none⟩ = some (.int .i64 (xs.getD k r0).p) ∧ W.cell? ⟨g, k * 3 + 1, none⟩ = some (.int .i64 (xs.getD k r0).n) ∧ W.cell? ⟨g, k * 3 + 2, none⟩ = some (.bool (xs.getD k r0).t) from
    ⟨(hP.head.below hb).cell (o := 1) rfl, (hb.cell (p := ⟨g, _, none⟩) hgl).trans k0, (hb.cell (p := ⟨g, _, none⟩) hgl).trans k1, (hb.cell (p := ⟨g, _, none⟩) hgl).trans k2⟩))
  have HZ := Lib.hid hbz
  have HZk := Lib.hid (zero_box w)
  clear h hP hbz hat k0 k1 k2 hk h1 h2 hpn
  generalize xs.getD k r0 = r at *
  go_enter Try.func51, Try.ntmps51
  go_upto_region 3 with fail
  unfold encR at HZk
  change Hid (Blk (w.alloc (.cells #[.int .i64 0, .int .i64 0, .bool false] RT)) w.heap.size _ RT) at HZk
  generalize w.alloc (.cells #[.int .i64 0, .int .i64 0, .bool false] RT) = w0 at HZ HZk ⊢
  have hzl := HZk.out.lt
  have HZd := Lib.hid (show Below w.heap.size w w0.drew from HZ.out.drew)
  go_region_held3 (fun w' => w'.cell? ⟨p, 1, none⟩ = some (.slice (some ⟨g, 0, none⟩) xs.length c) ∧ w'.cell? ⟨g, k * 3, none⟩ = some (.int .i64 r.p) ∧ w'.cell? ⟨g, k * 3 + 1, none⟩ = some (.int .i64 r.n) ∧ w'.cell? ⟨g, k * 3 + 2, none⟩ = some (.bool r.t))
    (first | exact HS.out _ HZd.out | exact HS.out _ HB1.out.1 | exact HS.out _ (setc3 HB1.out.1 _ _ _))
    ((go_at_call 82; (refine (Calls.mono (HI.out _ HZd.out) ?_)); rintro e w1 ⟨rfl, hb⟩; have HB1 := Lib.hid (show Below w.heap.size w w1 ∧ Blk w1 w.heap.size _ RT from ⟨HZd.out.trans (hb.mono HZd.out.size), HZk.out.drew.below hb⟩); have HBc := Lib.hid (And.intro (HB1.out.2.cell (o := 0) rfl) (And.intro (HB1.out.2.cell (o := 1) rfl) (HB1.out.2.cell (o := 2) rfl))); obtain ⟨z0, z1, z2⟩ := HBc.out; have zf := HB1.out.2.free))
  all_goals
    go_wp2_with fail
    exact bodyPost_ret_by (results_run rfl _ _ _ r _ rfl rfl (blk3 HB1.out.2 rfl r)) rfl ⟨rfl, setc3 HB1.out.1 _ _ _⟩
end
attribute [-go_sem] Builtin.append_ in
theorem sclone_run (w : World) (hd : Value) (xs : List Rn) (h : Hdr encR 3 w RT hd xs) (hl : xs.length ≤ 1000000) :
    Calls Try.prog 81 #[hd] w fun e w' => ∃ hd', e = .returned hd' ∧ Hdr encR 3 w' RT hd' xs ∧ (∀ g, hd'.ownBlock = some g → w.heap.size ≤ g) ∧ Below w.heap.size w w' := by
  rcases h with ⟨rfl, rfl⟩ | ⟨g, c, rfl, hR⟩
  · have hq := fun w => Go.Lib.run_eql_slice_nil (P := Try.prog) w 94 RT none 0 0 0 0 Try.underlying94
    go_enter Try.func81, Try.ntmps81
    go_wp2
    go_ret
    exact ⟨_, rfl, .inl ⟨rfl, rfl⟩, fun g hg => (by cases hg), Below.refl _ _⟩
  · obtain ⟨g', c', w', e1, hR', hg', hb⟩ := append_recs_run (P := Try.prog) (W := w) RS RS RT _ 24 Try.underlying94 info_run rfl (by decide) encR_len encR_one hR hl (by decide)
    have HR := Lib.hid (And.intro hR' (And.intro hg' hb))
    clear hR hR' hg' hb hl
    have hq := fun w => Go.Lib.run_eql_slice_nil (P := Try.prog) w 94 RT (some ⟨g, 0, none⟩) xs.length c 0 0 Try.underlying94
    go_enter Try.func81, Try.ntmps81
    go_wp2
    go_ret
    refine ⟨_, rfl, .inr ⟨g', c', rfl, HR.out.1⟩, fun g hg => ?_, HR.out.2.2⟩
    have : g' = g := Option.some.inj (show some g' = some g from hg)
    rw [← this]
    exact HR.out.2.1
theorem runs_calls (w : World) (p : Nat) (F : List Nat) (P : Nat) (xs : List Rn) (h : SpAt w p F P xs) :
    Calls Try.prog 49 #[.pointer (some ⟨p, 0, none⟩)] w fun e w' => ∃ hd', e = .returned hd' ∧ Hdr encR 3 w' RT hd' xs ∧ (∀ g, hd'.ownBlock = some g → w.heap.size ≤ g) ∧ Below w.heap.size w w' := by
  obtain ⟨hd, hP⟩ := h.ex
  have c1 := hP.c1
  have HC := Lib.hid (sclone_run w hd xs hP.runs (by have := len_le h.ok; omega))
  clear h hP
  go_enter Try.func49, Try.ntmps49
  go_wp2_with fail
  refine HC.out.mono ?_
  rintro e w1 ⟨hd', rfl, h1⟩
  go_wp2_with fail
  go_ret
  exact ⟨hd', rfl, h1⟩
end Go.Proofs.Ytldlogmjkbhomaa.Spa
