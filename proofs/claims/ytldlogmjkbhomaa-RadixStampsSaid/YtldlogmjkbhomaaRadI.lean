/- The law's helpers: an entry as the reference has it, and a call done. -/
import Derived.Test.YtldlogmjkbhomaaRadH
import Derived.Test.YtldlogmjkbhomaaRadO
import Derived.Test.YtldlogmjkbhomaaRadT
namespace Go.Proofs.Ytldlogmjkbhomaa.Rad
open Go.RowKit Go.Proofs.Ytldlogmjkbhomaa.Aid Go.Proofs.Ytldlogmjkbhomaa.Pack
theorem of_calls (w : World) (e : En) :
    Calls Try.prog 17 #[.agg (encE e).toArray] w fun r w' => r = .returned (.agg (encE e).toArray) ∧ Below w.heap.size w w' := by
  obtain ⟨sp, ve, cl, sa⟩ := e
  unfold encE
  simp only
  have hq1 := Blk.new w #[.int .i64 sp, .int .i64 ve, .int .i64 cl, .int .i64 sa] 32
  have hq2 := Blk.new (w.alloc (.cells #[.int .i64 sp, .int .i64 ve, .int .i64 cl, .int .i64 sa] 32)) #[.int .i64 0, .int .i64 0, .int .i64 0, .int .i64 0] 37
  have hq1 := hq1.alloc (.cells #[.int .i64 0, .int .i64 0, .int .i64 0, .int .i64 0] 37)
  have hb := balloc (balloc (Below.refl w.heap.size w) (.cells #[.int .i64 sp, .int .i64 ve, .int .i64 cl, .int .i64 sa] 32)) (.cells #[.int .i64 0, .int .i64 0, .int .i64 0, .int .i64 0] 37)
  have hz : (w.alloc (.cells #[.int .i64 sp, .int .i64 ve, .int .i64 cl, .int .i64 sa] 32)).heap.size = w.heap.size + 1 := by simp
  rw [hz] at hq2
  go_enter Try.func17, Try.ntmps17
  go_upto_region 1 with fail
  generalize (w.alloc (.cells #[.int .i64 sp, .int .i64 ve, .int .i64 cl, .int .i64 sa] 32)).alloc (.cells #[.int .i64 0, .int .i64 0, .int .i64 0, .int .i64 0] 37) = w2 at hq1 hq2 hb ⊢
  have HB := Lib.hid hb
  have HQ := Lib.hid hq2
  have k0 := hq1.cell (o := 0) rfl
  have k1 := hq1.cell (o := 1) rfl
  have k2 := hq1.cell (o := 2) rfl
  have k3 := hq1.cell (o := 3) rfl
  have q0 := hq2.cell (o := 0) rfl
  have q1 := hq2.cell (o := 1) rfl
  have q2 := hq2.cell (o := 2) rfl
  have q3 := hq2.cell (o := 3) rfl
  have f0 := hq2.free 0
  have f1 := hq2.free 1
  have f2 := hq2.free 2
  have f3 := hq2.free 3
  have HL := Lib.hid (show w.heap.size ≤ w.heap.size + 1 by omega)
  clear hb hq1 hq2 hz
  generalize w.heap.size + 1 = q at HQ HL q0 q1 q2 q3 f0 f1 f2 f3 ⊢
  go_wp2_with fail
  have hq := (((HQ.out.set 0 (.int .i64 sp)).set 1 (.int .i64 ve)).set 2 (.int .i64 cl)).set 3 (.int .i64 sa)
  refine bodyPost_ret_by (results_cell_row rfl _ _ q 37 #[.int .i64 sp, .int .i64 ve, .int .i64 cl, .int .i64 sa] _ _ rfl hq Try.underlying37 rfl sizeRE) rfl ?_
  exact ⟨rfl, (((HB.out.setCell (p := ⟨q, 0, none⟩) HL.out _).setCell (p := ⟨q, 1, none⟩) HL.out _).setCell (p := ⟨q, 2, none⟩) HL.out _).setCell (p := ⟨q, 3, none⟩) HL.out _⟩
def doC (pages : Nat) (s : RS) (c : Cl) : Int := if c.clr = true then clrC pages s c.page c.n else setC pages c.page c.n c.e
def doS (pages : Nat) (s : RS) (c : Cl) : RS := if c.clr = true then clrS pages s c.page c.n else setS pages s c.page c.n c.e
def encC (c : Cl) : List Value := [.bool c.clr, .int .i64 c.page, .int .i64 c.n, .int .i64 c.e.span, .int .i64 c.e.ver, .int .i64 c.e.cls, .int .i64 c.e.sta]
theorem do_calls (w : World) (p : Nat) (F : List Nat) (pages : Nat) (s : RS) (c : Cl) (hc : ClOk c) (h : RadAt w p F pages s) :
    Calls Try.prog 18 #[.pointer (some ⟨p, 0, none⟩), .agg (encC c).toArray] w fun r w' => r = .returned (.int .i64 (doC pages s c)) ∧ Wrote p F pages (doS pages s c) w w' := by
  obtain ⟨clr, page, n, sp, ve, cl, sa⟩ := c
  unfold encC doC doS
  simp only
  have hb := balloc (Below.refl w.heap.size w) (.cells #[.bool clr, .int .i64 page, .int .i64 n, .int .i64 sp, .int .i64 ve, .int .i64 cl, .int .i64 sa] CT)
  have hq := Blk.new w #[.bool clr, .int .i64 page, .int .i64 n, .int .i64 sp, .int .i64 ve, .int .i64 cl, .int .i64 sa] CT
  have h2 := h.below hb
  have HB := Lib.hid hb
  have he := hc.e
  simp only at he
  cases clr with
  | true =>
    rw [if_pos rfl, if_pos rfl]
    have HC := Lib.hid (clear_calls _ p F pages s page n h2)
    clear h h2 hb hq hc he
    go_enter Try.func18, Try.ntmps18
    go_wp2_with fail
    refine HC.out.mono ?_
    rintro r w3 ⟨rfl, hW⟩
    have HW := Lib.hid (hW.after HB.out)
    clear hW
    go_wp2_with fail
    go_ret
    exact ⟨rfl, HW.out⟩
  | false =>
    rw [if_neg (by decide), if_neg (by decide)]
    have HC := Lib.hid (set_calls _ p F pages s page n ⟨sp, ve, cl, sa⟩ he h2)
    clear h h2 hb hq hc he
    go_enter Try.func18, Try.ntmps18
    go_wp2_with fail
    refine HC.out.mono ?_
    rintro r w3 ⟨rfl, hW⟩
    have HW := Lib.hid (hW.after HB.out)
    clear hW
    go_wp2_with fail
    go_ret
    exact ⟨rfl, HW.out⟩
theorem Hold.keeps {w0 w w' : World} {p pages : Nat} {F : List Nat} {s : RS} {bs G : List Nat} (h : Hold w0 w p F pages s bs) (k : Kept G w w') (hG : ∀ g ∈ G, g ∈ bs) (h0 : ∀ g ∈ G, w0.heap.size ≤ g) : Hold w0 w' p F pages s bs :=
  ⟨h.q.kept k fun x hx hg => (h.out x (hG x hg)).1 hx, h.base, below_kept h.below k h.below.size h0, fun b hb => ⟨(h.out b hb).1, Nat.lt_of_lt_of_le (h.out b hb).2 k.size⟩⟩
end Go.Proofs.Ytldlogmjkbhomaa.Rad
