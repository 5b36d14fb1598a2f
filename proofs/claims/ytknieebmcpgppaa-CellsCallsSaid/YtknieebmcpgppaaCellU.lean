/- The walk of told of layer 2 at a Move that is done. -/
import Derived.Test.YtknieebmcpgppaaCellT
namespace Go.Proofs.Ytknieebmcpgppaa.Cell
open Go.RowKit Go.Proofs.Ytknieebmcpgppaa.Aid
set_option maxHeartbeats 4000000 in
set_option maxRecDepth 100000 in
theorem told3_yes (w : World) (p g c h d : Nat) (bs : List Int) (a n src : Nat) (kw v : Int) (B : Option Addr) (bytes : List Int) (cap : Nat) (hB : Both w p g c h d bs) (hn : a + n ≤ bs.length) (hm : src + n ≤ bs.length) :
    Calls Try.prog 13 #[.pointer (some ⟨p, 0, none⟩), .slice (some ⟨h, 0, none⟩) bs.length d, .agg (Tell.cells ⟨3, a, n, src, kw, v, B, bytes, cap⟩)] w (ToldGives p g c (lay bs a (sub bs src n)) w) := by
  have HB := Lib.hid hB
  have hs := hB.own.small
  have hd : bs.length ≤ d := by simpa using hB.row.cap.1
  have hg := hB.own.row.lt
  have HP := Lib.hid (show partB bs.length a n = true by unfold partB; simp; omega)
  have HQ := Lib.hid (show partB bs.length src n = true by unfold partB; simp; omega)
  have HSL := Lib.hid (sub_len bs src n hm)
  have hdm := hB.row.cap.2
  unfold maxLen at hdm
  clear hB
  unfold Tell.cells
  dsimp only
  go_enter Try.func13, Try.ntmps13
  go_wp2_with fail
  have hX := Blk.new w #[.int .i64 3, .int .i64 (a : Int), .int .i64 (n : Int), .int .i64 (src : Int), .int .i64 kw, .int .u64 v, .slice B bytes.length cap] 42
  have hKW := (Kept.refl [g] w).alloc (.cells #[.int .i64 3, .int .i64 (a : Int), .int .i64 (n : Int), .int .i64 (src : Int), .int .i64 kw, .int .u64 v, .slice B bytes.length cap] 42)
  have hBW := HB.out.alloc (.cells #[.int .i64 3, .int .i64 (a : Int), .int .i64 (n : Int), .int .i64 (src : Int), .int .i64 kw, .int .u64 v, .slice B bytes.length cap] 42)
  have HX := Lib.hid hX
  have HKW := Lib.hid hKW
  have HBW := Lib.hid hBW
  clear hX hKW hBW
  have hbox : w.heap.size ∉ [g] := by simp; omega
  refine (move_yes _ p g c bs a src n HBW.out.own hn hm).mono ?_
  rintro e w3 ⟨rfl, hC3, hk3⟩
  have hX3 := HX.out.kept hk3 hbox
  have HX3 := Lib.hid hX3
  have HC3 := Lib.hid hC3
  have HR3 := Lib.hid (HBW.out.row.kept hk3 (by simpa using HBW.out.ne))
  have HK3 := Lib.hid (HKW.out.trans hk3)
  have c1 := hX3.cell (o := 1) rfl
  have c2 := hX3.cell (o := 2) rfl
  have c3 := hX3.cell (o := 3) rfl
  generalize hb0 : w.heap.size = b at hX3 HX3 c1 c2 c3 ⊢
  have Hb0 := Lib.hid hb0
  have hbl := hX3.lt
  clear hb0 hC3 hk3 HX HKW HBW hX3
  have hs3 := HC3.out.row.lt
  go_wp2_with fail
  refine (in_calls _ _ _ _ (by omega) (by omega)).mono ?_
  rw [HP.out]
  rintro e w' ⟨rfl, rfl⟩
  go_wp2_with fail
  refine (in_calls _ _ _ _ (by omega) (by omega)).mono ?_
  rw [HQ.out]
  rintro e w' ⟨rfl, rfl⟩
  have f1 : IntKind.i64.wrap ((src : Int) + (n : Int)) = (src : Int) + (n : Int) := IntWalk.i64_in _ (by omega)
  have f2 : (0 : Int) ≤ (src : Int) := by omega
  have f3 : (0 : Int) ≤ (src : Int) + (n : Int) := by omega
  have f4 : ((src : Int) + (n : Int)).toNat = src + n := by omega
  have f5 : (src : Int) ≤ (src : Int) + (n : Int) := by omega
  have f6 : (src : Int) + (n : Int) ≤ (d : Int) := by omega
  have f7 : src ≤ src + n := by omega
  have f8 : src + n ≤ d := by omega
  have hsubi := ints_sub HR3.out.ints src n hm
  rw [Nat.zero_add] at hsubi
  have HSUB := Lib.hid (show Ints w3.drew .u8 (some ⟨h, src, none⟩) (sub bs src n) from hsubi)
  have HR3d := Lib.hid (show Ints w3.drew .u8 (some ⟨h, 0, none⟩) bs from HR3.out.ints)
  clear hsubi
  by_cases hds : d = src
  · obtain rfl : n = 0 := by omega
    subst hds
    clear f1 f3 f4 f5 f6 f7 f8
    have f1 : IntKind.i64.wrap (d : Int) = (d : Int) := IntWalk.i64_in _ (by omega)
    have f6 : (d : Int) ≤ (d : Int) := by omega
    have hsub : sub bs d 0 = [] := by simp [sub]
    rw [hsub] at HC3 ⊢
    clear hsub
    go_wp2_with fail
    go_region_held3 (fun w' => w'.cell? ⟨b, 1, none⟩ = some (.int .i64 (a : Int)) ∧ w'.cell? ⟨b, 2, none⟩ = some (.int .i64 0) ∧ w'.cell? ⟨b, 3, none⟩ = some (.int .i64 (d : Int)))
      (first | go_keep | exact ⟨((bcell hb5).1 _ _ hbl).trans c1, ((bcell hb5).1 _ _ hbl).trans c2, ((bcell hb5).1 _ _ hbl).trans c3⟩)
      ((go_at_call 26; go_loud (refine (rput_yes _ h 0 d bs a _ _ [] 0 rfl HR3d.out (ints_nil _ _ _) (fun h => by cases h) hd hn hs).mono ?_; rintro e w5 ⟨g5, d5, rfl, hr5, hg5, hb5'⟩; have hb5 := undrew hb5'; clear hb5'; have HR5 := Lib.hid hr5; clear hr5)))
    have hne : g5 ≠ g := by have : w3.heap.size ≤ g5 := hg5; omega
    clear c1 c2 c3
    go_wp2_with fail
    go_ret2
    exact ⟨g5, d5, rfl, ⟨HC3.out.below hb5, HR5.out, hne⟩, HK3.out.and_below hb5⟩
  · go_wp2_with fail
    go_region_held3 (fun w' => w'.cell? ⟨b, 1, none⟩ = some (.int .i64 (a : Int)) ∧ w'.cell? ⟨b, 2, none⟩ = some (.int .i64 (n : Int)) ∧ w'.cell? ⟨b, 3, none⟩ = some (.int .i64 (src : Int)))
      (first | go_keep | exact ⟨((bcell hb5).1 _ _ hbl).trans c1, ((bcell hb5).1 _ _ hbl).trans c2, ((bcell hb5).1 _ _ hbl).trans c3⟩)
      ((go_at_call 26; go_loud (refine (rput_yes _ h 0 d bs a _ _ (sub bs src n) n HSL.out HR3d.out HSUB.out (fun h => by cases h) hd (by rw [HSL.out]; exact hn) hs).mono ?_; rintro e w5 ⟨g5, d5, rfl, hr5, hg5, hb5'⟩; have hb5 := undrew hb5'; clear hb5'; have HR5 := Lib.hid hr5; clear hr5)))
    have hne : g5 ≠ g := by have : w3.heap.size ≤ g5 := hg5; omega
    clear c1 c2 c3
    go_wp2_with fail
    go_ret2
    exact ⟨g5, d5, rfl, ⟨HC3.out.below hb5, HR5.out, hne⟩, HK3.out.and_below hb5⟩
end Go.Proofs.Ytknieebmcpgppaa.Cell
