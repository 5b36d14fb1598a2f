/- The walk of the law's own function told of layer 2: a call on the program's memory and on the document's bytes leaves the same bytes, and both answer alike. -/
import Derived.Test.YtknieebmcpgppaaCellW
import Derived.Deep.RegionHeld3
namespace Go.Proofs.Ytknieebmcpgppaa.Cell
open Go.RowKit Go.Proofs.Ytknieebmcpgppaa.Aid
theorem ints_sub {w : World} {b o : Nat} {bs : List Int} (h : Ints w .u8 (some ⟨b, o, none⟩) bs) (a n : Nat) (hn : a + n ≤ bs.length) : Ints w .u8 (some ⟨b, o + a, none⟩) (sub bs a n) := fun k hk => by
  rw [sub_len _ _ _ hn] at hk
  obtain ⟨b', o', e, hlt, hc⟩ := h (a + k) (by omega)
  cases e
  exact ⟨b, o + a, rfl, hlt, by rw [Nat.add_assoc, hc, sub_get _ _ _ _ hk]⟩
/-- A call. -/
structure Tell where
  what : Int
  at_ : Int
  n : Int
  src : Int
  w : Int
  v : Int
  B : Option Addr
  bytes : List Int
  cap : Nat
def Tell.cells (x : Tell) : Array Value := #[.int .i64 x.what, .int .i64 x.at_, .int .i64 x.n, .int .i64 x.src, .int .i64 x.w, .int .u64 x.v, .slice x.B x.bytes.length x.cap]
/-- The bytes behind a call. -/
def stepB (x : Tell) (bs : List Int) : List Int :=
  if x.what = 0 then (if (widthB x.w && partB bs.length x.at_ x.w) = true then lay bs x.at_.toNat (bytesTo x.v x.w.toNat) else bs)
  else if x.what = 1 then (if partB bs.length x.at_ x.bytes.length = true then lay bs x.at_.toNat x.bytes else bs)
  else if x.what = 2 then (if partB bs.length x.at_ x.n = true then lay bs x.at_.toNat (List.replicate x.n.toNat (IntKind.u8.wrap x.v)) else bs)
  else if x.what = 3 then (if (partB bs.length x.at_ x.n && partB bs.length x.src x.n) = true then lay bs x.at_.toNat (sub bs x.src.toNat x.n.toNat) else bs)
  else bs
/-- What the law holds ahead of a call and behind it. -/
structure Both (w : World) (p g c h d : Nat) (bs : List Int) : Prop where
  own : CellAt w p g c bs
  row : Row w 5 h d (bs.map (.int .u8))
  ne : h ≠ g
theorem Both.below {w w' : World} {p g c h d : Nat} {bs : List Int} (x : Both w p g c h d bs) (k : Below w.heap.size w w') : Both w' p g c h d bs := ⟨x.own.below k, x.row.below k, x.ne⟩
theorem Both.alloc {w : World} {p g c h d : Nat} {bs : List Int} (x : Both w p g c h d bs) (o : Obj) : Both (w.alloc o) p g c h d bs := ⟨x.own.alloc o, x.row.alloc o, x.ne⟩
def ToldGives (p g c : Nat) (bs : List Int) (w : World) (e : Ending) (w' : World) : Prop :=
  ∃ h d, e = .returned (.tuple #[.slice (some ⟨h, 0, none⟩) bs.length d, .bool true]) ∧ Both w' p g c h d bs ∧ Kept [g] w w'
/-- The box that holds the call. -/
def BoxT (w : World) (b : Nat) (x : Tell) : Prop := Blk w b x.cells 42
theorem BoxT.cells {w : World} {b : Nat} {x : Tell} (h : BoxT w b x) : w.cell? ⟨b, 0, none⟩ = some (.int .i64 x.what) ∧ w.cell? ⟨b, 1, none⟩ = some (.int .i64 x.at_) ∧ w.cell? ⟨b, 2, none⟩ = some (.int .i64 x.n) ∧ w.cell? ⟨b, 3, none⟩ = some (.int .i64 x.src) ∧
    w.cell? ⟨b, 4, none⟩ = some (.int .i64 x.w) ∧ w.cell? ⟨b, 5, none⟩ = some (.int .u64 x.v) ∧ w.cell? ⟨b, 6, none⟩ = some (.slice x.B x.bytes.length x.cap) :=
  ⟨Blk.cell h rfl, Blk.cell h rfl, Blk.cell h rfl, Blk.cell h rfl, Blk.cell h rfl, Blk.cell h rfl, Blk.cell h rfl⟩
theorem not_le_of_false {a b : Int} (h : (a == b) = false) : ¬ a = b := by simpa using h
set_option maxHeartbeats 4000000 in
set_option maxRecDepth 100000 in
theorem told_else (w : World) (p g c h d : Nat) (bs : List Int) (x : Tell) (hB : Both w p g c h d bs) (h0 : (x.what == 0) = false) (h1 : (x.what == 1) = false) (h2 : (x.what == 2) = false) (h3 : (x.what == 3) = false) :
    Calls Try.prog 13 #[.pointer (some ⟨p, 0, none⟩), .slice (some ⟨h, 0, none⟩) bs.length d, .agg x.cells] w (ToldGives p g c bs w) := by
  have HB := Lib.hid hB
  clear hB
  unfold Tell.cells
  go_enter Try.func13, Try.ntmps13
  go_wp2_with fail
  go_ret2
  exact ⟨h, d, rfl, HB.out.alloc _, (Kept.refl _ _).alloc _⟩
set_option maxHeartbeats 4000000 in
set_option maxRecDepth 100000 in
theorem told0_no (w : World) (p g c h d : Nat) (bs : List Int) (x : Tell) (hB : Both w p g c h d bs) (h0 : x.what = 0) (hn : (widthB x.w && partB bs.length x.at_ x.w) = false) :
    Calls Try.prog 13 #[.pointer (some ⟨p, 0, none⟩), .slice (some ⟨h, 0, none⟩) bs.length d, .agg x.cells] w (ToldGives p g c bs w) := by
  have HB := Lib.hid hB
  have hs := hB.own.small
  have HN := Lib.hid hn
  clear hB hn
  unfold Tell.cells
  rw [h0]
  clear h0
  go_enter Try.func13, Try.ntmps13
  go_wp2_with fail
  refine (rload_no _ bs _ d _ _ HN.out hs).mono ?_
  rintro e w' ⟨rfl, rfl⟩
  go_wp2_with fail
  refine (store_no _ p g c bs _ _ _ (HB.out.own.alloc _) HN.out).mono ?_
  rintro e w' ⟨rfl, rfl⟩
  go_wp2_with fail
  go_ret2
  exact ⟨h, d, rfl, HB.out.alloc _, (Kept.refl _ _).alloc _⟩
set_option maxHeartbeats 4000000 in
set_option maxRecDepth 100000 in
theorem told0_yes (w : World) (p g c h d : Nat) (bs : List Int) (n src v : Int) (B : Option Addr) (bytes : List Int) (cap : Nat) (hB : Both w p g c h d bs) (a k : Nat) (hw : widthB k = true) (hn : a + k ≤ bs.length) :
    Calls Try.prog 13 #[.pointer (some ⟨p, 0, none⟩), .slice (some ⟨h, 0, none⟩) bs.length d, .agg (Tell.cells ⟨0, a, n, src, k, v, B, bytes, cap⟩)] w (ToldGives p g c (lay bs a (bytesTo v k)) w) := by
  have HB := Lib.hid hB
  have hs := hB.own.small
  have HW := Lib.hid hw
  have hk8 : 1 ≤ k ∧ k ≤ 8 := by have := width_cases hw; omega
  have hd : bs.length ≤ d := by simpa using hB.row.cap.1
  have hg := hB.own.row.lt
  have hbt := bytesTo_len v k
  have HT := Lib.hid hbt
  have HTB := Lib.hid (bytesTo_byt v k)
  clear hB hw hbt
  unfold Tell.cells
  dsimp only
  go_enter Try.func13, Try.ntmps13
  go_wp2_with fail
  refine (rload_yes _ bs _ d a k (HB.out.row.alloc _).ints HB.out.own.byt HW.out hn hs).mono ?_
  rintro e w' ⟨rfl, rfl⟩
  go_wp2_with fail
  have hX := Blk.new w #[.int .i64 0, .int .i64 (a : Int), .int .i64 n, .int .i64 src, .int .i64 (k : Int), .int .u64 v, .slice B bytes.length cap] 42
  have hBW := HB.out.alloc (.cells #[.int .i64 0, .int .i64 (a : Int), .int .i64 n, .int .i64 src, .int .i64 (k : Int), .int .u64 v, .slice B bytes.length cap] 42)
  have hKW := (Kept.refl [g] w).alloc (.cells #[.int .i64 0, .int .i64 (a : Int), .int .i64 n, .int .i64 src, .int .i64 (k : Int), .int .u64 v, .slice B bytes.length cap] 42)
  have hbox : w.heap.size ≠ g := by omega
  generalize hb0 : w.heap.size = b at hX hbox ⊢
  have Hb0 := Lib.hid hb0
  clear hb0
  generalize w.alloc (.cells #[.int .i64 0, .int .i64 (a : Int), .int .i64 n, .int .i64 src, .int .i64 (k : Int), .int .u64 v, .slice B bytes.length cap] 42) = W at hX hBW hKW ⊢
  have HBW := Lib.hid hBW
  have HKW := Lib.hid hKW
  have HX := Lib.hid hX
  have c1 := hX.cell (o := 1) rfl
  have c4 := hX.cell (o := 4) rfl
  have c5 := hX.cell (o := 5) rfl
  have hbW := hX.lt
  clear hX hBW hKW HB
  go_region_held3 (fun w' => w'.cell? ⟨b, 1, none⟩ = some (.int .i64 (a : Int)) ∧ w'.cell? ⟨b, 4, none⟩ = some (.int .i64 (k : Int)) ∧ w'.cell? ⟨b, 5, none⟩ = some (.int .u64 v))
    (first | go_keep | exact ⟨((bcell hb2).1 _ _ hbW).trans c1, ((bcell hb2).1 _ _ hbW).trans c4, ((bcell hb2).1 _ _ hbW).trans c5⟩ | exact ⟨((bcell hb23).1 _ _ hbW).trans c1, ((bcell hb23).1 _ _ hbW).trans c4, ((bcell hb23).1 _ _ hbW).trans c5⟩)
    (first
      | (go_at_call 27; refine (rbytes_calls _ v k hk8.1 hk8.2).mono ?_; rintro e w2 ⟨g2, d2, rfl, hr2, hg2, hb2'⟩; have hb2 := undrew hb2'; clear hb2'; have HR2 := Lib.hid hr2; clear hr2)
      | (go_at_call 26; refine (rput_yes _ h 0 d bs a _ d2 (bytesTo v k) _ rfl (HBW.out.row.below hb2).ints HR2.out.ints (fun h => by cases h) hd (by rw [HT.out]; exact hn) hs).mono ?_; rintro e w3 ⟨g3, d3, rfl, hr3, hg3, hb3⟩; have hb23 := below_then hb2 hb3; have HR3 := Lib.hid hr3; clear hr3))
  have e1 := ((bcell hb23).1 _ 1 hbW).trans c1
  have e4 := ((bcell hb23).1 _ 4 hbW).trans c4
  have e5 := ((bcell hb23).1 _ 5 hbW).trans c5
  have HC3 := Lib.hid (HBW.out.own.below hb23)
  have hsz := hb23.size
  have hgW := HBW.out.own.row.lt
  have hsz2 := hb2.size
  have hll := lay_len bs (bytesTo v k) a (by rw [HT.out]; exact hn)
  have Hll := Lib.hid hll
  clear c1 c4 c5 hb2 hb3 hll
  go_wp2_with fail
  refine (store_yes _ p g c bs a k v HC3.out HW.out hn).mono ?_
  rintro e w4 ⟨rfl, hC4, hk4⟩
  have HC4 := Lib.hid hC4
  have hne : g3 ≠ g := by omega
  have HR4 := Lib.hid (HR3.out.kept hk4 (by simpa using hne))
  clear hC4 e1 e4 e5
  go_wp2_with fail
  go_ret2
  exact ⟨g3, d3, rfl, ⟨HC4.out, HR4.out, hne⟩, (HKW.out.and_below hb23).trans hk4⟩
set_option maxHeartbeats 4000000 in
set_option maxRecDepth 100000 in
theorem told1_no (w : World) (p g c h d : Nat) (bs : List Int) (a n src kw v : Int) (B : Option Addr) (bytes : List Int) (cap : Nat) (hB : Both w p g c h d bs) (hn : partB bs.length a bytes.length = false) :
    Calls Try.prog 13 #[.pointer (some ⟨p, 0, none⟩), .slice (some ⟨h, 0, none⟩) bs.length d, .agg (Tell.cells ⟨1, a, n, src, kw, v, B, bytes, cap⟩)] w (ToldGives p g c bs w) := by
  have HB := Lib.hid hB
  have hs := hB.own.small
  have HN := Lib.hid hn
  clear hB hn
  unfold Tell.cells
  dsimp only
  go_enter Try.func13, Try.ntmps13
  go_wp2_with fail
  refine (rput_no _ _ d bs _ _ _ _ HN.out hs).mono ?_
  rintro e w' ⟨rfl, rfl⟩
  go_wp2_with fail
  refine (write_no _ p g c bs _ _ _ _ (HB.out.own.alloc _) HN.out).mono ?_
  rintro e w' ⟨rfl, rfl⟩
  go_wp2_with fail
  go_ret2
  exact ⟨h, d, rfl, HB.out.alloc _, (Kept.refl _ _).alloc _⟩
set_option maxHeartbeats 4000000 in
set_option maxRecDepth 100000 in
theorem told1_yes (w : World) (p g c h d : Nat) (bs : List Int) (a : Nat) (n src kw v : Int) (B : Option Addr) (bytes : List Int) (cap : Nat) (hB : Both w p g c h d bs) (hS : Ints w .u8 B bytes) (hSb : Byt bytes) (hN : B = none → cap = 0) (hn : a + bytes.length ≤ bs.length) :
    Calls Try.prog 13 #[.pointer (some ⟨p, 0, none⟩), .slice (some ⟨h, 0, none⟩) bs.length d, .agg (Tell.cells ⟨1, a, n, src, kw, v, B, bytes, cap⟩)] w (ToldGives p g c (lay bs a bytes) w) := by
  have HB := Lib.hid hB
  have HS := Lib.hid hS
  have HSb := Lib.hid hSb
  have HN := Lib.hid hN
  have hs := hB.own.small
  have hd : bs.length ≤ d := by simpa using hB.row.cap.1
  have hg := hB.own.row.lt
  clear hB hS hSb hN
  unfold Tell.cells
  dsimp only
  go_enter Try.func13, Try.ntmps13
  go_wp2_with fail
  have hX := Blk.new w #[.int .i64 1, .int .i64 (a : Int), .int .i64 n, .int .i64 src, .int .i64 kw, .int .u64 v, .slice B bytes.length cap] 42
  have hKW := (Kept.refl [g] w).alloc (.cells #[.int .i64 1, .int .i64 (a : Int), .int .i64 n, .int .i64 src, .int .i64 kw, .int .u64 v, .slice B bytes.length cap] 42)
  have hbW := (Below.refl w.heap.size w).alloc (Nat.le_refl _) (.cells #[.int .i64 1, .int .i64 (a : Int), .int .i64 n, .int .i64 src, .int .i64 kw, .int .u64 v, .slice B bytes.length cap] 42)
  have HX := Lib.hid hX
  have HKW := Lib.hid hKW
  have HbW := Lib.hid hbW
  clear hX hKW hbW
  refine (rput_yes _ h 0 d bs a B cap bytes _ rfl (HB.out.row.alloc _).ints (HS.out.below HbW.out) HN.out hd hn hs).mono ?_
  rintro e w3 ⟨g3, d3, rfl, hr3, hg3, hb3⟩
  have HR3 := Lib.hid hr3
  have hbw3 := below_then HbW.out hb3
  have c1 := (HX.out.below hb3).cell (o := 1) rfl
  have c6 := (HX.out.below hb3).cell (o := 6) rfl
  have HC3 := Lib.hid (HB.out.own.below hbw3)
  have hk3 := HKW.out.and_below hb3
  have hll := lay_len bs bytes a hn
  have Hll := Lib.hid hll
  have hg3' : w.heap.size ≤ g3 := Nat.le_trans HbW.out.size hg3
  clear hr3 hll hg3
  go_wp2_with fail
  refine (write_yes w3 p g c bs a B cap bytes HC3.out (HS.out.below hbw3) HSb.out hn).mono ?_
  rintro e w4 ⟨rfl, hC4, hk4⟩
  have HC4 := Lib.hid hC4
  have hne : g3 ≠ g := by omega
  have HR4 := Lib.hid (HR3.out.kept hk4 (by simpa using hne))
  clear hC4 c1 c6
  go_wp2_with fail
  go_ret2
  exact ⟨g3, d3, rfl, ⟨HC4.out, HR4.out, hne⟩, hk3.trans hk4⟩
set_option maxHeartbeats 4000000 in
set_option maxRecDepth 100000 in
theorem told2_no (w : World) (p g c h d : Nat) (bs : List Int) (a n src kw v : Int) (B : Option Addr) (bytes : List Int) (cap : Nat) (hB : Both w p g c h d bs) (hn : partB bs.length a n = false) :
    Calls Try.prog 13 #[.pointer (some ⟨p, 0, none⟩), .slice (some ⟨h, 0, none⟩) bs.length d, .agg (Tell.cells ⟨2, a, n, src, kw, v, B, bytes, cap⟩)] w (ToldGives p g c bs w) := by
  have HB := Lib.hid hB
  have hs := hB.own.small
  have HN := Lib.hid hn
  clear hB hn
  unfold Tell.cells
  dsimp only
  go_enter Try.func13, Try.ntmps13
  go_wp2_with fail
  refine (fill_no _ p g c bs _ _ _ (HB.out.own.alloc _) HN.out).mono ?_
  rintro e w' ⟨rfl, rfl⟩
  go_wp2_with fail
  refine (in_calls _ _ _ _ (by omega) (by omega)).mono ?_
  rw [HN.out]
  rintro e w' ⟨rfl, rfl⟩
  go_wp2_with fail
  go_ret2
  exact ⟨h, d, rfl, HB.out.alloc _, (Kept.refl _ _).alloc _⟩
set_option maxHeartbeats 4000000 in
set_option maxRecDepth 100000 in
theorem told2_yes (w : World) (p g c h d : Nat) (bs : List Int) (a n : Nat) (src kw v : Int) (B : Option Addr) (bytes : List Int) (cap : Nat) (hB : Both w p g c h d bs) (hn : a + n ≤ bs.length) :
    Calls Try.prog 13 #[.pointer (some ⟨p, 0, none⟩), .slice (some ⟨h, 0, none⟩) bs.length d, .agg (Tell.cells ⟨2, a, n, src, kw, v, B, bytes, cap⟩)] w (ToldGives p g c (lay bs a (List.replicate n (IntKind.u8.wrap v))) w) := by
  have HB := Lib.hid hB
  have hs := hB.own.small
  have hd : bs.length ≤ d := by simpa using hB.row.cap.1
  have hg := hB.own.row.lt
  have HP := Lib.hid (show partB bs.length a n = true by unfold partB; simp; omega)
  clear hB
  unfold Tell.cells
  dsimp only
  go_enter Try.func13, Try.ntmps13
  go_wp2_with fail
  have hX := Blk.new w #[.int .i64 2, .int .i64 (a : Int), .int .i64 (n : Int), .int .i64 src, .int .i64 kw, .int .u64 v, .slice B bytes.length cap] 42
  have hKW := (Kept.refl [g] w).alloc (.cells #[.int .i64 2, .int .i64 (a : Int), .int .i64 (n : Int), .int .i64 src, .int .i64 kw, .int .u64 v, .slice B bytes.length cap] 42)
  have hBW := HB.out.alloc (.cells #[.int .i64 2, .int .i64 (a : Int), .int .i64 (n : Int), .int .i64 src, .int .i64 kw, .int .u64 v, .slice B bytes.length cap] 42)
  have HX := Lib.hid hX
  have HKW := Lib.hid hKW
  have HBW := Lib.hid hBW
  clear hX hKW hBW
  have hbox : w.heap.size ∉ [g] := by simp; omega
  have hvb := u8_bounds v
  refine (fill_yes _ p g c bs a n _ HBW.out.own hn hvb.1 hvb.2).mono ?_
  rintro e w3 ⟨rfl, hC3, hk3⟩
  have hX3 := HX.out.kept hk3 hbox
  have HX3 := Lib.hid hX3
  have HC3 := Lib.hid hC3
  have HR3 := Lib.hid (HBW.out.row.kept hk3 (by simpa using HBW.out.ne))
  have HK3 := Lib.hid (HKW.out.trans hk3)
  have c1 := hX3.cell (o := 1) rfl
  have c2 := hX3.cell (o := 2) rfl
  generalize hb0 : w.heap.size = b at hX3 HX3 c1 c2 ⊢
  have Hb0 := Lib.hid hb0
  clear hb0 hC3 hk3 HX HKW HBW hX3
  go_wp2_with fail
  refine (in_calls _ _ _ _ (by omega) (by omega)).mono ?_
  rw [HP.out]
  rintro e w' ⟨rfl, rfl⟩
  have hs3 := HC3.out.row.lt
  go_wp2_with fail
  go_loopw [13, 14] (fun s i wr => ∃ j : Nat, i = .int .i64 j ∧ j ≤ n ∧ Own wr w3.heap.size 5 .u8 s (List.replicate j (IntKind.u8.wrap v)) ∧ Below w3.heap.size w3 wr) (fun _ i _ => n - (intOf i).toNat)
  case atStart => exact ⟨0, rfl, by omega, Own.lit0 w3 _ (Nat.le_refl _) _ .u8, (Below.refl _ _).alloc (Nat.le_refl _) _⟩
  case round =>
    obtain ⟨j, rfl, hj, hown, hb⟩ := hrel
    have hsz := hb.size
    have c1 := (HX3.out.below hb).cell (o := 1) rfl
    have c2 := (HX3.out.below hb).cell (o := 2) rfl
    have c5 := (HX3.out.below hb).cell (o := 5) rfl
    have HO := Lib.hid hown
    have HL := Lib.hid hb
    clear hown hb
    by_cases hlt : j < n
    · have hjl : (List.replicate j (IntKind.u8.wrap v)).length ≤ 1048576 := by simp; omega
      have Hs := Lib.hid (show List.replicate (j + 1) (IntKind.u8.wrap v) = List.replicate j (IntKind.u8.wrap v) ++ [IntKind.u8.wrap v] from List.replicate_succ')
      generalize List.replicate j (IntKind.u8.wrap v) = rs at HO hjl Hs
      go_wp2_with (at_builtin; refine append_int rfl _ _ 30 rfl w3.heap.size 5 .u8 1 Try.underlying30 info_u8 _ rs rfl HO.out (IntKind.u8.wrap v) rfl (by omega) (by omega) hsz ?_)
      intro v1 w1 hown1 hb1 _
      have HO1 := Lib.hid hown1
      have HL1 := Lib.hid (HL.out.trans hb1)
      clear hown1 hb1 c1 c2 c5
      go_wp2_with fail
      go_roundw
      case rel => exact ⟨j + 1, by go_num, by omega, by rw [Hs.out]; exact HO1.out, HL1.out⟩
      case measure => simp [intOf]; omega
    · obtain rfl : j = n := by omega
      obtain ⟨A4, c4, rfl, hi4, hA4⟩ := HO.out.src
      have hrl : (List.replicate j (IntKind.u8.wrap v)).length = j := by simp
      have HI4 := Lib.hid hi4
      have Hrl := Lib.hid hrl
      clear hi4 hrl
      generalize hrs : List.replicate j (IntKind.u8.wrap v) = rs at HI4 Hrl ⊢
      have Hrs := Lib.hid hrs
      clear hrs
      go_wp2_with fail
      refine (rput_yes _ h 0 d bs a A4 c4 rs _ rfl (HR3.out.below HL.out).ints HI4.out hA4 hd (by rw [Hrl.out]; exact hn) hs).mono ?_
      rintro e w5 ⟨g5, d5, rfl, hr5, hg5, hb5⟩
      have HR5 := Lib.hid hr5
      have hb35 := below_then HL.out hb5
      have hne : g5 ≠ g := by omega
      have hll := lay_len bs rs a (by rw [Hrl.out]; exact hn)
      have Hll := Lib.hid hll
      clear hr5 hll c1 c2 c5
      go_wp2_with fail
      go_ret2
      rw [Hrs.out]
      exact ⟨g5, d5, rfl, ⟨by have h5 := HC3.out.below hb35; rw [Hrs.out] at h5; exact h5, HR5.out, hne⟩, HK3.out.and_below hb35⟩
set_option maxHeartbeats 4000000 in
set_option maxRecDepth 100000 in
theorem told3_no (w : World) (p g c h d : Nat) (bs : List Int) (a n src kw v : Int) (B : Option Addr) (bytes : List Int) (cap : Nat) (hB : Both w p g c h d bs) (hn : (partB bs.length a n && partB bs.length src n) = false) :
    Calls Try.prog 13 #[.pointer (some ⟨p, 0, none⟩), .slice (some ⟨h, 0, none⟩) bs.length d, .agg (Tell.cells ⟨3, a, n, src, kw, v, B, bytes, cap⟩)] w (ToldGives p g c bs w) := by
  have HB := Lib.hid hB
  have hs := hB.own.small
  have HN := Lib.hid hn
  clear hB hn
  unfold Tell.cells
  dsimp only
  go_enter Try.func13, Try.ntmps13
  go_wp2_with fail
  refine (move_no _ p g c bs _ _ _ (HB.out.own.alloc _) HN.out).mono ?_
  rintro e w' ⟨rfl, rfl⟩
  go_wp2_with fail
  refine (in_calls _ _ _ _ (by omega) (by omega)).mono ?_
  rintro e w' ⟨rfl, rfl⟩
  cases h1 : partB bs.length a n
  · go_wp2_with fail
    go_ret2
    exact ⟨h, d, rfl, HB.out.alloc _, (Kept.refl _ _).alloc _⟩
  · have h2 := HN.out
    rw [h1, Bool.true_and] at h2
    have H2 := Lib.hid h2
    clear h2
    go_wp2_with fail
    refine (in_calls _ _ _ _ (by omega) (by omega)).mono ?_
    rw [H2.out]
    rintro e w' ⟨rfl, rfl⟩
    go_wp2_with fail
    go_ret2
    exact ⟨h, d, rfl, HB.out.alloc _, (Kept.refl _ _).alloc _⟩
end Go.Proofs.Ytknieebmcpgppaa.Cell
