/- The contracts of package cells' methods that make or copy: New, Read, Write, Move, Clone. -/
import Derived.Test.YtloflnachpjlgaaCellB
import Derived.Test.YtloflnachpjlgaaAidApp
namespace Go.Proofs.Ytloflnachpjlgaa.Cell
open Go.RowKit Go.Proofs.Ytloflnachpjlgaa.Aid
theorem info_u8 : (Try.prog.info? 5).map (fun i => (i.zero, i.size, i.bytes)) = some (some (.int .u8 0), 1, 1) := by kernel_rfl
/-- A slice of bytes that the call has made, and nothing else. -/
def Fresh (xs : List Int) (w : World) (e : Ending) (w' : World) : Prop :=
  ∃ g c, e = .returned (.slice (some ⟨g, 0, none⟩) xs.length c) ∧ Row w' 5 g c (xs.map (.int .u8)) ∧ w.heap.size ≤ g ∧ Below w.heap.size w w'
theorem clone_some (w : World) (ad : Addr) (c n : Nat) (xs : List Int) (h : Ints w .u8 (some ad) xs) (hl : xs.length ≤ 1048576) (hn : xs.length = n) :
    Calls Try.prog 61 #[.slice (some ad) n c] w (Fresh xs w) := by
  subst hn
  have q := fun (w : World) (a : Option Addr) (n c n' c' : Nat) => Lib.run_eql_slice_nil (P := Try.prog) w _ _ a n c n' c' Try.underlying45
  go_enter Try.func61, Try.ntmps61
  go_wp2_with (at_builtin; refine append_all rfl _ _ 45 rfl w.heap.size 5 .u8 1 Try.underlying45 info_u8 _ [] rfl (Own.lit0 w w.heap.size (Nat.le_refl _) 5 .u8) xs ad c rfl (h.below ((Below.refl _ _).alloc (Nat.le_refl _) _)) (by simp; omega) (by simp; omega) (by simp) ?_)
  intro v' w' hown hb _ hn
  obtain ⟨g, c', rfl, hlen, hrow, hg⟩ := Row.of_own hown hn
  have hb' : Below w.heap.size w w' := ((Below.refl _ _).alloc (Nat.le_refl _) _).trans hb
  have HR := Lib.hid hrow
  clear hown hn hlen hrow h hb
  go_wp2
  go_ret
  exact ⟨g, c', ret_slice1 rfl, HR.out, hg, hb'⟩
theorem new_yes (w : World) (n : Nat) (h : n ≤ 1048576) :
    Calls Try.prog 14 #[.int .i64 n] w fun e w' => ∃ p g, e = .returned (.tuple #[.pointer (some ⟨p, 0, none⟩), .int .i64 0]) ∧ CellAt w' p g n (List.replicate n 0) ∧ w.heap.size ≤ p ∧ w.heap.size ≤ g ∧ Below w.heap.size w w' := by
  have h1 : (n : Int) ≤ 1048576 := by omega
  have h2 : (0 : Int) ≤ (n : Int) := by omega
  go_enter Try.func14, Try.ntmps14
  go_wp2_with (at_make; refine make_row _ rfl _ _ 45 rfl 5 Try.underlying45 (.int .u8 0) 1 rfl info_u8 _ _ n rfl rfl (by omega) (by decide) ?_)
  intro w' hrow hlt hb
  have HR := Lib.hid hrow
  clear hrow
  go_wp2
  go_ret2
  refine ⟨_, _, rfl, ⟨by omega, ?_, ?_, Byt.rep (by omega) (by omega) n, by simpa using h⟩, Nat.le_of_lt hlt, Nat.le_refl _, below_alloc hb (Nat.le_of_lt hlt) _⟩
  · have := Blk.new w' #[.slice (some ⟨w.heap.size, 0, none⟩) n n] 95
    rw [List.length_replicate]; exact this
  · have := HR.out.alloc (.cells #[.slice (some ⟨w.heap.size, 0, none⟩) n n] 95)
    rw [List.map_replicate]; exact this
theorem new_no (w : World) (n : Int) (h : n < 0 ∨ 1048576 < n) :
    Calls Try.prog 14 #[.int .i64 n] w fun e w' => e = .returned (.tuple #[.pointer none, .int .i64 11]) ∧ w = w' := by
  by_cases h0 : n < 0
  · clear h
    go_enter Try.func14, Try.ntmps14
    go_wp2
    go_ret2
    exact ⟨rfl, rfl⟩
  · have h1 : 0 ≤ n := by omega
    have h2 : 1048576 < n := by omega
    clear h
    go_enter Try.func14, Try.ntmps14
    go_wp2
    go_ret2
    exact ⟨rfl, rfl⟩
/-- Some bytes of a memory. -/
def sub (bs : List Int) (a n : Nat) : List Int := (bs.drop a).take n
theorem sub_len (bs : List Int) (a n : Nat) (h : a + n ≤ bs.length) : (sub bs a n).length = n := by simp [sub]; omega
theorem sub_get (bs : List Int) (a n k : Nat) (h : k < n) : (sub bs a n).getD k 0 = bs.getD (a + k) 0 := by
  simp [sub, List.getD_eq_getElem?_getD, h]
theorem CellAt.sub {w : World} {p g c : Nat} {bs : List Int} (h : CellAt w p g c bs) (a n : Nat) (hn : a + n ≤ bs.length) (ad : Addr) (had : 0 < n → ad = ⟨g, a, none⟩) : Ints w .u8 (some ad) (sub bs a n) := fun k hk => by
  rw [sub_len _ _ _ hn] at hk
  refine ⟨g, a, by rw [had (by omega)], h.row.lt, ?_⟩
  rw [sub_get _ _ _ _ hk]
  exact h.byte (by omega)
theorem Byt.sub {bs : List Int} (h : Byt bs) (a n : Nat) (hn : a + n ≤ bs.length) : Byt (sub bs a n) := fun k hk => by
  rw [sub_len _ _ _ hn] at hk
  rw [sub_get _ _ _ _ hk]
  exact h _ (by omega)
/-- What Read gives. -/
def ReadGives (xs : List Int) (w : World) (e : Ending) (w' : World) : Prop :=
  ∃ g c, e = .returned (.tuple #[.slice (some ⟨g, 0, none⟩) xs.length c, .int .i64 0]) ∧ Row w' 5 g c (xs.map (.int .u8)) ∧ w.heap.size ≤ g ∧ Below w.heap.size w w'
theorem read_yes (w : World) (p g c : Nat) (bs : List Int) (a n : Nat) (h : CellAt w p g c bs) (hn : a + n ≤ bs.length) :
    Calls Try.prog 18 #[.pointer (some ⟨p, 0, none⟩), .int .i64 a, .int .i64 n] w (ReadGives (sub bs a n) w) := by
  have Hp := Lib.hid (part_yes w p g c bs a n h hn)
  have hs := h.small
  have H := Lib.hid h
  clear h
  go_enter Try.func18, Try.ntmps18
  go_wp2_with fail
  refine Hp.out.mono ?_
  rintro e w' ⟨ad, c', rfl, hA, hc', rfl⟩
  have hi := H.out.sub a n hn ad hA
  have HI := Lib.hid hi
  clear hA hi Hp
  go_wp2_with fail
  refine (clone_some _ ad c' n _ HI.out (by rw [sub_len _ _ _ hn]; omega) (sub_len _ _ _ hn)).mono ?_
  rintro e w1 ⟨g1, c1, rfl, hr1, hg1, hb1⟩
  have HR := Lib.hid hr1
  clear hr1
  go_wp2_with fail
  go_ret2
  exact ⟨g1, c1, rfl, HR.out, hg1, hb1⟩
theorem read_no (w : World) (p g c : Nat) (bs : List Int) (a n : Int) (h : CellAt w p g c bs) (hn : partB bs.length a n = false) :
    Calls Try.prog 18 #[.pointer (some ⟨p, 0, none⟩), .int .i64 a, .int .i64 n] w fun e w' => e = .returned (.tuple #[.slice none 0 0, .int .i64 11]) ∧ w = w' := by
  have Hp := Lib.hid (part_no w p g c bs a n h hn)
  clear h hn
  go_enter Try.func18, Try.ntmps18
  go_wp2_with fail
  refine Hp.out.mono ?_
  rintro e w' ⟨rfl, rfl⟩
  go_wp2_with fail
  go_ret2
  exact ⟨rfl, rfl⟩
/-- Bytes laid over others, all at once. -/
theorem CellAt.lays {w w' : World} {p g c a : Nat} {bs xs : List Int} (h : CellAt w p g c bs) (hl : a + xs.length ≤ bs.length) (hx : Byt xs) (hr : Row w' 5 g c (lay (bs.map (.int .u8)) a (xs.map (.int .u8)))) (hk : Kept [g] w w') : CellAt w' p g c (lay bs a xs) := by
  refine ⟨h.ne, ?_, ?_, h.byt.lay hx hl, by rw [lay_len _ _ _ hl]; exact h.small⟩
  · rw [lay_len _ _ _ hl]
    exact h.head.kept hk (by have := h.ne; simpa using this)
  · have : (lay bs a xs).map (Value.int .u8) = lay (bs.map (.int .u8)) a (xs.map (.int .u8)) := by simp [lay, List.map_drop, List.map_take]
    rw [this]; exact hr
theorem copies {w : World} {ad : Addr} {q : IntKind} {xs : List Int} (h : Ints w q (some ad) xs) : ∀ (j : Nat) (v : Value), (xs.map (Value.int q))[j]? = some v → w.cell? (ad.add j) = some v := by
  intro j u hj
  have hj' : j < xs.length := by
    have := (List.getElem?_eq_some_iff.1 hj).1
    simpa using this
  obtain ⟨b, o', e', hlt, h1⟩ := h j hj'
  cases e'
  rw [Go.WideShapes.add_plain, h1]
  simp [hj'] at hj
  simp [hj', ← hj]
theorem ints_some {w : World} {q : IntKind} {A : Option Addr} {xs : List Int} (h : Ints w q A xs) (hl : 0 < xs.length) : ∃ ad, A = some ad := by
  obtain ⟨b, o, e, _⟩ := h 0 hl
  exact ⟨_, e⟩
theorem ints_one (q : IntKind) (xs : List Int) : ∀ v ∈ xs.map (Value.int q), v.oneCell' = true := by
  intro u hu
  simp at hu
  obtain ⟨y, _, rfl⟩ := hu
  rfl
theorem write_yes (w : World) (p g c : Nat) (bs : List Int) (a : Nat) (A : Option Addr) (c1 : Nat) (xs : List Int) (h : CellAt w p g c bs) (hx : Ints w .u8 A xs) (hxb : Byt xs) (hn : a + xs.length ≤ bs.length) :
    Calls Try.prog 67 #[.pointer (some ⟨p, 0, none⟩), .int .i64 a, .slice A xs.length c1] w (Wrote p g c (lay bs a xs) (.int .i64 0) w) := by
  have Hp := Lib.hid (part_yes w p g c bs a xs.length h hn)
  have HX := Lib.hid hx
  have HB := Lib.hid hxb
  have hs := h.small
  have H := Lib.hid h
  clear h hx hxb
  go_enter Try.func67, Try.ntmps67
  go_wp2_with fail
  refine Hp.out.mono ?_
  rintro e w' ⟨ad, c', rfl, hA, hc', rfl⟩
  have HA := Lib.hid hA
  clear hA Hp
  go_wp2_with (with_reducible refine copy_row rfl (.tmp 19) (.tmp 20) _ _ rfl 5 Try.underlying45 (by kernel_rfl) (some ad) A _ _ _ _ rfl rfl 5 g a c _ H.out.row (xs.map (Value.int .u8)) (by simp) ?_ (by simp; omega) (ints_one _ _) ?_)
  · intro hpos
    have hp : 0 < xs.length := by simpa using hpos
    obtain ⟨ad', rfl⟩ := ints_some HX.out hp
    exact ⟨by rw [HA.out hp], ad', rfl, copies HX.out⟩
  · intro w1 hr hk
    have HR := Lib.hid hr
    clear hr
    go_wp2
    go_ret
    exact ⟨rfl, H.out.lays hn HB.out HR.out hk, hk⟩
theorem write_no (w : World) (p g c : Nat) (bs : List Int) (a : Int) (A : Option Addr) (c1 n : Nat) (h : CellAt w p g c bs) (hn : partB bs.length a n = false) :
    Calls Try.prog 67 #[.pointer (some ⟨p, 0, none⟩), .int .i64 a, .slice A n c1] w fun e w' => e = .returned (.int .i64 11) ∧ w = w' := by
  have Hp := Lib.hid (part_no w p g c bs a n h hn)
  clear h hn
  go_enter Try.func67, Try.ntmps67
  go_wp2_with fail
  refine Hp.out.mono ?_
  rintro e w' ⟨rfl, rfl⟩
  go_wp2_with fail
  go_ret
  exact ⟨rfl, rfl⟩
theorem part_any (w : World) (p g c : Nat) (bs : List Int) (a n : Int) (h : CellAt w p g c bs) :
    Calls Try.prog 60 #[.pointer (some ⟨p, 0, none⟩), .int .i64 a, .int .i64 n] w fun e w' => (∃ A m k t, e = .returned (.tuple #[.slice A m k, .bool t])) ∧ w = w' := by
  cases hp : partB bs.length a n
  · exact (part_no w p g c bs a n h hp).mono fun e w' ⟨he, hw⟩ => ⟨⟨_, _, _, _, he⟩, hw⟩
  · obtain ⟨h1, h2, h3, h4⟩ := partB_true hp
    obtain ⟨a', rfl⟩ := Int.eq_ofNat_of_zero_le h2
    obtain ⟨n', rfl⟩ := Int.eq_ofNat_of_zero_le h1
    exact (part_yes w p g c bs a' n' h (by omega)).mono fun e w' ⟨ad, c', he, _, _, hw⟩ => ⟨⟨_, _, _, _, he⟩, hw⟩
theorem clone_calls (w : World) (p g c : Nat) (bs : List Int) (h : CellAt w p g c bs) :
    Calls Try.prog 39 #[.pointer (some ⟨p, 0, none⟩)] w fun e w' => ∃ p' g' c', e = .returned (.pointer (some ⟨p', 0, none⟩)) ∧ CellAt w' p' g' c' bs ∧ w.heap.size ≤ p' ∧ w.heap.size ≤ g' ∧ Below w.heap.size w w' := by
  have hc := h.head.cell (o := 0) rfl
  have hs := h.small
  have hi : Ints w .u8 (some ⟨g, 0, none⟩) bs := fun k hk => ⟨g, 0, rfl, h.row.lt, by rw [Nat.zero_add]; exact h.byte hk⟩
  have HI := Lib.hid hi
  have H := Lib.hid h
  clear hi h
  go_enter Try.func39, Try.ntmps39
  go_wp2_with fail
  refine (clone_some _ _ c _ _ HI.out hs rfl).mono ?_
  rintro e w1 ⟨g1, c1, rfl, hr1, hg1, hb1⟩
  have HR := Lib.hid hr1
  clear hr1 hc
  go_wp2_with fail
  go_ret
  refine ⟨_, g1, c1, rfl, ⟨?_, Blk.new _ _ _, HR.out.alloc _, H.out.byt, hs⟩, hb1.size, hg1, below_alloc hb1 hb1.size _⟩
  have := HR.out.lt; omega
end Go.Proofs.Ytloflnachpjlgaa.Cell
