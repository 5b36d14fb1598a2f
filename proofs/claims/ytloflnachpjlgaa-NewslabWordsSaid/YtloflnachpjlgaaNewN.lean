/- Slabs of the new layout: With, New, On. -/
import Derived.Test.YtloflnachpjlgaaNewM
set_option linter.unusedSimpArgs false
namespace Go.Proofs.Ytloflnachpjlgaa.New
open Go.RowKit Go.Proofs.Ytloflnachpjlgaa.Aid Go.Proofs.Ytloflnachpjlgaa.Cell
/-- May a slab of a class stand there? -/
def newOk (bs : List Int) (b c : Int) : Prop := 0 ≤ b ∧ b % 1024 = 0 ∧ b + 1024 ≤ bs.length ∧ sizeN c ≠ 0
def newN (b c : Nat) : Sn := ⟨b, c, (sizeN c).toNat, 1024 / (sizeN c).toNat, -1, 0⟩
theorem newOk_c {bs : List Int} {b c : Int} (h : newOk bs b c) : 0 ≤ b ∧ 0 ≤ c ∧ c < 12 := by
  rcases sizeN_bounds c with e | ⟨h1, _⟩
  · exact absurd e h.2.2.2
  · exact ⟨h.1, h1⟩
theorem newN_ok {bs : List Int} {b c : Nat} (h : newOk bs b c) (hb : Byt bs) (hs : bs.length ≤ 1048576) : OkN (newN b c) bs := by
  obtain ⟨h1, h2, h3, h4⟩ := h
  rcases sizeN_bounds (c : Int) with e | ⟨⟨e1, e2⟩, e3, e4⟩
  · exact absurd e h4
  · refine ⟨?_, hs, hb, ?_, ?_, ?_, rfl, by show (-1 : Int) ≤ -1; omega, ?_, Nat.zero_le _⟩
    · show b + 1024 ≤ bs.length
      omega
    · show c < 12
      omega
    · show 8 ≤ (sizeN c).toNat
      omega
    · show (sizeN c).toNat ≤ 512
      omega
    · exact Int.lt_of_lt_of_le (by decide : (-1 : Int) < 0) (Int.natCast_nonneg _)
theorem newN_size {bs : List Int} {b c : Nat} (h : newOk bs b c) : sizeN c = ((newN b c).z : Int) := by
  rcases sizeN_bounds (c : Int) with e | ⟨_, e3, _⟩
  · exact absurd e h.2.2.2
  · show sizeN c = (((sizeN c).toNat : Nat) : Int)
    omega
theorem newN_list (b c : Nat) (bs : List Int) : ListOf (newN b c) bs [] := ⟨rfl, List.nodup_nil, rfl⟩
theorem and1023 (b : Nat) (h : b < 9223372036854775808) : Go.bits .and .i64 (b : Int) 1023 = ((b % 1024 : Nat) : Int) := by
  rw [show (1023 : Int) = ((1023 : Nat) : Int) from rfl, i64_and_nat _ _ (by omega) (by omega), show (1023 : Nat) = 2 ^ 10 - 1 from rfl, Nat.and_two_pow_sub_one_eq_mod]
section
variable (w : World) (mp mg mc : Nat) (bs : List Int) (h : CellAt w mp mg mc bs)
include h
set_option maxHeartbeats 1000000 in
theorem empty_no (b c : Int) (hb : b < 9223372036854775808) (hn : ¬ newOk bs b c) : Calls Try.prog 52 #[.pointer (some ⟨mp, 0, none⟩), .int .i64 b, .int .i64 c] w fun e w' => e = .returned (.tuple #[.pointer none, .int .i64 11]) ∧ Below w.heap.size w w' := by
  have HS := Lib.hid (tsize_calls c w)
  have HL := Lib.hid (fun (W : World) (hb : Below w.heap.size w W) => Cell.len_calls W mp mg mc bs (h.below hb))
  have hsm := h.small
  clear h
  unfold newOk at hn
  generalize sizeN c = z at *
  generalize bs.length = n at *
  have hsub : IntKind.i64.wrap ((n : Int) - 1024) = (n : Int) - 1024 := IntWalk.i64_in _ (by omega)
  by_cases h0 : b < 0
  · clear hn hb
    go_enter Try.func52, Try.ntmps52
    go_wp2_with fail
    refine HS.out.mono ?_
    rintro e w1 ⟨rfl, hb⟩
    have H1 := Lib.hid hb
    clear hb
    go_wp2_with fail
    go_ret2
    exact ⟨rfl, H1.out⟩
  · obtain ⟨m, rfl⟩ := Int.eq_ofNat_of_zero_le (show 0 ≤ b by omega)
    have ha := and1023 m (by omega)
    have hm0 : (0 : Int) ≤ (m : Int) := by omega
    clear hb h0
    by_cases h1 : m % 1024 = 0
    · rw [h1] at ha
      by_cases h2 : (n : Int) - 1024 < (m : Int)
      · clear hn h1
        go_enter Try.func52, Try.ntmps52
        go_wp2_with fail
        refine HS.out.mono ?_
        rintro e w1 ⟨rfl, hb⟩
        have H1 := Lib.hid hb
        clear hb
        go_wp2_with fail
        refine (HL.out w1 H1.out).mono ?_
        rintro e w2 ⟨rfl, rfl⟩
        go_wp2_with fail
        go_ret2
        exact ⟨rfl, H1.out⟩
      · have h3 : z = 0 := by
          by_cases e : z = 0
          · exact e
          · exact absurd ⟨by omega, by omega, by omega, e⟩ hn
        subst h3
        clear hn h1
        go_enter Try.func52, Try.ntmps52
        go_wp2_with fail
        refine HS.out.mono ?_
        rintro e w1 ⟨rfl, hb⟩
        have H1 := Lib.hid hb
        clear hb
        go_wp2_with fail
        refine (HL.out w1 H1.out).mono ?_
        rintro e w2 ⟨rfl, rfl⟩
        go_wp2_with fail
        go_ret2
        exact ⟨rfl, H1.out⟩
    · have h3 : (((m % 1024 : Nat) : Int) == 0) = false := by rw [beq_eq_false_iff_ne]; omega
      clear hn
      generalize m % 1024 = r at *
      go_enter Try.func52, Try.ntmps52
      go_wp2_with fail
      refine HS.out.mono ?_
      rintro e w1 ⟨rfl, hb⟩
      have H1 := Lib.hid hb
      clear hb
      go_wp2_with fail
      go_ret2
      exact ⟨rfl, H1.out⟩
set_option maxHeartbeats 1000000 in
theorem empty_yes (b c : Nat) (hn : newOk bs b c) : Calls Try.prog 52 #[.pointer (some ⟨mp, 0, none⟩), .int .i64 b, .int .i64 c] w fun e w' => ∃ p, e = .returned (.tuple #[.pointer (some ⟨p, 0, none⟩), .int .i64 0]) ∧ SnP w' p mp mg mc (newN b c) bs ∧ w.heap.size ≤ p ∧ Below w.heap.size w w' := by
  have HS := Lib.hid (tsize_calls c w)
  have HL := Lib.hid (fun (W : World) (hb : Below w.heap.size w W) => Cell.len_calls W mp mg mc bs (h.below hb))
  have hok := newN_ok hn h.byt h.small
  have hsz := newN_size hn
  rw [hsz] at HS
  have hsm := h.small
  have hfit : b + 1024 ≤ bs.length := hok.hi
  have ha := and1023 b (by omega)
  rw [show b % 1024 = 0 by have := hn.2.1; omega] at ha
  have hz1 := hok.z1
  have hnz := hok.nz
  have HX := Lib.hid (And.intro h (And.intro hok (show newN b c = ⟨b, c, (newN b c).z, (newN b c).n, -1, 0⟩ from rfl)))
  clear h hn hok hsz
  generalize (newN b c).z = z at *
  generalize (newN b c).n = nn at *
  have hwn : wrap64 (nn : Int) = (nn : Int) := by
    have : nn ≤ 1024 := by rw [hnz]; exact Nat.div_le_self _ _
    unfold wrap64
    omega
  have hdiv : (1024 : Int).tdiv (z : Int) = (nn : Int) := by
    rw [Int.tdiv_eq_ediv_of_nonneg (by omega), hnz]
    simp
  have hz0 : ((z : Int) == 0) = false := by rw [beq_eq_false_iff_ne]; omega
  have hz9 : ¬ (z : Int) = 0 := by omega
  have hz8 : ¬ z = 0 := by omega
  generalize bs.length = n at *
  have hsub : IntKind.i64.wrap ((n : Int) - 1024) = (n : Int) - 1024 := IntWalk.i64_in _ (by omega)
  have h2 : ¬ (n : Int) - 1024 < (b : Int) := by omega
  clear hnz
  go_enter Try.func52, Try.ntmps52
  go_wp2_with fail
  refine HS.out.mono ?_
  rintro e w1 ⟨rfl, hb⟩
  have H1 := Lib.hid hb
  clear hb
  go_wp2_with fail
  refine (HL.out w1 H1.out).mono ?_
  rintro e w2 ⟨rfl, rfl⟩
  go_wp2_with fail
  go_ret2
  refine ⟨w1.heap.size, rfl, ⟨?_, (HX.out.1.below H1.out).alloc _, ?_, ?_, HX.out.2.1⟩, H1.out.size, H1.out.alloc H1.out.size _⟩
  · rw [HX.out.2.2]
    exact Blk.new w1 _ _
  · have := (HX.out.1.below H1.out).head.lt
    omega
  · have := (HX.out.1.below H1.out).row.lt
    omega
end
/-- Slots that a slab begins with: the taken ones. -/
def tkGo (n : Nat) : List Int → List Nat → Option (List Nat)
  | [], seen => some seen
  | a :: r, seen => if 0 ≤ a ∧ a < n ∧ a.toNat ∉ seen then tkGo n r (seen ++ [a.toNat]) else none
theorem tkGo_step {n : Nat} {vs : List Int} {k : Nat} (hk : k < vs.length) (seen : List Nat) : tkGo n (vs.drop k) seen = if 0 ≤ vs.getD k 0 ∧ vs.getD k 0 < n ∧ (vs.getD k 0).toNat ∉ seen then tkGo n (vs.drop (k + 1)) (seen ++ [(vs.getD k 0).toNat]) else none := by
  have hd : vs.drop k = vs.getD k 0 :: vs.drop (k + 1) := by
    rw [List.drop_eq_getElem_cons hk]
    simp [List.getD_eq_getElem?_getD, hk]
  rw [hd, tkGo]
theorem setB_marks (n : Nat) (T : List Nat) (a : Int) : Bit.setB (marks n T) a true = decide (0 ≤ a ∧ a < n ∧ a.toNat ∉ T) := by
  by_cases h : 0 ≤ a ∧ a < n
  · obtain ⟨k, rfl⟩ := Int.eq_ofNat_of_zero_le h.1
    have hk : k < n := by omega
    rw [marks_setB T hk]
    simp [hk]
  · unfold Bit.setB
    rw [Bit.inR_no _ _ (by rw [marks_len]; omega)]
    have : ¬ (0 ≤ a ∧ a < n ∧ a.toNat ∉ T) := fun e => h ⟨e.1, e.2.1⟩
    simp [this]
theorem setL_marks {n : Nat} {T : List Nat} {a : Int} (h : 0 ≤ a ∧ a < n) : Bit.setL (marks n T) a true = marks n (T ++ [a.toNat]) := by
  obtain ⟨k, rfl⟩ := Int.eq_ofNat_of_zero_le h.1
  exact marks_setL T (by omega)
/-- The free ones, from the last one down. -/
def downs (n : Nat) (T : List Nat) : Nat → List Nat
  | 0 => []
  | d + 1 => if n - 1 - d ∈ T then downs n T d else downs n T d ++ [n - 1 - d]
theorem downs_mem {n : Nat} {T : List Nat} : ∀ {d : Nat}, d ≤ n → ∀ k ∈ downs n T d, n - d ≤ k ∧ k < n
  | 0, _, k, hk => by simp [downs] at hk
  | d + 1, hd, k, hk => by
    unfold downs at hk
    split at hk
    · have := downs_mem (by omega) k hk
      omega
    · rcases List.mem_append.1 hk with e | e
      · have := downs_mem (by omega) k e
        omega
      · have : k = n - 1 - d := by simpa using e
        omega
theorem downs_fit (b c n : Nat) (T : List Nat) (hn : n = (newN b c).n) : ∀ d, d ≤ n → Fit (newN b c) [] (downs n T d)
  | 0, _ => ⟨by simp [downs], List.nodup_nil, by simp [downs]⟩
  | d + 1, hd => by
    have ih := downs_fit b c n T hn d (by omega)
    refine ⟨fun k hk => ?_, ?_, by simp⟩
    · have := downs_mem hd k hk
      omega
    · unfold downs
      split
      · exact ih.nd
      · rw [List.nodup_append]
        refine ⟨ih.nd, by simp, fun a ha b hb e => ?_⟩
        have h1 := downs_mem (by omega) a ha
        have h2 : b = n - 1 - d := by simpa using hb
        omega
theorem downs_rev {n : Nat} {T : List Nat} : ∀ {d : Nat}, d ≤ n → (downs n T d).reverse = ((List.range n).drop (n - d)).filter fun k => !decide (k ∈ T)
  | 0, _ => by
    rw [Nat.sub_zero, List.drop_eq_nil_of_le (by simp)]
    rfl
  | d + 1, hd => by
    have ih := downs_rev (T := T) (n := n) (d := d) (by omega)
    have he : (List.range n).drop (n - (d + 1)) = (n - 1 - d) :: (List.range n).drop (n - d) := by
      rw [List.drop_eq_getElem_cons (by simp; omega), List.getElem_range, show n - (d + 1) + 1 = n - d by omega, show n - (d + 1) = n - 1 - d by omega]
    rw [he, List.filter_cons, ← ih]
    rw [show downs n T (d + 1) = if n - 1 - d ∈ T then downs n T d else downs n T d ++ [n - 1 - d] from rfl]
    by_cases h : n - 1 - d ∈ T
    · simp [h]
    · simp [h]
theorem downs_all (n : Nat) (T : List Nat) : (downs n T n).reverse = compl n T := by
  rw [downs_rev (Nat.le_refl _), Nat.sub_self, List.drop_zero]
  rfl
/-- A slab of which some slots are taken. -/
def newS (b c : Nat) (bs : List Int) (T : List Nat) : Sn × List Int := pushes (newN b c, bs) (downs (newN b c).n T (newN b c).n)
theorem newS_ok {b c : Nat} {bs : List Int} (h : newOk bs b c) (hb : Byt bs) (hs : bs.length ≤ 1048576) (T : List Nat) : Pushed (newN b c) bs (compl (newN b c).n T) (newS b c bs T) := by
  have := pushes_ok (downs (newN b c).n T (newN b c).n) (newN_ok h hb hs) (newN_list b c bs) (downs_fit b c _ T rfl _ (Nat.le_refl _))
  rw [downs_all, List.append_nil] at this
  exact this
end Go.Proofs.Ytloflnachpjlgaa.New
