/- Slabs of the new layout: next. -/
import Derived.Test.YtloflnachpjlgaaNewB
set_option linter.unusedSimpArgs false
namespace Go.Proofs.Ytloflnachpjlgaa.New
open Go.RowKit Go.Proofs.Ytloflnachpjlgaa.Aid Go.Proofs.Ytloflnachpjlgaa.Cell
theorem nextO_of {x : Sn} {bs : List Int} {s lv : Nat} (h : ldV bs (x.b + s * x.z) = lv) : nextO x bs s = if (wordOk lv && (slotOf lv == s && (classOf lv == x.c && decide (nextOf lv < x.n)))) = true then some (nextOf lv) else none := by
  subst h
  rfl
section
variable (w : World) (p mp mg mc : Nat) (x : Sn) (bs : List Int) (h : SnP w p mp mg mc x bs)
include h
theorem next_out (s : Int) (hs : s < 0 ∨ (x.n : Int) ≤ s) : Calls Try.prog 91 #[.pointer (some ⟨p, 0, none⟩), .int .i64 s] w fun e w' => e = .returned (.tuple #[.int .i64 (-1), .bool false]) ∧ Below w.heap.size w w' := by
  have HA := Lib.hid (addr_calls w p mp mg mc x bs h s)
  rw [show addrV x s = -1 by unfold addrV; rw [if_neg (by omega)], show decide (0 ≤ s ∧ s < (x.n : Int)) = false by simp; omega] at HA
  clear h hs
  go_enter Try.func91, Try.ntmps91
  go_wp2_with fail
  refine HA.out.mono ?_
  rintro e w1 ⟨rfl, hb⟩
  have H1 := Lib.hid hb
  clear hb
  go_wp2_with fail
  go_ret2
  exact ⟨rfl, H1.out⟩
set_option maxHeartbeats 1000000 in
theorem next_in (s : Nat) (hs : s < x.n) : Calls Try.prog 91 #[.pointer (some ⟨p, 0, none⟩), .int .i64 s] w fun e w' => ∃ v : Int, e = .returned (.tuple #[.int .i64 v, .bool (nextO x bs s).isSome]) ∧ (∀ nx, nextO x bs s = some nx → v = nx) ∧ Below w.heap.size w w' := by
  have HA := Lib.hid (addr_calls w p mp mg mc x bs h s)
  have hat := h.ok.at_ hs
  have hhi := h.ok.hi
  have hz1 := h.ok.z1
  have hld := ld_lt h.ok.byt (a := x.b + s * x.z) (by omega)
  have hav : addrV x (s : Int) = ((x.b + s * x.z : Nat) : Int) := by unfold addrV; rw [if_pos (by omega)]; push_cast; rfl
  rw [hav, show decide ((0 : Int) ≤ (s : Int) ∧ (s : Int) < (x.n : Int)) = true by simp; omega] at HA
  have HLD := Lib.hid (fun W hb => load_yes W mp mg mc bs (x.b + s * x.z) 8 ((h.below hb).mem) rfl (by omega))
  rw [hld.1] at HLD
  have HUN := Lib.hid (fun W => unword_calls (ldV bs (x.b + s * x.z)) hld.2 W)
  have HC := Lib.hid (fun (W : World) (hb : Below w.heap.size w W) => (h.below hb).cells)
  have HNX := Lib.hid (nextO_of (x := x) (bs := bs) (s := s) rfl)
  clear h hat hhi hz1 hld hav
  generalize ldV bs (x.b + s * x.z) = lv at *
  generalize x.b + s * x.z = ad at *
  have hs0 : (0 : Int) ≤ (s : Int) := by omega
  go_enter Try.func91, Try.ntmps91
  go_wp2_with fail
  refine HA.out.mono ?_
  rintro e w1 ⟨rfl, hb⟩
  have H1 := Lib.hid hb
  obtain ⟨d0, _⟩ := HC.out w1 hb
  clear hb
  go_wp2_with fail
  refine (HLD.out w1 H1.out).mono ?_
  rintro e w2 ⟨rfl, rfl⟩
  go_wp2_with fail
  refine (HUN.out w1).mono ?_
  rintro e w2 ⟨rfl, hb⟩
  have H2 := Lib.hid (below_then H1.out hb)
  obtain ⟨_, _, e2, _, e4, _⟩ := HC.out w2 H2.out
  clear hb H1 d0 HLD HUN
  cases hok : wordOk lv with
  | false =>
    rw [hok] at HNX
    have hn : nextO x bs s = none := by rw [HNX.out]; rfl
    have HN := Lib.hid hn
    clear hn hok HNX
    rw [if_neg (by decide)]
    go_wp2_with fail
    go_quiet (fail)
    go_wp2_with fail
    go_ret2
    exact ⟨0, by rw [HN.out]; rfl, fun nx h => by (rw [HN.out] at h; cases h), below_drewN H2.out _⟩
  | true =>
    rw [hok] at HNX
    rw [if_pos rfl]
    clear hok
    generalize nextOf lv = nx at *
    generalize slotOf lv = so at *
    generalize classOf lv = co at *
    by_cases h1 : so = s
    · subst h1
      by_cases h2 : co = x.c
      · subst h2
        by_cases h3 : nx < (x.n : Int)
        · have hn : nextO x bs so = some nx := by rw [HNX.out]; simp [h3]
          have HN := Lib.hid hn
          have hd : decide (nx < (x.n : Int)) = true := by simpa using h3
          clear hn HNX
          go_wp2_with fail
          go_quiet (fail)
          go_wp2_with fail
          go_ret2
          refine ⟨nx, ?_, fun nx2 h => ?_, below_drewN H2.out _⟩
          · rw [HN.out]
            simp [h3]
          · rw [HN.out] at h
            cases h
            rfl
        · have HN := Lib.hid (show nextO x bs so = none by
            rw [HNX.out]
            simp
            omega)
          have hd : decide (nx < (x.n : Int)) = false := by simpa using h3
          clear HNX
          go_wp2_with fail
          go_quiet (fail)
          go_wp2_with fail
          go_ret2
          refine ⟨nx, ?_, fun nx2 h => (by rw [HN.out] at h; cases h), below_drewN H2.out _⟩
          rw [HN.out]
          first | rfl | (simp; omega)
      · have HN := Lib.hid (show nextO x bs so = none by
          rw [HNX.out]
          simp
          omega)
        have hd : ((co : Int) == (x.c : Int)) = false := by rw [beq_eq_false_iff_ne]; omega
        clear HNX
        go_wp2_with fail
        go_quiet (fail)
        go_wp2_with fail
        go_ret2
        refine ⟨nx, ?_, fun nx2 h => (by rw [HN.out] at h; cases h), below_drewN H2.out _⟩
        rw [HN.out]
        first | rfl | (simp; omega)
    · have HN := Lib.hid (show nextO x bs s = none by
        rw [HNX.out]
        simp
        omega)
      have hd : ((so : Int) == (s : Int)) = false := by rw [beq_eq_false_iff_ne]; omega
      clear HNX
      go_wp2_with fail
      go_quiet (fail)
      go_wp2_with fail
      go_ret2
      refine ⟨nx, ?_, fun nx2 h => (by rw [HN.out] at h; cases h), below_drewN H2.out _⟩
      rw [HN.out]
      first | rfl | (simp; omega)
end
end Go.Proofs.Ytloflnachpjlgaa.New
