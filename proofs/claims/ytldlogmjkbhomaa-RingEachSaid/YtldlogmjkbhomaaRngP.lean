/- Plain words on items in lists: an item's place, and how a list that takes in or lets go of an item turns the places. No function of the program is walked here. -/
import Derived.Test.YtldlogmjkbhomaaAidMem
namespace Go.Proofs.Ytldlogmjkbhomaa.Rng
def headI : List Nat → Int
  | [] => -1
  | x :: _ => x
def lastI : List Nat → Int
  | [] => -1
  | [x] => x
  | _ :: y :: t => lastI (y :: t)
theorem lastI_mid : ∀ (A : List Nat) (x : Nat) (B : List Nat), lastI (A ++ x :: B) = lastI (x :: B)
  | [], _, _ => rfl
  | [_], _, _ => rfl
  | _ :: b :: A, x, B => by
    show lastI (b :: (A ++ x :: B)) = _
    exact lastI_mid (b :: A) x B
theorem lastI_snoc (A : List Nat) (x : Nat) : lastI (A ++ [x]) = x := lastI_mid A x []
theorem lastI_app (A : List Nat) {B : List Nat} (h : B ≠ []) : lastI (A ++ B) = lastI B := by
  cases B with
  | nil => exact absurd rfl h
  | cons b B => exact lastI_mid A b B
theorem lastI_mem : ∀ {A : List Nat} {x : Nat}, lastI A = x → x ∈ A
  | [], _, h => by simp [lastI] at h
  | [a], x, h => by
    have : a = x := Int.ofNat_inj.1 h
    simp [this]
  | _ :: b :: A, x, h => List.mem_cons_of_mem _ (lastI_mem (A := b :: A) h)
theorem headI_mem {A : List Nat} {x : Nat} (h : headI A = x) : x ∈ A := by
  cases A with
  | nil => simp [headI] at h
  | cons a A =>
    have : a = x := Int.ofNat_inj.1 h
    simp [this]
theorem headI_app {A : List Nat} (B : List Nat) (h : A ≠ []) : headI (A ++ B) = headI A := by
  cases A with
  | nil => exact absurd rfl h
  | cons a A => rfl
theorem headI_nil {A : List Nat} : headI A = -1 ↔ A = [] := by
  cases A with
  | nil => simp [headI]
  | cons a A => simp [headI]
theorem lastI_nil {A : List Nat} : lastI A = -1 ↔ A = [] := by
  constructor
  · intro h
    rcases List.eq_nil_or_concat A with e | ⟨B, b, e⟩
    · exact e
    · rw [e, List.concat_eq_append, lastI_snoc] at h
      omega
  · rintro rfl
    rfl
theorem headI_nat {A : List Nat} (h : A ≠ []) : ∃ x : Nat, headI A = x ∧ x ∈ A := by
  cases A with
  | nil => exact absurd rfl h
  | cons a A => exact ⟨a, rfl, List.mem_cons_self⟩
theorem lastI_nat {A : List Nat} (h : A ≠ []) : ∃ x : Nat, lastI A = x ∧ x ∈ A := by
  rcases List.eq_nil_or_concat A with e | ⟨B, b, e⟩
  · exact absurd e h
  · refine ⟨b, ?_, ?_⟩
    · rw [e, List.concat_eq_append, lastI_snoc]
    · rw [e, List.concat_eq_append]
      simp
/-- Three numbers. -/
structure R3 where
  a : Int
  b : Int
  c : Int
abbrev RgS := Nat → List Nat
structure OkG (N L : Nat) (s : RgS) : Prop where
  n : N ≤ 4096
  l1 : 1 ≤ L
  l2 : L ≤ 256
  nd : ∀ l, (s l).Nodup
  dj : ∀ l l' i, i ∈ s l → i ∈ s l' → l = l'
  lt : ∀ l i, i ∈ s l → i < N
  out : ∀ l, L ≤ l → s l = []
def inN (s : RgS) (L i : Nat) : Option Nat := (List.range L).find? fun l => (s l).contains i
def prevGo : Int → List Nat → Nat → Int
  | _, [], _ => -1
  | p, x :: t, i => if x = i then p else prevGo x t i
def nextIn : List Nat → Nat → Int
  | [], _ => -1
  | x :: t, i => if x = i then headI t else nextIn t i
/-- An item's place. -/
def lk (s : RgS) (L i : Nat) : R3 := match inN s L i with
  | none => ⟨-1, -1, -1⟩
  | some l => ⟨l, prevGo (-1) (s l) i, nextIn (s l) i⟩
theorem prevGo_split : ∀ (A : List Nat) (p : Int) (i : Nat) (B : List Nat), i ∉ A → prevGo p (A ++ i :: B) i = if A = [] then p else lastI A
  | [], p, i, B, _ => by simp [prevGo]
  | [a], p, i, B, h => by
    have : a ≠ i := fun e => h (by simp [e])
    simp [prevGo, this, lastI]
  | a :: b :: A, p, i, B, h => by
    have h1 : a ≠ i := fun e => h (by simp [e])
    have := prevGo_split (b :: A) a i B (fun hx => h (List.mem_cons_of_mem _ hx))
    simp only [List.cons_append, prevGo, if_neg h1] at this ⊢
    rw [this]
    simp [lastI]
theorem nextIn_split : ∀ (A : List Nat) (i : Nat) (B : List Nat), i ∉ A → nextIn (A ++ i :: B) i = headI B
  | [], i, B, _ => by simp [nextIn]
  | a :: A, i, B, h => by
    have h1 : a ≠ i := fun e => h (by simp [e])
    simp only [List.cons_append, nextIn, if_neg h1]
    exact nextIn_split A i B (fun hx => h (List.mem_cons_of_mem _ hx))
section
variable {N L : Nat} {s : RgS} (h : OkG N L s)
include h
theorem OkG.lL {l i : Nat} (hi : i ∈ s l) : l < L := by
  rcases Nat.lt_or_ge l L with h1 | h1
  · exact h1
  · rw [h.out l h1] at hi
    cases hi
theorem inN_some {l i : Nat} (hi : i ∈ s l) : inN s L i = some l := by
  unfold inN
  cases hf : (List.range L).find? fun l => (s l).contains i with
  | none =>
    have := List.find?_eq_none.1 hf l (List.mem_range.2 (h.lL hi))
    simp [hi] at this
  | some k =>
    have := List.find?_some hf
    simp at this
    rw [h.dj k l i this hi]
omit h in
theorem inN_none {i : Nat} (hi : ∀ l, i ∉ s l) : inN s L i = none := by
  unfold inN
  rw [List.find?_eq_none]
  intro l _
  simp [hi l]
theorem lk_at {l i : Nat} {A B : List Nat} (e : s l = A ++ i :: B) : lk s L i = ⟨l, lastI A, headI B⟩ := by
  have hi : i ∈ s l := by rw [e]; simp
  have hA : i ∉ A := fun hx => by
    have := h.nd l
    rw [e, List.nodup_append] at this
    exact this.2.2 i hx i (by simp) rfl
  unfold lk
  rw [inN_some h hi]
  simp only
  rw [e, prevGo_split A _ i B hA, nextIn_split A i B hA]
  congr 1
  split
  · next e => rw [e]; rfl
  · rfl
omit h in
theorem lk_none {i : Nat} (hi : ∀ l, i ∉ s l) : lk s L i = ⟨-1, -1, -1⟩ := by
  unfold lk
  rw [inN_none hi]
end
def updL (s : RgS) (l : Nat) (v : List Nat) : RgS := fun k => if k = l then v else s k
theorem updL_at (s : RgS) (l : Nat) (v : List Nat) : updL s l v l = v := if_pos rfl
theorem updL_ne (s : RgS) {l k : Nat} (v : List Nat) (h : k ≠ l) : updL s l v k = s k := if_neg h
/-- Where an item is. -/
theorem where_is (s : RgS) (i : Nat) : (∃ l, i ∈ s l) ∨ ∀ l, i ∉ s l := by
  by_cases h : ∃ l, i ∈ s l
  · exact .inl h
  · exact .inr fun l hl => h ⟨l, hl⟩
section
variable {N L : Nat} {s : RgS} {l x : Nat} {A B : List Nat}
theorem ok_ins (h : OkG N L s) (e : s l = A ++ B) (hl : l < L) (hx : ∀ k, x ∉ s k) (hN : x < N) : OkG N L (updL s l (A ++ x :: B)) := by
  have hmem : ∀ i, i ∈ A ++ x :: B ↔ i = x ∨ i ∈ s l := fun i => by
    rw [e]
    simp only [List.mem_append, List.mem_cons]
    constructor
    · rintro (h | h | h)
      · exact .inr (.inl h)
      · exact .inl h
      · exact .inr (.inr h)
    · rintro (h | h | h)
      · exact .inr (.inl h)
      · exact .inl h
      · exact .inr (.inr h)
  refine ⟨h.n, h.l1, h.l2, fun k => ?_, fun k k' i hi hi' => ?_, fun k i hi => ?_, fun k hk => ?_⟩
  · by_cases ek : k = l
    · subst ek
      rw [updL_at]
      have h1 := h.nd k
      have h2 := hx k
      rw [e] at h1 h2
      rw [List.nodup_append] at h1 ⊢
      simp only [List.mem_append, not_or] at h2
      refine ⟨h1.1, List.nodup_cons.2 ⟨h2.2, h1.2.1⟩, fun a ha b hb => ?_⟩
      rcases List.mem_cons.1 hb with rfl | hb
      · exact fun e => h2.1 (e ▸ ha)
      · exact h1.2.2 a ha b hb
    · rw [updL_ne s _ ek]
      exact h.nd k
  · by_cases ek : k = l
    · by_cases ek' : k' = l
      · omega
      · subst ek
        rw [updL_at, hmem] at hi
        rw [updL_ne s _ ek'] at hi'
        rcases hi with rfl | hi
        · exact absurd hi' (hx k')
        · exact h.dj _ _ i hi hi'
    · rw [updL_ne s _ ek] at hi
      by_cases ek' : k' = l
      · subst ek'
        rw [updL_at, hmem] at hi'
        rcases hi' with rfl | hi'
        · exact absurd hi (hx k)
        · exact h.dj _ _ i hi hi'
      · rw [updL_ne s _ ek'] at hi'
        exact h.dj _ _ i hi hi'
  · by_cases ek : k = l
    · subst ek
      rw [updL_at, hmem] at hi
      rcases hi with rfl | hi
      · exact hN
      · exact h.lt _ i hi
    · rw [updL_ne s _ ek] at hi
      exact h.lt _ i hi
  · rw [updL_ne s _ (by omega)]
    exact h.out k hk
theorem ok_del (h : OkG N L s) (e : s l = A ++ x :: B) : OkG N L (updL s l (A ++ B)) := by
  have hsub : ∀ i, i ∈ A ++ B → i ∈ s l := fun i hi => by
    rw [e]
    rcases List.mem_append.1 hi with h | h
    · simp [h]
    · simp [h]
  refine ⟨h.n, h.l1, h.l2, fun k => ?_, fun k k' i hi hi' => ?_, fun k i hi => ?_, fun k hk => ?_⟩
  · by_cases ek : k = l
    · subst ek
      rw [updL_at]
      have h1 := h.nd k
      rw [e] at h1
      exact h1.sublist (List.Sublist.append_left (List.sublist_cons_self x B) A)
    · rw [updL_ne s _ ek]
      exact h.nd k
  · have g : ∀ m, i ∈ updL s l (A ++ B) m → i ∈ s m := fun m hm => by
      by_cases em : m = l
      · subst em
        rw [updL_at] at hm
        exact hsub i hm
      · rwa [updL_ne s _ em] at hm
    exact h.dj _ _ i (g k hi) (g k' hi')
  · by_cases ek : k = l
    · subst ek
      rw [updL_at] at hi
      exact h.lt _ i (hsub i hi)
    · rw [updL_ne s _ ek] at hi
      exact h.lt _ i hi
  · by_cases ek : k = l
    · subst ek
      have := h.out k hk
      rw [e] at this
      simp at this
    · rw [updL_ne s _ ek]
      exact h.out k hk
/-- How the places turn when an item stands between two parts of a list. -/
theorem lk_ins (h : OkG N L s) (e : s l = A ++ B) (h' : OkG N L (updL s l (A ++ x :: B))) (hx : ∀ k, x ∉ s k) (i : Nat) :
    lk (updL s l (A ++ x :: B)) L i = if i = x then ⟨l, lastI A, headI B⟩ else if lastI A = i then ⟨(lk s L i).a, (lk s L i).b, x⟩ else if headI B = i then ⟨(lk s L i).a, x, (lk s L i).c⟩ else lk s L i := by
  have hnd := h.nd l
  rw [e, List.nodup_append] at hnd
  obtain ⟨hA, hB, hAB⟩ := hnd
  by_cases ex : i = x
  · rw [if_pos ex]
    subst ex
    exact lk_at h' (updL_at s l _)
  rw [if_neg ex]
  rcases where_is s i with ⟨k, hk⟩ | hno
  · by_cases ek : k = l
    · subst ek
      rw [e] at hk
      rcases List.mem_append.1 hk with hi | hi
      · obtain ⟨A1, A2, rfl⟩ := List.append_of_mem hi
        have e1 : s k = A1 ++ i :: (A2 ++ B) := by rw [e]; simp
        have e2 : updL s k ((A1 ++ i :: A2) ++ x :: B) k = A1 ++ i :: (A2 ++ x :: B) := by rw [updL_at]; simp
        rw [lk_at h e1, lk_at h' e2]
        have hBne : ¬ headI B = i := fun hh => hAB i (by simp) i (headI_mem hh) rfl
        by_cases h2 : A2 = []
        · subst h2
          rw [if_pos (lastI_snoc A1 i)]
          rfl
        · have hne : ¬ lastI (A1 ++ i :: A2) = i := fun hh => by
            rw [lastI_mid, show i :: A2 = [i] ++ A2 from rfl, lastI_app [i] h2] at hh
            have h3 := lastI_mem hh
            rw [List.nodup_append] at hA
            exact (List.nodup_cons.1 hA.2.1).1 h3
          rw [if_neg hne, if_neg hBne, headI_app _ h2, headI_app _ h2]
      · obtain ⟨B1, B2, rfl⟩ := List.append_of_mem hi
        have e1 : s k = (A ++ B1) ++ i :: B2 := by rw [e]; simp
        have e2 : updL s k (A ++ x :: (B1 ++ i :: B2)) k = (A ++ x :: B1) ++ i :: B2 := by rw [updL_at]; simp
        rw [lk_at h e1, lk_at h' e2]
        have hAne : ¬ lastI A = i := fun hh => hAB i (lastI_mem hh) i (by simp) rfl
        rw [if_neg hAne]
        by_cases h1 : B1 = []
        · subst h1
          rw [if_pos (show headI ([] ++ i :: B2) = (i : Int) from rfl), lastI_snoc]
        · have hne : ¬ headI (B1 ++ i :: B2) = i := fun hh => by
            rw [headI_app _ h1] at hh
            have h3 := headI_mem hh
            rw [List.nodup_append] at hB
            exact hB.2.2 i h3 i (by simp) rfl
          rw [if_neg hne, lastI_app A h1, lastI_mid, show x :: B1 = [x] ++ B1 from rfl, lastI_app [x] h1]
    · obtain ⟨C, D, e3⟩ := List.append_of_mem hk
      rw [lk_at h e3, lk_at h' (show updL s l (A ++ x :: B) k = C ++ i :: D by rw [updL_ne s _ ek]; exact e3)]
      have hil : i ∉ s l := fun hi => ek (h.dj _ _ i hk hi)
      rw [e] at hil
      rw [if_neg fun hh => hil (List.mem_append_left _ (lastI_mem hh)), if_neg fun hh => hil (List.mem_append_right _ (headI_mem hh))]
  · have hil := hno l
    rw [e] at hil
    rw [lk_none hno, lk_none (fun m hm => by
      by_cases em : m = l
      · subst em
        rw [updL_at] at hm
        rcases List.mem_append.1 hm with h1 | h1
        · exact hil (List.mem_append_left _ h1)
        · rcases List.mem_cons.1 h1 with h2 | h2
          · exact ex h2
          · exact hil (List.mem_append_right _ h2)
      · rw [updL_ne s _ em] at hm
        exact hno m hm)]
    rw [if_neg fun hh => hil (List.mem_append_left _ (lastI_mem hh)), if_neg fun hh => hil (List.mem_append_right _ (headI_mem hh))]
/-- .. and when it goes. -/
theorem lk_del (h : OkG N L s) (e : s l = A ++ x :: B) (i : Nat) :
    lk (updL s l (A ++ B)) L i = if i = x then ⟨-1, -1, -1⟩ else if lastI A = i then ⟨(lk s L i).a, (lk s L i).b, headI B⟩ else if headI B = i then ⟨(lk s L i).a, lastI A, (lk s L i).c⟩ else lk s L i := by
  have h' := ok_del h e
  have hnd := h.nd l
  rw [e, List.nodup_append] at hnd
  obtain ⟨hA, hxB, hAB⟩ := hnd
  obtain ⟨hxnB, hB⟩ := List.nodup_cons.1 hxB
  have hxA : x ∉ A := fun hx => hAB x hx x (by simp) rfl
  by_cases ex : i = x
  · rw [if_pos ex]
    subst ex
    refine lk_none fun m hm => ?_
    by_cases em : m = l
    · subst em
      rw [updL_at] at hm
      rcases List.mem_append.1 hm with h1 | h1
      · exact hxA h1
      · exact hxnB h1
    · rw [updL_ne s _ em] at hm
      exact em (h.dj _ _ i hm (by rw [e]; simp))
  rw [if_neg ex]
  rcases where_is s i with ⟨k, hk⟩ | hno
  · by_cases ek : k = l
    · subst ek
      rw [e] at hk
      have hk2 : i ∈ A ∨ i ∈ B := by
        rcases List.mem_append.1 hk with h1 | h1
        · exact .inl h1
        · rcases List.mem_cons.1 h1 with h2 | h2
          · exact absurd h2 ex
          · exact .inr h2
      rcases hk2 with hi | hi
      · obtain ⟨A1, A2, rfl⟩ := List.append_of_mem hi
        have e1 : s k = A1 ++ i :: (A2 ++ x :: B) := by rw [e]; simp
        have e2 : updL s k ((A1 ++ i :: A2) ++ B) k = A1 ++ i :: (A2 ++ B) := by rw [updL_at]; simp
        rw [lk_at h e1, lk_at h' e2]
        have hBne : ¬ headI B = i := fun hh => hAB i (by simp) i (List.mem_cons_of_mem _ (headI_mem hh)) rfl
        by_cases h2 : A2 = []
        · subst h2
          rw [if_pos (lastI_snoc A1 i)]
          rfl
        · have hne : ¬ lastI (A1 ++ i :: A2) = i := fun hh => by
            rw [lastI_mid, show i :: A2 = [i] ++ A2 from rfl, lastI_app [i] h2] at hh
            have h3 := lastI_mem hh
            rw [List.nodup_append] at hA
            exact (List.nodup_cons.1 hA.2.1).1 h3
          rw [if_neg hne, if_neg hBne, headI_app _ h2, headI_app _ h2]
      · obtain ⟨B1, B2, rfl⟩ := List.append_of_mem hi
        have e1 : s k = (A ++ x :: B1) ++ i :: B2 := by rw [e]; simp
        have e2 : updL s k (A ++ (B1 ++ i :: B2)) k = (A ++ B1) ++ i :: B2 := by rw [updL_at]; simp
        rw [lk_at h e1, lk_at h' e2]
        have hAne : ¬ lastI A = i := fun hh => hAB i (lastI_mem hh) i (by simp) rfl
        rw [if_neg hAne]
        by_cases h1 : B1 = []
        · subst h1
          rw [if_pos (show headI ([] ++ i :: B2) = (i : Int) from rfl), List.append_nil]
        · have hne : ¬ headI (B1 ++ i :: B2) = i := fun hh => by
            rw [headI_app _ h1] at hh
            have h3 := headI_mem hh
            rw [List.nodup_append] at hB
            exact hB.2.2 i h3 i (by simp) rfl
          rw [if_neg hne, lastI_app A h1, lastI_mid, show x :: B1 = [x] ++ B1 from rfl, lastI_app [x] h1]
    · obtain ⟨C, D, e3⟩ := List.append_of_mem hk
      rw [lk_at h e3, lk_at h' (show updL s l (A ++ B) k = C ++ i :: D by rw [updL_ne s _ ek]; exact e3)]
      have hil : i ∉ s l := fun hi => ek (h.dj _ _ i hk hi)
      rw [e] at hil
      rw [if_neg fun hh => hil (List.mem_append_left _ (lastI_mem hh)), if_neg fun hh => hil (List.mem_append_right _ (List.mem_cons_of_mem _ (headI_mem hh)))]
  · have hil := hno l
    rw [e] at hil
    rw [lk_none hno, lk_none (fun m hm => by
      by_cases em : m = l
      · subst em
        rw [updL_at] at hm
        rcases List.mem_append.1 hm with h1 | h1
        · exact hil (List.mem_append_left _ h1)
        · exact hil (List.mem_append_right _ (List.mem_cons_of_mem _ h1))
      · rw [updL_ne s _ em] at hm
        exact hno m hm)]
    rw [if_neg fun hh => hil (List.mem_append_left _ (lastI_mem hh)), if_neg fun hh => hil (List.mem_append_right _ (List.mem_cons_of_mem _ (headI_mem hh)))]
end
end Go.Proofs.Ytldlogmjkbhomaa.Rng
