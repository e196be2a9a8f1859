/-
  Plain law of free runs: a list of runs in order, apart from one another, is told by the blocks that it covers. No program in sight.
-/
import Derived.RowKit
set_option linter.unusedVariables false
namespace Go.Runs

abbrev Rn := Int × Int

/-- In order, none empty, apart from one another, from lo on. -/
def Can : Int → List Rn → Prop
  | _, [] => True
  | lo, x :: X => lo ≤ x.1 ∧ 1 ≤ x.2 ∧ Can (x.1 + x.2 + 1) X
def endOf : Int → List Rn → Int
  | lo, [] => lo
  | _, x :: X => endOf (x.1 + x.2 + 1) X
def cov (X : List Rn) (k : Int) : Prop := ∃ x ∈ X, x.1 ≤ k ∧ k < x.1 + x.2
def real (X : List Rn) : List Rn := X.filter fun x => decide (x.2 ≠ 0)

theorem cov_nil (k : Int) : ¬ cov [] k := fun ⟨_, h, _⟩ => by cases h
theorem cov_cons {x : Rn} {X : List Rn} {k : Int} : cov (x :: X) k ↔ (x.1 ≤ k ∧ k < x.1 + x.2) ∨ cov X k := by
  simp [cov]
theorem cov_append {X Y : List Rn} {k : Int} : cov (X ++ Y) k ↔ cov X k ∨ cov Y k := by
  simp only [cov, List.mem_append]
  constructor
  · rintro ⟨x, h | h, hx⟩
    · exact .inl ⟨x, h, hx⟩
    · exact .inr ⟨x, h, hx⟩
  · rintro (⟨x, h, hx⟩ | ⟨x, h, hx⟩)
    · exact ⟨x, .inl h, hx⟩
    · exact ⟨x, .inr h, hx⟩
theorem cov_real {X : List Rn} {k : Int} (h : ∀ x ∈ X, 0 ≤ x.2) : cov (real X) k ↔ cov X k := by
  simp only [cov, real, List.mem_filter, decide_eq_true_eq]
  constructor
  · rintro ⟨x, ⟨h1, _⟩, h2⟩; exact ⟨x, h1, h2⟩
  · rintro ⟨x, h1, h2⟩; exact ⟨x, ⟨h1, by omega⟩, h2⟩

theorem Can.mono : ∀ {X : List Rn} {lo lo' : Int}, Can lo X → lo' ≤ lo → Can lo' X
  | [], _, _, _, _ => trivial
  | x :: X, lo, lo', h, hl => ⟨Int.le_trans hl h.1, h.2⟩
theorem Can.low : ∀ {X : List Rn} {lo k : Int}, Can lo X → cov X k → lo ≤ k
  | [], _, k, _, h => absurd h (cov_nil k)
  | x :: X, lo, k, h, hc => by
    rcases cov_cons.1 hc with hc | hc
    · exact Int.le_trans h.1 hc.1
    · have := Can.low h.2.2 hc
      have := h.1; have := h.2.1
      omega
theorem can_append : ∀ {X Y : List Rn} {lo : Int}, Can lo (X ++ Y) ↔ Can lo X ∧ Can (endOf lo X) Y
  | [], Y, lo => by simp [Can, endOf]
  | x :: X, Y, lo => by simp only [List.cons_append, Can, endOf, can_append (X := X)]; constructor <;> (intro h; simp_all)
theorem endOf_ge : ∀ {X : List Rn} {lo : Int}, Can lo X → lo ≤ endOf lo X
  | [], lo, _ => Int.le_refl _
  | x :: X, lo, h => by
    have := endOf_ge h.2.2
    have := h.1; have := h.2.1
    simp only [endOf]; omega
theorem Can.high : ∀ {X : List Rn} {lo k : Int}, Can lo X → cov X k → k + 1 < endOf lo X
  | [], _, k, _, h => absurd h (cov_nil k)
  | x :: X, lo, k, h, hc => by
    have h1 := endOf_ge h.2.2
    simp only [endOf]
    rcases cov_cons.1 hc with hc | hc
    · omega
    · exact Can.high h.2.2 hc
theorem endOf_append : ∀ {X Y : List Rn} {lo : Int}, endOf lo (X ++ Y) = endOf (endOf lo X) Y
  | [], _, _ => rfl
  | x :: X, Y, lo => by simp only [List.cons_append, endOf, endOf_append (X := X)]
theorem Can.pos : ∀ {X : List Rn} {lo : Int}, Can lo X → ∀ x ∈ X, lo ≤ x.1 ∧ 1 ≤ x.2 ∧ x.1 + x.2 < endOf lo X
  | x :: X, lo, h, y, hy => by
    have h1 := endOf_ge h.2.2
    rcases List.mem_cons.1 hy with rfl | hy
    · exact ⟨h.1, h.2.1, by simp only [endOf]; omega⟩
    · have := Can.pos h.2.2 y hy
      have := h.1; have := h.2.1
      exact ⟨by omega, by omega, by simp only [endOf]; omega⟩

/-- What covers the same is the same. -/
theorem can_unique : ∀ {X Y : List Rn} {lo lo' : Int}, Can lo X → Can lo' Y → (∀ k, cov X k ↔ cov Y k) → X = Y
  | [], [], _, _, _, _, _ => rfl
  | [], y :: Y, _, _, _, hY, h => absurd ((h y.1).2 (cov_cons.2 (.inl ⟨Int.le_refl _, by have := hY.2.1; omega⟩))) (cov_nil _)
  | x :: X, [], _, _, hX, _, h => absurd ((h x.1).1 (cov_cons.2 (.inl ⟨Int.le_refl _, by have := hX.2.1; omega⟩))) (cov_nil _)
  | x :: X, y :: Y, lo, lo', hX, hY, h => by
    have nx : ∀ k, k ≤ x.1 + x.2 → ¬ cov X k := fun k hk hc => by have := Can.low hX.2.2 hc; omega
    have ny : ∀ k, k ≤ y.1 + y.2 → ¬ cov Y k := fun k hk hc => by have := Can.low hY.2.2 hc; omega
    have px := hX.2.1
    have py := hY.2.1
    have e1 : x.1 = y.1 := by
      have hx := (h x.1).1 (cov_cons.2 (.inl ⟨Int.le_refl _, by omega⟩))
      have hy := (h y.1).2 (cov_cons.2 (.inl ⟨Int.le_refl _, by omega⟩))
      have a : y.1 ≤ x.1 := by
        rcases cov_cons.1 hx with hx | hx
        · exact hx.1
        · have := Can.low hY.2.2 hx; omega
      have b : x.1 ≤ y.1 := by
        rcases cov_cons.1 hy with hy | hy
        · exact hy.1
        · have := Can.low hX.2.2 hy; omega
      omega
    have e2 : x.2 = y.2 := by
      rcases Int.lt_trichotomy x.2 y.2 with hlt | he | hlt
      · have := (h (x.1 + x.2)).2 (cov_cons.2 (.inl ⟨by omega, by omega⟩))
        rcases cov_cons.1 this with h1 | h1
        · omega
        · exact absurd h1 (nx _ (Int.le_refl _))
      · exact he
      · have := (h (y.1 + y.2)).1 (cov_cons.2 (.inl ⟨by omega, by omega⟩))
        rcases cov_cons.1 this with h1 | h1
        · omega
        · exact absurd h1 (ny _ (Int.le_refl _))
    have exy : x = y := Prod.ext e1 e2
    subst exy
    have : X = Y := can_unique hX.2.2 hY.2.2 fun k => by
      constructor
      · intro hc
        have hl := Can.low hX.2.2 hc
        rcases cov_cons.1 ((h k).1 (cov_cons.2 (.inr hc))) with h1 | h1
        · omega
        · exact h1
      · intro hc
        have hl := Can.low hY.2.2 hc
        rcases cov_cons.1 ((h k).2 (cov_cons.2 (.inr hc))) with h1 | h1
        · omega
        · exact h1
    rw [this]

/-- Blocks taken out of the midst of a run. -/
theorem can_mark {A C : List Rn} {x : Rn} {lo at_ n : Int} (h : Can lo (A ++ x :: C)) (h1 : x.1 ≤ at_) (h2 : at_ + n ≤ x.1 + x.2) (h3 : 1 ≤ n) :
    Can lo (A ++ real [(x.1, at_ - x.1), (at_ + n, x.1 + x.2 - at_ - n)] ++ C) ∧
    ∀ k, cov (A ++ real [(x.1, at_ - x.1), (at_ + n, x.1 + x.2 - at_ - n)] ++ C) k ↔ cov (A ++ x :: C) k ∧ ¬ (at_ ≤ k ∧ k < at_ + n) := by
  obtain ⟨hA, hx⟩ := can_append.1 h
  have hx1 := hx.1
  have hC := hx.2.2
  constructor
  · rw [List.append_assoc]
    refine can_append.2 ⟨hA, ?_⟩
    have hreal : real [(x.1, at_ - x.1), (at_ + n, x.1 + x.2 - at_ - n)] = (if at_ - x.1 = 0 then [] else [(x.1, at_ - x.1)]) ++ (if x.1 + x.2 - at_ - n = 0 then [] else [(at_ + n, x.1 + x.2 - at_ - n)]) := by
      simp only [real, List.filter_cons, List.filter_nil, ne_eq, decide_not, Bool.not_eq_true', decide_eq_false_iff_not]
      by_cases e1 : at_ - x.1 = 0 <;> by_cases e2 : x.1 + x.2 - at_ - n = 0 <;> simp [e1, e2]
    rw [hreal]
    by_cases e1 : at_ - x.1 = 0 <;> by_cases e2 : x.1 + x.2 - at_ - n = 0
    · simp only [e1, e2, if_true, List.nil_append]
      exact hC.mono (by omega)
    · simp only [e1, e2, if_true, if_false, List.nil_append, List.cons_append, Can]
      exact ⟨by omega, by omega, hC.mono (by omega)⟩
    · simp only [e1, e2, if_true, if_false, List.append_nil, List.nil_append, List.cons_append, Can]
      exact ⟨by omega, by omega, hC.mono (by omega)⟩
    · simp only [e1, e2, if_false, List.nil_append, List.cons_append, Can]
      exact ⟨by omega, by omega, by omega, by omega, hC.mono (by omega)⟩
  · intro k
    rw [List.append_assoc, cov_append, cov_append, cov_real (by intro y hy; simp at hy; rcases hy with rfl | rfl <;> simp <;> omega), cov_append, cov_cons, cov_cons, cov_cons]
    have := cov_nil k
    constructor
    · rintro (hc | (hc | hc | hc) | hc)
      · have := Can.high hA hc
        exact ⟨.inl hc, by omega⟩
      · simp only at hc; exact ⟨.inr (.inl (by omega)), by omega⟩
      · simp only at hc; exact ⟨.inr (.inl (by omega)), by omega⟩
      · exact absurd hc this
      · have := Can.low hC hc
        exact ⟨.inr (.inr hc), by omega⟩
    · rintro ⟨hc | hc | hc, hn⟩
      · exact .inl hc
      · by_cases hk : k < at_
        · exact .inr (.inl (.inl ⟨by simp only; omega, by simp only; omega⟩))
        · exact .inr (.inl (.inr (.inl ⟨by simp only; omega, by simp only; omega⟩)))
      · exact .inr (.inr hc)

/-- All of some blocks are covered: one run has them. -/
theorem cov_run {X : List Rn} {lo at_ n : Int} (h : Can lo X) (hn : 1 ≤ n) (hc : ∀ k, at_ ≤ k → k < at_ + n → cov X k) : ∃ x ∈ X, x.1 ≤ at_ ∧ at_ + n ≤ x.1 + x.2 := by
  induction X generalizing lo with
  | nil => exact absurd (hc at_ (Int.le_refl _) (by omega)) (cov_nil _)
  | cons x X ih =>
    have h1 := h.2.1
    rcases cov_cons.1 (hc at_ (Int.le_refl _) (by omega)) with h2 | h2
    · refine ⟨x, .head _, h2.1, ?_⟩
      by_cases hle : at_ + n ≤ x.1 + x.2
      · exact hle
      · rcases cov_cons.1 (hc (x.1 + x.2) (by omega) (by omega)) with h3 | h3
        · omega
        · have := Can.low h.2.2 h3; omega
    · have hl := Can.low h.2.2 h2
      obtain ⟨y, hy, hy2⟩ := ih h.2.2 fun k hk1 hk2 => by
        rcases cov_cons.1 (hc k hk1 hk2) with h3 | h3
        · omega
        · exact h3
      exact ⟨y, .tail _ hy, hy2⟩

/-- Where blocks go in: what stands before begins before them. -/
structure Spot (X A C : List Rn) (at_ : Int) : Prop where
  eq : X = A ++ C
  lo : ∀ x ∈ A, x.1 < at_
  hi : ∀ x, C.head? = some x → at_ ≤ x.1

def joinL (A : List Rn) (at_ n : Int) : List Rn × Rn := match A.getLast? with
  | some y => if y.1 + y.2 = at_ then (A.dropLast, (y.1, y.2 + n)) else (A, (at_, n))
  | none => (A, (at_, n))
def joinR (C : List Rn) (x : Rn) (e : Int) : List Rn × Rn := match C with
  | z :: C' => if e = z.1 then (C', (x.1, x.2 + z.2)) else (C, x)
  | [] => (C, x)

theorem can_give {X A C : List Rn} {lo at_ n : Int} (h : Can lo X) (hp : Spot X A C at_) (hl : lo ≤ at_) (hn : 1 ≤ n) (h1 : ∀ y, A.getLast? = some y → y.1 + y.2 ≤ at_) (h2 : ∀ z, C.head? = some z → at_ + n ≤ z.1) :
    Can lo ((joinL A at_ n).1 ++ (joinR C (joinL A at_ n).2 (at_ + n)).2 :: (joinR C (joinL A at_ n).2 (at_ + n)).1) ∧
    ∀ k, cov ((joinL A at_ n).1 ++ (joinR C (joinL A at_ n).2 (at_ + n)).2 :: (joinR C (joinL A at_ n).2 (at_ + n)).1) k ↔ cov X k ∨ (at_ ≤ k ∧ k < at_ + n) := by
  obtain ⟨rfl, hlo, hhi⟩ := hp
  obtain ⟨hA, hC⟩ := can_append.1 h
  -- the left side
  have hL : ∃ B x, joinL A at_ n = (B, x) ∧ Can lo B ∧ endOf lo B ≤ x.1 ∧ 1 ≤ x.2 ∧ x.1 + x.2 = at_ + n ∧ ∀ k, (cov B k ∨ (x.1 ≤ k ∧ k < x.1 + x.2)) ↔ (cov A k ∨ (at_ ≤ k ∧ k < at_ + n)) := by
    unfold joinL
    cases hg : A.getLast? with
    | none =>
      obtain rfl : A = [] := List.getLast?_eq_none_iff.1 hg
      exact ⟨[], (at_, n), rfl, trivial, hl, hn, rfl, fun k => Iff.rfl⟩
    | some y =>
      obtain ⟨A0, rfl⟩ : ∃ A0, A = A0 ++ [y] := List.getLast?_eq_some_iff.1 hg
      obtain ⟨hA0, hy⟩ := can_append.1 hA
      have hy1 := hy.1
      have hy2 := hy.2.1
      have hy3 := h1 y hg
      simp only
      split
      · rename_i e
        refine ⟨A0, (y.1, y.2 + n), by simp, hA0, hy1, by simp only; omega, by simp only; omega, fun k => ?_⟩
        rw [cov_append, cov_cons]
        have := cov_nil k
        simp only
        constructor
        · rintro (hc | hc)
          · exact .inl (.inl hc)
          · by_cases hk : k < at_
            · exact .inl (.inr (.inl ⟨by omega, by omega⟩))
            · exact .inr ⟨by omega, by omega⟩
        · rintro ((hc | hc | hc) | hc)
          · exact .inl hc
          · exact .inr ⟨by omega, by omega⟩
          · exact absurd hc this
          · exact .inr ⟨by omega, by omega⟩
      · refine ⟨_, _, rfl, hA, ?_, hn, rfl, fun k => Iff.rfl⟩
        rw [endOf_append]
        simp only [endOf]
        omega
  obtain ⟨B, x, eL, hB, hBx, hx2, hxe, hcov⟩ := hL
  rw [eL]
  simp only
  have hR : ∃ D z, joinR C x (at_ + n) = (D, z) ∧ z.1 = x.1 ∧ 1 ≤ z.2 ∧ Can (z.1 + z.2 + 1) D ∧ ∀ k, ((z.1 ≤ k ∧ k < z.1 + z.2) ∨ cov D k) ↔ ((x.1 ≤ k ∧ k < x.1 + x.2) ∨ cov C k) := by
    unfold joinR
    cases C with
    | nil => exact ⟨[], x, rfl, rfl, hx2, trivial, fun k => Iff.rfl⟩
    | cons z C =>
      have hz := h2 z rfl
      have hz2 := hC.2.1
      simp only
      split
      · rename_i e
        refine ⟨C, (x.1, x.2 + z.2), rfl, rfl, by simp only; omega, hC.2.2.mono (by simp only; omega), fun k => ?_⟩
        rw [cov_cons]
        simp only
        constructor
        · rintro (hc | hc)
          · by_cases hk : k < z.1
            · exact .inl ⟨by omega, by omega⟩
            · exact .inr (.inl ⟨by omega, by omega⟩)
          · exact .inr (.inr hc)
        · rintro (hc | hc | hc)
          · exact .inl ⟨by omega, by omega⟩
          · exact .inl ⟨by omega, by omega⟩
          · exact .inr hc
      · refine ⟨_, x, rfl, rfl, hx2, ⟨by omega, hz2, hC.2.2⟩, fun k => Iff.rfl⟩
  obtain ⟨D, z, eR, hz1, hz2, hD, hcov2⟩ := hR
  rw [eR]
  simp only
  refine ⟨can_append.2 ⟨hB, by rw [hz1]; exact hBx, hz2, hD⟩, fun k => ?_⟩
  rw [cov_append, cov_cons, cov_append, hcov2]
  constructor
  · rintro (hc | hc | hc)
    · rcases (hcov k).1 (.inl hc) with h | h
      · exact .inl (.inl h)
      · exact .inr h
    · rcases (hcov k).1 (.inr hc) with h | h
      · exact .inl (.inl h)
      · exact .inr h
    · exact .inl (.inr hc)
  · rintro ((hc | hc) | hc)
    · rcases (hcov k).2 (.inl hc) with h | h
      · exact .inl h
      · exact .inr (.inl h)
    · exact .inr (.inr hc)
    · rcases (hcov k).2 (.inr hc) with h | h
      · exact .inl h
      · exact .inr (.inl h)

/-- Where giving is refused, a block is free. -/
theorem give_no {X A C : List Rn} {lo at_ n : Int} (h : Can lo X) (hp : Spot X A C at_) (hn : 1 ≤ n) (hbad : (∃ y, A.getLast? = some y ∧ y.1 + y.2 > at_) ∨ ∃ z, C.head? = some z ∧ at_ + n > z.1) : ∃ k, at_ ≤ k ∧ k < at_ + n ∧ cov X k := by
  obtain ⟨rfl, hlo, hhi⟩ := hp
  rcases hbad with ⟨y, hy, h1⟩ | ⟨z, hz, h1⟩
  · have hm := List.mem_of_getLast? hy
    have := hlo y hm
    exact ⟨at_, Int.le_refl _, by omega, y, List.mem_append.2 (.inl hm), by omega, by omega⟩
  · have hm : z ∈ C := List.mem_of_head? hz
    have hp := Can.pos (can_append.1 h).2 z hm
    exact ⟨z.1, hhi z hz, by omega, z, List.mem_append.2 (.inr hm), Int.le_refl _, by omega⟩
/-- Where it isn't, none is. -/
theorem give_yes {X A C : List Rn} {lo at_ n : Int} (h : Can lo X) (hp : Spot X A C at_) (hn : 1 ≤ n) (h1 : ∀ y, A.getLast? = some y → y.1 + y.2 ≤ at_) (h2 : ∀ z, C.head? = some z → at_ + n ≤ z.1) {k : Int} (hk1 : at_ ≤ k) (hk2 : k < at_ + n) : ¬ cov X k := by
  obtain ⟨rfl, hlo, hhi⟩ := hp
  obtain ⟨hA, hC⟩ := can_append.1 h
  intro hc
  rcases cov_append.1 hc with hc | hc
  · cases hg : A.getLast? with
    | none => rw [List.getLast?_eq_none_iff.1 hg] at hc; exact cov_nil _ hc
    | some y =>
      obtain ⟨A0, rfl⟩ : ∃ A0, A = A0 ++ [y] := List.getLast?_eq_some_iff.1 hg
      have := h1 y hg
      have := Can.high hA hc
      rw [endOf_append] at this
      simp only [endOf] at this
      omega
  · cases C with
    | nil => exact cov_nil _ hc
    | cons z C =>
      have := h2 z rfl
      have := Can.low (lo := z.1) (X := z :: C) ⟨Int.le_refl _, hC.2.1, hC.2.2⟩ hc
      omega

/-! ### Flags -/
/-- The runs are those of the flags. -/
def Of (X : List Rn) (F : List Bool) : Prop := Can 0 X ∧ ∀ k : Int, cov X k ↔ ∃ i : Nat, k = i ∧ F[i]? = some true

theorem Of.unique {X Y : List Rn} {F : List Bool} (h : Of X F) (k : Of Y F) : X = Y := can_unique h.1 k.1 fun n => (h.2 n).trans (k.2 n).symm

def setR (F : List Bool) (at_ n : Nat) (b : Bool) : List Bool := F.take at_ ++ List.replicate n b ++ F.drop (at_ + n)
theorem setR_len {F : List Bool} {at_ n : Nat} {b : Bool} (h : at_ + n ≤ F.length) : (setR F at_ n b).length = F.length := by
  simp [setR]; omega
theorem setR_get {F : List Bool} {at_ n : Nat} {b : Bool} (h : at_ + n ≤ F.length) (k : Nat) : (setR F at_ n b)[k]? = if at_ ≤ k ∧ k < at_ + n then some b else F[k]? := by
  unfold setR
  simp only [List.getElem?_append, List.length_append, List.length_take, List.length_replicate, List.getElem?_take, List.getElem?_drop, List.getElem?_replicate]
  repeat' split
  all_goals first | omega | rfl | exact congrArg (fun t => F[t]?) (by omega)

theorem of_mark {A C : List Rn} {x : Rn} {F : List Bool} {at_ n : Nat} (h : Of (A ++ x :: C) F) (h1 : x.1 ≤ at_) (h2 : (at_ : Int) + n ≤ x.1 + x.2) (h3 : 1 ≤ n) (h4 : at_ + n ≤ F.length) :
    Of (A ++ real [(x.1, (at_ : Int) - x.1), ((at_ : Int) + n, x.1 + x.2 - at_ - n)] ++ C) (setR F at_ n false) := by
  obtain ⟨hc, hk⟩ := can_mark h.1 h1 h2 (by omega)
  refine ⟨hc, fun k => ?_⟩
  rw [hk, h.2]
  constructor
  · rintro ⟨⟨i, rfl, hi⟩, hn⟩
    exact ⟨i, rfl, by rw [setR_get h4, if_neg (by omega)]; exact hi⟩
  · rintro ⟨i, rfl, hi⟩
    rw [setR_get h4] at hi
    split at hi
    · cases hi
    · exact ⟨⟨i, rfl, hi⟩, by omega⟩

theorem of_give {X A C : List Rn} {F : List Bool} {at_ n : Nat} (h : Of X F) (hp : Spot X A C at_) (hn : 1 ≤ n) (h4 : at_ + n ≤ F.length) (h1 : ∀ y, A.getLast? = some y → y.1 + y.2 ≤ at_) (h2 : ∀ z, C.head? = some z → (at_ : Int) + n ≤ z.1) :
    Of ((joinL A at_ n).1 ++ (joinR C (joinL A at_ n).2 (at_ + n)).2 :: (joinR C (joinL A at_ n).2 (at_ + n)).1) (setR F at_ n true) := by
  obtain ⟨hc, hk⟩ := can_give h.1 hp (by omega) (by omega) h1 h2
  refine ⟨hc, fun k => ?_⟩
  rw [hk, h.2]
  constructor
  · rintro (⟨i, rfl, hi⟩ | hi)
    · exact ⟨i, rfl, by rw [setR_get h4]; split <;> first | rfl | exact hi⟩
    · exact ⟨k.toNat, by omega, by rw [setR_get h4, if_pos (by omega)]⟩
  · rintro ⟨i, rfl, hi⟩
    rw [setR_get h4] at hi
    split at hi
    · exact .inr (by omega)
    · exact .inl ⟨i, rfl, hi⟩

theorem Of.bound {X : List Rn} {F : List Bool} (h : Of X F) : ∀ x ∈ X, 0 ≤ x.1 ∧ 1 ≤ x.2 ∧ x.1 + x.2 ≤ F.length := by
  intro x hx
  have hp := Can.pos h.1 x hx
  obtain ⟨i, hi, hf⟩ := (h.2 (x.1 + x.2 - 1)).1 ⟨x, hx, by omega, by omega⟩
  have := (List.getElem?_eq_some_iff.1 hf).1
  exact ⟨hp.1, hp.2.1, by omega⟩
theorem Can.len : ∀ {X : List Rn} {lo : Int}, Can lo X → lo + X.length ≤ endOf lo X
  | [], lo, _ => by simp [endOf]
  | x :: X, lo, h => by
    have := Can.len h.2.2
    have := h.1; have := h.2.1
    simp only [endOf, List.length_cons]; omega
theorem Of.len {X : List Rn} {F : List Bool} (h : Of X F) : X.length ≤ F.length := by
  cases hg : X.getLast? with
  | none => rw [List.getLast?_eq_none_iff.1 hg]; simp
  | some y =>
    obtain ⟨A, rfl⟩ : ∃ A, X = A ++ [y] := List.getLast?_eq_some_iff.1 hg
    have h1 := h.bound y (by simp)
    obtain ⟨hA, hy⟩ := can_append.1 h.1
    have := Can.len hA
    have := hy.1
    simp
    omega

/-! ### The model's list -/
/-- One flag more. -/
def step (X : List Rn) (i : Nat) (f : Bool) : List Rn :=
  if f = false then X else match X.getLast? with
    | some y => if y.1 + y.2 = i then X.dropLast ++ [(y.1, y.2 + 1)] else X ++ [((i : Int), 1)]
    | none => X ++ [((i : Int), 1)]
def runsOf (F : List Bool) : Nat → List Rn
  | 0 => []
  | i + 1 => match F[i]? with | some f => step (runsOf F i) i f | none => runsOf F i

def tot (X : List Rn) : Int := (X.map (·.2)).sum
def cnt (F : List Bool) : Nat → Int
  | 0 => 0
  | i + 1 => match F[i]? with | some true => cnt F i + 1 | _ => cnt F i

theorem runsOf_ok (F : List Bool) : ∀ n, n ≤ F.length → Can 0 (runsOf F n) ∧ endOf 0 (runsOf F n) ≤ n + 1 ∧ (∀ k, cov (runsOf F n) k ↔ ∃ i : Nat, i < n ∧ k = i ∧ F[i]? = some true) ∧ tot (runsOf F n) = cnt F n
  | 0, _ => ⟨trivial, by simp [runsOf, endOf], fun k => ⟨fun h => absurd h (cov_nil k), fun ⟨i, h, _⟩ => by omega⟩, rfl⟩
  | n + 1, hn => by
    obtain ⟨h1, h2, h3, h4⟩ := runsOf_ok F n (by omega)
    have hg : F[n]? = some F[n] := List.getElem?_eq_getElem (by omega)
    simp only [runsOf, cnt, hg]
    cases hf : F[n] with
    | false =>
      simp only [step, if_true]
      refine ⟨h1, by omega, fun k => (h3 k).trans ⟨fun ⟨i, hi, hk⟩ => ⟨i, by omega, hk⟩, fun ⟨i, hi, hk, ht⟩ => ⟨i, ?_, hk, ht⟩⟩, h4⟩
      rcases Nat.lt_or_eq_of_le (Nat.le_of_lt_succ hi) with h | h
      · exact h
      · subst h; rw [hg, hf] at ht; cases ht
    | true =>
      have hcase : ∀ Y : List Rn, Can 0 Y → endOf 0 Y ≤ ((n + 1 : Nat) : Int) + 1 → (∀ k, cov Y k ↔ cov (runsOf F n) k ∨ k = n) → tot Y = tot (runsOf F n) + 1 →
          Can 0 Y ∧ endOf 0 Y ≤ ((n + 1 : Nat) : Int) + 1 ∧ (∀ k, cov Y k ↔ ∃ i : Nat, i < n + 1 ∧ k = i ∧ F[i]? = some true) ∧ tot Y = cnt F n + 1 := by
        intro Y a b c d
        refine ⟨a, b, fun k => ?_, by rw [d, h4]⟩
        rw [c, h3]
        constructor
        · rintro (⟨i, hi, hk, ht⟩ | rfl)
          · exact ⟨i, by omega, hk, ht⟩
          · exact ⟨n, by omega, rfl, by rw [hg, hf]⟩
        · rintro ⟨i, hi, hk, ht⟩
          rcases Nat.lt_or_eq_of_le (Nat.le_of_lt_succ hi) with h | h
          · exact .inl ⟨i, h, hk, ht⟩
          · exact .inr (by omega)
      unfold step
      simp only [Bool.true_eq_false, if_false]
      have happ : ∀ X : List Rn, X = runsOf F n → (∀ y, X.getLast? = some y → y.1 + y.2 ≠ n) → Can 0 (X ++ [((n : Int), 1)]) := by
        rintro X rfl hne
        refine can_append.2 ⟨h1, ?_, Int.le_refl 1, trivial⟩
        cases hgl : (runsOf F n).getLast? with
        | none => rw [List.getLast?_eq_none_iff.1 hgl]; simp [endOf]
        | some y =>
          obtain ⟨A, hA⟩ : ∃ A, runsOf F n = A ++ [y] := List.getLast?_eq_some_iff.1 hgl
          have := hne y hgl
          rw [hA, endOf_append] at h2 ⊢
          simp only [endOf] at h2 ⊢
          omega
      have hno : (∀ y, (runsOf F n).getLast? = some y → y.1 + y.2 ≠ n) → _ := fun hne => hcase (runsOf F n ++ [((n : Int), 1)]) (happ _ rfl hne) (by rw [endOf_append]; simp only [endOf]; omega)
        (fun k => by rw [cov_append, cov_cons]; have := cov_nil k; simp only [this, or_false]; constructor <;> (rintro (h | h); exact .inl h; exact .inr (by omega)))
        (by simp [tot])
      cases hgl : (runsOf F n).getLast? with
      | none => exact hno (by simp [hgl])
      | some y =>
        simp only
        split
        · rename_i e
          obtain ⟨A, hA⟩ : ∃ A, runsOf F n = A ++ [y] := List.getLast?_eq_some_iff.1 hgl
          rw [hA] at h1 h2 hcase ⊢
          simp only [List.dropLast_concat]
          obtain ⟨hA1, hy⟩ := can_append.1 h1
          refine hcase _ (can_append.2 ⟨hA1, hy.1, by have := hy.2.1; simp only; omega, trivial⟩) (by rw [endOf_append]; simp only [endOf]; omega) (fun k => ?_) (by simp [tot]; omega)
          rw [cov_append, cov_append, cov_cons, cov_cons]
          have := cov_nil k
          simp only [this, or_false]
          have := hy.2.1
          constructor
          · rintro (h | h)
            · exact .inl (.inl h)
            · by_cases hk : k = n
              · exact .inr hk
              · exact .inl (.inr (by omega))
          · rintro ((h | h) | h)
            · exact .inl h
            · exact .inr (by omega)
            · exact .inr (by omega)
        · rename_i e
          refine hno fun z hz => ?_
          rw [hgl] at hz
          cases hz
          exact e
theorem runsOf_of (F : List Bool) : Of (runsOf F F.length) F := by
  obtain ⟨h1, _, h3, _⟩ := runsOf_ok F F.length (Nat.le_refl _)
  refine ⟨h1, fun k => (h3 k).trans ⟨fun ⟨i, _, h⟩ => ⟨i, h⟩, fun ⟨i, hk, ht⟩ => ⟨i, (List.getElem?_eq_some_iff.1 ht).1, hk, ht⟩⟩⟩
theorem runsOf_tot (F : List Bool) : tot (runsOf F F.length) = cnt F F.length := (runsOf_ok F F.length (Nat.le_refl _)).2.2.2
theorem Of.eq {X : List Rn} {F : List Bool} (h : Of X F) : X = runsOf F F.length := h.unique (runsOf_of F)
end Go.Runs
