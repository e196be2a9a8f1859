/-
  The program's Runs, on: Mark, Give, List, Free, Greatest, Copy, New.
-/
import Derived.Test.YtdabjchdmieegaaU2
set_option linter.unusedVariables false
set_option linter.unnecessarySimpa false
set_option linter.unusedSimpArgs false
namespace Go.Proofs.Ytdabjchdmieegaa
open Go Go.Lift Go.RowKit
open Go.Runs (Rn)
section
variable {g w w' : World} {L R : List Asn}
variable {K : Value → World → Prop} {E : List PanicEntry → World → Prop}

/-- Mark -/
theorem fn26 {p : Nat} {B : Int} {X : List Rn} {a n : Int} (h : SAT g w (runs p B X :: R)) (hX : X.length ≤ 100000) (hB : B ≤ 1000000) (hb : ∀ x ∈ X, 0 ≤ x.1 ∧ 1 ≤ x.2 ∧ x.1 + x.2 ≤ B)
    (hno : (¬ (0 ≤ a ∧ 1 ≤ n ∧ a + n ≤ B) ∨ ∀ x ∈ X, ¬ (x.1 ≤ a ∧ a + n ≤ x.1 + x.2)) → ∀ w', SAT g w' (runs p B X :: R) → K (.bool false) w')
    (hyes : ∀ A x C, X = A ++ x :: C → 0 ≤ a → 1 ≤ n → x.1 ≤ a → a + n ≤ x.1 + x.2 → ∀ w', SAT g w' (runs p B (A ++ real [(x.1, a - x.1), (a + n, x.1 + x.2 - a - n)] ++ C) :: R) → K (.bool true) w') :
    FN Try.prog 26 #[.pointer (some ⟨p, 0, none⟩), .int .i64 a, .int .i64 n] w K E := by
  refine R26_ok (fn50 h hB ⟨_, rfl, BIF.mk (fun hc => ?_) fun hc => ?_⟩)
  · exact hno (.inl (by simpa only [Bool.not_eq_true', decide_eq_false_iff_not] using hc)) w h
  have hk : 0 ≤ a ∧ 1 ≤ n ∧ a + n ≤ B := by simpa using hc
  obtain ⟨d, h⟩ := runs_open h
  refine sld h (hk := ⟨_, _, _, rfl, ?_⟩)
  have hl := (h.rowAt d).elen two_len (by decide)
  refine LOOP.mk (fun x w' => 0 ≤ x.1 ∧ x.1 ≤ X.length ∧ SAT g w' (cel p 93 [.int .i64 B, sl d] :: row 56 2 d (X.flatMap two) :: R) ∧ ∀ y ∈ X.take x.1.toNat, ¬ (y.1 ≤ a ∧ a + n ≤ y.1 + y.2)) (fun x _ => (X.length - x.1).toNat) ⟨by simp, by simp, h, by simp⟩ ?_
  rintro ⟨i, _⟩ w1 ⟨h0, hi, h1, hall⟩ J
  simp only [] at h0 hi hall
  refine BIF.dec (fun hc => ?_) fun hc => ?_
  · have hc : i < (X.length : Int) := by rw [hl] at hc; exact hc
    obtain ⟨x, hx⟩ : ∃ x, X[i.toNat]? = some x := ⟨X[i.toNat], List.getElem?_eq_getElem (by omega)⟩
    have hbx := hb x (List.mem_of_getElem? hx)
    have e1 : IntKind.wrap .i64 (i + 1) = i + 1 := wrap64 (by omega) (by omega)
    have e2 : (i + 1).toNat = i.toNat + 1 := by omega
    have e3 : IntKind.wrap .i64 (a + n) = a + n := wrap64 (by omega) (by omega)
    have e4 : IntKind.wrap .i64 (x.1 + x.2) = x.1 + x.2 := wrap64 (by omega) (by omega)
    refine elA (d := d) (h1.rowAt d) two_len h0 hx ⟨_, _, rfl, ?_⟩
    refine newA (vs := two x) h1 fun w2 v h2 => ?_
    refine JOIN.mk (fun s w' => w' = w2 ∧ s.1 = decide (x.1 ≤ a ∧ a + n ≤ x.1 + x.2)) ?_ ?_
    · refine sld h2 (hk := ⟨_, rfl, BIF.dec (fun hq => ?_) fun hq => ?_⟩)
      · refine sld h2 (hk := ⟨_, rfl, sld h2 (hk := ⟨_, rfl, rfl, ?_⟩)⟩)
        rw [e3, e4]
        exact decide_eq_decide.2 ⟨fun h => ⟨hq, h⟩, fun h => h.2⟩
      · refine ⟨rfl, ?_⟩
        symm; rw [decide_eq_false_iff_not]; exact fun h => hq h.1
    rintro ⟨t, _⟩ _ ⟨rfl, ht⟩ J
    simp only [] at ht
    subst ht
    refine BIF.dec (fun hq => ?_) fun hq => ?_
    · refine sld h2 (hk := ⟨_, rfl, sld h2 (hk := ⟨_, rfl, sld h2 (hk := ⟨_, rfl, sld h2 (hk := ⟨_, rfl, ?_⟩)⟩)⟩)⟩)
      have e5 : IntKind.wrap .i64 (a - x.1) = a - x.1 := wrap64 (by omega) (by omega)
      have e6 : IntKind.wrap .i64 (x.1 + x.2 - a) = x.1 + x.2 - a := wrap64 (by omega) (by omega)
      have e7 : IntKind.wrap .i64 (x.1 + x.2 - a - n) = x.1 + x.2 - a - n := wrap64 (by omega) (by omega)
      rw [e3, e4, e5, e6, e7]
      refine slit (xs := [(x.1, a - x.1), (a + n, x.1 + x.2 - a - n)].flatMap two) h2 sb52 (items := [(0, .agg #[.int .i64 x.1, .int .i64 (a - x.1)]), (1, .agg #[.int .i64 (a + n), .int .i64 (x.1 + x.2 - a - n)])]) (hk := fun w3 b h3 => ⟨_, _, _, rfl, ?_⟩)
      have h3' := runs_shut (h3.at2 (cel p 93 _) (row 56 2 d _))
      obtain ⟨m, rfl⟩ : ∃ m : Nat, i = m := ⟨i.toNat, by omega⟩
      refine fn48 (h3'.at2 (runs p B X) (row 56 2 (some ⟨b, 0, none⟩, 2, 2) _)) hX (by simp) (by omega) fun w4 h4 => ?_
      simp only [Int.toNat_natCast] at hx hall
      exact hyes _ _ _ (split_at hx) hk.1 hk.2.1 hq.1 hq.2 w4 ((h4.at2 (runs p B _) (cel v 56 _)).perm (.swap _ _ _)).drop
    · simp only [e1, e2]
      exact ⟨⟨by omega, by omega, h2.drop, take_all hx hall hq⟩, by omega⟩
  · have hc : ¬ i < (X.length : Int) := by rw [hl] at hc; exact hc
    have : i.toNat = X.length := by omega
    rw [this, List.take_length] at hall
    exact hno (.inr hall) w1 (runs_shut h1)

/-- List -/
theorem fn23 {p : Nat} {B : Int} {X : List Rn} (h : SAT g w (runs p B X :: R)) (hX : X.length ≤ 100000)
    (hk : ∀ w' d, SAT g w' (row 56 2 d (X.flatMap two) :: runs p B X :: R) → K (sl d) w') :
    FN Try.prog 23 #[.pointer (some ⟨p, 0, none⟩)] w K E := by
  obtain ⟨d, h⟩ := runs_open h
  have hl := (h.rowAt d).elen two_len (by decide)
  refine R23_ok (eqlPtrNil ⟨_, rfl, BIF.no rfl (sld h (hk := ⟨_, _, _, rfl, fn49 h (h.rowAt d) (by omega) (enc_one two_one X) fun w1 d1 h1 _ => ⟨_, _, _, rfl, ?_⟩⟩))⟩)
  exact hk w1 d1 (((runs_shut (h1.at2 (cel p 93 _) (row 56 2 d _)))).perm (.swap _ _ _))

/-- Free -/
theorem fn21 {p : Nat} {B : Int} {X : List Rn} (h : SAT g w (runs p B X :: R)) (hX : X.length ≤ 100000) (hb : ∀ x ∈ X, 0 ≤ x.1 ∧ 1 ≤ x.2 ∧ x.1 + x.2 ≤ 1000000)
    (hk : ∀ w', SAT g w' (runs p B X :: R) → K (.int .i64 (Go.Runs.tot X)) w') :
    FN Try.prog 21 #[.pointer (some ⟨p, 0, none⟩)] w K E := by
  refine R21_ok (fn23 h hX fun w1 d h1 => ⟨_, _, _, rfl, ?_⟩)
  have hl := (h1.rowAt d).elen two_len (by decide)
  refine LOOP.mk (fun x w' => 0 ≤ x.2.1 ∧ x.2.1 ≤ X.length ∧ SAT g w' (row 56 2 d (X.flatMap two) :: runs p B X :: R) ∧ x.1 = Go.Runs.tot (X.take x.2.1.toNat) ∧ 0 ≤ x.1 ∧ x.1 ≤ x.2.1 * 1000000) (fun x _ => (X.length - x.2.1).toNat) ⟨by simp, by simp, h1, by simp [Go.Runs.tot], by simp, by simp⟩ ?_
  rintro ⟨m, i, _⟩ w2 ⟨h0, hi, h2, hm, hm0, hm1⟩ J
  simp only [] at h0 hi hm hm0 hm1
  refine BIF.dec (fun hc => ?_) fun hc => ?_
  · have hc : i < (X.length : Int) := by rw [hl] at hc; exact hc
    obtain ⟨x, hx⟩ : ∃ x, X[i.toNat]? = some x := ⟨X[i.toNat], List.getElem?_eq_getElem (by omega)⟩
    have hbx := hb x (List.mem_of_getElem? hx)
    refine elA (d := d) (h2.rowAt d) two_len h0 hx ⟨_, _, rfl, newA (vs := two x) h2 fun w3 v h3 => sld h3 (hk := ⟨_, rfl, ?_⟩)⟩
    have e1 : IntKind.wrap .i64 (i + 1) = i + 1 := wrap64 (by omega) (by omega)
    have e2 : (i + 1).toNat = i.toNat + 1 := by omega
    have e3 : IntKind.wrap .i64 (m + x.2) = m + x.2 := wrap64 (by omega) (by omega)
    simp only [e1, e2, e3]
    refine ⟨⟨by omega, by omega, h3.drop, ?_, by omega, by omega⟩, by omega⟩
    rw [List.take_add_one, hx, hm]
    simp [Go.Runs.tot]
  · have hc : ¬ i < (X.length : Int) := by rw [hl] at hc; exact hc
    have : i.toNat = X.length := by omega
    rw [this, List.take_length] at hm
    rw [hm]
    exact hk w2 h2.drop

def great (X : List Rn) : Int := X.foldl (fun n x => if x.2 > n then x.2 else n) 0
theorem great_succ {X : List Rn} {i : Nat} {x : Rn} (h : X[i]? = some x) : great (X.take (i + 1)) = if x.2 > great (X.take i) then x.2 else great (X.take i) := by
  unfold great
  rw [List.take_add_one, h, Option.toList_some, List.foldl_append]
  rfl

/-- Greatest -/
theorem fn30 {p : Nat} {B : Int} {X : List Rn} (h : SAT g w (runs p B X :: R)) (hX : X.length ≤ 100000)
    (hk : ∀ w', SAT g w' (runs p B X :: R) → K (.int .i64 (great X)) w') :
    FN Try.prog 30 #[.pointer (some ⟨p, 0, none⟩)] w K E := by
  refine R30_ok (fn23 h hX fun w1 d h1 => ⟨_, _, _, rfl, ?_⟩)
  have hl := (h1.rowAt d).elen two_len (by decide)
  refine LOOP.mk (fun x w' => 0 ≤ x.2.1 ∧ x.2.1 ≤ X.length ∧ SAT g w' (row 56 2 d (X.flatMap two) :: runs p B X :: R) ∧ x.1 = great (X.take x.2.1.toNat)) (fun x _ => (X.length - x.2.1).toNat) ⟨by simp, by simp, h1, by simp [great]⟩ ?_
  rintro ⟨m, i, _⟩ w2 ⟨h0, hi, h2, hm⟩ J
  simp only [] at h0 hi hm
  refine BIF.dec (fun hc => ?_) fun hc => ?_
  · have hc : i < (X.length : Int) := by rw [hl] at hc; exact hc
    obtain ⟨x, hx⟩ : ∃ x, X[i.toNat]? = some x := ⟨X[i.toNat], List.getElem?_eq_getElem (by omega)⟩
    refine elA (d := d) (h2.rowAt d) two_len h0 hx ⟨_, _, rfl, newA (vs := two x) h2 fun w3 v h3 => sld h3 (hk := ⟨_, rfl, ?_⟩)⟩
    have e1 : IntKind.wrap .i64 (i + 1) = i + 1 := wrap64 (by omega) (by omega)
    have e2 : (i + 1).toNat = i.toNat + 1 := by omega
    simp only [e1, e2]
    exact ⟨⟨by omega, by omega, h3.drop, by rw [great_succ hx, hm]⟩, by omega⟩
  · have hc : ¬ i < (X.length : Int) := by rw [hl] at hc; exact hc
    have : i.toNat = X.length := by omega
    rw [this, List.take_length] at hm
    rw [hm]
    exact hk w2 h2.drop

/-- Copy -/
theorem fn20 {p : Nat} {B : Int} {X : List Rn} (h : SAT g w (runs p B X :: R)) (hX : X.length ≤ 100000)
    (hk : ∀ w' q, SAT g w' (runs q B X :: runs p B X :: R) → K (.pointer (some ⟨q, 0, none⟩)) w') :
    FN Try.prog 20 #[.pointer (some ⟨p, 0, none⟩)] w K E := by
  obtain ⟨d, h⟩ := runs_open h
  have hl := (h.rowAt d).elen two_len (by decide)
  refine R20_ok (eqlPtrNil ⟨_, rfl, BIF.no rfl (DRAW.sat h fun h => hsld h ⟨_, rfl, hsld h ⟨_, _, _, rfl, fn49 h (h.rowAt d) (by omega) (enc_one two_one X) fun w1 d1 h1 _ => ⟨_, _, _, rfl, h1.drop, ?_⟩⟩⟩)⟩)
  refine sbox (cs := [.int .i64 B, sl d1]) h1 (hk := fun w2 q h2 => ⟨_, rfl, hk w2 q (runs_shut (d := d1) ?_)⟩)
  exact (runs_shut (h2.at2 (cel p 93 _) (row 56 2 d _))).as

/-- New -/
theorem fn18 {B : Int} (h : SAT g w L) (hk : ∀ w' q, SAT g w' (runs q (if B < 1 ∨ B > 8192 then 0 else B) (if B < 1 ∨ B > 8192 then [] else [(0, B)]) :: L) → K (.pointer (some ⟨q, 0, none⟩)) w') :
    FN Try.prog 18 #[.int .i64 B] w K E := by
  have hnil : ∀ w1 q, SAT g w1 (cel q 93 [.int .i64 0, .slice none 0 0] :: L) → B < 1 ∨ B > 8192 → K (.pointer (some ⟨q, 0, none⟩)) w1 := fun w1 q h1 hB => by
    refine hk w1 q ?_
    rw [if_pos hB, if_pos hB]
    refine runs_shut (d := (none, 0, 0)) ?_
    exact (h1.newRow (d := (none, 0, 0)) (Same.refl _ _) (SRow.nil w1 56 2 none) (by simp [ownB])).perm (.swap _ _ _)
  refine R18_ok (JOIN.mk (fun _ w' => w' = w ∧ ¬ (B < 1 ∨ B > 8192)) ?_ ?_)
  · refine BIF.dec (fun hc => ?_) fun hc => BIF.dec (fun hc2 => ?_) fun hc2 => ⟨rfl, by omega⟩
    · exact sbox h (cs := [.int .i64 0, .slice none 0 0]) (hk := fun w1 q h1 => ⟨_, rfl, hnil w1 q h1 (.inl hc)⟩)
    · exact sbox h (cs := [.int .i64 0, .slice none 0 0]) (hk := fun w1 q h1 => ⟨_, rfl, hnil w1 q h1 (.inr hc2)⟩)
  rintro ⟨⟩ _ ⟨rfl, hB⟩ J
  refine slit (xs := [(0, B)].flatMap two) h sb52 (items := [(0, .agg #[.int .i64 0, .int .i64 B])]) (hk := fun w1 b h1 => ⟨_, _, _, rfl, ?_⟩)
  refine sbox (cs := [.int .i64 B, sl (some ⟨b, 0, none⟩, 1, 1)]) h1 (hk := fun w2 q h2 => ⟨_, rfl, hk w2 q ?_⟩)
  rw [if_neg hB, if_neg hB]
  exact runs_shut h2
end
end Go.Proofs.Ytdabjchdmieegaa

