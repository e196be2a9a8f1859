/-
  The program's Runs, function by function.
-/
import Derived.Test.YtdabjchdmieegaaU1
import Derived.Test.YtdabjchdmieegaaRunsLaw
set_option linter.unusedVariables false
set_option linter.unnecessarySimpa false
set_option linter.unusedSimpArgs false
namespace Go.Proofs.Ytdabjchdmieegaa
open Go Go.Lift Go.RowKit
open Go.Runs (Rn)
section
variable {g w w' : World} {L R : List Asn}
variable {K : Value → World → Prop} {E : List PanicEntry → World → Prop}

/-- The object at p: so many blocks, these runs. -/
def runs (p : Nat) (B : Int) (X : List Rn) : Asn := exA fun d : D => both (cel p 93 [.int .i64 B, sl d]) (row 56 2 d (X.flatMap two))
theorem runs_open {p : Nat} {B : Int} {X : List Rn} (h : SAT g w (runs p B X :: R)) : ∃ d : D, SAT g w (cel p 93 [.int .i64 B, sl d] :: row 56 2 d (X.flatMap two) :: R) := let ⟨d, h⟩ := SAT.openEx h; ⟨d, SAT.openBoth h⟩
theorem runs_shut {p : Nat} {B : Int} {X : List Rn} {d : D} (h : SAT g w (cel p 93 [.int .i64 B, sl d] :: row 56 2 d (X.flatMap two) :: R)) : SAT g w (runs p B X :: R) := SAT.shutEx d (SAT.shutBoth h)

theorem real_eq (X : List Rn) : real X = Go.Runs.real X := rfl

/-- put -/
theorem fn48 {p : Nat} {B : Int} {X Y : List Rn} {dl : D} {i : Nat} (h : SAT g w (runs p B X :: row 56 2 dl (Y.flatMap two) :: R)) (hX : X.length ≤ 100000) (hY : Y.length ≤ 1000) (hi : i < X.length)
    (hk : ∀ w', SAT g w' (runs p B (X.take i ++ real Y ++ X.drop (i + 1)) :: R) → K (.tuple #[]) w') :
    FN Try.prog 48 #[.pointer (some ⟨p, 0, none⟩), .int .i64 (i : Int), sl dl] w K E := by
  obtain ⟨d, h⟩ := runs_open h
  refine R48_ok (fn66 (h.rowAt dl) (by omega) fun w1 n' hr hs => ⟨_, _, _, rfl, ?_⟩)
  have h1 := h.turnRow (d' := (dl.1, n', dl.2.2)) (.tail (.tail (.head _))) hs hr fun b hb => .inl hb
  refine sld h1 (hk := ⟨_, _, _, rfl, ?_⟩)
  have e1 : IntKind.wrap .i64 ((i : Int) + 1) = ((i + 1 : Nat) : Int) := by rw [wrap64 (by omega) (by omega)]; omega
  rw [e1]
  have hl := (h1.rowAt d).elen two_len (by decide)
  have hl2 : n' = (real Y).length := hr.elen two_len (by decide)
  have hl3 : (real Y).length ≤ Y.length := List.length_filter_le _ _
  have ha := (h1.at2 (row 56 2 (dl.1, n', dl.2.2) _) (row 56 2 d _)).rowsApart
  refine fn51 (h1.rowAt d) (h1.rowAt (dl.1, n', dl.2.2)) ha (by show d.2.1 + n' ≤ _; omega) (by omega) (by omega) (by omega) (enc_one two_one X) (enc_one two_one _) fun w2 a' c' hr2 hs2 ho2 => ⟨_, _, _, rfl, ?_⟩
  rw [Int.toNat_natCast, Int.toNat_natCast, enc_take two_len, enc_drop two_len, ← List.flatMap_append, ← List.flatMap_append] at hr2
  have h2 := h1.turnRow (d := d) (d' := (a', i + n' + (d.2.1 - (i + 1)), c')) (.tail (.head _)) hs2 hr2 ho2
  refine sst h2 (hk := fun w3 h3 => hk w3 (runs_shut (d := (a', i + n' + (d.2.1 - (i + 1)), c')) ?_))
  exact (h3.at (row 56 2 (dl.1, n', dl.2.2) _)).drop

/-- known -/
theorem fn50 {p : Nat} {B : Int} {X : List Rn} {a n : Int} (h : SAT g w (runs p B X :: R)) (hB : B ≤ 1000000) (hk : K (.bool (decide (0 ≤ a ∧ 1 ≤ n ∧ a + n ≤ B))) w) :
    FN Try.prog 50 #[.pointer (some ⟨p, 0, none⟩), .int .i64 a, .int .i64 n] w K E := by
  obtain ⟨d, h⟩ := runs_open h
  refine R50_ok (neqPtrNil ⟨_, rfl, BIF.yes rfl (BIF.dec (fun h1 => BIF.dec (fun h2 => ?_) fun h2 => ?_) fun h1 => ?_)⟩)
  · refine sld h (hk := ⟨_, rfl, BIF.dec (fun h3 => ?_) fun h3 => ?_⟩)
    · refine sld h (hk := ⟨_, rfl, ?_⟩)
      rw [wrap64 (by omega) (by omega)]
      have : decide (a ≤ B - n) = decide (0 ≤ a ∧ 1 ≤ n ∧ a + n ≤ B) := decide_eq_decide.2 (by omega)
      rw [this]; exact hk
    · have : false = decide (0 ≤ a ∧ 1 ≤ n ∧ a + n ≤ B) := by symm; rw [decide_eq_false_iff_not]; omega
      rw [this]; exact hk
  · have : false = decide (0 ≤ a ∧ 1 ≤ n ∧ a + n ≤ B) := by symm; rw [decide_eq_false_iff_not]; omega
    rw [this]; exact hk
  · have : false = decide (0 ≤ a ∧ 1 ≤ n ∧ a + n ≤ B) := by symm; rw [decide_eq_false_iff_not]; omega
    rw [this]; exact hk

theorem split_at {X : List Rn} {i : Nat} {x : Rn} (h : X[i]? = some x) : X = X.take i ++ x :: X.drop (i + 1) := by
  obtain ⟨hi, e⟩ := List.getElem?_eq_some_iff.1 h
  rw [← e, ← List.drop_eq_getElem_cons hi, List.take_append_drop]
theorem take_all {X : List Rn} {i : Nat} {x : Rn} {p : Rn → Prop} (h : X[i]? = some x) (ha : ∀ y ∈ X.take i, p y) (hx : p x) : ∀ y ∈ X.take (i + 1), p y := by
  intro y hy
  rw [List.take_add_one, h, Option.toList_some] at hy
  rcases List.mem_append.1 hy with h | h
  · exact ha y h
  · rw [List.mem_singleton.1 h]; exact hx

/-- Take -/
theorem fn19 {p : Nat} {B : Int} {X : List Rn} {n : Int} (h : SAT g w (runs p B X :: R)) (hX : X.length ≤ 100000) (hb : ∀ x ∈ X, 0 ≤ x.1 ∧ 1 ≤ x.2 ∧ x.1 + x.2 ≤ 1000000)
    (hno : (n < 1 ∨ ∀ x ∈ X, x.2 < n) → ∀ w', SAT g w' (runs p B X :: R) → K (.tuple #[.int .i64 0, .bool false]) w')
    (hyes : ∀ A x C, X = A ++ x :: C → 1 ≤ n → n ≤ x.2 → (∀ y ∈ A, y.2 < n) → ∀ w', SAT g w' (runs p B (A ++ real [(x.1 + n, x.2 - n)] ++ C) :: R) → K (.tuple #[.int .i64 x.1, .bool true]) w') :
    FN Try.prog 19 #[.pointer (some ⟨p, 0, none⟩), .int .i64 n] w K E := by
  obtain ⟨d, h⟩ := runs_open h
  refine R19_ok (JOIN.mk (fun _ w' => w' = w ∧ 1 ≤ n) ?_ ?_)
  · refine eqlPtrNil ⟨_, rfl, BIF.no rfl (BIF.dec (fun hc => ?_) fun hc => ⟨rfl, by omega⟩)⟩
    exact hno (.inl hc) w (runs_shut h)
  rintro ⟨⟩ _ ⟨rfl, hn⟩ J
  refine sld h (hk := ⟨_, _, _, rfl, ?_⟩)
  have hl := (h.rowAt d).elen two_len (by decide)
  refine LOOP.mk (fun x w' => 0 ≤ x.1 ∧ x.1 ≤ X.length ∧ SAT g w' (cel p 93 [.int .i64 B, sl d] :: row 56 2 d (X.flatMap two) :: R) ∧ ∀ y ∈ X.take x.1.toNat, y.2 < n) (fun x _ => (X.length - x.1).toNat) ⟨by simp, by simp, h, by simp⟩ ?_
  rintro ⟨i, _⟩ w1 ⟨h0, hi, h1, hall⟩ J
  simp only [] at h0 hi hall
  refine BIF.dec (fun hc => ?_) fun hc => ?_
  · have hc : i < (X.length : Int) := by rw [hl] at hc; exact hc
    obtain ⟨x, hx⟩ : ∃ x, X[i.toNat]? = some x := ⟨X[i.toNat], List.getElem?_eq_getElem (by omega)⟩
    have hbx := hb x (List.mem_of_getElem? hx)
    refine elA (d := d) (h1.rowAt d) two_len h0 hx ⟨_, _, rfl, ?_⟩
    refine newA (vs := two x) h1 fun w2 v h2 => sld h2 (hk := ⟨_, rfl, BIF.dec (fun hq => ?_) fun hq => ?_⟩)
    · refine sld h2 (hk := ⟨_, rfl, sld h2 (hk := ⟨_, rfl, ?_⟩)⟩)
      rw [wrap64 (by omega) (by omega), wrap64 (by omega) (by omega)]
      refine slit (xs := [(x.1 + n, x.2 - n)].flatMap two) h2 sb52 (items := [(0, .agg #[.int .i64 (x.1 + n), .int .i64 (x.2 - n)])]) (hk := fun w3 b h3 => ⟨_, _, _, rfl, ?_⟩)
      have h3' := runs_shut (h3.at2 (cel p 93 _) (row 56 2 d _))
      obtain ⟨m, rfl⟩ : ∃ m : Nat, i = m := ⟨i.toNat, by omega⟩
      refine fn48 (h3'.at2 (runs p B X) (row 56 2 (some ⟨b, 0, none⟩, 1, 1) _)) hX (by simp) (by omega) fun w4 h4 => ?_
      refine sld h4 (b := v) (cs := two x) (hk := ⟨_, rfl, ?_⟩)
      simp only [Int.toNat_natCast] at hx hall
      exact hyes _ _ _ (split_at hx) hn hq hall w4 ((h4.at2 (runs p B _) (cel v 56 _)).perm (.swap _ _ _)).drop
    · have e1 : IntKind.wrap .i64 (i + 1) = i + 1 := wrap64 (by omega) (by omega)
      have e2 : (i + 1).toNat = i.toNat + 1 := by omega
      have hq : ¬ x.2 ≥ n := hq
      simp only [e1, e2]
      exact ⟨⟨by omega, by omega, h2.drop, take_all hx hall (by omega)⟩, by omega⟩
  · have hc : ¬ i < (X.length : Int) := by rw [hl] at hc; exact hc
    have : i.toNat = X.length := by omega
    rw [this, List.take_length] at hall
    exact hno (.inr hall) w1 (runs_shut h1)
end
end Go.Proofs.Ytdabjchdmieegaa

