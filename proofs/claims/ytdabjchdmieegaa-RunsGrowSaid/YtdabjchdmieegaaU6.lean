/-
  The model's List, Greatest, Take; both compared; the example.
-/
import Derived.Test.YtdabjchdmieegaaU5
set_option linter.unusedVariables false
set_option linter.unnecessarySimpa false
set_option linter.unusedSimpArgs false
namespace Go.Proofs.Ytdabjchdmieegaa
open Go Go.Lift Go.RowKit
open Go.Runs (Rn runsOf setR cnt Of)
section
variable {g w w' : World} {L R : List Asn}
variable {K : Value → World → Prop} {E : List PanicEntry → World → Prop}

theorem runsOf_len (F : List Bool) : ∀ n, (runsOf F n).length ≤ n
  | 0 => by simp [runsOf]
  | n + 1 => by
    have := runsOf_len F n
    simp only [runsOf]
    split
    · unfold Go.Runs.step
      split
      · omega
      · split
        · split
          · rw [List.length_append, List.length_dropLast]; simp; omega
          · simp; omega
        · simp; omega
    · omega

/-- List -/
theorem fn52 {q : Nat} {F : List Bool} (h : SAT g w (mr q F :: R)) (hF : F.length ≤ 100000)
    (hk : ∀ w' d, SAT g w' (row 56 2 d ((runsOf F F.length).flatMap two) :: mr q F :: R) → K (sl d) w') :
    FN Try.prog 52 #[.pointer (some ⟨q, 0, none⟩)] w K E := by
  obtain ⟨d, h⟩ := mr_open h
  have hl := (h.rowAt d).elen bl_len (by decide)
  refine R52_ok (LOOP.mk (fun x w' => 0 ≤ x.2.1 ∧ x.2.1 ≤ F.length ∧ SAT g w' (row 56 2 x.1 ((runsOf F x.2.1.toNat).flatMap two) :: cel q 98 [sl d] :: row 4 1 d (F.flatMap bl) :: R)) (fun x _ => (F.length - x.2.1).toNat) ⟨by simp, by simp, h.nilRow 56 2⟩ ?_)
  rintro ⟨l, i, _⟩ w2 ⟨h0, hi, h2⟩ J
  simp only [] at h0 hi h2
  refine sld h2 (hk := ⟨_, _, _, rfl, BIF.dec (fun hc => ?_) fun hc => ?_⟩)
  · have hc : i < (F.length : Int) := by rw [hl] at hc; exact hc
    obtain ⟨x, hx⟩ : ∃ x, F[i.toNat]? = some x := ⟨F[i.toNat], List.getElem?_eq_getElem (by omega)⟩
    have e1 : IntKind.wrap .i64 (i + 1) = i + 1 := wrap64 (by omega) (by omega)
    have e2 : (i + 1).toNat = i.toNat + 1 := by omega
    refine sld h2 (hk := ⟨_, _, _, rfl, elF0 (d := d) (h2.rowAt d) bl_len h0 hx rfl ⟨_, rfl, ?_⟩⟩)
    simp only [e1]
    cases x
    · refine BIF.yes rfl ⟨⟨by omega, by omega, ?_⟩, by omega⟩
      simp only [e2, runsOf, hx, Go.Runs.step, if_true]; exact h2
    refine BIF.no rfl ?_
    have hrl := runsOf_len F i.toNat
    have hll := (h2.rowAt l).elen two_len (by decide)
    have hb : ∀ y ∈ runsOf F i.toNat, 0 ≤ y.1 ∧ 1 ≤ y.2 ∧ y.1 + y.2 ≤ i := fun y hy => by
      obtain ⟨a1, a2, a3, _⟩ := Go.Runs.runsOf_ok F i.toNat (by omega)
      have := Go.Runs.Can.pos a1 y hy
      omega
    have hstep : runsOf F (i.toNat + 1) = Go.Runs.step (runsOf F i.toNat) i.toNat true := by simp only [runsOf, hx]
    generalize runsOf F i.toNat = X at *
    have hlast : (l.2.1 : Int) > 0 → ∃ y, X[((l.2.1 : Int) - 1).toNat]? = some y ∧ X.getLast? = some y ∧ ((l.2.1 : Int) - 1).toNat = X.length - 1 := fun hz => by
      have e : ((l.2.1 : Int) - 1).toNat = X.length - 1 := by omega
      refine ⟨X[X.length - 1], by rw [e]; exact List.getElem?_eq_getElem (by omega), ?_, e⟩
      rw [List.getLast?_eq_getElem?]
      exact List.getElem?_eq_getElem (by omega)
    have e3 : IntKind.wrap .i64 ((l.2.1 : Int) - 1) = (l.2.1 : Int) - 1 := wrap64 (by omega) (by omega)
    rw [e3]
    refine JOIN.mk (fun s w' => SAT g w' (row 56 2 l (X.flatMap two) :: cel q 98 [sl d] :: row 4 1 d (F.flatMap bl) :: R) ∧ s.1 = decide (∃ y, X.getLast? = some y ∧ y.1 + y.2 = i)) ?_ ?_
    · refine DRAW.sat h2 fun h2 => BIF.dec (fun hc2 => ?_) fun hc2 => ⟨h2, ?_⟩
      · obtain ⟨y, hy, hy2, _⟩ := hlast hc2
        have hby := hb y (List.mem_of_getElem? hy)
        have e4 : IntKind.wrap .i64 (y.1 + y.2) = y.1 + y.2 := wrap64 (by omega) (by omega)
        refine helF0 (d := l) h2 (.head _) two_len (by omega) hy rfl ⟨_, rfl, helF (d := l) h2 (.head _) two_len (by omega) hy rfl ⟨_, rfl, h2, ?_⟩⟩
        rw [e4, hy2]
        by_cases h : y.1 + y.2 = i <;> simp [h]
      · symm; rw [decide_eq_false_iff_not]
        rintro ⟨y, hy, _⟩
        have : X = [] := List.eq_nil_of_length_eq_zero (by omega)
        rw [this] at hy; cases hy
    rintro ⟨t, _⟩ w3 ⟨h3, ht⟩ J
    simp only [] at ht
    subst ht
    refine BIF.dec (fun hc2 => ?_) fun hc2 => ?_
    · obtain ⟨y, hy, hyi⟩ := hc2
      have hpos : (l.2.1 : Int) > 0 := by
        by_cases hz : (l.2.1 : Int) > 0
        · exact hz
        · have : X = [] := List.eq_nil_of_length_eq_zero (by omega)
          rw [this] at hy; cases hy
      obtain ⟨y', hy', hy2', hidx⟩ := hlast hpos
      rw [hy] at hy2'; cases hy2'
      have hby := hb y (List.mem_of_getElem? hy')
      have e4 : IntKind.wrap .i64 (y.2 + 1) = y.2 + 1 := wrap64 (by omega) (by omega)
      refine elF (d := l) (h3.rowAt l) two_len (by omega) hy' rfl ⟨_, rfl, ?_⟩
      rw [e4]
      refine elSt (d := l) (f := two) (x := y) (x' := (y.1, y.2 + 1)) h3 (.head _) two_len (by omega) hy' (by decide) rfl fun w4 h4 => ⟨⟨by omega, by omega, ?_⟩, by omega⟩
      simp only [e2]
      rw [hstep]
      have : Go.Runs.step X i.toNat true = X.set ((l.2.1 : Int) - 1).toNat (y.1, y.2 + 1) := by
        unfold Go.Runs.step
        rw [hy, hidx]
        simp only [Bool.true_eq_false, if_false]
        rw [if_pos (by omega)]
        obtain ⟨A, rfl⟩ : ∃ A, X = A ++ [y] := List.getLast?_eq_some_iff.1 hy
        simp
      rw [this]; exact h4
    · refine slit (xs := [(i, (1 : Int))].flatMap two) h3 sb52 (items := [(0, .agg #[.int .i64 i, .int .i64 1])]) (hk := fun w4 b h4 => ⟨_, _, _, rfl, ?_⟩)
      have h5 := h4.at (row 56 2 l _)
      refine sapp (d := l) (d2 := (some ⟨b, 0, none⟩, 1, 1)) sb52 h5 (h4.rowAt (some ⟨b, 0, none⟩, 1, 1)).seen (enc_one two_one _) (by simp only []; omega) (by simp only [maxLen]; omega) rfl fun w5 a' c' h6 => ⟨_, _, _, rfl, ⟨by omega, by omega, ?_⟩, by omega⟩
      simp only [e2]
      rw [hstep]
      have : Go.Runs.step X i.toNat true = X ++ [(i, (1 : Int))] := by
        have e : ((i.toNat : Nat) : Int) = i := by omega
        unfold Go.Runs.step
        simp only [Bool.true_eq_false, if_false, e]
        cases hg : X.getLast? with
        | none => rfl
        | some y => simp only; rw [if_neg fun e => hc2 ⟨y, hg, e⟩]
      rw [this, List.flatMap_append]
      exact h6.as
  · have hc : ¬ i < (F.length : Int) := by rw [hl] at hc; exact hc
    have : i.toNat = F.length := by omega
    rw [this] at h2
    exact hk w2 l (mr_shut (h2.at2 (cel q 98 _) (row 4 1 d _))).as

/-- Greatest -/
theorem fn55 {q : Nat} {F : List Bool} (h : SAT g w (mr q F :: R)) (hF : F.length ≤ 100000)
    (hk : ∀ w', SAT g w' (mr q F :: R) → K (.int .i64 (great (runsOf F F.length))) w') :
    FN Try.prog 55 #[.pointer (some ⟨q, 0, none⟩)] w K E := by
  refine R55_ok (fn52 h hF fun w1 d h1 => ⟨_, _, _, rfl, ?_⟩)
  have hrl := runsOf_len F F.length
  generalize runsOf F F.length = X at *
  have hl := (h1.rowAt d).elen two_len (by decide)
  refine LOOP.mk (fun x w' => 0 ≤ x.2.1 ∧ x.2.1 ≤ X.length ∧ SAT g w' (row 56 2 d (X.flatMap two) :: mr q F :: R) ∧ x.1 = great (X.take x.2.1.toNat)) (fun x _ => (X.length - x.2.1).toNat) ⟨by simp, by simp, h1, by simp [great]⟩ ?_
  rintro ⟨m, i, _⟩ w2 ⟨h0, hi, h2, hm⟩ J
  simp only [] at h0 hi hm
  refine BIF.dec (fun hc => ?_) fun hc => ?_
  · have hc : i < (X.length : Int) := by rw [hl] at hc; exact hc
    obtain ⟨x, hx⟩ : ∃ x, X[i.toNat]? = some x := ⟨X[i.toNat], List.getElem?_eq_getElem (by omega)⟩
    refine elF (d := d) (h2.rowAt d) two_len h0 hx rfl ⟨_, rfl, ?_⟩
    have e1 : IntKind.wrap .i64 (i + 1) = i + 1 := wrap64 (by omega) (by omega)
    have e2 : (i + 1).toNat = i.toNat + 1 := by omega
    simp only [e1, e2]
    exact ⟨⟨by omega, by omega, h2, by rw [great_succ hx, hm]⟩, by omega⟩
  · have hc : ¬ i < (X.length : Int) := by rw [hl] at hc; exact hc
    have : i.toNat = X.length := by omega
    rw [this, List.take_length] at hm
    rw [hm]
    exact hk w2 h2.drop

/-- Take -/
theorem fn25 {q : Nat} {F : List Bool} {n : Int} (h : SAT g w (mr q F :: R)) (hF : F.length ≤ 100000)
    (hno : (n < 1 ∨ ∀ x ∈ runsOf F F.length, x.2 < n) → ∀ w', SAT g w' (mr q F :: R) → K (.tuple #[.int .i64 0, .bool false]) w')
    (hyes : ∀ A x C, runsOf F F.length = A ++ x :: C → 1 ≤ n → n ≤ x.2 → (∀ y ∈ A, y.2 < n) → ∀ w', SAT g w' (mr q (setR F x.1.toNat n.toNat false) :: R) → K (.tuple #[.int .i64 x.1, .bool true]) w') :
    FN Try.prog 25 #[.pointer (some ⟨q, 0, none⟩), .int .i64 n] w K E := by
  refine R25_ok (fn52 h hF fun w1 d h1 => ⟨_, _, _, rfl, ?_⟩)
  have hb := (Go.Runs.runsOf_of F).bound
  have hrl := runsOf_len F F.length
  generalize runsOf F F.length = X at *
  have hl := (h1.rowAt d).elen two_len (by decide)
  refine LOOP.mk (fun x w' => 0 ≤ x.1 ∧ x.1 ≤ X.length ∧ SAT g w' (row 56 2 d (X.flatMap two) :: mr q F :: R) ∧ (x.1 = 0 ∨ 1 ≤ n) ∧ ∀ y ∈ X.take x.1.toNat, y.2 < n) (fun x _ => (X.length - x.1).toNat) ⟨by simp, by simp, h1, .inl rfl, by simp⟩ ?_
  rintro ⟨i, _⟩ w2 ⟨h0, hi, h2, hin, hall⟩ J
  simp only [] at h0 hi hin hall
  refine JOIN.mk (fun _ w' => w' = w2 ∧ i < X.length ∧ 1 ≤ n) ?_ ?_
  · refine BIF.dec (fun hc => ?_) fun hc => ?_
    · rw [hl] at hc
      refine BIF.dec (fun hc2 => ⟨rfl, hc, by omega⟩) fun hc2 => ?_
      exact hno (.inl (by omega)) w2 h2.drop
    · rw [hl] at hc
      have : i.toNat = X.length := by omega
      rw [this, List.take_length] at hall
      exact hno (.inr hall) w2 h2.drop
  rintro ⟨⟩ _ ⟨rfl, hc, hn⟩ J
  obtain ⟨x, hx⟩ : ∃ x, X[i.toNat]? = some x := ⟨X[i.toNat], List.getElem?_eq_getElem (by omega)⟩
  have hbx := hb x (List.mem_of_getElem? hx)
  refine elF (d := d) (h2.rowAt d) two_len h0 hx rfl ⟨_, rfl, BIF.dec (fun hq => ?_) fun hq => ?_⟩
  · have hq : n ≤ x.2 := hq
    obtain ⟨e, h3⟩ := mr_open (h2.at (mr q F))
    have hle := (h3.rowAt e).elen bl_len (by decide)
    refine LOOP.mk (fun y w' => 0 ≤ y.1 ∧ y.1 ≤ n ∧ SAT g w' (cel q 98 [sl e] :: row 4 1 e ((setR F x.1.toNat y.1.toNat false).flatMap bl) :: row 56 2 d (X.flatMap two) :: R)) (fun y _ => (n - y.1).toNat) ⟨by simp, by simp only []; omega, by simpa [setR_zero] using h3⟩ ?_
    rintro ⟨k, _⟩ w3 ⟨hk0, hkn, h4⟩ J
    simp only [] at hk0 hkn h4
    refine BIF.dec (fun hc3 => ?_) fun hc3 => ?_
    · have hc3 : k < n := hc3
      have e0 : IntKind.wrap .i64 (x.1 + k) = x.1 + k := wrap64 (by omega) (by omega)
      have e1 : IntKind.wrap .i64 (k + 1) = k + 1 := wrap64 (by omega) (by omega)
      have e2 : (k + 1).toNat = k.toNat + 1 := by omega
      have e3 : (x.1 + k).toNat = x.1.toNat + k.toNat := by omega
      obtain ⟨v, hv⟩ : ∃ v, (setR F x.1.toNat k.toNat false)[(x.1 + k).toNat]? = some v := ⟨_, List.getElem?_eq_getElem (by rw [Go.Runs.setR_len (by omega)]; omega)⟩
      refine DRAW.sat h4 fun h4 => hsld h4 ⟨_, _, _, rfl, helF0 (d := d) h4 (.tail (.tail (.head _))) two_len h0 hx rfl ⟨_, rfl, ?_⟩⟩
      rw [e0]
      refine elSt0 (d := e) (f := bl) (x := v) (x' := false) h4 (.tail (.head _)) bl_len (by omega) hv (by decide) rfl fun w5 h5 => ?_
      simp only [e1, e2]
      rw [e3, setR_step (by omega)] at h5
      exact ⟨⟨by omega, by omega, h5⟩, by omega⟩
    · have hc3 : ¬ k < n := hc3
      have : k = n := by omega
      subst this
      refine elF0 (d := d) (h4.rowAt d) two_len h0 hx rfl ⟨_, rfl, ?_⟩
      exact hyes _ _ _ (split_at hx) hn hq hall w3 ((mr_shut h4).as)
  · have hq : ¬ x.2 ≥ n := hq
    have e1 : IntKind.wrap .i64 (i + 1) = i + 1 := wrap64 (by omega) (by omega)
    have e2 : (i + 1).toNat = i.toNat + 1 := by omega
    simp only [e1, e2]
    exact ⟨⟨by omega, by omega, h2, .inr hn, take_all hx hall (by omega)⟩, by omega⟩
end
end Go.Proofs.Ytdabjchdmieegaa

