/-
  The model's Runs, function by function.
-/
import Derived.Test.YtdabjchdmieegaaU4
import Derived.Test.YtdabjchdmieegaaRules10
set_option linter.unusedVariables false
set_option linter.unnecessarySimpa false
set_option linter.unusedSimpArgs false
namespace Go.Proofs.Ytdabjchdmieegaa
open Go Go.Lift Go.RowKit
open Go.Runs (Rn runsOf setR cnt)
section
variable {g w w' : World} {L R : List Asn}
variable {K : Value → World → Prop} {E : List PanicEntry → World → Prop}

/-- The model at q: these flags. -/
def mr (q : Nat) (F : List Bool) : Asn := exA fun d : D => both (cel q 98 [sl d]) (row 4 1 d (F.flatMap bl))
theorem mr_open {q : Nat} {F : List Bool} (h : SAT g w (mr q F :: R)) : ∃ d : D, SAT g w (cel q 98 [sl d] :: row 4 1 d (F.flatMap bl) :: R) := let ⟨d, h⟩ := SAT.openEx h; ⟨d, SAT.openBoth h⟩
theorem mr_shut {q : Nat} {F : List Bool} {d : D} (h : SAT g w (cel q 98 [sl d] :: row 4 1 d (F.flatMap bl) :: R)) : SAT g w (mr q F :: R) := SAT.shutEx d (SAT.shutBoth h)
theorem sb32 : slB Try.prog 32 = some (4, 1, 1, [.bool false]) := by kernel_rfl

/-- NewRuns -/
theorem fn24 {B : Int} (h : SAT g w L) (hk : ∀ w' q, SAT g w' (mr q (List.replicate (if B < 0 ∨ B > 8192 then 0 else B).toNat true) :: L) → K (.pointer (some ⟨q, 0, none⟩)) w') :
    FN Try.prog 24 #[.int .i64 B] w K E := by
  generalize hN : (if B < 0 ∨ B > 8192 then 0 else B) = N at hk
  have hN0 : 0 ≤ N ∧ N ≤ 8192 := by split at hN <;> omega
  refine R24_ok (JOIN.mk (fun s w' => w' = w ∧ s.1 = N) ?_ ?_)
  · refine BIF.dec (fun hc => ⟨rfl, ?_⟩) fun hc => BIF.dec (fun hc2 => ⟨rfl, ?_⟩) fun hc2 => ⟨rfl, ?_⟩
    · rw [if_pos (.inl hc)] at hN; exact hN
    · rw [if_pos (.inr hc2)] at hN; exact hN
    · rw [if_neg (by omega)] at hN; exact hN
  rintro ⟨B', _⟩ _ ⟨rfl, rfl⟩ J
  simp only [] at hN0 hk
  refine smake1 sb32 h hN0.1 (by omega) (by omega) fun w1 b h1 => ⟨_, _, _, rfl, ?_⟩
  refine sbox (cs := [sl (some ⟨b, 0, none⟩, B'.toNat, B'.toNat)]) h1 (hk := fun w2 q h2 => ⟨_, rfl, ?_⟩)
  rw [← enc_rep (f := bl) (x := false) rfl] at h2
  refine LOOP.mk (fun x w' => 0 ≤ x.1 ∧ x.1 ≤ B' ∧ SAT g w' (cel q 98 [sl (some ⟨b, 0, none⟩, B'.toNat, B'.toNat)] :: row 4 1 (some ⟨b, 0, none⟩, B'.toNat, B'.toNat) ((List.replicate x.1.toNat true ++ List.replicate (B' - x.1).toNat false).flatMap bl) :: L)) (fun x _ => (B' - x.1).toNat) ⟨by simp, hN0.1, by simpa using h2⟩ ?_
  rintro ⟨i, _⟩ w3 ⟨h0, hi, h3⟩ J
  simp only [] at h0 hi h3
  refine BIF.dec (fun hc => ?_) fun hc => ?_
  · have hc : i < B' := hc
    have e1 : IntKind.wrap .i64 (i + 1) = i + 1 := wrap64 (by omega) (by omega)
    have e2 : (i + 1).toNat = i.toNat + 1 := by omega
    have e3 : (B' - i).toNat = (B' - (i + 1)).toNat + 1 := by omega
    refine sld h3 (hk := ⟨_, _, _, rfl, ?_⟩)
    refine elSt0 (d := (some ⟨b, 0, none⟩, B'.toNat, B'.toNat)) (f := bl) (x := false) (x' := true) h3 (.tail (.head _)) bl_len h0 ?_ (by decide) rfl fun w4 h4 => ?_
    · rw [List.getElem?_append_right (by simp), List.getElem?_replicate]; simp; omega
    · simp only [e1, e2]
      refine ⟨⟨by omega, by omega, ?_⟩, by omega⟩
      have : (List.replicate i.toNat true ++ List.replicate (B' - i).toNat false).set i.toNat true = List.replicate (i.toNat + 1) true ++ List.replicate (B' - (i + 1)).toNat false := by
        rw [List.set_append_right _ _ (by simp), e3, List.replicate_succ, List.length_replicate, Nat.sub_self, List.set_cons_zero, List.replicate_succ', List.append_assoc]
        rfl
      rw [this] at h4
      exact h4
  · have hc : ¬ i < B' := hc
    refine hk w3 q (mr_shut (d := (some ⟨b, 0, none⟩, B'.toNat, B'.toNat)) ?_)
    have e : i.toNat = B'.toNat := by omega
    have e2 : (B' - i).toNat = 0 := by omega
    rw [e, e2] at h3
    simpa using h3

/-- Free -/
theorem fn54 {q : Nat} {F : List Bool} (h : SAT g w (mr q F :: R)) (hF : F.length ≤ 100000) (hk : ∀ w', SAT g w' (mr q F :: R) → K (.int .i64 (cnt F F.length)) w') :
    FN Try.prog 54 #[.pointer (some ⟨q, 0, none⟩)] w K E := by
  obtain ⟨d, h⟩ := mr_open h
  have hl := (h.rowAt d).elen bl_len (by decide)
  refine R54_ok (LOOP.mk (fun x w' => 0 ≤ x.2.1 ∧ x.2.1 ≤ F.length ∧ SAT g w' (cel q 98 [sl d] :: row 4 1 d (F.flatMap bl) :: R) ∧ x.1 = cnt F x.2.1.toNat ∧ 0 ≤ x.1 ∧ x.1 ≤ x.2.1) (fun x _ => (F.length - x.2.1).toNat) ⟨by simp, by simp, h, by simp [cnt], by simp, by simp⟩ ?_)
  rintro ⟨n, i, _⟩ w2 ⟨h0, hi, h2, hm, hm0, hm1⟩ J
  simp only [] at h0 hi hm hm0 hm1
  refine sld h2 (hk := ⟨_, _, _, rfl, BIF.dec (fun hc => ?_) fun hc => ?_⟩)
  · have hc : i < (F.length : Int) := by rw [hl] at hc; exact hc
    obtain ⟨x, hx⟩ : ∃ x, F[i.toNat]? = some x := ⟨F[i.toNat], List.getElem?_eq_getElem (by omega)⟩
    have e1 : IntKind.wrap .i64 (i + 1) = i + 1 := wrap64 (by omega) (by omega)
    have e2 : (i + 1).toNat = i.toNat + 1 := by omega
    have e3 : IntKind.wrap .i64 (n + 1) = n + 1 := wrap64 (by omega) (by omega)
    refine sld h2 (hk := ⟨_, _, _, rfl, elF0 (d := d) (h2.rowAt d) bl_len h0 hx rfl ⟨_, rfl, ?_⟩⟩)
    simp only [e1, e2, e3]
    cases x
    · refine BIF.no rfl ⟨⟨by omega, by omega, h2, ?_, by omega, by omega⟩, by omega⟩
      simp only [cnt, hx]; exact hm
    · refine BIF.yes rfl ⟨⟨by omega, by omega, h2, ?_, by omega, by omega⟩, by omega⟩
      simp only [cnt, hx]; omega
  · have hc : ¬ i < (F.length : Int) := by rw [hl] at hc; exact hc
    have : i.toNat = F.length := by omega
    rw [this] at hm
    rw [hm]
    exact hk w2 (mr_shut h2)

/-- all -/
theorem fn53 {q : Nat} {F : List Bool} {a n : Int} {fr : Bool} (h : SAT g w (mr q F :: R)) (hF : F.length ≤ 100000)
    (hk : ∀ w' (b : Bool), SAT g w' (mr q F :: R) → (b = true ↔ 0 ≤ a ∧ 1 ≤ n ∧ a + n ≤ F.length ∧ ∀ k : Nat, a.toNat ≤ k → k < (a + n).toNat → F[k]? = some fr) → K (.bool b) w') :
    FN Try.prog 53 #[.pointer (some ⟨q, 0, none⟩), .int .i64 a, .int .i64 n, .bool fr] w K E := by
  obtain ⟨d, h⟩ := mr_open h
  have hl := (h.rowAt d).elen bl_len (by decide)
  refine R53_ok (JOIN.mk (fun _ w' => w' = w ∧ 0 ≤ a ∧ 1 ≤ n ∧ a + n ≤ F.length) ?_ ?_)
  · refine BIF.dec (fun hc => hk w _ (mr_shut h) ?_) fun hc => BIF.dec (fun hc2 => hk w _ (mr_shut h) ?_) fun hc2 => ?_
    · simp; omega
    · simp; omega
    refine sld h (hk := ⟨_, _, _, rfl, BIF.dec (fun hc3 => hk w _ (mr_shut h) ?_) fun hc3 => ?_⟩)
    · rw [hl] at hc3; simp; omega
    rw [hl] at hc3
    refine sld h (hk := ⟨_, _, _, rfl, BIF.dec (fun hc4 => hk w _ (mr_shut h) ?_) fun hc4 => ⟨rfl, ?_⟩⟩)
    · rw [hl, wrap64 (by omega) (by omega)] at hc4; simp; omega
    · rw [hl, wrap64 (by omega) (by omega)] at hc4; omega
  rintro ⟨⟩ _ ⟨rfl, h0, h1, h2⟩ J
  refine LOOP.mk (fun x w' => 0 ≤ x.1 ∧ x.1 ≤ n ∧ SAT g w' (cel q 98 [sl d] :: row 4 1 d (F.flatMap bl) :: R) ∧ ∀ k : Nat, a.toNat ≤ k → k < (a + x.1).toNat → F[k]? = some fr) (fun x _ => (n - x.1).toNat) ⟨by simp, by simp only []; omega, h, fun k hk hk2 => by simp only [Int.add_zero] at hk2; omega⟩ ?_
  rintro ⟨k, _⟩ w2 ⟨hk0, hkn, h2', hall⟩ J
  simp only [] at hk0 hkn hall
  refine BIF.dec (fun hc => ?_) fun hc => ?_
  · have hc : k < n := hc
    have e0 : IntKind.wrap .i64 (a + k) = a + k := wrap64 (by omega) (by omega)
    have e1 : IntKind.wrap .i64 (k + 1) = k + 1 := wrap64 (by omega) (by omega)
    obtain ⟨x, hx⟩ : ∃ x, F[(a + k).toNat]? = some x := ⟨F[(a + k).toNat], List.getElem?_eq_getElem (by omega)⟩
    rw [e0]
    refine sld h2' (hk := ⟨_, _, _, rfl, elF0 (d := d) (h2'.rowAt d) bl_len (by omega) hx rfl ⟨_, rfl, BIF.mk (fun hq => ?_) fun hq => ?_⟩⟩)
    · refine hk w2 _ (mr_shut h2') ?_
      simp only [Bool.false_eq_true, false_iff]
      rintro ⟨_, _, _, hh⟩
      have := hh (a + k).toNat (by omega) (by omega)
      rw [hx] at this; cases this
      simp at hq
    · simp only [e1]
      refine ⟨⟨by omega, by omega, h2', fun j hj hj2 => ?_⟩, by omega⟩
      by_cases he : j = (a + k).toNat
      · subst he; rw [hx]; simp at hq; rw [hq]
      · exact hall j hj (by omega)
  · have hc : ¬ k < n := hc
    refine hk w2 _ (mr_shut h2') ?_
    have : k = n := by omega
    subst this
    simp only [true_iff]
    exact ⟨h0, h1, h2, hall⟩

theorem setR_step {F : List Bool} {a k : Nat} {b : Bool} (h : a + k < F.length) : (setR F a k b).set (a + k) b = setR F a (k + 1) b := by
  apply List.ext_getElem?
  intro j
  rw [List.getElem?_set, Go.Runs.setR_get (by omega), Go.Runs.setR_get (by omega), Go.Runs.setR_len (by omega)]
  repeat' split
  all_goals first | omega | rfl
theorem setR_zero (F : List Bool) (a : Nat) (b : Bool) : setR F a 0 b = F := by simp [setR]

/-- Mark -/
theorem fn27 {q : Nat} {F : List Bool} {a n : Int} (h : SAT g w (mr q F :: R)) (hF : F.length ≤ 100000)
    (hno : ¬ (0 ≤ a ∧ 1 ≤ n ∧ a + n ≤ F.length ∧ ∀ k : Nat, a.toNat ≤ k → k < (a + n).toNat → F[k]? = some true) → ∀ w', SAT g w' (mr q F :: R) → K (.bool false) w')
    (hyes : 0 ≤ a → 1 ≤ n → a + n ≤ F.length → (∀ k : Nat, a.toNat ≤ k → k < (a + n).toNat → F[k]? = some true) → ∀ w', SAT g w' (mr q (setR F a.toNat n.toNat false) :: R) → K (.bool true) w') :
    FN Try.prog 27 #[.pointer (some ⟨q, 0, none⟩), .int .i64 a, .int .i64 n] w K E := by
  refine R27_ok (fn53 h hF fun w1 b h1 hb => ⟨_, rfl, BIF.mk (fun hc => ?_) fun hc => ?_⟩)
  · refine hno (fun hh => ?_) w1 h1
    rw [hb.2 hh] at hc; cases hc
  obtain ⟨h0, hn1, hl1, hall⟩ := hb.1 (by simpa using hc)
  obtain ⟨d, h1⟩ := mr_open h1
  refine LOOP.mk (fun x w' => 0 ≤ x.1 ∧ x.1 ≤ n ∧ SAT g w' (cel q 98 [sl d] :: row 4 1 d ((setR F a.toNat x.1.toNat false).flatMap bl) :: R)) (fun x _ => (n - x.1).toNat) ⟨by simp, by simp only []; omega, by simpa [setR_zero] using h1⟩ ?_
  rintro ⟨k, _⟩ w2 ⟨hk0, hkn, h2⟩ J
  simp only [] at hk0 hkn h2
  refine BIF.dec (fun hc => ?_) fun hc => ?_
  · have hc : k < n := hc
    have e0 : IntKind.wrap .i64 (a + k) = a + k := wrap64 (by omega) (by omega)
    have e1 : IntKind.wrap .i64 (k + 1) = k + 1 := wrap64 (by omega) (by omega)
    have e2 : (k + 1).toNat = k.toNat + 1 := by omega
    have e3 : (a + k).toNat = a.toNat + k.toNat := by omega
    rw [e0]
    obtain ⟨x, hx⟩ : ∃ x, (setR F a.toNat k.toNat false)[(a + k).toNat]? = some x := ⟨_, List.getElem?_eq_getElem (by rw [Go.Runs.setR_len (by omega)]; omega)⟩
    refine sld h2 (hk := ⟨_, _, _, rfl, elSt0 (d := d) (f := bl) (x := x) (x' := false) h2 (.tail (.head _)) bl_len (by omega) hx (by decide) rfl fun w3 h3 => ?_⟩)
    simp only [e1, e2]
    rw [e3, setR_step (by omega)] at h3
    exact ⟨⟨by omega, by omega, h3⟩, by omega⟩
  · have hc : ¬ k < n := hc
    have : k = n := by omega
    subst this
    exact hyes h0 hn1 hl1 hall w2 (mr_shut h2)

/-- Give -/
theorem fn28 {q : Nat} {F : List Bool} {a n : Int} (h : SAT g w (mr q F :: R)) (hF : F.length ≤ 100000)
    (hno : ¬ (0 ≤ a ∧ 1 ≤ n ∧ a + n ≤ F.length ∧ ∀ k : Nat, a.toNat ≤ k → k < (a + n).toNat → F[k]? = some false) → ∀ w', SAT g w' (mr q F :: R) → K (.bool false) w')
    (hyes : 0 ≤ a → 1 ≤ n → a + n ≤ F.length → (∀ k : Nat, a.toNat ≤ k → k < (a + n).toNat → F[k]? = some false) → ∀ w', SAT g w' (mr q (setR F a.toNat n.toNat true) :: R) → K (.bool true) w') :
    FN Try.prog 28 #[.pointer (some ⟨q, 0, none⟩), .int .i64 a, .int .i64 n] w K E := by
  refine R28_ok (fn53 h hF fun w1 b h1 hb => ⟨_, rfl, BIF.mk (fun hc => ?_) fun hc => ?_⟩)
  · refine hno (fun hh => ?_) w1 h1
    rw [hb.2 hh] at hc; cases hc
  obtain ⟨h0, hn1, hl1, hall⟩ := hb.1 (by simpa using hc)
  obtain ⟨d, h1⟩ := mr_open h1
  refine LOOP.mk (fun x w' => 0 ≤ x.1 ∧ x.1 ≤ n ∧ SAT g w' (cel q 98 [sl d] :: row 4 1 d ((setR F a.toNat x.1.toNat true).flatMap bl) :: R)) (fun x _ => (n - x.1).toNat) ⟨by simp, by simp only []; omega, by simpa [setR_zero] using h1⟩ ?_
  rintro ⟨k, _⟩ w2 ⟨hk0, hkn, h2⟩ J
  simp only [] at hk0 hkn h2
  refine BIF.dec (fun hc => ?_) fun hc => ?_
  · have hc : k < n := hc
    have e0 : IntKind.wrap .i64 (a + k) = a + k := wrap64 (by omega) (by omega)
    have e1 : IntKind.wrap .i64 (k + 1) = k + 1 := wrap64 (by omega) (by omega)
    have e2 : (k + 1).toNat = k.toNat + 1 := by omega
    have e3 : (a + k).toNat = a.toNat + k.toNat := by omega
    rw [e0]
    obtain ⟨x, hx⟩ : ∃ x, (setR F a.toNat k.toNat true)[(a + k).toNat]? = some x := ⟨_, List.getElem?_eq_getElem (by rw [Go.Runs.setR_len (by omega)]; omega)⟩
    refine sld h2 (hk := ⟨_, _, _, rfl, elSt0 (d := d) (f := bl) (x := x) (x' := true) h2 (.tail (.head _)) bl_len (by omega) hx (by decide) rfl fun w3 h3 => ?_⟩)
    simp only [e1, e2]
    rw [e3, setR_step (by omega)] at h3
    exact ⟨⟨by omega, by omega, h3⟩, by omega⟩
  · have hc : ¬ k < n := hc
    have : k = n := by omega
    subst this
    exact hyes h0 hn1 hl1 hall w2 (mr_shut h2)
end
end Go.Proofs.Ytdabjchdmieegaa

