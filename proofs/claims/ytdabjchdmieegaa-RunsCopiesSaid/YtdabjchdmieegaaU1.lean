/-
  Runs: empty runs struck out.
-/
import Derived.Test.YtdabjchdmieegaaU0
set_option linter.unusedVariables false
set_option linter.unnecessarySimpa false
set_option linter.unusedSimpArgs false
namespace Go.Proofs.Ytdabjchdmieegaa
open Go Go.Lift Go.RowKit
section
variable {g w w' : World} {L R : List Asn}
variable {K : Value → World → Prop} {E : List PanicEntry → World → Prop}

/-- put$1: is it empty? -/
theorem fn67 {x : Int × Int} (hk : ∀ w', Same [] w w' → K (.bool (x.2 == 0)) w') : FN Try.prog 67 #[.agg (two x).toArray] w K E := by
  refine R67_ok (boxR fun w1 b hb hb1 hs1 _ => ⟨_, rfl, ld hb1 rfl ⟨_, rfl, hk w1 hs1⟩⟩)

/-- slices.IndexFunc: the first empty run. -/
theorem fn74 {d : D} {X : List (Int × Int)} (h : SRow w 56 2 d.1 d.2.1 d.2.2 (X.flatMap two)) (hL : X.length ≤ 1000000)
    (hk : ∀ w' (r : Int), Same [] w w' → ((r = -1 ∧ ∀ x ∈ X, x.2 ≠ 0) ∨ ∃ k : Nat, r = k ∧ k < X.length ∧ (∀ x ∈ X.take k, x.2 ≠ 0) ∧ ∃ x, X[k]? = some x ∧ x.2 = 0) → K (.int .i64 r) w') :
    FN Try.prog 74 #[sl d, .func (.func 67) #[] #[]] w K E := by
  have hn : d.2.1 = X.length := h.elen two_len (by decide)
  refine R74_ok (LOOP.mk (fun x w' => 0 ≤ x.1 ∧ x.1 ≤ X.length ∧ Same [] w w' ∧ ∀ y ∈ X.take x.1.toNat, y.2 ≠ 0) (fun x _ => (X.length - x.1).toNat) ⟨by simp, by simp, Same.refl _ _, by simp⟩ ?_)
  rintro ⟨i, _⟩ w1 ⟨h0, h1, hs1, hall⟩ J
  simp only [] at h0 h1 hall
  refine BIF.dec (fun hc => ?_) fun hc => ?_
  · rw [hn] at hc
    have hc : i < (X.length : Int) := hc
    obtain ⟨f, hf⟩ : ∃ f, X[i.toNat]? = some f := ⟨X[i.toNat], List.getElem?_eq_getElem (by omega)⟩
    have e1 : IntKind.wrap .i64 (i + 1) = i + 1 := wrap64 (by omega) (by omega)
    have e2 : (i + 1).toNat = i.toNat + 1 := by omega
    refine elA (d := d) (h.keep hs1 (by simp)) two_len h0 hf ⟨_, _, rfl, ?_⟩
    refine CALLF.mk (args' := #[.agg (two f).toArray]) (by kernel_rfl) (by simp [two]) (fn67 fun w2 hs2 => ⟨_, rfl, BIF.mk (fun hq => ?_) fun hq => ?_⟩)
    · exact hk w2 i (hs1.trans hs2) (.inr ⟨i.toNat, by omega, by omega, hall, f, hf, by simpa using hq⟩)
    · simp only [e1, e2]
      refine ⟨⟨by omega, by omega, hs1.trans hs2, fun y hy => ?_⟩, by omega⟩
      rw [List.take_add_one, hf, Option.toList_some] at hy
      rcases List.mem_append.1 hy with h | h
      · exact hall y h
      · rw [List.mem_singleton.1 h]; simpa using hq
  · rw [hn] at hc
    have hc : ¬ i < (X.length : Int) := hc
    have : i.toNat = X.length := by omega
    rw [this, List.take_length] at hall
    exact hk w1 (-1) hs1 (.inl ⟨rfl, hall⟩)

/-- Without the empty ones. -/
def real (X : List (Int × Int)) : List (Int × Int) := X.filter fun x => decide (x.2 ≠ 0)
theorem real_all {X : List (Int × Int)} (h : ∀ x ∈ X, x.2 ≠ 0) : real X = X := List.filter_eq_self.2 fun x hx => by simpa using h x hx

/-- slices.DeleteFunc: the empty runs go. -/
theorem fn66 {d : D} {X : List (Int × Int)} (h : SRow w 56 2 d.1 d.2.1 d.2.2 (X.flatMap two)) (hL : X.length ≤ 1000000)
    (hk : ∀ w' n', SRow w' 56 2 d.1 n' d.2.2 ((real X).flatMap two) → Same (ownB d.1 d.2.2) w w' → K (.slice d.1 n' d.2.2) w') :
    FN Try.prog 66 #[sl d, .func (.func 67) #[] #[]] w K E := by
  have hn : d.2.1 = X.length := h.elen two_len (by decide)
  refine R66_ok (fn74 h hL fun w1 r hs1 hr => ⟨_, rfl, BIF.mk (fun hc => ?_) fun hc => ?_⟩)
  · rcases hr with ⟨_, hall⟩ | ⟨k, rfl, _⟩
    · exact hk w1 d.2.1 (by rw [real_all hall]; exact h.keep hs1 (by simp)) hs1.nil
    · simp at hc
  rcases hr with ⟨rfl, _⟩ | ⟨k, rfl, hkl, hall, x0, hx0, hz0⟩
  · simp at hc
  have e0 : IntKind.wrap .i64 ((k : Int) + 1) = k + 1 := wrap64 (by omega) (by omega)
  rw [e0]
  refine LOOP.mk (fun x w' => 0 ≤ x.1 ∧ x.1 < x.2.1 ∧ x.2.1 ≤ X.length ∧ Same (ownB d.1 d.2.2) w w' ∧ ∃ G : List (Int × Int), G.length = X.length ∧ SRow w' 56 2 d.1 d.2.1 d.2.2 (G.flatMap two) ∧ G.take x.1.toNat = real (X.take x.2.1.toNat) ∧ ∀ q, x.2.1.toNat ≤ q → G[q]? = X[q]?)
    (fun x _ => (X.length - x.2.1).toNat) ⟨by simp, by simp only []; omega, by simp only []; omega, hs1.nil, X, rfl, h.keep hs1 (by simp), ?_, fun _ _ => rfl⟩ ?_
  · have e1 : ((k : Int) + 1).toNat = k + 1 := by omega
    simp only [e1, Int.toNat_natCast]
    rw [List.take_add_one, hx0]
    simp only [real, List.filter_append, Option.toList_some, hz0, ne_eq, not_true_eq_false, decide_false, List.filter_cons, List.filter_nil, Bool.false_eq_true, if_false, List.append_nil]
    exact (real_all hall).symm
  rintro ⟨i, j, _⟩ w2 ⟨h0, hij, hj, hs2, G, hGl, hG, hGt, hGd⟩ J
  simp only [] at h0 hij hj hGt hGd
  refine BIF.dec (fun hc => ?_) fun hc => ?_
  · rw [hn] at hc
    have hc : j < (X.length : Int) := hc
    obtain ⟨f, hf⟩ : ∃ f, X[j.toNat]? = some f := ⟨X[j.toNat], List.getElem?_eq_getElem (by omega)⟩
    have ej : IntKind.wrap .i64 (j + 1) = j + 1 := wrap64 (by omega) (by omega)
    have ei : IntKind.wrap .i64 (i + 1) = i + 1 := wrap64 (by omega) (by omega)
    have ej2 : (j + 1).toNat = j.toNat + 1 := by omega
    have ei2 : (i + 1).toNat = i.toNat + 1 := by omega
    refine elA (d := d) hG two_len (by show (0 : Int) ≤ j; omega) ((hGd _ (Nat.le_refl _)).trans hf) ⟨_, _, rfl, ?_⟩
    refine newA (vs := two f) (SAT.start w2) fun w3 x h3 => ?_
    refine sldA h3 (vs := two f) (hk := ⟨_, _, rfl, ?_⟩)
    refine CALLF.mk (args' := #[.agg (two f).toArray]) (by kernel_rfl) (by simp [two]) (fn67 fun w4 hs4 => ⟨_, rfl, ?_⟩)
    have h4 := h3.quiet hs4
    have hs24 : Same [] w2 w4 := h4.fr
    have hG4 : SRow w4 56 2 d.1 d.2.1 d.2.2 (G.flatMap two) := hG.keep hs24 (by simp)
    have hs4' : Same (ownB d.1 d.2.2) w w4 := hs2.trans hs24.nil
    refine BIF.mk (fun hq => ?_) fun hq => ?_
    · refine sldA h4 (vs := two f) (hk := ⟨_, _, rfl, ?_⟩)
      refine IDX.row hG4 h0 (by omega) fun b o e => ?_
      rw [e] at hG4
      refine rstA (vs := two f) hG4 (by simp [two]; omega) (by simp [two]) (two_one f) (by kernel_rfl) fun w5 hG5 hs5 _ => ?_
      rw [enc_set two_len f (by omega), ← e] at hG5
      rw [← e] at hs5
      have hf2 : f.2 ≠ 0 := by simpa using hq
      simp only [ei, ej, ei2, ej2]
      refine ⟨⟨by omega, by omega, by omega, hs4'.trans hs5, G.set i.toNat f, by simp [hGl], hG5, ?_, fun q hq => ?_⟩, by omega⟩
      · rw [List.take_add_one, List.take_add_one, hf, List.take_set_of_le (Nat.le_refl _), hGt, List.getElem?_set_self (by omega)]
        simp [real, List.filter_append, hf2]
      · rw [List.getElem?_set_ne (by omega)]; exact hGd q (by omega)
    · have hf2 : f.2 = 0 := by simpa using hq
      simp only [ej, ej2]
      refine ⟨⟨by omega, by omega, by omega, hs4', G, hGl, hG4, ?_, fun q hq => hGd q (by omega)⟩, by omega⟩
      rw [List.take_add_one, hf, hGt]
      simp [real, List.filter_append, hf2]
  · rw [hn] at hc
    have hc : ¬ j < (X.length : Int) := hc
    have hjl : j.toNat = X.length := by omega
    rw [hjl, List.take_length] at hGt
    have hnc := hG.2.1
    obtain ⟨b, o, cs, e, ho, hb, hcl, hg⟩ := hG.whole (by omega)
    obtain ⟨m, rfl⟩ : ∃ m : Nat, i = m := ⟨i.toNat, by omega⟩
    simp only [Int.toNat_natCast] at hGt
    have hd : sl d = .slice (some ⟨b, o, none⟩) d.2.1 d.2.2 := by rw [← e]
    simp only [e]
    refine slL sb52 h0 (by omega) ?_
    rw [Int.toNat_natCast, sliced_in (by omega)]
    refine ⟨_, _, _, rfl, clearR sb52 (by decide) rfl hb (by omega) fun w3 zs hz hb3 hs3 _ => ?_⟩
    refine slH sb52 h0 (by omega) ?_
    simp only [sliced_zero, Int.toNat_natCast]
    refine ⟨_, _, _, rfl, ?_⟩
    rw [← e]
    refine hk w3 m ?_ (by rw [ho]; rw [ho] at hs2; exact hs2.trans hs3)
    rw [e]
    have hl := enc_len two_len (real X)
    have hr : (real X).length = m := by rw [← hGt, List.length_take]; omega
    refine SRow.ofGet hb3 (by rw [splice_length (by omega)]; omega) (by omega) (by rw [hl, hr]) fun q hq => ?_
    rw [splice_get (by omega), if_pos (by omega), hg _ (by omega), ← hGt, ← enc_take two_len, List.getElem?_take, if_pos hq]
end
end Go.Proofs.Ytdabjchdmieegaa

