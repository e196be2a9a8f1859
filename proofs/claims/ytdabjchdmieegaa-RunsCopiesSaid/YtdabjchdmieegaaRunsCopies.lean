/- RunsCopies: single blocks marked and given tell whether they were free, a copy goes its own way, and the law returns true; no conditions. -/
import Derived.Test.YtdabjchdmieegaaU8
import Derived.Test.YtdabjchdmieegaaRows
namespace Go.Proofs.Ytdabjchdmieegaa
open Go Go.Lift Go.RowKit Go.ChangeShapes Go.WideShapes Go.ChangeAt
set_option linter.unusedVariables false

theorem ownP : ownKnob Try.prog.godebug = none := by kernel_rfl
theorem laidOutP : laidOutB Try.prog = true := by kernel_rfl

set_option maxRecDepth 100000 in
theorem runscopies_lifted (os : Os) (started : os.Started) (H : Type) (enc : TypeId × Value → H) :
    ReturnsInHanded {} Try.checked os 7 .any (Rows.runsCopiesSpec.pre6 enc Try.prog Try.f7 Rows.runsCopiesRow.domain false) (Rows.runsCopiesSpec.post enc Try.prog Try.f7 false true false false) := by
  refine returnsInHanded_of_change (C := Try.checked) ownP started (by kernel_rfl) Try.func7
    (ChangeSpec.witness6 (enc := enc) (C := Try.checked) false ⟨#[], #[.slice none 0 0, .slice none 0 0], []⟩ 8 (by kernel_rfl) (by kernel_rfl) (by kernel_rfl) (by kernel_rfl)) ?_
  intro W base args ds gs before hval0 hW hcnd _
  have hval : ∀ (j : Nat) t v, Try.f7.params[j]? = some t → args[j]? = some v → Value.okWide Try.prog W .any base t v := hval0
  have hW' := hW
  obtain ⟨p, q, hA0, hV, rfl, hfz, hnd⟩ := hW
  have hA : DataW.TrodAll enc Try.prog W 0 (fun _ => true) true Try.f7.params.toList args.toList ds p := hA0
  rw [Try.params7] at hA hval
  obtain ⟨v0, vs0, d0, ds0, p0, q0, hargs, rfl, rfl, h0, r0⟩ := trodAll_cons hA
  obtain ⟨v1, vs1, d1, ds1, p1, q1, rfl, rfl, rfl, h1, r1⟩ := trodAll_cons r0
  obtain ⟨rfl, rfl, rfl⟩ := trodAll_nil r1
  obtain rfl : args = #[v0, v1] := by cases args; simp_all
  obtain ⟨rfl, rfl⟩ := trodVars_none hV
  obtain ⟨a0, len0, cap0, rfl⟩ := okWide_slice Try.underlying49 (hval 0 49 v0 rfl rfl)
  obtain ⟨a1, len1, cap1, rfl⟩ := okWide_slice Try.underlying49 (hval 1 49 v1 rfl rfl)
  have k0 := h0
  have k1 := h1
  have lt0 : ∀ x ∈ p0, x.block < W.heap.size := by obtain ⟨m, hm⟩ := k0; exact DataW.trod_lt m _ _ _ hm
  have lt1 : ∀ x ∈ p1, x.block < W.heap.size := by obtain ⟨m, hm⟩ := k1; exact DataW.trod_lt m _ _ _ hm
  obtain ⟨L0, hL0, hQ0⟩ : ∃ L, IRow W 1 a0 len0 cap0 (List.flatMap u8v L) ∧ ∀ x ∈ L, 0 ≤ x ∧ x < 256 := by
    obtain ⟨fuel, hf⟩ := h0
    obtain ⟨l, L, hcs, hd, hQ⟩ := openRow (e := 5) u8v_len (by decide) Try.underlying49 (by kernel_rfl) (fun _ _ _ h => open_u8 Try.underlying5 h) hf
    simp [Value.cells] at hcs
    obtain ⟨rfl, rfl, rfl⟩ := hcs
    exact ⟨L, hd, hQ⟩
  obtain ⟨L1, hL1, hQ1⟩ : ∃ L, IRow W 1 a1 len1 cap1 (List.flatMap u8v L) ∧ ∀ x ∈ L, 0 ≤ x ∧ x < 256 := by
    obtain ⟨fuel, hf⟩ := h1
    obtain ⟨l, L, hcs, hd, hQ⟩ := openRow (e := 5) u8v_len (by decide) Try.underlying49 (by kernel_rfl) (fun _ _ _ h => open_u8 Try.underlying5 h) hf
    simp [Value.cells] at hcs
    obtain ⟨rfl, rfl, rfl⟩ := hcs
    exact ⟨L, hd, hQ⟩
  clear hA0 hval0
  refine (calls_of_FN (fn7 (dm := (a0, len0, cap0)) (dg := (a1, len1, cap1)) hL0 hQ0 hL1 hQ1 fun w' hs => ⟨rfl, hs⟩)).mono fun e W' ⟨he, bel⟩ => ?_
  subst he
  exact ⟨_, rfl, _, _, _, [], _, [], hW', trodAll_mk1 (shut_bool Try.underlying4 _), (trodAll_cons_mk (Below.trod laidOutP (by kernel_rfl) (of_decide_eq_true (by kernel_rfl)) k0 bel lt0) (trodAll_cons_mk (Below.trod laidOutP (by kernel_rfl) (of_decide_eq_true (by kernel_rfl)) k1 bel lt1) trodAll_mk0)), rfl, bel.frame _, fun h => by cases h⟩

theorem runscopies_over : Rows.runsCopiesRow.holds Try.pinned (OpenSpec.ofChange Rows.runsCopiesSpec) :=
  OpenClaim.holds_of_wide 7 Try.f7 rfl rfl rfl rfl rfl rfl rfl ⟨rfl, rfl, rfl, rfl, rfl⟩ rfl rfl rfl rfl rfl (by kernel_rfl) Try.func7 (by kernel_rfl)
    (of_decide_eq_true (by kernel_rfl)) (by unfold Func.isWrapper; first | (rw [if_pos (by decide +kernel)]; kernel_rfl) | (rw [if_neg (by decide +kernel)]; exact ⟨rfl, rfl⟩))
    (fun os started H enc _ => runscopies_lifted os started H enc)

theorem runscopies_holds : Rows.RunsCopiesSaid := runscopies_over
#print axioms runscopies_holds
end Go.Proofs.Ytdabjchdmieegaa

