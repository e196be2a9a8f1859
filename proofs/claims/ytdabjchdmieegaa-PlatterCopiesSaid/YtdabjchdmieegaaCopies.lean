/- PlatterCopies: the original and its copy each answer as a model of their own, and the law returns true; no conditions. -/
import Derived.Test.YtdabjchdmieegaaW15
import Derived.Test.YtdabjchdmieegaaRows
import Derived.OpenShut
import Derived.ShutString
import Derived.ChangeOld
import Derived.Below
namespace Go.Proofs.Ytdabjchdmieegaa
open Go Go.Lift Go.RowKit Go.ChangeShapes Go.WideShapes Go.ChangeAt
set_option linter.unusedVariables false

theorem ownC : ownKnob Try.prog.godebug = none := by kernel_rfl
theorem laidOutC : laidOutB Try.prog = true := by kernel_rfl

theorem callsC_of_FN {f : FuncId} {args : Array Value} {w : World} (h : FN Try.prog f args w (fun v w' => v = .bool true ∧ Same [] w w') (fun _ _ => False)) :
    Calls Try.prog f args w fun e w' => e = .returned (.bool true) ∧ Below w.heap.size w w' :=
  Calls.mono h.out fun e w' he => match e, he with
    | .returned v, ⟨h1, h2⟩ => ⟨by rw [h1], h2.below (Nat.le_refl _) (by simp)⟩

set_option maxRecDepth 100000 in
theorem copies_lifted (os : Os) (started : os.Started) (H : Type) (enc : TypeId × Value → H) :
    ReturnsInHanded {} Try.checked os 4 .any (Rows.platterCopiesSpec.pre6 enc Try.prog Try.f4 Rows.platterCopiesRow.domain false) (Rows.platterCopiesSpec.post enc Try.prog Try.f4 false true false false) := by
  refine returnsInHanded_of_change (C := Try.checked) ownC started (by kernel_rfl) Try.func4
    (ChangeSpec.witness6 (enc := enc) (C := Try.checked) false ⟨#[], #[.slice none 0 0, .slice none 0 0, .slice none 0 0], []⟩ 8 (by kernel_rfl) (by kernel_rfl) (by kernel_rfl) (by kernel_rfl)) ?_
  intro W base args ds gs before hval0 hW hcnd _
  have hval : ∀ (j : Nat) t v, Try.f4.params[j]? = some t → args[j]? = some v → Value.okWide Try.prog W .any base t v := hval0
  have hW' := hW
  obtain ⟨p, q, hA0, hV, rfl, hfz, hnd⟩ := hW
  have hA : DataW.TrodAll enc Try.prog W 0 (fun _ => true) true Try.f4.params.toList args.toList ds p := hA0
  rw [Try.params4] at hA hval
  obtain ⟨v0, vs0, d0, ds0, p0, q0, hargs, rfl, rfl, h0, r0⟩ := trodAll_cons hA
  obtain ⟨v1, vs1, d1, ds1, p1, q1, rfl, rfl, rfl, h1, r1⟩ := trodAll_cons r0
  obtain ⟨v2, vs2, d2, ds2, p2, q2, rfl, rfl, rfl, h2, r2⟩ := trodAll_cons r1
  obtain ⟨rfl, rfl, rfl⟩ := trodAll_nil r2
  obtain rfl : args = #[v0, v1, v2] := by cases args; simp_all
  obtain ⟨rfl, rfl⟩ := trodVars_none hV
  obtain ⟨a0, len0, cap0, rfl⟩ := okWide_slice Try.underlying22 (hval 0 22 v0 rfl rfl)
  obtain ⟨a1, len1, cap1, rfl⟩ := okWide_slice Try.underlying22 (hval 1 22 v1 rfl rfl)
  obtain ⟨a2, len2, cap2, rfl⟩ := okWide_slice Try.underlying22 (hval 2 22 v2 rfl rfl)
  have k0 := h0
  have lt0 : ∀ x ∈ p0, x.block < W.heap.size := by obtain ⟨m, hm⟩ := k0; exact DataW.trod_lt m _ _ _ hm
  obtain ⟨L0, hL0⟩ : ∃ L, Deeds W.heap.size W (a0, len0, cap0) L := by
    obtain ⟨fuel, hf⟩ := h0
    obtain ⟨l, L, hcs, hd⟩ := open_deeds hf
    simp [Value.cells] at hcs
    obtain ⟨rfl, rfl, rfl⟩ := hcs
    exact ⟨L, hd⟩
  have k1 := h1
  have lt1 : ∀ x ∈ p1, x.block < W.heap.size := by obtain ⟨m, hm⟩ := k1; exact DataW.trod_lt m _ _ _ hm
  obtain ⟨L1, hL1⟩ : ∃ L, Deeds W.heap.size W (a1, len1, cap1) L := by
    obtain ⟨fuel, hf⟩ := h1
    obtain ⟨l, L, hcs, hd⟩ := open_deeds hf
    simp [Value.cells] at hcs
    obtain ⟨rfl, rfl, rfl⟩ := hcs
    exact ⟨L, hd⟩
  have k2 := h2
  have lt2 : ∀ x ∈ p2, x.block < W.heap.size := by obtain ⟨m, hm⟩ := k2; exact DataW.trod_lt m _ _ _ hm
  obtain ⟨L2, hL2⟩ : ∃ L, Deeds W.heap.size W (a2, len2, cap2) L := by
    obtain ⟨fuel, hf⟩ := h2
    obtain ⟨l, L, hcs, hd⟩ := open_deeds hf
    simp [Value.cells] at hcs
    obtain ⟨rfl, rfl, rfl⟩ := hcs
    exact ⟨L, hd⟩
  clear hA0 hval0
  refine (callsC_of_FN (fn4 (la := (a0, len0, cap0)) (lb := (a1, len1, cap1)) (lc := (a2, len2, cap2)) hL0 hL1 hL2 fun w' hs => ⟨rfl, hs⟩)).mono fun e W' ⟨he, bel⟩ => ?_
  subst he
  exact ⟨_, rfl, _, _, _, [], _, [], hW', trodAll_mk1 (shut_bool Try.underlying4 _), (trodAll_cons_mk (Below.trod laidOutC (by kernel_rfl) (of_decide_eq_true (by kernel_rfl)) k0 bel lt0) (trodAll_cons_mk (Below.trod laidOutC (by kernel_rfl) (of_decide_eq_true (by kernel_rfl)) k1 bel lt1) (trodAll_cons_mk (Below.trod laidOutC (by kernel_rfl) (of_decide_eq_true (by kernel_rfl)) k2 bel lt2) trodAll_mk0))), rfl, bel.frame _, fun h => by cases h⟩

theorem copies_over : Rows.platterCopiesRow.holds Try.pinned (OpenSpec.ofChange Rows.platterCopiesSpec) :=
  OpenClaim.holds_of_wide 4 Try.f4 rfl rfl rfl rfl rfl rfl rfl ⟨rfl, rfl, rfl, rfl, rfl⟩ rfl rfl rfl rfl rfl (by kernel_rfl) Try.func4 (by kernel_rfl)
    (of_decide_eq_true (by kernel_rfl)) (by unfold Func.isWrapper; first | (rw [if_pos (by decide +kernel)]; kernel_rfl) | (rw [if_neg (by decide +kernel)]; exact ⟨rfl, rfl⟩))
    (fun os started H enc _ => copies_lifted os started H enc)

theorem copies_holds : Rows.PlatterCopiesSaid := copies_over
#print axioms copies_holds
end Go.Proofs.Ytdabjchdmieegaa
