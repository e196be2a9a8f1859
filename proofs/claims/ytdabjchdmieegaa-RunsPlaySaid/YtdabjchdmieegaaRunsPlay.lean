/- RunsPlay: for every number of blocks and every series of deeds the program's free runs answer as the model's, and the law returns true; no conditions. -/
import Derived.Test.YtdabjchdmieegaaU7
import Derived.Test.YtdabjchdmieegaaRows
namespace Go.Proofs.Ytdabjchdmieegaa
open Go Go.Lift Go.RowKit Go.ChangeShapes Go.WideShapes Go.ChangeAt
set_option linter.unusedVariables false
set_option linter.unusedSimpArgs false
set_option linter.unnecessarySimpa false

theorem ownP : ownKnob Try.prog.godebug = none := by kernel_rfl
theorem laidOutP : laidOutB Try.prog = true := by kernel_rfl

set_option maxRecDepth 100000 in
theorem open_deed3 {H : Type} {enc : TypeId × Value → H} {w : World} {base : Nat} {held : Bool} {fuel : Nat} {cs : List Value} {x : DataW H × List MemPlace} (h : DataW.trod enc Try.prog w base (fun _ => true) held fuel 65 cs = some x) :
    ∃ a, cs = three a ∧ True := by
  obtain ⟨xs, n, _, _, hl, hlen, hf⟩ := DataW.trod_struct (P := Try.prog) Try.underlying65 h
  have hcs : cs.length = 3 := by rw [hl]; kernel_rfl
  match cs, hcs with
  | [c0, c1, c2], _ =>
    have some_of : ∀ (i : Nat), i < 3 → ∃ y, xs[i]? = some y := fun i hi => ⟨xs[i]'(by rw [hlen]; exact hi), List.getElem?_eq_getElem _⟩
    have z3 : Try.prog.cellsOf 3 = 1 := by kernel_rfl
    obtain ⟨y0, g0⟩ := some_of 0 (by omega)
    obtain ⟨y1, g1⟩ := some_of 1 (by omega)
    obtain ⟨y2, g2⟩ := some_of 2 (by omega)
    have q0 : DataW.trod enc Try.prog w base (fun _ => true) held n 3 (([c0, c1, c2].drop 0).take (Try.prog.cellsOf 3)) = xs[0]? := hf 0 _ rfl
    rw [z3, g0] at q0
    have q1 : DataW.trod enc Try.prog w base (fun _ => true) held n 3 (([c0, c1, c2].drop 1).take (Try.prog.cellsOf 3)) = xs[1]? := hf 1 _ rfl
    rw [z3, g1] at q1
    have q2 : DataW.trod enc Try.prog w base (fun _ => true) held n 3 (([c0, c1, c2].drop 2).take (Try.prog.cellsOf 3)) = xs[2]? := hf 2 _ rfl
    rw [z3, g2] at q2
    obtain ⟨n0, e0, _⟩ := open_i64 Try.underlying3 q0
    obtain ⟨n1, e1, _⟩ := open_i64 Try.underlying3 q1
    obtain ⟨n2, e2, _⟩ := open_i64 Try.underlying3 q2
    refine ⟨(n0, n1, n2), ?_, trivial⟩
    simp only [List.drop, List.take, i64v, List.cons.injEq, and_true] at e0 e1 e2
    subst e0 e1 e2
    rfl

set_option maxRecDepth 100000 in
theorem runsplay_lifted (os : Os) (started : os.Started) (H : Type) (enc : TypeId × Value → H) :
    ReturnsInHanded {} Try.checked os 6 .any (Rows.runsPlaySpec.pre6 enc Try.prog Try.f6 Rows.runsPlayRow.domain false) (Rows.runsPlaySpec.post enc Try.prog Try.f6 false true false false) := by
  refine returnsInHanded_of_change (C := Try.checked) ownP started (by kernel_rfl) Try.func6
    (ChangeSpec.witness6 (enc := enc) (C := Try.checked) false ⟨#[], #[.int .i64 0, .slice none 0 0], []⟩ 8 (by kernel_rfl) (by kernel_rfl) (by kernel_rfl) (by kernel_rfl)) ?_
  intro W base args ds gs before hval0 hW hcnd _
  have hval : ∀ (j : Nat) t v, Try.f6.params[j]? = some t → args[j]? = some v → Value.okWide Try.prog W .any base t v := hval0
  have hW' := hW
  obtain ⟨p, q, hA0, hV, rfl, hfz, hnd⟩ := hW
  have hA : DataW.TrodAll enc Try.prog W 0 (fun _ => true) true Try.f6.params.toList args.toList ds p := hA0
  rw [Try.params6] at hA hval
  obtain ⟨v0, vs0, d0, ds0, p0, q0, hargs, rfl, rfl, h0, r0⟩ := trodAll_cons hA
  obtain ⟨v1, vs1, d1, ds1, p1, q1, rfl, rfl, rfl, h1, r1⟩ := trodAll_cons r0
  obtain ⟨rfl, rfl, rfl⟩ := trodAll_nil r1
  obtain rfl : args = #[v0, v1] := by cases args; simp_all
  obtain ⟨rfl, rfl⟩ := trodVars_none hV
  obtain ⟨a0, rfl, rfl, rfl, w0⟩ := open_int Try.underlying3 (hval 0 3 v0 rfl rfl) h0
  obtain ⟨a1, len1, cap1, rfl⟩ := okWide_slice Try.underlying61 (hval 1 61 v1 rfl rfl)
  have k1 := h1
  have lt1 : ∀ x ∈ p1, x.block < W.heap.size := by obtain ⟨m, hm⟩ := k1; exact DataW.trod_lt m _ _ _ hm
  obtain ⟨L, hL⟩ : ∃ L, IRow W 3 a1 len1 cap1 (List.flatMap three L) := by
    obtain ⟨fuel, hf⟩ := h1
    obtain ⟨l, L, hcs, hd, _⟩ := openRow (e := 65) three_len (by decide) Try.underlying61 (by kernel_rfl) (fun _ _ _ h => open_deed3 h) hf
    simp [Value.cells] at hcs
    obtain ⟨rfl, rfl, rfl⟩ := hcs
    exact ⟨L, hd⟩
  clear hA0 hval0
  refine (calls_of_FN (fn6 (B := a0) (l := (a1, len1, cap1)) hL fun w' hs => ⟨rfl, hs⟩)).mono fun e W' ⟨he, bel⟩ => ?_
  subst he
  exact ⟨_, rfl, _, _, _, [], _, [], hW', trodAll_mk1 (shut_bool Try.underlying4 _), (trodAll_cons_mk (shut_int Try.underlying3 w0) (trodAll_cons_mk (Below.trod laidOutP (by kernel_rfl) (of_decide_eq_true (by kernel_rfl)) k1 bel lt1) trodAll_mk0)), rfl, bel.frame _, fun h => by cases h⟩

theorem runsplay_over : Rows.runsPlayRow.holds Try.pinned (OpenSpec.ofChange Rows.runsPlaySpec) :=
  OpenClaim.holds_of_wide 6 Try.f6 rfl rfl rfl rfl rfl rfl rfl ⟨rfl, rfl, rfl, rfl, rfl⟩ rfl rfl rfl rfl rfl (by kernel_rfl) Try.func6 (by kernel_rfl)
    (of_decide_eq_true (by kernel_rfl)) (by unfold Func.isWrapper; first | (rw [if_pos (by decide +kernel)]; kernel_rfl) | (rw [if_neg (by decide +kernel)]; exact ⟨rfl, rfl⟩))
    (fun os started H enc _ => runsplay_lifted os started H enc)

theorem runsplay_holds : Rows.RunsPlaySaid := runsplay_over
#print axioms runsplay_holds
end Go.Proofs.Ytdabjchdmieegaa

