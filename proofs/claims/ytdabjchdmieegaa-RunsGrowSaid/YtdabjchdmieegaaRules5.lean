/-
  Rules for copy and clear on rows.
-/
import Derived.Test.YtdabjchdmieegaaRules4
set_option linter.unusedVariables false
namespace Go.Lift
open Go
section
variable {P : Program} {K : Value → World → Prop} {E : List PanicEntry → World → Prop} {w w' : World}

theorem IRow.take {sz : Nat} {a : Option Addr} {n c : Nat} {xs : List Value} (h : IRow w sz a n c xs) {m : Nat} (hm : m ≤ n) : IRow w sz a m c (xs.take (m * sz)) := by
  have hle : m * sz ≤ n * sz := Nat.mul_le_mul_right _ hm
  refine ⟨by rw [List.length_take, h.1]; omega, Nat.le_trans hm h.2.1, ?_⟩
  rcases h.2.2 with h0 | ⟨b, o, e, hb, hc⟩
  · exact .inl (by omega)
  · refine .inr ⟨b, o, e, hb, fun j u hu => ?_⟩
    rw [List.getElem?_take] at hu
    split at hu
    · exact hc j u hu
    · cases hu

/-- copy(dst, src): dst lies in a known block from o on. -/
theorem copyR {t t2 e ty : TypeId} {sz by_ : Nat} {z : List Value} {cs : Array Bool} {b o n c : Nat} {T : TypeId} {cur : List Value} {a2 : Option Addr} {n2 c2 : Nat} {ys : List Value} (hs : slB P t = some (e, sz, by_, z))
    (hb : Blk w b T cur) (hl : o + n * sz ≤ cur.length) (hy : IRow w sz a2 n2 c2 ys) (hone : ∀ y ∈ ys.take (min n2 n * sz), y.oneCell' = true)
    (hk : ∀ w', Blk w' b T (splice cur o (ys.take (min n2 n * sz))) → Same [b] w w' → w'.heap.size = w.heap.size → K (.int .i64 ((min n2 n : Nat) : Int)) w') :
    OPW P (sBI .copy #[t, t2] ty cs #[.slice (some ⟨b, o, none⟩) n c, .slice a2 n2 c2]) w K E := by
  obtain ⟨hu, i, zv, hi, rfl, rfl, hzv, rfl⟩ := slB_out hs
  rw [sBI_copy]
  have hf := run_firstCellsI (P := P) (hy.take (m := min n2 n) (Nat.min_le_left _ _)) n2 c2
  have hlen : (ys.take (min n2 n * i.size)).length ≤ n * i.size := by
    rw [List.length_take]
    exact Nat.le_trans (Nat.min_le_left _ _) (Nat.mul_le_mul_right _ (Nat.min_le_right _ _))
  have hst := run_storeCells' (P := P) (o := o) (vs := ys.take (min n2 n * i.size)) hb (by omega) hone
  have e0 : Nat.min n2 n = min n2 n := rfl
  refine OPW.of_run (w' := putB w b T (splice cur o (ys.take (min n2 n * i.size)))) (run_sV (v := .int .i64 ((min n2 n : Nat) : Int)) ?_) (hk _ (putB_blk hb) (putB_same _ _ _ _) (putB_size _ _ _ _))
  simp [Builtin.copy_, run_underlying hu, sizeOf, typeInfo, hi, Builtin.lenOf, hf, hst, e0, goInt]

/-- clear(s): s lies in a known block from o on. -/
theorem clearR {t e ty : TypeId} {sz by_ : Nat} {z : List Value} {cs : Array Bool} {b o n c : Nat} {T : TypeId} {cur : List Value} (hs : slB P t = some (e, sz, by_, z)) (hz1 : ∀ v ∈ z, v.oneCell' = true) (hz : z.length = sz)
    (hb : Blk w b T cur) (hl : o + n * sz ≤ cur.length)
    (hk : ∀ w' zs, zs.length = n * sz → Blk w' b T (splice cur o zs) → Same [b] w w' → w'.heap.size = w.heap.size → K (.tuple #[]) w') :
    OPW P (sBI .clear #[t] ty cs #[.slice (some ⟨b, o, none⟩) n c]) w K E := by
  obtain ⟨hu, i, zv, hi, rfl, rfl, hzv, rfl⟩ := slB_out hs
  rw [sBI_clear]
  have hsz : (Builtin.zeroCells zv.cells n).toList.length = n * i.size := by
    have hz' : zv.cells.size = i.size := by simpa using hz
    rw [Array.length_toList, size_zeroCells, hz']
  rcases Nat.eq_zero_or_pos n with h0 | hp
  · subst h0
    refine OPW.of_run (w' := w) (run_sV (v := .tuple #[]) ?_) (hk w [] (by simp) (by simpa [splice] using hb) (Same.refl _ _) rfl)
    simp [Builtin.clear_, run_underlying hu]
  · have hone : ∀ v ∈ (Builtin.zeroCells zv.cells n).toList, v.oneCell' = true := by
      intro v hv
      simp only [Builtin.zeroCells, Array.toList_map, List.mem_map] at hv
      obtain ⟨k, hk', rfl⟩ := hv
      rcases Nat.eq_zero_or_pos zv.cells.size with h0 | hp0
      · simp [h0, Array.toList_range] at hk'
      · have hlt : k % zv.cells.size < zv.cells.size := Nat.mod_lt _ hp0
        rw [getElem!_pos zv.cells _ hlt]
        exact hz1 _ (Array.getElem_mem_toList hlt)
    have hst := run_storeCells' (P := P) (o := o) (vs := (Builtin.zeroCells zv.cells n).toList) hb (by omega) hone
    refine OPW.of_run (w' := putB w b T (splice cur o (Builtin.zeroCells zv.cells n).toList)) (run_sV (v := .tuple #[]) ?_) (hk _ _ hsz (putB_blk hb) (putB_same _ _ _ _) (putB_size _ _ _ _))
    match n, hp with
    | n + 1, _ => simp [Builtin.clear_, run_underlying hu, zeroValue, typeInfo, hi, hzv, hst]

end
end Go.Lift
