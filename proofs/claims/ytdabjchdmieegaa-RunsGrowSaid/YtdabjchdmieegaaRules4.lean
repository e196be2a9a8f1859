/-
  Rules for what came in from outside: a slice of which only the cells are known.
-/
import Derived.Test.YtdabjchdmieegaaRules3
set_option linter.unusedVariables false
namespace Go.Lift
open Go
/-- The slice value (a, n, c) reads as the cells xs. -/
def IRow (w : World) (sz : Nat) (a : Option Addr) (n c : Nat) (xs : List Value) : Prop :=
  xs.length = n * sz ∧ n ≤ c ∧ (n = 0 ∨ ∃ b o, a = some ⟨b, o, none⟩ ∧ b < w.heap.size ∧ ∀ j u, xs[j]? = some u → w.cell? ⟨b, o + j, none⟩ = some u)

/-- The blocks that it reads. -/
def seenB (a : Option Addr) (n : Nat) : List Nat := match a with | some a => if n = 0 then [] else [a.block] | none => []

theorem Same.cell {S : List Nat} {w w' : World} (h : Same S w w') {b o : Nat} {v : Value} (hb : b < w.heap.size) (hn : b ∉ S) (hc : w.cell? ⟨b, o, none⟩ = some v) : w'.cell? ⟨b, o, none⟩ = some v := by
  have := h.keep b hb hn
  simp only [World.cell?, this]
  simpa only [World.cell?] using hc

section
variable {P : Program} {K : Value → World → Prop} {E : List PanicEntry → World → Prop} {w w' : World}

theorem SRow.seen {T : TypeId} {sz : Nat} {a : Option Addr} {n c : Nat} {xs : List Value} (h : SRow w T sz a n c xs) : IRow w sz a n c xs := by
  obtain ⟨hl, hnc, h⟩ := h
  refine ⟨hl, hnc, ?_⟩
  rcases h with h0 | ⟨b, o, cs, rfl, hb, hcs, ht⟩
  · exact .inl (by omega)
  · refine .inr ⟨b, o, rfl, hb.lt, fun j u hu => ?_⟩
    rw [hb.cell]
    rw [← ht, List.getElem?_take] at hu
    split at hu
    · rw [List.getElem?_drop] at hu; exact hu
    · cases hu
theorem IRow.keep {S : List Nat} {sz : Nat} {a : Option Addr} {n c : Nat} {xs : List Value} (h : IRow w sz a n c xs) (hs : Same S w w') (hn : ∀ b ∈ seenB a n, b ∉ S) : IRow w' sz a n c xs := by
  refine ⟨h.1, h.2.1, ?_⟩
  by_cases h0 : n = 0
  · exact .inl h0
  · rcases h.2.2 with h0' | ⟨b, o, rfl, hb, hc⟩
    · exact absurd h0' h0
    · exact .inr ⟨b, o, rfl, Nat.lt_of_lt_of_le hb hs.size, fun j u hu => hs.cell hb (hn b (by simp [seenB, h0])) (hc j u hu)⟩
theorem IRow.cells {sz : Nat} {a : Option Addr} {n c : Nat} {xs : List Value} (h : IRow w sz a n c xs) (hn : 0 < n) :
    ∃ b o, a = some ⟨b, o, none⟩ ∧ ∀ j u, xs[j]? = some u → w.cell? ((⟨b, o, none⟩ : Addr).add j) = some u := by
  rcases h.2.2 with h0 | ⟨b, o, rfl, hb, hc⟩
  · omega
  · exact ⟨b, o, rfl, fun j u hu => by rw [add_mk]; exact hc j u hu⟩

theorem run_loadCellsI {b : Nat} {o : Nat} {xs : List Value} (h : ∀ j u, xs[j]? = some u → w.cell? ⟨b, o + j, none⟩ = some u) : ∀ (n i : Nat) (acc : Array Value), i + n ≤ xs.length →
    (loadCellsFrom ⟨b, o, none⟩ i n acc).run P w = .ok (acc ++ ((xs.drop i).take n).toArray) w
  | 0, i, acc, _ => by simp [loadCellsFrom]
  | n + 1, i, acc, hl => by
    have hi : i < xs.length := by omega
    have hc : w.cell? ⟨b, o + i, none⟩ = some xs[i] := h i _ (List.getElem?_eq_getElem hi)
    simp only [loadCellsFrom, Sem.run_bind, add_mk, run_load, hc, Result.andThen]
    rw [run_loadCellsI h n (i + 1) _ (by omega)]
    congr 1
    apply Array.toList_inj.1
    rw [List.drop_eq_getElem_cons hi, List.take_succ_cons]
    simp

theorem run_firstCellsI {sz : Nat} {a : Option Addr} {n c : Nat} {xs : List Value} (h : IRow w sz a n c xs) (n' c' : Nat) : (Builtin.firstCells sz n (.slice a n' c')).run P w = .ok xs.toArray w := by
  obtain ⟨hl, hnc, h⟩ := h
  rcases h with h0 | ⟨b, o, rfl, hb, hc⟩
  · subst h0
    obtain rfl : xs = [] := List.eq_nil_of_length_eq_zero (by simpa using hl)
    cases a <;> simp [Builtin.firstCells, loadCells, loadCellsFrom]
  · simp only [Builtin.firstCells, loadCells]
    rw [run_loadCellsI hc (n * sz) 0 #[] (by omega)]
    simp [← hl]

theorem run_ldC {t : TypeId} {b o : Nat} {v : Value} (h : w.cell? ⟨b, o, none⟩ = some v) (ht : aggB P t = some false) :
    (sV (Instr.loadAt t (.pointer (some ⟨b, o, none⟩)))).run P w = .ok (.value v) w := by
  refine run_sV ?_
  simp [Instr.loadAt, Instr.sureAddr, loadVar, run_isAgg ht, h]
theorem ldC {t : TypeId} {b o : Nat} {v : Value} (h : w.cell? ⟨b, o, none⟩ = some v) (hk : K v w) (ht : aggB P t = some false := by kernel_rfl) :
    OPW P (sV (Instr.loadAt t (.pointer (some ⟨b, o, none⟩)))) w K E := OPW.of_run (run_ldC h ht) hk
theorem HELD.ldC {S : World → World → Prop} {φ : Value → Prop} {t : TypeId} {b o : Nat} {v : Value} (hS : S w w) (hb : ∀ w', S w w' → w'.cell? ⟨b, o, none⟩ = some v) (hφ : φ v) (ht : aggB P t = some false := by kernel_rfl) :
    HELD P S (sV (Instr.loadAt t (.pointer (some ⟨b, o, none⟩)))) w φ := ⟨v, hS, fun w' hw => run_ldC (hb w' hw) ht, hφ⟩
theorem run_ldAC {t : TypeId} {n : Nat} {b o : Nat} {vs : List Value} (h : ∀ j u, vs[j]? = some u → w.cell? ⟨b, o + j, none⟩ = some u) (hl : vs.length = n) (ht : aggB P t = some true) (hn : (P.info? t).map (·.size) = some n) :
    (sV (Instr.loadAt t (.pointer (some ⟨b, o, none⟩)))).run P w = .ok (.value (.agg vs.toArray)) w := by
  refine run_sV ?_
  obtain ⟨i, hi, hs⟩ : ∃ i, P.info? t = some i ∧ i.size = n := by
    cases hi : P.info? t with
    | none => simp [hi] at hn
    | some i => exact ⟨i, rfl, by simpa [hi] using hn⟩
  subst hl
  have := run_loadCellsI (P := P) h vs.length 0 #[] (by omega)
  simp [Instr.loadAt, Instr.sureAddr, loadVar, run_isAgg ht, sizeOf, typeInfo, hi, hs, loadCells, this]
theorem ldAC {t : TypeId} {n b o : Nat} {vs : List Value} (h : ∀ j u, vs[j]? = some u → w.cell? ⟨b, o + j, none⟩ = some u) (hl : vs.length = n) (hk : K (.agg vs.toArray) w)
    (ht : aggB P t = some true := by kernel_rfl) (hn : (P.info? t).map (·.size) = some n := by kernel_rfl) :
    OPW P (sV (Instr.loadAt t (.pointer (some ⟨b, o, none⟩)))) w K E := OPW.of_run (run_ldAC h hl ht hn) hk

theorem appendI {t e ty : TypeId} {sz by_ : Nat} {z : List Value} {cs : Array Bool} {a a2 : Option Addr} {n c n2 c2 : Nat} {xs ys : List Value} (hs : slB P t = some (e, sz, by_, z)) (hr : SRow w e sz a n c xs) (hy : IRow w sz a2 n2 c2 ys)
    (hone : ∀ y ∈ ys, y.oneCell' = true) (hb : (n + n2) * by_ ≤ 140737488355328) (h63 : n + n2 ≤ maxLen) (hz : z.length = sz)
    (hk : ∀ w' a' c', SRow w' e sz a' (n + n2) c' (xs ++ ys) → Same (ownB a c) w w' → (∀ b ∈ ownB a' c', b ∈ ownB a c ∨ w.heap.size ≤ b) → K (.slice a' (n + n2) c') w') :
    OPW P (sBI .append #[t, t] ty cs #[.slice a n c, .slice a2 n2 c2]) w K E := by
  obtain ⟨hu, i, zv, hi, rfl, rfl, hzv, rfl⟩ := slB_out hs
  rw [sBI_append]
  have hlen : (xs ++ ys).length = (n + n2) * i.size := by rw [List.length_append, hr.1, hy.1, Nat.add_mul]
  have hnz : (P.underlying t matches some (.int _)) = false := by rw [hu]
  by_cases hroom : n + n2 ≤ c
  · by_cases hc : c = 0
    · obtain rfl : n = 0 := by omega
      obtain rfl : n2 = 0 := by omega
      subst hc
      obtain rfl : ys = [] := List.eq_nil_of_length_eq_zero (by simpa using hy.1)
      refine OPW.of_run (w' := w) (run_sV (v := .slice a 0 0) ?_) (hk w a 0 (by simpa using hr) (Same.refl _ _) fun b hb => .inl hb)
      have hf := run_firstCellsI (P := P) hy 0 c2
      cases a <;> simp [Builtin.append_, run_underlying hu, sizeOf, typeInfo, hi, Builtin.lenOf, hf, storeCells]
    · obtain ⟨hl, hnc, h⟩ := hr
      rcases h with h0 | ⟨b, o, cur, rfl, hbk, hcs, ht⟩
      · exact absurd h0 hc
      · have hle : (n + n2) * i.size ≤ c * i.size := Nat.mul_le_mul_right _ hroom
        have hle' : n * i.size + n2 * i.size ≤ c * i.size := by rw [← Nat.add_mul]; exact hle
        have hst := run_storeCells' (P := P) (o := o + n * i.size) (vs := ys) hbk (by rw [hy.1]; omega) hone
        have hf := run_firstCellsI (P := P) hy n2 c2
        refine OPW.of_run (w' := putB w b e (splice cur (o + n * i.size) ys)) (run_sV (v := .slice (some ⟨b, o, none⟩) (n + n2) c) ?_) (hk _ _ _ ⟨hlen, hroom, .inr ⟨b, o, _, rfl, putB_blk hbk, ?_, ?_⟩⟩ ((putB_same _ _ _ _).mono fun x hx => by simpa [ownB, hc] using hx) fun b hb => .inl hb)
        · simp [Builtin.append_, run_underlying hu, sizeOf, typeInfo, hi, Builtin.lenOf, hf, hroom, add_mk, hst]
        · rw [splice_length (by rw [hy.1]; omega)]; exact hcs
        · have := splice_take (cur := cur) (ys := ys) (o := o) (m := n * i.size) (by rw [hy.1]; omega)
          rw [hy.1, ← Nat.add_mul] at this
          rw [this, ht]
  · have hn2 : 0 < n2 := by have := hr.2.1; omega
    obtain ⟨b2, o2, rfl, hnews⟩ := hy.cells hn2
    have hge := grownCap_ge w (n + n2) c e
    have key : ∀ (s : Value) (a0 : Option Addr), (Builtin.append_ #[t, t] ty #[.slice a n c, .slice (some ⟨b2, o2, none⟩) n2 c2]).run P w =
        .ok (.slice (some ⟨w.heap.size, 0, none⟩) (n + n2) (grownCap w (n + n2) c e)) (w.drew.alloc (.cells (xs.toArray ++ ys.toArray ++ Builtin.zeroCells zv.cells (grownCap w (n + n2) c e - (n + n2))) e)) →
        OPW P (sV (Builtin.append_ #[t, t] ty #[.slice a n c, .slice (some ⟨b2, o2, none⟩) n2 c2])) w K E := by
      intro s a0 hrun
      refine OPW.of_run (run_sV hrun) (hk _ _ _ ⟨hlen, hge, .inr ⟨w.heap.size, 0, _, rfl, new_blk w.drew e _, ?_, ?_⟩⟩ ((new_same w.drew _).nil.of_drew) fun b hb => .inr ?_)
      · have hzl : zv.cells.size = i.size := by rw [← hz]; simp
        simp only [Array.toList_append, List.length_append, Array.length_toList, size_zeroCells, hzl, hr.1, hy.1, ← Nat.add_mul, Nat.zero_add]
        have : n + n2 + (grownCap w (n + n2) c e - (n + n2)) = grownCap w (n + n2) c e := by omega
        rw [this]
        exact Nat.le_refl _
      · simp only [Array.toList_append, List.drop_zero]
        rw [← hlen]
        exact List.take_left
      · unfold ownB at hb
        simp only at hb
        split at hb
        · cases hb
        · rw [List.mem_singleton.1 hb]; exact Nat.le_refl _
    cases a with
    | none =>
      obtain ⟨rfl, rfl⟩ : n = 0 ∧ c = 0 := by
        rcases hr.2.2 with h0 | ⟨b, o, cs, h, _⟩
        · exact ⟨by have := hr.2.1; omega, h0⟩
        · cases h
      obtain rfl : xs = [] := List.eq_nil_of_length_eq_zero (by simpa using hr.1)
      refine key .nilFunc none ?_
      simp only [Nat.zero_add] at *
      rw [run_append_nil (P := P) w t ty e i zv hu hi hzv ⟨b2, o2, none⟩ n2 c2 ys hy.1 hnews (by omega) (by simp only [maxLen] at h63; omega) (by omega)]
      simp
    | some ad =>
      obtain ⟨ab, ao, asp⟩ := ad
      by_cases hc : c = 0
      · have hn0 : n = 0 := by have := hr.2.1; omega
        obtain rfl : xs = [] := List.eq_nil_of_length_eq_zero (by rw [hr.1, hn0]; simp)
        exact key .nilFunc none (run_append_grow (P := P) w t ty e i zv hu hi hzv _ n c [] (by rw [hn0]; simp) (fun j u hu => by simp at hu) _ n2 c2 ys hy.1 hnews (by omega) (by simp only [maxLen] at h63; omega) (growslice_fits (by omega) hb))
      · rcases hr.2.2 with h0 | ⟨b, o, cur, he, hbk, hcs, ht⟩
        · exact absurd h0 hc
        · cases he
          refine key .nilFunc none (run_append_grow (P := P) w t ty e i zv hu hi hzv _ n c xs hr.1 (fun j u hu => ?_) _ n2 c2 ys hy.1 hnews (by omega) (by simp only [maxLen] at h63; omega) (growslice_fits (by omega) hb))
          rw [add_mk, hbk.cell]
          rw [← ht, List.getElem?_take] at hu
          split at hu
          · rw [List.getElem?_drop] at hu; exact hu
          · cases hu



end
end Go.Lift
