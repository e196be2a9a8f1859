/-
  A rule for append(s, make([]T, k)...) where s has no room.
-/
import Derived.Test.YtdabjchdmieegaaRules5
import Derived.Lib.AppendZerosOnto
set_option linter.unusedVariables false
namespace Go.Lift
open Go
section
variable {P : Program} {K : Value → World → Prop} {E : List PanicEntry → World → Prop} {w w' : World}

theorem growR {t tn e ty : TypeId} {sz by_ : Nat} {z : List Value} {cs : Array Bool} {a : Option Addr} {n c k : Nat} {kq : IntKind} {xs : List Value} (hs : slB P t = some (e, sz, by_, z)) (hz : z.length = sz) (hsz : 0 < sz)
    (htn : ∃ kn, P.underlying tn = some (.int kn)) (hr : SRow w e sz a n c xs) (h0 : 0 < k) (hg : c < n + k) (hb : (n + k) * by_ ≤ 140737488355328) (h63 : n + k ≤ maxLen)
    (hk : ∀ w' b cap zs, w.heap.size ≤ b → zs.length = (cap - n) * sz → n + k ≤ cap → Blk w' b e (xs ++ zs) → Same [] w w' → K (.slice (some ⟨b, 0, none⟩) (n + k) cap) w') :
    OPW P (sBI .append #[t, tn] ty cs #[.slice a n c, .int kq (k : Int)]) w K E := by
  obtain ⟨hu, i, zv, hi, rfl, rfl, hzv, rfl⟩ := slB_out hs
  obtain ⟨kn, htn⟩ := htn
  rw [sBI_append]
  have hge := grownCap_ge w (n + k) c e
  have hfirst := run_firstCells' (P := P) (hr.keep ((Same.refl [] w).drew) (by simp) : SRow w.drew e i.size a n c xs) n c
  have hrun := Lib.run_append_grow_zeros (P := P) w t tn ty e i zv kq kn hu htn hi hzv a n c xs hfirst k h0 hsz hg (by simp only [maxLen] at h63; omega) (by
    have : k * i.bytes ≤ (n + k) * i.bytes := Nat.mul_le_mul_right _ (by omega)
    omega) (growslice_fits (by omega) hb)
  have hzl : zv.cells.size = i.size := by rw [← hz]; simp
  refine OPW.of_run (run_sV hrun) (hk _ _ (grownCap w (n + k) c e) (Builtin.zeroCells zv.cells k ++ Builtin.zeroCells zv.cells (grownCap w (n + k) c e - (n + k))).toList (Nat.le_refl _) ?_ hge ?_ ((new_same w.drew _).nil.of_drew))
  · simp only [Array.length_toList, Array.size_append, size_zeroCells, hzl, ← Nat.add_mul]
    congr 1
    omega
  · have := new_blk w.drew e (xs.toArray ++ Builtin.zeroCells zv.cells k ++ Builtin.zeroCells zv.cells (grownCap w (n + k) c e - (n + k)))
    simpa [List.append_assoc] using this
theorem splice_get {cs vs : List Value} {o : Nat} (h : o + vs.length ≤ cs.length) (k : Nat) : (splice cs o vs)[k]? = if k < o then cs[k]? else if k < o + vs.length then vs[k - o]? else cs[k]? := by
  unfold splice
  have ho : (cs.take o).length = o := by rw [List.length_take]; omega
  by_cases h1 : k < o
  · rw [if_pos h1, List.append_assoc, List.getElem?_append_left (by omega), List.getElem?_take, if_pos h1]
  · rw [if_neg h1]
    by_cases h2 : k < o + vs.length
    · rw [if_pos h2, List.getElem?_append_left (by rw [List.length_append, ho]; omega), List.getElem?_append_right (by omega), ho]
    · rw [if_neg h2, List.getElem?_append_right (by rw [List.length_append, ho]; omega), List.length_append, ho, List.getElem?_drop]
      congr 1
      omega
end
end Go.Lift
