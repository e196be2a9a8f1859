/-
  More rules for the printed propositions: rows opened, held loads, comparisons with nil and of structs, conversions of bytes, shifts.
-/
import Derived.Test.YtdabjchdmieegaaRules
import Derived.Laws.BytesArg
import Derived.Laws.StructEq
import Derived.Lib.LazyBuf
set_option linter.unusedVariables false
namespace Go.Lift
open Go
section
variable {P : Program} {K : Value → World → Prop} {E : List PanicEntry → World → Prop} {w w' : World}

/-! ### Rows -/
theorem SRow.open {T : TypeId} {sz : Nat} {a : Option Addr} {n c : Nat} {xs : List Value} (h : SRow w T sz a n c xs) (hn : 0 < n) :
    ∃ b o cs, a = some ⟨b, o, none⟩ ∧ ownB a c = [b] ∧ Blk w b T cs ∧ o + n * sz ≤ cs.length ∧ (∀ j, j < n * sz → cs[o + j]? = xs[j]?) ∧
      ∀ w' j v, j < n * sz → Blk w' b T (cs.set (o + j) v) → SRow w' T sz a n c (xs.set j v) := by
  obtain ⟨hl, hnc, h⟩ := h
  rcases h with h0 | ⟨b, o, cs, rfl, hb, hcs, ht⟩
  · omega
  · have hle : n * sz ≤ c * sz := Nat.mul_le_mul_right _ hnc
    refine ⟨b, o, cs, rfl, by simp [ownB]; omega, hb, by omega, fun j hj => ?_, fun w' j v hj hb' => ⟨by simpa using hl, hnc, .inr ⟨b, o, _, rfl, hb', by simpa using hcs, ?_⟩⟩⟩
    · rw [← ht, List.getElem?_take, if_pos hj, List.getElem?_drop]
    · rw [← ht]
      apply List.ext_getElem?
      intro k
      simp only [List.getElem?_take, List.getElem?_drop, List.getElem?_set, List.length_take, List.length_drop]
      by_cases hk : k < n * sz
      · simp only [if_pos hk]
        by_cases e : j = k
        · subst e
          have : o + j < cs.length := by omega
          simp only [if_true, if_pos this]
          rw [if_pos (by omega)]
        · rw [if_neg (by omega), if_neg e]
      · simp only [if_neg hk]
        rw [if_neg (by omega)]

theorem Blk.keep {S : List Nat} {b : Nat} {T : TypeId} {cs : List Value} (hb : Blk w b T cs) (h : Same S w w') (hn : b ∉ S) : Blk w' b T cs := h.blk hb hn

theorem HELD.ld {S : World → World → Prop} {φ : Value → Prop} {t : TypeId} {b o : Nat} {T : TypeId} {cs : List Value} {v : Value} (hS : S w w) (hb : ∀ w', S w w' → Blk w' b T cs) (hv : cs[o]? = some v) (hφ : φ v) (ht : aggB P t = some false := by kernel_rfl) :
    HELD P S (sV (Instr.loadAt t (.pointer (some ⟨b, o, none⟩)))) w φ := ⟨v, hS, fun w' hw => run_ld (hb w' hw) hv ht, hφ⟩

theorem HELD.ldA {S : World → World → Prop} {φ : Value → Prop} {t : TypeId} {n b o : Nat} {T : TypeId} {cs vs : List Value} (hS : S w w) (hb : ∀ w', S w w' → Blk w' b T cs) (hv : (cs.drop o).take n = vs) (hl : vs.length = n) (hφ : φ (.agg vs.toArray))
    (ht : aggB P t = some true := by kernel_rfl) (hn : (P.info? t).map (·.size) = some n := by kernel_rfl) :
    HELD P S (sV (Instr.loadAt t (.pointer (some ⟨b, o, none⟩)))) w φ := ⟨_, hS, fun w' hw => run_ldA (hb w' hw) hv hl ht hn, hφ⟩

theorem ldA {t : TypeId} {n b o : Nat} {T : TypeId} {cs vs : List Value} (hb : Blk w b T cs) (hv : (cs.drop o).take n = vs) (hl : vs.length = n) (hk : K (.agg vs.toArray) w)
    (ht : aggB P t = some true := by kernel_rfl) (hn : (P.info? t).map (·.size) = some n := by kernel_rfl) :
    OPW P (sV (Instr.loadAt t (.pointer (some ⟨b, o, none⟩)))) w K E := OPW.of_run (run_ldA hb hv hl ht hn) hk

theorem RCELL.ld {t : TypeId} {b o : Nat} {T : TypeId} {cs : List Value} {v : Value} {φ : Value → Prop} (h : Blk w b T cs) (hv : cs[o]? = some v) (hφ : φ v) (ht : aggB P t = some false := by kernel_rfl) : RCELL P t (.pointer (some ⟨b, o, none⟩)) w φ :=
  ⟨v, by simp [loadVar, run_isAgg ht, h.cell o, hv, asAddr], hφ⟩

/-! ### Empty literals -/
theorem lit0R {t e : TypeId} {sz by_ : Nat} {z : List Value} (hs : slB P t = some (e, sz, by_, z))
    (hk : ∀ w' b, w.heap.size ≤ b → Same [] w w' → w'.heap.size = w.heap.size + 1 → K (.slice (some ⟨b, 0, none⟩) 0 0) w') :
    OPW P (sV (Instr.buildSlice t 0 #[])) w K E := by
  obtain ⟨hu, i, zv, hi, rfl, rfl, hz, rfl⟩ := slB_out hs
  refine OPW.of_run (w' := w.alloc (.cells #[] e)) (run_sV (v := .slice (some ⟨w.heap.size, 0, none⟩) 0 0) ?_) (hk _ _ (Nat.le_refl _) (new_same _ _) (by simp))
  simp [Instr.buildSlice, run_underlying hu, sizeOf, typeInfo, hi, newRow, Instr.fill]
  have : (Array.map (fun _ : Nat => (default : Value)) (Array.range 0)) = #[] := by simp [Array.range]
  first | rw [this] | rfl

/-! ### Comparisons -/
theorem eqGuard_ptr (op : BinOp) (t : TypeId) (x y : Operand) (a : Option Addr) (v : Value) : eqGuard op t x y (.pointer a) v = pure () := by cases op <;> rfl
theorem eqGuard_sl (op : BinOp) (t : TypeId) (x y : Operand) (a : Option Addr) (l c : Nat) (v : Value) : eqGuard op t x y (.slice a l c) v = pure () := by cases op <;> rfl

def ptrB (P : Program) (t : TypeId) : Bool := match P.underlying t with | some (.pointer _) => true | _ => false
theorem ptrB_out {t : TypeId} (h : ptrB P t = true) : P.underlying t = some (.pointer (P.pointee t)) := by
  unfold ptrB at h
  split at h
  · rename_i hu; simp [Program.pointee, hu]
  · cases h
theorem eqlPtrNil {t : TypeId} {x y : Operand} {a : Option Addr} (hk : K (.bool a.isNone) w) (h : ptrB P t = true := by kernel_rfl) : OPW P (sB .eql t (.pointer a) (.pointer none) (eqGuard .eql t x y (.pointer a) (.pointer none))) w K E :=
  OPW.of_run (run_sV (by rw [eqGuard_ptr]; simp [run_eql_pointer_nil w t a (ptrB_out h)])) hk
theorem neqPtrNil {t : TypeId} {x y : Operand} {a : Option Addr} (hk : K (.bool (!a.isNone)) w) (h : ptrB P t = true := by kernel_rfl) : OPW P (sB .neq t (.pointer a) (.pointer none) (eqGuard .neq t x y (.pointer a) (.pointer none))) w K E :=
  OPW.of_run (run_sV (by rw [eqGuard_ptr]; simp [run_neq_pointer_nil w t a (ptrB_out h)])) hk
theorem eqlSlNil {t e : TypeId} {sz by_ : Nat} {z : List Value} {x y : Operand} {a : Option Addr} {n c : Nat} (hs : slB P t = some (e, sz, by_, z)) (hk : K (.bool a.isNone) w) : OPW P (sB .eql t (.slice a n c) (.slice none 0 0) (eqGuard .eql t x y (.slice a n c) (.slice none 0 0))) w K E :=
  OPW.of_run (run_sV (by rw [eqGuard_sl]; simp [run_eql_slice_nil w t e a n c (slB_out hs).1])) hk

/-! ### Shifts -/
theorem run_shr {t : TypeId} {x y : Operand} {k k' : IntKind} {a b : Int} (hb : 0 ≤ b) : (sB .shr t (.int k a) (.int k' b) (eqGuard .shr t x y (.int k a) (.int k' b))).run P w = .ok (.value (.int k (a.fdiv (2 ^ min b.toNat k.bits)))) w := by
  have : ¬ b < 0 := by omega
  simp [sB, sV, eqGuard_shr, binOp, Op.shift, this]
theorem run_shl {t : TypeId} {x y : Operand} {k k' : IntKind} {a b : Int} (hb : 0 ≤ b) : (sB .shl t (.int k a) (.int k' b) (eqGuard .shl t x y (.int k a) (.int k' b))).run P w = .ok (.value (.int k (k.wrap (a * 2 ^ min b.toNat k.bits)))) w := by
  have : ¬ b < 0 := by omega
  simp [sB, sV, eqGuard_shl, binOp, Op.shift, this]

/-! ### Bytes -/
def bv (x : UInt8) : Value := .int .u8 (x.toNat : Int)
/-- A slice value as a triple. -/
abbrev D := Option Addr × Nat × Nat
abbrev sl (d : D) : Value := .slice d.1 d.2.1 d.2.2
/-- The slice value d reads as the bytes xs. -/
def Row (T : TypeId) (w : World) (d : D) (xs : List UInt8) : Prop := SRow w T 1 d.1 d.2.1 d.2.2 (xs.map bv)

theorem Row.len {T : TypeId} {d : D} {xs : List UInt8} (h : Row T w d xs) : d.2.1 = xs.length := by have := h.1; simp at this; omega

def bytesB (P : Program) (t : TypeId) : Bool := match P.underlying t with | some (.slice e) => (match P.underlying e with | some (.int .u8) => true | _ => false) | _ => false
def strB (P : Program) (t : TypeId) : Bool := match P.underlying t with | some .string => true | _ => false

theorem run_str {T t s : TypeId} {d : D} {xs : List UInt8} (h : Row T w d xs) (ht : bytesB P t = true) (hs : strB P s = true) :
    (sV (convert t s (.slice d.1 d.2.1 d.2.2))).run P w = .ok (.value (.string ⟨xs.toArray⟩)) w := by
  unfold bytesB at ht
  unfold strB at hs
  split at ht
  · rename_i e hu
    split at ht
    · rename_i he
      split at hs
      · rename_i hd
        refine run_sV ?_
        obtain ⟨a, n, c⟩ := d
        have hl := h.len
        simp only at hl
        rcases Nat.eq_zero_or_pos n with h0 | hp
        · subst h0
          obtain rfl : xs = [] := List.eq_nil_of_length_eq_zero hl.symm
          have hf := run_firstCells' (P := P) h 0 c
          rw [run_convert_bytes_string w t s e a 0 c hu he hd]
          cases a with
          | none => simp [Conv.bytesToString]; rfl
          | some a => simp [Conv.bytesToString, loadCells, loadCellsFrom]; rfl
        · obtain ⟨b, o, cs, rfl, _, hb, hcs, hc, _⟩ := h.open hp
          rw [run_convert_bytes_arg w t e hu he b o n c (xs.map fun x => (x.toNat : Int)) (by simp [hl]) (fun i hi => ?_) s hd]
          · simp [strOfNums]
            congr 1
            apply List.map_id'' 
            intro x
            simp
          · rw [hb.cell, hc i (by simpa using hi)]
            have : i < xs.length := by omega
            simp [List.getD, List.getElem?_eq_getElem this, bv]
      · cases hs
    · cases ht
  · cases ht
end
end Go.Lift
