/-
  Rules for the printed propositions: what each operation on memory asks, over blocks known whole. It speaks of no program.
-/
import Derived.Test.YtdabjchdmieegaaLift
import Derived.WalkKit
set_option linter.unusedVariables false
namespace Go.Lift
open Go

/-! ### Blocks and frames -/
/-- Block b is a row of cells of element type T, all of it known, none of it frozen. -/
def Blk (w : World) (b : Nat) (T : TypeId) (cs : List Value) : Prop := w.heap[b]? = some (.cells cs.toArray T (0, 0))

theorem Blk.lt {w : World} {b : Nat} {T : TypeId} {cs : List Value} (h : Blk w b T cs) : b < w.heap.size := by
  rcases Nat.lt_or_ge b w.heap.size with h' | h'
  · exact h'
  · unfold Blk at h; simp [Array.getElem?_eq_none h'] at h

theorem Blk.cell {w : World} {b : Nat} {T : TypeId} {cs : List Value} (h : Blk w b T cs) (o : Nat) : w.cell? ⟨b, o, none⟩ = cs[o]? := by
  unfold Blk at h; simp [World.cell?, h]
theorem Blk.free {w : World} {b : Nat} {T : TypeId} {cs : List Value} (h : Blk w b T cs) (o : Nat) : w.frozen? ⟨b, o, none⟩ = false := by
  unfold Blk at h; simp [World.frozen?, h]
theorem Blk.inj {w : World} {b : Nat} {T T' : TypeId} {cs cs' : List Value} (h : Blk w b T cs) (h' : Blk w b T' cs') : T = T' ∧ cs = cs' := by
  unfold Blk at *; rw [h] at h'; simp at h'; exact ⟨h'.2, h'.1⟩
theorem Blk.ne {w : World} {b b' : Nat} {T T' : TypeId} {cs cs' : List Value} (h : Blk w b T cs) (h' : Blk w b' T' cs') (hT : T ≠ T') : b ≠ b' := fun e => hT ((e ▸ h).inj h').1

/-- Nothing that was there has turned, but for the blocks of the list. -/
structure Same (S : List Nat) (w w' : World) : Prop where
  os : w'.os = w.os
  tape : w'.tape = w.tape
  output : w'.output = w.output
  size : w.heap.size ≤ w'.heap.size
  keep : ∀ b, b < w.heap.size → b ∉ S → w'.heap[b]? = w.heap[b]?

theorem Same.refl (S : List Nat) (w : World) : Same S w w := ⟨rfl, rfl, rfl, Nat.le_refl _, fun _ _ _ => rfl⟩
theorem Same.drew {S : List Nat} {w w' : World} (h : Same S w w') : Same S w (drew w') := ⟨h.os, h.tape, h.output, h.size, h.keep⟩
theorem Same.of_drew {S : List Nat} {w w' : World} (h : Same S (Lift.drew w) w') : Same S w w' := ⟨h.os, h.tape, h.output, h.size, h.keep⟩
theorem Same.trans {S : List Nat} {a b c : World} (h : Same S a b) (k : Same S b c) : Same S a c :=
  ⟨k.os.trans h.os, k.tape.trans h.tape, k.output.trans h.output, Nat.le_trans h.size k.size, fun i hi hn => (k.keep i (Nat.lt_of_lt_of_le hi h.size) hn).trans (h.keep i hi hn)⟩
theorem Same.weaken {S S' : List Nat} {w w' : World} (h : Same S w w') (hs : ∀ b, b ∈ S → b < w.heap.size → b ∈ S') : Same S' w w' :=
  ⟨h.os, h.tape, h.output, h.size, fun b hb hn => h.keep b hb fun hm => hn (hs b hm hb)⟩
theorem Same.mono {S S' : List Nat} {w w' : World} (h : Same S w w') (hs : ∀ b, b ∈ S → b ∈ S') : Same S' w w' := h.weaken fun b hb _ => hs b hb
theorem Same.nil {S : List Nat} {w w' : World} (h : Same [] w w') : Same S w w' := h.mono fun _ h => by cases h
theorem Same.blk {S : List Nat} {w w' : World} (h : Same S w w') {b : Nat} {T : TypeId} {cs : List Value} (hb : Blk w b T cs) (hn : b ∉ S) : Blk w' b T cs := by
  unfold Blk; rw [h.keep b hb.lt hn]; exact hb
/-- Two steps, the second one's blocks new or of the first list. -/
theorem Same.then {S S' : List Nat} {a b c : World} (h : Same S a b) (k : Same S' b c) (hs : ∀ x, x ∈ S' → x ∈ S ∨ a.heap.size ≤ x) : Same S a c :=
  ⟨k.os.trans h.os, k.tape.trans h.tape, k.output.trans h.output, Nat.le_trans h.size k.size, fun i hi hn =>
    (k.keep i (Nat.lt_of_lt_of_le hi h.size) fun hm => (hs i hm).elim hn fun h' => Nat.not_le_of_lt hi h').trans (h.keep i hi hn)⟩
theorem Same.below {S : List Nat} {w w' : World} (h : Same S w w') {B : Nat} (hB : B ≤ w.heap.size) (hs : ∀ b, b ∈ S → B ≤ b) : Go.RowKit.Below B w w' :=
  ⟨h.os, h.tape, h.output, h.size, fun k hk => h.keep k (Nat.lt_of_lt_of_le hk hB) fun hm => Nat.not_le_of_lt hk (hs k hm)⟩

/-! ### Worlds behind single operations -/
def putB (w : World) (b : Nat) (T : TypeId) (cs : List Value) : World := { w with heap := w.heap.setIfInBounds b (.cells cs.toArray T (0, 0)) }

theorem setCell_blk {w : World} {b : Nat} {T : TypeId} {cs : List Value} (h : Blk w b T cs) (o : Nat) (v : Value) : w.setCell ⟨b, o, none⟩ v = putB w b T (cs.set o v) := by
  unfold World.setCell putB
  congr 1
  apply Array.ext_getElem?
  intro k
  simp only [Array.getElem?_modify, Array.getElem?_setIfInBounds]
  by_cases e : b = k
  · subst e
    have hb := h.lt
    unfold Blk at h
    have h' : w.heap[b] = .cells cs.toArray T (0, 0) := by simpa [Array.getElem?_eq_getElem hb] using h
    simp [hb, h']
  · simp [e]

theorem putB_blk {w : World} {b : Nat} {T : TypeId} {cs cs' : List Value} (h : Blk w b T cs) : Blk (putB w b T cs') b T cs' := by
  unfold Blk putB
  simp [h.lt]
theorem putB_same (w : World) (b : Nat) (T : TypeId) (cs : List Value) : Same [b] w (putB w b T cs) :=
  ⟨rfl, rfl, rfl, by simp [putB], fun k _ hn => by
    have : ¬ b = k := fun e => hn (by simp [e])
    simp [putB, this]⟩
theorem putB_size (w : World) (b : Nat) (T : TypeId) (cs : List Value) : (putB w b T cs).heap.size = w.heap.size := by simp [putB]
theorem putB_id {w : World} {b : Nat} {T : TypeId} {cs : List Value} (h : Blk w b T cs) : putB w b T cs = w := by
  unfold putB
  congr 1
  apply Array.ext_getElem?
  intro k
  simp only [Array.getElem?_setIfInBounds]
  split
  · rename_i e; subst e; split
    · exact h.symm
    · rename_i h'; exact absurd h.lt h'
  · rfl
theorem putB_putB (w : World) (b : Nat) (T : TypeId) (cs cs' : List Value) : putB (putB w b T cs) b T cs' = putB w b T cs' := by
  unfold putB
  congr 1
  apply Array.ext_getElem?
  intro k
  simp only [Array.getElem?_setIfInBounds, Array.size_setIfInBounds]
  split <;> rfl

theorem new_blk (w : World) (T : TypeId) (cs : Array Value) : Blk (w.alloc (.cells cs T)) w.heap.size T cs.toList := by
  unfold Blk
  show (w.heap.push _)[w.heap.size]? = _
  simp
theorem new_same (w : World) (o : Obj) : Same [] w (w.alloc o) :=
  ⟨rfl, rfl, rfl, by simp, fun k hk _ => by show (w.heap.push _)[k]? = _; rw [Array.getElem?_push, if_neg (Nat.ne_of_lt hk)]⟩

/-! ### From runs to rules -/
section
variable {P : Program} {K : Value → World → Prop} {E : List PanicEntry → World → Prop} {w w' : World}

theorem OPW.of_run {s : Sem Next} {v : Value} (hr : s.run P w = .ok (.value v) w') (hk : K v w') : OPW P s w K E := ⟨by rw [hr]; exact hk⟩
theorem OPW.of_skip {s : Sem Next} (hr : s.run P w = .ok .skip w') (hk : K undef w') : OPW P s w K E := ⟨by rw [hr]; exact hk⟩
theorem run_sV {s : Sem Value} {v : Value} (h : s.run P w = .ok v w') : (sV s).run P w = .ok (.value v) w' := by simp [sV, h]
theorem run_sU {s : Sem Unit} {u : Unit} (h : s.run P w = .ok u w') : (sU s).run P w = .ok .skip w' := by simp [sU, h]
theorem BIF.dec {p : Prop} [Decidable p] {A B : Prop} (ha : p → A) (hb : ¬ p → B) : BIF (decide p) A B := by
  unfold BIF
  by_cases h : p
  · rw [decide_eq_true h]; exact ha h
  · rw [decide_eq_false h]; exact hb h
theorem BIF.mk {b : Bool} {A B : Prop} (ha : b = true → A) (hb : b = false → B) : BIF b A B := by
  cases b
  · exact hb rfl
  · exact ha rfl
theorem BIF.yes {b : Bool} {A B : Prop} (h : b = true) (ha : A) : BIF b A B := by subst h; exact ha
theorem BIF.no {b : Bool} {A B : Prop} (h : b = false) (hb : B) : BIF b A B := by subst h; exact hb
theorem CALLF.mk {b : Bool} {g : FuncId} {args args' : Array Value} {s : Sem Next} (hb : b = true) (ha : args = args') (h : FN P g args' w K E) : CALLF P b g args s w K E := by
  subst hb; subst ha; exact h
theorem NILCHK.mk {a : Addr} {K : Addr → Prop} (h : K a) : NILCHK (some a) K := h

theorem add_mk (b o n : Nat) : (⟨b, o, none⟩ : Addr).add n = ⟨b, o + n, none⟩ := by
  unfold Addr.add; split
  · rename_i h; subst h; rfl
  · rfl

theorem IDX.at {size : Nat} {a : Option Addr} {b o l : Nat} {i : Int} {K : Addr → Prop} (ha : a = some ⟨b, o, none⟩) (lo : 0 ≤ i) (hi : i < (l : Int)) (h : K ⟨b, o + i.toNat * size, none⟩) : IDX size a l i K :=
  ⟨lo, hi, _, ha, by rw [add_mk]; exact h⟩
theorem IDXA.mk' {size len : Nat} {b o : Nat} {i : Int} {K : Addr → Prop} (lo : 0 ≤ i) (hi : i < (len : Int)) (h : K ⟨b, o + i.toNat * size, none⟩) : IDXA size len ⟨b, o, none⟩ i K :=
  ⟨lo, hi, by rw [add_mk]; exact h⟩

/-! ### Loads and stores -/
def aggB (P : Program) (t : TypeId) : Option Bool :=
  match P.underlying t with
  | some (.struct _) | some (.array _ _) => some true
  | some _ => some false
  | none => none

theorem run_isAgg {t : TypeId} {b : Bool} (h : aggB P t = some b) (w : World) : (isAgg t).run P w = .ok b w := by
  unfold aggB at h
  split at h
  · rename_i hu; cases h; simp [isAgg, run_underlying hu]
  · rename_i hu; cases h; simp [isAgg, run_underlying hu]
  · rename_i d h1 h2 hu
    cases h
    simp only [isAgg, Sem.run_bind, run_underlying hu, Result.andThen]
    cases d <;> first | rfl | exact (h1 _ rfl).elim | exact (h2 _ _ rfl).elim
  · cases h

theorem run_ld {t : TypeId} {b o : Nat} {T : TypeId} {cs : List Value} {v : Value} (h : Blk w b T cs) (hv : cs[o]? = some v) (ht : aggB P t = some false) :
    (sV (Instr.loadAt t (.pointer (some ⟨b, o, none⟩)))).run P w = .ok (.value v) w := by
  refine run_sV ?_
  simp [Instr.loadAt, Instr.sureAddr, loadVar, run_isAgg ht, h.cell o, hv]

theorem ld {t : TypeId} {b o : Nat} {T : TypeId} {cs : List Value} {v : Value} (h : Blk w b T cs) (hv : cs[o]? = some v) (hk : K v w) (ht : aggB P t = some false := by kernel_rfl) :
    OPW P (sV (Instr.loadAt t (.pointer (some ⟨b, o, none⟩)))) w K E := OPW.of_run (run_ld h hv ht) hk

theorem run_loadCells {b : Nat} {T : TypeId} {cs : List Value} (h : Blk w b T cs) (o : Nat) : ∀ (n i : Nat) (acc : Array Value), o + i + n ≤ cs.length →
    (loadCellsFrom ⟨b, o, none⟩ i n acc).run P w = .ok (acc ++ ((cs.drop (o + i)).take n).toArray) w
  | 0, i, acc, _ => by simp [loadCellsFrom]
  | n + 1, i, acc, hl => by
    have hi : o + i < cs.length := by omega
    have hc : cs[o + i]? = some cs[o + i] := List.getElem?_eq_getElem hi
    simp only [loadCellsFrom, Sem.run_bind, add_mk, run_load, h.cell, hc, Result.andThen]
    rw [run_loadCells h o n (i + 1) _ (by omega)]
    congr 1
    apply Array.toList_inj.1
    rw [List.drop_eq_getElem_cons hi]
    simp [Nat.add_assoc]

theorem run_ldA {t : TypeId} {n : Nat} {b o : Nat} {T : TypeId} {cs vs : List Value} (h : Blk w b T cs) (hv : (cs.drop o).take n = vs) (hl : vs.length = n) (ht : aggB P t = some true) (hn : (P.info? t).map (·.size) = some n) :
    (sV (Instr.loadAt t (.pointer (some ⟨b, o, none⟩)))).run P w = .ok (.value (.agg vs.toArray)) w := by
  refine run_sV ?_
  obtain ⟨i, hi, hs⟩ : ∃ i, P.info? t = some i ∧ i.size = n := by
    cases hi : P.info? t with
    | none => simp [hi] at hn
    | some i => exact ⟨i, rfl, by simpa [hi] using hn⟩
  have hlen : o + 0 + n ≤ cs.length ∨ n = 0 := by
    have := congrArg List.length hv
    simp at this
    omega
  rcases hlen with hlen | hn0
  · simp [Instr.loadAt, Instr.sureAddr, loadVar, run_isAgg ht, sizeOf, typeInfo, hi, hs, loadCells, run_loadCells h o n 0 #[] hlen, hv]
  · subst hn0
    obtain rfl : vs = [] := by cases vs; rfl; simp at hl
    simp [Instr.loadAt, Instr.sureAddr, loadVar, run_isAgg ht, sizeOf, typeInfo, hi, hs, loadCells, loadCellsFrom]


theorem setRow_putB {b : Nat} {T : TypeId} {cs : List Value} (h : Blk w b T cs) (cs' : Array Value) : w.setRow b cs' = putB w b T cs'.toList := by
  unfold World.setRow putB
  congr 1
  apply Array.ext_getElem?
  intro k
  simp only [Array.getElem?_modify, Array.getElem?_setIfInBounds]
  by_cases e : b = k
  · subst e
    have hb := h.lt
    unfold Blk at h
    have h' : w.heap[b] = .cells cs.toArray T (0, 0) := by simpa [Array.getElem?_eq_getElem hb] using h
    simp [hb, h']
  · simp [e]

/-- vs laid over cs from o on. -/
def splice (cs : List Value) (o : Nat) (vs : List Value) : List Value := cs.take o ++ vs ++ cs.drop (o + vs.length)

theorem splice_length {cs : List Value} {o : Nat} {vs : List Value} (h : o + vs.length ≤ cs.length) : (splice cs o vs).length = cs.length := by
  simp [splice]; omega

theorem run_storeCells' {b o : Nat} {T : TypeId} {cs vs : List Value} (h : Blk w b T cs) (hl : o + vs.length ≤ cs.length) (h1 : ∀ v ∈ vs, v.oneCell' = true) :
    (storeCells ⟨b, o, none⟩ vs).run P w = .ok () (putB w b T (splice cs o vs)) := by
  have := run_storeCells_at (P := P) b o T vs 0 cs.toArray w h (by simpa using hl) h1
  rw [this, setRow_putB h]
  simp [splice]

theorem run_st {t : TypeId} {b o : Nat} {T : TypeId} {cs : List Value} {v : Value} (h : Blk w b T cs) (ho : o + v.cells.toList.length ≤ cs.length) (h1 : ∀ x ∈ v.cells.toList, x.oneCell' = true) (hn : (P.info? t).map (·.size) = some v.cells.size) :
    (sU (Instr.storeAt t (.pointer (some ⟨b, o, none⟩)) v)).run P w = .ok .skip (putB w b T (splice cs o v.cells.toList)) := by
  obtain ⟨i, hi, hs⟩ : ∃ i, P.info? t = some i ∧ i.size = v.cells.size := by
    cases hi : P.info? t with
    | none => simp [hi] at hn
    | some i => exact ⟨i, rfl, by simpa [hi] using hn⟩
  refine run_sU (u := ()) ?_
  simp [Instr.storeAt, Instr.sureAddr, storeVar, sizeOf, typeInfo, hi, hs, run_storeCells' h ho h1]

/-- A store of a value of one cell. -/
theorem st {t : TypeId} {b o : Nat} {T : TypeId} {cs : List Value} {v : Value} (h : Blk w b T cs) (ho : o < cs.length) (hk : ∀ w', Blk w' b T (cs.set o v) → Same [b] w w' → w'.heap.size = w.heap.size → K undef w')
    (h1 : v.oneCell' = true := by rfl) (hc : v.cells = #[v] := by rfl) (hn : (P.info? t).map (·.size) = some 1 := by kernel_rfl) :
    OPW P (sU (Instr.storeAt t (.pointer (some ⟨b, o, none⟩)) v)) w K E := by
  have hr := run_st (P := P) (t := t) (v := v) (o := o) h (by rw [hc]; simp; omega) (by rw [hc]; simpa using h1) (by rw [hc]; exact hn)
  refine OPW.of_skip hr ?_
  have e : splice cs o v.cells.toList = cs.set o v := by
    rw [hc]
    simp only [splice, List.set_eq_take_append_cons_drop, if_pos ho]
    simp
  rw [e]
  exact hk _ (putB_blk h) (putB_same _ _ _ _) (putB_size _ _ _ _)

/-- A store of a struct or an array. -/
theorem stA {t : TypeId} {b o : Nat} {T : TypeId} {cs vs : List Value} (h : Blk w b T cs) (ho : o + vs.length ≤ cs.length) (hk : ∀ w', Blk w' b T (splice cs o vs) → Same [b] w w' → w'.heap.size = w.heap.size → K undef w')
    (h1 : ∀ x ∈ vs, x.oneCell' = true) (hn : (P.info? t).map (·.size) = some vs.length) :
    OPW P (sU (Instr.storeAt t (.pointer (some ⟨b, o, none⟩)) (.agg vs.toArray))) w K E := by
  have hr := run_st (P := P) (t := t) (v := .agg vs.toArray) h (by simpa [Value.cells] using ho) (by simpa [Value.cells] using h1) (by simpa [Value.cells] using hn)
  refine OPW.of_skip hr ?_
  have e : (Value.agg vs.toArray).cells.toList = vs := by simp [Value.cells]
  rw [e]
  exact hk _ (putB_blk h) (putB_same _ _ _ _) (putB_size _ _ _ _)

/-! ### New variables -/
theorem boxR {T : TypeId} {v : Value} (hk : ∀ w' b, w.heap.size ≤ b → Blk w' b T v.cells.toList → Same [] w w' → w'.heap.size = w.heap.size + 1 → K (.pointer (some ⟨b, 0, none⟩)) w') : OPW P (sV (Instr.box T v)) w K E := by
  refine OPW.of_run (w' := w.alloc (.cells v.cells T)) (run_sV (v := .pointer (some ⟨w.heap.size, 0, none⟩)) ?_) (hk _ _ (Nat.le_refl _) (new_blk w T v.cells) (new_same _ _) (by simp))
  simp [Instr.box, newVar, newRow]

def zeroB (P : Program) (T : TypeId) : Option Value := match P.info? T with | some i => i.zero | none => none

theorem run_zero {T : TypeId} {z : Value} (h : zeroB P T = some z) (w : World) : (zeroValue T).run P w = .ok z w := by
  unfold zeroB at h
  split at h
  · rename_i i hi; simp [zeroValue, typeInfo, hi, h]
  · cases h

theorem allocR {T : TypeId} {z : Value} (hz : zeroB P T = some z) (hk : ∀ w' b, w.heap.size ≤ b → Blk w' b T z.cells.toList → Same [] w w' → w'.heap.size = w.heap.size + 1 → K (.pointer (some ⟨b, 0, none⟩)) w') : OPW P (sV (Instr.alloc T true (.tuple #[]))) w K E := by
  refine OPW.of_run (w' := w.alloc (.cells z.cells T)) (run_sV (v := .pointer (some ⟨w.heap.size, 0, none⟩)) ?_) (hk _ _ (Nat.le_refl _) (new_blk w T z.cells) (new_same _ _) (by simp))
  simp [Instr.alloc, run_zero hz, newVar, newRow]

/-! ### Slices -/
/-- What there is to know of a slice's element type: the element type, its cells, its bytes, its zero cells. -/
def slB (P : Program) (t : TypeId) : Option (TypeId × Nat × Nat × List Value) :=
  match P.underlying t with
  | some (.slice e) => (match P.info? e with | some i => (match i.zero with | some z => some (e, i.size, i.bytes, z.cells.toList) | none => none) | none => none)
  | _ => none

theorem slB_out {t e : TypeId} {sz by_ : Nat} {z : List Value} (h : slB P t = some (e, sz, by_, z)) :
    P.underlying t = some (.slice e) ∧ ∃ i zv, P.info? e = some i ∧ i.size = sz ∧ i.bytes = by_ ∧ i.zero = some zv ∧ zv.cells.toList = z := by
  unfold slB at h
  split at h
  · rename_i e' hu
    split at h
    · rename_i i hi
      split at h
      · rename_i zv hz
        cases h
        exact ⟨hu, i, zv, hi, rfl, rfl, hz, rfl⟩
      · cases h
    · cases h
  · cases h

/-- The slice value (a, n, c) reads as the cells xs: n elements of sz cells each, out of blocks of element type T. -/
def SRow (w : World) (T : TypeId) (sz : Nat) (a : Option Addr) (n c : Nat) (xs : List Value) : Prop :=
  xs.length = n * sz ∧ n ≤ c ∧ (c = 0 ∨ ∃ b o cs, a = some ⟨b, o, none⟩ ∧ Blk w b T cs ∧ o + c * sz ≤ cs.length ∧ (cs.drop o).take (n * sz) = xs)

/-- The block that a slice value may write to. -/
def ownB (a : Option Addr) (c : Nat) : List Nat := match a with | some a => if c = 0 then [] else [a.block] | none => []

theorem SRow.nil (w : World) (T : TypeId) (sz : Nat) (a : Option Addr) : SRow w T sz a 0 0 [] := ⟨by simp, Nat.le_refl _, .inl rfl⟩
theorem SRow.lt {T : TypeId} {sz : Nat} {a : Option Addr} {n c : Nat} {xs : List Value} (h : SRow w T sz a n c xs) : ∀ b ∈ ownB a c, b < w.heap.size := by
  intro b hb
  unfold ownB at hb
  rcases h.2.2 with h0 | ⟨b', o, cs, rfl, hb', _⟩
  · subst h0; split at hb <;> simp at hb
  · split at hb
    · rename_i a' he; cases he; split at hb
      · cases hb
      · rw [List.mem_singleton.1 hb]; exact hb'.lt
    · cases hb
theorem SRow.keep {S : List Nat} {T : TypeId} {sz : Nat} {a : Option Addr} {n c : Nat} {xs : List Value} (h : SRow w T sz a n c xs) (hs : Same S w w') (hn : ∀ b ∈ ownB a c, b ∉ S) : SRow w' T sz a n c xs := by
  refine ⟨h.1, h.2.1, ?_⟩
  rcases h.2.2 with h0 | ⟨b, o, cs, rfl, hb, hl, ht⟩
  · exact .inl h0
  · by_cases hc : c = 0
    · exact .inl hc
    · exact .inr ⟨b, o, cs, rfl, hs.blk hb (hn b (by simp [ownB, hc])), hl, ht⟩

theorem run_firstCells' {T : TypeId} {sz : Nat} {a : Option Addr} {n c : Nat} {xs : List Value} (h : SRow w T sz a n c xs) (n' c' : Nat) : (Builtin.firstCells sz n (.slice a n' c')).run P w = .ok xs.toArray w := by
  obtain ⟨hl, hnc, h⟩ := h
  rcases h with h0 | ⟨b, o, cs, rfl, hb, hcs, ht⟩
  · obtain rfl : n = 0 := by omega
    obtain rfl : xs = [] := List.eq_nil_of_length_eq_zero (by simpa using hl)
    cases a <;> simp [Builtin.firstCells, loadCells, loadCellsFrom]
  · have hle : n * sz ≤ c * sz := Nat.mul_le_mul_right _ hnc
    simp only [Builtin.firstCells, loadCells]
    rw [run_loadCells hb o (n * sz) 0 #[] (by omega)]
    simp [ht]

theorem splice_take {cur ys : List Value} {o m : Nat} (h : o + m + ys.length ≤ cur.length) : ((splice cur (o + m) ys).drop o).take (m + ys.length) = (cur.drop o).take m ++ ys := by
  have hA : ((cur.take (o + m)).drop o).length = m := by simp; omega
  have e : (cur.drop o).take m = (cur.take (o + m)).drop o := by rw [List.drop_take]; congr 1; omega
  rw [e]
  generalize hAA : (cur.take (o + m)).drop o = A at *
  have e2 : (splice cur (o + m) ys).drop o = (A ++ ys) ++ cur.drop (o + m + ys.length) := by
    unfold splice
    rw [List.append_assoc, List.drop_append_of_le_length (by simp; omega), hAA, List.append_assoc]
  have e3 : m + ys.length = (A ++ ys).length := by simp [hA]
  rw [e2, e3, List.take_left]

theorem SRow.cells {T : TypeId} {sz : Nat} {a : Option Addr} {n c : Nat} {xs : List Value} (h : SRow w T sz a n c xs) (hn : 0 < n) :
    ∃ b o, a = some ⟨b, o, none⟩ ∧ ∀ j u, xs[j]? = some u → w.cell? ((⟨b, o, none⟩ : Addr).add j) = some u := by
  obtain ⟨hl, hnc, h⟩ := h
  rcases h with h0 | ⟨b, o, cs, rfl, hb, hcs, ht⟩
  · omega
  · refine ⟨b, o, rfl, fun j u hu => ?_⟩
    rw [add_mk, hb.cell]
    rw [← ht, List.getElem?_take] at hu
    split at hu
    · rw [List.getElem?_drop] at hu; exact hu
    · cases hu

theorem appendR {t e T' ty : TypeId} {sz by_ : Nat} {z : List Value} {cs : Array Bool} {a a2 : Option Addr} {n c n2 c2 : Nat} {xs ys : List Value} (hs : slB P t = some (e, sz, by_, z)) (hr : SRow w e sz a n c xs) (hy : SRow w T' sz a2 n2 c2 ys)
    (hone : ∀ y ∈ ys, y.oneCell' = true) (hb : (n + n2) * by_ ≤ 140737488355328) (h63 : n + n2 ≤ maxLen) (hz : z.length = sz)
    (hk : ∀ w' a' c', SRow w' e sz a' (n + n2) c' (xs ++ ys) → Same (ownB a c) w w' → (∀ b ∈ ownB a' c', b ∈ ownB a c ∨ w.heap.size ≤ b) → K (.slice a' (n + n2) c') w') :
    OPW P (sBI .append #[t, t] ty cs #[.slice a n c, .slice a2 n2 c2]) w K E := by
  obtain ⟨hu, i, zv, hi, rfl, rfl, hzv, rfl⟩ := slB_out hs
  rw [sBI_append]
  have hlen : (xs ++ ys).length = (n + n2) * i.size := by rw [List.length_append, hr.1, hy.1, Nat.add_mul]
  have hnz : (P.underlying t matches some (.int _)) = false := by rw [hu]
  by_cases hroom : n + n2 ≤ c
  · by_cases hc : c = 0
    · obtain rfl : n = 0 := by omega
      obtain rfl : n2 = 0 := by omega
      subst hc
      obtain rfl : ys = [] := List.eq_nil_of_length_eq_zero (by simpa using hy.1)
      refine OPW.of_run (w' := w) (run_sV (v := .slice a 0 0) ?_) (hk w a 0 (by simpa using hr) (Same.refl _ _) fun b hb => .inl hb)
      have hf := run_firstCells' (P := P) hy 0 c2
      cases a <;> simp [Builtin.append_, run_underlying hu, sizeOf, typeInfo, hi, Builtin.lenOf, hf, storeCells]
    · obtain ⟨hl, hnc, h⟩ := hr
      rcases h with h0 | ⟨b, o, cur, rfl, hbk, hcs, ht⟩
      · exact absurd h0 hc
      · have hle : (n + n2) * i.size ≤ c * i.size := Nat.mul_le_mul_right _ hroom
        have hle' : n * i.size + n2 * i.size ≤ c * i.size := by rw [← Nat.add_mul]; exact hle
        have hst := run_storeCells' (P := P) (o := o + n * i.size) (vs := ys) hbk (by rw [hy.1]; omega) hone
        have hf := run_firstCells' (P := P) hy n2 c2
        refine OPW.of_run (w' := putB w b e (splice cur (o + n * i.size) ys)) (run_sV (v := .slice (some ⟨b, o, none⟩) (n + n2) c) ?_) (hk _ _ _ ⟨hlen, hroom, .inr ⟨b, o, _, rfl, putB_blk hbk, ?_, ?_⟩⟩ ((putB_same _ _ _ _).mono fun x hx => by simpa [ownB, hc] using hx) fun b hb => .inl hb)
        · simp [Builtin.append_, run_underlying hu, sizeOf, typeInfo, hi, Builtin.lenOf, hf, hroom, add_mk, hst]
        · rw [splice_length (by rw [hy.1]; omega)]; exact hcs
        · have := splice_take (cur := cur) (ys := ys) (o := o) (m := n * i.size) (by rw [hy.1]; omega)
          rw [hy.1, ← Nat.add_mul] at this
          rw [this, ht]
  · have hn2 : 0 < n2 := by have := hr.2.1; omega
    obtain ⟨b2, o2, rfl, hnews⟩ := hy.cells hn2
    have hge := grownCap_ge w (n + n2) c e
    have key : ∀ (s : Value) (a0 : Option Addr), (Builtin.append_ #[t, t] ty #[.slice a n c, .slice (some ⟨b2, o2, none⟩) n2 c2]).run P w =
        .ok (.slice (some ⟨w.heap.size, 0, none⟩) (n + n2) (grownCap w (n + n2) c e)) (w.drew.alloc (.cells (xs.toArray ++ ys.toArray ++ Builtin.zeroCells zv.cells (grownCap w (n + n2) c e - (n + n2))) e)) →
        OPW P (sV (Builtin.append_ #[t, t] ty #[.slice a n c, .slice (some ⟨b2, o2, none⟩) n2 c2])) w K E := by
      intro s a0 hrun
      refine OPW.of_run (run_sV hrun) (hk _ _ _ ⟨hlen, hge, .inr ⟨w.heap.size, 0, _, rfl, new_blk w.drew e _, ?_, ?_⟩⟩ ((new_same w.drew _).nil.of_drew) fun b hb => .inr ?_)
      · have hzl : zv.cells.size = i.size := by rw [← hz]; simp
        simp only [Array.toList_append, List.length_append, Array.length_toList, size_zeroCells, hzl, hr.1, hy.1, ← Nat.add_mul, Nat.zero_add]
        have : n + n2 + (grownCap w (n + n2) c e - (n + n2)) = grownCap w (n + n2) c e := by omega
        rw [this]
        exact Nat.le_refl _
      · simp only [Array.toList_append, List.drop_zero]
        rw [← hlen]
        exact List.take_left
      · unfold ownB at hb
        simp only at hb
        split at hb
        · cases hb
        · rw [List.mem_singleton.1 hb]; exact Nat.le_refl _
    cases a with
    | none =>
      obtain ⟨rfl, rfl⟩ : n = 0 ∧ c = 0 := by
        rcases hr.2.2 with h0 | ⟨b, o, cs, h, _⟩
        · exact ⟨by have := hr.2.1; omega, h0⟩
        · cases h
      obtain rfl : xs = [] := List.eq_nil_of_length_eq_zero (by simpa using hr.1)
      refine key .nilFunc none ?_
      simp only [Nat.zero_add] at *
      rw [run_append_nil (P := P) w t ty e i zv hu hi hzv ⟨b2, o2, none⟩ n2 c2 ys hy.1 hnews (by omega) (by simp only [maxLen] at h63; omega) (by omega)]
      simp
    | some ad =>
      obtain ⟨ab, ao, asp⟩ := ad
      by_cases hc : c = 0
      · have hn0 : n = 0 := by have := hr.2.1; omega
        obtain rfl : xs = [] := List.eq_nil_of_length_eq_zero (by rw [hr.1, hn0]; simp)
        exact key .nilFunc none (run_append_grow (P := P) w t ty e i zv hu hi hzv _ n c [] (by rw [hn0]; simp) (fun j u hu => by simp at hu) _ n2 c2 ys hy.1 hnews (by omega) (by simp only [maxLen] at h63; omega) (growslice_fits (by omega) hb))
      · rcases hr.2.2 with h0 | ⟨b, o, cur, he, hbk, hcs, ht⟩
        · exact absurd h0 hc
        · cases he
          refine key .nilFunc none (run_append_grow (P := P) w t ty e i zv hu hi hzv _ n c xs hr.1 (fun j u hu => ?_) _ n2 c2 ys hy.1 hnews (by omega) (by simp only [maxLen] at h63; omega) (growslice_fits (by omega) hb))
          rw [add_mk, hbk.cell]
          rw [← ht, List.getElem?_take] at hu
          split at hu
          · rw [List.getElem?_drop] at hu; exact hu
          · cases hu


/-! ### Slice expressions -/
theorem slB_elem {t e : TypeId} {sz by_ : Nat} {z : List Value} (h : slB P t = some (e, sz, by_, z)) : P.underlying t = some (.slice (P.elem t)) ∧ P.elem t = e ∧ ∀ w, (sizeOf (P.elem t)).run P w = .ok sz w := by
  obtain ⟨hu, i, zv, hi, rfl, _⟩ := slB_out h
  have he : P.elem t = e := by simp [Program.elem, hu]
  exact ⟨by rw [he]; exact hu, he, fun w => by rw [he]; simp [sizeOf, typeInfo, hi]⟩

section
variable {t e : TypeId} {sz by_ : Nat} {z : List Value} (hs : slB P t = some (e, sz, by_, z)) {a : Option Addr} {n c : Nat}
include hs
theorem run_slLH {kl kh : IntKind} {l h : Int} (h0 : 0 ≤ l) (h1 : l ≤ h) (h2 : h ≤ c) (w : World) :
    (sV (Instr.sliceAt t (.slice a n c) (some (.int kl l)) (some (.int kh h)) none)).run P w = .ok (.value (sliced a l.toNat h.toNat c sz)) w := by
  obtain ⟨hu, he, hz⟩ := slB_elem hs
  exact run_sV (by rw [run_sliceAt_slice w t _ _ _ _ hu, run_slice_lh w t a n c hu kl kh l h h0 h1 h2, hz]; rfl)
theorem run_slH {kh : IntKind} {h : Int} (h0 : 0 ≤ h) (h2 : h ≤ c) (w : World) :
    (sV (Instr.sliceAt t (.slice a n c) none (some (.int kh h)) none)).run P w = .ok (.value (sliced a 0 h.toNat c sz)) w := by
  obtain ⟨hu, he, hz⟩ := slB_elem hs
  exact run_sV (by rw [run_sliceAt_slice w t _ _ _ _ hu, run_slice_h w t a n c hu kh h h0 h2, hz]; rfl)
theorem run_slL {kl : IntKind} {l : Int} (h0 : 0 ≤ l) (h1 : l ≤ n) (w : World) :
    (sV (Instr.sliceAt t (.slice a n c) (some (.int kl l)) none none)).run P w = .ok (.value (sliced a l.toNat n c sz)) w := by
  obtain ⟨hu, he, hz⟩ := slB_elem hs
  exact run_sV (by rw [run_sliceAt_slice w t _ _ _ _ hu, run_slice_l w t a n c hu kl l h0 h1, hz]; rfl)
theorem run_slHM {kh km : IntKind} {h m : Int} (h0 : 0 ≤ h) (h2 : h ≤ m) (h3 : m ≤ c) (w : World) :
    (sV (Instr.sliceAt t (.slice a n c) none (some (.int kh h)) (some (.int km m)))).run P w = .ok (.value (sliced a 0 h.toNat m.toNat sz)) w := by
  obtain ⟨hu, he, hz⟩ := slB_elem hs
  exact run_sV (by rw [run_sliceAt_slice w t _ _ _ _ hu, run_slice_hm w t a n c hu kh km h m h0 h2 h3, hz]; rfl)
theorem run_slLHM {kl kh km : IntKind} {l h m : Int} (h0 : 0 ≤ l) (h1 : l ≤ h) (h2 : h ≤ m) (h3 : m ≤ c) (w : World) :
    (sV (Instr.sliceAt t (.slice a n c) (some (.int kl l)) (some (.int kh h)) (some (.int km m)))).run P w = .ok (.value (sliced a l.toNat h.toNat m.toNat sz)) w := by
  obtain ⟨hu, he, hz⟩ := slB_elem hs
  exact run_sV (by rw [run_sliceAt_slice w t _ _ _ _ hu, run_slice_lhm w t a n c hu kl kh km l h m h0 h1 h2 h3, hz]; rfl)
end

/-- What a slice expression yields. -/
theorem sliced_eq (a : Option Addr) (l h m sz : Nat) : sliced a l h m sz = .slice (if m = l then a else a.map (·.add (l * sz))) (h - l) (m - l) := rfl

theorem SRow.sub {T : TypeId} {sz : Nat} {a : Option Addr} {n c : Nat} {xs : List Value} (hr : SRow w T sz a n c xs) {l h m : Nat} (h1 : l ≤ h) (h2 : h ≤ n) (h3 : h ≤ m) (h4 : m ≤ c) :
    SRow w T sz (if m = l then a else a.map (·.add (l * sz))) (h - l) (m - l) ((xs.drop (l * sz)).take ((h - l) * sz)) := by
  obtain ⟨hl, hnc, hr⟩ := hr
  have e1 : l * sz + (h - l) * sz = h * sz := by rw [← Nat.add_mul]; congr 1; omega
  have e2 : h * sz ≤ n * sz := Nat.mul_le_mul_right _ h2
  refine ⟨by simp [hl]; omega, by omega, ?_⟩
  by_cases hm : m = l
  · exact .inl (by omega)
  · rw [if_neg hm]
    rcases hr with h0 | ⟨b, o, cs, rfl, hb, hcs, ht⟩
    · omega
    · refine .inr ⟨b, o + l * sz, cs, by simp [add_mk], hb, ?_, ?_⟩
      · have : l * sz + (m - l) * sz = m * sz := by rw [← Nat.add_mul]; congr 1; omega
        have : m * sz ≤ c * sz := Nat.mul_le_mul_right _ h4
        omega
      · rw [← ht, List.drop_take, List.take_take, List.drop_drop]
        congr 1
        omega

theorem ownB_sub {a : Option Addr} {c l m sz : Nat} (h1 : l ≤ m) (h2 : m ≤ c) : ∀ b ∈ ownB (if m = l then a else a.map (·.add (l * sz))) (m - l), b ∈ ownB a c := by
  intro b hb
  cases a with
  | none => split at hb <;> simp [ownB] at hb
  | some ad =>
    obtain ⟨x, o, sp⟩ := ad
    by_cases hm : m = l
    · rw [if_pos hm] at hb; simp [ownB, hm] at hb
    · rw [if_neg hm] at hb
      have e : ((⟨x, o, sp⟩ : Addr).add (l * sz)).block = x := by unfold Addr.add; split <;> rfl
      simp only [ownB, Option.map_some] at hb ⊢
      rw [if_neg (by omega)] at hb
      rw [if_neg (by omega)]
      rw [e] at hb
      exact hb

/-! ### make, slice literals -/
theorem makeR1 {t e : TypeId} {by_ : Nat} {z0 : Value} (hs : slB P t = some (e, 1, by_, [z0])) {kl kc : IntKind} {l c : Int} (h0 : 0 ≤ l) (hlc : l ≤ c) (hb : (by_ : Int) * c ≤ 281474976710656) (h63 : c ≤ 9223372036854775807)
    (hk : ∀ w' b, w.heap.size ≤ b → Blk w' b e (List.replicate c.toNat z0) → Same [] w w' → w'.heap.size = w.heap.size + 1 → K (.slice (some ⟨b, 0, none⟩) l.toNat c.toNat) w') :
    OPW P (sV (Instr.makeSlice t (.int kl l) (.int kc c))) w K E := by
  obtain ⟨hu, i, zv, hi, hsz, rfl, hz, hzc⟩ := slB_out hs
  refine OPW.of_run (run_sV (run_make w t e i zv hu hi hz kl kc l c h0 hlc hb h63)) (hk _ _ (Nat.le_refl _) ?_ (new_same _ _) (by simp))
  have : (madeCells zv.cells (c.toNat * i.size)).toList = List.replicate c.toNat z0 := by
    have hzs : zv.cells = #[z0] := Array.toList_inj.1 hzc
    rw [hsz, hzs, Nat.mul_one]
    unfold madeCells
    apply List.ext_getElem
    · simp
    · intro k h1 h2; simp [Nat.mod_one]
  rw [← this]
  exact new_blk w e _

theorem foldl_set (off : Nat) : ∀ (l : List Value) (k : Nat) (cells : Array Value), off + k + l.length ≤ cells.size →
    ((l.zipIdx k).foldl (fun cs x => cs.setIfInBounds (off + x.2) x.1) cells).toList = splice cells.toList (off + k) l
  | [], k, cells, _ => by simp [splice]
  | v :: l, k, cells, h => by
    simp only [List.length_cons] at h
    rw [List.zipIdx_cons, List.foldl_cons, foldl_set off l (k + 1) _ (by simp; omega)]
    unfold splice
    have h1 : off + k < cells.toList.length := by simp; omega
    simp only [Array.toList_setIfInBounds, List.length_cons]
    have e := list_seg_step cells.toList (off + k) v l (by simp; omega)
    have e' : off + (k + 1) = off + k + 1 := by omega
    have e2 : off + k + (l.length + 1) = off + k + 1 + l.length := by omega
    rw [e', e2]
    rw [e2] at e
    exact e

theorem fill_one {place : Nat → Option (Nat × Nat)} {cells : Array Value} {i off sz : Nat} {v : Value} {rest : List (Nat × Value)} (hp : place i = some (off, sz)) (hv : v.cells.size = sz) (hl : off + sz ≤ cells.size) :
    Instr.fill place cells ((i, v) :: rest) = Instr.fill place (splice cells.toList off v.cells.toList).toArray rest := by
  simp only [Instr.fill, hp]
  rw [if_neg (by simp [hv]; omega)]
  congr 1
  apply Array.toList_inj.1
  rw [← Array.foldl_toList, Array.toList_zipIdx]
  have := foldl_set off v.cells.toList 0 cells (by simp [hv]; omega)
  simpa using this

theorem litR1 {t e : TypeId} {sz by_ : Nat} {z : List Value} (hs : slB P t = some (e, sz, by_, z)) {v : Value} (hv : v.cells.size = sz) (hsz : sz ≤ 16777216) (hp : 0 < sz)
    (hk : ∀ w' b, w.heap.size ≤ b → Blk w' b e v.cells.toList → Same [] w w' → w'.heap.size = w.heap.size + 1 → K (.slice (some ⟨b, 0, none⟩) 1 1) w') :
    OPW P (sV (Instr.buildSlice t 1 #[(0, v)])) w K E := by
  obtain ⟨hu, i, zv, hi, rfl, rfl, hz, rfl⟩ := slB_out hs
  refine OPW.of_run (w' := w.alloc (.cells v.cells e)) (run_sV (v := .slice (some ⟨w.heap.size, 0, none⟩) 1 1) ?_) (hk _ _ (Nat.le_refl _) (new_blk w e _) (new_same _ _) (by simp))
  have hn : ¬ 16777216 < i.size := by omega
  have hf : ∀ (zz : Array Value), Instr.fill (fun k => some (k * i.size, i.size)) ((Array.range i.size).map (zz[· % zz.size]!)) [(0, v)] = some v.cells := by
    intro zz
    rw [fill_one (off := 0) (sz := i.size) (by simp) hv (by simp)]
    simp only [Instr.fill]
    congr 1
    apply Array.toList_inj.1
    simp [splice, hv]
  have h0 : ¬ i.size = 0 := by omega
  have := hf zv.cells
  simp [Instr.buildSlice, run_underlying hu, sizeOf, typeInfo, hi, hn, h0, zeroValue, hz, newRow, this]

end
end Go.Lift
