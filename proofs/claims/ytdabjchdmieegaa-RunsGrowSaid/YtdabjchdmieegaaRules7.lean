/-
  Rules for slices that lie in a known block; small facts. It speaks of no program.
-/
import Derived.Test.YtdabjchdmieegaaSep
import Derived.Lib.Overlaps
set_option linter.unusedVariables false
set_option linter.unusedSimpArgs false
set_option linter.unnecessarySimpa false
namespace Go.Lift
open Go

theorem wrap64 {x : Int} (h0 : -9223372036854775808 ≤ x) (h1 : x < 9223372036854775808) : IntKind.wrap .i64 x = x := by
  rw [IntKind.wrap_i64]; omega
theorem take_two {cs : List Value} {k : Nat} {x y : Value} (h0 : cs[k]? = some x) (h1 : cs[k + 1]? = some y) : (cs.drop k).take 2 = [x, y] := by
  apply List.ext_getElem?
  intro i
  match i with
  | 0 => simpa [List.getElem?_take] using h0
  | 1 => simpa [List.getElem?_take] using h1
  | i + 2 => simp [List.getElem?_take]; omega

theorem sliced_in {b o l h m sz : Nat} (hlm : m ≠ l) : sliced (some ⟨b, o, none⟩) l h m sz = .slice (some ⟨b, o + l * sz, none⟩) (h - l) (m - l) := by
  rw [sliced_eq, if_neg hlm]; simp [add_mk]
theorem sliced_in' (b o l h m sz : Nat) : ∃ o', (m ≠ l → o' = o + l * sz) ∧ (m = l → o' = o) ∧ sliced (some ⟨b, o, none⟩) l h m sz = .slice (some ⟨b, o', none⟩) (h - l) (m - l) := by
  by_cases hm : m = l
  · exact ⟨o, fun h => absurd hm h, fun _ => rfl, by rw [sliced_eq, if_pos hm]⟩
  · exact ⟨_, fun _ => rfl, fun h => absurd h hm, sliced_in hm⟩

section
variable {P : Program} {K : Value → World → Prop} {E : List PanicEntry → World → Prop} {w w' : World}

theorem SRow.ofGet {T : TypeId} {sz b o n c : Nat} {cur xs : List Value} (hb : Blk w b T cur) (hc : o + c * sz ≤ cur.length) (hn : n ≤ c) (hl : xs.length = n * sz) (hg : ∀ k, k < n * sz → cur[o + k]? = xs[k]?) :
    SRow w T sz (some ⟨b, o, none⟩) n c xs := by
  refine ⟨hl, hn, .inr ⟨b, o, cur, rfl, hb, hc, ?_⟩⟩
  have hle : n * sz ≤ c * sz := Nat.mul_le_mul_right _ hn
  apply List.ext_getElem?
  intro k
  rw [List.getElem?_take, List.getElem?_drop]
  split
  · exact hg k ‹_›
  · rw [List.getElem?_eq_none (by omega)]

/-- A row with room: its block. -/
theorem SRow.whole {T : TypeId} {sz : Nat} {a : Option Addr} {n c : Nat} {xs : List Value} (h : SRow w T sz a n c xs) (hc : 0 < c) :
    ∃ b o cs, a = some ⟨b, o, none⟩ ∧ ownB a c = [b] ∧ Blk w b T cs ∧ o + c * sz ≤ cs.length ∧ ∀ j, j < n * sz → cs[o + j]? = xs[j]? := by
  obtain ⟨hl, hnc, h⟩ := h
  rcases h with h0 | ⟨b, o, cs, rfl, hb, hcs, ht⟩
  · omega
  · refine ⟨b, o, cs, rfl, by simp [ownB]; omega, hb, hcs, fun j hj => ?_⟩
    rw [← ht, List.getElem?_take, if_pos hj, List.getElem?_drop]

/-- append(s, v...) where s has room, in its block. -/
theorem appendInR {t e ty : TypeId} {sz by_ : Nat} {z : List Value} {cs : Array Bool} {b o n c : Nat} {cur : List Value} {a2 : Option Addr} {n2 c2 : Nat} {ys : List Value} (hs : slB P t = some (e, sz, by_, z))
    (hb : Blk w b e cur) (hl : o + c * sz ≤ cur.length) (hroom : n + n2 ≤ c) (hy : IRow w sz a2 n2 c2 ys) (hone : ∀ y ∈ ys, y.oneCell' = true)
    (hk : ∀ w', Blk w' b e (splice cur (o + n * sz) ys) → Same [b] w w' → w'.heap.size = w.heap.size → K (.slice (some ⟨b, o, none⟩) (n + n2) c) w') :
    OPW P (sBI .append #[t, t] ty cs #[.slice (some ⟨b, o, none⟩) n c, .slice a2 n2 c2]) w K E := by
  obtain ⟨hu, i, zv, hi, rfl, rfl, hzv, rfl⟩ := slB_out hs
  rw [sBI_append]
  have hle : (n + n2) * i.size ≤ c * i.size := Nat.mul_le_mul_right _ hroom
  have hle' : n * i.size + n2 * i.size ≤ c * i.size := by rw [← Nat.add_mul]; exact hle
  have hst := run_storeCells' (P := P) (o := o + n * i.size) (vs := ys) hb (by rw [hy.1]; omega) hone
  have hf := run_firstCellsI (P := P) hy n2 c2
  refine OPW.of_run (w' := putB w b e (splice cur (o + n * i.size) ys)) (run_sV (v := .slice (some ⟨b, o, none⟩) (n + n2) c) ?_) (hk _ (putB_blk hb) (putB_same _ _ _ _) (putB_size _ _ _ _))
  simp [Builtin.append_, run_underlying hu, sizeOf, typeInfo, hi, Builtin.lenOf, hf, hroom, add_mk, hst]

/-! ### Slice expressions as operations -/
variable {t e : TypeId} {sz by_ : Nat} {z : List Value} {a : Option Addr} {n c : Nat}
theorem slL (hs : slB P t = some (e, sz, by_, z)) {kl : IntKind} {l : Int} (h0 : 0 ≤ l) (h1 : l ≤ n) (hk : K (sliced a l.toNat n c sz) w) : OPW P (sV (Instr.sliceAt t (.slice a n c) (some (.int kl l)) none none)) w K E := OPW.of_run (run_slL hs h0 h1 w) hk
theorem slH (hs : slB P t = some (e, sz, by_, z)) {kh : IntKind} {h : Int} (h0 : 0 ≤ h) (h2 : h ≤ c) (hk : K (sliced a 0 h.toNat c sz) w) : OPW P (sV (Instr.sliceAt t (.slice a n c) none (some (.int kh h)) none)) w K E := OPW.of_run (run_slH hs h0 h2 w) hk
theorem slLH (hs : slB P t = some (e, sz, by_, z)) {kl kh : IntKind} {l h : Int} (h0 : 0 ≤ l) (h1 : l ≤ h) (h2 : h ≤ c) (hk : K (sliced a l.toNat h.toNat c sz) w) : OPW P (sV (Instr.sliceAt t (.slice a n c) (some (.int kl l)) (some (.int kh h)) none)) w K E := OPW.of_run (run_slLH hs h0 h1 h2 w) hk
theorem slHM (hs : slB P t = some (e, sz, by_, z)) {kh km : IntKind} {h m : Int} (h0 : 0 ≤ h) (h2 : h ≤ m) (h3 : m ≤ c) (hk : K (sliced a 0 h.toNat m.toNat sz) w) : OPW P (sV (Instr.sliceAt t (.slice a n c) none (some (.int kh h)) (some (.int km m)))) w K E := OPW.of_run (run_slHM hs h0 h2 h3 w) hk
theorem HELD.slL {S : World → World → Prop} {φ : Value → Prop} (hs : slB P t = some (e, sz, by_, z)) (hS : S w w) {kl : IntKind} {l : Int} (h0 : 0 ≤ l) (h1 : l ≤ n) (hk : φ (sliced a l.toNat n c sz)) : HELD P S (sV (Instr.sliceAt t (.slice a n c) (some (.int kl l)) none none)) w φ := ⟨_, hS, fun w' _ => run_slL hs h0 h1 w', hk⟩
theorem HELD.slH {S : World → World → Prop} {φ : Value → Prop} (hs : slB P t = some (e, sz, by_, z)) (hS : S w w) {kh : IntKind} {h : Int} (h0 : 0 ≤ h) (h2 : h ≤ c) (hk : φ (sliced a 0 h.toNat c sz)) : HELD P S (sV (Instr.sliceAt t (.slice a n c) none (some (.int kh h)) none)) w φ := ⟨_, hS, fun w' _ => run_slH hs h0 h2 w', hk⟩
theorem HELD.slLH {S : World → World → Prop} {φ : Value → Prop} (hs : slB P t = some (e, sz, by_, z)) (hS : S w w) {kl kh : IntKind} {l h : Int} (h0 : 0 ≤ l) (h1 : l ≤ h) (h2 : h ≤ c) (hk : φ (sliced a l.toNat h.toNat c sz)) : HELD P S (sV (Instr.sliceAt t (.slice a n c) (some (.int kl l)) (some (.int kh h)) none)) w φ := ⟨_, hS, fun w' _ => run_slLH hs h0 h1 h2 w', hk⟩
theorem HELD.slHM {S : World → World → Prop} {φ : Value → Prop} (hs : slB P t = some (e, sz, by_, z)) (hS : S w w) {kh km : IntKind} {h m : Int} (h0 : 0 ≤ h) (h2 : h ≤ m) (h3 : m ≤ c) (hk : φ (sliced a 0 h.toNat m.toNat sz)) : HELD P S (sV (Instr.sliceAt t (.slice a n c) none (some (.int kh h)) (some (.int km m)))) w φ := ⟨_, hS, fun w' _ => run_slHM hs h0 h2 h3 w', hk⟩

theorem sliced_zero (a : Option Addr) (h m sz : Nat) : sliced a 0 h m sz = .slice a h m := by
  rw [sliced_eq]
  cases a with
  | none => simp
  | some x => 
    obtain ⟨b, o, s⟩ := x
    simp [Addr.add]

/-- A region without writes. -/
theorem DRAW.eq {w : World} {A : (World → World → Prop) → World → Prop} (h : A (fun a b => a = b) (drew w)) : DRAW w A := .rel _ (fun _ _ _ h k => h.trans k) h
theorem DRAW.any {w : World} {A : (World → World → Prop) → World → Prop} (h : A (fun _ _ => True) (drew w)) : DRAW w A := .rel _ (fun _ _ _ h k => trivial) h

theorem SRow.sub0 {T : TypeId} {a : Option Addr} {xs : List Value} (h : SRow w T sz a n c xs) {m : Nat} (hm : m ≤ n) : SRow w T sz a m c (xs.take (m * sz)) := by
  refine ⟨by rw [List.length_take, h.1]; have : m * sz ≤ n * sz := Nat.mul_le_mul_right _ hm; omega, Nat.le_trans hm h.2.1, ?_⟩
  rcases h.2.2 with h0 | ⟨b, o, cs, rfl, hb, hcs, ht⟩
  · exact .inl h0
  · refine .inr ⟨b, o, cs, rfl, hb, hcs, ?_⟩
    rw [← ht, List.take_take]
    congr 1
    have : m * sz ≤ n * sz := Nat.mul_le_mul_right _ hm
    omega
end
end Go.Lift
