/-
  What came in, opened: slices of whatever, as rows of an encoder. It speaks of no program.
-/
import Derived.Test.YtdabjchdmieegaaRules10
import Derived.Deep.Slices
import Derived.ProofKit
import Derived.OpenShut
import Derived.ShutString
import Derived.ChangeOld
import Derived.Below
set_option linter.unusedVariables false
set_option linter.unusedSimpArgs false
set_option linter.unnecessarySimpa false
namespace Go.Lift
open Go Go.RowKit Go.ChangeShapes Go.WideShapes Go.Deep

theorem cell_lt {w : World} {b o : Nat} {sp : Option Nat} {v : Value} (h : w.cell? ⟨b, o, sp⟩ = some v) : b < w.heap.size := by
  rcases Nat.lt_or_ge b w.heap.size with h' | h'
  · exact h'
  · simp [World.cell?, Array.getElem?_eq_none h'] at h

theorem mkIRow {w : World} {sz : Nat} {a : Addr} {n c : Nat} {xs : List Value} (hsz : 0 < sz) (hl : xs.length = n * sz) (hc : n ≤ c) (h : ∀ j u, xs[j]? = some u → w.cell? (a.add j) = some u) : IRow w sz (some a) n c xs := by
  refine ⟨hl, hc, ?_⟩
  rcases Nat.eq_zero_or_pos n with h0 | hp
  · exact .inl h0
  · obtain ⟨b, o, sp⟩ := a
    have h0 : 0 < xs.length := by rw [hl]; exact Nat.mul_pos hp hsz
    have hx := h 0 _ (List.getElem?_eq_getElem h0)
    have hsp : sp = none := by simpa [Addr.add] using World.cell?_spot hx
    subst hsp
    exact .inr ⟨b, o, rfl, cell_lt (by simpa [add_mk] using hx), fun j u hu => by rw [← add_mk]; exact h j u hu⟩

theorem enc_at {α : Type} {f : α → List Value} {sz : Nat} (hf : ∀ x, (f x).length = sz) {X : List α} {i j : Nat} {x : α} (hx : X[i]? = some x) (hj : j < sz) : (X.flatMap f)[i * sz + j]? = (f x)[j]? := by
  have hg := congrArg (fun l => l[j]?) (enc_get hf hx)
  simpa only [List.getElem?_take, List.getElem?_drop, if_pos hj] using hg

section
variable {P : Program} {H : Type} {enc : TypeId × Value → H} {w : World} {base : Nat} {held : Bool}

/-- A slice that came in: its elements as the encoder lays them. -/
theorem openRow {α : Type} [Inhabited α] {f : α → List Value} {sz : Nat} {t e : TypeId} {Q : α → Prop} (hf : ∀ x, (f x).length = sz) (hsz : 0 < sz) (ht : P.underlying t = some (.slice e)) (hc : P.cellsOf e = sz)
    (ho : ∀ (fuel : Nat) (cs : List Value) (x : DataW H × List MemPlace), DataW.trod enc P w base (fun _ => true) held fuel e cs = some x → ∃ a, cs = f a ∧ Q a)
    {fuel : Nat} {cs : List Value} {x : DataW H × List MemPlace} (h : DataW.trod enc P w base (fun _ => true) held fuel t cs = some x) :
    ∃ (d : D) (X : List α), cs = [sl d] ∧ IRow w sz d.1 d.2.1 d.2.2 (X.flatMap f) ∧ ∀ x ∈ X, Q x := by
  rcases open_slice (P := P) ht h with ⟨rfl, _⟩ | ⟨a, len, cap, m, n, D0, Pl, rfl, _, hl, _, hm, _, hx⟩
  · exact ⟨(none, 0, 0), [], rfl, (SRow.nil w 0 sz none).seen, by simp⟩
  · simp only [if_true] at hm
    subst hm
    rw [hc] at hx
    obtain ⟨q, hq⟩ := choose_lt (α := α) (n := len) (p := fun i x => w.cells? base (a.add (i * sz)) sz = some (f x) ∧ Q x) (fun i hi => by
      obtain ⟨cs', h1, h2⟩ := hx i (by omega)
      obtain ⟨d, rfl, hd⟩ := ho _ _ _ h2
      exact ⟨d, h1, hd⟩)
    refine ⟨(some a, len, m), (List.range len).map q, rfl, mkIRow hsz (by rw [enc_len hf]; simp) hl fun j u hu => ?_, fun x hx' => ?_⟩
    · have hj : j < len * sz := by
        rcases Nat.lt_or_ge j (len * sz) with h | h
        · exact h
        · rw [List.getElem?_eq_none (by rw [enc_len hf]; simpa using h)] at hu; simp at hu
      have hi : j / sz < len := (Nat.div_lt_iff_lt_mul hsz).2 hj
      have hg : ((List.range len).map q)[j / sz]? = some (q (j / sz)) := by simp [hi]
      obtain ⟨_, h6, hc'⟩ := World.cells?_some (hq _ hi).1
      have hr := hc' (j % sz) (Nat.mod_lt _ hsz)
      rw [add_add] at hr
      have e : j / sz * sz + j % sz = j := by rw [Nat.mul_comm]; exact Nat.div_add_mod j sz
      have := enc_at hf hg (Nat.mod_lt j hsz)
      rw [e] at hr this
      rw [hr, ← this, hu]
    · obtain ⟨i, hi, rfl⟩ := List.mem_map.1 hx'
      exact (hq i (List.mem_range.1 hi)).2

def i64v (x : Int) : List Value := [.int .i64 x]
def u8v (x : Int) : List Value := [.int .u8 x]
theorem i64v_len (x : Int) : (i64v x).length = 1 := rfl
theorem u8v_len (x : Int) : (u8v x).length = 1 := rfl
theorem i64v_one (x : Int) : ∀ y ∈ i64v x, y.oneCell' = true := by intro y hy; simp [i64v] at hy; subst hy; rfl

theorem open_i64 {t : TypeId} (ht : P.underlying t = some (.int .i64)) {fuel : Nat} {cs : List Value} {x : DataW H × List MemPlace} (h : DataW.trod enc P w base (fun _ => true) held fuel t cs = some x) :
    ∃ n : Int, cs = i64v n ∧ -9223372036854775808 ≤ n ∧ n < 9223372036854775808 := by
  obtain ⟨n, h1, _, h2⟩ := DataW.trod_int (P := P) ht h
  refine ⟨n, h1, ?_⟩
  have h : IntKind.i64.min ≤ n ∧ n ≤ IntKind.i64.max := by simpa [Lit.wf] using h2
  have e1 : IntKind.i64.min = -9223372036854775808 := rfl
  have e2 : IntKind.i64.max = 9223372036854775807 := rfl
  omega
theorem open_u8 {t : TypeId} (ht : P.underlying t = some (.int .u8)) {fuel : Nat} {cs : List Value} {x : DataW H × List MemPlace} (h : DataW.trod enc P w base (fun _ => true) held fuel t cs = some x) :
    ∃ n : Int, cs = u8v n ∧ 0 ≤ n ∧ n < 256 := by
  obtain ⟨n, h1, _, h2⟩ := DataW.trod_int (P := P) ht h
  refine ⟨n, h1, ?_⟩
  have h : IntKind.u8.min ≤ n ∧ n ≤ IntKind.u8.max := by simpa [Lit.wf] using h2
  have e1 : IntKind.u8.min = 0 := rfl
  have e2 : IntKind.u8.max = 255 := rfl
  omega
end

section
variable {P : Program} {K : Value → World → Prop} {E : List PanicEntry → World → Prop} {g w w' : World} {L R : List Asn}
/-- Load the i-th struct of what came in. -/
theorem ilA {α : Type} {f : α → List Value} {t : TypeId} {sz : Nat} {d : D} {X : List α} {x : α} {i : Int} (h : IRow w sz d.1 d.2.1 d.2.2 (X.flatMap f)) (hf : ∀ x, (f x).length = sz) (lo : 0 ≤ i) (hx : X[i.toNat]? = some x) (hk : K (.agg (f x).toArray) w) (hs : 0 < sz := by decide)
    (ht : aggB P t = some true := by kernel_rfl) (hn : (P.info? t).map (·.size) = some sz := by kernel_rfl) :
    IDX sz d.1 d.2.1 i fun a => OPW P (sV (Instr.loadAt t (.pointer (some a)))) w K E := by
  have hi := (List.getElem?_eq_some_iff.1 hx).1
  have hl := h.elen hf hs
  obtain ⟨b, o, e, hc⟩ := h.cells (by omega)
  refine IDX.at e lo (by omega) (ldAC (fun j u hu => ?_) (hf x) hk ht hn)
  have hj : j < sz := by rw [← hf x]; exact (List.getElem?_eq_some_iff.1 hu).1
  have := hc (i.toNat * sz + j) u (by rw [enc_at hf hx hj]; exact hu)
  rw [add_mk] at this
  rw [Nat.add_assoc]; exact this
theorem ilF {α : Type} {f : α → List Value} {t : TypeId} {sz j : Nat} {d : D} {X : List α} {x : α} {v : Value} {i : Int} (h : IRow w sz d.1 d.2.1 d.2.2 (X.flatMap f)) (hf : ∀ x, (f x).length = sz) (lo : 0 ≤ i) (hx : X[i.toNat]? = some x) (hv : (f x)[j]? = some v) (hk : K v w) (hs : 0 < sz := by decide)
    (ht : aggB P t = some false := by kernel_rfl) :
    IDX sz d.1 d.2.1 i fun a => OPW P (sV (Instr.loadAt t (.pointer (some (a.add j))))) w K E := by
  have hi := (List.getElem?_eq_some_iff.1 hx).1
  have hl := h.elen hf hs
  have hj : j < sz := by rw [← hf x]; exact (List.getElem?_eq_some_iff.1 hv).1
  obtain ⟨b, o, e, hc⟩ := h.cells (by omega)
  refine IDX.at e lo (by omega) ?_
  rw [add_mk, Nat.add_assoc]
  refine ldC ?_ hk ht
  have := hc (i.toNat * sz + j) v (by rw [enc_at hf hx hj]; exact hv)
  rw [add_mk] at this
  exact this
theorem ilF0 {α : Type} {f : α → List Value} {t : TypeId} {sz : Nat} {d : D} {X : List α} {x : α} {v : Value} {i : Int} (h : IRow w sz d.1 d.2.1 d.2.2 (X.flatMap f)) (hf : ∀ x, (f x).length = sz) (lo : 0 ≤ i) (hx : X[i.toNat]? = some x) (hv : (f x)[0]? = some v) (hk : K v w) (hs : 0 < sz := by decide)
    (ht : aggB P t = some false := by kernel_rfl) :
    IDX sz d.1 d.2.1 i fun a => OPW P (sV (Instr.loadAt t (.pointer (some a)))) w K E := by
  obtain ⟨lo, hi, a, ha, hk⟩ := ilF (P := P) (t := t) (j := 0) (E := E) h hf lo hx hv hk hs ht
  have e : ∀ a : Addr, a.add 0 = a := fun a => by simp [Addr.add]
  rw [e] at hk
  exact ⟨lo, hi, a, ha, hk⟩
end

theorem calls_of_FN {P : Program} {f : FuncId} {args : Array Value} {w : World} (h : FN P f args w (fun v w' => v = .bool true ∧ Same [] w w') (fun _ _ => False)) :
    Calls P f args w fun e w' => e = .returned (.bool true) ∧ Below w.heap.size w w' :=
  Calls.mono h.out fun e w' he => match e, he with
    | .returned v, ⟨h1, h2⟩ => ⟨by rw [h1], h2.below (Nat.le_refl _) (by simp)⟩
end Go.Lift
