/-
  Rows of structs: a list laid out by an encoder of constant width. It speaks of no program.
-/
import Derived.Test.YtdabjchdmieegaaRules7
set_option linter.unusedVariables false
set_option linter.unusedSimpArgs false
set_option linter.unnecessarySimpa false
namespace Go.Lift
open Go

section
variable {α : Type} {f : α → List Value} {sz : Nat}
theorem enc_len (hf : ∀ x, (f x).length = sz) (L : List α) : (L.flatMap f).length = L.length * sz := by
  induction L with
  | nil => simp
  | cons x L ih => simp only [List.flatMap_cons, List.length_append, hf, ih, List.length_cons, Nat.add_mul]; omega
theorem enc_drop (hf : ∀ x, (f x).length = sz) (L : List α) (i : Nat) : (L.flatMap f).drop (i * sz) = (L.drop i).flatMap f := by
  induction L generalizing i with
  | nil => simp
  | cons x L ih =>
    cases i with
    | zero => simp
    | succ i =>
      simp only [List.flatMap_cons, List.drop_succ_cons]
      have : (i + 1) * sz = (f x).length + i * sz := by rw [hf, Nat.add_mul]; omega
      rw [this, ← List.drop_drop, List.drop_left, ih]
theorem enc_take (hf : ∀ x, (f x).length = sz) (L : List α) (i : Nat) : (L.flatMap f).take (i * sz) = (L.take i).flatMap f := by
  induction L generalizing i with
  | nil => simp
  | cons x L ih =>
    cases i with
    | zero => simp
    | succ i =>
      simp only [List.flatMap_cons, List.take_succ_cons]
      have : (i + 1) * sz = (f x).length + i * sz := by rw [hf, Nat.add_mul]; omega
      rw [this, List.take_length_add_append, ih]
theorem enc_get (hf : ∀ x, (f x).length = sz) {L : List α} {i : Nat} {x : α} (h : L[i]? = some x) : ((L.flatMap f).drop (i * sz)).take sz = f x := by
  obtain ⟨hi, e⟩ := List.getElem?_eq_some_iff.1 h
  rw [enc_drop hf, List.drop_eq_getElem_cons hi, List.flatMap_cons, e, ← hf x, List.take_left]
theorem enc_set (hf : ∀ x, (f x).length = sz) {L : List α} {i : Nat} (x : α) (hi : i < L.length) : splice (L.flatMap f) (i * sz) (f x) = (L.set i x).flatMap f := by
  unfold splice
  have e : i * sz + (f x).length = (i + 1) * sz := by rw [hf, Nat.add_mul]; omega
  rw [e, enc_take hf, enc_drop hf, List.set_eq_take_append_cons_drop, if_pos hi]
  simp [List.flatMap_append, List.flatMap_cons]
theorem enc_one (hf : ∀ x, ∀ y ∈ f x, y.oneCell' = true) (L : List α) : ∀ y ∈ L.flatMap f, y.oneCell' = true := by
  intro y hy
  obtain ⟨x, _, hx⟩ := List.mem_flatMap.1 hy
  exact hf x y hx
end

theorem take_one {xs : List Value} {k : Nat} {v : Value} (h : xs[k]? = some v) : (xs.drop k).take 1 = [v] := by
  obtain ⟨hk, e⟩ := List.getElem?_eq_some_iff.1 h
  rw [List.drop_eq_getElem_cons hk, List.take_succ_cons, List.take_zero, e]

def two (f : Int × Int) : List Value := [.int .i64 f.1, .int .i64 f.2]
theorem two_len (x : Int × Int) : (two x).length = 2 := rfl
theorem two_one (x : Int × Int) : ∀ y ∈ two x, y.oneCell' = true := by intro y hy; simp [two] at hy; rcases hy with rfl | rfl <;> rfl

/-- The i-th element's cells, in a row's block. -/
theorem SRow.at {w : World} {T : TypeId} {sz : Nat} {b o n c : Nat} {xs vs : List Value} (h : SRow w T sz (some ⟨b, o, none⟩) n c xs) {k m : Nat} (hk : k + m ≤ n * sz) (hv : (xs.drop k).take m = vs) (hm : 0 < m) :
    ∃ cs, Blk w b T cs ∧ (cs.drop (o + k)).take m = vs ∧ o + k + m ≤ cs.length := by
  rcases h.2.2 with h0 | ⟨b', o', cs, e, hb, hcs, ht⟩
  · have := h.2.1; subst h0; obtain rfl : n = 0 := by omega
    omega
  · cases e
    have : n * sz ≤ c * sz := Nat.mul_le_mul_right _ h.2.1
    refine ⟨cs, hb, ?_, by omega⟩
    rw [← hv, ← ht, List.drop_take, List.take_take, List.drop_drop]
    congr 1
    omega
theorem SRow.put {w : World} {T : TypeId} {sz : Nat} {b o n c : Nat} {xs vs : List Value} (h : SRow w T sz (some ⟨b, o, none⟩) n c xs) {k : Nat} (hk : k + vs.length ≤ n * sz) (hm : 0 < vs.length) :
    ∃ cs, Blk w b T cs ∧ o + k + vs.length ≤ cs.length ∧ ownB (some ⟨b, o, none⟩) c = [b] ∧ ∀ w', Blk w' b T (splice cs (o + k) vs) → SRow w' T sz (some ⟨b, o, none⟩) n c (splice xs k vs) := by
  rcases h.2.2 with h0 | ⟨b', o', cs, e, hb, hcs, ht⟩
  · have := h.2.1; subst h0; obtain rfl : n = 0 := by omega
    omega
  · cases e
    have hle : n * sz ≤ c * sz := Nat.mul_le_mul_right _ h.2.1
    have hlx := h.1
    refine ⟨cs, hb, by omega, ?_, fun w' hb' => ⟨by rw [splice_length (by omega)]; exact hlx, h.2.1, .inr ⟨b, o, _, rfl, hb', by rw [splice_length (by omega)]; exact hcs, ?_⟩⟩⟩
    · unfold ownB; simp only; rw [if_neg]; intro e; subst e; omega
    · apply List.ext_getElem?
      intro j
      rw [List.getElem?_take, List.getElem?_drop, splice_get (by omega)]
      split
      · rw [splice_get (by omega)]
        have hx : ∀ j, j < n * sz → cs[o + j]? = xs[j]? := fun j hj => by rw [← ht, List.getElem?_take, if_pos hj, List.getElem?_drop]
        by_cases h1 : j < k
        · rw [if_pos (by omega), if_pos h1, hx _ (by omega)]
        · rw [if_neg (by omega), if_neg h1]
          by_cases h2 : j < k + vs.length
          · rw [if_pos (by omega), if_pos h2]; exact congrArg (fun t => vs[t]?) (by omega)
          · rw [if_neg (by omega), if_neg h2, hx _ (by omega)]
      · rw [List.getElem?_eq_none (by rw [splice_length (by omega)]; omega)]

section
variable {P : Program} {K : Value → World → Prop} {E : List PanicEntry → World → Prop} {g w w' : World} {L R : List Asn}

/-- Load a struct out of a row. -/
theorem rldA {t : TypeId} {m b o n c k : Nat} {T : TypeId} {sz : Nat} {xs vs : List Value} (h : SRow w T sz (some ⟨b, o, none⟩) n c xs) (hk : k + m ≤ n * sz) (hv : (xs.drop k).take m = vs) (hm : 0 < m) (hl : vs.length = m) (hK : K (.agg vs.toArray) w)
    (ht : aggB P t = some true := by kernel_rfl) (hn : (P.info? t).map (·.size) = some m := by kernel_rfl) :
    OPW P (sV (Instr.loadAt t (.pointer (some ⟨b, o + k, none⟩)))) w K E := by
  obtain ⟨cs, hb, hc, _⟩ := h.at hk hv hm
  exact ldA hb hc hl hK ht hn
/-- Load a cell out of a row. -/
theorem rld {t : TypeId} {b o n c k : Nat} {T : TypeId} {sz : Nat} {xs : List Value} {v : Value} (h : SRow w T sz (some ⟨b, o, none⟩) n c xs) (hk : k < n * sz) (hv : xs[k]? = some v) (hK : K v w)
    (ht : aggB P t = some false := by kernel_rfl) :
    OPW P (sV (Instr.loadAt t (.pointer (some ⟨b, o + k, none⟩)))) w K E := by
  obtain ⟨cs, hb, hc, _⟩ := h.at (k := k) (m := 1) (vs := [v]) (by omega) (take_one hv) (by omega)
  refine ld hb ?_ hK ht
  have := congrArg (fun l => l[0]?) hc
  simpa [List.getElem?_take] using this
theorem HELD.rld {S : World → World → Prop} {φ : Value → Prop} {t : TypeId} {b o n c k : Nat} {T : TypeId} {sz : Nat} {xs : List Value} {v : Value} (hS : S w w) (h : ∀ w', S w w' → SRow w' T sz (some ⟨b, o, none⟩) n c xs) (hk : k < n * sz) (hv : xs[k]? = some v) (hφ : φ v)
    (ht : aggB P t = some false := by kernel_rfl) :
    HELD P S (sV (Instr.loadAt t (.pointer (some ⟨b, o + k, none⟩)))) w φ := by
  refine ⟨v, hS, fun w' hw => ?_, hφ⟩
  have h := h w' hw
  obtain ⟨cs, hb, hc, _⟩ := h.at (k := k) (m := 1) (vs := [v]) (by omega) (take_one hv) (by omega)
  refine run_ld hb ?_ ht
  have := congrArg (fun l => l[0]?) hc
  simpa [List.getElem?_take] using this
theorem HELD.rldA {S : World → World → Prop} {φ : Value → Prop} {t : TypeId} {m b o n c k : Nat} {T : TypeId} {sz : Nat} {xs vs : List Value} (hS : S w w) (h : ∀ w', S w w' → SRow w' T sz (some ⟨b, o, none⟩) n c xs) (hk : k + m ≤ n * sz) (hv : (xs.drop k).take m = vs) (hm : 0 < m) (hl : vs.length = m) (hφ : φ (.agg vs.toArray))
    (ht : aggB P t = some true := by kernel_rfl) (hn : (P.info? t).map (·.size) = some m := by kernel_rfl) :
    HELD P S (sV (Instr.loadAt t (.pointer (some ⟨b, o + k, none⟩)))) w φ := by
  refine ⟨_, hS, fun w' hw => ?_, hφ⟩
  obtain ⟨cs, hb, hc, _⟩ := (h w' hw).at hk hv hm
  exact run_ldA hb hc hl ht hn
/-- Store a struct into a row. -/
theorem rstA {t : TypeId} {b o n c k : Nat} {T : TypeId} {sz : Nat} {xs vs : List Value} (h : SRow w T sz (some ⟨b, o, none⟩) n c xs) (hk : k + vs.length ≤ n * sz) (hm : 0 < vs.length) (h1 : ∀ x ∈ vs, x.oneCell' = true) (hn : (P.info? t).map (·.size) = some vs.length)
    (hK : ∀ w', SRow w' T sz (some ⟨b, o, none⟩) n c (splice xs k vs) → Same (ownB (some ⟨b, o, none⟩) c) w w' → w'.heap.size = w.heap.size → K undef w') :
    OPW P (sU (Instr.storeAt t (.pointer (some ⟨b, o + k, none⟩)) (.agg vs.toArray))) w K E := by
  obtain ⟨cs, hb, hc, ho, hp⟩ := h.put hk hm
  exact stA hb hc (fun w' hb' hs hz => hK w' (hp w' hb') (by rw [ho]; exact hs) hz) h1 hn
/-- Store a cell into a row. -/
theorem rst {t : TypeId} {b o n c k : Nat} {T : TypeId} {sz : Nat} {xs : List Value} {v : Value} (h : SRow w T sz (some ⟨b, o, none⟩) n c xs) (hk : k < n * sz)
    (hK : ∀ w', SRow w' T sz (some ⟨b, o, none⟩) n c (xs.set k v) → Same (ownB (some ⟨b, o, none⟩) c) w w' → w'.heap.size = w.heap.size → K undef w')
    (h1 : v.oneCell' = true := by rfl) (hc : v.cells = #[v] := by rfl) (hn : (P.info? t).map (·.size) = some 1 := by kernel_rfl) :
    OPW P (sU (Instr.storeAt t (.pointer (some ⟨b, o + k, none⟩)) v)) w K E := by
  obtain ⟨cs, hb, hl, ho, hp⟩ := h.put (vs := [v]) (k := k) (by simp only [List.length_singleton]; omega) (by simp)
  simp only [List.length_singleton] at hl
  have hlx := h.1
  have e1 : ∀ (l : List Value) (j : Nat), j < l.length → splice l j [v] = l.set j v := fun l j hj => by
    simp only [splice, List.set_eq_take_append_cons_drop, if_pos hj]; simp
  refine st hb (by omega) (fun w' hb' hs hz => hK w' ?_ (by rw [ho]; exact hs) hz) h1 hc hn
  have := hp w' (by rw [e1 _ _ (by omega)]; exact hb')
  rwa [e1 _ _ (by omega)] at this

/-- The address of an element of a row with elements. -/
theorem IDX.row {T : TypeId} {sz : Nat} {a : Option Addr} {n c : Nat} {xs : List Value} {i : Int} {K : Addr → Prop} (h : SRow w T sz a n c xs) (lo : 0 ≤ i) (hi : i < (n : Int)) (hk : ∀ b o, a = some ⟨b, o, none⟩ → K ⟨b, o + i.toNat * sz, none⟩) : IDX sz a n i K := by
  obtain ⟨b, o, cs, e, _⟩ := h.open (by omega)
  exact IDX.at e lo hi (hk b o e)
end
end Go.Lift
