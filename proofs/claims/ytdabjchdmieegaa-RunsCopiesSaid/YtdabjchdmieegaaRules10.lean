/-
  More rules over worlds as parts: elements stored, append, make. It speaks of no program.
-/
import Derived.Test.YtdabjchdmieegaaRules9
set_option linter.unusedVariables false
set_option linter.unusedSimpArgs false
set_option linter.unnecessarySimpa false
namespace Go.Lift
open Go

theorem enc_setj {α : Type} {f : α → List Value} {sz : Nat} (hf : ∀ x, (f x).length = sz) {X : List α} {i j : Nat} {x x' : α} {v : Value} (hx : X[i]? = some x) (hj : j < sz) (hv : (f x).set j v = f x') : (X.flatMap f).set (i * sz + j) v = (X.set i x').flatMap f := by
  have hi := (List.getElem?_eq_some_iff.1 hx).1
  have hle : (i + 1) * sz ≤ X.length * sz := Nat.mul_le_mul_right _ (by omega)
  rw [Nat.add_mul] at hle
  rw [← enc_set hf x' hi, ← hv]
  apply List.ext_getElem?
  intro k
  have hl := enc_len hf X
  rw [splice_get (by rw [List.length_set, hf, hl]; omega), List.length_set, hf]
  have hg := enc_get hf hx
  by_cases h1 : i * sz + j = k
  · subst h1
    rw [List.getElem?_set_self (by rw [hl]; omega), if_neg (by omega), if_pos (by omega)]
    have : i * sz + j - i * sz = j := by omega
    rw [this, List.getElem?_set_self (by rw [hf]; exact hj)]
  · rw [List.getElem?_set_ne h1]
    by_cases h2 : k < i * sz
    · rw [if_pos h2]
    · rw [if_neg h2]
      by_cases h3 : k < i * sz + sz
      · rw [if_pos h3, List.getElem?_set_ne (by omega), ← hg, List.getElem?_take, if_pos (by omega), List.getElem?_drop]
        exact congrArg (fun t => (X.flatMap f)[t]?) (by omega)
      · rw [if_neg h3]

section
variable {P : Program} {K : Value → World → Prop} {E : List PanicEntry → World → Prop} {g w w' : World} {L R : List Asn}

/-- Store into a cell of the i-th struct of a row. -/
theorem elSt {α : Type} {f : α → List Value} {t : TypeId} {T : TypeId} {sz j : Nat} {d : D} {X : List α} {x x' : α} {v : Value} {i : Int} (h : SAT g w L) (hu : Upd (row T sz d (X.flatMap f)) (row T sz d ((X.set i.toNat x').flatMap f)) L R) (hf : ∀ x, (f x).length = sz) (lo : 0 ≤ i) (hx : X[i.toNat]? = some x) (hj : j < sz) (hv : (f x).set j v = f x')
    (hk : ∀ w', SAT g w' R → K undef w') (h1 : v.oneCell' = true := by rfl) (hc : v.cells = #[v] := by rfl) (hn : (P.info? t).map (·.size) = some 1 := by kernel_rfl) :
    IDX sz d.1 d.2.1 i fun a => OPW P (sU (Instr.storeAt t (.pointer (some (a.add j))) v)) w K E := by
  obtain ⟨M, hd, _⟩ := hu.del
  have h0 := h.srow hd
  have hi := (List.getElem?_eq_some_iff.1 hx).1
  have hl := h0.elen hf (by omega)
  refine IDX.row h0 lo (by omega) fun b o e => ?_
  rw [e] at h0
  rw [add_mk, Nat.add_assoc]
  have hle : (i.toNat + 1) * sz ≤ d.2.1 * sz := Nat.mul_le_mul_right _ (by omega)
  rw [Nat.add_mul] at hle
  refine rst h0 (k := i.toNat * sz + j) (by omega) (fun w' hr hs _ => hk w' (h.turnRow hu (by rw [e]; exact hs) ?_ fun b hb => .inl hb)) h1 hc hn
  rw [enc_setj hf hx hj hv, ← e] at hr
  exact hr
theorem elSt0 {α : Type} {f : α → List Value} {t : TypeId} {T : TypeId} {sz : Nat} {d : D} {X : List α} {x x' : α} {v : Value} {i : Int} (h : SAT g w L) (hu : Upd (row T sz d (X.flatMap f)) (row T sz d ((X.set i.toNat x').flatMap f)) L R) (hf : ∀ x, (f x).length = sz) (lo : 0 ≤ i) (hx : X[i.toNat]? = some x) (hj : 0 < sz) (hv : (f x).set 0 v = f x')
    (hk : ∀ w', SAT g w' R → K undef w') (h1 : v.oneCell' = true := by rfl) (hc : v.cells = #[v] := by rfl) (hn : (P.info? t).map (·.size) = some 1 := by kernel_rfl) :
    IDX sz d.1 d.2.1 i fun a => OPW P (sU (Instr.storeAt t (.pointer (some a)) v)) w K E := by
  obtain ⟨lo, hi, a, ha, hk⟩ := elSt (P := P) (t := t) (j := 0) (E := E) h hu hf lo hx hj hv hk h1 hc hn
  have e : ∀ a : Addr, a.add 0 = a := fun a => by simp [Addr.add]
  rw [e] at hk
  exact ⟨lo, hi, a, ha, hk⟩
/-- Store a struct as the i-th of a row. -/
theorem elStA {α : Type} {f : α → List Value} {t : TypeId} {T : TypeId} {sz : Nat} {d : D} {X : List α} {x' : α} {i : Int} (h : SAT g w L) (hu : Upd (row T sz d (X.flatMap f)) (row T sz d ((X.set i.toNat x').flatMap f)) L R) (hf : ∀ x, (f x).length = sz) (hone : ∀ x, ∀ y ∈ f x, y.oneCell' = true) (lo : 0 ≤ i) (hi : i < (X.length : Int)) (hs : 0 < sz)
    (hk : ∀ w', SAT g w' R → K undef w') (hn : (P.info? t).map (·.size) = some sz := by kernel_rfl) :
    IDX sz d.1 d.2.1 i fun a => OPW P (sU (Instr.storeAt t (.pointer (some a)) (.agg (f x').toArray))) w K E := by
  obtain ⟨M, hd, _⟩ := hu.del
  have h0 := h.srow hd
  have hl := h0.elen hf hs
  refine IDX.row h0 lo (by omega) fun b o e => ?_
  rw [e] at h0
  have hle : (i.toNat + 1) * sz ≤ d.2.1 * sz := Nat.mul_le_mul_right _ (by omega)
  rw [Nat.add_mul] at hle
  refine rstA h0 (k := i.toNat * sz) (by rw [hf]; omega) (by rw [hf]; exact hs) (hone x') (by rw [hf]; exact hn) fun w' hr hs _ => hk w' (h.turnRow hu (by rw [e]; exact hs) ?_ fun b hb => .inl hb)
  rw [enc_set hf x' (by omega), ← e] at hr
  exact hr

/-- append, of whatever reads as ys. -/
theorem sapp {t e ty : TypeId} {sz by_ : Nat} {z : List Value} {cs : Array Bool} {d d2 : D} {xs ys : List Value} (hs : slB P t = some (e, sz, by_, z)) (h : SAT g w (row e sz d xs :: R)) (hy : IRow w sz d2.1 d2.2.1 d2.2.2 ys)
    (hone : ∀ y ∈ ys, y.oneCell' = true) (hb : (d.2.1 + d2.2.1) * by_ ≤ 140737488355328) (h63 : d.2.1 + d2.2.1 ≤ maxLen) (hz : z.length = sz)
    (hk : ∀ w' a' c', SAT g w' (row e sz (a', d.2.1 + d2.2.1, c') (xs ++ ys) :: R) → K (.slice a' (d.2.1 + d2.2.1) c') w') :
    OPW P (sBI .append #[t, t] ty cs #[sl d, sl d2]) w K E :=
  appendI hs (h.srow (.head _)) hy hone hb h63 hz fun w' a' c' hr hs' ho => hk w' a' c' (h.turnRow (d' := (a', d.2.1 + d2.2.1, c')) (.head _) hs' hr ho)

/-- make, of elements of one cell. -/
theorem smake1 {t e : TypeId} {by_ : Nat} {z0 : Value} (hs : slB P t = some (e, 1, by_, [z0])) (h : SAT g w L) {kl kc : IntKind} {l : Int} (h0 : 0 ≤ l) (hb : (by_ : Int) * l ≤ 281474976710656) (h63 : l ≤ 9223372036854775807)
    (hk : ∀ w' b, SAT g w' (row e 1 (some ⟨b, 0, none⟩, l.toNat, l.toNat) (List.replicate l.toNat z0) :: L) → K (.slice (some ⟨b, 0, none⟩) l.toNat l.toNat) w') :
    OPW P (sV (Instr.makeSlice t (.int kl l) (.int kc l))) w K E :=
  makeR1 hs h0 (Int.le_refl _) hb h63 fun w' b hb' hblk hs' _ => hk w' b (h.newRow hs' (SRow.ofGet hblk (by simp) (Nat.le_refl _) (by simp) fun k hk => by simp) (by
    intro x hx
    simp only [ownB] at hx
    split at hx
    · cases hx
    · rw [List.mem_singleton.1 hx]; exact hb'))
theorem SAT.nilRow (h : SAT g w L) (T : TypeId) (sz : Nat) : SAT g w (row T sz (none, 0, 0) [] :: L) := h.newRow (d := (none, 0, 0)) (Same.refl _ _) (SRow.nil w T sz none) (by simp [ownB])
end
def bl (b : Bool) : List Value := [.bool b]
theorem bl_len (b : Bool) : (bl b).length = 1 := rfl
theorem bl_one (b : Bool) : ∀ y ∈ bl b, y.oneCell' = true := by intro y hy; simp [bl] at hy; subst hy; rfl
theorem enc_rep {α : Type} {f : α → List Value} {x : α} {v : Value} (h : f x = [v]) (n : Nat) : (List.replicate n x).flatMap f = List.replicate n v := by
  induction n with
  | zero => rfl
  | succ n ih => simp [List.replicate_succ, h, ih]
end Go.Lift
