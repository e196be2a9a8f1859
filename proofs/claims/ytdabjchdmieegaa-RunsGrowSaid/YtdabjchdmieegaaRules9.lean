/-
  Rules over worlds as parts. It speaks of no program.
-/
import Derived.Test.YtdabjchdmieegaaRules8
set_option linter.unusedVariables false
set_option linter.unusedSimpArgs false
set_option linter.unnecessarySimpa false
namespace Go.Lift
open Go

section
variable {g w w' : World} {L R : List Asn}
theorem SAT.at (h : SAT g w L) (A : Asn) (hd : Del A L R := by repeat first | exact Del.head _ | apply Del.tail) : SAT g w (A :: R) := h.del hd
theorem SAT.at2 (h : SAT g w L) (A B : Asn) {M : List Asn} (hd : Del A L M := by repeat first | exact Del.head _ | apply Del.tail) (he : Del B M R := by repeat first | exact Del.head _ | apply Del.tail) : SAT g w (A :: B :: R) := h.take (.cons hd (.cons he (.nil _)))
theorem SAT.back {A : Asn} (h : SAT g w (A :: R)) (hd : Del A L R) : SAT g w L := h.perm hd.perm
theorem SAT.rowAt (h : SAT g w L) {T : TypeId} {sz : Nat} (d : D) {xs : List Value} (hd : Del (row T sz d xs) L R := by repeat first | exact Del.head _ | apply Del.tail) : SRow w T sz d.1 d.2.1 d.2.2 xs := h.srow hd
theorem SAT.celAt (h : SAT g w L) (b : Nat) {T : TypeId} {cs : List Value} (hd : Del (cel b T cs) L R := by repeat first | exact Del.head _ | apply Del.tail) : Blk w b T cs := h.blk hd
theorem SRow.elen {α : Type} {f : α → List Value} {T : TypeId} {sz : Nat} {a : Option Addr} {n c : Nat} {X : List α} (h : SRow w T sz a n c (X.flatMap f)) (hf : ∀ x, (f x).length = sz) (hs : 0 < sz) : n = X.length := by
  have := h.1
  rw [enc_len hf] at this
  exact (Nat.eq_of_mul_eq_mul_right hs this).symm
theorem IRow.elen {α : Type} {f : α → List Value} {sz : Nat} {a : Option Addr} {n c : Nat} {X : List α} (h : IRow w sz a n c (X.flatMap f)) (hf : ∀ x, (f x).length = sz) (hs : 0 < sz) : n = X.length := by
  have := h.1
  rw [enc_len hf] at this
  exact (Nat.eq_of_mul_eq_mul_right hs this).symm
end

section
variable {P : Program} {K : Value → World → Prop} {E : List PanicEntry → World → Prop} {g w w' : World} {L R : List Asn}

theorem sstA {t : TypeId} {b : Nat} {T : TypeId} {cs vs : List Value} (h : SAT g w L) (hk : ∀ w', SAT g w' R → K undef w') (hu : Upd (cel b T cs) (cel b T vs) L R := by repeat first | exact Upd.head _ | apply Upd.tail) (hl : vs.length = cs.length := by rfl)
    (h1 : vs.all Value.oneCell' = true := by rfl) (hn : (P.info? t).map (·.size) = some vs.length := by kernel_rfl) :
    OPW P (sU (Instr.storeAt t (.pointer (some ⟨b, 0, none⟩)) (.agg vs.toArray))) w K E := by
  obtain ⟨M, hd, _⟩ := hu.del
  refine stA (o := 0) (h.blk hd) (by omega) (fun w' hb hs _ => hk w' (h.turnCel hu hs ?_)) (fun x hx => List.all_eq_true.1 h1 x hx) hn
  have : splice cs 0 vs = vs := by unfold splice; simp [hl]
  rwa [this] at hb

theorem sbox {T : TypeId} {v : Value} {cs : List Value} (h : SAT g w L) (hc : v.cells.toList = cs := by rfl) (hk : ∀ w' b, SAT g w' (cel b T cs :: L) → K (.pointer (some ⟨b, 0, none⟩)) w') : OPW P (sV (Instr.box T v)) w K E :=
  boxR fun w' b hb hblk hs _ => hk w' b (h.newCel hs (hc ▸ hblk) hb)
theorem salloc {T : TypeId} {z : Value} {cs : List Value} (h : SAT g w L) (hz : zeroB P T = some z) (hc : z.cells.toList = cs := by rfl) (hk : ∀ w' b, SAT g w' (cel b T cs :: L) → K (.pointer (some ⟨b, 0, none⟩)) w') : OPW P (sV (Instr.alloc T true (.tuple #[]))) w K E :=
  allocR hz fun w' b hb hblk hs _ => hk w' b (h.newCel hs (hc ▸ hblk) hb)

/-- A new variable, set at once. -/
theorem newA {T t : TypeId} {vs : List Value} {K2 : Nat → Value → World → Prop} {E2 : Nat → List PanicEntry → World → Prop} (h : SAT g w L) (hk : ∀ w' x, SAT g w' (cel x T vs :: L) → K2 x undef w')
    (hz : (zeroB P T).map (·.cells.size) = some vs.length := by kernel_rfl) (h1 : vs.all Value.oneCell' = true := by rfl) (hn : (P.info? t).map (·.size) = some vs.length := by kernel_rfl) :
    OPW P (sV (Instr.alloc T true (.tuple #[]))) w (fun r w1 => ∃ x : Nat, r = .pointer (some ⟨x, 0, none⟩) ∧ OPW P (sU (Instr.storeAt t (.pointer (some ⟨x, 0, none⟩)) (.agg vs.toArray))) w1 (K2 x) (E2 x)) E := by
  cases hzz : zeroB P T with
  | none => simp [hzz] at hz
  | some z =>
    refine salloc h hzz rfl fun w1 x h1' => ⟨x, rfl, sstA h1' (fun w2 h2 => hk w2 x h2) (.head _) ?_ h1 hn⟩
    simpa [hzz] using hz.symm
/-- .. of one cell. -/
theorem newS {T t : TypeId} {v : Value} {K2 : Nat → Value → World → Prop} {E2 : Nat → List PanicEntry → World → Prop} (h : SAT g w L) (hk : ∀ w' x, SAT g w' (cel x T [v] :: L) → K2 x undef w')
    (hz : (zeroB P T).map (·.cells.size) = some 1 := by kernel_rfl) (h1 : v.oneCell' = true := by rfl) (hc : v.cells = #[v] := by rfl) (hn : (P.info? t).map (·.size) = some 1 := by kernel_rfl) :
    OPW P (sV (Instr.alloc T true (.tuple #[]))) w (fun r w1 => ∃ x : Nat, r = .pointer (some ⟨x, 0, none⟩) ∧ OPW P (sU (Instr.storeAt t (.pointer (some ⟨x, 0, none⟩)) v)) w1 (K2 x) (E2 x)) E := by
  cases hzz : zeroB P T with
  | none => simp [hzz] at hz
  | some z =>
    have hl : z.cells.toList.length = 1 := by simpa [hzz] using hz
    refine salloc h hzz rfl fun w1 x h1' => ⟨x, rfl, st (h1'.blk (.head _)) (by omega) (fun w2 hb hs _ => hk w2 x (h1'.turnCel (.head _) hs ?_)) h1 hc hn⟩
    obtain ⟨y, hy⟩ := List.length_eq_one_iff.1 hl
    rw [hy] at hb
    exact hb

/-- Load the i-th struct of a row. -/
theorem elA {α : Type} {f : α → List Value} {t : TypeId} {T : TypeId} {sz : Nat} {d : D} {X : List α} {x : α} {i : Int} (h : SRow w T sz d.1 d.2.1 d.2.2 (X.flatMap f)) (hf : ∀ x, (f x).length = sz) (lo : 0 ≤ i) (hx : X[i.toNat]? = some x) (hk : K (.agg (f x).toArray) w) (hs : 0 < sz := by decide)
    (ht : aggB P t = some true := by kernel_rfl) (hn : (P.info? t).map (·.size) = some sz := by kernel_rfl) :
    IDX sz d.1 d.2.1 i fun a => OPW P (sV (Instr.loadAt t (.pointer (some a)))) w K E := by
  have hi := (List.getElem?_eq_some_iff.1 hx).1
  have hl := h.elen hf hs
  refine IDX.row h lo (by omega) fun b o e => ?_
  rw [e] at h
  refine rldA h (m := sz) ?_ (enc_get hf hx) hs (hf x) hk ht hn
  have : (i.toNat + 1) * sz ≤ d.2.1 * sz := Nat.mul_le_mul_right _ (by omega)
  rw [Nat.add_mul] at this; omega
/-- Load a cell of the i-th struct of a row. -/
theorem elF {α : Type} {f : α → List Value} {t : TypeId} {T : TypeId} {sz j : Nat} {d : D} {X : List α} {x : α} {v : Value} {i : Int} (h : SRow w T sz d.1 d.2.1 d.2.2 (X.flatMap f)) (hf : ∀ x, (f x).length = sz) (lo : 0 ≤ i) (hx : X[i.toNat]? = some x) (hv : (f x)[j]? = some v) (hk : K v w) (hs : 0 < sz := by decide)
    (ht : aggB P t = some false := by kernel_rfl) :
    IDX sz d.1 d.2.1 i fun a => OPW P (sV (Instr.loadAt t (.pointer (some (a.add j))))) w K E := by
  have hi := (List.getElem?_eq_some_iff.1 hx).1
  have hl := h.elen hf hs
  have hj : j < sz := by rw [← hf x]; exact (List.getElem?_eq_some_iff.1 hv).1
  refine IDX.row h lo (by omega) fun b o e => ?_
  rw [e] at h
  rw [add_mk, Nat.add_assoc]
  have hle : (i.toNat + 1) * sz ≤ d.2.1 * sz := Nat.mul_le_mul_right _ (by omega)
  rw [Nat.add_mul] at hle
  refine rld h (by omega) ?_ hk ht
  have := congrArg (fun l => l[j]?) (enc_get hf hx)
  simp only [List.getElem?_take, List.getElem?_drop, if_pos hj] at this
  rw [this]; exact hv
theorem elF0 {α : Type} {f : α → List Value} {t : TypeId} {T : TypeId} {sz : Nat} {d : D} {X : List α} {x : α} {v : Value} {i : Int} (h : SRow w T sz d.1 d.2.1 d.2.2 (X.flatMap f)) (hf : ∀ x, (f x).length = sz) (lo : 0 ≤ i) (hx : X[i.toNat]? = some x) (hv : (f x)[0]? = some v) (hk : K v w) (hs : 0 < sz := by decide)
    (ht : aggB P t = some false := by kernel_rfl) :
    IDX sz d.1 d.2.1 i fun a => OPW P (sV (Instr.loadAt t (.pointer (some a)))) w K E := by
  have hi := (List.getElem?_eq_some_iff.1 hx).1
  have hl := h.elen hf hs
  refine IDX.row h lo (by omega) fun b o e => ?_
  rw [e] at h
  have hle : (i.toNat + 1) * sz ≤ d.2.1 * sz := Nat.mul_le_mul_right _ (by omega)
  rw [Nat.add_mul] at hle
  refine rld h (by omega) ?_ hk ht
  have := congrArg (fun l => l[0]?) (enc_get hf hx)
  simp only [List.getElem?_take, List.getElem?_drop, if_pos hs] at this
  rw [Nat.add_zero] at this
  rw [this]; exact hv
/-- .. in a region. -/
theorem HELD.elF {S : World → World → Prop} {φ : Value → Prop} {α : Type} {f : α → List Value} {t : TypeId} {T : TypeId} {sz j : Nat} {d : D} {X : List α} {x : α} {v : Value} {i : Int} (hS : S w w) (h : ∀ w', S w w' → SRow w' T sz d.1 d.2.1 d.2.2 (X.flatMap f)) (hf : ∀ x, (f x).length = sz) (lo : 0 ≤ i) (hx : X[i.toNat]? = some x) (hv : (f x)[j]? = some v) (hk : φ v) (hs : 0 < sz := by decide)
    (ht : aggB P t = some false := by kernel_rfl) :
    IDX sz d.1 d.2.1 i fun a => HELD P S (sV (Instr.loadAt t (.pointer (some (a.add j))))) w φ := by
  have h0 := h w hS
  have hi := (List.getElem?_eq_some_iff.1 hx).1
  have hl := h0.elen hf hs
  have hj : j < sz := by rw [← hf x]; exact (List.getElem?_eq_some_iff.1 hv).1
  refine IDX.row h0 lo (by omega) fun b o e => ?_
  rw [e] at h
  rw [add_mk, Nat.add_assoc]
  have hle : (i.toNat + 1) * sz ≤ d.2.1 * sz := Nat.mul_le_mul_right _ (by omega)
  rw [Nat.add_mul] at hle
  refine HELD.rld hS h (by omega) ?_ hk ht
  have := congrArg (fun l => l[j]?) (enc_get hf hx)
  simp only [List.getElem?_take, List.getElem?_drop, if_pos hj] at this
  rw [this]; exact hv
theorem HELD.elF0 {S : World → World → Prop} {φ : Value → Prop} {α : Type} {f : α → List Value} {t : TypeId} {T : TypeId} {sz : Nat} {d : D} {X : List α} {x : α} {v : Value} {i : Int} (hS : S w w) (h : ∀ w', S w w' → SRow w' T sz d.1 d.2.1 d.2.2 (X.flatMap f)) (hf : ∀ x, (f x).length = sz) (lo : 0 ≤ i) (hx : X[i.toNat]? = some x) (hv : (f x)[0]? = some v) (hk : φ v) (hs : 0 < sz := by decide)
    (ht : aggB P t = some false := by kernel_rfl) :
    IDX sz d.1 d.2.1 i fun a => HELD P S (sV (Instr.loadAt t (.pointer (some a)))) w φ := by
  have h0 := h w hS
  have hi := (List.getElem?_eq_some_iff.1 hx).1
  have hl := h0.elen hf hs
  refine IDX.row h0 lo (by omega) fun b o e => ?_
  rw [e] at h
  have hle : (i.toNat + 1) * sz ≤ d.2.1 * sz := Nat.mul_le_mul_right _ (by omega)
  rw [Nat.add_mul] at hle
  refine HELD.rld hS h (by omega) ?_ hk ht
  have := congrArg (fun l => l[0]?) (enc_get hf hx)
  simp only [List.getElem?_take, List.getElem?_drop, if_pos hs] at this
  rw [Nat.add_zero] at this
  rw [this]; exact hv
/-- A cell of a known block, in a region over parts. -/
theorem HELD.sld {S : World → World → Prop} {φ : Value → Prop} {t : TypeId} {b o : Nat} {T : TypeId} {cs : List Value} {v : Value} (hS : S w w) (h : ∀ w', S w w' → SAT g w' L) (hd : Del (cel b T cs) L R := by repeat first | exact Del.head _ | apply Del.tail) (hv : cs[o]? = some v := by rfl) (hφ : φ v) (ht : aggB P t = some false := by kernel_rfl) :
    HELD P S (sV (Instr.loadAt t (.pointer (some ⟨b, o, none⟩)))) w φ := HELD.ld hS (fun w' hw => (h w' hw).blk hd) hv hφ ht

/-! ### Regions over parts -/
theorem DRAW.sat {A : (World → World → Prop) → World → Prop} (h : SAT g w L) (hk : SAT g (drew w) L → A (fun _ w' => SAT g w' L) (drew w)) : DRAW w A := DRAW.mk (fun w' => SAT g w' L) (hk h.drew)
theorem hsld {φ : Value → Prop} {t : TypeId} {b o : Nat} {T : TypeId} {cs : List Value} {v : Value} (h : SAT g w L) (hφ : φ v) (hd : Del (cel b T cs) L R := by repeat first | exact Del.head _ | apply Del.tail) (hv : cs[o]? = some v := by rfl) (ht : aggB P t = some false := by kernel_rfl) :
    HELD P (fun _ w' => SAT g w' L) (sV (Instr.loadAt t (.pointer (some ⟨b, o, none⟩)))) w φ := HELD.ld h (fun w' hw => hw.blk hd) hv hφ ht
theorem hsldA {φ : Value → Prop} {t : TypeId} {b o : Nat} {T : TypeId} {cs vs : List Value} (h : SAT g w L) (hφ : φ (.agg vs.toArray)) (hd : Del (cel b T cs) L R := by repeat first | exact Del.head _ | apply Del.tail) (hv : (cs.drop o).take vs.length = vs := by rfl) (ht : aggB P t = some true := by kernel_rfl) (hn : (P.info? t).map (·.size) = some vs.length := by kernel_rfl) :
    HELD P (fun _ w' => SAT g w' L) (sV (Instr.loadAt t (.pointer (some ⟨b, o, none⟩)))) w φ := HELD.ldA h (fun w' hw => hw.blk hd) hv rfl hφ ht hn
theorem helF {φ : Value → Prop} {α : Type} {f : α → List Value} {t : TypeId} {T : TypeId} {sz j : Nat} {d : D} {X : List α} {x : α} {v : Value} {i : Int} (h : SAT g w L) (hd : Del (row T sz d (X.flatMap f)) L R) (hf : ∀ x, (f x).length = sz) (lo : 0 ≤ i) (hx : X[i.toNat]? = some x) (hv : (f x)[j]? = some v) (hk : φ v) (hs : 0 < sz := by decide)
    (ht : aggB P t = some false := by kernel_rfl) :
    IDX sz d.1 d.2.1 i fun a => HELD P (fun _ w' => SAT g w' L) (sV (Instr.loadAt t (.pointer (some (a.add j))))) w φ := HELD.elF h (fun w' hw => hw.srow hd) hf lo hx hv hk hs ht
theorem helF0 {φ : Value → Prop} {α : Type} {f : α → List Value} {t : TypeId} {T : TypeId} {sz : Nat} {d : D} {X : List α} {x : α} {v : Value} {i : Int} (h : SAT g w L) (hd : Del (row T sz d (X.flatMap f)) L R) (hf : ∀ x, (f x).length = sz) (lo : 0 ≤ i) (hx : X[i.toNat]? = some x) (hv : (f x)[0]? = some v) (hk : φ v) (hs : 0 < sz := by decide)
    (ht : aggB P t = some false := by kernel_rfl) :
    IDX sz d.1 d.2.1 i fun a => HELD P (fun _ w' => SAT g w' L) (sV (Instr.loadAt t (.pointer (some a)))) w φ := HELD.elF0 h (fun w' hw => hw.srow hd) hf lo hx hv hk hs ht
theorem helA {φ : Value → Prop} {α : Type} {f : α → List Value} {t : TypeId} {T : TypeId} {sz : Nat} {d : D} {X : List α} {x : α} {i : Int} (h : SAT g w L) (hd : Del (row T sz d (X.flatMap f)) L R) (hf : ∀ x, (f x).length = sz) (lo : 0 ≤ i) (hx : X[i.toNat]? = some x) (hk : φ (.agg (f x).toArray)) (hs : 0 < sz := by decide)
    (ht : aggB P t = some true := by kernel_rfl) (hn : (P.info? t).map (·.size) = some sz := by kernel_rfl) :
    IDX sz d.1 d.2.1 i fun a => HELD P (fun _ w' => SAT g w' L) (sV (Instr.loadAt t (.pointer (some a)))) w φ := by
  have h0 := h.srow hd
  have hi := (List.getElem?_eq_some_iff.1 hx).1
  have hl := h0.elen hf hs
  refine IDX.row h0 lo (by omega) fun b o e => ?_
  have h1 : ∀ w', SAT g w' L → SRow w' T sz (some ⟨b, o, none⟩) d.2.1 d.2.2 (X.flatMap f) := fun w' hw => by rw [← e]; exact hw.srow hd
  have hle : (i.toNat + 1) * sz ≤ d.2.1 * sz := Nat.mul_le_mul_right _ (by omega)
  rw [Nat.add_mul] at hle
  exact HELD.rldA h (fun w' hw => h1 w' hw) (m := sz) (by omega) (enc_get hf hx) hs (hf x) hk ht hn

/-! ### Slice literals -/
theorem fill_all {sz : Nat} : ∀ (items : List (Nat × Value)) (k : Nat) (cells : Array Value), (∀ x ∈ items, x.2.cells.size = sz) → items.map (·.1) = List.range' k items.length → (k + items.length) * sz ≤ cells.size →
    ∃ r, Instr.fill (fun j => some (j * sz, sz)) cells items = some r ∧ r.toList = splice cells.toList (k * sz) (items.flatMap fun x => x.2.cells.toList)
  | [], k, cells, _, _, _ => ⟨cells, rfl, by simp [splice]⟩
  | (j, v) :: items, k, cells, h1, h2, h3 => by
    simp only [List.map_cons, List.length_cons, List.range'_succ, List.cons.injEq] at h2
    obtain ⟨rfl, h2⟩ := h2
    simp only [List.length_cons] at h3
    have hv := h1 (j, v) (.head _)
    have e1 : (j + (items.length + 1)) * sz = j * sz + sz + items.length * sz := by simp [Nat.add_mul]; omega
    rw [e1] at h3
    have hsp : (splice cells.toList (j * sz) v.cells.toList).length = cells.size := by rw [splice_length (by simp [hv]; omega)]; simp
    rw [fill_one (place := fun j => some (j * sz, sz)) rfl hv (by omega)]
    obtain ⟨r, hr, hrl⟩ := fill_all items (j + 1) (splice cells.toList (j * sz) v.cells.toList).toArray (fun x hx => h1 x (.tail _ hx)) h2 (by simp [hsp, Nat.add_mul]; omega)
    refine ⟨r, hr, ?_⟩
    rw [hrl]
    have hlen : (items.flatMap fun x => x.2.cells.toList).length = items.length * sz := by
      have : ∀ l : List (Nat × Value), (∀ x ∈ l, x.2.cells.size = sz) → (l.flatMap fun x => x.2.cells.toList).length = l.length * sz := by
        intro l
        induction l with
        | nil => simp
        | cons x l ih =>
          intro h
          simp only [List.flatMap_cons, List.length_append, Array.length_toList, h x (.head _), ih fun y hy => h y (.tail _ hy), List.length_cons, Nat.add_mul]
          omega
      exact this items fun x hx => h1 x (.tail _ hx)
    apply List.ext_getElem?
    intro q
    simp only [List.flatMap_cons]
    have hvl : v.cells.toList.length = sz := by simpa using hv
    rw [splice_get (by rw [hsp, hlen, Nat.add_mul]; omega), splice_get (by rw [hvl]; simp only [Array.length_toList]; omega), splice_get (by rw [List.length_append, hlen, hvl]; simp only [Array.length_toList]; omega)]
    simp only [List.getElem?_append, List.length_append, hlen, hvl, Nat.add_mul, Nat.one_mul]
    repeat' split
    all_goals first | omega | (rw [Nat.sub_sub]; done) | exact congrArg (fun t => (items.flatMap fun x => x.2.cells.toList)[t]?) (by omega) | exact congrArg (fun t => cells.toList[t]?) (by omega) | exact congrArg (fun t => v.cells.toList[t]?) (by omega)

theorem litR {t e : TypeId} {sz by_ : Nat} {z : List Value} (hs : slB P t = some (e, sz, by_, z)) {items : List (Nat × Value)} {n : Nat} (hn : items.length = n := by rfl) (hi : items.map (·.1) = List.range' 0 items.length := by rfl) (hv : ∀ x ∈ items, x.2.cells.size = sz) (hsz : n * sz ≤ 16777216) (hp : 0 < n * sz)
    (hk : ∀ w' b, w.heap.size ≤ b → Blk w' b e (items.flatMap fun x => x.2.cells.toList) → Same [] w w' → w'.heap.size = w.heap.size + 1 → K (.slice (some ⟨b, 0, none⟩) n n) w') :
    OPW P (sV (Instr.buildSlice t n items.toArray)) w K E := by
  obtain ⟨hu, i, zv, hif, rfl, rfl, hz, rfl⟩ := slB_out hs
  subst hn
  obtain ⟨r, hr, hrl⟩ := fill_all (sz := i.size) items 0 ((Array.range (items.length * i.size)).map (zv.cells[· % zv.cells.size]!)) hv hi (by simp)
  have hlen : (items.flatMap fun x => x.2.cells.toList).length = items.length * i.size := by
    clear hr hrl hi hk hsz hp
    induction items with
    | nil => simp
    | cons x l ih =>
      simp only [List.flatMap_cons, List.length_append, Array.length_toList, hv x (.head _), ih fun y hy => hv y (.tail _ hy), List.length_cons, Nat.add_mul]
      omega
  have hrl' : r.toList = items.flatMap fun x => x.2.cells.toList := by
    rw [hrl]; unfold splice; simp [hlen]
  refine OPW.of_run (w' := w.alloc (.cells r e)) (run_sV (v := .slice (some ⟨w.heap.size, 0, none⟩) items.length items.length) ?_) (hk _ _ (Nat.le_refl _) (by rw [← hrl']; exact new_blk w e _) (new_same _ _) (by simp))
  have hn : ¬ 16777216 < items.length * i.size := by omega
  have h0 : ¬ items.length * i.size = 0 := by omega
  simp [Instr.buildSlice, run_underlying hu, sizeOf, typeInfo, hif, hn, h0, zeroValue, hz, newRow, hr]

/-- A slice literal, of one item or more, as a part. -/
theorem slit {t e : TypeId} {sz by_ : Nat} {z : List Value} (h : SAT g w L) (hs : slB P t = some (e, sz, by_, z)) {items : List (Nat × Value)} {n : Nat} {xs : List Value} (hx : items.flatMap (fun x => x.2.cells.toList) = xs := by rfl) (hn : items.length = n := by rfl) (hi : items.map (·.1) = List.range' 0 items.length := by rfl) (hv : items.all (fun x => Nat.beq x.2.cells.size sz) = true := by rfl) (hsz : n * sz ≤ 16777216 := by decide) (hp : 0 < n * sz := by decide)
    (hk : ∀ w' b, SAT g w' (row e sz (some ⟨b, 0, none⟩, n, n) xs :: L) → K (.slice (some ⟨b, 0, none⟩) n n) w') :
    OPW P (sV (Instr.buildSlice t n items.toArray)) w K E := by
  have hv' : ∀ x ∈ items, x.2.cells.size = sz := fun x hx => Nat.eq_of_beq_eq_true (List.all_eq_true.1 hv x hx)
  refine litR hs hn hi hv' hsz hp fun w' b hb hblk hs' _ => hk w' b (h.newRow hs' ?_ ?_)
  · rw [hx] at hblk
    have hl : xs.length = n * sz := by
      rw [← hx, ← hn]
      clear hx hk hblk hi hsz hn hv
      induction items with
      | nil => simp
      | cons x l ih =>
        simp only [List.flatMap_cons, List.length_append, Array.length_toList, hv' x (.head _), ih fun y hy => hv' y (.tail _ hy), List.length_cons, Nat.add_mul]
        omega
    exact SRow.ofGet hblk (by show 0 + n * sz ≤ xs.length; omega) (Nat.le_refl _) hl fun k hk => by simp
  · intro x hx
    simp only [ownB] at hx
    split at hx
    · cases hx
    · rw [List.mem_singleton.1 hx]; exact hb
end
end Go.Lift
