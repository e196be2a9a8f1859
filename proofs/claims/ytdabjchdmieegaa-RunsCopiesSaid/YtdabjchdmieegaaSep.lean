/-
  Worlds as lists of parts, each with blocks of its own: what one part's turning leaves alone needs no word. It speaks of no program.
-/
import Derived.Test.YtdabjchdmieegaaRules6
set_option linter.unusedVariables false
set_option linter.unusedSimpArgs false
set_option linter.unnecessarySimpa false
namespace Go.Lift
open Go

/-- A part of a world: the blocks that it owns, and what it says. -/
structure Asn where
  P : List Nat → World → Prop
  loc : ∀ {S : List Nat} {w w' : World}, P S w → (∀ b ∈ S, w'.heap[b]? = w.heap[b]?) → P S w'
  lt : ∀ {S : List Nat} {w : World}, P S w → ∀ b ∈ S, b < w.heap.size

def Disj (S S' : List Nat) : Prop := ∀ b ∈ S, b ∉ S'
theorem Disj.symm {S S' : List Nat} (h : Disj S S') : Disj S' S := fun b hb hn => h b hn hb
theorem Disj.nil (S : List Nat) : Disj [] S := fun b hb => by cases hb

/-- The parts hold, apart from one another, all of them behind the world g; what g had is as it was. -/
def Parts (g w : World) (ps : List (Asn × List Nat)) : Prop :=
  (∀ p ∈ ps, p.1.P p.2 w ∧ ∀ b ∈ p.2, g.heap.size ≤ b) ∧ ps.Pairwise fun p q => Disj p.2 q.2
structure SAT (g w : World) (L : List Asn) : Prop where
  parts : ∃ ps : List (Asn × List Nat), ps.map (·.1) = L ∧ Parts g w ps
  fr : Same [] g w

theorem SAT.start (w : World) : SAT w w [] := ⟨⟨[], rfl, ⟨fun _ h => (by cases h), List.Pairwise.nil⟩⟩, Same.refl _ _⟩

inductive Del (A : Asn) : List Asn → List Asn → Prop
  | head (L : List Asn) : Del A (A :: L) L
  | tail {B : Asn} {L R : List Asn} (h : Del A L R) : Del A (B :: L) (B :: R)
inductive Take : List Asn → List Asn → List Asn → Prop
  | nil (L : List Asn) : Take [] L L
  | cons {A : Asn} {As L M R : List Asn} (h : Del A L M) (t : Take As M R) : Take (A :: As) L R
inductive Upd (A A' : Asn) : List Asn → List Asn → Prop
  | head (L : List Asn) : Upd A A' (A :: L) (A' :: L)
  | tail {B : Asn} {L R : List Asn} (h : Upd A A' L R) : Upd A A' (B :: L) (B :: R)

theorem Del.perm {A : Asn} {L R : List Asn} (h : Del A L R) : (A :: R).Perm L := by
  induction h with
  | head L => exact .refl _
  | tail h ih => exact .trans (.swap _ _ _) (.cons _ ih)
theorem Take.perm {As L R : List Asn} (h : Take As L R) : (As ++ R).Perm L := by
  induction h with
  | nil L => exact .refl _
  | cons h t ih => exact .trans (.cons _ ih) h.perm
theorem Upd.del {A A' : Asn} {L R : List Asn} (h : Upd A A' L R) : ∃ M, Del A L M ∧ (A' :: M).Perm R := by
  induction h with
  | head L => exact ⟨L, .head L, .refl _⟩
  | tail h ih => obtain ⟨M, h1, h2⟩ := ih; exact ⟨_, .tail h1, .trans (.swap _ _ _) (.cons _ h2)⟩

theorem perm_lift {α β : Type} {f : α → β} : ∀ {L L' : List β}, L.Perm L' → ∀ ps : List α, ps.map f = L → ∃ ps', ps'.map f = L' ∧ ps.Perm ps' := by
  intro L L' h
  induction h with
  | nil => intro ps e; exact ⟨ps, e, .refl _⟩
  | cons x h ih =>
    intro ps e
    cases ps with
    | nil => simp at e
    | cons p ps =>
      simp only [List.map_cons, List.cons.injEq] at e
      obtain ⟨ps', e', hp⟩ := ih ps e.2
      exact ⟨p :: ps', by simp [e', e.1], .cons _ hp⟩
  | swap x y l =>
    intro ps e
    match ps, e with
    | p :: q :: ps, e =>
      simp only [List.map_cons, List.cons.injEq] at e
      exact ⟨q :: p :: ps, by simp [e], .swap _ _ _⟩
  | trans h1 h2 ih1 ih2 =>
    intro ps e
    obtain ⟨ps1, e1, p1⟩ := ih1 ps e
    obtain ⟨ps2, e2, p2⟩ := ih2 ps1 e1
    exact ⟨ps2, e2, p1.trans p2⟩

theorem Parts.perm {g w : World} {ps ps' : List (Asn × List Nat)} (h : Parts g w ps) (hp : ps.Perm ps') : Parts g w ps' :=
  ⟨fun p hm => h.1 p (hp.mem_iff.2 hm), (hp.pairwise_iff fun h => Disj.symm h).1 h.2⟩

theorem SAT.perm {g w : World} {L L' : List Asn} (h : SAT g w L) (hp : L.Perm L') : SAT g w L' := by
  obtain ⟨ps, e, hps⟩ := h.parts
  obtain ⟨ps', e', hp'⟩ := perm_lift hp ps e
  exact ⟨⟨ps', e', hps.perm hp'⟩, h.fr⟩
theorem SAT.take {g w : World} {As L R : List Asn} (h : SAT g w L) (ht : Take As L R) : SAT g w (As ++ R) := h.perm ht.perm.symm
theorem SAT.del {g w : World} {A : Asn} {L R : List Asn} (h : SAT g w L) (ht : Del A L R) : SAT g w (A :: R) := h.perm ht.perm.symm

theorem SAT.quiet {g w w' : World} {L : List Asn} (h : SAT g w L) (hs : Same [] w w') : SAT g w' L := by
  obtain ⟨ps, e, hps⟩ := h.parts
  exact ⟨⟨ps, e, fun p hp => ⟨p.1.loc (hps.1 p hp).1 fun b hb => hs.keep b (p.1.lt (hps.1 p hp).1 b hb) (by simp), (hps.1 p hp).2⟩, hps.2⟩, h.fr.trans hs⟩
theorem SAT.drew {g w : World} {L : List Asn} (h : SAT g w L) : SAT g (Lift.drew w) L := h.quiet (Same.refl [] w).drew
theorem SAT.drop {g w : World} {A : Asn} {L : List Asn} (h : SAT g w (A :: L)) : SAT g w L := by
  obtain ⟨ps, e, hps⟩ := h.parts
  match ps, e with
  | p :: ps, e =>
    simp only [List.map_cons, List.cons.injEq] at e
    exact ⟨⟨ps, e.2, fun q hq => hps.1 q (.tail _ hq), hps.2.tail⟩, h.fr⟩

theorem SAT.dropAll {g w : World} : ∀ {Z L : List Asn}, SAT g w (Z ++ L) → SAT g w L
  | [], _, h => h
  | _ :: _, _, h => dropAll (SAT.drop h)
/-- Another order, some left out. -/
inductive Sub : List Asn → List Asn → Prop
  | refl (L : List Asn) : Sub L L
  | cons {A : Asn} {L' L M : List Asn} (h : Del A L M) (t : Sub L' M) : Sub (A :: L') L
  | skip {A : Asn} {L' L : List Asn} (t : Sub L' L) : Sub L' (A :: L)
theorem Sub.perm {L' L : List Asn} (h : Sub L' L) : ∃ Z, (Z ++ L').Perm L := by
  induction h with
  | refl L => exact ⟨[], .refl _⟩
  | cons h t ih => obtain ⟨Z, hz⟩ := ih; exact ⟨Z, List.perm_middle.trans ((List.Perm.cons _ hz).trans h.perm)⟩
  | skip t ih => obtain ⟨Z, hz⟩ := ih; exact ⟨_ :: Z, List.Perm.cons _ hz⟩
theorem SAT.as {g w : World} {L' L : List Asn} (h : SAT g w L) (hs : Sub L' L := by repeat first | exact Sub.refl _ | (refine Sub.cons (by repeat first | exact Del.head _ | apply Del.tail) ?_) | apply Sub.skip) : SAT g w L' :=
  let ⟨_, hz⟩ := hs.perm; SAT.dropAll (h.perm hz.symm)

/-- The first part opened: what it says of its blocks S, and how the rest stands when only S turned. -/
theorem SAT.split {g w : World} {A : Asn} {L : List Asn} (h : SAT g w (A :: L)) : ∃ S, A.P S w ∧ (∀ b ∈ S, g.heap.size ≤ b) ∧
    ∀ w', Same S w w' → ∀ ps' : List (Asn × List Nat), (∀ p ∈ ps', p.1.P p.2 w' ∧ ∀ b ∈ p.2, b ∈ S ∨ w.heap.size ≤ b) → ps'.Pairwise (fun p q => Disj p.2 q.2) → SAT g w' (ps'.map (·.1) ++ L) := by
  obtain ⟨ps, e0, hps⟩ := h.parts
  match ps, e0 with
  | p :: ps, e1 =>
    simp only [List.map_cons, List.cons.injEq] at e1
    obtain ⟨rfl, e⟩ := e1
    have hp := hps.1 p (.head _)
    have hpw := List.pairwise_cons.1 hps.2
    refine ⟨p.2, hp.1, hp.2, fun w' hs ps' h1 h2 => ⟨⟨ps' ++ ps, by simp [e], fun q hq => ?_, ?_⟩, ?_⟩⟩
    · rcases List.mem_append.1 hq with hq | hq
      · refine ⟨(h1 q hq).1, fun b hb => ?_⟩
        rcases (h1 q hq).2 b hb with hb | hb
        · exact hp.2 b hb
        · exact Nat.le_trans h.fr.size hb
      · have hq' := hps.1 q (.tail _ hq)
        refine ⟨q.1.loc hq'.1 fun b hb => hs.keep b (q.1.lt hq'.1 b hb) fun hm => hpw.1 q hq b hm hb, hq'.2⟩
    · refine List.pairwise_append.2 ⟨h2, hpw.2, fun x hx y hy b hb hn => ?_⟩
      rcases (h1 x hx).2 b hb with hb | hb
      · exact hpw.1 y hy b hb hn
      · exact Nat.not_le_of_lt (y.1.lt (hps.1 y (.tail _ hy)).1 b hn) hb
    · refine h.fr.then hs fun x hx => .inr (hp.2 x hx)

theorem SAT.open {g w : World} {A : Asn} {L : List Asn} (h : SAT g w (A :: L)) : ∃ S, A.P S w ∧ (∀ b ∈ S, g.heap.size ≤ b) := let ⟨S, h1, h2, _⟩ := h.split; ⟨S, h1, h2⟩
theorem SAT.get {g w : World} {A : Asn} {L R : List Asn} (h : SAT g w L) (hd : Del A L R) : ∃ S, A.P S w ∧ (∀ b ∈ S, g.heap.size ≤ b) := (h.del hd).open

/-- One part turned into another. -/
theorem SAT.turn {g w w' : World} {A A' : Asn} {L R : List Asn} (h : SAT g w L) (hu : Upd A A' L R) (hs : ∀ S, A.P S w → Same S w w' ∧ ∃ S', A'.P S' w' ∧ ∀ b ∈ S', b ∈ S ∨ w.heap.size ≤ b) : SAT g w' R := by
  obtain ⟨M, h1, h2⟩ := hu.del
  obtain ⟨S, hA, _, hstep⟩ := (h.del h1).split
  obtain ⟨hs1, S', hA', hS'⟩ := hs S hA
  exact SAT.perm (hstep w' hs1 [(A', S')] (by simpa using ⟨hA', hS'⟩) (List.pairwise_singleton _ _)) h2
/-- A new part. -/
theorem SAT.new {g w w' : World} {A' : Asn} {L : List Asn} (h : SAT g w L) (hs : Same [] w w') {S' : List Nat} (hA : A'.P S' w') (hS : ∀ b ∈ S', w.heap.size ≤ b) : SAT g w' (A' :: L) := by
  have h' := h.quiet hs
  obtain ⟨ps, e, hps⟩ := h.parts
  refine ⟨⟨(A', S') :: ps, by simp [e], fun p hp => ?_, List.pairwise_cons.2 ⟨fun p hp b hb hn => ?_, hps.2⟩⟩, h'.fr⟩
  · rcases List.mem_cons.1 hp with rfl | hp
    · exact ⟨hA, fun b hb => Nat.le_trans h.fr.size (hS b hb)⟩
    · exact ⟨p.1.loc (hps.1 p hp).1 fun b hb => hs.keep b (p.1.lt (hps.1 p hp).1 b hb) (by simp), (hps.1 p hp).2⟩
  · exact Nat.not_le_of_lt (p.1.lt (hps.1 p hp).1 b hn) (hS b hb)

/-! ### Kinds of parts -/
def cel (b : Nat) (T : TypeId) (cs : List Value) : Asn where
  P := fun S w => S = [b] ∧ Blk w b T cs
  loc := fun ⟨e, h⟩ hk => ⟨e, by subst e; unfold Blk; rw [hk _ (by simp)]; exact h⟩
  lt := fun ⟨e, h⟩ x hx => by subst e; rw [List.mem_singleton.1 hx]; exact h.lt

theorem SRow.local {T : TypeId} {sz : Nat} {a : Option Addr} {n c : Nat} {xs : List Value} {w w' : World} (h : SRow w T sz a n c xs) (hk : ∀ b ∈ ownB a c, w'.heap[b]? = w.heap[b]?) : SRow w' T sz a n c xs := by
  refine ⟨h.1, h.2.1, ?_⟩
  by_cases h0 : c = 0
  · exact .inl h0
  · rcases h.2.2 with h0' | ⟨b, o, cs, rfl, hb, h1, h2⟩
    · exact absurd h0' h0
    · refine .inr ⟨b, o, cs, rfl, ?_, h1, h2⟩
      unfold Blk; rw [hk b (by simp [ownB, h0])]; exact hb

/-- A slice that owns its block. -/
def row (T : TypeId) (sz : Nat) (d : D) (xs : List Value) : Asn where
  P := fun S w => S = ownB d.1 d.2.2 ∧ SRow w T sz d.1 d.2.1 d.2.2 xs
  loc := fun ⟨e, h⟩ hk => ⟨e, h.local (e ▸ hk)⟩
  lt := fun ⟨e, h⟩ x hx => h.lt x (e ▸ hx)

def pur (p : Prop) : Asn where
  P := fun S _ => S = [] ∧ p
  loc := fun h _ => h
  lt := fun ⟨e, _⟩ x hx => by subst e; cases hx

def exA {α : Type} (A : α → Asn) : Asn where
  P := fun S w => ∃ x, (A x).P S w
  loc := fun ⟨x, h⟩ hk => ⟨x, (A x).loc h hk⟩
  lt := fun ⟨x, h⟩ => (A x).lt h

def both (A B : Asn) : Asn where
  P := fun S w => ∃ S1 S2, S = S1 ++ S2 ∧ A.P S1 w ∧ B.P S2 w ∧ Disj S1 S2
  loc := fun ⟨S1, S2, e, h1, h2, hd⟩ hk => ⟨S1, S2, e, A.loc h1 fun b hb => hk b (by simp [e, hb]), B.loc h2 fun b hb => hk b (by simp [e, hb]), hd⟩
  lt := fun ⟨S1, S2, e, h1, h2, hd⟩ x hx => by
    subst e
    rcases List.mem_append.1 hx with hx | hx
    · exact A.lt h1 x hx
    · exact B.lt h2 x hx

/-- Many parts as one. -/
def many : List Asn → Asn
  | [] => pur True
  | A :: L => both A (many L)

theorem SAT.openPur {g w : World} {p : Prop} {L : List Asn} (h : SAT g w (pur p :: L)) : p ∧ SAT g w L := let ⟨_, hp, _⟩ := h.open; ⟨hp.2, h.drop⟩
theorem SAT.openEx {g w : World} {α : Type} {A : α → Asn} {L : List Asn} (h : SAT g w (exA A :: L)) : ∃ x, SAT g w (A x :: L) := by
  obtain ⟨S, ⟨x, hx⟩, h1, h2⟩ := h.split
  exact ⟨x, h2 w (Same.refl _ _) [(A x, S)] (by simpa using ⟨hx, fun b hb => .inl hb⟩) (List.pairwise_singleton _ _)⟩
theorem SAT.openBoth {g w : World} {A B : Asn} {L : List Asn} (h : SAT g w (both A B :: L)) : SAT g w (A :: B :: L) := by
  obtain ⟨S, ⟨S1, S2, e, hA, hB, hd⟩, h1, h2⟩ := h.split
  refine h2 w (Same.refl _ _) [(A, S1), (B, S2)] ?_ (List.pairwise_cons.2 ⟨by simpa using hd, List.pairwise_singleton _ _⟩)
  simp only [List.mem_cons, List.not_mem_nil, or_false, forall_eq_or_imp, forall_eq]
  exact ⟨⟨hA, fun b hb => .inl (by simp [e, hb])⟩, hB, fun b hb => .inl (by simp [e, hb])⟩
theorem SAT.openMany {g w : World} : ∀ {As L : List Asn}, SAT g w (many As :: L) → SAT g w (As ++ L)
  | [], L, h => h.drop
  | A :: As, L, h => by
    have h1 := h.openBoth
    have h2 : SAT g w (many As :: A :: L) := h1.perm (.swap _ _ _)
    have h3 := openMany h2
    exact h3.perm List.perm_middle
theorem SAT.shutPur {g w : World} {p : Prop} {L : List Asn} (hp : p) (h : SAT g w L) : SAT g w (pur p :: L) := h.new (Same.refl _ _) (S' := []) ⟨rfl, hp⟩ (by simp)
theorem SAT.shutEx {g w : World} {α : Type} {A : α → Asn} {L : List Asn} (x : α) (h : SAT g w (A x :: L)) : SAT g w (exA A :: L) := by
  obtain ⟨S, hx, h1, h2⟩ := h.split
  exact h2 w (Same.refl _ _) [(exA A, S)] (by simpa using ⟨⟨x, hx⟩, fun b hb => .inl hb⟩) (List.pairwise_singleton _ _)
theorem SAT.shutBoth {g w : World} {A B : Asn} {L : List Asn} (h : SAT g w (A :: B :: L)) : SAT g w (both A B :: L) := by
  obtain ⟨ps, e0, hps⟩ := h.parts
  match ps, e0 with
  | p :: q :: ps, e1 =>
    simp only [List.map_cons, List.cons.injEq] at e1
    obtain ⟨rfl, rfl, e⟩ := e1
    have hpw := List.pairwise_cons.1 hps.2
    have hpw2 := List.pairwise_cons.1 hpw.2
    refine ⟨⟨(both p.1 q.1, p.2 ++ q.2) :: ps, by simp [e], fun r hr => ?_, List.pairwise_cons.2 ⟨fun r hr b hb hn => ?_, hpw2.2⟩⟩, h.fr⟩
    · rcases List.mem_cons.1 hr with rfl | hr
      · refine ⟨⟨_, _, rfl, (hps.1 p (.head _)).1, (hps.1 q (.tail _ (.head _))).1, hpw.1 q (.head _)⟩, fun b hb => ?_⟩
        rcases List.mem_append.1 hb with hb | hb
        · exact (hps.1 p (.head _)).2 b hb
        · exact (hps.1 q (.tail _ (.head _))).2 b hb
      · exact hps.1 r (.tail _ (.tail _ hr))
    · rcases List.mem_append.1 hb with hb | hb
      · exact hpw.1 r (.tail _ hr) b hb hn
      · exact hpw2.1 r hr b hb hn
theorem SAT.shutMany {g w : World} : ∀ {As L : List Asn}, SAT g w (As ++ L) → SAT g w (many As :: L)
  | [], L, h => h.shutPur trivial
  | A :: As, L, h => by
    have h1 : SAT g w (As ++ (A :: L)) := h.perm List.perm_middle.symm
    exact ((shutMany h1).perm (.swap _ _ _)).shutBoth

/-! ### What parts say -/
section
variable {g w w' : World} {L R : List Asn}
theorem SAT.blk (h : SAT g w L) {b : Nat} {T : TypeId} {cs : List Value} (hd : Del (cel b T cs) L R) : Blk w b T cs := let ⟨_, hb, _⟩ := h.get hd; hb.2
theorem SAT.srow (h : SAT g w L) {T : TypeId} {sz : Nat} {d : D} {xs : List Value} (hd : Del (row T sz d xs) L R) : SRow w T sz d.1 d.2.1 d.2.2 xs := let ⟨_, hb, _⟩ := h.get hd; hb.2
theorem SAT.irow (h : SAT g w L) {sz : Nat} {a : Option Addr} {n c : Nat} {xs : List Value} (hi : IRow g sz a n c xs) : IRow w sz a n c xs := hi.keep h.fr (by simp)
theorem SAT.cell (h : SAT g w L) {b o : Nat} {v : Value} (hb : b < g.heap.size) (hi : g.cell? ⟨b, o, none⟩ = some v) : w.cell? ⟨b, o, none⟩ = some v := h.fr.cell hb (by simp) hi
theorem SAT.below (h : SAT g w L) : Go.RowKit.Below g.heap.size g w := h.fr.below (Nat.le_refl _) (by simp)
theorem SAT.newCel (h : SAT g w L) {b : Nat} {T : TypeId} {cs : List Value} (hs : Same [] w w') (hb : Blk w' b T cs) (hn : w.heap.size ≤ b) : SAT g w' (cel b T cs :: L) := h.new hs (S' := [b]) ⟨rfl, hb⟩ (by simpa using hn)
theorem SAT.newRow (h : SAT g w L) {T : TypeId} {sz : Nat} {d : D} {xs : List Value} (hs : Same [] w w') (hb : SRow w' T sz d.1 d.2.1 d.2.2 xs) (hn : ∀ b ∈ ownB d.1 d.2.2, w.heap.size ≤ b) : SAT g w' (row T sz d xs :: L) := h.new hs (S' := ownB d.1 d.2.2) ⟨rfl, hb⟩ hn
theorem SAT.turnRow (h : SAT g w L) {T : TypeId} {sz : Nat} {d d' : D} {xs xs' : List Value} (hu : Upd (row T sz d xs) (row T sz d' xs') L R) (hs : Same (ownB d.1 d.2.2) w w') (hb : SRow w' T sz d'.1 d'.2.1 d'.2.2 xs') (hn : ∀ b ∈ ownB d'.1 d'.2.2, b ∈ ownB d.1 d.2.2 ∨ w.heap.size ≤ b) : SAT g w' R :=
  h.turn hu fun S hS => by obtain ⟨rfl, _⟩ := hS; exact ⟨hs, _, ⟨rfl, hb⟩, hn⟩
theorem SAT.turnCel (h : SAT g w L) {b : Nat} {T : TypeId} {cs cs' : List Value} (hu : Upd (cel b T cs) (cel b T cs') L R) (hs : Same [b] w w') (hb : Blk w' b T cs') : SAT g w' R :=
  h.turn hu fun S hS => by obtain ⟨rfl, _⟩ := hS; exact ⟨hs, _, ⟨rfl, hb⟩, fun x hx => .inl hx⟩
theorem SAT.base (h : SAT g w L) {T : TypeId} {sz : Nat} {d : D} {xs : List Value} (hd : Del (row T sz d xs) L R) (hn : 0 < d.2.1) : ∃ b o, d.1 = some ⟨b, o, none⟩ := by
  obtain ⟨b, o, cs, e, _⟩ := (h.srow hd).open hn
  exact ⟨b, o, e⟩
end

theorem SAT.rowsApart {g w : World} {R : List Asn} {T T' : TypeId} {sz sz' : Nat} {d d' : D} {xs xs' : List Value} (h : SAT g w (row T sz d xs :: row T' sz' d' xs' :: R)) : ∀ b ∈ ownB d.1 d.2.2, b ∉ ownB d'.1 d'.2.2 := by
  obtain ⟨ps, e0, hps⟩ := h.parts
  match ps, e0 with
  | [p], e1 => simp at e1
  | p :: q :: ps, e1 =>
    simp only [List.map_cons, List.cons.injEq] at e1
    obtain ⟨e2, e3, _⟩ := e1
    have h1 := (hps.1 p (.head _)).1
    have h2 := (hps.1 q (.tail _ (.head _))).1
    rw [e2] at h1
    rw [e3] at h2
    have hd := (List.pairwise_cons.1 hps.2).1 q (.head _)
    obtain ⟨s1, _⟩ := h1
    obtain ⟨s2, _⟩ := h2
    rw [s1, s2] at hd
    exact hd
theorem SAT.celsApart {g w : World} {R : List Asn} {T T' : TypeId} {b b' : Nat} {cs cs' : List Value} (h : SAT g w (cel b T cs :: cel b' T' cs' :: R)) : b ≠ b' := by
  obtain ⟨ps, e0, hps⟩ := h.parts
  match ps, e0 with
  | [p], e1 => simp at e1
  | p :: q :: ps, e1 =>
    simp only [List.map_cons, List.cons.injEq] at e1
    obtain ⟨e2, e3, _⟩ := e1
    have h1 := (hps.1 p (.head _)).1
    have h2 := (hps.1 q (.tail _ (.head _))).1
    rw [e2] at h1
    rw [e3] at h2
    have hd := (List.pairwise_cons.1 hps.2).1 q (.head _)
    obtain ⟨s1, _⟩ := h1
    obtain ⟨s2, _⟩ := h2
    rw [s1, s2] at hd
    exact fun e => hd b (by simp) (by simp [e])

attribute [irreducible] cel row pur exA both many

/-! ### Rules -/
section
variable {P : Program} {K : Value → World → Prop} {E : List PanicEntry → World → Prop} {g w w' : World} {L R : List Asn}

/-- Load a cell of a block. -/
theorem sld {t : TypeId} {b o : Nat} {T : TypeId} {cs : List Value} {v : Value} (h : SAT g w L) (hd : Del (cel b T cs) L R := by repeat first | exact Del.head _ | apply Del.tail) (hv : cs[o]? = some v := by rfl) (hk : K v w) (ht : aggB P t = some false := by kernel_rfl) :
    OPW P (sV (Instr.loadAt t (.pointer (some ⟨b, o, none⟩)))) w K E := ld (h.blk hd) hv hk ht
/-- Load a struct in a block. -/
theorem sldA {t : TypeId} {b o : Nat} {T : TypeId} {cs vs : List Value} (h : SAT g w L) (hd : Del (cel b T cs) L R := by repeat first | exact Del.head _ | apply Del.tail) (hv : (cs.drop o).take vs.length = vs := by rfl) (hk : K (.agg vs.toArray) w)
    (ht : aggB P t = some true := by kernel_rfl) (hn : (P.info? t).map (·.size) = some vs.length := by kernel_rfl) :
    OPW P (sV (Instr.loadAt t (.pointer (some ⟨b, o, none⟩)))) w K E := ldA (h.blk hd) hv rfl hk ht hn
/-- Store a cell of a block. -/
theorem sst {t : TypeId} {b o : Nat} {T : TypeId} {cs : List Value} {v : Value} (h : SAT g w L) (hu : Upd (cel b T cs) (cel b T (cs.set o v)) L R := by repeat first | exact Upd.head _ | apply Upd.tail) (ho : o < cs.length := by simp) (hk : ∀ w', SAT g w' R → K undef w')
    (h1 : v.oneCell' = true := by rfl) (hc : v.cells = #[v] := by rfl) (hn : (P.info? t).map (·.size) = some 1 := by kernel_rfl) :
    OPW P (sU (Instr.storeAt t (.pointer (some ⟨b, o, none⟩)) v)) w K E := by
  obtain ⟨M, hd, _⟩ := hu.del
  exact st (h.blk hd) ho (fun w' hb hs _ => hk w' (h.turnCel hu hs hb)) h1 hc hn
end
end Go.Lift
