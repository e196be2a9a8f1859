/-
  Both kinds of Runs compared; the example; RunsPlay, walked.
-/
import Derived.Test.YtdabjchdmieegaaU6
import Derived.Test.YtdabjchdmieegaaOpen
set_option linter.unusedVariables false
set_option linter.unnecessarySimpa false
set_option linter.unusedSimpArgs false
namespace Go.Proofs.Ytdabjchdmieegaa
open Go Go.Lift Go.RowKit
open Go.Runs (Rn runsOf setR cnt Of tot)

theorem run_neq2 {P : Program} {t : TypeId} (h : two64B P t = true) {x y : Operand} {k : IntKind} (a b c d : Int) (w : World) :
    (sB .neq t (.agg #[.int k a, .int k b]) (.agg #[.int k c, .int k d]) (eqGuard .neq t x y (.agg #[.int k a, .int k b]) (.agg #[.int k c, .int k d]))).run P w = .ok (.value (.bool (!(a == c && b == d)))) w := by
  unfold two64B at h
  split at h
  · rename_i fs hu
    split at h
    · rename_i f g hfs
      simp only [Bool.and_eq_true, Bool.not_eq_true', decide_eq_false_iff_not] at h
      obtain ⟨⟨⟨⟨⟨⟨⟨h1, h2⟩, h3⟩, h4⟩, h5⟩, h6⟩, h7⟩, h8⟩ := h
      obtain ⟨k1, hk1⟩ := intB_out h5
      obtain ⟨k2, hk2⟩ := intB_out h6
      have ho1 : f.offset = 0 := Nat.eq_of_beq_eq_true h1
      have ho2 : g.offset = 1 := Nat.eq_of_beq_eq_true h2
      have hfo : P.fieldsOf t = fs := by simp [Program.fieldsOf, hu]
      have hu' : P.underlying t = some (.struct (P.fieldsOf t)) := by rw [hfo]; exact hu
      have ag1 : ∀ w, (isAgg f.type).run P w = .ok false w := fun w => run_isAgg (by simp [aggB, hk1]) w
      have ag2 : ∀ w, (isAgg g.type).run P w = .ok false w := fun w => run_isAgg (by simp [aggB, hk2]) w
      refine run_sV ?_
      simp only [Sem.run_bind, run_eqGuard_agg w .neq t x y _ _ h8, Result.andThen_ok]
      rw [run_neq_struct, run_equalIn_agg w 9999 t _ _ hu' h7, hfo, hfs]
      simp only [Op.eqFields, h3, h4, ne_eq, not_false_eq_true, if_true, part, Sem.run_bind, ag1, ag2, Result.andThen_ok, ho1, ho2]
      have e1 : ∀ w, (Op.equalIn 9999 f.type (.int k a) (.int k c)).run P w = .ok (a == c) w := fun w => run_equalIn_int w 9998 f.type k k1 a c hk1
      have e2 : ∀ w, (Op.equalIn 9999 g.type (.int k b) (.int k d)).run P w = .ok (b == d) w := fun w => run_equalIn_int w 9998 g.type k k2 b d hk2
      cases hac : a == c <;> cases hbd : b == d <;> simp [e1, e2, ag1, ag2, hac, hbd]
    · cases h
  · cases h

section
variable {g w w' : World} {L R : List Asn}
variable {K : Value → World → Prop} {E : List PanicEntry → World → Prop}

/-- Same -/
theorem fn29 {p q : Nat} {B : Int} {X : List Rn} {F : List Bool} (h : SAT g w (runs p B X :: mr q F :: R)) (ho : Of X F) (hF : F.length ≤ 10000)
    (hk : ∀ w', SAT g w' (runs p B X :: mr q F :: R) → K (.bool true) w') :
    FN Try.prog 29 #[.pointer (some ⟨p, 0, none⟩), .pointer (some ⟨q, 0, none⟩)] w K E := by
  have hX := ho.len
  have hb : ∀ x ∈ X, 0 ≤ x.1 ∧ 1 ≤ x.2 ∧ x.1 + x.2 ≤ 1000000 := fun x hx => by have := ho.bound x hx; omega
  have hXF := ho.eq
  refine R29_ok (fn23 h (by omega) fun w1 d h1 => ⟨_, _, _, rfl, ?_⟩)
  refine fn52 (h1.at (mr q F)) (by omega) fun w2 e h2 => ⟨_, _, _, rfl, ?_⟩
  rw [← hXF] at h2
  have hl := (h2.rowAt d).elen two_len (by decide)
  have hl2 := (h2.rowAt e).elen two_len (by decide)
  refine JOIN.mk (fun _ w' => SAT g w' (runs p B X :: mr q F :: row 56 2 e (X.flatMap two) :: row 56 2 d (X.flatMap two) :: R)) ?_ ?_
  · refine BIF.no (by rw [hl, hl2]; simp) ?_
    refine fn21 (h2.at (runs p B X)) (by omega) hb fun w3 h3 => ⟨_, rfl, ?_⟩
    refine fn54 (h3.at (mr q F)) (by omega) fun w4 h4 => ⟨_, rfl, ?_⟩
    refine BIF.no (by rw [hXF, Go.Runs.runsOf_tot]; simp) ?_
    refine fn30 (h4.at (runs p B X)) (by omega) fun w5 h5 => ⟨_, rfl, ?_⟩
    refine fn55 (h5.at (mr q F)) (by omega) fun w6 h6 => ⟨_, rfl, ?_⟩
    exact BIF.no (by rw [← hXF]; simp) h6.as
  rintro ⟨⟩ w3 h3 J
  refine LOOP.mk (fun x w' => 0 ≤ x.1 ∧ x.1 ≤ X.length ∧ SAT g w' (runs p B X :: mr q F :: row 56 2 e (X.flatMap two) :: row 56 2 d (X.flatMap two) :: R)) (fun x _ => (X.length - x.1).toNat) ⟨by simp, by simp, h3⟩ ?_
  rintro ⟨i, _⟩ w4 ⟨h0, hi, h4⟩ J
  simp only [] at h0 hi
  refine BIF.dec (fun hc => ?_) fun hc => ?_
  · have hc : i < (X.length : Int) := by rw [hl] at hc; exact hc
    obtain ⟨x, hx⟩ : ∃ x, X[i.toNat]? = some x := ⟨X[i.toNat], List.getElem?_eq_getElem (by omega)⟩
    have e1 : IntKind.wrap .i64 (i + 1) = i + 1 := wrap64 (by omega) (by omega)
    refine DRAW.sat h4 fun h4 => helA (d := d) h4 (.tail (.tail (.tail (.head _)))) two_len h0 hx ⟨_, _, rfl, helA (d := e) h4 (.tail (.tail (.head _))) two_len h0 hx ⟨_, _, rfl, ?_⟩⟩
    refine ⟨_, h4, fun w' _ => run_neq2 (by kernel_rfl) _ _ _ _ w', _, rfl, BIF.no (by simp) ?_⟩
    simp only [e1]
    exact ⟨⟨by omega, by omega, h4⟩, by omega⟩
  · exact hk w4 h4.as

theorem of_new {B : Int} (hB : 1 ≤ B) : Of [(0, B)] (List.replicate B.toNat true) := by
  refine ⟨⟨Int.le_refl _, hB, trivial⟩, fun k => ?_⟩
  rw [Go.Runs.cov_cons]
  have := Go.Runs.cov_nil k
  simp only [this, or_false, List.getElem?_replicate]
  constructor
  · intro h
    exact ⟨k.toNat, by omega, by rw [if_pos (by omega)]⟩
  · rintro ⟨i, rfl, hi⟩
    split at hi
    · omega
    · cases hi
theorem of_nil : Of [] [] := ⟨trivial, fun k => ⟨fun h => absurd h (Go.Runs.cov_nil k), fun ⟨i, _, h⟩ => by simp at h⟩⟩

theorem first_eq {A A' C C' : List Rn} {x x' : Rn} {n : Int} (h : A ++ x :: C = A' ++ x' :: C') (h1 : ∀ y ∈ A, y.2 < n) (h2 : n ≤ x.2) (h3 : ∀ y ∈ A', y.2 < n) (h4 : n ≤ x'.2) : x = x' ∧ A = A' ∧ C = C' := by
  induction A generalizing A' with
  | nil =>
    cases A' with
    | nil => simp at h; exact ⟨h.1, rfl, h.2⟩
    | cons y A' =>
      simp at h
      have := h3 y (.head _)
      rw [h.1] at h2; omega
  | cons z A ih =>
    cases A' with
    | nil =>
      simp at h
      have := h1 z (.head _)
      rw [h.1] at this; omega
    | cons y A' =>
      simp only [List.cons_append, List.cons.injEq] at h
      obtain ⟨rfl, h⟩ := h
      obtain ⟨e1, e2, e3⟩ := ih h (fun y hy => h1 y (.tail _ hy)) (fun y hy => h3 y (.tail _ hy))
      exact ⟨e1, by rw [e2], e3⟩

/-- Taken out of the first run with room. -/
theorem of_take {A C : List Rn} {x : Rn} {F : List Bool} {n : Int} (h : Of (A ++ x :: C) F) (h1 : 1 ≤ n) (h2 : n ≤ x.2) : Of (A ++ real [(x.1 + n, x.2 - n)] ++ C) (setR F x.1.toNat n.toNat false) ∧ (setR F x.1.toNat n.toNat false).length = F.length := by
  have hb := h.bound x (by simp)
  have e1 : ((x.1.toNat : Nat) : Int) = x.1 := by omega
  have e2 : ((n.toNat : Nat) : Int) = n := by omega
  have := Go.Runs.of_mark (at_ := x.1.toNat) (n := n.toNat) h (by omega) (by omega) (by omega) (by omega)
  refine ⟨?_, Go.Runs.setR_len (by omega)⟩
  rw [e1, e2] at this
  have e3 : Go.Runs.real [(x.1, x.1 - x.1), (x.1 + n, x.1 + x.2 - x.1 - n)] = real [(x.1 + n, x.2 - n)] := by
    have : x.1 + x.2 - x.1 - n = x.2 - n := by omega
    rw [this]
    simp [Go.Runs.real, real]
  rwa [e3] at this

/-- awake -/
theorem fn17 (h : SAT g w L) (hk : ∀ w', SAT g w' L → K (.bool true) w') : FN Try.prog 17 #[] w K E := by
  refine R17_ok (_u := ()) (fn18 h fun w1 p h1 => ⟨_, rfl, eqlPtrNil ⟨_, rfl, BIF.no rfl ?_⟩⟩)
  have e0 : (if (8 : Int) < 1 ∨ (8 : Int) > 8192 then (0 : Int) else 8) = 8 := by decide
  have e0' : (if (8 : Int) < 1 ∨ (8 : Int) > 8192 then ([] : List Rn) else [(0, 8)]) = [(0, 8)] := by decide
  rw [e0, e0'] at h1
  refine fn19 h1 (by simp) (by simp) (fun hh => by simp at hh) fun A x C e _ _ _ w2 h2 => ⟨_, _, rfl, ?_⟩
  obtain ⟨rfl, rfl, rfl⟩ : A = [] ∧ x = (0, 8) ∧ C = [] := by
    cases A with
    | nil => simp at e; exact ⟨rfl, e.1.symm, e.2⟩
    | cons y A => simp at e
  have e1 : [] ++ real [((0 : Int) + 3, (8 : Int) - 3)] ++ [] = [(3, 5)] := by decide
  simp only [e1] at h2
  refine fn19 h2 (by simp) (by simp) (fun hh => by simp at hh) fun A x C e _ _ _ w3 h3 => ⟨_, _, rfl, ?_⟩
  obtain ⟨rfl, rfl, rfl⟩ : A = [] ∧ x = (3, 5) ∧ C = [] := by
    cases A with
    | nil => simp at e; exact ⟨rfl, e.1.symm, e.2⟩
    | cons y A => simp at e
  have e2 : [] ++ real [((3 : Int) + 2, (5 : Int) - 2)] ++ [] = [(5, 3)] := by decide
  simp only [e2] at h3
  have hsp : ∀ A C, Go.Runs.Spot [((5 : Int), (3 : Int))] A C 0 → A = [] ∧ C = [(5, 3)] := fun A C hs => by
    cases A with
    | nil => exact ⟨rfl, by have := hs.eq; simpa using this.symm⟩
    | cons y A =>
      have h1 := hs.lo y (.head _)
      have h2 := hs.eq
      simp at h2
      rw [← h2.1] at h1; omega
  refine fn22 h3 (by simp) (by omega) (by simp) (fun hh => by omega) (fun _ _ _ A C hs hbad => ?_) fun _ _ _ A C hs _ _ w4 h4 => ⟨_, rfl, ?_⟩
  · obtain ⟨rfl, rfl⟩ := hsp A C hs
    simp at hbad
  obtain ⟨rfl, rfl⟩ := hsp A C hs
  have e3 : (Go.Runs.joinL [] 0 3).1 ++ (Go.Runs.joinR [((5 : Int), (3 : Int))] (Go.Runs.joinL [] 0 3).2 (0 + 3)).2 :: (Go.Runs.joinR [((5 : Int), (3 : Int))] (Go.Runs.joinL [] 0 3).2 (0 + 3)).1 = [(0, 3), (5, 3)] := by decide
  rw [e3] at h4
  refine fn23 h4 (by simp) fun w5 d h5 => ⟨_, _, _, rfl, ?_⟩
  have hl := (h5.rowAt d).elen two_len (by decide)
  refine BIF.yes rfl (BIF.yes rfl (BIF.yes rfl (BIF.yes rfl (BIF.yes rfl (BIF.yes (by rw [hl]; rfl) ?_)))))
  refine elA (d := d) (X := [(0, 3), (5, 3)]) (x := (0, 3)) (h5.rowAt d) two_len (by decide) rfl ⟨_, _, rfl, ?_⟩
  refine OPW.of_run (run_eql2 (by kernel_rfl) _ _ _ _ _) ⟨_, rfl, BIF.yes rfl ?_⟩
  refine elA (d := d) (X := [(0, 3), (5, 3)]) (x := (5, 3)) (h5.rowAt d) two_len (by decide) rfl ⟨_, _, rfl, ?_⟩
  refine OPW.of_run (run_eql2 (by kernel_rfl) _ _ _ _ _) ⟨_, rfl, ?_⟩
  exact hk w5 h5.drop.drop

def three (x : Int × Int × Int) : List Value := [.int .i64 x.1, .int .i64 x.2.1, .int .i64 x.2.2]
theorem three_len (x : Int × Int × Int) : (three x).length = 3 := rfl

/-- RunsPlay -/
theorem fn6 {B : Int} {l : D} {X0 : List (Int × Int × Int)} (hl : IRow w 3 l.1 l.2.1 l.2.2 (X0.flatMap three)) (hk : ∀ w', Same [] w w' → K (.bool true) w') :
    FN Try.prog 6 #[.int .i64 B, sl l] w K E := by
  have hn := hl.elen three_len (by decide)
  refine R6_ok (fn17 (SAT.start w) fun w1 h1 => ⟨_, rfl, BIF.no rfl ?_⟩)
  refine JOIN.mk (fun _ w' => w' = w1 ∧ X0.length ≤ 100 ∧ (B ≤ 300 ∨ B > 8192)) ?_ ?_
  · refine BIF.dec (fun hc => hk w1 h1.fr) fun hc => BIF.dec (fun hc2 => BIF.dec (fun hc3 => hk w1 h1.fr) fun hc3 => ⟨rfl, by omega, by omega⟩) fun hc2 => ⟨rfl, by omega, by omega⟩
  rintro ⟨⟩ _ ⟨rfl, hX0, hB⟩ J
  refine fn18 h1 fun w2 p h2 => ⟨_, rfl, fn24 h2 fun w3 q h3 => ⟨_, rfl, eqlPtrNil ⟨_, rfl, BIF.no rfl ?_⟩⟩⟩
  obtain ⟨B', X, F, h3, ho, hFB, hFl⟩ : ∃ (B' : Int) (X : List Rn) (F : List Bool), SAT w w3 [mr q F, runs p B' X] ∧ Of X F ∧ (F.length : Int) = B' ∧ F.length ≤ 300 := by
    refine ⟨_, _, _, h3, ?_, ?_, ?_⟩
    · by_cases hb : B < 1 ∨ B > 8192
      · rw [if_pos hb]
        have : (if B < 0 ∨ B > 8192 then 0 else B).toNat = 0 := by split <;> omega
        rw [this]; exact of_nil
      · rw [if_neg hb, if_neg (by omega)]; exact of_new (by omega)
    · rw [List.length_replicate]
      by_cases hb : B < 1 ∨ B > 8192
      · rw [if_pos hb]; split <;> omega
      · rw [if_neg hb, if_neg (by omega)]; omega
    · rw [List.length_replicate]; split <;> omega
  refine LOOP.mk (fun x w' => 0 ≤ x.1 ∧ x.1 ≤ X0.length ∧ ∃ (X : List Rn) (F : List Bool), SAT w w' [runs p B' X, mr q F] ∧ Of X F ∧ (F.length : Int) = B') (fun x _ => (X0.length - x.1).toNat) ⟨by simp, by simp, X, F, h3.as, ho, hFB⟩ ?_
  have hB300 : B' ≤ 300 := by omega
  clear h3 ho hFB hFl
  rintro ⟨i, _⟩ w4 ⟨h0, hi, X, F, h4, ho, hFB⟩ J
  simp only [] at h0 hi
  have hXl := ho.len
  have hbX : ∀ x ∈ X, 0 ≤ x.1 ∧ 1 ≤ x.2 ∧ x.1 + x.2 ≤ B' := fun x hx => by have := ho.bound x hx; omega
  have hbX' : ∀ x ∈ X, 0 ≤ x.1 ∧ 1 ≤ x.2 ∧ x.1 + x.2 ≤ 1000000 := fun x hx => by have := hbX x hx; omega
  refine BIF.dec (fun hc => ?_) fun hc => ?_
  · have hc : i < (X0.length : Int) := by rw [hn] at hc; exact hc
    obtain ⟨x, hx⟩ : ∃ x, X0[i.toNat]? = some x := ⟨X0[i.toNat], List.getElem?_eq_getElem (by omega)⟩
    have e1 : IntKind.wrap .i64 (i + 1) = i + 1 := wrap64 (by omega) (by omega)
    refine ilA (d := l) (h4.irow hl) three_len h0 hx ⟨_, _, _, rfl, newA (vs := three x) h4 fun w5 v h5 => ?_⟩
    obtain ⟨op, a, n⟩ := x
    refine JOIN.mk (fun s w' => s.1 = true ∧ ∃ (X' : List Rn) (F' : List Bool), SAT w w' [runs p B' X', mr q F'] ∧ Of X' F' ∧ (F'.length : Int) = B') ?_ ?_
    · refine sld h5 (hk := ⟨_, rfl, ?_⟩)
      refine JOIN.mk (fun s w' => w5 = w' ∧ s.1 = (op == 0 || op == 1 || op == 2)) ?_ ?_
      · refine BIF.mk (fun hq => ⟨rfl, by simp [hq]⟩) fun hq => BIF.mk (fun hq2 => ⟨rfl, by simp [hq2]⟩) fun hq2 => ⟨rfl, by simp [hq, hq2]⟩
      rintro ⟨t, _⟩ _ ⟨rfl, rfl⟩ J
      refine BIF.mk (fun hq => ?_) fun hq => ?_
      · -- Take
        refine sld h5 (hk := ⟨_, rfl, ?_⟩)
        refine fn19 (n := n) (h5.at (runs p B' X)) (by omega) hbX' (fun hno w6 h6 => ?_) fun A y C hX h1 h2 h3 w6 h6 => ?_
        · refine ⟨_, _, rfl, sld h6 (hk := ⟨_, rfl, fn25 (n := n) (h6.at (mr q F)) (by omega) (fun _ w7 h7 => ?_) fun A y C hX h1 h2 h3 w7 h7 => ?_⟩)⟩
          · exact ⟨_, _, rfl, BIF.yes rfl ⟨rfl, X, F, h7.as, ho, hFB⟩⟩
          · exfalso
            rw [← ho.eq] at hX
            rcases hno with hno | hno
            · omega
            · have := hno y (by rw [hX]; simp); omega
        · refine ⟨_, _, rfl, sld h6 (hk := ⟨_, rfl, fn25 (n := n) (h6.at (mr q F)) (by omega) (fun hno w7 h7 => ?_) fun A' y' C' hX' h1' h2' h3' w7 h7 => ?_⟩)⟩
          · exfalso
            rw [← ho.eq] at hno
            rcases hno with hno | hno
            · omega
            · have := hno y (by rw [hX]; simp); omega
          · rw [← ho.eq, hX] at hX'
            obtain ⟨rfl, rfl, rfl⟩ := first_eq hX' h3 h2 h3' h2'
            rw [hX] at ho
            obtain ⟨o1, o2⟩ := of_take ho h1 h2
            exact ⟨_, _, rfl, BIF.yes (by simp) ⟨by simp, _, _, h7.as, o1, by omega⟩⟩
      · refine BIF.mk (fun hq3 => ?_) fun hq3 => ?_
        · -- Mark
          refine DRAW.mk (fun w' => Blk w' v 65 (three (op, a, n))) ?_
          have hS : Blk (drew w5) v 65 (three (op, a, n)) := h5.drew.celAt v
          refine HELD.ld hS (fun _ h => h) rfl ⟨_, rfl, HELD.ld hS (fun _ h => h) rfl ⟨_, rfl, HELD.ld hS (fun _ h => h) rfl ⟨_, rfl, HELD.ld hS (fun _ h => h) rfl ⟨_, rfl, ?_⟩⟩⟩⟩
          have h5' := h5.drew
          refine fn26 (a := a) (n := n) (h5'.at (runs p B' X)) (by omega) (by omega) hbX (fun hno w6 h6 => ⟨_, rfl, h6.celAt v, ?_⟩) fun A y C hX ha hn1 hy1 hy2 w6 h6 => ⟨_, rfl, h6.celAt v, ?_⟩
          · refine fn27 (a := a) (n := n) (h6.at (mr q F)) (by omega) (fun _ w7 h7 => ?_) fun ha hn1 hl1 hall w7 h7 => ?_
            · exact ⟨_, rfl, h7.celAt v, rfl, X, F, h7.as, ho, hFB⟩
            · exfalso
              have hcov : ∀ k, a ≤ k → k < a + n → Go.Runs.cov X k := fun k hk1 hk2 => (ho.2 k).2 ⟨k.toNat, by omega, hall _ (by omega) (by omega)⟩
              obtain ⟨y, hy, hy2⟩ := Go.Runs.cov_run ho.1 hn1 hcov
              rcases hno with hno | hno
              · omega
              · exact hno y hy hy2
          · have hby := hbX y (by rw [hX]; simp)
            refine fn27 (a := a) (n := n) (h6.at (mr q F)) (by omega) (fun hno w7 h7 => ?_) fun _ _ hl1 _ w7 h7 => ?_
            · exfalso
              refine hno ⟨ha, hn1, by omega, fun k hk1 hk2 => ?_⟩
              obtain ⟨j, hj, hF⟩ := (ho.2 k).1 ⟨y, by rw [hX]; simp, by omega, by omega⟩
              have : k = j := by omega
              rw [this]; exact hF
            · have ea : ((a.toNat : Nat) : Int) = a := by omega
              have en : ((n.toNat : Nat) : Int) = n := by omega
              rw [hX] at ho
              have o1 := Go.Runs.of_mark (at_ := a.toNat) (n := n.toNat) ho (by omega) (by omega) (by omega) (by omega)
              rw [ea, en] at o1
              have o2 := Go.Runs.setR_len (F := F) (at_ := a.toNat) (n := n.toNat) (b := false) (by omega)
              exact ⟨_, rfl, h7.celAt v, rfl, _, _, h7.as, o1, by omega⟩
        · refine JOIN.mk (fun s w' => w5 = w') ?_ ?_
          · exact BIF.mk (fun _ => rfl) fun _ => BIF.mk (fun _ => rfl) fun _ => rfl
          rintro ⟨t, _⟩ _ rfl J
          refine BIF.mk (fun hq4 => ?_) fun hq4 => ⟨rfl, X, F, h5.as, ho, hFB⟩
          -- Give
          refine DRAW.mk (fun w' => Blk w' v 65 (three (op, a, n))) ?_
          have hS : Blk (drew w5) v 65 (three (op, a, n)) := h5.drew.celAt v
          refine HELD.ld hS (fun _ h => h) rfl ⟨_, rfl, HELD.ld hS (fun _ h => h) rfl ⟨_, rfl, HELD.ld hS (fun _ h => h) rfl ⟨_, rfl, HELD.ld hS (fun _ h => h) rfl ⟨_, rfl, ?_⟩⟩⟩⟩
          have h5' := h5.drew
          refine fn22 (a := a) (n := n) (h5'.at (runs p B' X)) (by omega) (by omega) hbX (fun hno w6 h6 => ⟨_, rfl, h6.celAt v, ?_⟩) (fun ha hn1 hB1 A C hsp hbad w6 h6 => ⟨_, rfl, h6.celAt v, ?_⟩) fun ha hn1 hB1 A C hsp hl1 hl2 w6 h6 => ⟨_, rfl, h6.celAt v, ?_⟩
          · refine fn28 (a := a) (n := n) (h6.at (mr q F)) (by omega) (fun _ w7 h7 => ?_) fun ha hn1 hl1 hall w7 h7 => ?_
            · exact ⟨_, rfl, h7.celAt v, rfl, X, F, h7.as, ho, hFB⟩
            · exfalso; omega
          · obtain ⟨k, hk1, hk2, hkc⟩ := Go.Runs.give_no ho.1 hsp hn1 hbad
            obtain ⟨j, hj, hF⟩ := (ho.2 k).1 hkc
            refine fn28 (a := a) (n := n) (h6.at (mr q F)) (by omega) (fun _ w7 h7 => ?_) fun _ _ _ hall w7 h7 => ?_
            · exact ⟨_, rfl, h7.celAt v, rfl, X, F, h7.as, ho, hFB⟩
            · exfalso
              have := hall j (by omega) (by omega)
              rw [hF] at this; cases this
          · refine fn28 (a := a) (n := n) (h6.at (mr q F)) (by omega) (fun hno w7 h7 => ?_) fun _ _ _ _ w7 h7 => ?_
            · exfalso
              refine hno ⟨ha, hn1, by omega, fun k hk1 hk2 => ?_⟩
              have hnc := Go.Runs.give_yes ho.1 hsp hn1 hl1 hl2 (k := k) (by omega) (by omega)
              cases hb : F[k]? with
              | none => rw [List.getElem?_eq_none_iff] at hb; omega
              | some t =>
                cases t
                · rfl
                · exact absurd ((ho.2 k).2 ⟨k, rfl, hb⟩) hnc
            · have ea : ((a.toNat : Nat) : Int) = a := by omega
              have en : ((n.toNat : Nat) : Int) = n := by omega
              have o1 := Go.Runs.of_give (at_ := a.toNat) (n := n.toNat) ho (by rw [ea]; exact hsp) (by omega) (by omega) (by rw [ea]; exact hl1) (by rw [ea, en]; exact hl2)
              rw [ea, en] at o1
              have o2 := Go.Runs.setR_len (F := F) (at_ := a.toNat) (n := n.toNat) (b := true) (by omega)
              exact ⟨_, rfl, h7.celAt v, rfl, _, _, h7.as, o1, by omega⟩
    rintro ⟨t, _⟩ w6 ⟨rfl, X', F', h6, ho', hFB'⟩ J
    refine BIF.no rfl (fn29 h6 ho' (by omega) fun w7 h7 => ⟨_, rfl, BIF.no rfl ?_⟩)
    simp only [e1]
    exact ⟨⟨by omega, by omega, X', F', h7, ho', hFB'⟩, by omega⟩
  · refine fn20 h4 (by omega) fun w5 p2 h5 => ⟨_, rfl, fn29 (h5.at2 (runs p2 B' X) (mr q F)) ho (by omega) fun w6 h6 => ⟨_, rfl, hk w6 h6.fr⟩⟩
end
end Go.Proofs.Ytdabjchdmieegaa

