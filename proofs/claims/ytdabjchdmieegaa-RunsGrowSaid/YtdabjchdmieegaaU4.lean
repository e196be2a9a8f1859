/-
  The program's Runs: Give.
-/
import Derived.Test.YtdabjchdmieegaaU3
set_option linter.unusedVariables false
set_option linter.unnecessarySimpa false
set_option linter.unusedSimpArgs false
namespace Go.Proofs.Ytdabjchdmieegaa
open Go Go.Lift Go.RowKit
open Go.Runs (Rn Spot joinL joinR)
section
variable {g w w' : World} {L R : List Asn}
variable {K : Value → World → Prop} {E : List PanicEntry → World → Prop}

theorem last_take {X : List Rn} {i : Nat} (h0 : 0 < i) (hi : i ≤ X.length) : (X.take i).getLast? = X[i - 1]? := by
  obtain ⟨j, rfl⟩ : ∃ j, i = j + 1 := ⟨i - 1, by omega⟩
  have hj : X[j]? = some X[j] := List.getElem?_eq_getElem (by omega)
  simp only [Nat.add_sub_cancel, List.take_add_one, hj, Option.toList_some, List.getLast?_append, List.getLast?_singleton, Option.some_or]

/-- Give -/
theorem fn22 {p : Nat} {B : Int} {X : List Rn} {a n : Int} (h : SAT g w (runs p B X :: R)) (hX : X.length ≤ 100000) (hB : B ≤ 1000000) (hb : ∀ x ∈ X, 0 ≤ x.1 ∧ 1 ≤ x.2 ∧ x.1 + x.2 ≤ B)
    (hun : ¬ (0 ≤ a ∧ 1 ≤ n ∧ a + n ≤ B) → ∀ w', SAT g w' (runs p B X :: R) → K (.bool false) w')
    (hno : 0 ≤ a → 1 ≤ n → a + n ≤ B → ∀ A C, Spot X A C a → ((∃ y, A.getLast? = some y ∧ y.1 + y.2 > a) ∨ ∃ z, C.head? = some z ∧ a + n > z.1) → ∀ w', SAT g w' (runs p B X :: R) → K (.bool false) w')
    (hyes : 0 ≤ a → 1 ≤ n → a + n ≤ B → ∀ A C, Spot X A C a → (∀ y, A.getLast? = some y → y.1 + y.2 ≤ a) → (∀ z, C.head? = some z → a + n ≤ z.1) →
      ∀ w', SAT g w' (runs p B ((joinL A a n).1 ++ (joinR C (joinL A a n).2 (a + n)).2 :: (joinR C (joinL A a n).2 (a + n)).1) :: R) → K (.bool true) w') :
    FN Try.prog 22 #[.pointer (some ⟨p, 0, none⟩), .int .i64 a, .int .i64 n] w K E := by
  refine R22_ok (fn50 h hB ⟨_, rfl, BIF.mk (fun hc => ?_) fun hc => ?_⟩)
  · exact hun (by simpa only [Bool.not_eq_true', decide_eq_false_iff_not] using hc) w h
  obtain ⟨ha0, hn1, hanB⟩ : 0 ≤ a ∧ 1 ≤ n ∧ a + n ≤ B := by simpa using hc
  obtain ⟨d, h⟩ := runs_open h
  have hl := (h.rowAt d).elen two_len (by decide)
  have hd : ∀ w', SAT g w' (cel p 93 [.int .i64 B, sl d] :: row 56 2 d (X.flatMap two) :: R) → SRow w' 56 2 d.1 d.2.1 d.2.2 (X.flatMap two) := fun w' h' => h'.rowAt d
  have e3 : IntKind.wrap .i64 (a + n) = a + n := wrap64 (by omega) (by omega)
  refine JOIN.mk (fun s w' => SAT g w' (cel p 93 [.int .i64 B, sl d] :: row 56 2 d (X.flatMap two) :: R) ∧ 0 ≤ s.1 ∧ s.1 ≤ X.length ∧ Spot X (X.take s.1.toNat) (X.drop s.1.toNat) a) ?_ ?_
  · refine LOOP.mk (fun x w' => SAT g w' (cel p 93 [.int .i64 B, sl d] :: row 56 2 d (X.flatMap two) :: R) ∧ 0 ≤ x.1 ∧ x.1 ≤ X.length ∧ ∀ y ∈ X.take x.1.toNat, y.1 < a) (fun x _ => (X.length - x.1).toNat) ⟨h, by simp, by simp, by simp⟩ ?_
    rintro ⟨i, _⟩ w1 ⟨h1, h0, hi, hall⟩ J
    simp only [] at h0 hi hall
    refine sld h1 (hk := ⟨_, _, _, rfl, BIF.dec (fun hc => ?_) fun hc => ?_⟩)
    · have hc : i < (X.length : Int) := by rw [hl] at hc; exact hc
      obtain ⟨x, hx⟩ : ∃ x, X[i.toNat]? = some x := ⟨X[i.toNat], List.getElem?_eq_getElem (by omega)⟩
      have e1 : IntKind.wrap .i64 (i + 1) = i + 1 := wrap64 (by omega) (by omega)
      have e2 : (i + 1).toNat = i.toNat + 1 := by omega
      refine sld h1 (hk := ⟨_, _, _, rfl, elF0 (d := d) (hd _ h1) two_len h0 hx rfl ⟨_, rfl, BIF.dec (fun hq => ?_) fun hq => ?_⟩⟩)
      · simp only [e1, e2]
        exact ⟨⟨h1, by omega, by omega, take_all hx hall hq⟩, by omega⟩
      · exact ⟨h1, h0, hi, ⟨(List.take_append_drop _ _).symm, hall, fun z hz => by rw [List.head?_drop, hx] at hz; cases hz; omega⟩⟩
    · have hc : ¬ i < (X.length : Int) := by rw [hl] at hc; exact hc
      refine ⟨h1, h0, hi, ⟨(List.take_append_drop _ _).symm, hall, fun z hz => ?_⟩⟩
      rw [List.head?_drop, List.getElem?_eq_none (by omega)] at hz
      cases hz
  rintro ⟨i, _⟩ w1 ⟨h1, h0, hi, hpl⟩ J
  simp only [] at h0 hi hpl
  have hlast : ∀ {y : Rn}, (X.take i.toNat).getLast? = some y → 0 < i := fun {y} hy => by
    by_cases hz : 0 < i
    · exact hz
    · have : i.toNat = 0 := by omega
      rw [this] at hy; simp at hy
  have hlast2 : 0 < i → ∃ y, X[(i - 1).toNat]? = some y ∧ (X.take i.toNat).getLast? = some y := fun hz => by
    have e : (i - 1).toNat = i.toNat - 1 := by omega
    refine ⟨X[i.toNat - 1], by rw [e]; exact List.getElem?_eq_getElem (by omega), ?_⟩
    rw [last_take (by omega) (by omega)]
    exact List.getElem?_eq_getElem (by omega)
  have hhead : i < (X.length : Int) → ∃ z, X[i.toNat]? = some z ∧ (X.drop i.toNat).head? = some z := fun hz => by
    refine ⟨X[i.toNat], List.getElem?_eq_getElem (by omega), ?_⟩
    rw [List.head?_drop]
    exact List.getElem?_eq_getElem (by omega)
  have hhead2 : ¬ i < (X.length : Int) → (X.drop i.toNat).head? = none := fun hz => by
    rw [List.head?_drop, List.getElem?_eq_none (by omega)]
  have ei : 0 < i → IntKind.wrap .i64 (i - 1) = i - 1 := fun _ => wrap64 (by omega) (by omega)
  refine JOIN.mk (fun _ w' => SAT g w' (cel p 93 [.int .i64 B, sl d] :: row 56 2 d (X.flatMap two) :: R) ∧ (∀ y, (X.take i.toNat).getLast? = some y → y.1 + y.2 ≤ a) ∧ ∀ z, (X.drop i.toNat).head? = some z → a + n ≤ z.1) ?_ ?_
  · refine DRAW.sat h1 fun h1 => ?_
    -- the right side
    have right : (∀ y, (X.take i.toNat).getLast? = some y → y.1 + y.2 ≤ a) → ∀ (Q : Prop), ((∀ z, (X.drop i.toNat).head? = some z → a + n ≤ z.1) → Q) →
        HELD Try.prog (fun _ w' => SAT g w' (cel p 93 [.int .i64 B, sl d] :: row 56 2 d (X.flatMap two) :: R)) (sV (Instr.loadAt 52 (.pointer (some ⟨p, 1, none⟩)))) (drew w1) (fun r => ∃ (v : Option Addr) (vl vc : Nat), r = (.slice v vl vc) ∧
          BIF (decide (i < (vl : Int)))
          (HELD Try.prog (fun _ w' => SAT g w' (cel p 93 [.int .i64 B, sl d] :: row 56 2 d (X.flatMap two) :: R)) (sV (Instr.loadAt 52 (.pointer (some ⟨p, 1, none⟩)))) (drew w1) (fun r => ∃ (v : Option Addr) (vl vc : Nat), r = (.slice v vl vc) ∧
            IDX 2 v vl i (fun a_1 => HELD Try.prog (fun _ w' => SAT g w' (cel p 93 [.int .i64 B, sl d] :: row 56 2 d (X.flatMap two) :: R)) (sV (Instr.loadAt 3 (.pointer (some a_1)))) (drew w1) (fun r => ∃ v_1 : Int, r = .int .i64 v_1 ∧ BIF (decide (IntKind.wrap .i64 (a + n) > v_1)) (K (.bool false) (drew w1)) Q))))
          Q) := by
      intro hleft Q hQ
      refine hsld h1 ⟨_, _, _, rfl, BIF.dec (fun hc => ?_) fun hc => ?_⟩
      · have hc : i < (X.length : Int) := by rw [hl] at hc; exact hc
        obtain ⟨z, hz, hz2⟩ := hhead hc
        refine hsld h1 ⟨_, _, _, rfl, helF0 (d := d) h1 (.tail (.head _)) two_len h0 hz rfl ⟨_, rfl, BIF.dec (fun hq => ?_) fun hq => ?_⟩⟩
        · rw [e3] at hq
          exact hno ha0 hn1 hanB _ _ hpl (.inr ⟨z, hz2, hq⟩) _ (runs_shut h1)
        · rw [e3] at hq
          exact hQ fun z' hz' => by rw [hz2] at hz'; cases hz'; omega
      · have hc : ¬ i < (X.length : Int) := by rw [hl] at hc; exact hc
        exact hQ fun z' hz' => by rw [hhead2 hc] at hz'; cases hz'
    refine BIF.dec (fun hc => ?_) fun hc => ?_
    · obtain ⟨y, hy, hy2⟩ := hlast2 hc
      have hby := hb y (List.mem_of_getElem? hy)
      have e4 : IntKind.wrap .i64 (y.1 + y.2) = y.1 + y.2 := wrap64 (by omega) (by omega)
      rw [ei hc]
      refine hsld h1 ⟨_, _, _, rfl, helF0 (d := d) h1 (.tail (.head _)) two_len (by omega) hy rfl ⟨_, rfl, ?_⟩⟩
      refine hsld h1 ⟨_, _, _, rfl, helF (d := d) h1 (.tail (.head _)) two_len (by omega) hy rfl ⟨_, rfl, BIF.dec (fun hq => ?_) fun hq => ?_⟩⟩
      · rw [e4] at hq
        exact hno ha0 hn1 hanB _ _ hpl (.inl ⟨y, hy2, hq⟩) _ (runs_shut h1)
      · rw [e4] at hq
        have hleft : ∀ y, (X.take i.toNat).getLast? = some y → y.1 + y.2 ≤ a := fun y' hy' => by rw [hy2] at hy'; cases hy'; omega
        exact right hleft _ fun hr => ⟨h1, hleft, hr⟩
    · have hleft : ∀ y, (X.take i.toNat).getLast? = some y → y.1 + y.2 ≤ a := fun y' hy' => absurd (hlast hy') hc
      exact right hleft _ fun hr => ⟨h1, hleft, hr⟩
  rintro ⟨⟩ w2 ⟨h2, hleft, hright⟩ J
  have hyes := hyes ha0 hn1 hanB _ _ hpl hleft hright
  refine newA (vs := two (a, n)) h2 fun w3 xv h3 => ?_
  refine JOIN.mk (fun s w' => SAT g w' (cel xv 56 (two (joinL (X.take i.toNat) a n).2) :: cel p 93 [.int .i64 B, sl d] :: row 56 2 d (X.flatMap two) :: R) ∧ 0 ≤ s.1 ∧ s.1 ≤ i ∧ X.take s.1.toNat = (joinL (X.take i.toNat) a n).1) ?_ ?_
  · refine JOIN.mk (fun s w' => SAT g w' (cel xv 56 (two (a, n)) :: cel p 93 [.int .i64 B, sl d] :: row 56 2 d (X.flatMap two) :: R) ∧ s.1 = decide (∃ y, (X.take i.toNat).getLast? = some y ∧ y.1 + y.2 = a)) ?_ ?_
    · refine DRAW.sat h3 fun h3 => ?_
      refine BIF.dec (fun hc => ?_) fun hc => ?_
      · obtain ⟨y, hy, hy2⟩ := hlast2 hc
        have hby := hb y (List.mem_of_getElem? hy)
        have e4 : IntKind.wrap .i64 (y.1 + y.2) = y.1 + y.2 := wrap64 (by omega) (by omega)
        rw [ei hc]
        refine hsld h3 ⟨_, _, _, rfl, helF0 (d := d) h3 (.tail (.tail (.head _))) two_len (by omega) hy rfl ⟨_, rfl, ?_⟩⟩
        refine hsld h3 ⟨_, _, _, rfl, helF (d := d) h3 (.tail (.tail (.head _))) two_len (by omega) hy rfl ⟨_, rfl, h3, ?_⟩⟩
        rw [e4, hy2]
        simp
        by_cases h : y.1 + y.2 = a <;> simp [h]
      · refine ⟨h3, ?_⟩
        symm; rw [decide_eq_false_iff_not]
        rintro ⟨y, hy, _⟩
        exact hc (hlast hy)
    rintro ⟨t, _⟩ w4 ⟨h4, ht⟩ J
    simp only [] at ht
    subst ht
    refine BIF.dec (fun hc => ?_) fun hc => ?_
    · obtain ⟨y, hy, hya⟩ := hc
      have hi0 := hlast hy
      obtain ⟨y', hy', hy2'⟩ := hlast2 hi0
      rw [hy] at hy2'; cases hy2'
      have hby := hb y (List.mem_of_getElem? hy')
      have e5 : IntKind.wrap .i64 (y.2 + n) = y.2 + n := wrap64 (by omega) (by omega)
      rw [ei hi0]
      have hj : joinL (X.take i.toNat) a n = ((X.take i.toNat).dropLast, (y.1, y.2 + n)) := by unfold joinL; rw [hy]; simp only [if_pos hya]
      rw [hj]
      refine DRAW.sat h4 fun h4 => ?_
      refine hsld h4 ⟨_, _, _, rfl, helF0 (d := d) h4 (.tail (.tail (.head _))) two_len (by omega) hy' rfl ⟨_, rfl, ?_⟩⟩
      refine hsld h4 ⟨_, _, _, rfl, helF (d := d) h4 (.tail (.tail (.head _))) two_len (by omega) hy' rfl ⟨_, rfl, ?_⟩⟩
      rw [e5]
      refine sstA (vs := two (y.1, y.2 + n)) h4 (fun w5 h5 => ⟨h5, by simp only []; omega, by simp only []; omega, ?_⟩)
      have e : (i - 1).toNat = i.toNat - 1 := by omega
      simp only [e]
      rw [List.dropLast_eq_take, List.length_take, List.take_take]
      exact congrArg (fun t => X.take t) (by omega)
    · have hj : joinL (X.take i.toNat) a n = (X.take i.toNat, (a, n)) := by
        unfold joinL
        cases hg : (X.take i.toNat).getLast? with
        | none => rfl
        | some y => simp only; rw [if_neg fun e => hc ⟨y, hg, e⟩]
      rw [hj]
      exact ⟨h4, h0, Int.le_refl _, rfl⟩
  rintro ⟨fr, _⟩ w4 ⟨h4, hf0, hfi, hft⟩ J
  simp only [] at hf0 hfi hft
  have hjb : 0 ≤ (joinL (X.take i.toNat) a n).2.2 ∧ (joinL (X.take i.toNat) a n).2.2 ≤ 2 * B := by
    unfold joinL
    cases hg : (X.take i.toNat).getLast? with
    | none => simp only; omega
    | some y =>
      have hby := hb y (List.mem_of_mem_take (List.mem_of_getLast? hg))
      simp only
      split <;> (simp only; omega)
  generalize joinL (X.take i.toNat) a n = jl at *
  refine JOIN.mk (fun s w' => SAT g w' (cel xv 56 (two (joinR (X.drop i.toNat) jl.2 (a + n)).2) :: cel p 93 [.int .i64 B, sl d] :: row 56 2 d (X.flatMap two) :: R) ∧ i ≤ s.1 ∧ s.1 ≤ X.length ∧ X.drop s.1.toNat = (joinR (X.drop i.toNat) jl.2 (a + n)).1) ?_ ?_
  · refine JOIN.mk (fun s w' => SAT g w' (cel xv 56 (two jl.2) :: cel p 93 [.int .i64 B, sl d] :: row 56 2 d (X.flatMap two) :: R) ∧ s.1 = decide (∃ z, (X.drop i.toNat).head? = some z ∧ a + n = z.1)) ?_ ?_
    · refine sld h4 (hk := ⟨_, _, _, rfl, BIF.dec (fun hc => ?_) fun hc => ?_⟩)
      · have hc : i < (X.length : Int) := by rw [hl] at hc; exact hc
        obtain ⟨z, hz, hz2⟩ := hhead hc
        refine sld h4 (hk := ⟨_, _, _, rfl, elF0 (d := d) (h4.rowAt d) two_len h0 hz rfl ⟨_, rfl, h4, ?_⟩⟩)
        rw [e3, hz2]
        simp
        by_cases h : a + n = z.1 <;> simp [h]
      · have hc : ¬ i < (X.length : Int) := by rw [hl] at hc; exact hc
        refine ⟨h4, ?_⟩
        symm; rw [decide_eq_false_iff_not]
        rintro ⟨z, hz, _⟩
        rw [hhead2 hc] at hz; cases hz
    rintro ⟨t, _⟩ w5 ⟨h5, ht⟩ J
    simp only [] at ht
    subst ht
    refine BIF.dec (fun hc => ?_) fun hc => ?_
    · obtain ⟨z, hz, hza⟩ := hc
      have hil : i < (X.length : Int) := by
        by_cases h : i < (X.length : Int)
        · exact h
        · rw [hhead2 h] at hz; cases hz
      obtain ⟨z', hz', hz2'⟩ := hhead hil
      rw [hz] at hz2'; cases hz2'
      have hbz := hb z (List.mem_of_getElem? hz')
      have hdr : X.drop i.toNat = z :: X.drop (i.toNat + 1) := by
        rw [List.drop_eq_getElem_cons (by omega)]
        rw [List.getElem?_eq_getElem (by omega)] at hz'
        rw [Option.some.inj hz']
      have hj : joinR (X.drop i.toNat) jl.2 (a + n) = (X.drop (i.toNat + 1), (jl.2.1, jl.2.2 + z.2)) := by unfold joinR; rw [hdr]; simp only [if_pos hza]
      rw [hj]
      refine DRAW.sat h5 fun h5 => ?_
      refine hsld h5 (b := xv) (cs := two jl.2) ⟨_, rfl, ?_⟩
      refine hsld h5 ⟨_, _, _, rfl, helF (d := d) h5 (.tail (.tail (.head _))) two_len h0 hz' rfl ⟨_, rfl, ?_⟩⟩
      refine sst h5 (b := xv) (cs := two jl.2) (ho := by show 1 < 2; decide) (hk := fun w6 h6 => ?_) (hu := .head _)
      have e1 : IntKind.wrap .i64 (i + 1) = i + 1 := wrap64 (by omega) (by omega)
      have e2 : (i + 1).toNat = i.toNat + 1 := by omega
      have e4 : IntKind.wrap .i64 (jl.2.2 + z.2) = jl.2.2 + z.2 := wrap64 (by omega) (by omega)
      simp only [e1, e2]
      rw [e4] at h6
      exact ⟨h6, by omega, by omega, trivial⟩
    · have hj : joinR (X.drop i.toNat) jl.2 (a + n) = (X.drop i.toNat, jl.2) := by
        unfold joinR
        cases hg : X.drop i.toNat with
        | nil => rfl
        | cons z C => simp only; rw [if_neg fun e => hc ⟨z, by rw [hg]; rfl, e⟩]
      rw [hj]
      exact ⟨h5, Int.le_refl _, hi, rfl⟩
  rintro ⟨to, _⟩ w5 ⟨h5, ht0, htl, htd⟩ J
  simp only [] at ht0 htl htd
  generalize joinR (X.drop i.toNat) jl.2 (a + n) = jr at *
  refine DRAW.sat h5 fun h5 => hsld h5 ⟨_, _, _, rfl, hsldA h5 (b := xv) (cs := two jr.2) (vs := two jr.2) ⟨_, _, rfl, ?_⟩⟩
  refine slit (xs := [jr.2].flatMap two) h5 sb52 (items := [(0, .agg #[.int .i64 jr.2.1, .int .i64 jr.2.2])]) (hk := fun w6 b h6 => ⟨_, _, _, rfl, h6.drop, ?_⟩)
  refine fn51 (h6.rowAt d) (h6.rowAt (some ⟨b, 0, none⟩, 1, 1)) (h6.at2 (row 56 2 (some ⟨b, 0, none⟩, 1, 1) _) (row 56 2 d _)).rowsApart (by rw [hl]; omega) hf0 (by omega) (by omega) (enc_one two_one X) (enc_one two_one _) fun w7 a' c' hr hs ho => ⟨_, _, _, rfl, ?_⟩
  rw [enc_take two_len, enc_drop two_len, ← List.flatMap_append, ← List.flatMap_append, hft, htd] at hr
  have h7 := h6.turnRow (d := d) (d' := (a', fr.toNat + 1 + (d.2.1 - to.toNat), c')) (.tail (.tail (.tail (.head _)))) hs hr ho
  refine sst h7 (b := p) (hk := fun w8 h8 => hyes w8 (runs_shut (d := (a', fr.toNat + 1 + (d.2.1 - to.toNat), c')) ?_))
  have h9 := h8.at2 (cel p 93 _) (row 56 2 (a', fr.toNat + 1 + (d.2.1 - to.toNat), c') _)
  rw [List.append_assoc] at h9
  exact h9.as
end
end Go.Proofs.Ytdabjchdmieegaa

