/-
  The law of one platter against the model, over a list of deeds that came in.
-/
import Derived.Test.YtdabjchdmieegaaW12
set_option linter.unusedVariables false
namespace Go.Proofs.Ytdabjchdmieegaa
open Go Go.Lift Go.RowKit

/-- A list of deeds, as it came in. -/
structure Deeds (B0 : Nat) (w : World) (l : D) (L : List (Dd × D × D)) : Prop where
  row : IRow w 6 l.1 l.2.1 l.2.2 (L.flatMap fun x => x.1.cells x.2.1 x.2.2)
  lin : ∀ b ∈ seenB l.1 l.2.1, b < B0
  each : ∀ x ∈ L, Deed B0 w x.1 x.2.1 x.2.2

theorem deeds_len (L : List (Dd × D × D)) : (L.flatMap fun x => x.1.cells x.2.1 x.2.2).length = L.length * 6 := by
  induction L with
  | nil => rfl
  | cons x L ih => simp only [List.flatMap_cons, List.length_append, ih, List.length_cons, List.length_nil]; omega
theorem deeds_get : ∀ (L : List (Dd × D × D)) (i : Nat) (x : Dd × D × D), L[i]? = some x → ∀ j u, (x.1.cells x.2.1 x.2.2)[j]? = some u → (L.flatMap fun x => x.1.cells x.2.1 x.2.2)[i * 6 + j]? = some u
  | y :: L, 0, x, h, j, u, hu => by
    simp at h; subst h
    have hj : j < (y.1.cells y.2.1 y.2.2).length := by
      rcases Nat.lt_or_ge j (y.1.cells y.2.1 y.2.2).length with h | h
      · exact h
      · rw [List.getElem?_eq_none h] at hu; cases hu
    simp only [List.flatMap_cons, Nat.zero_mul, Nat.zero_add]
    rw [List.getElem?_append_left hj]; exact hu
  | y :: L, i + 1, x, h, j, u, hu => by
    have := deeds_get L i x (by simpa using h) j u hu
    have e : (i + 1) * 6 + j = (y.1.cells y.2.1 y.2.2).length + (i * 6 + j) := by simp; omega
    simp only [List.flatMap_cons]
    rw [e, List.getElem?_append_right (by omega), Nat.add_sub_cancel_left]
    exact this

section
variable {w w' : World} {p m : Nat} {s : St} {S : List Nat} {B0 : Nat} {l : D} {L : List (Dd × D × D)}
variable {K : Value → World → Prop} {E : List PanicEntry → World → Prop}

theorem Deeds.sub (h : Deeds B0 w l L) (hs : Same S w w') (hn : ∀ b ∈ S, B0 ≤ b) : Deeds B0 w' l L :=
  ⟨h.row.keep hs fun b hb hm => Nat.not_le_of_lt (h.lin b hb) (hn b hm), h.lin, fun x hx => (h.each x hx).sub hs hn⟩
theorem Deeds.len (h : Deeds B0 w l L) : l.2.1 = L.length := by have := h.row.1; rw [deeds_len] at this; omega
theorem Deeds.at (h : Deeds B0 w l L) {i : Nat} (hi : i < L.length) : ∃ x b o, L[i]? = some x ∧ Deed B0 w x.1 x.2.1 x.2.2 ∧ l.1 = some ⟨b, o, none⟩ ∧ ∀ j u, (x.1.cells x.2.1 x.2.2)[j]? = some u → w.cell? ⟨b, o + i * 6 + j, none⟩ = some u := by
  obtain ⟨b, o, e, hc⟩ := h.row.cells (by rw [h.len]; omega)
  have hx : L[i]? = some L[i] := List.getElem?_eq_getElem hi
  refine ⟨L[i], b, o, hx, h.each _ (List.getElem_mem _), e, fun j u hu => ?_⟩
  rw [Nat.add_assoc, ← add_mk]
  exact hc _ _ (deeds_get L i _ hx j u hu)
theorem Deed.klen {d : Dd} {k f : D} (h : Deed B0 w d k f) : k.2.1 = d.keep.length := by have := h.keep.1; simp at this; omega
theorem Deed.flen {d : Dd} {k f : D} (h : Deed B0 w d k f) : f.2.1 = d.F.length := by have := h.flt.1; rw [pairs_len] at this; omega

def d4 (i : Int) : Dd := ⟨4, i, 0, 0, [], [], by omega, by omega⟩
theorem d4_deed (i : Int) : Deed B0 w (d4 i) (none, 0, 0) (none, 0, 0) := ⟨(SRow.nil w 4 1 none).seen, (SRow.nil w 106 2 none).seen, by simp [seenB], by simp [seenB]⟩

/-- The state stays small. -/
structure Small (s : St) (n : Nat) : Prop where
  C : s.C.length ≤ n
  F : s.F.length ≤ 20
  z : s.cnt.getD 0 0 = 0
theorem Small.step {n : Nat} (h : Small s n) (d : Dd) (hd : d.F.length ≤ 20) : Small (s.step d) (n + 1) :=
  ⟨Nat.le_trans (step_C s d) (Nat.succ_le_succ h.C), by have := step_F s d; have := h.F; omega, (step_cnt s d).trans h.z⟩
theorem Small.new (n : Nat) : Small (St.new n) 0 := ⟨by simp [St.new], by simp [St.new], rfl⟩

theorem fn11' (hB : ∀ b ∈ S, B0 ≤ b) (hB0 : B0 ≤ w.heap.size) (h : Two w p m s S) {n : Nat} (hs : Small s n) (hn : n ≤ 1000) {d : Dd} {k f : D} (hd : Deed B0 w d k f) (hk1 : d.keep.length ≤ 200) (hf1 : d.F.length ≤ 20)
    (hk : ∀ w' S', Two w' p m (s.step d) S' → Same S w w' → (∀ b ∈ S', b ∈ S ∨ w.heap.size ≤ b) → (∀ b ∈ S', B0 ≤ b) → Small (s.step d) (n + 1) → K (.bool true) w') :
    FN Try.prog 11 #[.pointer (some ⟨p, 0, none⟩), .pointer (some ⟨m, 0, none⟩), .agg (d.cells k f).toArray] w K E :=
  fn11 hB h (by have := hs.F; omega) (by have := hs.C; omega) hd (by omega) (by omega) fun w' S' h1 h2 h3 => hk w' S' h1 h2 h3 (fresh_trans hB hB0 h3) (hs.step d hf1)

/-- PlatterPlays -/
theorem fn3 {n : Int} (hl : Deeds w.heap.size w l L) (hk : ∀ w', Same [] w w' → K (.bool true) w') : FN Try.prog 3 #[.int .i64 n, sl l] w K E := by
  refine R3_ok (fn8 fun w1 hs1 => ⟨_, rfl, BIF.no rfl ?_⟩)
  have hl1 := hl.sub hs1 (by simp)
  have hll := hl.len
  refine JOIN.mk (fun _ w' => w' = w1 ∧ L.length ≤ 150) ?_ ?_
  · refine BIF.dec (fun _ => hk w1 hs1) fun hc => ?_
    have h150 : L.length ≤ 150 := by omega
    exact BIF.dec (fun _ => BIF.dec (fun _ => hk w1 hs1) fun _ => ⟨rfl, h150⟩) fun _ => ⟨rfl, h150⟩
  rintro _ wj ⟨ej, h150⟩ J
  subst wj
  by_cases hbad : n < 64 ∨ 8192 < n
  · refine fn9 (fun _ => ⟨_, _, rfl, fn10 (fun _ => ⟨_, _, rfl, ?_⟩) fun h h' => by omega⟩) fun h h' => by omega
    refine JOIN.mk (fun _ w' => w' = w1) (BIF.no rfl (neqPtrNil ⟨_, rfl, BIF.no rfl rfl⟩)) ?_
    rintro _ wj ej J
    subst wj
    exact BIF.yes rfl (hk w1 hs1)
  refine fn9 (fun h => absurd h hbad) fun _ _ w2 p own hP hs2 ho2 => ⟨_, _, rfl, fn10 (fun h => absurd h hbad) fun _ _ w3 m ownM hM hs3 ho3 => ⟨_, _, rfl, ?_⟩⟩
  refine JOIN.mk (fun _ w' => w' = w3) (BIF.no rfl (neqPtrNil ⟨_, rfl, BIF.no rfl rfl⟩)) ?_
  rintro _ wj ej J
  subst wj
  refine BIF.no rfl ?_
  have hs13 := hs1.trans (hs2.trans hs3)
  have htwo : Two w3 p m (St.new n.toNat) (own ++ ownM) := ⟨own, ownM, hP.nil (.inl rfl) hs3, hM, fun b hb hb' => by have := hP.lt b hb; have := ho3 b hb'; omega, rfl⟩
  have hfr : ∀ b ∈ own ++ ownM, w.heap.size ≤ b := fun b hb => (List.mem_append.1 hb).elim (fun h => Nat.le_trans hs1.size (ho2 b h)) fun h => Nat.le_trans (hs1.trans hs2).size (ho3 b h)
  refine LOOP.mk (fun x w' => 0 ≤ x.1 ∧ x.1 ≤ L.length ∧ Same [] w w' ∧ ∃ s S, Two w' p m s S ∧ (∀ b ∈ S, w.heap.size ≤ b) ∧ Small s x.1.toNat) (fun x _ => (L.length - x.1).toNat)
    ⟨by simp, by simp, hs13, _, _, htwo, hfr, Small.new _⟩ ?_
  rintro ⟨i, _⟩ w4 ⟨hi0, hi1, hs4, s, S, h4, hS, hsm⟩ J2
  simp only [] at hi0 hi1 hsm
  have hl4 := hl.sub hs4 (by simp)
  have e1 : IntKind.wrap .i64 (i + 1) = i + 1 := wrap64 (by omega) (by omega)
  have e2 : (i + 1).toNat = i.toNat + 1 := by omega
  refine BIF.dec (fun hc => ?_) fun hc => ?_
  · rw [hll] at hc
    have hc : i < (L.length : Int) := hc
    obtain ⟨x, b, o, hx, hdx, el, hcell⟩ := hl4.at (i := i.toNat) (by omega)
    have hk1 := hdx.klen
    have hf1 := hdx.flen
    refine JOIN.mk (fun _ w' => w' = w4 ∧ x.1.keep.length ≤ 200 ∧ x.1.F.length ≤ 20) ?_ ?_
    · refine IDX.at el hi0 (by omega) ?_
      rw [add_mk]
      refine ldC (hcell 4 (sl x.2.1) rfl) ⟨_, _, _, rfl, BIF.dec (fun _ => hk w4 hs4) fun hkk => ?_⟩
      refine IDX.at el hi0 (by omega) ?_
      rw [add_mk]
      refine ldC (hcell 5 (sl x.2.2) rfl) ⟨_, _, _, rfl, BIF.dec (fun _ => hk w4 hs4) fun hff => ⟨rfl, by omega, by omega⟩⟩
    rintro _ wj ⟨ej, hk200, hf20⟩ J3
    subst wj
    refine IDX.at el hi0 (by omega) (ldAC (n := 6) (vs := x.1.cells x.2.1 x.2.2) hcell rfl ⟨_, _, _, _, _, _, _, _, _, _, rfl, ?_⟩)
    refine fn11' hS hs4.size h4 hsm (by omega) hdx hk200 hf20 fun w5 S5 h5 hs5 ho5 hB5 hsm5 => ⟨_, rfl, BIF.no rfl ?_⟩
    have hs05 : Same [] w w5 := Same.fresh (B0 := 0) hs4 hs5 hS
    obtain ⟨o5, oM5, hP5, hM5, _, _⟩ := h5
    refine fn12 hP5 hM5 hsm5.z fun w6 hs6 => ⟨_, rfl, BIF.no rfl ?_⟩
    simp only [e1, e2]
    refine ⟨⟨by omega, by omega, hs05.trans hs6, s.step x.1, S5, Two.nil ⟨o5, oM5, hP5, hM5, by assumption, by assumption⟩ hs6, hB5, hsm5⟩, by omega⟩
  · rw [hll] at hc
    obtain ⟨o4, oM4, hP4, hM4, hd4, rfl⟩ := h4
    have hCs : s.C.length ≤ 150 := by have := hsm.C; omega
    have hFs := hsm.F
    refine fn13 hP4 (by omega) (by omega) fun w5 q ownq hP5 hq hs5 hoq => ⟨_, rfl, ?_⟩
    refine JOIN.mk (fun _ w' => w' = w5) ?_ ?_
    · refine eqlPtrNil ⟨_, rfl, BIF.no rfl ?_⟩
      obtain ⟨a, b, c, d, e, hq1, _⟩ := hq
      obtain ⟨a', b', c', d', e', hp1, _⟩ := hP5
      exact fn14 hq1 ⟨_, rfl, fn14 hp1 ⟨_, rfl, BIF.no (by simp) rfl⟩⟩
    rintro _ wj ej J3
    subst wj
    have hM5 := hM4.nil (.inr rfl) hs5
    refine fn15 hP5 (F := []) (by simp) (d := (none, 0, 0)) (SRow.nil w5 91 2 none) fun w6 o6 hP6 hs6 ho6 => ?_
    have hM6 := hM5.apart (.inr rfl) (.inl rfl) hP5 (fun b hb h => hd4 b h hb) hs6
    refine fn16 hM6 (F := []) (by simp) (d := (none, 0, 0)) (SRow.nil w6 106 2 none).seen fun w7 oM7 hM7 hs7 ho7 => ?_
    obtain ⟨t1, t2, t3⟩ := two_step hP5 hM5 hd4 hP6 hs6 ho6 hM7 hs7 ho7
    have hs05 := hs4.trans hs5
    have hs07 : Same [] w w7 := Same.fresh (B0 := 0) hs05 t2 hS
    have hB7 := fresh_trans hS hs05.size t3
    have hsm7 : Small (s.fail []) 150 := ⟨hCs, by simp [St.fail], hsm.z⟩
    refine LOOP.mk (fun x w' => 0 ≤ x.1 ∧ x.1 ≤ 70 ∧ Same [] w w' ∧ ∃ s S, Two w' p m s S ∧ (∀ b ∈ S, w.heap.size ≤ b) ∧ Small s (150 + x.1.toNat)) (fun x _ => (70 - x.1).toNat)
      ⟨by simp, by simp, hs07, _, _, t1, hB7, hsm7⟩ ?_
    rintro ⟨j, _⟩ w8 ⟨hj0, hj1, hs8, s8, S8, h8, hS8, hsm8⟩ J4
    simp only [] at hj0 hj1 hsm8
    have e1 : IntKind.wrap .i64 (j + 1) = j + 1 := wrap64 (by omega) (by omega)
    have e2 : 150 + (j + 1).toNat = 150 + j.toNat + 1 := by omega
    refine JOIN.mk (fun _ w' => w' = w8 ∧ j < 70) ?_ ?_
    · obtain ⟨_, _, _, ⟨a, b, c, d, e, hm1, _⟩, _, _⟩ := h8
      exact NILCHK.mk (ld hm1.blk rfl ⟨_, _, _, rfl, BIF.dec (fun _ => BIF.dec (fun h => ⟨rfl, h⟩) fun _ => hk w8 hs8) fun _ => hk w8 hs8⟩)
    rintro _ wj ⟨ej, hj70⟩ J5
    subst wj
    refine fn11' (d := d4 j) (k := (none, 0, 0)) (f := (none, 0, 0)) hS8 hs8.size h8 hsm8 (by omega) (d4_deed j) (by simp [d4]) (by simp [d4]) fun w9 S9 h9 hs9 ho9 hB9 hsm9 => ⟨_, rfl, BIF.no rfl ?_⟩
    simp only [e1, e2]
    exact ⟨⟨by omega, by omega, Same.fresh (B0 := 0) hs8 hs9 hS8, _, S9, h9, hB9, hsm9⟩, by omega⟩

end
end Go.Proofs.Ytdabjchdmieegaa
