/-
  The law of the copy: the original and the copy, each beside a model of its own.
-/
import Derived.Test.YtdabjchdmieegaaW14
set_option linter.unusedVariables false
namespace Go.Proofs.Ytdabjchdmieegaa
open Go Go.Lift Go.RowKit
section
variable {w w' : World} {p m q k : Nat} {s s' : St} {S S' : List Nat} {B0 : Nat}
variable {K : Value → World → Prop} {E : List PanicEntry → World → Prop}

def run (s : St) (L : List (Dd × D × D)) : St := L.foldl (fun s x => s.step x.1) s
theorem run_succ {s : St} {L : List (Dd × D × D)} {i : Nat} {x : Dd × D × D} (h : L[i]? = some x) : run s (L.take (i + 1)) = (run s (L.take i)).step x.1 := by
  simp only [run, List.take_add_one, h, Option.toList_some, List.foldl_append, List.foldl_cons, List.foldl_nil]

theorem Two.apart (h : Two w p m s S) (h' : Two w q k s' S') (hd : ∀ b ∈ S, b ∉ S') (hs : Same S' w w') : Two w' p m s S := by
  obtain ⟨a, b, h1, h2, h3, rfl⟩ := h
  exact ⟨a, b, h1.keep (.inl rfl) hs (fun x hx => hd x (List.mem_append_left _ hx)) h'.notCalm, h2.keep (.inr rfl) hs (fun x hx => hd x (List.mem_append_right _ hx)) h'.notCalm, h3, rfl⟩
theorem Obj.apartTwo {t : PT} {own : List Nat} (ht : t.ok) (h : Obj t w p s own) (h' : Two w q k s' S') (hd : ∀ b ∈ own, b ∉ S') (hs : Same S' w w') : Obj t w' p s own :=
  h.keep ht hs hd h'.notCalm
theorem grown_apart {own S S2 : List Nat} {n : Nat} (hd : ∀ b ∈ own, b ∉ S) (hl : ∀ b ∈ own, b < n) (h2 : ∀ b ∈ S2, b ∈ S ∨ n ≤ b) : ∀ b ∈ own, b ∉ S2 :=
  fun b hb hm => (h2 b hm).elim (hd b hb) fun h => Nat.not_le_of_lt (hl b hb) h

/-- PlatterCopies -/
theorem fn4 {la lb lc : D} {A B C : List (Dd × D × D)} (hA : Deeds w.heap.size w la A) (hB : Deeds w.heap.size w lb B) (hC : Deeds w.heap.size w lc C) (hk : ∀ w', Same [] w w' → K (.bool true) w') :
    FN Try.prog 4 #[sl la, sl lb, sl lc] w K E := by
  refine R4_ok (fn8 fun w1 hs1 => ⟨_, rfl, BIF.no rfl ?_⟩)
  have la' := hA.len
  have lb' := hB.len
  have lc' := hC.len
  refine JOIN.mk (fun _ w' => w' = w1 ∧ A.length ≤ 50 ∧ B.length ≤ 50 ∧ C.length ≤ 50) ?_ ?_
  · exact BIF.dec (fun _ => hk w1 hs1) fun ha => BIF.dec (fun _ => hk w1 hs1) fun hb => BIF.dec (fun _ => hk w1 hs1) fun hc => ⟨rfl, by omega, by omega, by omega⟩
  rintro _ wj ⟨ej, ha50, hb50, hc50⟩ J
  subst wj
  refine fn9 (n := 64) (fun h => by omega) fun _ _ w2 p own hP hs2 ho2 => ⟨_, _, rfl, fn10 (n := 64) (fun h => by omega) fun _ _ w3 m ownM hM hs3 ho3 => ⟨_, _, rfl, fn10 (n := 64) (fun h => by omega) fun _ _ w4 k ownK hKo hs4 ho4 => ⟨_, _, rfl, ?_⟩⟩⟩
  refine JOIN.mk (fun _ w' => w' = w4) (BIF.no rfl (eqlPtrNil ⟨_, rfl, BIF.no rfl rfl⟩)) ?_
  rintro _ wj ej J
  subst wj
  have hs14 := hs1.trans (hs2.trans (hs3.trans hs4))
  have htwo : Two w4 p m (St.new 64) (own ++ ownM) := ⟨own, ownM, hP.nil (.inl rfl) (hs3.trans hs4), hM.nil (.inr rfl) hs4, fun b hb hb' => by have := hP.lt b hb; have := ho3 b hb'; omega, rfl⟩
  have hfr : ∀ b ∈ own ++ ownM, w.heap.size ≤ b := fun b hb => (List.mem_append.1 hb).elim (fun h => Nat.le_trans hs1.size (ho2 b h)) fun h => Nat.le_trans (hs1.trans hs2).size (ho3 b h)
  have hlt3 : ∀ b ∈ own ++ ownM, b < w3.heap.size := fun b hb => (List.mem_append.1 hb).elim (fun h => Nat.lt_of_lt_of_le (hP.lt b h) hs3.size) fun h => hM.lt b h
  have hfrK : ∀ b ∈ ownK, w.heap.size ≤ b := fun b hb => Nat.le_trans (hs1.trans (hs2.trans hs3)).size (ho4 b hb)
  refine LOOP.mk (fun x w' => 0 ≤ x.1 ∧ x.1 ≤ A.length ∧ Same [] w w' ∧ ∃ S, Two w' p m (run (St.new 64) (A.take x.1.toNat)) S ∧ (∀ b ∈ S, w.heap.size ≤ b) ∧ Small (run (St.new 64) (A.take x.1.toNat)) x.1.toNat ∧
      Obj PR w' k (St.new 64) ownK ∧ (∀ b ∈ ownK, b ∉ S) ∧ ∀ x' ∈ A.take x.1.toNat, x'.1.keep.length ≤ 200 ∧ x'.1.F.length ≤ 20) (fun x _ => (A.length - x.1).toNat)
    ⟨by simp, by simp, hs14, _, htwo, hfr, Small.new _, hKo, fun b hb hm => by have := hlt3 b hm; have := ho4 b hb; omega, by simp⟩ ?_
  rintro ⟨i, _⟩ w5 ⟨hi0, hi1, hs5, S, h5, hS, hsm, hk5, hdk, hall⟩ J2
  simp only [] at hi0 hi1 hsm h5 hall
  have hA5 := hA.sub hs5 (by simp)
  have e1 : IntKind.wrap .i64 (i + 1) = i + 1 := wrap64 (by omega) (by omega)
  have e2 : (i + 1).toNat = i.toNat + 1 := by omega
  refine BIF.dec (fun hc => ?_) fun hc => ?_
  · rw [la'] at hc
    have hc : i < (A.length : Int) := hc
    obtain ⟨x, b, o, hx, hdx, el, hcell⟩ := hA5.at (i := i.toNat) (by omega)
    have hk1 := hdx.klen
    have hf1 := hdx.flen
    refine JOIN.mk (fun _ w' => w' = w5 ∧ x.1.keep.length ≤ 200 ∧ x.1.F.length ≤ 20) ?_ ?_
    · refine IDX.at el hi0 (by omega) ?_
      rw [add_mk]
      refine ldC (hcell 4 (sl x.2.1) rfl) ⟨_, _, _, rfl, BIF.dec (fun _ => hk w5 hs5) fun hkk => ?_⟩
      refine IDX.at el hi0 (by omega) ?_
      rw [add_mk]
      refine ldC (hcell 5 (sl x.2.2) rfl) ⟨_, _, _, rfl, BIF.dec (fun _ => hk w5 hs5) fun hff => ?_⟩
      refine IDX.at el hi0 (by omega) (ldC (hcell 0 (.int .i64 x.1.act) rfl) ⟨_, rfl, BIF.mk (fun _ => hk w5 hs5) fun _ => ⟨rfl, by omega, by omega⟩⟩)
    rintro _ wj ⟨ej, hk200, hf20⟩ J3
    subst wj
    refine IDX.at el hi0 (by omega) (ldAC (n := 6) (vs := x.1.cells x.2.1 x.2.2) hcell rfl ⟨_, _, _, _, _, _, _, _, _, _, rfl, ?_⟩)
    refine fn11' hS hs5.size h5 hsm (by omega) hdx hk200 hf20 fun w6 S6 h6 hs6 ho6 hB6 hsm6 => ⟨_, rfl, BIF.no rfl ?_⟩
    simp only [e1, e2]
    rw [run_succ hx]
    exact ⟨⟨by omega, by omega, Same.fresh (B0 := 0) hs5 hs6 hS, S6, h6, hB6, hsm6, hk5.apartTwo (.inr rfl) h5 hdk hs6, grown_apart hdk hk5.lt ho6, fun x' hx' => by
      rw [List.take_add_one, hx, Option.toList_some] at hx'
      rcases List.mem_append.1 hx' with h | h
      · exact hall x' h
      · rw [List.mem_singleton.1 h]; exact ⟨hk200, hf20⟩⟩, by omega⟩
  rw [la'] at hc
  have hie : i.toNat = A.length := by have hc : ¬ i < (A.length : Int) := hc; omega
  rw [hie, List.take_length] at h5 hsm hall
  generalize hs0 : run (St.new 64) A = s0 at h5 hsm
  have hCs := hsm.C
  have hFs := hsm.F
  obtain ⟨o5, oM5, hP5, hM5, hd5, rfl⟩ := h5
  refine fn13 hP5 (by omega) (by omega) fun w6 q ownq hP6 hq hs6 hoq => ⟨_, rfl, eqlPtrNil ⟨_, rfl, BIF.no rfl ?_⟩⟩
  have hlt5 : ∀ b ∈ o5 ++ oM5, b < w5.heap.size := fun b hb => (List.mem_append.1 hb).elim (hP5.lt b) (hM5.lt b)
  refine fn9 (n := 64) (fun h => by omega) fun _ _ w7 tw ownt hT hs7 hot => ⟨_, _, rfl, ?_⟩
  have hs57 := hs6.trans hs7
  have hs07 := hs5.trans hs57
  have hS1 : Two w7 p m s0 (o5 ++ oM5) := ⟨o5, oM5, hP6.nil (.inl rfl) hs7, hM5.nil (.inr rfl) hs57, hd5, rfl⟩
  have hq7 := hq.nil (.inl rfl) hs7
  have hk7 := hk5.nil (.inr rfl) hs57
  have hT7 : Two w7 tw k (St.new 64) (ownt ++ ownK) := ⟨ownt, ownK, hT, hk7, fun b hb hb' => by have := hot b hb; have := hk5.lt b hb'; have := hs6.size; omega, rfl⟩
  have hfrT : ∀ b ∈ ownt ++ ownK, w.heap.size ≤ b := fun b hb => (List.mem_append.1 hb).elim (fun h => Nat.le_trans (hs5.trans hs6).size (hot b h)) (hfrK b)
  have d1T : ∀ b ∈ o5 ++ oM5, b ∉ ownt ++ ownK := fun b hb hm => (List.mem_append.1 hm).elim (fun h => by have := hlt5 b hb; have := hot b h; have := hs6.size; omega) fun h => hdk b h hb
  have dqT : ∀ b ∈ ownq, b ∉ ownt ++ ownK := fun b hb hm => (List.mem_append.1 hm).elim (fun h => by have := hq.lt b hb; have := hot b h; omega) fun h => by have := hoq b hb; have := hk5.lt b h; omega
  have d1q : ∀ b ∈ o5 ++ oM5, b ∉ ownq := fun b hb hm => by have := hlt5 b hb; have := hoq b hm; omega
  refine LOOP.mk (fun x w' => 0 ≤ x.1 ∧ x.1 ≤ A.length ∧ Same [] w w' ∧ Two w' p m s0 (o5 ++ oM5) ∧ Obj PP w' q s0 ownq ∧ ∃ S, Two w' tw k (run (St.new 64) (A.take x.1.toNat)) S ∧ (∀ b ∈ S, w.heap.size ≤ b) ∧ Small (run (St.new 64) (A.take x.1.toNat)) x.1.toNat ∧
      (∀ b ∈ o5 ++ oM5, b ∉ S) ∧ (∀ b ∈ ownq, b ∉ S)) (fun x _ => (A.length - x.1).toNat)
    ⟨by simp, by simp, hs07, hS1, hq7, _, hT7, hfrT, Small.new _, d1T, dqT⟩ ?_
  rintro ⟨j, _⟩ w8 ⟨hj0, hj1, hs8, h8, hq8, S8, hT8, hS8, hsm8, d18, dq8⟩ J3
  simp only [] at hj0 hj1 hsm8 hT8
  have e1 : IntKind.wrap .i64 (j + 1) = j + 1 := wrap64 (by omega) (by omega)
  have e2 : (j + 1).toNat = j.toNat + 1 := by omega
  have hA8 := hA.sub hs8 (by simp)
  refine BIF.dec (fun hc => ?_) fun hc => ?_
  · rw [la'] at hc
    have hc : j < (A.length : Int) := hc
    obtain ⟨x, b, o, hx, hdx, el, hcell⟩ := hA8.at (i := j.toNat) (by omega)
    refine IDX.at el hj0 (by omega) (ldAC (n := 6) (vs := x.1.cells x.2.1 x.2.2) hcell rfl ⟨_, _, _, _, _, _, _, _, _, _, rfl, ?_⟩)
    have hx' := hall x (List.mem_of_getElem? hx)
    refine fn11' hS8 hs8.size hT8 hsm8 (by omega) hdx hx'.1 hx'.2 fun w9 S9 h9 hs9 ho9 hB9 hsm9 => ⟨_, rfl, ?_⟩
    simp only [e1, e2]
    rw [run_succ hx]
    exact ⟨⟨by omega, by omega, Same.fresh (B0 := 0) hs8 hs9 hS8, h8.apart hT8 d18 hs9, hq8.apartTwo (.inl rfl) hT8 dq8 hs9, S9, h9, hB9, hsm9, grown_apart d18 h8.lt ho9, grown_apart dq8 hq8.lt ho9⟩, by omega⟩
  rw [la'] at hc
  have hje : j.toNat = A.length := by have hc : ¬ j < (A.length : Int) := hc; omega
  rw [hje, List.take_length, hs0] at hT8
  obtain ⟨ot8, ok8, _, hk8, _, rfl⟩ := hT8
  have hfr1 : ∀ b ∈ o5 ++ oM5, w.heap.size ≤ b := hS
  have htwo2 : Two w8 q k s0 (ownq ++ ok8) := ⟨ownq, ok8, hq8, hk8, fun b hb hm => dq8 b hb (List.mem_append_right _ hm), rfl⟩
  have hfr2 : ∀ b ∈ ownq ++ ok8, w.heap.size ≤ b := fun b hb => (List.mem_append.1 hb).elim (fun h => Nat.le_trans hs5.size (hoq b h)) fun h => hS8 b (List.mem_append_right _ h)
  have d12 : ∀ b ∈ o5 ++ oM5, b ∉ ownq ++ ok8 := fun b hb hm => (List.mem_append.1 hm).elim (d1q b hb) fun h => d18 b hb (List.mem_append_right _ h)
  have hsm0 : Small s0 50 := ⟨by omega, hFs, hsm.z⟩
  refine LOOP.mk (fun x w' => 0 ≤ x.1 ∧ x.1 ≤ 50 ∧ Same [] w w' ∧ ∃ s1 s2 S1 S2, Two w' p m s1 S1 ∧ Two w' q k s2 S2 ∧ (∀ b ∈ S1, w.heap.size ≤ b) ∧ (∀ b ∈ S2, w.heap.size ≤ b) ∧ (∀ b ∈ S1, b ∉ S2) ∧ Small s1 (50 + x.1.toNat) ∧ Small s2 (50 + x.1.toNat)) (fun x _ => (50 - x.1).toNat)
    ⟨by simp, by simp, hs8, s0, s0, _, _, h8, htwo2, hfr1, hfr2, d12, hsm0, hsm0⟩ ?_
  rintro ⟨i, _⟩ w9 ⟨hi0, hi1, hs9, s1, s2, S1, S2, g1, g2, f1, f2, dd, z1, z2⟩ J4
  simp only [] at hi0 hi1 z1 z2
  have e1 : IntKind.wrap .i64 (i + 1) = i + 1 := wrap64 (by omega) (by omega)
  have e2 : 50 + (i + 1).toNat = 50 + i.toNat + 1 := by omega
  have up : ∀ {s : St} {n : Nat}, Small s n → Small s (n + 1) := fun h => ⟨Nat.le_succ_of_le h.C, h.F, h.z⟩
  refine BIF.dec (fun hc => ?_) fun hc => ?_
  · rw [lb', lc'] at hc
    have hi50 : i < 50 := by
      have hc : i < (if (C.length : Int) > (B.length : Int) then (C.length : Int) else (B.length : Int)) := hc
      split at hc <;> omega
    refine JOIN.mk (fun _ w' => Same [] w w' ∧ ∃ s1 S1, Two w' p m s1 S1 ∧ Two w' q k s2 S2 ∧ (∀ b ∈ S1, w.heap.size ≤ b) ∧ (∀ b ∈ S1, b ∉ S2) ∧ Small s1 (50 + i.toNat + 1)) ?_ ?_
    · have skip : Same [] w w9 ∧ ∃ s1 S1, Two w9 p m s1 S1 ∧ Two w9 q k s2 S2 ∧ (∀ b ∈ S1, w.heap.size ≤ b) ∧ (∀ b ∈ S1, b ∉ S2) ∧ Small s1 (50 + i.toNat + 1) := ⟨hs9, s1, S1, g1, g2, f1, dd, up z1⟩
      have hB9 := hB.sub hs9 (by simp)
      refine BIF.dec (fun hb => ?_) fun _ => skip
      rw [lb'] at hb
      have hb : i < (B.length : Int) := hb
      obtain ⟨x, b, o, hx, hdx, el, hcell⟩ := hB9.at (i := i.toNat) (by omega)
      have hk1 := hdx.klen
      have hf1 := hdx.flen
      refine IDX.at el hi0 (by omega) ?_
      rw [add_mk]
      refine ldC (hcell 4 (sl x.2.1) rfl) ⟨_, _, _, rfl, BIF.dec (fun hkk => ?_) fun _ => skip⟩
      refine IDX.at el hi0 (by omega) ?_
      rw [add_mk]
      refine ldC (hcell 5 (sl x.2.2) rfl) ⟨_, _, _, rfl, BIF.dec (fun hff => ?_) fun _ => skip⟩
      refine IDX.at el hi0 (by omega) (ldAC (n := 6) (vs := x.1.cells x.2.1 x.2.2) hcell rfl ⟨_, _, _, _, _, _, _, _, _, _, rfl, ?_⟩)
      refine fn11' f1 hs9.size g1 z1 (by omega) hdx (by omega) (by omega) fun w10 S10 h10 hs10 ho10 hB10 hsm10 => ⟨_, rfl, BIF.no rfl ?_⟩
      have dd' : ∀ b ∈ S2, b ∉ S1 := fun b hb hm => dd b hm hb
      exact ⟨Same.fresh (B0 := 0) hs9 hs10 f1, _, S10, h10, g2.apart g1 dd' hs10, hB10, fun b hb hm => grown_apart dd' g2.lt ho10 b hm hb, hsm10⟩
    rintro _ w10 ⟨hs10, s1', S1', g1', g2', f1', dd', z1'⟩ J5
    have hC10 := hC.sub hs10 (by simp)
    have skip : (0 ≤ i + 1 ∧ i + 1 ≤ 50 ∧ Same [] w w10 ∧ ∃ s1 s2 S1 S2, Two w10 p m s1 S1 ∧ Two w10 q k s2 S2 ∧ (∀ b ∈ S1, w.heap.size ≤ b) ∧ (∀ b ∈ S2, w.heap.size ≤ b) ∧ (∀ b ∈ S1, b ∉ S2) ∧ Small s1 (50 + i.toNat + 1) ∧ Small s2 (50 + i.toNat + 1)) ∧ (50 - (i + 1)).toNat < (50 - i).toNat :=
      ⟨⟨by omega, by omega, hs10, s1', s2, S1', S2, g1', g2', f1', f2, dd', z1', up z2⟩, by omega⟩
    simp only [e1, e2]
    refine BIF.dec (fun hb => ?_) fun _ => skip
    rw [lc'] at hb
    have hb : i < (C.length : Int) := hb
    obtain ⟨x, b, o, hx, hdx, el, hcell⟩ := hC10.at (i := i.toNat) (by omega)
    have hk1 := hdx.klen
    have hf1 := hdx.flen
    refine IDX.at el hi0 (by omega) ?_
    rw [add_mk]
    refine ldC (hcell 4 (sl x.2.1) rfl) ⟨_, _, _, rfl, BIF.dec (fun hkk => ?_) fun _ => skip⟩
    refine IDX.at el hi0 (by omega) ?_
    rw [add_mk]
    refine ldC (hcell 5 (sl x.2.2) rfl) ⟨_, _, _, rfl, BIF.dec (fun hff => ?_) fun _ => skip⟩
    refine IDX.at el hi0 (by omega) (ldAC (n := 6) (vs := x.1.cells x.2.1 x.2.2) hcell rfl ⟨_, _, _, _, _, _, _, _, _, _, rfl, ?_⟩)
    refine fn11' f2 hs10.size g2' z2 (by omega) hdx (by omega) (by omega) fun w11 S11 h11 hs11 ho11 hB11 hsm11 => ⟨_, rfl, BIF.no rfl ?_⟩
    exact ⟨⟨by omega, by omega, Same.fresh (B0 := 0) hs10 hs11 f2, s1', _, S1', S11, g1'.apart g2' dd' hs11, h11, f1', hB11, grown_apart dd' g1'.lt ho11, z1', hsm11⟩, by omega⟩
  · obtain ⟨_, _, p1, m1, _, _⟩ := g1
    obtain ⟨_, _, q2, k2, _, _⟩ := g2
    refine fn12 p1 m1 z1.z fun w10 hs10 => ⟨_, rfl, BIF.yes rfl ?_⟩
    exact fn12 (q2.nil (.inl rfl) hs10) (k2.nil (.inr rfl) hs10) z2.z fun w11 hs11 => ⟨_, rfl, hk w11 (hs9.trans (hs10.trans hs11))⟩

end
end Go.Proofs.Ytdabjchdmieegaa
