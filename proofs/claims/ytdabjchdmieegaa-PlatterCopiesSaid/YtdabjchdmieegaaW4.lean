/-
  Write, of the program.
-/
import Derived.Test.YtdabjchdmieegaaW3
set_option linter.unusedVariables false
namespace Go.Proofs.Ytdabjchdmieegaa
open Go Go.Lift Go.RowKit
section
variable {t : PT} {w w' : World} {p : Nat} {s : St} {ab ac af : D} {ds es : List D} {own : List Nat}
variable {K : Value → World → Prop} {E : List PanicEntry → World → Prop}

theorem Lay.ne_car (h : Lay t w p s ab ac af ds es) {b : Nat} {T : TypeId} {cs : List Value} (hb : Blk w b T cs) (hT : T ≠ t.C) : b ∉ ownB ac.1 ac.2.2 := fun hm => let ⟨_, h'⟩ := h.car.typed b hm; hT (hb.inj h').1
theorem Lay.ne_arr (h : Lay t w p s ab ac af ds es) {b : Nat} {T : TypeId} {cs : List Value} (hb : Blk w b T cs) (hT : T ≠ 49) : b ∉ ownB ab.1 ab.2.2 := fun hm => let ⟨_, h'⟩ := h.arr.typed b hm; hT (hb.inj h').1

/-- The closure of Write. -/
theorem fn57 (h1 : Lay PP w p s ab ac af ds es) (hC : s.C.length ≤ 1000000) {n : Int} {d : D} {xs : List UInt8} (hd1 : Row 5 w d xs) (hx : xs.length ≤ 4096) {v1 v2 v3 : Nat}
    (hv1 : Blk w v1 24 [.pointer (some ⟨p, 0, none⟩)]) (hv2 : Blk w v2 3 [.int .i64 n]) (hv3 : Blk w v3 49 [sl d])
    (hk : ∀ w' ac' es', Lay PP w' p (s.put n xs).1 ab ac' af ds es' → Same (p :: ownB ac.1 ac.2.2) w w' → (∀ b ∈ ownB ac'.1 ac'.2.2, b ∈ ownB ac.1 ac.2.2 ∨ w.heap.size ≤ b) → K (.int .i64 (s.put n xs).2) w') :
    FN Try.prog 57 #[.pointer (some ⟨v1, 0, none⟩), .pointer (some ⟨v2, 0, none⟩), .pointer (some ⟨v3, 0, none⟩)] w K E := by
  have hlen := hd1.len
  have quit : (s.bad n || xs.length != 64) = true → K (.int .i64 1) w := by
    intro hbad
    have := hk w ac es (by simpa only [St.put, hbad, if_true] using h1) (Same.refl _ _) (fun b hb => .inl hb)
    simpa only [St.put, hbad, if_true] using this
  refine R57_ok (JOIN.mk (fun _ w2 => w2 = w ∧ (s.bad n || xs.length != 64) = false) ?_ ?_)
  · refine ld hv1 rfl ⟨_, rfl, ld hv2 rfl ⟨_, rfl, fn58 h1 ⟨_, rfl, BIF.mk (fun hc => quit ?_) fun hc => ?_⟩⟩⟩
    · simp only [St.bad, hc, Bool.true_or]
    refine ld hv3 rfl ⟨_, _, _, rfl, BIF.mk (fun hc' => quit ?_) fun hc' => ⟨rfl, ?_⟩⟩
    · simp at hc'; simp; omega
    · simp at hc'; simp only [St.bad, hc, Bool.false_or]; simp; omega
  rintro _ w2 ⟨rfl, hgood⟩ J
  simp only [Bool.or_eq_false_iff, St.bad, Bool.not_eq_false', decide_eq_true_eq, bne_eq_false_iff_eq] at hgood
  obtain ⟨⟨hn0, hn1⟩, h64⟩ := hgood
  refine DRAW.mk (fun w' => Blk w' p 78 (cellsOf ab ac af s.cnt s.snc) ∧ Blk w' v1 24 [.pointer (some ⟨p, 0, none⟩)] ∧ Blk w' v2 3 [.int .i64 n] ∧ Blk w' v3 49 [sl d]) ?_
  have hS : Blk (drew w2) p 78 (cellsOf ab ac af s.cnt s.snc) ∧ Blk (drew w2) v1 24 [.pointer (some ⟨p, 0, none⟩)] ∧ Blk (drew w2) v2 3 [.int .i64 n] ∧ Blk (drew w2) v3 49 [sl d] := ⟨h1.blk, hv1, hv2, hv3⟩
  refine HELD.ld hS (fun _ h => h.2.1) rfl ⟨_, rfl, ?_⟩
  refine HELD.ld hS (fun _ h => h.2.1) rfl ⟨_, rfl, NILCHK.mk ?_⟩
  rw [add_mk]
  refine HELD.ld hS (fun _ h => h.1) rfl ⟨_, _, _, rfl, ?_⟩
  refine HELD.ld hS (fun _ h => h.2.2.1) rfl ⟨_, rfl, ?_⟩
  refine HELD.ld hS (fun _ h => h.2.2.2) rfl ⟨_, _, _, rfl, ?_⟩
  refine fn59 (w := drew w2) hd1 hx (by omega) fun w3 d3 hd3 hs3 ho3 => ⟨_, _, _, rfl, ?_⟩
  have hs3' : Same [] w2 w3 := hs3.of_drew
  have h3 := h1.nil (.inl rfl) hs3'
  refine ⟨⟨h3.blk, hs3'.blk hv1 (by simp), hs3'.blk hv2 (by simp), hs3'.blk hv3 (by simp)⟩, litR1 (e := 88) (sz := 2) (by_ := 32) (z := [.int .i64 0, .slice none 0 0]) (by kernel_rfl) (by rfl) (by omega) (by omega) fun w4 b4 hb4 hblk4 hs4 hsz4 => ⟨_, _, _, rfl, ?_⟩⟩
  have h4 := h3.nil (.inl rfl) hs4
  have hd4 := Row.nil hd3 hs4
  have e1 : (Value.agg #[.int .i64 n, .slice d3.1 d3.2.1 d3.2.2]).cells.toList = cach [(n.toNat, d3)] := by
    simp [Value.cells, cach, toNat_cast hn0]
  rw [e1] at hblk4
  have hlenC := h4.nc
  have hs34 := hs3'.trans hs4
  have g1 := hs34.blk hv1 (by simp)
  have g2 := hs34.blk hv2 (by simp)
  have g3 := hs34.blk hv3 (by simp)
  refine ⟨⟨h4.blk, g1, g2, g3⟩, appendR (e := 88) (sz := 2) (by_ := 32) (z := [.int .i64 0, .slice none 0 0]) (by kernel_rfl) h4.car (T' := 88) (ys := cach [(n.toNat, d3)]) ⟨by simp [cach], by omega, .inr ⟨b4, 0, _, rfl, hblk4, by simp [cach], by simp [cach]⟩⟩ (cach_one' _) ?_ ?_ rfl ?_⟩
  · have : s.C.length = s.C.length := rfl
    omega
  · have : s.C.length = s.C.length := rfl
    simp only [maxLen]; omega
  intro w5 a5 c5 hr5 hs5 ho5
  refine ⟨_, _, _, rfl, ?_⟩
  have hp5 : p ∉ ownB ac.1 ac.2.2 := h1.p_car (.inl rfl)
  refine ⟨⟨hs5.blk h4.blk hp5, hs5.blk g1 (h4.ne_car g1 (by decide)), hs5.blk g2 (h4.ne_car g2 (by decide)), hs5.blk g3 (h4.ne_car g3 (by decide))⟩, NILCHK.mk ?_⟩
  rw [add_mk]
  refine Lift.st (hs5.blk h4.blk hp5) (by simp [i64s, h1.cl, h1.sl]) fun w6 hb6 hs6 hsz6 => ?_
  have hall : Same (p :: ownB ac.1 ac.2.2) w4 w6 := (hs5.mono fun b hb => List.mem_cons_of_mem _ hb).trans (hs6.mono fun b hb => by rw [List.mem_singleton.1 hb]; exact List.mem_cons_self)
  have hlt4 : ∀ b ∈ ownB a5 c5, b ∈ ownB ac.1 ac.2.2 ∨ w2.heap.size ≤ b := fun b hb => (ho5 b hb).imp id fun h => Nat.le_trans (Nat.le_trans hs3'.size hs4.size) h
  have hp6 : p ∉ ownB a5 c5 := fun hm => (hlt4 p hm).elim hp5 fun hle => by have := h1.blk.lt; omega
  have hfin : Lay PP w6 p { s with C := s.C ++ [(n.toNat, xs)] } ab (a5, ac.2.1 + 1, c5) af ds (es ++ [d3]) := by
    refine Lay.push (.inl rfl) h4 (n := n.toNat) (xs := xs) (d := d3) (ac' := (a5, ac.2.1 + 1, c5)) (by omega) h64 (S := p :: ownB ac.1 ac.2.2) hall (fun b hb => List.mem_cons.1 hb) hb6 (Row.keep hd4 hall ?_) ?_
    · intro b hb hm
      have := h4.calm (.inl rfl) b hb
      rcases List.mem_cons.1 hm with e | e
      · exact this.1 e
      · exact this.2.2 e
    · rw [cach_append]
      exact hr5.keep hs6 fun b hb e => hp6 (List.mem_singleton.1 e ▸ hb)
  have hgood' : (s.bad n || xs.length != 64) = false := by
    simp [St.bad, h64]; omega
  have hA : Same (p :: ownB ac.1 ac.2.2) w2 w6 := (hs34.nil).trans hall
  have := hk w6 _ _ (by simpa only [St.put, hgood', Bool.false_eq_true, if_false] using hfin) hA hlt4
  simpa only [St.put, hgood', Bool.false_eq_true, if_false] using this

theorem cell25 {S : List Nat} {e : Nat} {cs : List Value} (hb : Blk w e 25 cs) (hs : Same [e] w w') {t : PT} (ht : t.ok) {p : Nat} {s : St} {own : List Nat} (h : Obj t w p s own) : Obj t w' p s own := by
  refine h.keep ht hs ?_ ?_
  · intro b hbo hbe
    obtain ⟨ab, ac, af, ds, es, h, rfl⟩ := h
    rw [List.mem_singleton.1 hbe] at hbo
    simp only [List.mem_cons, List.mem_append] at hbo
    rcases hbo with rfl | hb' | hb'
    · have := (h.blk.inj hb).1; rcases ht with rfl | rfl <;> revert this <;> decide
    · obtain ⟨_, h'⟩ := h.arr.typed _ hb'; have := (h'.inj hb).1; revert this; decide
    · obtain ⟨_, h'⟩ := h.car.typed _ hb'; have := (h'.inj hb).1; rcases ht with rfl | rfl <;> revert this <;> decide
  · intro b hc hbe
    rw [List.mem_singleton.1 hbe] at hc
    obtain ⟨T, cs', hb', hT⟩ := hc
    have := (hb.inj hb').1
    rcases hT with rfl | rfl | rfl | rfl | rfl <;> revert this <;> decide

/-- Write. -/
theorem fn31 (h : Obj PP w p s own) (hF : s.F.length ≤ 1000000) (hC : s.C.length ≤ 1000000) {n : Int} {d : D} {xs : List UInt8} (hd : Row 5 w d xs) (hx : xs.length ≤ 4096)
    (hk : ∀ w' own', Obj PP w' p (s.wr n xs).1 own' → Same own w w' → (∀ b ∈ own', b ∈ own ∨ w.heap.size ≤ b) → K (.int .i64 (s.wr n xs).2) w') :
    FN Try.prog 31 #[.pointer (some ⟨p, 0, none⟩), .int .i64 n, sl d] w K E := by
  obtain ⟨ab, ac, af, ds, es, h, rfl⟩ := h
  refine R31_ok (boxR fun w1 v1 hv1 hb1 hs1 _ => ⟨_, rfl, boxR fun w2 v2 hv2 hb2 hs2 _ => ⟨_, rfl, boxR fun w3 v3 hv3 hb3 hs3 _ => ⟨_, rfl, ?_⟩⟩⟩)
  have hs : Same [] w w3 := hs1.trans (hs2.trans hs3)
  have g1 : Blk w3 v1 24 [.pointer (some ⟨p, 0, none⟩)] := (hs2.trans hs3).blk hb1 (by simp)
  have g2 : Blk w3 v2 3 [.int .i64 n] := hs3.blk hb2 (by simp)
  have g3 : Blk w3 v3 49 [sl d] := hb3
  have h3 := h.nil (.inl rfl) hs
  have hlt : p < w.heap.size := h.blk.lt
  refine ld g1 rfl ⟨_, rfl, ?_⟩
  refine fn56 (op := 2) h3 (by omega) hF (by kernel_rfl) (fun hfa w4 h4 hs4 => ⟨_, rfl, ?_⟩) (fun hfa w4 h4 hs4 => ?_)
  · have := hk w4 _ ⟨ab, ac, af, ds, es, by simpa [St.wr, hfa] using h4, rfl⟩ ((hs.nil.trans hs4).mono (by simp)) (fun b hb => .inl hb)
    simpa [St.wr, hfa] using this
  · have hne : ∀ {v T cs}, Blk w3 v T cs → T ≠ 78 → v ∉ [p] := fun hb hT hm => hT (((List.mem_singleton.1 hm ▸ hb : Blk w3 p _ _).inj h3.blk).1)
    have hd4 : Row 5 w4 d xs := Row.keep (Row.nil hd hs) hs4 fun b hb e => (h3.calm (.inl rfl) b hb).1 (List.mem_singleton.1 e)
    refine fn57 h4 hC hd4 hx (hs4.blk g1 (hne g1 (by decide))) (hs4.blk g2 (hne g2 (by decide))) (hs4.blk g3 (hne g3 (by decide))) fun w5 ac5 es5 h5 hs5 ho5 => ?_
    refine ⟨_, _, rfl, hs5, fun b hb => ?_, fun e cs w6 he hbe hs6 => ⟨_, rfl, ?_⟩⟩
    · have := Obj.lt (⟨ab, ac, af, ds, es, h3, rfl⟩ : Obj PP w3 p s _) b (by simp only [List.mem_cons, List.mem_append] at hb ⊢; exact hb.imp id .inr)
      exact this
    · have hobj : Obj PP w5 p (s.wr n xs).1 (p :: (ownB ab.1 ab.2.2 ++ ownB ac5.1 ac5.2.2)) := ⟨ab, ac5, af, ds, es5, by simpa [St.wr, hfa] using h5, rfl⟩
      have hA : Same (p :: (ownB ab.1 ab.2.2 ++ ownB ac.1 ac.2.2)) w w6 := by
        refine Same.then (S := p :: (ownB ab.1 ab.2.2 ++ ownB ac.1 ac.2.2)) ((hs.nil.trans hs4).mono (by simp) |>.trans (hs5.mono fun b hb => ?_)) hs6 fun x hx => .inr ?_
        · simp only [List.mem_cons, List.mem_append] at hb ⊢; exact hb.imp id .inr
        · rw [List.mem_singleton.1 hx]; exact Nat.le_trans hs.size he
      have := hk w6 _ (cell25 (S := []) hbe hs6 (.inl rfl) hobj) hA ?_
      · simpa [St.wr, hfa] using this
      · intro b hb
        simp only [List.mem_cons, List.mem_append] at hb ⊢
        rcases hb with hb | hb | hb
        · exact .inl (.inl hb)
        · exact .inl (.inr (.inl hb))
        · exact (ho5 b hb).imp (fun h => .inr (.inr h)) fun h => Nat.le_trans (Nat.le_trans hs.size hs4.size) h

end
end Go.Proofs.Ytdabjchdmieegaa
