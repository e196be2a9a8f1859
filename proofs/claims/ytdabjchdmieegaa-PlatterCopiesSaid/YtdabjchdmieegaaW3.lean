/-
  tried; Write, of both platters.
-/
import Derived.Test.YtdabjchdmieegaaW2
set_option linter.unusedVariables false
namespace Go.Proofs.Ytdabjchdmieegaa
open Go Go.Lift Go.RowKit
section
variable {t : PT} {w w' : World} {p : Nat} {s : St} {ab ac af : D} {ds es : List D} {own : List Nat}
variable {K : Value → World → Prop} {E : List PanicEntry → World → Prop}

theorem deferR {e : Nat} {u : FrameMode} {Kr : FrameMode → World → Prop} {Kp : List PanicEntry → FrameMode → World → Prop} (hu : u ≠ .run)
    (hc : CallsD Try.prog 72 #[.pointer (some ⟨e, 0, none⟩)] u w fun
      | .returned _, u', w' => Kr u' w'
      | .panicked chain, u', w' => Kp chain u' w'
      | .outgrown, _, _ => False) :
    DEFER Try.prog { target := .fn (.func 72) #[.pointer (some ⟨e, 0, none⟩)], args := #[] } u w Kr Kp :=
  DEFER.mk hu _ _ 72 #[.pointer (some ⟨e, 0, none⟩)] rfl (by simp [go_sem]) hc

theorem fn56 (h : Lay PP w p s ab ac af ds es) {op : Nat} (hop : op < 4) (hF : s.F.length ≤ 1000000) {g : Nat} {cap : Array Value} (hbd : ctx.bd g = true)
    (hf : (s.bump op).faulty op = true → ∀ w', Lay PP w' p (s.bump op) ab ac af ds es → Same [p] w w' → K (.int .i64 6) w')
    (hn : (s.bump op).faulty op = false → ∀ w1, Lay PP w1 p (s.bump op) ab ac af ds es → Same [p] w w1 →
      FN Try.prog g cap w1 (fun v w2 => ∃ x S, v = .int .i64 x ∧ Same S w1 w2 ∧ (∀ b ∈ S, b < w.heap.size) ∧ ∀ e cs w3, w.heap.size ≤ e → Blk w2 e 25 cs → Same [e] w2 w3 → K (.int .i64 x) w3) (fun _ _ => False)) :
    FN Try.prog 56 #[.pointer (some ⟨p, 0, none⟩), .int .i64 (op : Int), .func (.func g) #[] cap] w K E := by
  refine R56_ok (allocR (z := .int .i64 0) (by kernel_rfl) fun w1 e he hb1 hs1 hsz1 => ⟨_, rfl, ?_⟩)
  have h1 := h.nil (.inl rfl) hs1
  have hpe : e ≠ p := fun e' => by have := h.blk.lt; omega
  refine fn43 h1 ⟨_, rfl, BIF.no ?_ ?_⟩
  · have := h.lo
    simp only [beq_eq_false_iff_ne]
    omega
  refine fn73 h1 hop hF fun w2 h2 hs2 => ⟨fun hfa => ?_, fun hfa => ?_⟩
  · have hb2 : Blk w2 e 25 [.int .i64 0] := hs2.blk hb1 (by simpa using hpe)
    refine deferR (by simp) ((caught hb2).mono ?_)
    rintro r u' w3 ⟨rfl, rfl, hs3, hb3⟩
    refine RCELL.ld hb3 rfl (hf hfa w3 (h2.keep (.inl rfl) hs3 ?_ ?_) ?_)
    · intro b hb hbe
      have e' := List.mem_singleton.1 hbe
      have hlt : b < w.heap.size := Obj.lt (⟨ab, ac, af, ds, es, h, rfl⟩ : Obj PP w p s _) b hb
      omega
    · intro b hb hbe
      obtain ⟨T, cs, hb', hT⟩ := hb
      have := (hb2.inj (List.mem_singleton.1 hbe ▸ hb')).1
      rcases hT with rfl | rfl | rfl | rfl | rfl <;> revert this <;> decide
    · exact (hs1.nil.trans hs2).then hs3 fun b hb => .inr (by rw [List.mem_singleton.1 hb]; exact he)
  · refine CALLF.mk hbd (args' := cap) (by simp) ?_
    refine FN.mono (hn hfa w2 h2 (hs1.nil.trans hs2)) ?_ (fun _ _ h => h.elim)
    rintro v w3 ⟨x, S, rfl, hs3, hS, hk⟩
    refine ⟨_, rfl, ?_⟩
    have hb3 : Blk w3 e 25 [.int .i64 0] := hs3.blk (hs2.blk hb1 (by simpa using hpe)) fun hm => by have := hS e hm; omega
    refine Lift.st hb3 (by simp) fun w4 hb4 hs4 hsz4 => ?_
    refine deferR (by simp) ((catch_idle _ w4).mono ?_)
    rintro r u' w5 ⟨rfl, rfl, rfl⟩
    exact RCELL.ld hb4 rfl (hk e _ w5 he hb3 hs4)

/-! ### Write -/
def St.bad (s : St) (n : Int) : Bool := !decide (0 ≤ n ∧ n < (s.B.length : Int))
def St.put (s : St) (n : Int) (xs : List UInt8) : St × Int := if s.bad n || xs.length != 64 then (s, 1) else ({ s with C := s.C ++ [(n.toNat, xs)] }, 0)
def St.wr (s : St) (n : Int) (xs : List UInt8) : St × Int := if (s.bump 2).faulty 2 then (s.bump 2, 6) else (s.bump 2).put n xs

theorem cach_append (l l' : List (Nat × D)) : cach (l ++ l') = cach l ++ cach l' := by simp [cach]
theorem cach_one' (l : List (Nat × D)) : ∀ y ∈ cach l, y.oneCell' = true := by
  intro y hy
  simp only [cach, List.mem_flatMap, List.mem_cons, List.not_mem_nil, or_false] at hy
  obtain ⟨f, _, rfl | rfl⟩ := hy <;> rfl

/-- The cache has grown by one. -/
theorem Lay.push (ht : t.ok) (h : Lay t w p s ab ac af ds es) {n : Nat} {xs : List UInt8} {d ac' : D} (hn : n < s.B.length) (hx : xs.length = 64) {S : List Nat} (hs : Same S w w')
    (hS : ∀ b ∈ S, b = p ∨ b ∈ ownB ac.1 ac.2.2) (hb : Blk w' p t.T (Lift.sl ab :: Lift.sl ac' :: Lift.sl af :: (i64s s.cnt ++ i64s s.snc)))
    (hd : Row 5 w' d xs) (hc : SRow w' t.C 2 ac'.1 ac'.2.1 ac'.2.2 (cach ((s.C.map (·.1)).zip es ++ [(n, d)]))) :
    Lay t w' p { s with C := s.C ++ [(n, xs)] } ab ac' af ds (es ++ [d]) where
  blk := hb
  arr := h.arr.keep hs fun b hb hm => (hS b hm).elim (fun e => h.p_arr ht (e ▸ hb)) (h.arr_car ht b hb)
  car := by
    have e : ((s.C ++ [(n, xs)]).map (·.1)).zip (es ++ [d]) = (s.C.map (·.1)).zip es ++ [(n, d)] := by
      rw [List.map_append, List.zip_append (by simp [h.ne])]; rfl
    simp only [e]
    exact hc
  far := h.far.keep hs fun b hb hm => by
    have := h.calm ht b (h.far.calm (by rcases ht with rfl | rfl <;> simp) b hb)
    exact (hS b hm).elim this.1 this.2.2
  rows := h.rows.keep hs fun b hb hm => (hS b hm).elim (h.calm ht b hb).1 (h.calm ht b hb).2.2
  crow := by
    have h' := h.crow.keep hs fun b hb hm => (hS b hm).elim (h.calm ht b hb).1 (h.calm ht b hb).2.2
    refine ⟨by simp [h.ne], fun i d' x hd' hx' => ?_⟩
    have hl := h.ne
    simp only [List.map_append, List.map_cons, List.map_nil] at hx'
    rcases Nat.lt_trichotomy i es.length with hi | hi | hi
    · rw [List.getElem?_append_left hi] at hd'
      rw [List.getElem?_append_left (by simp; omega)] at hx'
      exact h'.2 i d' x hd' hx'
    · subst hi
      rw [List.getElem?_append_right (Nat.le_refl _), Nat.sub_self] at hd'
      rw [List.getElem?_append_right (by simp [hl])] at hx'
      simp [hl] at hx' hd'
      subst hx'; subst hd'
      exact hd
    · rw [List.getElem?_eq_none (by simp; omega)] at hd'
      cases hd'
  cl := h.cl
  sl := h.sl
  b64 := h.b64
  c64 := by
    intro x hx'
    rcases List.mem_append.1 hx' with h' | h'
    · exact h.c64 x h'
    · rw [List.mem_singleton.1 h']; exact ⟨hn, hx⟩
  lo := h.lo
  hi := h.hi

theorem toNat_cast {n : Int} (h : 0 ≤ n) : (n.toNat : Int) = n := Int.toNat_of_nonneg h

/-- The model's Write. -/
theorem fn36 (h : Obj PR w p s own) (hF : s.F.length ≤ 1000000) (hC : s.C.length ≤ 1000000) {n : Int} {d : D} {xs : List UInt8} (hd : Row 5 w d xs) (hx : xs.length ≤ 4096)
    (hk : ∀ w' own', Obj PR w' p (s.wr n xs).1 own' → Same own w w' → (∀ b ∈ own', b ∈ own ∨ w.heap.size ≤ b) → K (.int .i64 (s.wr n xs).2) w') :
    FN Try.prog 36 #[.pointer (some ⟨p, 0, none⟩), .int .i64 n, sl d] w K E := by
  obtain ⟨ab, ac, af, ds, es, h, rfl⟩ := h
  refine R36_ok (fn65 (op := 2) h (by omega) hF fun w1 h1 hs1 => ⟨_, rfl, ?_⟩)
  have hs1' : Same (p :: (ownB ab.1 ab.2.2 ++ ownB ac.1 ac.2.2)) w w1 := hs1.mono (by simp)
  have hd1 : Row 5 w1 d xs := Row.keep hd hs1 fun b hb e => (h.calm (.inr rfl) b hb).1 (List.mem_singleton.1 e)
  refine BIF.mk (fun hfa => ?_) fun hfa => ?_
  · have := hk w1 _ ⟨ab, ac, af, ds, es, by simpa [St.wr, hfa] using h1, rfl⟩ hs1' (fun b hb => .inl hb)
    simpa [St.wr, hfa] using this
  have quit : ((s.bump 2).bad n || xs.length != 64) = true → K (.int .i64 1) w1 := by
    intro hbad
    have := hk w1 _ ⟨ab, ac, af, ds, es, by simpa only [St.wr, St.put, hfa, hbad, Bool.false_eq_true, if_false, if_true] using h1, rfl⟩ hs1' (fun b hb => .inl hb)
    simpa only [St.wr, St.put, hfa, hbad, Bool.false_eq_true, if_false, if_true] using this
  refine JOIN.mk (fun _ w2 => w2 = w1 ∧ ((s.bump 2).bad n || xs.length != 64) = false) ?_ ?_
  · refine BIF.dec (fun hc => quit (by simp [St.bad]; omega)) fun hc => ?_
    refine ld h1.blk rfl ⟨_, _, _, rfl, BIF.dec (fun hc' => quit ?_) fun hc' => ?_⟩
    · rw [h1.nb] at hc'; simp [St.bad]; omega
    rw [h1.nb] at hc'
    have hlen := hd.len
    refine BIF.mk (fun hc'' => quit ?_) fun hc'' => ⟨rfl, ?_⟩
    · simp at hc''; simp; omega
    · simp at hc''; simp [St.bad]; omega
  rintro _ w2 ⟨rfl, hgood⟩ J
  simp only [Bool.or_eq_false_iff, St.bad, Bool.not_eq_false', decide_eq_true_eq, bne_eq_false_iff_eq] at hgood
  obtain ⟨⟨hn0, hn1⟩, h64⟩ := hgood
  refine DRAW.mk (fun w' => Blk w' p 46 (cellsOf ab ac af (s.bump 2).cnt (s.bump 2).snc)) ?_
  refine HELD.ld h1.blk (fun _ h => h) rfl ⟨_, _, _, rfl, ?_⟩
  refine copyB (w := drew w2) hd1 hx fun w3 d3 hd3 hs3 ho3 => ⟨_, _, _, rfl, ?_⟩
  have hs3' : Same [] w2 w3 := hs3.of_drew
  have h3 := h1.nil (.inr rfl) hs3'
  refine ⟨h3.blk, litR1 (e := 105) (sz := 2) (by_ := 32) (z := [.int .i64 0, .slice none 0 0]) (by kernel_rfl) (by rfl) (by omega) (by omega) fun w4 b4 hb4 hblk4 hs4 hsz4 => ⟨_, _, _, rfl, ?_⟩⟩
  have h4 := h3.nil (.inr rfl) hs4
  have hd4 := Row.nil hd3 hs4
  have e1 : (Value.agg #[.int .i64 n, .slice d3.1 d3.2.1 d3.2.2]).cells.toList = cach [(n.toNat, d3)] := by
    simp [Value.cells, cach, toNat_cast hn0]
  rw [e1] at hblk4
  have hlenC := h4.nc
  refine ⟨h4.blk, appendR (e := 105) (sz := 2) (by_ := 32) (z := [.int .i64 0, .slice none 0 0]) (by kernel_rfl) h4.car (T' := 105) (ys := cach [(n.toNat, d3)]) ⟨by simp [cach], by omega, .inr ⟨b4, 0, _, rfl, hblk4, by simp [cach], by simp [cach]⟩⟩ (cach_one' _) ?_ ?_ rfl ?_⟩
  · have : (s.bump 2).C.length = s.C.length := rfl
    omega
  · have : (s.bump 2).C.length = s.C.length := rfl
    simp only [maxLen]; omega
  intro w5 a5 c5 hr5 hs5 ho5
  refine ⟨_, _, _, rfl, ?_⟩
  have hp5 : p ∉ ownB ac.1 ac.2.2 := h.p_car (.inr rfl)
  refine Lift.st (hs5.blk h4.blk hp5) (by simp [i64s, h1.cl, h1.sl]) fun w6 hb6 hs6 hsz6 => ?_
  have hall : Same (p :: ownB ac.1 ac.2.2) w4 w6 := (hs5.mono fun b hb => List.mem_cons_of_mem _ hb).trans (hs6.mono fun b hb => by rw [List.mem_singleton.1 hb]; exact List.mem_cons_self)
  have hlt4 : ∀ b ∈ ownB a5 c5, b ∈ ownB ac.1 ac.2.2 ∨ w2.heap.size ≤ b := fun b hb => (ho5 b hb).imp id fun h => Nat.le_trans (Nat.le_trans hs3'.size hs4.size) h
  have hp6 : p ∉ ownB a5 c5 := fun hm => (hlt4 p hm).elim hp5 fun hle => by have := h1.blk.lt; omega
  have hfin : Lay PR w6 p { s.bump 2 with C := (s.bump 2).C ++ [(n.toNat, xs)] } ab (a5, ac.2.1 + 1, c5) af ds (es ++ [d3]) := by
    refine Lay.push (.inr rfl) h4 (n := n.toNat) (xs := xs) (d := d3) (ac' := (a5, ac.2.1 + 1, c5)) (by omega) h64 (S := p :: ownB ac.1 ac.2.2) hall (fun b hb => List.mem_cons.1 hb) hb6 (Row.keep hd4 hall ?_) ?_
    · intro b hb hm
      have := h4.calm (.inr rfl) b hb
      rcases List.mem_cons.1 hm with e | e
      · exact this.1 e
      · exact this.2.2 e
    · rw [cach_append]
      exact hr5.keep hs6 fun b hb e => hp6 (List.mem_singleton.1 e ▸ hb)
  have hgood' : ((s.bump 2).bad n || xs.length != 64) = false := by
    simp [St.bad, h64]; omega
  have hA : Same (p :: (ownB ab.1 ab.2.2 ++ ownB ac.1 ac.2.2)) w w6 := by
    refine (hs1'.trans (hs3'.nil.trans hs4.nil)).trans (hall.mono fun b hb => ?_)
    simp only [List.mem_cons, List.mem_append] at hb ⊢
    exact hb.imp id .inr
  have hB : ∀ b ∈ p :: (ownB ab.1 ab.2.2 ++ ownB a5 c5), b ∈ p :: (ownB ab.1 ab.2.2 ++ ownB ac.1 ac.2.2) ∨ w.heap.size ≤ b := by
    intro b hb
    simp only [List.mem_cons, List.mem_append] at hb ⊢
    rcases hb with hb | hb | hb
    · exact .inl (.inl hb)
    · exact .inl (.inr (.inl hb))
    · exact (hlt4 b hb).imp (fun h => .inr (.inr h)) fun h => Nat.le_trans hs1.size h
  have := hk w6 _ ⟨ab, _, af, ds, _, by simpa only [St.wr, St.put, hfa, hgood', Bool.false_eq_true, if_false] using hfin, rfl⟩ hA hB
  simpa only [St.wr, St.put, hfa, hgood', Bool.false_eq_true, if_false] using this

end
end Go.Proofs.Ytdabjchdmieegaa
