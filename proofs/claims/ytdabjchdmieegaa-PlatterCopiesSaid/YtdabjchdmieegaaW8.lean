/-
  New and Copy.
-/
import Derived.Test.YtdabjchdmieegaaW7
set_option linter.unusedVariables false
namespace Go.Proofs.Ytdabjchdmieegaa
open Go Go.Lift Go.RowKit
section
variable {t : PT} {w w' : World} {p : Nat} {s : St} {ab ac af : D} {ds es : List D} {own : List Nat}
variable {K : Value → World → Prop} {E : List PanicEntry → World → Prop}

/-- slices.Clone -/
theorem fn45 {d : D} {xs : List Value} (hd : SRow w 49 1 d.1 d.2.1 d.2.2 xs) (hn : d.2.1 ≤ 1000000) (ho : ∀ y ∈ xs, y.oneCell' = true)
    (hk : ∀ w' d', SRow w' 49 1 d'.1 d'.2.1 d'.2.2 xs → Same [] w w' → (∀ b ∈ ownB d'.1 d'.2.2, w.heap.size ≤ b) → K (sl d') w') :
    FN Try.prog 45 #[sl d] w K E := by
  refine R45_ok (eqlSlNil (e := 49) (sz := 1) (by_ := 24) (z := [.slice none 0 0]) (by kernel_rfl) ⟨_, rfl, BIF.mk (fun hc => ?_) fun hc => ?_⟩)
  · have h0 : xs = [] := by
      rcases Nat.eq_zero_or_pos d.2.1 with h0 | hp
      · exact List.eq_nil_of_length_eq_zero (by simp [hd.1, h0])
      · obtain ⟨b, o, cs, e, _⟩ := hd.open hp
        rw [e] at hc; cases hc
    subst h0
    exact hk w (none, 0, 0) (SRow.nil w 49 1 none) (Same.refl _ _) (by simp [ownB])
  · refine lit0R (e := 49) (sz := 1) (by_ := 24) (z := [.slice none 0 0]) (by kernel_rfl) fun w1 b hb hs1 _ => ⟨_, _, _, rfl, ?_⟩
    refine appendR (e := 49) (sz := 1) (by_ := 24) (z := [.slice none 0 0]) (by kernel_rfl) (SRow.nil w1 49 1 _) (hd.keep hs1 (by simp)) ho (by omega) (by simp only [maxLen]; omega) rfl ?_
    intro w2 a2 c2 hr2 hs2 ho2
    have hs2 : Same [] w1 w2 := by simpa [ownB] using hs2
    exact ⟨_, _, _, rfl, hk w2 (a2, 0 + d.2.1, c2) (by simpa using hr2) (hs1.trans hs2) fun b hb => Nat.le_trans hs1.size ((ho2 b hb).resolve_left (by simp [ownB]))⟩

/-- slices.Clone -/
theorem fn46 {d : D} {xs : List Value} (hd : SRow w 88 2 d.1 d.2.1 d.2.2 xs) (hn : d.2.1 ≤ 1000000) (ho : ∀ y ∈ xs, y.oneCell' = true)
    (hk : ∀ w' d', SRow w' 88 2 d'.1 d'.2.1 d'.2.2 xs → Same [] w w' → (∀ b ∈ ownB d'.1 d'.2.2, w.heap.size ≤ b) → K (sl d') w') :
    FN Try.prog 46 #[sl d] w K E := by
  refine R46_ok (eqlSlNil (e := 88) (sz := 2) (by_ := 32) (z := [.int .i64 0, .slice none 0 0]) (by kernel_rfl) ⟨_, rfl, BIF.mk (fun hc => ?_) fun hc => ?_⟩)
  · have h0 : xs = [] := by
      rcases Nat.eq_zero_or_pos d.2.1 with h0 | hp
      · exact List.eq_nil_of_length_eq_zero (by simp [hd.1, h0])
      · obtain ⟨b, o, cs, e, _⟩ := hd.open hp
        rw [e] at hc; cases hc
    subst h0
    exact hk w (none, 0, 0) (SRow.nil w 88 2 none) (Same.refl _ _) (by simp [ownB])
  · refine lit0R (e := 88) (sz := 2) (by_ := 32) (z := [.int .i64 0, .slice none 0 0]) (by kernel_rfl) fun w1 b hb hs1 _ => ⟨_, _, _, rfl, ?_⟩
    refine appendR (e := 88) (sz := 2) (by_ := 32) (z := [.int .i64 0, .slice none 0 0]) (by kernel_rfl) (SRow.nil w1 88 2 _) (hd.keep hs1 (by simp)) ho (by omega) (by simp only [maxLen]; omega) rfl ?_
    intro w2 a2 c2 hr2 hs2 ho2
    have hs2 : Same [] w1 w2 := by simpa [ownB] using hs2
    exact ⟨_, _, _, rfl, hk w2 (a2, 0 + d.2.1, c2) (by simpa using hr2) (hs1.trans hs2) fun b hb => Nat.le_trans hs1.size ((ho2 b hb).resolve_left (by simp [ownB]))⟩

theorem sls_one (l : List D) : ∀ y ∈ l.map sl, y.oneCell' = true := by
  intro y hy; obtain ⟨x, _, rfl⟩ := List.mem_map.1 hy; rfl

/-- Copy. -/
theorem fn13 (h : Obj PP w p s own) (hF : s.F.length ≤ 1000000) (hC : s.C.length ≤ 1000000)
    (hk : ∀ w' q own', Obj PP w' p s own → Obj PP w' q s own' → Same [] w w' → (∀ b ∈ own', w.heap.size ≤ b) → K (.pointer (some ⟨q, 0, none⟩)) w') :
    FN Try.prog 13 #[.pointer (some ⟨p, 0, none⟩)] w K E := by
  obtain ⟨ab, ac, af, ds, es, h, rfl⟩ := h
  obtain ⟨B, C, F, cnt, snc⟩ := s
  have hcl := h.cl
  have hsl := h.sl
  match cnt, hcl, snc, hsl, h, hk with
  | [c0, c1, c2, c3], _, [d0, d1, d2, d3], _, h, hk =>
  refine R13_ok (eqlPtrNil ⟨_, rfl, BIF.no rfl (ldA (n := 11) h.blk rfl rfl ⟨_, _, _, _, _, _, _, _, _, _, _, _, _, _, _, _, _, rfl, ?_⟩)⟩)
  refine allocR (z := .agg #[.slice none 0 0, .slice none 0 0, .slice none 0 0, .int .i64 0, .int .i64 0, .int .i64 0, .int .i64 0, .int .i64 0, .int .i64 0, .int .i64 0, .int .i64 0]) (by kernel_rfl) fun w1 q hq hb1 hs1 _ => ⟨_, rfl, ?_⟩
  refine stA (vs := [sl ab, sl ac, sl af, .int .i64 c0, .int .i64 c1, .int .i64 c2, .int .i64 c3, .int .i64 d0, .int .i64 d1, .int .i64 d2, .int .i64 d3]) hb1 (by simp [Value.cells]) (fun w2 hb2 hs2 _ => ?_) (by simp [Value.oneCell']) (by kernel_rfl)
  have hs02 : Same [] w w2 := hs1.then hs2 fun b hb => .inr (by rw [List.mem_singleton.1 hb]; exact hq)
  have hb2 : Blk w2 q 78 (cellsOf ab ac af [c0, c1, c2, c3] [d0, d1, d2, d3]) := hb2
  have h2 := h.nil (.inl rfl) hs02
  have S0 : ∀ {w'}, Same [] w2 w' → Blk w' p 78 (cellsOf ab ac af [c0, c1, c2, c3] [d0, d1, d2, d3]) := fun hs => (h2.nil (.inl rfl) hs).blk
  refine DRAW.mk (fun w' => Blk w' p 78 (cellsOf ab ac af [c0, c1, c2, c3] [d0, d1, d2, d3])) ?_
  refine HELD.ld (w := drew w2) h2.blk (fun _ h => h) rfl ⟨_, _, _, rfl, ?_⟩
  refine HELD.ld (w := drew w2) h2.blk (fun _ h => h) rfl ⟨_, _, _, rfl, ?_⟩
  refine HELD.ld (w := drew w2) h2.blk (fun _ h => h) rfl ⟨_, _, _, rfl, ?_⟩
  have hdr : Same [] w2 (drew w2) := (Same.refl [] w2).drew
  have hnb := h.nb
  have hhi := h.hi
  have hnc := h.nc
  simp only [] at hnb hhi hnc hF hC
  refine fn45 (w := drew w2) (h2.arr.keep hdr (by simp)) (by omega) (sls_one _) fun w3 d3' hr3 hs3 ho3 => ⟨_, _, _, rfl, ?_⟩
  have hs3 : Same [] w2 w3 := hs3.of_drew
  refine ⟨S0 hs3, fn46 (h2.car.keep hs3 (by simp)) (by omega) (cach_one' _) fun w4 d4' hr4 hs4 ho4 => ⟨_, _, _, rfl, ?_⟩⟩
  refine ⟨S0 (hs3.trans hs4), fn47 hF (h2.far.keep (hs3.trans hs4) (by simp)) fun w5 d5' hr5 hs5 ho5 => ⟨_, _, _, rfl, ?_⟩⟩
  have hs25 : Same [] w2 w5 := hs3.trans (hs4.trans hs5)
  have hb5 := hs25.blk hb2 (by simp)
  refine Lift.st hb5 (by simp [cellsOf, i64s]) fun w6 hb6 hs6 _ => ?_
  refine Lift.st hb6 (by simp [cellsOf, i64s]) fun w7 hb7 hs7 _ => ?_
  refine Lift.st hb7 (by simp [cellsOf, i64s]) fun w8 hb8 hs8 _ => ?_
  have hs58 : Same [q] w5 w8 := hs6.trans (hs7.trans hs8)
  have hb8 : Blk w8 q 78 (cellsOf d3' d4' d5' [c0, c1, c2, c3] [d0, d1, d2, d3]) := hb8
  have hq5 : q < w5.heap.size := hb5.lt
  have hq2 : q < w2.heap.size := hb2.lt
  have hs08 : Same [] w w8 := (hs02.trans hs25).then hs58 fun b hb => .inr (by rw [List.mem_singleton.1 hb]; exact hq)
  have hdq : ∀ {b}, w2.heap.size ≤ b → b ∉ [q] := fun hb e => by have := List.mem_singleton.1 e; omega
  have hcq : ∀ b, Calm w5 b → b ∉ [q] := fun b hc e => by
    obtain ⟨T, cs, hb', hT⟩ := hc
    have := (hb5.inj (List.mem_singleton.1 e ▸ hb')).1
    rcases hT with rfl | rfl | rfl | rfl | rfl <;> revert this <;> decide
  have h5 := h2.nil (.inl rfl) hs25
  refine hk w8 q _ ⟨ab, ac, af, ds, es, h.nil (.inl rfl) hs08, rfl⟩ ⟨d3', d4', d5', ds, es, ?_, rfl⟩ hs08 fun b hb => ?_
  · exact {
      blk := hb8
      arr := (hr3.keep (hs4.trans hs5) (by simp)).keep hs58 fun b hb => hdq (ho3 b hb)
      car := (hr4.keep hs5 (by simp)).keep hs58 fun b hb => hdq (Nat.le_trans hs3.size (ho4 b hb))
      far := hr5.keep hs58 fun b hb => hdq (Nat.le_trans (hs3.trans hs4).size (ho5 b hb))
      rows := h5.rows.keep hs58 hcq
      crow := h5.crow.keep hs58 hcq
      cl := rfl
      sl := rfl
      b64 := h.b64
      c64 := h.c64
      lo := h.lo
      hi := h.hi }
  · simp only [List.mem_cons, List.mem_append] at hb
    rcases hb with rfl | hb | hb
    · exact hq
    · exact Nat.le_trans hs02.size (ho3 b hb)
    · exact Nat.le_trans (hs02.trans hs3).size (ho4 b hb)

/-! ### New -/
def St.new (n : Nat) : St := ⟨List.replicate n (List.replicate 64 0), [], [], [0, 0, 0, 0], [0, 0, 0, 0]⟩

/-- New, the program's. -/
theorem fn9 {n : Int} (hbad : (n < 64 ∨ 8192 < n) → K (.tuple #[.pointer none, .int .i64 1]) w)
    (hk : 64 ≤ n → n ≤ 8192 → ∀ w' q own, Obj PP w' q (St.new n.toNat) own → Same [] w w' → (∀ b ∈ own, w.heap.size ≤ b) → K (.tuple #[.pointer (some ⟨q, 0, none⟩), .int .i64 0]) w') :
    FN Try.prog 9 #[.int .i64 n] w K E := by
  refine R9_ok (JOIN.mk (fun _ w1 => w1 = w ∧ 64 ≤ n ∧ n ≤ 8192) (BIF.dec (fun hc => hbad (.inl hc)) fun hc => BIF.dec (fun hc' => hbad (.inr hc')) fun hc' => ⟨rfl, by omega, by omega⟩) ?_)
  rintro _ w1 ⟨rfl, h0, h1⟩ J
  refine boxR fun w2 q hq hb2 hs2 _ => ⟨_, rfl, ?_⟩
  have hb2 : Blk w2 q 78 (cellsOf (none, 0, 0) (none, 0, 0) (none, 0, 0) [0, 0, 0, 0] [0, 0, 0, 0]) := hb2
  refine LOOP.mk (fun x w' => 0 ≤ x.1 ∧ x.1 ≤ n ∧ Same [] w1 w' ∧ ∃ ab ds, Blk w' q 78 (cellsOf ab (none, 0, 0) (none, 0, 0) [0, 0, 0, 0] [0, 0, 0, 0]) ∧ SRow w' 49 1 ab.1 ab.2.1 ab.2.2 (ds.map sl) ∧ Rows w' ds (List.replicate x.1.toNat (List.replicate 64 0)) ∧ (∀ b ∈ ownB ab.1 ab.2.2, w1.heap.size ≤ b)) (fun x _ => (n - x.1).toNat)
    ⟨by simp, by simp only []; omega, hs2, (none, 0, 0), [], hb2, SRow.nil w2 49 1 none, ⟨rfl, by simp⟩, by simp [ownB]⟩ ?_
  rintro ⟨i, _⟩ w3 ⟨hi0, hi1, hs3, ab, ds, hb3, hr3, hrows, ho3⟩ J2
  simp only [] at hi0 hi1 hrows
  refine BIF.dec (fun hc => ?_) fun hc => ?_
  · have hc : i < n := hc
    have e1 : IntKind.wrap .i64 (i + 1) = i + 1 := wrap64 (by omega) (by omega)
    have e2 : (i + 1).toNat = i.toNat + 1 := by omega
    have hdl : ds.length = i.toNat := by have := hrows.1; simpa using this
    have hal : ab.2.1 = i.toNat := by have := hr3.1; simp at this; omega
    refine DRAW.mk (fun w' => Blk w' q 78 (cellsOf ab (none, 0, 0) (none, 0, 0) [0, 0, 0, 0] [0, 0, 0, 0])) ?_
    refine HELD.ld (w := drew w3) hb3 (fun _ h => h) rfl ⟨_, _, _, rfl, ?_⟩
    refine makeR1 (w := drew w3) (e := 5) (by_ := 1) (z0 := .int .u8 0) (by kernel_rfl) (by omega) (by omega) (by omega) (by omega) fun w4 x hx hb4 hs4 _ => ⟨_, _, _, rfl, ?_⟩
    have hs4 : Same [] w3 w4 := hs4.of_drew
    have hb4 : Blk w4 x 5 (List.replicate 64 (.int .u8 0)) := hb4
    have hq4 := hs4.blk hb3 (by simp)
    have hd4 : Row 5 w4 (some ⟨x, 0, none⟩, 64, 64) (List.replicate 64 0) := ⟨by simp, by simp, .inr ⟨x, 0, _, rfl, hb4, by simp, by simp [bv]⟩⟩
    refine ⟨hq4, litR1 (e := 49) (sz := 1) (by_ := 24) (z := [.slice none 0 0]) (by kernel_rfl) (by rfl) (by omega) (by omega) fun w5 y hy hb5 hs5 _ => ⟨_, _, _, rfl, ?_⟩⟩
    have hq5 := hs5.blk hq4 (by simp)
    have hd5 := Row.nil hd4 hs5
    have hs35 : Same [] w3 w5 := hs4.trans hs5
    have hb5 : Blk w5 y 49 [sl (some ⟨x, 0, none⟩, 64, 64)] := hb5
    refine ⟨hq5, appendR (e := 49) (sz := 1) (by_ := 24) (z := [.slice none 0 0]) (by kernel_rfl) (hr3.keep hs35 (by simp)) (T' := 49) (ys := [sl (some ⟨x, 0, none⟩, 64, 64)]) ⟨by simp, by omega, .inr ⟨y, 0, _, rfl, hb5, by simp, by simp⟩⟩ (by simp [Value.oneCell']) (by omega) (by simp only [maxLen]; omega) rfl ?_⟩
    intro w6 a6 c6 hr6 hs6 ho6
    have hqa : q ∉ ownB ab.1 ab.2.2 := fun hm => by
      obtain ⟨_, h'⟩ := (hr3.keep hs35 (by simp)).typed q hm
      have := (hq5.inj h').1
      revert this; decide
    have hq6 := hs6.blk hq5 hqa
    refine ⟨_, _, _, rfl, Lift.st hq6 (by simp [cellsOf, i64s]) fun w7 hb7 hs7 _ => ?_⟩
    have hs36 : Same (q :: ownB ab.1 ab.2.2) w5 w7 := (hs6.mono fun b hb => List.mem_cons_of_mem _ hb).trans (hs7.mono (by simp))
    have hfresh : ∀ b ∈ q :: ownB ab.1 ab.2.2, w1.heap.size ≤ b := by
      intro b hb
      rcases List.mem_cons.1 hb with rfl | hb
      · exact hq
      · exact ho3 b hb
    have hcalm : ∀ b, Calm w5 b → b ∉ q :: ownB ab.1 ab.2.2 := by
      intro b ⟨T, cs, hb', hT⟩ hm
      rcases List.mem_cons.1 hm with rfl | hm
      · have := (hq5.inj hb').1
        rcases hT with rfl | rfl | rfl | rfl | rfl <;> revert this <;> decide
      · obtain ⟨_, h'⟩ := (hr3.keep hs35 (by simp)).typed b hm
        have := (h'.inj hb').1
        rcases hT with rfl | rfl | rfl | rfl | rfl <;> revert this <;> decide
    have hqa6 : q ∉ ownB a6 c6 := fun hm => (ho6 q hm).elim hqa fun hle => by have := hq5.lt; omega
    simp only [e1, e2]
    refine ⟨⟨by omega, by omega, (hs3.trans hs35).then hs36 fun b hb => .inr (hfresh b hb), (a6, ab.2.1 + 1, c6), ds ++ [(some ⟨x, 0, none⟩, 64, 64)], hb7, ?_, ?_, fun b hb => (ho6 b hb).elim (ho3 b) fun h => Nat.le_trans (hs3.trans hs35).size h⟩, by omega⟩
    · rw [List.map_append]
      exact hr6.keep hs7 fun b hb e => hqa6 (List.mem_singleton.1 e ▸ hb)
    · have hrows7 := (hrows.keep hs35 (fun _ _ h => by cases h)).keep hs36 hcalm
      have hd7 : Row 5 w7 _ _ := Row.keep hd5 hs36 hcalm
      refine ⟨by simp [hdl], fun j d' x' hj hj' => ?_⟩
      rw [List.replicate_succ'] at hj'
      rcases Nat.lt_trichotomy j ds.length with h | h | h
      · rw [List.getElem?_append_left h] at hj
        rw [List.getElem?_append_left (by simp; omega)] at hj'
        exact hrows7.2 j d' x' hj hj'
      · subst h
        rw [List.getElem?_append_right (Nat.le_refl _), Nat.sub_self] at hj
        rw [List.getElem?_append_right (by simp; omega)] at hj'
        simp [hdl] at hj hj'
        subst hj; subst hj'
        simpa using hd7
      · rw [List.getElem?_eq_none (by simp; omega)] at hj
        cases hj
  · have hc : ¬ i < n := hc
    have hie : i.toNat = n.toNat := by omega
    rw [hie] at hrows
    refine hk h0 h1 w3 q _ ⟨ab, (none, 0, 0), (none, 0, 0), ds, [], ?_, rfl⟩ hs3 fun b hb => ?_
    · exact {
        blk := hb3
        arr := hr3
        car := SRow.nil w3 _ 2 none
        far := SRow.nil w3 _ 2 none
        rows := hrows
        crow := ⟨rfl, fun i d x hd => by simp at hd⟩
        cl := rfl
        sl := rfl
        b64 := fun x hx => by rw [(List.mem_replicate.1 hx).2]; simp
        c64 := by simp [St.new]
        lo := by simp [St.new]; omega
        hi := by simp [St.new]; omega }
    · simp [ownB] at hb
      rcases hb with rfl | hb
      · exact hq
      · exact ho3 b (by simpa [ownB] using hb)

/-- New, the model's. -/
theorem fn10 {n : Int} (hbad : (n < 64 ∨ 8192 < n) → K (.tuple #[.pointer none, .int .i64 1]) w)
    (hk : 64 ≤ n → n ≤ 8192 → ∀ w' q own, Obj PR w' q (St.new n.toNat) own → Same [] w w' → (∀ b ∈ own, w.heap.size ≤ b) → K (.tuple #[.pointer (some ⟨q, 0, none⟩), .int .i64 0]) w') :
    FN Try.prog 10 #[.int .i64 n] w K E := by
  refine R10_ok (JOIN.mk (fun _ w1 => w1 = w ∧ 64 ≤ n ∧ n ≤ 8192) (BIF.dec (fun hc => hbad (.inl hc)) fun hc => BIF.dec (fun hc' => hbad (.inr hc')) fun hc' => ⟨rfl, by omega, by omega⟩) ?_)
  rintro _ w1 ⟨rfl, h0, h1⟩ J
  refine boxR fun w2 q hq hb2 hs2 _ => ⟨_, rfl, ?_⟩
  have hb2 : Blk w2 q 46 (cellsOf (none, 0, 0) (none, 0, 0) (none, 0, 0) [0, 0, 0, 0] [0, 0, 0, 0]) := hb2
  refine LOOP.mk (fun x w' => 0 ≤ x.1 ∧ x.1 ≤ n ∧ Same [] w1 w' ∧ ∃ ab ds, Blk w' q 46 (cellsOf ab (none, 0, 0) (none, 0, 0) [0, 0, 0, 0] [0, 0, 0, 0]) ∧ SRow w' 49 1 ab.1 ab.2.1 ab.2.2 (ds.map sl) ∧ Rows w' ds (List.replicate x.1.toNat (List.replicate 64 0)) ∧ (∀ b ∈ ownB ab.1 ab.2.2, w1.heap.size ≤ b)) (fun x _ => (n - x.1).toNat)
    ⟨by simp, by simp only []; omega, hs2, (none, 0, 0), [], hb2, SRow.nil w2 49 1 none, ⟨rfl, by simp⟩, by simp [ownB]⟩ ?_
  rintro ⟨i, _⟩ w3 ⟨hi0, hi1, hs3, ab, ds, hb3, hr3, hrows, ho3⟩ J2
  simp only [] at hi0 hi1 hrows
  refine BIF.dec (fun hc => ?_) fun hc => ?_
  · have hc : i < n := hc
    have e1 : IntKind.wrap .i64 (i + 1) = i + 1 := wrap64 (by omega) (by omega)
    have e2 : (i + 1).toNat = i.toNat + 1 := by omega
    have hdl : ds.length = i.toNat := by have := hrows.1; simpa using this
    have hal : ab.2.1 = i.toNat := by have := hr3.1; simp at this; omega
    refine DRAW.mk (fun w' => Blk w' q 46 (cellsOf ab (none, 0, 0) (none, 0, 0) [0, 0, 0, 0] [0, 0, 0, 0])) ?_
    refine HELD.ld (w := drew w3) hb3 (fun _ h => h) rfl ⟨_, _, _, rfl, ?_⟩
    refine makeR1 (w := drew w3) (e := 5) (by_ := 1) (z0 := .int .u8 0) (by kernel_rfl) (by omega) (by omega) (by omega) (by omega) fun w4 x hx hb4 hs4 _ => ⟨_, _, _, rfl, ?_⟩
    have hs4 : Same [] w3 w4 := hs4.of_drew
    have hb4 : Blk w4 x 5 (List.replicate 64 (.int .u8 0)) := hb4
    have hq4 := hs4.blk hb3 (by simp)
    have hd4 : Row 5 w4 (some ⟨x, 0, none⟩, 64, 64) (List.replicate 64 0) := ⟨by simp, by simp, .inr ⟨x, 0, _, rfl, hb4, by simp, by simp [bv]⟩⟩
    refine ⟨hq4, litR1 (e := 49) (sz := 1) (by_ := 24) (z := [.slice none 0 0]) (by kernel_rfl) (by rfl) (by omega) (by omega) fun w5 y hy hb5 hs5 _ => ⟨_, _, _, rfl, ?_⟩⟩
    have hq5 := hs5.blk hq4 (by simp)
    have hd5 := Row.nil hd4 hs5
    have hs35 : Same [] w3 w5 := hs4.trans hs5
    have hb5 : Blk w5 y 49 [sl (some ⟨x, 0, none⟩, 64, 64)] := hb5
    refine ⟨hq5, appendR (e := 49) (sz := 1) (by_ := 24) (z := [.slice none 0 0]) (by kernel_rfl) (hr3.keep hs35 (by simp)) (T' := 49) (ys := [sl (some ⟨x, 0, none⟩, 64, 64)]) ⟨by simp, by omega, .inr ⟨y, 0, _, rfl, hb5, by simp, by simp⟩⟩ (by simp [Value.oneCell']) (by omega) (by simp only [maxLen]; omega) rfl ?_⟩
    intro w6 a6 c6 hr6 hs6 ho6
    have hqa : q ∉ ownB ab.1 ab.2.2 := fun hm => by
      obtain ⟨_, h'⟩ := (hr3.keep hs35 (by simp)).typed q hm
      have := (hq5.inj h').1
      revert this; decide
    have hq6 := hs6.blk hq5 hqa
    refine ⟨_, _, _, rfl, Lift.st hq6 (by simp [cellsOf, i64s]) fun w7 hb7 hs7 _ => ?_⟩
    have hs36 : Same (q :: ownB ab.1 ab.2.2) w5 w7 := (hs6.mono fun b hb => List.mem_cons_of_mem _ hb).trans (hs7.mono (by simp))
    have hfresh : ∀ b ∈ q :: ownB ab.1 ab.2.2, w1.heap.size ≤ b := by
      intro b hb
      rcases List.mem_cons.1 hb with rfl | hb
      · exact hq
      · exact ho3 b hb
    have hcalm : ∀ b, Calm w5 b → b ∉ q :: ownB ab.1 ab.2.2 := by
      intro b ⟨T, cs, hb', hT⟩ hm
      rcases List.mem_cons.1 hm with rfl | hm
      · have := (hq5.inj hb').1
        rcases hT with rfl | rfl | rfl | rfl | rfl <;> revert this <;> decide
      · obtain ⟨_, h'⟩ := (hr3.keep hs35 (by simp)).typed b hm
        have := (h'.inj hb').1
        rcases hT with rfl | rfl | rfl | rfl | rfl <;> revert this <;> decide
    have hqa6 : q ∉ ownB a6 c6 := fun hm => (ho6 q hm).elim hqa fun hle => by have := hq5.lt; omega
    simp only [e1, e2]
    refine ⟨⟨by omega, by omega, (hs3.trans hs35).then hs36 fun b hb => .inr (hfresh b hb), (a6, ab.2.1 + 1, c6), ds ++ [(some ⟨x, 0, none⟩, 64, 64)], hb7, ?_, ?_, fun b hb => (ho6 b hb).elim (ho3 b) fun h => Nat.le_trans (hs3.trans hs35).size h⟩, by omega⟩
    · rw [List.map_append]
      exact hr6.keep hs7 fun b hb e => hqa6 (List.mem_singleton.1 e ▸ hb)
    · have hrows7 := (hrows.keep hs35 (fun _ _ h => by cases h)).keep hs36 hcalm
      have hd7 : Row 5 w7 _ _ := Row.keep hd5 hs36 hcalm
      refine ⟨by simp [hdl], fun j d' x' hj hj' => ?_⟩
      rw [List.replicate_succ'] at hj'
      rcases Nat.lt_trichotomy j ds.length with h | h | h
      · rw [List.getElem?_append_left h] at hj
        rw [List.getElem?_append_left (by simp; omega)] at hj'
        exact hrows7.2 j d' x' hj hj'
      · subst h
        rw [List.getElem?_append_right (Nat.le_refl _), Nat.sub_self] at hj
        rw [List.getElem?_append_right (by simp; omega)] at hj'
        simp [hdl] at hj hj'
        subst hj; subst hj'
        simpa using hd7
      · rw [List.getElem?_eq_none (by simp; omega)] at hj
        cases hj
  · have hc : ¬ i < n := hc
    have hie : i.toNat = n.toNat := by omega
    rw [hie] at hrows
    refine hk h0 h1 w3 q _ ⟨ab, (none, 0, 0), (none, 0, 0), ds, [], ?_, rfl⟩ hs3 fun b hb => ?_
    · exact {
        blk := hb3
        arr := hr3
        car := SRow.nil w3 _ 2 none
        far := SRow.nil w3 _ 2 none
        rows := hrows
        crow := ⟨rfl, fun i d x hd => by simp at hd⟩
        cl := rfl
        sl := rfl
        b64 := fun x hx => by rw [(List.mem_replicate.1 hx).2]; simp
        c64 := by simp [St.new]
        lo := by simp [St.new]; omega
        hi := by simp [St.new]; omega }
    · simp [ownB] at hb
      rcases hb with rfl | hb
      · exact hq
      · exact ho3 b (by simpa [ownB] using hb)

end
end Go.Proofs.Ytdabjchdmieegaa
