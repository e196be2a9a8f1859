/-
  Read, of both platters.
-/
import Derived.Test.YtdabjchdmieegaaW4
set_option linter.unusedVariables false
namespace Go.Proofs.Ytdabjchdmieegaa
open Go Go.Lift Go.RowKit
section
variable {t : PT} {w w' : World} {p : Nat} {s : St} {ab ac af : D} {ds es : List D} {own : List Nat}
variable {K : Value → World → Prop} {E : List PanicEntry → World → Prop}

def lookup (C : List (Nat × List UInt8)) (n : Nat) (x : List UInt8) : List UInt8 := C.foldl (fun b c => if c.1 = n then c.2 else b) x
theorem lookup_succ {C : List (Nat × List UInt8)} {i n : Nat} {x : List UInt8} {c : Nat × List UInt8} (h : C[i]? = some c) : lookup (C.take (i + 1)) n x = if c.1 = n then c.2 else lookup (C.take i) n x := by
  simp only [lookup, List.take_add_one, h, Option.toList_some, List.foldl_append, List.foldl_cons, List.foldl_nil]
theorem lookup_len {C : List (Nat × List UInt8)} {n : Nat} {x : List UInt8} (hx : x.length = 64) (hC : ∀ c ∈ C, c.2.length = 64) : (lookup C n x).length = 64 := by
  unfold lookup
  induction C generalizing x with
  | nil => exact hx
  | cons c C ih =>
    simp only [List.foldl_cons]
    refine ih ?_ (fun c hc => hC c (List.mem_cons_of_mem _ hc))
    split
    · exact hC c (List.mem_cons_self)
    · exact hx

def St.get (s : St) (n : Int) : List UInt8 × Int := if s.bad n then ([], 1) else (lookup s.C n.toNat (s.B.getD n.toNat []), 0)
def St.rd (s : St) (n : Int) : St × List UInt8 × Int := (s.bump 1, if (s.bump 1).faulty 1 then ([], 6) else (s.bump 1).get n)

theorem cach_get : ∀ (l : List (Nat × D)) (i : Nat) (f : Nat × D), l[i]? = some f → (cach l)[i * 2]? = some (.int .i64 (f.1 : Int)) ∧ (cach l)[i * 2 + 1]? = some (sl f.2)
  | x :: l, 0, f, h => by simp at h; subst h; exact ⟨rfl, rfl⟩
  | x :: l, i + 1, f, h => by
    have := cach_get l i f (by simpa using h)
    have e : (i + 1) * 2 = i * 2 + 2 := by omega
    rw [e]
    exact this

theorem Lay.cAt (h : Lay t w p s ab ac af ds es) {i : Nat} (hi : i < s.C.length) : ∃ c e, s.C[i]? = some c ∧ c ∈ s.C ∧ es[i]? = some e ∧ Row 5 w e c.2 ∧
    (cach ((s.C.map (·.1)).zip es))[i * 2]? = some (.int .i64 (c.1 : Int)) ∧ (cach ((s.C.map (·.1)).zip es))[i * 2 + 1]? = some (Lift.sl e) := by
  have hl := h.ne
  have h1 : s.C[i]? = some s.C[i] := List.getElem?_eq_getElem hi
  have h2 : es[i]? = some es[i] := List.getElem?_eq_getElem (by omega)
  refine ⟨s.C[i], es[i], h1, List.getElem_mem _, h2, h.crow.2 i _ _ h2 (by simp [h1]), ?_⟩
  exact cach_get _ i (s.C[i].1, es[i]) (by simp [List.getElem?_zip_eq_some, h1, h2])

theorem Lay.bAt (h : Lay t w p s ab ac af ds es) {i : Nat} (hi : i < s.B.length) : ∃ d, ds[i]? = some d ∧ Row 5 w d (s.B.getD i []) ∧ (ds.map Lift.sl)[i]? = some (Lift.sl d) ∧ (s.B.getD i []).length = 64 := by
  have hl := h.rows.1
  have h1 : s.B[i]? = some s.B[i] := List.getElem?_eq_getElem hi
  have h2 : ds[i]? = some ds[i] := List.getElem?_eq_getElem (by omega)
  have e : s.B.getD i [] = s.B[i] := by simp [List.getD, h1]
  rw [e]
  exact ⟨ds[i], h2, h.rows.2 i _ _ h2 h1, by simp [h2], h.b64 _ (List.getElem_mem _)⟩

theorem row_nil (w : World) : Row 5 w (none, 0, 0) [] := SRow.nil w 5 1 none

/-- A variable of another type may turn. -/
theorem Lay.var (ht : t.ok) (h : Lay t w p s ab ac af ds es) {v : Nat} {T : TypeId} {cs : List Value} (hb : Blk w v T cs) (hT : T ≠ 5 ∧ T ≠ 91 ∧ T ≠ 106 ∧ T ≠ 35 ∧ T ≠ 4) (hv : v ∉ p :: (ownB ab.1 ab.2.2 ++ ownB ac.1 ac.2.2)) (hs : Same [v] w w') : Lay t w' p s ab ac af ds es :=
  h.keep ht hs (fun b hb' e => hv (List.mem_singleton.1 e ▸ hb')) fun b hc e => by
    obtain ⟨T', cs', hb', hT'⟩ := hc
    have := (hb.inj (List.mem_singleton.1 e ▸ hb')).1
    subst this
    rcases hT' with e | e | e | e | e
    · exact hT.1 e
    · exact hT.2.1 e
    · exact hT.2.2.1 e
    · exact hT.2.2.2.1 e
    · exact hT.2.2.2.2 e

theorem Row.var {d : D} {xs : List UInt8} (h : Row 5 w d xs) {v : Nat} {T : TypeId} {cs : List Value} (hb : Blk w v T cs) (hT : T ≠ 5) (hs : Same [v] w w') : Row 5 w' d xs :=
  SRow.keep h hs fun b hb' e => by
    obtain ⟨cs', h'⟩ := SRow.typed h b hb'
    rw [List.mem_singleton.1 e] at h'
    exact hT (hb.inj h').1

/-- The closure of Read. -/
theorem fn62 (h : Lay PP w p s ab ac af ds es) (hC : s.C.length ≤ 1000000) {n : Int} {v1 v2 v3 : Nat}
    (hv1 : Blk w v1 24 [.pointer (some ⟨p, 0, none⟩)]) (hv2 : Blk w v2 3 [.int .i64 n]) (hv3 : Blk w v3 49 [.slice none 0 0]) (hn3 : v3 ∉ p :: (ownB ab.1 ab.2.2 ++ ownB ac.1 ac.2.2))
    (hk : ∀ w' d, Blk w' v3 49 [sl d] → Row 5 w' d (s.get n).1 → Same [v3] w w' → K (.int .i64 (s.get n).2) w') :
    FN Try.prog 62 #[.pointer (some ⟨v1, 0, none⟩), .pointer (some ⟨v2, 0, none⟩), .pointer (some ⟨v3, 0, none⟩)] w K E := by
  have h13 : v1 ∉ [v3] := fun e => by have := (hv1.inj (List.mem_singleton.1 e ▸ hv3)).1; revert this; decide
  have h23 : v2 ∉ [v3] := fun e => by have := (hv2.inj (List.mem_singleton.1 e ▸ hv3)).1; revert this; decide
  refine R62_ok (ld hv1 rfl ⟨_, rfl, ld hv2 rfl ⟨_, rfl, fn58 h ⟨_, rfl, BIF.mk (fun hc => ?_) fun hc => ?_⟩⟩⟩)
  · have hbad : s.bad n = true := hc
    have := hk w (none, 0, 0) hv3 (by simp only [St.get, hbad, if_true]; exact row_nil w) (Same.refl _ _)
    simpa only [St.get, hbad, if_true] using this
  have hbad : s.bad n = false := hc
  have hb' := hbad
  simp only [St.bad, Bool.not_eq_false', decide_eq_true_eq] at hb'
  obtain ⟨hn0, hn1⟩ := hb'
  obtain ⟨d0, hd0, hr0, hm0, hx64⟩ := h.bAt (i := n.toNat) (by omega)
  obtain ⟨x, o, cs, ex, _, hbx, hlen, hget, _⟩ := h.arr.open (by rw [h.nb]; omega)
  refine DRAW.mk (fun w' => Blk w' p 78 (cellsOf ab ac af s.cnt s.snc) ∧ Blk w' v1 24 [.pointer (some ⟨p, 0, none⟩)] ∧ Blk w' v2 3 [.int .i64 n] ∧ Blk w' x 49 cs) ?_
  have hS : Blk (drew w) p 78 (cellsOf ab ac af s.cnt s.snc) ∧ Blk (drew w) v1 24 [.pointer (some ⟨p, 0, none⟩)] ∧ Blk (drew w) v2 3 [.int .i64 n] ∧ Blk (drew w) x 49 cs := ⟨h.blk, hv1, hv2, hbx⟩
  refine HELD.ld hS (fun _ h => h.2.1) rfl ⟨_, rfl, NILCHK.mk ?_⟩
  refine HELD.ld hS (fun _ h => h.1) rfl ⟨_, _, _, rfl, ?_⟩
  refine HELD.ld hS (fun _ h => h.2.2.1) rfl ⟨_, rfl, ?_⟩
  have hnb := h.nb
  refine IDX.at ex hn0 (by omega) (HELD.ld hS (fun _ h => h.2.2.2) (v := sl d0) (by rw [Nat.mul_one, hget _ (by omega)]; exact hm0) ⟨_, _, _, rfl, ?_⟩)
  refine Lift.st (w := drew w) hv3 (by simp) fun w1 hb1 hs1 _ => ?_
  have hs1' : Same [v3] w w1 := hs1.of_drew
  have hr1 : Row 5 w1 d0 (s.B.getD n.toNat []) := Row.var hr0 hv3 (by decide) hs1'
  have h1 := h.var (.inl rfl) hv3 (by decide) hn3 hs1'
  refine ld (hs1'.blk hv1 h13) rfl ⟨_, rfl, NILCHK.mk ?_⟩
  rw [add_mk]
  refine ld h1.blk rfl ⟨_, _, _, rfl, ?_⟩
  have hnc := h1.nc
  refine LOOP.mk (fun x w' => 0 ≤ x.1 ∧ x.1 ≤ s.C.length ∧ Same [v3] w w' ∧ ∃ d, Blk w' v3 49 [sl d] ∧ Row 5 w' d (lookup (s.C.take x.1.toNat) n.toNat (s.B.getD n.toNat []))) (fun x _ => (s.C.length - x.1).toNat)
    ⟨by simp, by simp, hs1', d0, hb1, by simpa [lookup] using hr1⟩ ?_
  rintro ⟨i, _⟩ w2 ⟨hi0, hi1, hs2, d, hb2, hr2⟩ J
  simp only [] at hi0 hi1 hr2
  have h2 := h.var (.inl rfl) hv3 (by decide) hn3 hs2
  refine BIF.dec (fun hc => ?_) fun hc => ?_
  · rw [hnc] at hc
    obtain ⟨c, e, hc1, hcm, he, hre, g1, g2⟩ := h2.cAt (i := i.toNat) (by omega)
    obtain ⟨y, o2, cs2, ey, _, hby, hlen2, hget2, _⟩ := h2.car.open (by omega)
    have e1 : IntKind.wrap .i64 (i + 1) = i + 1 := wrap64 (by omega) (by omega)
    have e2 : (i + 1).toNat = i.toNat + 1 := by omega
    refine IDX.at ey hi0 (by omega) (ldA (n := 2) hby (take_two (x := .int .i64 (c.1 : Int)) (y := sl e) ?_ ?_) rfl ⟨_, _, _, _, rfl, ?_⟩)
    · rw [hget2 _ (by omega)]; exact g1
    · rw [Nat.add_assoc, hget2 _ (by omega)]; exact g2
    refine allocR (z := .agg #[.int .i64 0, .slice none 0 0]) (by kernel_rfl) fun w3 v4 hv4 hb3 hs3 _ => ⟨_, rfl, ?_⟩
    refine stA (vs := [.int .i64 (c.1 : Int), sl e]) hb3 (by simp [Value.cells]) (fun w4 hb4 hs4 _ => ?_) (by simp [Value.oneCell']) (by kernel_rfl)
    have hb4' : Blk w4 v4 88 [.int .i64 (c.1 : Int), sl e] := by simpa [splice, Value.cells] using hb4
    have hs34 : Same [] w2 w4 := hs3.then hs4 fun b hb => .inr (by rw [List.mem_singleton.1 hb]; exact hv4)
    have hs4' : Same [v3] w w4 := hs2.trans hs34.nil
    refine ld hb4' rfl ⟨_, rfl, ld (hs4'.blk hv2 h23) rfl ⟨_, rfl, BIF.mk (fun hq => ?_) fun hq => ?_⟩⟩
    · refine ld hb4' rfl ⟨_, _, _, rfl, ?_⟩
      refine Lift.st (hs34.blk hb2 (by simp)) (by simp) fun w5 hb5 hs5 _ => ?_
      simp only [e1, e2]
      refine ⟨⟨by omega, by omega, hs4'.trans hs5, e, hb5, ?_⟩, by omega⟩
      rw [lookup_succ hc1, if_pos (by have := eq_of_beq hq; omega)]
      exact Row.var (Row.nil hre hs34) (hs34.blk hb2 (by simp)) (by decide) hs5
    · simp only [e1, e2]
      refine ⟨⟨by omega, by omega, hs4', d, hs34.blk hb2 (by simp), ?_⟩, by omega⟩
      rw [lookup_succ hc1, if_neg (fun e => by simp at hq; omega)]
      exact Row.nil hr2 hs34
  · rw [hnc] at hc
    have hie : i.toNat = s.C.length := by omega
    rw [hie, List.take_length] at hr2
    have hl64 : (lookup s.C n.toNat (s.B.getD n.toNat [])).length = 64 := lookup_len hx64 fun c hc => (h.c64 c hc).2
    refine ld hb2 rfl ⟨_, _, _, rfl, ?_⟩
    refine fn59 hr2 (by omega) (by omega) fun w3 d3 hr3 hs3 _ => ⟨_, _, _, rfl, ?_⟩
    have hb3 := hs3.blk hb2 (by simp)
    refine Lift.st hb3 (by simp) fun w4 hb4 hs4 _ => ?_
    have := hk w4 d3 hb4 (by simp only [St.get, hbad, Bool.false_eq_true, if_false]; exact Row.var hr3 hb3 (by decide) hs4) ((hs2.trans hs3.nil).trans hs4)
    simpa only [St.get, hbad, Bool.false_eq_true, if_false] using this

/-- Read. -/
theorem fn34 (h : Obj PP w p s own) (hF : s.F.length ≤ 1000000) (hC : s.C.length ≤ 1000000) {n : Int}
    (hk : ∀ w' d, Obj PP w' p (s.rd n).1 own → Same own w w' → Row 5 w' d (s.rd n).2.1 → K (.tuple #[sl d, .int .i64 (s.rd n).2.2]) w') :
    FN Try.prog 34 #[.pointer (some ⟨p, 0, none⟩), .int .i64 n] w K E := by
  obtain ⟨ab, ac, af, ds, es, h, rfl⟩ := h
  have hown := Obj.lt (⟨ab, ac, af, ds, es, h, rfl⟩ : Obj PP w p s _)
  refine R34_ok (boxR fun w1 v1 hv1 hb1 hs1 _ => ⟨_, rfl, boxR fun w2 v2 hv2 hb2 hs2 _ => ⟨_, rfl, allocR (z := .slice none 0 0) (by kernel_rfl) fun w3 v3 hv3 hb3 hs3 _ => ⟨_, rfl, ?_⟩⟩⟩)
  have hs : Same [] w w3 := hs1.trans (hs2.trans hs3)
  have g1 : Blk w3 v1 24 [.pointer (some ⟨p, 0, none⟩)] := (hs2.trans hs3).blk hb1 (by simp)
  have g2 : Blk w3 v2 3 [.int .i64 n] := hs3.blk hb2 (by simp)
  have g3 : Blk w3 v3 49 [.slice none 0 0] := hb3
  have hge : w.heap.size ≤ v3 := Nat.le_trans (hs1.trans hs2).size hv3
  have h3 := h.nil (.inl rfl) hs
  refine ld g1 rfl ⟨_, rfl, ?_⟩
  have fin : ∀ w' d, Blk w' v3 49 [sl d] → Lay PP w' p (s.bump 1) ab ac af ds es → Same (p :: (ownB ab.1 ab.2.2 ++ ownB ac.1 ac.2.2)) w w' → Row 5 w' d (s.rd n).2.1 →
      OPW Try.prog (sV (Instr.loadAt 49 (.pointer (some ⟨v3, 0, none⟩)))) w' (fun r_18 w_19 => ∃ (v_20 : Option Addr) (v_20l v_20c : Nat), r_18 = (.slice v_20 v_20l v_20c) ∧
        OPW Try.prog (sU (Instr.storeAt 49 (.pointer (some ⟨v3, 0, none⟩)) (.slice v_20 v_20l v_20c))) w_19 (fun r_21 w_22 =>
          RCELL Try.prog 49 (.pointer (some ⟨v3, 0, none⟩)) w_22 (fun x_23 => K (.tuple #[x_23, (.int .i64 (s.rd n).2.2)]) w_22)) E) E := by
    intro w' d hb' h' hs' hr'
    refine ld hb' rfl ⟨_, _, _, rfl, Lift.st hb' (by simp) fun w'' hb'' hs'' _ => RCELL.ld hb'' rfl ?_⟩
    have hn3 : v3 ∉ p :: (ownB ab.1 ab.2.2 ++ ownB ac.1 ac.2.2) := fun hm => by have := hown v3 hm; omega
    refine hk w'' d ⟨ab, ac, af, ds, es, h'.var (.inl rfl) hb' (by decide) hn3 hs'', rfl⟩ (hs'.then hs'' fun b hb => .inr ?_) (Row.var hr' hb' (by decide) hs'')
    rw [List.mem_singleton.1 hb]; exact hge
  have hn78 : ∀ {v T cs}, Blk w3 v T cs → T ≠ 78 → v ∉ [p] := fun hb hT hm => hT (((List.mem_singleton.1 hm ▸ hb : Blk w3 p _ _).inj h3.blk).1)
  refine fn56 (op := 1) h3 (by omega) hF (by kernel_rfl) (fun hfa w4 h4 hs4 => ⟨_, rfl, ?_⟩) (fun hfa w4 h4 hs4 => ?_)
  · have := fin w4 (none, 0, 0) (hs4.blk g3 (hn78 g3 (by decide))) h4 ((hs.nil.trans hs4).mono (by simp)) (by simp only [St.rd, hfa, if_true]; exact row_nil w4)
    simpa only [St.rd, hfa, if_true] using this
  · have hn3 : v3 ∉ p :: (ownB ab.1 ab.2.2 ++ ownB ac.1 ac.2.2) := fun hm => by have := hown v3 hm; omega
    refine fn62 h4 hC (hs4.blk g1 (hn78 g1 (by decide))) (hs4.blk g2 (hn78 g2 (by decide))) (hs4.blk g3 (hn78 g3 (by decide))) hn3 fun w5 d5 hb5 hr5 hs5 => ?_
    refine ⟨_, _, rfl, hs5, fun b hb => ?_, fun e cs w6 he hbe hs6 => ⟨_, rfl, ?_⟩⟩
    · rw [List.mem_singleton.1 hb]; exact g3.lt
    · have h5 := h4.var (.inl rfl) (hs4.blk g3 (hn78 g3 (by decide))) (by decide) hn3 hs5
      have hne : v3 ∉ [e] := fun hm => by have := g3.lt; have := List.mem_singleton.1 hm; omega
      have hne' : e ∉ p :: (ownB ab.1 ab.2.2 ++ ownB ac.1 ac.2.2) := fun hm => by have := hown e hm; have := hs.size; omega
      have := fin w6 d5 (hs6.blk hb5 hne) (h5.var (.inl rfl) hbe (by decide) hne' hs6) ?_ ?_
      · simpa only [St.rd, hfa, Bool.false_eq_true, if_false] using this
      · refine Same.then (b := w5) (Same.then (b := w4) ((hs.nil.trans hs4).mono (by simp)) hs5 fun b hb => .inr ?_) hs6 fun b hb => .inr ?_
        · rw [List.mem_singleton.1 hb]; exact hge
        · rw [List.mem_singleton.1 hb]; exact Nat.le_trans hs.size he
      · simp only [St.rd, hfa, Bool.false_eq_true, if_false]
        exact Row.var hr5 hbe (by decide) hs6

/-- The model's Read. -/
theorem fn37 (h : Obj PR w p s own) (hF : s.F.length ≤ 1000000) (hC : s.C.length ≤ 1000000) {n : Int}
    (hk : ∀ w' d, Obj PR w' p (s.rd n).1 own → Same own w w' → Row 5 w' d (s.rd n).2.1 → K (.tuple #[sl d, .int .i64 (s.rd n).2.2]) w') :
    FN Try.prog 37 #[.pointer (some ⟨p, 0, none⟩), .int .i64 n] w K E := by
  obtain ⟨ab, ac, af, ds, es, h, rfl⟩ := h
  refine R37_ok (fn65 (op := 1) h (by omega) hF fun w1 h1 hs1 => ⟨_, rfl, ?_⟩)
  have hs1' : Same (p :: (ownB ab.1 ab.2.2 ++ ownB ac.1 ac.2.2)) w w1 := hs1.mono (by simp)
  refine BIF.mk (fun hfa => ?_) fun hfa => ?_
  · have := hk w1 (none, 0, 0) ⟨ab, ac, af, ds, es, h1, rfl⟩ hs1' (by simp only [St.rd, hfa, if_true]; exact row_nil w1)
    simpa only [St.rd, hfa, if_true] using this
  have quit : (s.bump 1).bad n = true → K (.tuple #[sl (none, 0, 0), .int .i64 1]) w1 := by
    intro hbad
    have := hk w1 (none, 0, 0) ⟨ab, ac, af, ds, es, h1, rfl⟩ hs1' (by simp only [St.rd, hfa, St.get, hbad, if_true, Bool.false_eq_true, if_false]; exact row_nil w1)
    simpa only [St.rd, hfa, St.get, hbad, if_true, Bool.false_eq_true, if_false] using this
  have hnb := h1.nb
  refine JOIN.mk (fun _ w2 => w2 = w1 ∧ (s.bump 1).bad n = false) ?_ ?_
  · refine BIF.dec (fun hc => quit (by simp [St.bad]; omega)) fun hc => ?_
    refine ld h1.blk rfl ⟨_, _, _, rfl, BIF.dec (fun hc' => quit ?_) fun hc' => ⟨rfl, ?_⟩⟩
    · rw [hnb] at hc'; simp [St.bad]; omega
    · rw [hnb] at hc'; simp [St.bad]; omega
  rintro _ w2 ⟨rfl, hbad⟩ J
  have hb' := hbad
  simp only [St.bad, Bool.not_eq_false', decide_eq_true_eq] at hb'
  obtain ⟨hn0, hn1⟩ := hb'
  obtain ⟨d0, hd0, hr0, hm0, hx64⟩ := h1.bAt (i := n.toNat) (by omega)
  have hnc := h1.nc
  have fin : ∀ w3 d3, Same [] w2 w3 → Row 5 w3 d3 (lookup (s.bump 1).C n.toNat ((s.bump 1).B.getD n.toNat [])) → K (.tuple #[sl d3, .int .i64 0]) w3 := by
    intro w3 d3 hs3 hr3
    have := hk w3 d3 ⟨ab, ac, af, ds, es, h1.nil (.inr rfl) hs3, rfl⟩ (hs1'.trans hs3.nil) (by simp only [St.rd, hfa, St.get, hbad, Bool.false_eq_true, if_false]; exact hr3)
    simpa only [St.rd, hfa, St.get, hbad, Bool.false_eq_true, if_false] using this
  have hCl : (s.bump 1).C.length = s.C.length := rfl
  refine ld h1.blk rfl ⟨_, _, _, rfl, ?_⟩
  rw [hnc, wrap64 (x := ((s.bump 1).C.length : Int) - 1) (by omega) (by omega)]
  refine LOOP.mk (fun x w' => -1 ≤ x.1 ∧ x.1 < (s.bump 1).C.length ∧ Same [] w2 w' ∧ lookup ((s.bump 1).C.take (x.1 + 1).toNat) n.toNat ((s.bump 1).B.getD n.toNat []) = lookup (s.bump 1).C n.toNat ((s.bump 1).B.getD n.toNat [])) (fun x _ => (x.1 + 1).toNat)
    ⟨by simp only []; omega, by simp only []; omega, Same.refl _ _, by
      have e : (((s.bump 1).C.length : Int) - 1 + 1).toNat = (s.bump 1).C.length := by omega
      simp only [e, List.take_length]⟩ ?_
  rintro ⟨i, _⟩ w3 ⟨hi0, hi1, hs3, hlk⟩ J
  simp only [] at hi0 hi1 hlk
  have h3 := h1.nil (.inr rfl) hs3
  refine BIF.dec (fun hc => ?_) fun hc => ?_
  · obtain ⟨c, e, hc1, hcm, he, hre, g1, g2⟩ := h3.cAt (i := i.toNat) (by omega)
    obtain ⟨y, o2, cs2, ey, _, hby, hlen2, hget2, _⟩ := h3.car.open (by omega)
    have e1 : IntKind.wrap .i64 (i - 1) = i - 1 := wrap64 (by omega) (by omega)
    have e2 : (i + 1).toNat = i.toNat + 1 := by omega
    rw [e2, lookup_succ hc1] at hlk
    refine ld h3.blk rfl ⟨_, _, _, rfl, IDX.at ey hc (by omega) (ld hby (v := .int .i64 (c.1 : Int)) (by rw [hget2 _ (by omega)]; exact g1) ⟨_, rfl, BIF.mk (fun hq => ?_) fun hq => ?_⟩)⟩
    · refine ld h3.blk rfl ⟨_, _, _, rfl, IDX.at ey hc (by omega) ?_⟩
      rw [add_mk]
      refine ld hby (v := sl e) (by rw [Nat.add_assoc, hget2 _ (by omega)]; exact g2) ⟨_, _, _, rfl, ?_⟩
      have h64 := (h3.c64 c hcm).2
      refine copyB hre (by omega) fun w4 d4 hr4 hs4 _ => ⟨_, _, _, rfl, fin w4 d4 (hs3.trans hs4) ?_⟩
      rw [if_pos (by have := eq_of_beq hq; omega)] at hlk
      rw [← hlk]; exact hr4
    · simp only [e1]
      rw [if_neg (fun e => by simp at hq; omega)] at hlk
      have e3 : (i - 1 + 1).toNat = i.toNat := by omega
      exact ⟨⟨by omega, by omega, hs3, by rw [e3]; exact hlk⟩, by omega⟩
  · have e : (i + 1).toNat = 0 := by omega
    rw [e] at hlk
    obtain ⟨d0', hd0', hr0', hm0', _⟩ := h3.bAt (i := n.toNat) (by omega)
    obtain ⟨x, o, cs, ex, _, hbx, hlen, hget, _⟩ := h3.arr.open (by omega)
    refine ld h3.blk rfl ⟨_, _, _, rfl, IDX.at ex hn0 (by omega) (ld hbx (v := sl d0') (by rw [Nat.mul_one, hget _ (by omega)]; exact hm0') ⟨_, _, _, rfl, ?_⟩)⟩
    refine copyB hr0' (by omega) fun w4 d4 hr4 hs4 _ => ⟨_, _, _, rfl, fin w4 d4 (hs3.trans hs4) ?_⟩
    rw [← hlk]
    exact hr4

end
end Go.Proofs.Ytdabjchdmieegaa
