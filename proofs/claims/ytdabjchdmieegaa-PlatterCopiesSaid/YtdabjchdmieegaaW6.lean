/-
  Sync and Crash, of both platters.
-/
import Derived.Test.YtdabjchdmieegaaW5
set_option linter.unusedVariables false
namespace Go.Proofs.Ytdabjchdmieegaa
open Go Go.Lift Go.RowKit

/-- The blocks behind the first i writes of the cache, those that are kept. -/
def settleTo (B : List (List UInt8)) (C : List (Nat × List UInt8)) (kept : Nat → Bool) : Nat → List (List UInt8)
  | 0 => B
  | i + 1 => match C[i]? with | some c => if kept i = true then (settleTo B C kept i).set c.1 c.2 else settleTo B C kept i | none => settleTo B C kept i

theorem settleTo_succ {B : List (List UInt8)} {C : List (Nat × List UInt8)} {kept : Nat → Bool} {i : Nat} {c : Nat × List UInt8} (h : C[i]? = some c) :
    settleTo B C kept (i + 1) = if kept i = true then (settleTo B C kept i).set c.1 c.2 else settleTo B C kept i := by simp [settleTo, h]
theorem settleTo_len (B : List (List UInt8)) (C : List (Nat × List UInt8)) (kept : Nat → Bool) (i : Nat) : (settleTo B C kept i).length = B.length := by
  induction i with
  | zero => rfl
  | succ i ih => unfold settleTo; split <;> (try split) <;> simp [ih]
theorem settleTo_stop (B : List (List UInt8)) (C : List (Nat × List UInt8)) (kept : Nat → Bool) {i : Nat} (h : ∀ j, i ≤ j → kept j = false) (m : Nat) (hm : i ≤ m) : settleTo B C kept m = settleTo B C kept i := by
  induction m with
  | zero => have : i = 0 := by omega
            subst this; rfl
  | succ m ih =>
    rcases Nat.eq_or_lt_of_le hm with e | hlt
    · rw [e]
    · have := ih (by omega)
      have hk := h m (by omega)
      have e : settleTo B C kept (m + 1) = settleTo B C kept m := by
        simp only [settleTo]
        split <;> simp [hk]
      rw [e, this]

def St.settled (s : St) (kept : Nat → Bool) : St := { s with B := settleTo s.B s.C kept s.C.length, C := [] }
def St.sync (s : St) : St × Int := if (s.bump 3).faulty 3 then (s.bump 3, 6) else ((s.bump 3).settled fun _ => true, 0)
def St.crash (s : St) (keep : List Bool) : St := { s.settled (fun i => keep.getD i false) with F := [] }

section
variable {t : PT} {w w' : World} {p : Nat} {s : St} {ab ac af : D} {ds es : List D} {own : List Nat}
variable {K : Value → World → Prop} {E : List PanicEntry → World → Prop}

/-- One block of the array turns. -/
theorem Lay.setB (ht : t.ok) (h : Lay t w p s ab ac af ds es) {i : Nat} {d : D} {x : List UInt8} (hi : i < s.B.length) (hd : Row 5 w d x) (hx : x.length = 64) (hs : Same (ownB ab.1 ab.2.2) w w')
    (ha : SRow w' 49 1 ab.1 ab.2.1 ab.2.2 ((ds.map Lift.sl).set i (Lift.sl d))) : Lay t w' p { s with B := s.B.set i x } ab ac af (ds.set i d) es where
  blk := hs.blk h.blk (h.p_arr ht)
  arr := by rw [List.map_set]; exact ha
  car := h.car.keep hs fun b hb e => h.arr_car ht b e hb
  far := h.far.keep hs fun b hb e => (h.calm ht b (h.far.calm (by rcases ht with rfl | rfl <;> simp) b hb)).2.1 e
  rows := by
    have h' := h.rows.keep hs fun b hb => (h.calm ht b hb).2.1
    have hd' : Row 5 w' d x := Row.keep hd hs fun b hb => (h.calm ht b hb).2.1
    refine ⟨by simpa using h'.1, fun j d' x' hj hj' => ?_⟩
    rw [List.getElem?_set] at hj hj'
    by_cases e : i = j
    · subst e
      have h1 := h.rows.1
      simp only [if_true] at hj hj'
      rw [if_pos (by omega)] at hj
      rw [if_pos (by omega)] at hj'
      simp only [Option.some.injEq] at hj hj'
      subst hj; subst hj'
      exact hd'
    · rw [if_neg e] at hj hj'
      exact h'.2 j d' x' hj hj'
  crow := h.crow.keep hs fun b hb => (h.calm ht b hb).2.1
  cl := h.cl
  sl := h.sl
  b64 := by
    intro y hy
    rcases List.mem_or_eq_of_mem_set hy with hy | hy
    · exact h.b64 y hy
    · rw [hy]; exact hx
  c64 := by simpa using h.c64
  lo := by simpa using h.lo
  hi := by simpa using h.hi

/-- The cache and the faults turn. -/
theorem Lay.clear (ht : t.ok) (h : Lay t w p s ab ac af ds es) (hs : Same [p] w w') (hb : Blk w' p t.T (Lift.sl ab :: .slice none 0 0 :: Lift.sl af :: (i64s s.cnt ++ i64s s.snc))) : Lay t w' p { s with C := [] } ab (none, 0, 0) af ds [] :=
  have h' := h.upd ht hs (cnt := s.cnt) (snc := s.snc)
  { blk := hb
    arr := h.arr.keep hs fun b hb e => h.p_arr ht (List.mem_singleton.1 e ▸ hb)
    car := SRow.nil w' t.C 2 none
    far := h.far.keep hs fun b hb e => (h.calm ht b (h.far.calm (by rcases ht with rfl | rfl <;> simp) b hb)).1 (List.mem_singleton.1 e)
    rows := h.rows.keep hs fun b hb e => (h.calm ht b hb).1 (List.mem_singleton.1 e)
    crow := ⟨rfl, fun i d x hd => by simp at hd⟩
    cl := h.cl
    sl := h.sl
    b64 := h.b64
    c64 := by simp
    lo := h.lo
    hi := h.hi }

theorem Lay.setF (ht : t.ok) (h : Lay t w p s ab ac af ds es) (hs : Same [p] w w') {af' : D} {F : List (Int × Int)} {snc : List Int} (hsn : snc.length = 4) (hb : Blk w' p t.T (Lift.sl ab :: Lift.sl ac :: Lift.sl af' :: (i64s s.cnt ++ i64s snc)))
    (hf : SRow w' t.F 2 af'.1 af'.2.1 af'.2.2 (pairs F)) : Lay t w' p { s with F := F, snc := snc } ab ac af' ds es where
  blk := hb
  arr := h.arr.keep hs fun b hb e => h.p_arr ht (List.mem_singleton.1 e ▸ hb)
  car := h.car.keep hs fun b hb e => h.p_car ht (List.mem_singleton.1 e ▸ hb)
  far := hf
  rows := h.rows.keep hs fun b hb e => (h.calm ht b hb).1 (List.mem_singleton.1 e)
  crow := h.crow.keep hs fun b hb e => (h.calm ht b hb).1 (List.mem_singleton.1 e)
  cl := h.cl
  sl := hsn
  b64 := h.b64
  c64 := h.c64
  lo := h.lo
  hi := h.hi

/-- settle -/
theorem fn60 (h : Lay PP w p s ab ac af ds es) (hC : s.C.length ≤ 1000000) {g : Nat} {cap : Array Value} (hbd : ctx.bd g = true) {kept : Nat → Bool}
    (hg : ∀ (w' : World) (i : Nat) (K' : Value → World → Prop), Same (ownB ab.1 ab.2.2) w w' → i < s.C.length → K' (.bool (kept i)) w' → FN Try.prog g (#[.int .i64 (i : Int)] ++ cap) w' K' E)
    (hk : ∀ w' ds', Lay PP w' p (s.settled kept) ab (none, 0, 0) af ds' [] → Same (p :: ownB ab.1 ab.2.2) w w' → K (.tuple #[]) w') :
    FN Try.prog 60 #[.pointer (some ⟨p, 0, none⟩), .func (.func g) #[] cap] w K E := by
  refine R60_ok (ld h.blk rfl ⟨_, _, _, rfl, ?_⟩)
  have hnc := h.nc
  refine LOOP.mk (fun x w' => 0 ≤ x.1 ∧ x.1 ≤ s.C.length ∧ Same (ownB ab.1 ab.2.2) w w' ∧ ∃ ds', Lay PP w' p { s with B := settleTo s.B s.C kept x.1.toNat } ab ac af ds' es) (fun x _ => (s.C.length - x.1).toNat)
    ⟨by simp, by simp, Same.refl _ _, ds, h⟩ ?_
  rintro ⟨i, _⟩ w2 ⟨hi0, hi1, hs2, ds2, h2⟩ J
  simp only [] at hi0 hi1 h2
  refine BIF.dec (fun hc => ?_) fun hc => ?_
  · rw [hnc] at hc
    obtain ⟨c, e, hc1, hcm, he, hre, g1, g2⟩ := h2.cAt (i := i.toNat) (by simp only []; omega)
    obtain ⟨y, o2, cs2, ey, _, hby, hlen2, hget2, _⟩ := h2.car.open (by omega)
    have e1 : IntKind.wrap .i64 (i + 1) = i + 1 := wrap64 (by omega) (by omega)
    have e2 : (i + 1).toNat = i.toNat + 1 := by omega
    have hsucc := settleTo_succ (B := s.B) (kept := kept) hc1
    have hc64 := h2.c64 c hcm
    refine IDX.at ey hi0 (by omega) (ldA (n := 2) hby (take_two (x := .int .i64 (c.1 : Int)) (y := sl e) ?_ ?_) rfl ⟨_, _, _, _, rfl, ?_⟩)
    · rw [hget2 _ (by omega)]; exact g1
    · rw [Nat.add_assoc, hget2 _ (by omega)]; exact g2
    refine allocR (z := .agg #[.int .i64 0, .slice none 0 0]) (by kernel_rfl) fun w3 v4 hv4 hb3 hs3 _ => ⟨_, rfl, ?_⟩
    refine stA (vs := [.int .i64 (c.1 : Int), sl e]) hb3 (by simp [Value.cells]) (fun w4 hb4 hs4 _ => ?_) (by simp [Value.oneCell']) (by kernel_rfl)
    have hb4' : Blk w4 v4 88 [.int .i64 (c.1 : Int), sl e] := by simpa [splice, Value.cells] using hb4
    have hs34 : Same [] w2 w4 := hs3.then hs4 fun b hb => .inr (by rw [List.mem_singleton.1 hb]; exact hv4)
    have h4 := h2.nil (.inl rfl) hs34
    refine CALLF.mk hbd (args' := #[.int .i64 (i.toNat : Int)] ++ cap) ?_ (hg w4 i.toNat _ (hs2.trans hs34.nil) (by omega) ⟨_, rfl, BIF.mk (fun hq => ?_) fun hq => ?_⟩)
    · rw [toNat_cast hi0]; simp
    · obtain ⟨x, o, cs, ex, hox, hbx, hlen, hget, hset⟩ := h4.arr.open (by have := h4.nb; have := h4.lo; omega)
      refine DRAW.mk (fun w' => Blk w' p 78 (cellsOf ab ac af s.cnt s.snc) ∧ Blk w' v4 88 [.int .i64 (c.1 : Int), sl e]) ?_
      have hS : Blk (drew w4) p 78 (cellsOf ab ac af s.cnt s.snc) ∧ Blk (drew w4) v4 88 [.int .i64 (c.1 : Int), sl e] := ⟨h4.blk, hb4'⟩
      refine HELD.ld hS (fun _ h => h.1) rfl ⟨_, _, _, rfl, ?_⟩
      refine HELD.ld hS (fun _ h => h.2) rfl ⟨_, rfl, ?_⟩
      refine HELD.ld hS (fun _ h => h.2) rfl ⟨_, _, _, rfl, ?_⟩
      have hnb := h4.nb
      have hlt : c.1 < ab.2.1 := by rw [hnb]; exact hc64.1
      refine IDX.at ex (by omega) (by omega) (Lift.st (w := drew w4) hbx (by simp; omega) fun w5 hb5 hs5 _ => ?_)
      have hs5' : Same (ownB ab.1 ab.2.2) w4 w5 := by rw [hox]; exact hs5.of_drew
      simp only [e1, e2]
      refine ⟨⟨by omega, by omega, (hs2.trans hs34.nil).trans hs5', ds2.set c.1 e, ?_⟩, by omega⟩
      rw [hsucc, if_pos hq]
      refine Lay.setB (.inl rfl) h4 (i := c.1) (d := e) (x := c.2) hc64.1 (Row.nil hre hs34) hc64.2 hs5' ?_
      refine hset w5 c.1 (sl e) (by omega) ?_
      have e3 : ((c.1 : Int).toNat) * 1 = c.1 := by omega
      rw [e3] at hb5
      exact hb5
    · simp only [e1, e2]
      refine ⟨⟨by omega, by omega, hs2.trans hs34.nil, ds2, ?_⟩, by omega⟩
      rw [hsucc, if_neg (by simp [hq])]
      exact h4
  · rw [hnc] at hc
    have hie : i.toNat = s.C.length := by omega
    rw [hie] at h2
    refine Lift.st h2.blk (by simp [i64s]) fun w3 hb3 hs3 _ => ?_
    refine hk w3 ds2 (h2.clear (.inl rfl) hs3 hb3) ((hs2.mono fun b hb => List.mem_cons_of_mem _ hb).trans (hs3.mono (by simp)))

theorem mem_own {ab ac : D} {p b : Nat} (h : b ∈ p :: ownB ab.1 ab.2.2) : b ∈ p :: (ownB ab.1 ab.2.2 ++ ownB ac.1 ac.2.2) := by
  simp only [List.mem_cons, List.mem_append] at h ⊢; exact h.imp id .inl

/-- Sync. -/
theorem fn35 (h : Obj PP w p s own) (hF : s.F.length ≤ 1000000) (hC : s.C.length ≤ 1000000)
    (hk : ∀ w' own', Obj PP w' p s.sync.1 own' → Same own w w' → (∀ b ∈ own', b ∈ own ∨ w.heap.size ≤ b) → K (.int .i64 s.sync.2) w') :
    FN Try.prog 35 #[.pointer (some ⟨p, 0, none⟩)] w K E := by
  obtain ⟨ab, ac, af, ds, es, h, rfl⟩ := h
  have hown := Obj.lt (⟨ab, ac, af, ds, es, h, rfl⟩ : Obj PP w p s _)
  refine R35_ok (boxR fun w1 v1 hv1 hb1 hs1 _ => ⟨_, rfl, ?_⟩)
  have hb1 : Blk w1 v1 24 [.pointer (some ⟨p, 0, none⟩)] := hb1
  have h1 := h.nil (.inl rfl) hs1
  refine ld hb1 rfl ⟨_, rfl, ?_⟩
  have hn78 : ∀ {v T cs}, Blk w1 v T cs → T ≠ 78 → v ∉ [p] := fun hb hT hm => hT (((List.mem_singleton.1 hm ▸ hb : Blk w1 p _ _).inj h1.blk).1)
  refine fn56 (op := 3) h1 (by omega) hF (by kernel_rfl) (fun hfa w4 h4 hs4 => ⟨_, rfl, ?_⟩) (fun hfa w4 h4 hs4 => ?_)
  · have := hk w4 _ ⟨ab, ac, af, ds, es, by simpa [St.sync, hfa] using h4, rfl⟩ ((hs1.nil.trans hs4).mono (by simp)) (fun b hb => .inl hb)
    simpa [St.sync, hfa] using this
  · refine R63_ok (ld (hs4.blk hb1 (hn78 hb1 (by decide))) rfl ⟨_, rfl, ?_⟩)
    refine fn60 h4 hC (kept := fun _ => true) (by kernel_rfl) (fun w' i K' _ _ hK => R64_ok hK) fun w5 ds5 h5 hs5 => ?_
    refine ⟨_, _, rfl, hs5, fun b hb => Nat.lt_of_lt_of_le (hown b (mem_own hb)) hs1.size, fun e cs w6 he hbe hs6 => ⟨_, rfl, ?_⟩⟩
    have hobj : Obj PP w5 p s.sync.1 _ := ⟨ab, _, af, ds5, [], by simpa [St.sync, hfa] using h5, rfl⟩
    have := hk w6 _ (cell25 (S := []) hbe hs6 (.inl rfl) hobj) (Same.then (b := w5) (((hs1.nil.trans hs4).mono (by simp)).trans (hs5.mono fun b hb => mem_own hb)) hs6 fun b hb => .inr ?_) fun b hb => .inl ?_
    · simpa [St.sync, hfa] using this
    · rw [List.mem_singleton.1 hb]; exact Nat.le_trans hs1.size he
    · simp [ownB] at hb ⊢
      exact hb.imp id .inl

/-- Crash. -/
theorem fn33 (h : Obj PP w p s own) (hC : s.C.length ≤ 1000000) {d : D} {keep : List Bool} (hd : SRow w 4 1 d.1 d.2.1 d.2.2 (keep.map .bool))
    (hk : ∀ w' own', Obj PP w' p (s.crash keep) own' → Same own w w' → (∀ b ∈ own', b ∈ own ∨ w.heap.size ≤ b) → K (.tuple #[]) w') :
    FN Try.prog 33 #[.pointer (some ⟨p, 0, none⟩), sl d] w K E := by
  obtain ⟨ab, ac, af, ds, es, h, rfl⟩ := h
  have hown := Obj.lt (⟨ab, ac, af, ds, es, h, rfl⟩ : Obj PP w p s _)
  have hdl : d.2.1 = keep.length := by have := hd.1; simp at this; omega
  refine R33_ok (boxR fun w1 v1 hv1 hb1 hs1 _ => ⟨_, rfl, eqlPtrNil ⟨_, rfl, BIF.no rfl ?_⟩⟩)
  have hb1 : Blk w1 v1 32 [sl d] := hb1
  have h1 := h.nil (.inl rfl) hs1
  have hd1 := hd.keep hs1 (by simp)
  refine fn60 h1 hC (kept := fun i => keep.getD i false) (by kernel_rfl) (fun w' i K' hs' hi hK => ?_) fun w5 ds5 h5 hs5 => ?_
  · have hv : v1 ∉ ownB ab.1 ab.2.2 := h1.ne_arr hb1 (by decide)
    have hb' := hs'.blk hb1 hv
    have hd' : SRow w' 4 1 d.1 d.2.1 d.2.2 (keep.map .bool) := hd1.keep hs' fun b hb hm => (h1.calm (.inl rfl) b (hd1.calm (by simp) b hb)).2.1 hm
    refine R61_ok (ld hb' rfl ⟨_, _, _, rfl, BIF.dec (fun hc => ?_) fun hc => ?_⟩)
    · obtain ⟨x, o, cs, ex, _, hbx, hlen, hget, _⟩ := hd'.open (by omega)
      have hik : i < keep.length := by omega
      refine ld hb' rfl ⟨_, _, _, rfl, IDX.at ex (by omega) hc (ld hbx (v := .bool (keep.getD i false)) ?_ ⟨_, rfl, hK⟩)⟩
      have e3 : ((i : Int).toNat) * 1 = i := by omega
      rw [e3, hget i (by omega)]
      simp [List.getD, List.getElem?_eq_getElem hik]
    · have : keep.getD i false = false := by
        have : keep[i]? = none := List.getElem?_eq_none (by omega)
        simp [List.getD, this]
      rw [this] at hK
      exact hK
  · refine Lift.st h5.blk (by simp [i64s]) fun w6 hb6 hs6 _ => ?_
    have h6 := Lay.setF (.inl rfl) h5 hs6 (af' := (none, 0, 0)) (F := []) (snc := s.snc) h5.sl hb6 (SRow.nil w6 91 2 none)
    refine hk w6 _ ⟨ab, _, _, ds5, [], h6, rfl⟩ ((hs1.nil.trans (hs5.mono fun b hb => mem_own hb)).trans (hs6.mono (by simp))) fun b hb => .inl ?_
    simp [ownB] at hb ⊢
    exact hb.imp id .inl

end
end Go.Proofs.Ytdabjchdmieegaa
