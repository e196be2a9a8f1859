/-
  The model's Sync and Crash; Fail and Copy.
-/
import Derived.Test.YtdabjchdmieegaaW6
import Derived.Test.YtdabjchdmieegaaRules4
set_option linter.unusedVariables false
namespace Go.Proofs.Ytdabjchdmieegaa
open Go Go.Lift Go.RowKit
section
variable {t : PT} {w w' : World} {p : Nat} {s : St} {ab ac af : D} {ds es : List D} {own : List Nat}
variable {K : Value → World → Prop} {E : List PanicEntry → World → Prop}

/-- The model's Sync. -/
theorem fn38 (h : Obj PR w p s own) (hF : s.F.length ≤ 1000000) (hC : s.C.length ≤ 1000000)
    (hk : ∀ w' own', Obj PR w' p s.sync.1 own' → Same own w w' → (∀ b ∈ own', b ∈ own ∨ w.heap.size ≤ b) → K (.int .i64 s.sync.2) w') :
    FN Try.prog 38 #[.pointer (some ⟨p, 0, none⟩)] w K E := by
  obtain ⟨ab, ac, af, ds, es, h, rfl⟩ := h
  refine R38_ok (fn65 (op := 3) h (by omega) hF fun w1 h1 hs1 => ⟨_, rfl, ?_⟩)
  have hs1' : Same (p :: (ownB ab.1 ab.2.2 ++ ownB ac.1 ac.2.2)) w w1 := hs1.mono (by simp)
  refine BIF.mk (fun hfa => ?_) fun hfa => ?_
  · have := hk w1 _ ⟨ab, ac, af, ds, es, by simpa [St.sync, hfa] using h1, rfl⟩ hs1' (fun b hb => .inl hb)
    simpa [St.sync, hfa] using this
  have hCl : (s.bump 3).C.length = s.C.length := rfl
  refine LOOP.mk (fun x w' => 0 ≤ x.1 ∧ x.1 ≤ (s.bump 3).C.length ∧ Same (ownB ab.1 ab.2.2) w1 w' ∧ ∃ ds', Lay PR w' p { s.bump 3 with B := settleTo (s.bump 3).B (s.bump 3).C (fun _ => true) x.1.toNat } ab ac af ds' es) (fun x _ => ((s.bump 3).C.length - x.1).toNat)
    ⟨by simp, by simp, Same.refl _ _, ds, h1⟩ ?_
  rintro ⟨i, _⟩ w2 ⟨hi0, hi1, hs2, ds2, h2⟩ J
  simp only [] at hi0 hi1 h2
  have hnc := h2.nc
  simp only [] at hnc
  refine ld h2.blk rfl ⟨_, _, _, rfl, BIF.dec (fun hc => ?_) fun hc => ?_⟩
  · rw [hnc] at hc
    obtain ⟨c, e, hc1, hcm, he, hre, g1, g2⟩ := h2.cAt (i := i.toNat) (by simp only []; omega)
    obtain ⟨y, o2, cs2, ey, _, hby, hlen2, hget2, _⟩ := h2.car.open (by omega)
    have e1 : IntKind.wrap .i64 (i + 1) = i + 1 := wrap64 (by omega) (by omega)
    have e2 : (i + 1).toNat = i.toNat + 1 := by omega
    have hsucc := settleTo_succ (B := (s.bump 3).B) (kept := fun _ => true) hc1
    have hc64 := h2.c64 c hcm
    obtain ⟨x, o, cs, ex, hox, hbx, hlen, hget, hset⟩ := h2.arr.open (by have := h2.nb; have := h2.lo; omega)
    refine DRAW.mk (fun w' => Blk w' p 46 (cellsOf ab ac af (s.bump 3).cnt (s.bump 3).snc) ∧ Blk w' y 105 cs2) ?_
    have hS : Blk (drew w2) p 46 (cellsOf ab ac af (s.bump 3).cnt (s.bump 3).snc) ∧ Blk (drew w2) y 105 cs2 := ⟨h2.blk, hby⟩
    refine HELD.ld hS (fun _ h => h.1) rfl ⟨_, _, _, rfl, ?_⟩
    refine HELD.ld hS (fun _ h => h.1) rfl ⟨_, _, _, rfl, ?_⟩
    refine IDX.at ey hi0 (by omega) (HELD.ld hS (fun _ h => h.2) (v := .int .i64 (c.1 : Int)) (by rw [hget2 _ (by omega)]; exact g1) ⟨_, rfl, ?_⟩)
    refine HELD.ld hS (fun _ h => h.1) rfl ⟨_, _, _, rfl, ?_⟩
    refine IDX.at ey hi0 (by omega) ?_
    rw [add_mk]
    refine HELD.ld hS (fun _ h => h.2) (v := sl e) (by rw [Nat.add_assoc, hget2 _ (by omega)]; exact g2) ⟨_, _, _, rfl, ?_⟩
    have hnb := h2.nb
    have hlt : c.1 < ab.2.1 := by rw [hnb]; exact hc64.1
    refine IDX.at ex (by omega) (by omega) (Lift.st (w := drew w2) hbx (by simp; omega) fun w5 hb5 hs5 _ => ?_)
    have hs5' : Same (ownB ab.1 ab.2.2) w2 w5 := by rw [hox]; exact hs5.of_drew
    simp only [e1, e2]
    refine ⟨⟨by omega, by omega, hs2.trans hs5', ds2.set c.1 e, ?_⟩, by omega⟩
    rw [hsucc, if_pos rfl]
    refine Lay.setB (.inr rfl) h2 (i := c.1) (d := e) (x := c.2) hc64.1 hre hc64.2 hs5' ?_
    refine hset w5 c.1 (sl e) (by omega) ?_
    have e3 : ((c.1 : Int).toNat) * 1 = c.1 := by omega
    rw [e3] at hb5
    exact hb5
  · rw [hnc] at hc
    have hie : i.toNat = (s.bump 3).C.length := by omega
    rw [hie] at h2
    refine Lift.st h2.blk (by simp [i64s]) fun w3 hb3 hs3 _ => ?_
    have h3 := h2.clear (.inr rfl) hs3 hb3
    have := hk w3 _ ⟨ab, _, af, ds2, [], by simp only [St.sync, hfa, Bool.false_eq_true, if_false]; exact h3, rfl⟩ (hs1'.trans ((hs2.mono fun b hb => mem_own (List.mem_cons_of_mem _ hb)).trans (hs3.mono (by simp)))) fun b hb => .inl ?_
    · simpa [St.sync, hfa] using this
    · simp [ownB] at hb ⊢
      exact hb.imp id .inl

/-- The model's Crash. -/
theorem fn39 (h : Obj PR w p s own) (hC : s.C.length ≤ 1000000) {d : D} {keep : List Bool} (hd : IRow w 1 d.1 d.2.1 d.2.2 (keep.map .bool)) (hin : ∀ b ∈ seenB d.1 d.2.1, b ∉ own)
    (hk : ∀ w' own', Obj PR w' p (s.crash keep) own' → Same own w w' → (∀ b ∈ own', b ∈ own ∨ w.heap.size ≤ b) → K (.tuple #[]) w') :
    FN Try.prog 39 #[.pointer (some ⟨p, 0, none⟩), sl d] w K E := by
  obtain ⟨ab, ac, af, ds, es, h, rfl⟩ := h
  have hdl : d.2.1 = keep.length := by have := hd.1; simp at this; omega
  refine R39_ok (JOIN.mk (fun _ w' => Same (ownB ab.1 ab.2.2) w w' ∧ ∃ ds', Lay PR w' p { s with B := settleTo s.B s.C (fun i => keep.getD i false) s.C.length } ab ac af ds' es) ?_ ?_)
  · refine LOOP.mk (fun x w' => 0 ≤ x.1 ∧ x.1 ≤ s.C.length ∧ Same (ownB ab.1 ab.2.2) w w' ∧ ∃ ds', Lay PR w' p { s with B := settleTo s.B s.C (fun i => keep.getD i false) x.1.toNat } ab ac af ds' es) (fun x _ => (s.C.length - x.1).toNat)
      ⟨by simp, by simp, Same.refl _ _, ds, h⟩ ?_
    rintro ⟨i, _⟩ w2 ⟨hi0, hi1, hs2, ds2, h2⟩ J
    simp only [] at hi0 hi1 h2
    have hnc := h2.nc
    simp only [] at hnc
    have e1 : IntKind.wrap .i64 (i + 1) = i + 1 := wrap64 (by omega) (by omega)
    have e2 : (i + 1).toNat = i.toNat + 1 := by omega
    refine JOIN.mk (fun _ w3 => w3 = w2 ∧ i < s.C.length ∧ i < keep.length) ?_ ?_
    · refine ld h2.blk rfl ⟨_, _, _, rfl, BIF.dec (fun hc => BIF.dec (fun hc' => ⟨rfl, by omega, by omega⟩) fun hc' => ⟨hs2, ds2, ?_⟩) fun hc => ⟨hs2, ds2, ?_⟩⟩
      · rw [settleTo_stop s.B s.C (fun i => keep.getD i false) (i := i.toNat) (fun j hj => ?_) s.C.length (by omega)]
        · exact h2
        · have : keep[j]? = none := List.getElem?_eq_none (by omega)
          simp [List.getD, this]
      · have hie : i.toNat = s.C.length := by omega
        rw [hie] at h2
        exact h2
    rintro _ w3 ⟨rfl, hic, hik⟩ J2
    have hd' : IRow w3 1 d.1 d.2.1 d.2.2 (keep.map .bool) := hd.keep hs2 fun b hb hm => hin b hb (by simp [hm])
    obtain ⟨xk, ok, exk, hgetk⟩ := hd'.cells (by omega)
    obtain ⟨c, e, hc1, hcm, he, hre, g1, g2⟩ := h2.cAt (i := i.toNat) (by simp only []; omega)
    obtain ⟨y, o2, cs2, ey, _, hby, hlen2, hget2, _⟩ := h2.car.open (by omega)
    have hsucc := settleTo_succ (B := s.B) (kept := fun i => keep.getD i false) hc1
    have hc64 := h2.c64 c hcm
    refine IDX.at exk hi0 (by omega) (ldC (v := .bool (keep.getD i.toNat false)) ?_ ⟨_, rfl, BIF.mk (fun hq => ?_) fun hq => ?_⟩)
    · have : i.toNat < keep.length := by omega
      rw [Nat.mul_one, ← add_mk]
      exact hgetk _ _ (by simp [List.getD, List.getElem?_eq_getElem this])
    · obtain ⟨x, o, cs, ex, hox, hbx, hlen, hget, hset⟩ := h2.arr.open (by have := h2.nb; have := h2.lo; omega)
      refine DRAW.mk (fun w' => Blk w' p 46 (cellsOf ab ac af s.cnt s.snc) ∧ Blk w' y 105 cs2) ?_
      have hS : Blk (drew w3) p 46 (cellsOf ab ac af s.cnt s.snc) ∧ Blk (drew w3) y 105 cs2 := ⟨h2.blk, hby⟩
      refine HELD.ld hS (fun _ h => h.1) rfl ⟨_, _, _, rfl, ?_⟩
      refine HELD.ld hS (fun _ h => h.1) rfl ⟨_, _, _, rfl, ?_⟩
      refine IDX.at ey hi0 (by omega) (HELD.ld hS (fun _ h => h.2) (v := .int .i64 (c.1 : Int)) (by rw [hget2 _ (by omega)]; exact g1) ⟨_, rfl, ?_⟩)
      refine HELD.ld hS (fun _ h => h.1) rfl ⟨_, _, _, rfl, ?_⟩
      refine IDX.at ey hi0 (by omega) ?_
      rw [add_mk]
      refine HELD.ld hS (fun _ h => h.2) (v := sl e) (by rw [Nat.add_assoc, hget2 _ (by omega)]; exact g2) ⟨_, _, _, rfl, ?_⟩
      have hnb := h2.nb
      have hlt : c.1 < ab.2.1 := by rw [hnb]; exact hc64.1
      refine IDX.at ex (by omega) (by omega) (Lift.st (w := drew w3) hbx (by simp; omega) fun w5 hb5 hs5 _ => ?_)
      have hs5' : Same (ownB ab.1 ab.2.2) w3 w5 := by rw [hox]; exact hs5.of_drew
      simp only [e1, e2]
      refine ⟨⟨by omega, by omega, hs2.trans hs5', ds2.set c.1 e, ?_⟩, by omega⟩
      rw [hsucc, if_pos hq]
      refine Lay.setB (.inr rfl) h2 (i := c.1) (d := e) (x := c.2) hc64.1 hre hc64.2 hs5' ?_
      refine hset w5 c.1 (sl e) (by omega) ?_
      have e3 : ((c.1 : Int).toNat) * 1 = c.1 := by omega
      rw [e3] at hb5
      exact hb5
    · simp only [e1, e2]
      refine ⟨⟨by omega, by omega, hs2, ds2, ?_⟩, by omega⟩
      rw [hsucc, if_neg (fun hh => by have hh' : keep.getD i.toNat false = true := hh; rw [hq] at hh'; cases hh')]
      exact h2
  · rintro _ w2 ⟨hs2, ds2, h2⟩ J
    refine Lift.st h2.blk (by simp [i64s]) fun w3 hb3 hs3 _ => ?_
    have h3 := h2.clear (.inr rfl) hs3 hb3
    refine Lift.st h3.blk (by simp [i64s]) fun w4 hb4 hs4 _ => ?_
    have h4 := Lay.setF (.inr rfl) h3 hs4 (af' := (none, 0, 0)) (F := []) (snc := s.snc) h3.sl hb4 (SRow.nil w4 106 2 none)
    refine hk w4 _ ⟨ab, _, _, ds2, [], h4, rfl⟩ (((hs2.mono fun b hb => mem_own (List.mem_cons_of_mem _ hb)).trans (hs3.mono (by simp))).trans (hs4.mono (by simp))) fun b hb => .inl ?_
    simp [ownB] at hb ⊢
    exact hb.imp id .inl

/-! ### Fail -/
def St.fail (s : St) (F : List (Int × Int)) : St := { s with F := F, snc := [0, 0, 0, 0] }

theorem pairs_one (l : List (Int × Int)) : ∀ y ∈ pairs l, y.oneCell' = true := by
  intro y hy
  simp only [pairs, List.mem_flatMap, List.mem_cons, List.not_mem_nil, or_false] at hy
  obtain ⟨f, _, rfl | rfl⟩ := hy <;> rfl
theorem pairs_append (l l' : List (Int × Int)) : pairs (l ++ l') = pairs l ++ pairs l' := by simp [pairs]

theorem cells_snc0 {ab ac af : D} {cnt snc : List Int} (hc : cnt.length = 4) (hs : snc.length = 4) : splice (cellsOf ab ac af cnt snc) 7 [.int .i64 0, .int .i64 0, .int .i64 0, .int .i64 0] = cellsOf ab ac af cnt [0, 0, 0, 0] := by
  match cnt, hc, snc, hs with
  | [a, b, c, d], _, [e, f, g, h], _ => rfl

/-- The model's Fail. -/
theorem fn16 (h : Obj PR w p s own) {d : D} {F : List (Int × Int)} (hF : F.length ≤ 1000000) (hd : IRow w 2 d.1 d.2.1 d.2.2 (pairs F))
    (hk : ∀ w' own', Obj PR w' p (s.fail F) own' → Same own w w' → (∀ b ∈ own', b ∈ own ∨ w.heap.size ≤ b) → K (.tuple #[]) w') :
    FN Try.prog 16 #[.pointer (some ⟨p, 0, none⟩), sl d] w K E := by
  obtain ⟨ab, ac, af, ds, es, h, rfl⟩ := h
  have hn : d.2.1 = F.length := by have := hd.1; rw [pairs_len] at this; omega
  refine R16_ok (appendI (e := 106) (sz := 2) (by_ := 16) (z := [.int .i64 0, .int .i64 0]) (by kernel_rfl) (SRow.nil w 106 2 none) hd (pairs_one _) (by omega) (by simp only [maxLen]; omega) rfl ?_)
  intro w1 a1 c1 hr1 hs1 ho1
  have hs1 : Same [] w w1 := by simpa [ownB] using hs1
  refine ⟨_, _, _, rfl, ?_⟩
  have h1 := h.nil (.inr rfl) hs1
  have hp1 : p ∉ ownB a1 c1 := fun hm => (ho1 p hm).elim (by simp [ownB]) fun hle => by have := h.blk.lt; omega
  refine Lift.st h1.blk (by simp [i64s]) fun w2 hb2 hs2 _ => ?_
  have hr2 := hr1.keep hs2 fun b hb e => hp1 (List.mem_singleton.1 e ▸ hb)
  have h2 := Lay.setF (.inr rfl) h1 hs2 (af' := (a1, 0 + d.2.1, c1)) (F := F) (snc := s.snc) h1.sl hb2 (by simpa using hr2)
  refine stA (vs := [.int .i64 0, .int .i64 0, .int .i64 0, .int .i64 0]) h2.blk (by simp [i64s, h.cl, h.sl]) (fun w3 hb3 hs3 _ => ?_) (by simp [Value.oneCell']) (by kernel_rfl)
  have hb3' : Blk w3 p 46 (cellsOf ab ac (a1, 0 + d.2.1, c1) s.cnt [0, 0, 0, 0]) := by rw [← cells_snc0 h.cl h.sl]; exact hb3
  have h3 := Lay.setF (.inr rfl) h2 hs3 (F := F) (snc := [0, 0, 0, 0]) rfl hb3' (h2.far.keep hs3 fun b hb e => (h2.calm (.inr rfl) b (h2.far.calm (by simp) b hb)).1 (List.mem_singleton.1 e))
  exact hk w3 _ ⟨ab, ac, _, ds, es, h3, rfl⟩ (hs1.nil.trans ((hs2.trans hs3).mono (by simp))) fun b hb => .inl hb

/-- slices.Clone of faults -/
theorem fn47 {d : D} {F : List (Int × Int)} (hF : F.length ≤ 1000000) (hd : SRow w 91 2 d.1 d.2.1 d.2.2 (pairs F))
    (hk : ∀ w' d', SRow w' 91 2 d'.1 d'.2.1 d'.2.2 (pairs F) → Same [] w w' → (∀ b ∈ ownB d'.1 d'.2.2, w.heap.size ≤ b) → K (sl d') w') :
    FN Try.prog 47 #[sl d] w K E := by
  have hn : d.2.1 = F.length := by have := hd.1; rw [pairs_len] at this; omega
  refine R47_ok (eqlSlNil (e := 91) (sz := 2) (by_ := 16) (z := [.int .i64 0, .int .i64 0]) (by kernel_rfl) ⟨_, rfl, BIF.mk (fun hc => ?_) fun hc => ?_⟩)
  · have h0 : F = [] := by
      rcases Nat.eq_zero_or_pos d.2.1 with h0 | hp
      · exact List.eq_nil_of_length_eq_zero (by omega)
      · obtain ⟨b, o, cs, e, _⟩ := hd.open hp
        rw [e] at hc; cases hc
    subst h0
    exact hk w (none, 0, 0) (SRow.nil w 91 2 none) (Same.refl _ _) (by simp [ownB])
  · refine lit0R (e := 91) (sz := 2) (by_ := 16) (z := [.int .i64 0, .int .i64 0]) (by kernel_rfl) fun w1 b hb hs1 _ => ⟨_, _, _, rfl, ?_⟩
    refine appendR (e := 91) (sz := 2) (by_ := 16) (z := [.int .i64 0, .int .i64 0]) (by kernel_rfl) (SRow.nil w1 91 2 _) (hd.keep hs1 (by simp)) (pairs_one _) (by omega) (by simp only [maxLen]; omega) rfl ?_
    intro w2 a2 c2 hr2 hs2 ho2
    have hs2 : Same [] w1 w2 := by simpa [ownB] using hs2
    exact ⟨_, _, _, rfl, hk w2 (a2, 0 + d.2.1, c2) (by simpa using hr2) (hs1.trans hs2) fun b hb => Nat.le_trans hs1.size ((ho2 b hb).resolve_left (by simp [ownB]))⟩

/-- Fail. -/
theorem fn15 (h : Obj PP w p s own) {d : D} {F : List (Int × Int)} (hF : F.length ≤ 1000000) (hd : SRow w 91 2 d.1 d.2.1 d.2.2 (pairs F))
    (hk : ∀ w' own', Obj PP w' p (s.fail F) own' → Same own w w' → (∀ b ∈ own', b ∈ own ∨ w.heap.size ≤ b) → K (.tuple #[]) w') :
    FN Try.prog 15 #[.pointer (some ⟨p, 0, none⟩), sl d] w K E := by
  obtain ⟨ab, ac, af, ds, es, h, rfl⟩ := h
  refine R15_ok (eqlPtrNil ⟨_, rfl, BIF.no rfl (fn47 hF hd fun w1 d1 hr1 hs1 ho1 => ⟨_, _, _, rfl, ?_⟩)⟩)
  have h1 := h.nil (.inl rfl) hs1
  have hp1 : p ∉ ownB d1.1 d1.2.2 := fun hm => by have := ho1 p hm; have := h.blk.lt; omega
  refine Lift.st h1.blk (by simp [i64s]) fun w2 hb2 hs2 _ => ?_
  have hr2 := hr1.keep hs2 fun b hb e => hp1 (List.mem_singleton.1 e ▸ hb)
  have h2 := Lay.setF (.inl rfl) h1 hs2 (af' := d1) (F := F) (snc := s.snc) h1.sl hb2 hr2
  refine stA (vs := [.int .i64 0, .int .i64 0, .int .i64 0, .int .i64 0]) h2.blk (by simp [i64s, h.cl, h.sl]) (fun w3 hb3 hs3 _ => ?_) (by simp [Value.oneCell']) (by kernel_rfl)
  have hb3' : Blk w3 p 78 (cellsOf ab ac d1 s.cnt [0, 0, 0, 0]) := by rw [← cells_snc0 h.cl h.sl]; exact hb3
  have h3 := Lay.setF (.inl rfl) h2 hs3 (F := F) (snc := [0, 0, 0, 0]) rfl hb3' (h2.far.keep hs3 fun b hb e => (h2.calm (.inl rfl) b (h2.far.calm (by simp) b hb)).1 (List.mem_singleton.1 e))
  exact hk w3 _ ⟨ab, ac, _, ds, es, h3, rfl⟩ (hs1.nil.trans ((hs2.trans hs3).mono (by simp))) fun b hb => .inl hb

/-- Faults: the model's faults as the program's. -/
theorem fn40 {d : D} {F : List (Int × Int)} (hF : F.length ≤ 1000000) (hd : IRow w 2 d.1 d.2.1 d.2.2 (pairs F))
    (hk : ∀ w' d', SRow w' 91 2 d'.1 d'.2.1 d'.2.2 (pairs F) → Same [] w w' → K (sl d') w') :
    FN Try.prog 40 #[sl d] w K E := by
  have hn : d.2.1 = F.length := by have := hd.1; rw [pairs_len] at this; omega
  refine R40_ok (LOOP.mk (fun x w' => 0 ≤ x.2.1 ∧ x.2.1 ≤ F.length ∧ Same [] w w' ∧ SRow w' 91 2 x.1.1 x.1.2.1 x.1.2.2 (pairs (F.take x.2.1.toNat)) ∧ (∀ b ∈ ownB x.1.1 x.1.2.2, w.heap.size ≤ b)) (fun x _ => (F.length - x.2.1).toNat)
    ⟨by simp, by simp, Same.refl _ _, by simpa [pairs] using SRow.nil w 91 2 none, by simp [ownB]⟩ ?_)
  rintro ⟨⟨oa, ol, oc⟩, i, _⟩ w1 ⟨hi0, hi1, hs1, hr1, ho1⟩ J
  simp only [] at hi0 hi1 hr1 ho1
  have hd1 := hd.keep hs1 (by simp)
  refine BIF.dec (fun hc => ?_) fun hc => ?_
  · rw [hn] at hc
    have hc : i < (F.length : Int) := hc
    have hi : i.toNat < F.length := by omega
    obtain ⟨f, hf⟩ : ∃ f, F[i.toNat]? = some f := ⟨F[i.toNat], List.getElem?_eq_getElem hi⟩
    have hp := pairs_get F i.toNat f hf
    have e1 : IntKind.wrap .i64 (i + 1) = i + 1 := wrap64 (by omega) (by omega)
    have e2 : (i + 1).toNat = i.toNat + 1 := by omega
    obtain ⟨x, o, ex, hget0⟩ := hd1.cells (by omega)
    have hget : ∀ j u, (pairs F)[j]? = some u → w1.cell? ⟨x, o + j, none⟩ = some u := fun j u hu => by rw [← add_mk]; exact hget0 j u hu
    have hol : ol = i.toNat := by have := hr1.1; rw [pairs_len, List.length_take] at this; omega
    refine DRAW.mk (fun w' => ∀ j u, (pairs F)[j]? = some u → w'.cell? ⟨x, o + j, none⟩ = some u) ?_
    refine IDX.at ex hi0 (by omega) (HELD.ldC (w := drew w1) hget (fun _ h => h _ _ hp.1) ⟨_, rfl, ?_⟩)
    refine IDX.at ex hi0 (by omega) ?_
    rw [add_mk]
    rw [Nat.add_assoc]
    refine HELD.ldC (w := drew w1) hget (fun _ h => h _ _ hp.2) ⟨_, rfl, ?_⟩
    refine litR1 (w := drew w1) (e := 91) (sz := 2) (by_ := 16) (z := [.int .i64 0, .int .i64 0]) (by kernel_rfl) (by rfl) (by omega) (by omega) fun w2 b2 hb2 hblk2 hs2 _ => ⟨_, _, _, rfl, ?_⟩
    have hs2 : Same [] w1 w2 := hs2.of_drew
    have e3 : (Value.agg #[.int .i64 f.1, .int .i64 f.2]).cells.toList = pairs [f] := by simp [Value.cells, pairs]
    rw [e3] at hblk2
    refine appendR (a := oa) (n := ol) (c := oc) (e := 91) (sz := 2) (by_ := 16) (z := [.int .i64 0, .int .i64 0]) (by kernel_rfl) (hr1.keep hs2 (by simp)) (T' := 91) (ys := pairs [f]) ⟨by simp [pairs], by omega, .inr ⟨b2, 0, _, rfl, hblk2, by simp [pairs], by simp [pairs]⟩⟩ (pairs_one _) (by omega) (by simp only [maxLen]; omega) rfl ?_
    intro w3 a3 c3 hr3 hs3 ho3
    refine ⟨_, _, _, rfl, ?_⟩
    simp only [e1, e2]
    refine ⟨⟨by omega, by omega, (hs1.trans hs2).then hs3 fun b hb => .inr (ho1 b hb), ?_, fun b hb => (ho3 b hb).elim (ho1 b) fun h => Nat.le_trans (hs1.trans hs2).size h⟩, by omega⟩
    rw [List.take_add_one, hf, Option.toList_some, pairs_append]
    exact hr3
  · rw [hn] at hc
    have hc : ¬ i < (F.length : Int) := hc
    have hie : i.toNat = F.length := by omega
    rw [hie, List.take_length] at hr1
    exact hk w1 (oa, ol, oc) hr1 hs1

end
end Go.Proofs.Ytdabjchdmieegaa
