/-
  One deed, done to both platters.
-/
import Derived.Test.YtdabjchdmieegaaW10
set_option linter.unusedVariables false
namespace Go.Proofs.Ytdabjchdmieegaa
open Go Go.Lift Go.RowKit

/-! ### Two platters of one state -/
def Two (w : World) (p m : Nat) (s : St) (S : List Nat) : Prop := ∃ own ownM, Obj PP w p s own ∧ Obj PR w m s ownM ∧ (∀ b ∈ own, b ∉ ownM) ∧ S = own ++ ownM

structure Dd where
  act : Int
  n : Int
  b : Nat
  mask : Nat
  keep : List Bool
  F : List (Int × Int)
  hb : b < 256
  hm : mask < 2 ^ 32

def Dd.xs (d : Dd) : List UInt8 := let x := List.replicate 64 (UInt8.ofNat d.b); if d.b = 77 then x.drop 1 else x
def St.step (s : St) (d : Dd) : St :=
  if 0 ≤ d.act ∧ d.act ≤ 3 then (s.wr d.n d.xs).1
  else if d.act = 4 ∨ d.act = 5 then (s.rd d.n).1
  else if d.act = 6 then s.sync.1
  else if d.act = 7 then s.crash d.keep
  else if d.act = 8 then s.fail d.F
  else if d.act = 9 then (s.rot d.n (d.b : Int) d.mask).1
  else s

/-- The deed as it lies in memory. -/
structure Deed (B0 : Nat) (w : World) (d : Dd) (k f : D) : Prop where
  keep : IRow w 1 k.1 k.2.1 k.2.2 (d.keep.map .bool)
  flt : IRow w 2 f.1 f.2.1 f.2.2 (pairs d.F)
  kin : ∀ b ∈ seenB k.1 k.2.1, b < B0
  fin : ∀ b ∈ seenB f.1 f.2.1, b < B0
abbrev Dd.cells (d : Dd) (k f : D) : List Value := [.int .i64 d.act, .int .i64 d.n, .int .u8 (d.b : Int), .int .u32 (d.mask : Int), sl k, sl f]

section
variable {t : PT} {w w' : World} {p m : Nat} {s : St} {ab ac af : D} {ds es : List D} {own : List Nat} {S : List Nat}
variable {K : Value → World → Prop} {E : List PanicEntry → World → Prop}

theorem Deed.sub {B0 : Nat} {d : Dd} {k f : D} (h : Deed B0 w d k f) (hs : Same S w w') (hn : ∀ b ∈ S, B0 ≤ b) : Deed B0 w' d k f :=
  ⟨h.keep.keep hs fun b hb hm => Nat.not_le_of_lt (h.kin b hb) (hn b hm), h.flt.keep hs fun b hb hm => Nat.not_le_of_lt (h.fin b hb) (hn b hm), h.kin, h.fin⟩

theorem Two.nil (h : Two w p m s S) (hs : Same [] w w') : Two w' p m s S := by
  obtain ⟨a, b, h1, h2, h3, h4⟩ := h
  exact ⟨a, b, h1.nil (.inl rfl) hs, h2.nil (.inr rfl) hs, h3, h4⟩
theorem Two.lt (h : Two w p m s S) : ∀ b ∈ S, b < w.heap.size := by
  obtain ⟨a, b, h1, h2, h3, rfl⟩ := h
  intro x hx
  exact (List.mem_append.1 hx).elim (h1.lt x) (h2.lt x)
theorem Two.notCalm (h : Two w p m s S) : ∀ b, Calm w b → b ∉ S := by
  obtain ⟨a, b, h1, h2, h3, rfl⟩ := h
  intro x hc hx
  exact (List.mem_append.1 hx).elim (fun h => h1.notCalm (.inl rfl) x h hc) (fun h => h2.notCalm (.inr rfl) x h hc)

/-- Both take the same step. -/
theorem two_step {own ownM own1 ownM2 : List Nat} {s1 : St} {w1 w2 : World} (hP : Obj PP w p s own) (hM : Obj PR w m s ownM) (hd : ∀ b ∈ own, b ∉ ownM)
    (hP1 : Obj PP w1 p s1 own1) (hs1 : Same own w w1) (ho1 : ∀ b ∈ own1, b ∈ own ∨ w.heap.size ≤ b) (hM2 : Obj PR w2 m s1 ownM2) (hs2 : Same ownM w1 w2) (ho2 : ∀ b ∈ ownM2, b ∈ ownM ∨ w1.heap.size ≤ b) :
    Two w2 p m s1 (own1 ++ ownM2) ∧ Same (own ++ ownM) w w2 ∧ ∀ b ∈ own1 ++ ownM2, b ∈ own ++ ownM ∨ w.heap.size ≤ b := by
  have hd' : ∀ b ∈ own1, b ∉ ownM := fun b hb hm => (ho1 b hb).elim (fun h => hd b h hm) fun h => by have := hM.lt b hm; omega
  have hM1 : Obj PR w1 m s ownM := hM.apart (.inr rfl) (.inl rfl) hP (fun b hb h => hd b h hb) hs1
  refine ⟨⟨own1, ownM2, hP1.apart (.inl rfl) (.inr rfl) hM1 hd' hs2, hM2, fun b hb hm => (ho2 b hm).elim (hd' b hb) fun h => ?_, rfl⟩, ?_, ?_⟩
  · have := hP1.lt b hb; omega
  · exact (hs1.mono fun b hb => List.mem_append_left _ hb).trans (hs2.mono fun b hb => List.mem_append_right _ hb)
  · intro b hb
    rcases List.mem_append.1 hb with h | h
    · exact (ho1 b h).imp (List.mem_append_left _) id
    · exact (ho2 b h).imp (List.mem_append_right _) fun h => Nat.le_trans hs1.size h

theorem beq_self {α : Type} [BEq α] [ReflBEq α] (a : α) : (a == a) = true := by simp

/-- Do. -/
theorem fn11 {B0 : Nat} (hB : ∀ b ∈ S, B0 ≤ b) (h : Two w p m s S) (hF : s.F.length ≤ 1000000) (hC : s.C.length ≤ 1000000) {d : Dd} {k f : D} (hd : Deed B0 w d k f) (hk1 : d.keep.length ≤ 1000000) (hf1 : d.F.length ≤ 1000000)
    (hk : ∀ w' S', Two w' p m (s.step d) S' → Same S w w' → (∀ b ∈ S', b ∈ S ∨ w.heap.size ≤ b) → K (.bool true) w') :
    FN Try.prog 11 #[.pointer (some ⟨p, 0, none⟩), .pointer (some ⟨m, 0, none⟩), .agg (d.cells k f).toArray] w K E := by
  obtain ⟨own, ownM, hP, hM, hdis, rfl⟩ := h
  refine R11_ok (boxR fun w1 v hv hb1 hs1 _ => ⟨_, rfl, ?_⟩)
  have hb1 : Blk w1 v 35 (d.cells k f) := hb1
  have hP1 := hP.nil (.inl rfl) hs1
  have hM1 := hM.nil (.inr rfl) hs1
  have hd1 : Deed B0 w1 d k f := hd.sub hs1 (by simp)
  have hvc : Calm w1 v := ⟨35, _, hb1, by simp⟩
  have hvP : v ∉ own := fun hm => hP1.notCalm (.inl rfl) v hm hvc
  have hvM : v ∉ ownM := fun hm => hM1.notCalm (.inr rfl) v hm hvc
  -- the end of a deed
  have fin : ∀ {s1 : St} {w2 w3 w4 : World} {own1 ownM2 : List Nat}, s1 = s.step d → Same [] w1 w2 → Obj PP w3 p s1 own1 → Same own w2 w3 → (∀ b ∈ own1, b ∈ own ∨ w2.heap.size ≤ b) → Obj PR w4 m s1 ownM2 → Same ownM w3 w4 →
      (∀ b ∈ ownM2, b ∈ ownM ∨ w3.heap.size ≤ b) → K (.bool true) w4 := by
    intro s1 w2 w3 w4 own1 ownM2 e hs12 a1 a2 a3 a4 a5 a6
    subst e
    have hs02 := hs1.trans hs12
    obtain ⟨r1, r2, r3⟩ := two_step (hP.nil (.inl rfl) hs02) (hM.nil (.inr rfl) hs02) hdis a1 a2 a3 a4 a5 a6
    exact hk w4 _ r1 (hs02.nil.trans r2) fun b hb => (r3 b hb).imp id fun h => Nat.le_trans hs02.size h
  -- the other platter, and the deed, behind the first one's step
  have mid : ∀ {w2 w3 : World}, Same [] w1 w2 → Same own w2 w3 → Obj PR w3 m s ownM ∧ Blk w3 v 35 (d.cells k f) ∧ Deed B0 w3 d k f := by
    intro w2 w3 hs12 hs23
    have hP2 := hP1.nil (.inl rfl) hs12
    have hM2 := hM1.nil (.inr rfl) hs12
    refine ⟨hM2.apart (.inr rfl) (.inl rfl) hP2 (fun b hb h => hdis b h hb) hs23, hs23.blk (hs12.blk hb1 (by simp)) hvP, (hd1.sub hs12 (by simp)).sub hs23 fun b hm => hB b (List.mem_append_left _ hm)⟩
  have hown : ∀ {x : List Nat} {n : Nat} (b : Nat), b ∈ x → b ∈ x ∨ n ≤ b := fun b hb => .inl hb
  have hb8 := d.hb
  refine ld hb1 rfl ⟨_, rfl, JOIN.mk (fun x w' => w' = w1 ∧ x.1 = decide (0 ≤ d.act ∧ d.act ≤ 3)) ?_ ?_⟩
  · refine BIF.mk (fun hc => ⟨rfl, ?_⟩) fun hc => BIF.mk (fun hc1 => ⟨rfl, ?_⟩) fun hc1 => BIF.mk (fun hc2 => ⟨rfl, ?_⟩) fun hc2 => ⟨rfl, ?_⟩
    · rw [Bool.eq_iff_iff]; simp at hc ⊢; omega
    · rw [Bool.eq_iff_iff]; simp at hc1 ⊢; omega
    · rw [Bool.eq_iff_iff]; simp at hc2 ⊢; omega
    · rw [Bool.eq_iff_iff]; simp at hc hc1 hc2 ⊢; omega
  rintro ⟨x, _⟩ wj ⟨ej, hx⟩ J
  subst wj
  simp only [] at hx
  refine BIF.mk (fun hq => ?_) fun hq => ?_
  · -- Write
    have hact : 0 ≤ d.act ∧ d.act ≤ 3 := by rw [hx] at hq; simpa using hq
    have hstep : (s.wr d.n d.xs).1 = s.step d := by simp only [St.step, if_pos hact]
    refine ld hb1 rfl ⟨_, rfl, fn32 (by omega) (by omega) fun w2 x2 hx2 hs2 ho2 => ⟨_, _, _, rfl, ?_⟩⟩
    have hb2 := hs2.blk hb1 (by simp)
    have e8 : ((d.b : Int)).toNat = d.b := by omega
    rw [e8] at hx2
    refine JOIN.mk (fun y w' => w' = w2 ∧ Row 5 w2 (y.1.1, y.1.2.1, y.1.2.2) d.xs) ?_ ?_
    · refine ld hb2 rfl ⟨_, rfl, BIF.mk (fun hc => ?_) fun hc => ?_⟩
      · have h77 : d.b = 77 := by simp at hc; omega
        have hlen : x2.2.1 = 64 := by have := hx2.len; simpa using this
        refine OPW.of_run (run_slL (e := 5) (sz := 1) (by_ := 1) (z := [.int .u8 0]) (by kernel_rfl) (by omega) (by omega) w2) ?_
        rw [sliced_eq]
        refine ⟨_, _, _, rfl, rfl, ?_⟩
        have hle : x2.2.1 ≤ x2.2.2 := hx2.2.1
        have hsub := SRow.sub hx2 (l := 1) (h := x2.2.1) (m := x2.2.2) (by omega) (Nat.le_refl _) hle (Nat.le_refl _)
        have exs : d.xs = (List.replicate 64 (UInt8.ofNat d.b)).drop 1 := by simp only [Dd.xs, h77, if_true]
        rw [exs]
        have e1 : (1 : Int).toNat = 1 := rfl
        simp only [e1]
        have e3 : List.take ((x2.2.1 - 1) * 1) (List.drop (1 * 1) ((List.replicate 64 (UInt8.ofNat d.b)).map bv)) = ((List.replicate 64 (UInt8.ofNat d.b)).drop 1).map bv := by
          rw [hlen]; simp
        rw [e3] at hsub
        exact hsub
      · have h77 : ¬ d.b = 77 := fun e => by simp at hc; omega
        refine ⟨rfl, ?_⟩
        have exs : d.xs = List.replicate 64 (UInt8.ofNat d.b) := by simp only [Dd.xs, if_neg h77]
        rw [exs]; exact hx2
    rintro ⟨⟨ya, yl, yc⟩, _⟩ wj ⟨ej, hy⟩ J2
    subst wj
    have hxl : d.xs.length ≤ 4096 := by simp only [Dd.xs]; split <;> simp
    refine DRAW.mk (fun w' => Blk w' v 35 (d.cells k f)) ?_
    have hb2' : Blk (drew w2) v 35 (d.cells k f) := hb2
    have hs2d : Same [] w1 (drew w2) := hs2.drew
    refine HELD.ld hb2' (fun _ h => h) rfl ⟨_, rfl, HELD.ld hb2' (fun _ h => h) rfl ⟨_, rfl, ?_⟩⟩
    refine fn31 (w := drew w2) (d := (ya, yl, yc)) (hP1.nil (.inl rfl) hs2d) hF hC (Row.nil hy (Same.refl [] w2).drew) hxl fun w3 own3 hP3 hs3 ho3 => ⟨_, rfl, ?_⟩
    obtain ⟨hM3, hb3, _⟩ := mid hs2d hs3
    have hy3 : Row 5 w3 (ya, yl, yc) d.xs := Row.keep (Row.nil hy (Same.refl [] w2).drew) hs3 fun b hc hm => (hP1.nil (.inl rfl) hs2d).notCalm (.inl rfl) b hm hc
    refine ⟨hb3, fn36 (d := (ya, yl, yc)) hM3 hF hC hy3 hxl fun w4 own4 hM4 hs4 ho4 => ⟨_, rfl, hs4.blk hb3 hvM, ?_⟩⟩
    rw [beq_self]
    exact fin hstep hs2d hP3 hs3 ho3 hM4 hs4 ho4
  have hn3 : ¬ (0 ≤ d.act ∧ d.act ≤ 3) := by rw [hx] at hq; simpa using hq
  refine JOIN.mk (fun x w' => w' = w1 ∧ x.1 = decide (d.act = 4 ∨ d.act = 5)) ?_ ?_
  · refine BIF.mk (fun hc => ⟨rfl, ?_⟩) fun hc => ⟨rfl, ?_⟩
    · rw [Bool.eq_iff_iff]; simp at hc ⊢; omega
    · rw [Bool.eq_iff_iff]; simp at hc ⊢; omega
  rintro ⟨x', _⟩ wj ⟨ej, hx'⟩ J
  subst wj
  simp only [] at hx'
  have hs0 : Same [] w1 w1 := Same.refl _ _
  refine BIF.mk (fun hq => ?_) fun hq' => ?_
  · -- Read
    have hact : d.act = 4 ∨ d.act = 5 := by rw [hx'] at hq; simpa using hq
    have hstep : (s.rd d.n).1 = s.step d := by simp only [St.step, if_neg hn3, if_pos hact]
    refine ld hb1 rfl ⟨_, rfl, fn34 hP1 hF hC fun w3 d3 hP3 hs3 hr3 => ⟨_, _, _, _, rfl, ?_⟩⟩
    obtain ⟨hM3, hb3, _⟩ := mid hs0 hs3
    refine ld hb3 rfl ⟨_, rfl, fn37 hM3 hF hC fun w4 d4 hM4 hs4 hr4 => ⟨_, _, _, _, rfl, ?_⟩⟩
    have hr34 : Row 5 w4 d3 _ := Row.keep hr3 hs4 fun b hc hm => hM3.notCalm (.inr rfl) b hm hc
    refine OPW.of_run (run_str hr34 (by kernel_rfl) (by kernel_rfl)) ⟨_, rfl, OPW.of_run (run_str hr4 (by kernel_rfl) (by kernel_rfl)) ⟨_, rfl, ?_⟩⟩
    refine BIF.yes (beq_self _) ?_
    rw [beq_self]
    exact fin hstep hs0 hP3 hs3 hown hM4 hs4 hown
  have hn5 : ¬ (d.act = 4 ∨ d.act = 5) := by rw [hx'] at hq'; simpa using hq'
  refine BIF.mk (fun hc => ?_) fun hc6 => ?_
  · -- Sync
    have hact : d.act = 6 := by simpa using hc
    have hstep : s.sync.1 = s.step d := by simp only [St.step, if_neg hn3, if_neg hn5, if_pos hact]
    refine fn35 hP1 hF hC fun w3 own3 hP3 hs3 ho3 => ⟨_, rfl, ?_⟩
    obtain ⟨hM3, hb3, _⟩ := mid hs0 hs3
    refine fn38 hM3 hF hC fun w4 own4 hM4 hs4 ho4 => ⟨_, rfl, ?_⟩
    rw [beq_self]
    exact fin hstep hs0 hP3 hs3 ho3 hM4 hs4 ho4
  have hn6 : ¬ d.act = 6 := by simpa using hc6
  refine BIF.mk (fun hc => ?_) fun hc7 => ?_
  · -- Crash
    have hact : d.act = 7 := by simpa using hc
    have hstep : s.crash d.keep = s.step d := by simp only [St.step, if_neg hn3, if_neg hn5, if_neg hn6, if_pos hact]
    refine lit0R (e := 4) (sz := 1) (by_ := 1) (z := [.bool false]) (by kernel_rfl) fun w2 b2 _ hs2 _ => ⟨_, _, _, rfl, ?_⟩
    have hb2 := hs2.blk hb1 (by simp)
    have hd2 := hd1.sub hs2 (by simp)
    have hkl : k.2.1 = d.keep.length := by have := hd2.keep.1; simp at this; omega
    refine ld hb2 rfl ⟨_, _, _, rfl, ?_⟩
    refine appendI (e := 4) (sz := 1) (by_ := 1) (z := [.bool false]) (by kernel_rfl) (SRow.nil w2 4 1 _) hd2.keep (by
      intro y hy; obtain ⟨x, _, rfl⟩ := List.mem_map.1 hy; rfl) (by omega) (by simp only [maxLen]; omega) rfl ?_
    intro w3 a3 c3 hr3 hs3 ho3
    have hs3 : Same [] w2 w3 := by simpa [ownB] using hs3
    refine ⟨_, _, _, rfl, ?_⟩
    have hs13 := hs2.trans hs3
    refine fn33 (d := (a3, 0 + k.2.1, c3)) (hP1.nil (.inl rfl) hs13) hC (keep := d.keep) (by simpa using hr3) fun w4 own4 hP4 hs4 ho4 => ?_
    obtain ⟨hM4, hb4, hd4⟩ := mid hs13 hs4
    refine ld hb4 rfl ⟨_, _, _, rfl, fn39 hM4 hC hd4.keep (fun b hb hm => Nat.not_le_of_lt (hd4.kin b hb) (hB b (List.mem_append_right _ hm))) fun w5 own5 hM5 hs5 ho5 => ?_⟩
    exact fin hstep hs13 hP4 hs4 ho4 hM5 hs5 ho5
  have hn7 : ¬ d.act = 7 := by simpa using hc7
  refine BIF.mk (fun hc => ?_) fun hc8 => ?_
  · -- Fail
    have hact : d.act = 8 := by simpa using hc
    have hstep : s.fail d.F = s.step d := by simp only [St.step, if_neg hn3, if_neg hn5, if_neg hn6, if_neg hn7, if_pos hact]
    refine ld hb1 rfl ⟨_, _, _, rfl, fn40 hf1 hd1.flt fun w2 d2 hr2 hs2 => ⟨_, _, _, rfl, ?_⟩⟩
    refine fn15 (hP1.nil (.inl rfl) hs2) hf1 hr2 fun w3 own3 hP3 hs3 ho3 => ?_
    obtain ⟨hM3, hb3, hd3⟩ := mid hs2 hs3
    refine ld hb3 rfl ⟨_, _, _, rfl, fn16 hM3 hf1 hd3.flt fun w4 own4 hM4 hs4 ho4 => ?_⟩
    exact fin hstep hs2 hP3 hs3 ho3 hM4 hs4 ho4
  have hn8 : ¬ d.act = 8 := by simpa using hc8
  refine BIF.mk (fun hc => ?_) fun hc9 => ?_
  · -- Rot
    have hact : d.act = 9 := by simpa using hc
    have hstep : (s.rot d.n (d.b : Int) d.mask).1 = s.step d := by simp only [St.step, if_neg hn3, if_neg hn5, if_neg hn6, if_neg hn7, if_neg hn8, if_pos hact]
    have ew : IntKind.wrap .i64 (d.b : Int) = (d.b : Int) := wrap64 (by omega) (by omega)
    refine DRAW.mk (fun w' => Blk w' v 35 (d.cells k f)) ?_
    have hb2' : Blk (drew w1) v 35 (d.cells k f) := hb1
    have hs2d : Same [] w1 (drew w1) := hs0.drew
    refine HELD.ld hb2' (fun _ h => h) rfl ⟨_, rfl, HELD.ld hb2' (fun _ h => h) rfl ⟨_, rfl, HELD.ld hb2' (fun _ h => h) rfl ⟨_, rfl, HELD.ld hb2' (fun _ h => h) rfl ⟨_, rfl, HELD.ld hb2' (fun _ h => h) rfl ⟨_, rfl, HELD.ld hb2' (fun _ h => h) rfl ⟨_, rfl, ?_⟩⟩⟩⟩⟩⟩
    rw [ew]
    refine fn41 (w := drew w1) (hP1.nil (.inl rfl) hs2d) d.hm fun w3 hP3 hs3 => ⟨_, rfl, ?_⟩
    obtain ⟨hM3, hb3, _⟩ := mid hs2d hs3
    refine ⟨hb3, fn42 hM3 d.hm fun w4 hM4 hs4 => ⟨_, rfl, hs4.blk hb3 hvM, ?_⟩⟩
    rw [beq_self]
    exact fin hstep hs2d hP3 hs3 hown hM4 hs4 hown
  have hn9 : ¬ d.act = 9 := by simpa using hc9
  have hstep : s = s.step d := by simp only [St.step, if_neg hn3, if_neg hn5, if_neg hn6, if_neg hn7, if_neg hn8, if_neg hn9]
  exact fin hstep hs0 hP1 (Same.refl _ _) hown hM1 (Same.refl _ _) hown

end
end Go.Proofs.Ytdabjchdmieegaa
