/-
  A platter, the program's own or the model's, as a state: its blocks, its cache, its faults, its counts; and how it lies in memory.
-/
import Derived.Test.YtdabjchdmieegaaRules2
import Derived.Test.YtdabjchdmieegaaRP
set_option linter.unusedVariables false
namespace Go.Proofs.Ytdabjchdmieegaa
open Go Go.Lift

/-! ### The state -/
structure St where
  B : List (List UInt8)
  C : List (Nat × List UInt8)
  F : List (Int × Int)
  cnt : List Int
  snc : List Int

def bumpL (l : List Int) (op : Nat) : List Int := l.set op (IntKind.wrap .i64 (l.getD op 0 + 1))
def St.bump (s : St) (op : Nat) : St := { s with cnt := bumpL s.cnt op, snc := bumpL s.snc op }
def St.faulty (s : St) (op : Nat) : Bool := decide (((op : Int), s.snc.getD op 0) ∈ s.F)

/-! ### The layout -/
structure PT where
  T : TypeId
  C : TypeId
  F : TypeId
abbrev PP : PT := ⟨78, 88, 91⟩
abbrev PR : PT := ⟨46, 105, 106⟩

def i64s (l : List Int) : List Value := l.map (.int .i64)
def pairs (l : List (Int × Int)) : List Value := l.flatMap fun f => [.int .i64 f.1, .int .i64 f.2]
def cach (l : List (Nat × D)) : List Value := l.flatMap fun f => [.int .i64 (f.1 : Int), sl f.2]

/-- Each of the slice values reads as its bytes. -/
def Rows (w : World) (ds : List D) (xs : List (List UInt8)) : Prop := ds.length = xs.length ∧ ∀ (i : Nat) (d : D) (x : List UInt8), ds[i]? = some d → xs[i]? = some x → Row 5 w d x

structure Lay (t : PT) (w : World) (p : Nat) (s : St) (ab ac af : D) (ds es : List D) : Prop where
  blk : Blk w p t.T (sl ab :: sl ac :: sl af :: (i64s s.cnt ++ i64s s.snc))
  arr : SRow w 49 1 ab.1 ab.2.1 ab.2.2 (ds.map sl)
  car : SRow w t.C 2 ac.1 ac.2.1 ac.2.2 (cach ((s.C.map (·.1)).zip es))
  far : SRow w t.F 2 af.1 af.2.1 af.2.2 (pairs s.F)
  rows : Rows w ds s.B
  crow : Rows w es (s.C.map (·.2))
  cl : s.cnt.length = 4
  sl : s.snc.length = 4
  b64 : ∀ x ∈ s.B, x.length = 64
  c64 : ∀ x ∈ s.C, x.1 < s.B.length ∧ x.2.length = 64
  lo : 64 ≤ s.B.length
  hi : s.B.length ≤ 8192

/-- The object at block p stands for the state s, and may turn the blocks of own. -/
def Obj (t : PT) (w : World) (p : Nat) (s : St) (own : List Nat) : Prop :=
  ∃ ab ac af ds es, Lay t w p s ab ac af ds es ∧ own = p :: (ownB ab.1 ab.2.2 ++ ownB ac.1 ac.2.2)

/-- A block that none of the methods turns: bytes and faults. -/
def Calm (w : World) (b : Nat) : Prop := ∃ T cs, Blk w b T cs ∧ (T = 5 ∨ T = 91 ∨ T = 106 ∨ T = 35 ∨ T = 4)

theorem Calm.keep {w w' : World} {b : Nat} (h : Calm w b) {S : List Nat} (hs : Same S w w') (hn : b ∉ S) : Calm w' b :=
  let ⟨T, cs, hb, hT⟩ := h; ⟨T, cs, hs.blk hb hn, hT⟩

def PT.ok (t : PT) : Prop := t = PP ∨ t = PR

theorem _root_.Go.Lift.SRow.calm {w : World} {T : TypeId} {sz : Nat} {a : Option Addr} {n c : Nat} {xs : List Value} (h : SRow w T sz a n c xs) (hT : T = 5 ∨ T = 91 ∨ T = 106 ∨ T = 35 ∨ T = 4) : ∀ b ∈ ownB a c, Calm w b := by
  intro b hb
  rcases h.2.2 with h0 | ⟨b', o, cs, rfl, hb', _⟩
  · subst h0; unfold ownB at hb; split at hb <;> simp at hb
  · unfold ownB at hb
    simp only at hb
    split at hb
    · cases hb
    · rw [List.mem_singleton.1 hb]; exact ⟨T, cs, hb', hT⟩

theorem _root_.Go.Lift.SRow.typed {w : World} {T : TypeId} {sz : Nat} {a : Option Addr} {n c : Nat} {xs : List Value} (h : SRow w T sz a n c xs) : ∀ b ∈ ownB a c, ∃ cs, Blk w b T cs := by
  intro b hb
  rcases h.2.2 with h0 | ⟨b', o, cs, rfl, hb', _⟩
  · subst h0; unfold ownB at hb; split at hb <;> simp at hb
  · unfold ownB at hb
    simp only at hb
    split at hb
    · cases hb
    · rw [List.mem_singleton.1 hb]; exact ⟨cs, hb'⟩

section
variable {t : PT} {w w' : World} {p : Nat} {s : St} {ab ac af : D} {ds es : List D} {own : List Nat}

theorem Lay.notCalm (ht : t.ok) (h : Lay t w p s ab ac af ds es) : ∀ b ∈ p :: (ownB ab.1 ab.2.2 ++ ownB ac.1 ac.2.2), ¬ Calm w b := by
  intro b hb ⟨T, cs, hk, hT⟩
  have key : ∃ cs', Blk w b t.T cs' ∨ Blk w b 49 cs' ∨ Blk w b t.C cs' := by
    simp only [List.mem_cons, List.mem_append] at hb
    rcases hb with rfl | hb | hb
    · exact ⟨_, .inl h.blk⟩
    · obtain ⟨cs', h'⟩ := h.arr.typed b hb; exact ⟨cs', .inr (.inl h')⟩
    · obtain ⟨cs', h'⟩ := h.car.typed b hb; exact ⟨cs', .inr (.inr h')⟩
  obtain ⟨cs', h1 | h1 | h1⟩ := key <;> have e := (h1.inj hk).1 <;> rcases ht with rfl | rfl <;> rcases hT with rfl | rfl | rfl | rfl | rfl <;> revert e <;> decide

theorem Obj.notCalm (ht : t.ok) (h : Obj t w p s own) : ∀ b ∈ own, ¬ Calm w b := by
  obtain ⟨ab, ac, af, ds, es, h, rfl⟩ := h
  exact h.notCalm ht

theorem Rows.keep {xs : List (List UInt8)} {S : List Nat} (h : Rows w ds xs) (hs : Same S w w') (hn : ∀ b, Calm w b → b ∉ S) : Rows w' ds xs :=
  ⟨h.1, fun i d x hd hx => SRow.keep (h.2 i d x hd hx) hs fun b hb => hn b (SRow.calm (h.2 i d x hd hx) (.inl rfl) b hb)⟩

theorem Lay.keep (ht : t.ok) (h : Lay t w p s ab ac af ds es) {S : List Nat} (hs : Same S w w') (ho : ∀ b ∈ p :: (ownB ab.1 ab.2.2 ++ ownB ac.1 ac.2.2), b ∉ S) (hn : ∀ b, Calm w b → b ∉ S) : Lay t w' p s ab ac af ds es where
  blk := hs.blk h.blk (ho p (by simp))
  arr := h.arr.keep hs fun b hb => ho b (by simp [hb])
  car := h.car.keep hs fun b hb => ho b (by simp [hb])
  far := h.far.keep hs fun b hb => hn b (h.far.calm (by rcases ht with rfl | rfl <;> simp) b hb)
  rows := h.rows.keep hs hn
  crow := h.crow.keep hs hn
  cl := h.cl
  sl := h.sl
  b64 := h.b64
  c64 := h.c64
  lo := h.lo
  hi := h.hi

theorem Obj.keep (ht : t.ok) (h : Obj t w p s own) {S : List Nat} (hs : Same S w w') (ho : ∀ b ∈ own, b ∉ S) (hn : ∀ b, Calm w b → b ∉ S) : Obj t w' p s own := by
  obtain ⟨ab, ac, af, ds, es, h, rfl⟩ := h
  exact ⟨ab, ac, af, ds, es, h.keep ht hs ho hn, rfl⟩

theorem Obj.nil (ht : t.ok) (h : Obj t w p s own) (hs : Same [] w w') : Obj t w' p s own := h.keep ht hs (fun _ _ h => by cases h) (fun _ _ h => by cases h)

theorem Obj.lt (h : Obj t w p s own) : ∀ b ∈ own, b < w.heap.size := by
  obtain ⟨ab, ac, af, ds, es, h, rfl⟩ := h
  intro b hb
  simp only [List.mem_cons, List.mem_append] at hb
  rcases hb with rfl | hb | hb
  · exact h.blk.lt
  · exact h.arr.lt b hb
  · exact h.car.lt b hb

/-- The blocks of one object turn: the other one stays. -/
theorem Obj.apart {t' : PT} {q : Nat} {s' : St} {own' : List Nat} (ht : t.ok) (ht' : t'.ok) (h : Obj t w p s own) (h' : Obj t' w q s' own') (hd : ∀ b ∈ own, b ∉ own') (hs : Same own' w w') : Obj t w' p s own :=
  h.keep ht hs hd fun b hc hb => h'.notCalm ht' b hb hc


theorem PT.ok.n49 (ht : t.ok) : t.T ≠ 49 ∧ t.T ≠ t.C ∧ t.C ≠ 49 := by rcases ht with rfl | rfl <;> decide

theorem Lay.p_arr (ht : t.ok) (h : Lay t w p s ab ac af ds es) : p ∉ ownB ab.1 ab.2.2 := fun hb => let ⟨_, hc⟩ := h.arr.typed p hb; ht.n49.1 (h.blk.inj hc).1
theorem Lay.p_car (ht : t.ok) (h : Lay t w p s ab ac af ds es) : p ∉ ownB ac.1 ac.2.2 := fun hb => let ⟨_, hc⟩ := h.car.typed p hb; ht.n49.2.1 (h.blk.inj hc).1
theorem Lay.arr_car (ht : t.ok) (h : Lay t w p s ab ac af ds es) : ∀ b ∈ ownB ab.1 ab.2.2, b ∉ ownB ac.1 ac.2.2 := fun b ha hb =>
  let ⟨_, h1⟩ := h.arr.typed b ha; let ⟨_, h2⟩ := h.car.typed b hb; ht.n49.2.2 (h1.inj h2).1.symm
theorem Lay.calm (ht : t.ok) (h : Lay t w p s ab ac af ds es) (b : Nat) (hc : Calm w b) : b ≠ p ∧ b ∉ ownB ab.1 ab.2.2 ∧ b ∉ ownB ac.1 ac.2.2 := by
  refine ⟨fun e => ?_, fun e => ?_, fun e => ?_⟩ <;> exact h.notCalm ht b (by simp [e]) hc

/-- The struct's counts turn. -/
theorem Lay.upd (ht : t.ok) (h : Lay t w p s ab ac af ds es) (hs : Same [p] w w') {cnt snc : List Int} (hb : Blk w' p t.T (Lift.sl ab :: Lift.sl ac :: Lift.sl af :: (i64s cnt ++ i64s snc))) (hc : cnt.length = 4) (hn : snc.length = 4) :
    Lay t w' p { s with cnt := cnt, snc := snc } ab ac af ds es where
  blk := hb
  arr := h.arr.keep hs fun b hb e => h.p_arr ht (List.mem_singleton.1 e ▸ hb)
  car := h.car.keep hs fun b hb e => h.p_car ht (List.mem_singleton.1 e ▸ hb)
  far := h.far.keep hs fun b hb e => (h.calm ht b (h.far.calm (by rcases ht with rfl | rfl <;> simp) b hb)).1 (List.mem_singleton.1 e)
  rows := h.rows.keep hs fun b hb e => (h.calm ht b hb).1 (List.mem_singleton.1 e)
  crow := h.crow.keep hs fun b hb e => (h.calm ht b hb).1 (List.mem_singleton.1 e)
  cl := hc
  sl := hn
  b64 := h.b64
  c64 := h.c64
  lo := h.lo
  hi := h.hi
theorem Lay.nil (ht : t.ok) (h : Lay t w p s ab ac af ds es) (hs : Same [] w w') : Lay t w' p s ab ac af ds es := h.keep ht hs (fun _ _ h => by cases h) (fun _ _ h => by cases h)

end
end Go.Proofs.Ytdabjchdmieegaa
