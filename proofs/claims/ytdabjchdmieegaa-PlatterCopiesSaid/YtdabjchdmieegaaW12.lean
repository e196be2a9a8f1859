/-
  The sanity check; the law of one platter against the model.
-/
import Derived.Test.YtdabjchdmieegaaW11
set_option linter.unusedVariables false
namespace Go.Proofs.Ytdabjchdmieegaa
open Go Go.Lift Go.RowKit

/-! ### Some facts on the steps -/
theorem bumpL_zero {l : List Int} {op : Nat} (h : 0 < op) : (bumpL l op).getD 0 0 = l.getD 0 0 := by
  simp only [bumpL, List.getD, List.getElem?_set]
  rw [if_neg (by omega)]
theorem step_cnt (s : St) (d : Dd) : (s.step d).cnt.getD 0 0 = s.cnt.getD 0 0 := by
  have h (op : Nat) (ho : 0 < op) : (s.bump op).cnt.getD 0 0 = s.cnt.getD 0 0 := bumpL_zero ho
  simp only [St.step, St.wr, St.put, St.rd, St.sync, St.settled, St.crash, St.fail, St.rot]
  repeat' split
  all_goals first | rfl | exact h _ (by omega)
theorem step_C (s : St) (d : Dd) : (s.step d).C.length ≤ s.C.length + 1 := by
  have h (op : Nat) : (s.bump op).C = s.C := rfl
  simp only [St.step, St.wr, St.put, St.rd, St.sync, St.settled, St.crash, St.fail, St.rot]
  repeat' split
  all_goals simp [h]
theorem step_F (s : St) (d : Dd) : (s.step d).F.length ≤ max s.F.length d.F.length := by
  have h (op : Nat) : (s.bump op).F = s.F := rfl
  simp only [St.step, St.wr, St.put, St.rd, St.sync, St.settled, St.crash, St.fail, St.rot]
  repeat' split
  all_goals first | (simp only [h]; omega) | (simp; omega) | simp

section
variable {t : PT} {w w' : World} {p m : Nat} {s : St} {ab ac af : D} {ds es : List D} {own : List Nat} {S : List Nat}
variable {K : Value → World → Prop} {E : List PanicEntry → World → Prop}

def x7 : List UInt8 := List.replicate 64 7
def x0 : List UInt8 := List.replicate 64 0
def a1 : St := ((St.new 64).wr 3 x7).1
def a2 : St := a1.crash []
def a3 : St := (a2.rd 3).1
def a4 : St := (a3.wr 3 x7).1
def a5 : St := a4.sync.1
def a6 : St := a5.crash []

theorem fresh_trans {B0 : Nat} {own own' : List Nat} {n : Nat} (h : ∀ b ∈ own, B0 ≤ b) (hn : B0 ≤ n) (ho : ∀ b ∈ own', b ∈ own ∨ n ≤ b) : ∀ b ∈ own', B0 ≤ b :=
  fun b hb => (ho b hb).elim (h b) fun h' => Nat.le_trans hn h'
theorem Same.fresh {B0 : Nat} {a b c : World} {S : List Nat} (h : Same [] a b) (k : Same S b c) (hs : ∀ x ∈ S, a.heap.size ≤ x) : Same [] a c := h.then k fun x hx => .inr (hs x hx)

/-- awake -/
theorem fn8 (hk : ∀ w', Same [] w w' → K (.bool true) w') : FN Try.prog 8 #[] w K E := by
  refine R8_ok (_u := ()) (fn9 (n := 64) (fun h => by omega) fun _ _ w1 p own h1 hs1 ho1 => ⟨_, _, rfl, ?_⟩)
  have h1 : Obj PP w1 p (St.new 64) own := h1
  refine JOIN.mk (fun _ w' => w' = w1) (BIF.no rfl (eqlPtrNil ⟨_, rfl, BIF.no rfl rfl⟩)) ?_
  rintro _ wj ej J
  subst wj
  refine fn32 (b := 7) (by omega) (by omega) fun w2 d2 hr2 hs2 _ => ⟨_, _, _, rfl, ?_⟩
  have hr2 : Row 5 w2 d2 x7 := hr2
  refine fn31 (h1.nil (.inl rfl) hs2) (by simp [St.new]) (by simp [St.new]) (n := 3) hr2 (by simp [x7]) fun w3 own3 h3 hs3 ho3 => ⟨_, rfl, ?_⟩
  have h3 : Obj PP w3 p a1 own3 := h3
  have s13 : Same [] w w3 := Same.fresh (B0 := 0) (hs1.trans hs2) hs3 (fun x hx => ho1 x hx)
  have o3 := fresh_trans ho1 (hs1.trans hs2).size ho3
  refine fn33 h3 (by decide +kernel) (d := (none, 0, 0)) (keep := []) (SRow.nil w3 4 1 none) fun w4 own4 h4 hs4 ho4 => ?_
  have h4 : Obj PP w4 p a2 own4 := h4
  have s4 : Same [] w w4 := Same.fresh (B0 := 0) s13 hs4 o3
  have o4 := fresh_trans o3 s13.size ho4
  refine fn34 h4 (by decide +kernel) (by decide +kernel) (n := 3) fun w5 d5 h5 hs5 hr5 => ⟨_, _, _, _, rfl, ?_⟩
  have h5 : Obj PP w5 p a3 own4 := h5
  have s5 : Same [] w w5 := Same.fresh (B0 := 0) s4 hs5 o4
  have e5 : (a2.rd 3).2.1 = x0 := by decide +kernel
  rw [e5] at hr5
  refine fn32 (b := 7) (by omega) (by omega) fun w6 d6 hr6 hs6 _ => ⟨_, _, _, rfl, ?_⟩
  have hr6 : Row 5 w6 d6 x7 := hr6
  have h6 := h5.nil (.inl rfl) hs6
  have r6 := Row.nil hr5 hs6
  refine fn31 h6 (by decide +kernel) (by decide +kernel) (n := 3) hr6 (by simp [x7]) fun w7 own7 h7 hs7 ho7 => ⟨_, rfl, ?_⟩
  have h7 : Obj PP w7 p a4 own7 := h7
  have s7 : Same [] w w7 := Same.fresh (B0 := 0) (s5.trans hs6) hs7 o4
  have o7 := fresh_trans o4 (s5.trans hs6).size ho7
  have r7 : Row 5 w7 d5 x0 := Row.keep r6 hs7 fun b hc hm => h6.notCalm (.inl rfl) b hm hc
  refine fn35 h7 (by decide +kernel) (by decide +kernel) fun w8 own8 h8 hs8 ho8 => ⟨_, rfl, ?_⟩
  have h8 : Obj PP w8 p a5 own8 := h8
  have s8 : Same [] w w8 := Same.fresh (B0 := 0) s7 hs8 o7
  have o8 := fresh_trans o7 s7.size ho8
  have r8 : Row 5 w8 d5 x0 := Row.keep r7 hs8 fun b hc hm => h7.notCalm (.inl rfl) b hm hc
  refine fn33 h8 (by decide +kernel) (d := (none, 0, 0)) (keep := []) (SRow.nil w8 4 1 none) fun w9 own9 h9 hs9 ho9 => ?_
  have h9 : Obj PP w9 p a6 own9 := h9
  have s9 : Same [] w w9 := Same.fresh (B0 := 0) s8 hs9 o8
  have o9 := fresh_trans o8 s8.size ho9
  have r9 : Row 5 w9 d5 x0 := Row.keep r8 hs9 fun b hc hm => h8.notCalm (.inl rfl) b hm hc
  refine fn34 h9 (by decide +kernel) (by decide +kernel) (n := 3) fun w10 d10 h10 hs10 hr10 => ⟨_, _, _, _, rfl, ?_⟩
  have s10 : Same [] w w10 := Same.fresh (B0 := 0) s9 hs10 o9
  have r10 : Row 5 w10 d5 x0 := Row.keep r9 hs10 fun b hc hm => h9.notCalm (.inl rfl) b hm hc
  have e10 : (a6.rd 3).2.1 = x7 := by decide +kernel
  rw [e10] at hr10
  refine DRAW.rel (Same []) (fun _ _ _ h k => h.trans k) ?_
  have S0 : Same [] w10 (drew w10) := (Same.refl [] w10).drew
  have hstr : ∀ {v : World} {d : D} {x : List UInt8}, Row 5 v d x → ∀ w', Same [] v w' → (sV (convert 49 9 (.slice d.1 d.2.1 d.2.2))).run Try.prog w' = .ok (.value (.string ⟨x.toArray⟩)) w' :=
    fun hr w' hs => run_str (Row.nil hr hs) (by kernel_rfl) (by kernel_rfl)
  refine BIF.yes (by decide +kernel) (BIF.yes (by decide +kernel) (BIF.yes (by decide +kernel) (BIF.yes (by decide +kernel) (BIF.yes (by decide +kernel) ?_))))
  refine HELD.mk _ (Same.refl _ _) (hstr (Row.nil r10 S0)) ⟨_, rfl, fn32 (w := drew w10) (b := 0) (by omega) (by omega) fun w11 d11 hr11 hs11 _ => ⟨_, _, _, rfl, ?_⟩⟩
  have hr11 : Row 5 w11 d11 x0 := hr11
  refine ⟨hs11, HELD.mk _ (Same.refl _ _) (hstr hr11) ⟨_, rfl, BIF.yes (beq_self _) ?_⟩⟩
  refine HELD.mk _ (Same.refl _ _) (hstr (Row.nil hr10 (S0.trans hs11))) ⟨_, rfl, fn32 (b := 7) (by omega) (by omega) fun w12 d12 hr12 hs12 _ => ⟨_, _, _, rfl, ?_⟩⟩
  have hr12 : Row 5 w12 d12 x7 := hr12
  refine ⟨hs12, HELD.mk _ (Same.refl _ _) (hstr hr12) ⟨_, rfl, ?_⟩⟩
  rw [beq_self]
  exact hk w12 (s10.trans (S0.trans (hs11.trans hs12)))

end
end Go.Proofs.Ytdabjchdmieegaa
