/-
  Faults: an operation is counted, and fails where a fault was planned.
-/
import Derived.Test.YtdabjchdmieegaaW1
import Derived.Recover
set_option linter.unusedVariables false
namespace Go.Proofs.Ytdabjchdmieegaa
open Go Go.Lift Go.RowKit

theorem catch_idle (p : Addr) (w : World) :
    CallsD Try.prog 72 #[.pointer (some p)] .returning w fun e u' w' => e = .returned (.tuple #[]) ∧ u' = .returning ∧ w' = w := by
  refine callsD_of_wpS Try.func72 rfl fun c₀ cs hu => ?_
  apply wpS_seq
  apply wpS_region
  simp [wpOpsS, go_sem, recoverD, hu, Try.ntmps72, Exit.thenS]
  apply wpS_seq
  apply wpS_region
  simp [wpOpsS, go_sem, Exit.thenS]
  refine wpS_cond (t := false) (by simp [Act.eval, Array.replicate]) ?_
  simp only [Bool.false_eq_true, if_false]
  refine wpS_of_wp (wp_skip ?_)
  cases c₀
  simp_all [bodyPostS, results, Try.results72]

theorem catch_panicking (p : Addr) (x : Int) (w : World) (hc : (w.alloc (.cells #[] 115)).cell? p = some (.int .i64 x)) (hz : (w.alloc (.cells #[] 115)).frozen? p = false) :
    CallsD Try.prog 72 #[.pointer (some p)] (.panicking [{ v := .iface 115 (.agg #[]), recovered := false }]) w fun e u' w' =>
      e = .returned (.tuple #[]) ∧ u' = .panicking [{ v := .iface 115 (.agg #[]), recovered := true }] ∧ w' = (w.alloc (.cells #[] 115)).setCell p (.int .i64 6) := by
  have hta : ∀ w : World, (Instr.typeAssert (.iface 115 (.agg #[])) 20 115 true).run Try.prog w = .ok (.tuple #[.agg #[], .bool true]) w := fun _ => by kernel_rfl
  refine callsD_of_wpS Try.func72 rfl fun c₀ cs hu => ?_
  apply wpS_seq
  apply wpS_region
  simp [wpOpsS, go_sem, recoverD, hu, Try.ntmps72, Exit.thenS]
  apply wpS_seq
  apply wpS_region
  simp [wpOpsS, go_sem, Exit.thenS]
  refine wpS_cond (t := true) (by simp [Act.eval, Array.replicate]) ?_
  simp only [if_true]
  apply wpS_seq
  apply wpS_seq
  apply wpS_region
  simp [wpOpsS, go_sem, Exit.thenS, hta]
  apply wpS_seq
  apply wpS_region
  simp [wpOpsS, go_sem, Exit.thenS]
  refine wpS_cond (t := false) (by simp [Act.eval, Array.replicate]) ?_
  simp only [Bool.false_eq_true, if_false]
  refine wpS_of_wp (wp_skip ?_)
  simp only [Exit.thenS]
  apply wpS_region
  simp [wpOpsS, go_sem, Exit.thenS, hc, hz, bodyPostS, results, Try.results72]

theorem caught {e : Nat} {x : Int} {w : World} (hb : Blk w e 25 [.int .i64 x]) :
    CallsD Try.prog 72 #[.pointer (some ⟨e, 0, none⟩)] (.panicking [{ v := .iface 115 (.agg #[]), recovered := false }]) w fun r u' w' =>
      r = .returned (.tuple #[]) ∧ u' = .panicking [{ v := .iface 115 (.agg #[]), recovered := true }] ∧ Same [e] w w' ∧ Blk w' e 25 [.int .i64 6] := by
  have hb1 : Blk (w.alloc (.cells #[] 115)) e 25 [.int .i64 x] := (new_same w (.cells #[] 115)).blk hb (by simp)
  refine (catch_panicking ⟨e, 0, none⟩ x w (hb1.cell 0) (hb1.free 0)).mono ?_
  rintro r u' w' ⟨rfl, rfl, rfl⟩
  refine ⟨rfl, rfl, ?_⟩
  rw [setCell_blk hb1]
  exact ⟨(new_same w _).nil.trans (putB_same _ _ _ _), putB_blk hb1⟩
section
variable {t : PT} {w w' : World} {p : Nat} {s : St} {ab ac af : D} {ds es : List D} {own : List Nat}
variable {K : Value → World → Prop} {E : List PanicEntry → World → Prop}

theorem pairs_get : ∀ (l : List (Int × Int)) (i : Nat) (f : Int × Int), l[i]? = some f → (pairs l)[i * 2]? = some (.int .i64 f.1) ∧ (pairs l)[i * 2 + 1]? = some (.int .i64 f.2)
  | x :: l, 0, f, h => by simp at h; subst h; exact ⟨rfl, rfl⟩
  | x :: l, i + 1, f, h => by
    have := pairs_get l i f (by simpa using h)
    have e : (i + 1) * 2 = i * 2 + 2 := by omega
    rw [e]
    exact this
theorem take_two {cs : List Value} {k : Nat} {x y : Value} (h0 : cs[k]? = some x) (h1 : cs[k + 1]? = some y) : (cs.drop k).take 2 = [x, y] := by
  apply List.ext_getElem?
  intro i
  match i with
  | 0 => simpa [List.getElem?_take] using h0
  | 1 => simpa [List.getElem?_take] using h1
  | i + 2 => simp [List.getElem?_take]; omega

theorem not_mem_take_succ {α : Type} {l : List α} {i : Nat} {a f : α} (h : a ∉ l.take i) (hi : l[i]? = some f) (hn : f ≠ a) : a ∉ l.take (i + 1) := by
  rw [List.take_add_one, hi]
  simp only [Option.toList_some, List.mem_append, List.mem_singleton, not_or]
  exact ⟨h, fun e => hn e.symm⟩

/-- slices.Index of a fault -/
theorem fn78 {F : List (Int × Int)} {d : D} (h : SRow w 91 2 d.1 d.2.1 d.2.2 (pairs F)) (hF : F.length ≤ 1000000) {a b : Int} (hk : ∀ w' (r : Int), Same [] w w' → decide (r ≥ 0) = decide ((a, b) ∈ F) → K (.int .i64 r) w') :
    FN Try.prog 78 #[sl d, .agg #[.int .i64 a, .int .i64 b]] w K E := by
  have hn : d.2.1 = F.length := by have := h.1; rw [pairs_len] at this; omega
  refine R78_ok (boxR fun w1 v hv hb1 hs1 hsz => ⟨_, rfl, ?_⟩)
  refine LOOP.mk (fun st w' => 0 ≤ st.1 ∧ st.1 ≤ F.length ∧ (a, b) ∉ F.take st.1.toNat ∧ Same [] w1 w') (fun st _ => (F.length - st.1).toNat) ⟨by simp, by simp, by simp, Same.refl _ _⟩ ?_
  rintro ⟨i, _⟩ w2 ⟨h0, h1, hnot, hs2⟩ J
  simp only [] at h0 h1 hnot
  refine BIF.dec (fun hc => ?_) fun hc => ?_
  · rw [hn] at hc
    have hi : i.toNat < F.length := by omega
    have hr2 : SRow w2 91 2 d.1 d.2.1 d.2.2 (pairs F) := (h.keep hs1 (by simp)).keep hs2 (by simp)
    obtain ⟨x, o, cs, ex, _, hbx, hlen, hget, _⟩ := hr2.open (by omega)
    have hbv : Blk w2 v 91 [.int .i64 a, .int .i64 b] := hs2.blk hb1 (by simp)
    refine DRAW.mk (fun w' => Blk w' v 91 [.int .i64 a, .int .i64 b] ∧ Blk w' x 91 cs) ?_
    refine HELD.ldA (n := 2) ⟨hbv, hbx⟩ (fun _ h => h.1) rfl rfl ⟨_, _, rfl, ?_⟩
    obtain ⟨f, hf⟩ : ∃ f, F[i.toNat]? = some f := ⟨F[i.toNat], List.getElem?_eq_getElem hi⟩
    have hp := pairs_get F i.toNat f hf
    refine IDX.at ex h0 (by omega) (HELD.ldA (n := 2) ⟨hbv, hbx⟩ (fun _ h => h.2) (take_two (x := .int .i64 f.1) (y := .int .i64 f.2) ?_ ?_) rfl ⟨_, _, rfl, ?_⟩)
    · rw [hget _ (by omega)]; exact hp.1
    · rw [Nat.add_assoc, hget _ (by omega)]; exact hp.2
    refine HELD.mk _ ⟨hbv, hbx⟩ (fun w' _ => run_eql2 (by kernel_rfl) _ _ _ _ _) ⟨_, rfl, BIF.mk (fun he => ?_) fun he => ?_⟩
    · have : f = (a, b) := by
        simp only [Bool.and_eq_true, beq_iff_eq] at he
        exact Prod.ext he.1.symm he.2.symm
      refine hk _ i ((hs1.trans hs2).drew) ?_
      have : (a, b) ∈ F := this ▸ List.mem_of_getElem? hf
      simp [this, h0]
    · have hne : f ≠ (a, b) := by
        rintro rfl
        simp at he
      have e : IntKind.wrap .i64 (i + 1) = i + 1 := wrap64 (by omega) (by omega)
      rw [e]
      refine ⟨⟨by simp only []; omega, by simp only []; omega, ?_, hs2.drew⟩, by simp only []; omega⟩
      have e2 : (i + 1).toNat = i.toNat + 1 := by omega
      simp only [e2]
      exact not_mem_take_succ hnot hf hne
  · rw [hn] at hc
    refine hk _ (-1) (hs1.trans hs2) ?_
    have : i.toNat = F.length := by omega
    rw [this, List.take_length] at hnot
    simp [hnot]

/-- slices.Contains of a fault -/
theorem fn76 {F : List (Int × Int)} {d : D} (h : SRow w 91 2 d.1 d.2.1 d.2.2 (pairs F)) (hF : F.length ≤ 1000000) {a b : Int} (hk : ∀ w', Same [] w w' → K (.bool (decide ((a, b) ∈ F))) w') :
    FN Try.prog 76 #[sl d, .agg #[.int .i64 a, .int .i64 b]] w K E := by
  refine R76_ok (boxR fun w1 v hv hb1 hs1 hsz => ⟨_, rfl, ?_⟩)
  refine ldA (n := 2) hb1 rfl rfl ⟨_, _, rfl, ?_⟩
  refine fn78 (h.keep hs1 (by simp)) hF fun w2 r hs2 hr => ⟨_, rfl, ?_⟩
  rw [hr]
  exact hk w2 (hs1.trans hs2)

theorem bumpL_len (l : List Int) (op : Nat) : (bumpL l op).length = l.length := by simp [bumpL]
theorem bumpL_get {l : List Int} {op : Nat} (h : op < l.length) : (bumpL l op).getD op 0 = IntKind.wrap .i64 (l.getD op 0 + 1) := by
  simp [bumpL, List.getD, h]

/-- asked -/
theorem fn73 (h : Lay PP w p s ab ac af ds es) {op : Nat} (hop : op < 4) (hF : s.F.length ≤ 1000000)
    (hk : ∀ w', Lay PP w' p (s.bump op) ab ac af ds es → Same [p] w w' → ((s.bump op).faulty op = true → E [{ v := .iface 115 (.agg #[]), recovered := false }] w') ∧ ((s.bump op).faulty op = false → K (.tuple #[]) w')) :
    FN Try.prog 73 #[.pointer (some ⟨p, 0, none⟩), .int .i64 (op : Int)] w K E := by
  have hcl := h.cl
  have hsl := h.sl
  have hb0 : Blk w p 78 (cellsOf ab ac af s.cnt s.snc) := h.blk
  have eop : (op : Int).toNat * 1 = op := by omega
  refine R73_ok (DRAW.mk (fun w' => Blk w' p 78 (cellsOf ab ac af s.cnt s.snc)) ?_)
  refine IDXA.mk' (by omega) (by omega) (HELD.ld hb0 (fun _ h => h) (v := .int .i64 (s.cnt.getD op 0)) (by rw [eop]; exact cells_cnt hcl hop) ⟨_, rfl, ?_⟩)
  refine IDXA.mk' (by omega) (by omega) (Lift.st (w := drew w) hb0 (by rw [cells_len hcl hsl]; omega) fun w1 hb1 hs1 hsz1 => ?_)
  rw [eop, cells_setcnt hcl hop] at hb1
  have hcl1 : (s.cnt.set op (IntKind.wrap .i64 (s.cnt.getD op 0 + 1))).length = 4 := by simp [hcl]
  refine DRAW.mk (fun w' => Blk w' p 78 (cellsOf ab ac af (s.cnt.set op (IntKind.wrap .i64 (s.cnt.getD op 0 + 1))) s.snc)) ?_
  refine IDXA.mk' (by omega) (by omega) (HELD.ld hb1 (fun _ h => h) (v := .int .i64 (s.snc.getD op 0)) (by rw [eop]; exact cells_snc hcl1 hsl hop) ⟨_, rfl, ?_⟩)
  refine IDXA.mk' (by omega) (by omega) (Lift.st (w := drew w1) hb1 (by rw [cells_len hcl1 hsl]; omega) fun w2 hb2 hs2 hsz2 => ?_)
  rw [eop, cells_setsnc hcl1 hsl hop] at hb2
  have hs : Same [p] w w2 := (hs1.of_drew).trans hs2.of_drew
  have hlay : Lay PP w2 p (s.bump op) ab ac af ds es := h.upd (.inl rfl) hs hb2 ((bumpL_len _ _).trans hcl) ((bumpL_len _ _).trans hsl)
  have hget : (s.bump op).snc.getD op 0 = IntKind.wrap .i64 (s.snc.getD op 0 + 1) := bumpL_get (by omega)
  refine DRAW.mk (fun w' => Blk w' p 78 (cellsOf ab ac af (s.bump op).cnt (s.bump op).snc)) ?_
  refine HELD.ld (w := drew w2) hlay.blk (fun _ h => h) rfl ⟨_, _, _, rfl, ?_⟩
  refine IDXA.mk' (by omega) (by omega) (HELD.ld (w := drew w2) hlay.blk (fun _ h => h) (v := .int .i64 ((s.bump op).snc.getD op 0)) (by rw [eop]; exact cells_snc hlay.cl hlay.sl hop) ⟨_, rfl, ?_⟩)
  refine fn76 (w := drew w2) (hlay.far.keep ((Same.refl [] w2).drew) (by simp)) hF fun w3 hs3 => ⟨_, rfl, ?_⟩
  have hs3' : Same [] w2 w3 := hs3.of_drew
  have := hk w3 (hlay.nil (.inl rfl) hs3') (hs.trans hs3'.nil)
  refine BIF.mk (fun hc => OPW.panic (this.1 ?_)) fun hc => this.2 ?_
  · exact hc
  · exact hc

/-- the model's fault -/
theorem fn65 (h : Lay PR w p s ab ac af ds es) {op : Nat} (hop : op < 4) (hF : s.F.length ≤ 1000000)
    (hk : ∀ w', Lay PR w' p (s.bump op) ab ac af ds es → Same [p] w w' → K (.bool ((s.bump op).faulty op)) w') :
    FN Try.prog 65 #[.pointer (some ⟨p, 0, none⟩), .int .i64 (op : Int)] w K E := by
  have hcl := h.cl
  have hsl := h.sl
  have hb0 : Blk w p 46 (cellsOf ab ac af s.cnt s.snc) := h.blk
  have eop : (op : Int).toNat * 1 = op := by omega
  refine R65_ok (DRAW.mk (fun w' => Blk w' p 46 (cellsOf ab ac af s.cnt s.snc)) ?_)
  refine IDXA.mk' (by omega) (by omega) (HELD.ld hb0 (fun _ h => h) (v := .int .i64 (s.cnt.getD op 0)) (by rw [eop]; exact cells_cnt hcl hop) ⟨_, rfl, ?_⟩)
  refine IDXA.mk' (by omega) (by omega) (Lift.st (w := drew w) hb0 (by rw [cells_len hcl hsl]; omega) fun w1 hb1 hs1 hsz1 => ?_)
  rw [eop, cells_setcnt hcl hop] at hb1
  have hcl1 : (s.cnt.set op (IntKind.wrap .i64 (s.cnt.getD op 0 + 1))).length = 4 := by simp [hcl]
  refine DRAW.mk (fun w' => Blk w' p 46 (cellsOf ab ac af (s.cnt.set op (IntKind.wrap .i64 (s.cnt.getD op 0 + 1))) s.snc)) ?_
  refine IDXA.mk' (by omega) (by omega) (HELD.ld hb1 (fun _ h => h) (v := .int .i64 (s.snc.getD op 0)) (by rw [eop]; exact cells_snc hcl1 hsl hop) ⟨_, rfl, ?_⟩)
  refine IDXA.mk' (by omega) (by omega) (Lift.st (w := drew w1) hb1 (by rw [cells_len hcl1 hsl]; omega) fun w2 hb2 hs2 hsz2 => ?_)
  rw [eop, cells_setsnc hcl1 hsl hop] at hb2
  have hs : Same [p] w w2 := (hs1.of_drew).trans hs2.of_drew
  have hlay : Lay PR w2 p (s.bump op) ab ac af ds es := h.upd (.inr rfl) hs hb2 ((bumpL_len _ _).trans hcl) ((bumpL_len _ _).trans hsl)
  have hnf : af.2.1 = s.F.length := hlay.nf
  generalize hst : (s.bump op).snc.getD op 0 = tt at hk ⊢
  refine LOOP.mk (fun x w' => 0 ≤ x.1 ∧ x.1 ≤ s.F.length ∧ ((op : Int), tt) ∉ s.F.take x.1.toNat ∧ Same [] w2 w') (fun x _ => (s.F.length - x.1).toNat) ⟨by simp, by simp, by simp, Same.refl _ _⟩ ?_
  rintro ⟨i, _⟩ w3 ⟨h0, h1, hnot, hs3⟩ J
  simp only [] at h0 h1 hnot
  have hlay3 := hlay.nil (.inr rfl) hs3
  refine ld hlay3.blk rfl ⟨_, _, _, rfl, BIF.dec (fun hc => ?_) fun hc => ?_⟩
  · rw [hnf] at hc
    have hi : i.toNat < s.F.length := by omega
    obtain ⟨x, o, cs, ex, _, hbx, hlen, hget, _⟩ := hlay3.far.open (by omega)
    refine DRAW.mk (fun w' => Blk w' p 46 (cellsOf ab ac af (s.bump op).cnt (s.bump op).snc) ∧ Blk w' x 106 cs) ?_
    have hS : Blk (drew w3) p 46 (cellsOf ab ac af (s.bump op).cnt (s.bump op).snc) ∧ Blk (drew w3) x 106 cs := ⟨hlay3.blk, hbx⟩
    obtain ⟨f, hf⟩ : ∃ f, s.F[i.toNat]? = some f := ⟨s.F[i.toNat], List.getElem?_eq_getElem hi⟩
    have hp := pairs_get s.F i.toNat f hf
    have e : IntKind.wrap .i64 (i + 1) = i + 1 := wrap64 (by omega) (by omega)
    have e2 : (i + 1).toNat = i.toNat + 1 := by omega
    have next : f ≠ ((op : Int), tt) → ((0 ≤ i + 1 ∧ i + 1 ≤ (s.F.length : Int) ∧ ((op : Int), tt) ∉ s.F.take (i + 1).toNat ∧ Same [] w2 (drew w3)) ∧ (s.F.length - (i + 1)).toNat < (s.F.length - i).toNat) := fun hne =>
      ⟨⟨by omega, by omega, by rw [e2]; exact not_mem_take_succ hnot hf hne, hs3.drew⟩, by omega⟩
    refine HELD.ld hS (fun _ h => h.1) rfl ⟨_, _, _, rfl, ?_⟩
    refine IDX.at ex h0 (by omega) (HELD.ld hS (fun _ h => h.2) (v := .int .i64 f.1) (by rw [hget _ (by omega)]; exact hp.1) ⟨_, rfl, BIF.mk (fun he => ?_) fun he => ?_⟩)
    · refine HELD.ld hS (fun _ h => h.1) rfl ⟨_, _, _, rfl, ?_⟩
      refine IDX.at ex h0 (by omega) ?_
      rw [add_mk]
      refine HELD.ld hS (fun _ h => h.2) (v := .int .i64 f.2) (by rw [Nat.add_assoc, hget _ (by omega)]; exact hp.2) ⟨_, rfl, ?_⟩
      refine IDXA.mk' (by omega) (by omega) (HELD.ld hS (fun _ h => h.1) (v := .int .i64 tt) (by rw [eop, ← hst]; exact cells_snc hlay.cl hlay.sl hop) ⟨_, rfl, BIF.mk (fun he' => ?_) fun he' => ?_⟩)
      · have hin : ((op : Int), tt) ∈ s.F := by
          have : f = ((op : Int), tt) := Prod.ext (by simpa using he) (by simpa using he')
          exact this ▸ List.mem_of_getElem? hf
        have := hk (drew w3) (hlay3.nil (.inr rfl) (Same.refl [] w3).drew) (hs.trans hs3.drew.nil)
        have ht : (s.bump op).faulty op = true := by simp only [St.faulty, hst]; exact decide_eq_true hin
        rw [ht] at this
        exact this
      · simp only [e]; exact next fun e => by subst e; simp at he'
    · simp only [e]; exact next fun e => by subst e; simp at he
  · rw [hnf] at hc
    have : i.toNat = s.F.length := by omega
    rw [this, List.take_length] at hnot
    have := hk w3 hlay3 (hs.trans hs3.nil)
    have ht : (s.bump op).faulty op = false := by simp only [St.faulty, hst]; exact decide_eq_false hnot
    rw [ht] at this
    exact this

end
end Go.Proofs.Ytdabjchdmieegaa
