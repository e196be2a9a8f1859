/-
  RunsGrow, walked.
-/
import Derived.Test.YtdabjchdmieegaaU8
set_option linter.unusedVariables false
set_option linter.unusedSimpArgs false
set_option linter.unnecessarySimpa false
namespace Go.Proofs.Ytdabjchdmieegaa
open Go Go.Lift Go.RowKit
open Go.Runs (Rn runsOf setR cnt Of tot cov)

/-- Runs one behind another, from lo to s. -/
def Tile : Int → List Rn → Int → Prop
  | lo, [], s => lo = s
  | lo, x :: T, s => x.1 = lo ∧ 1 ≤ x.2 ∧ Tile (lo + x.2) T s
theorem Tile.snoc : ∀ {T : List Rn} {lo s n : Int}, Tile lo T s → 1 ≤ n → Tile lo (T ++ [(s, n)]) (s + n)
  | [], lo, s, n, h, hn => by simp only [Tile] at h; subst h; exact ⟨rfl, hn, rfl⟩
  | x :: T, lo, s, n, h, hn => ⟨h.1, h.2.1, Tile.snoc h.2.2 hn⟩
theorem Tile.le : ∀ {T : List Rn} {lo s : Int}, Tile lo T s → lo ≤ s
  | [], lo, s, h => by simp only [Tile] at h; omega
  | x :: T, lo, s, h => by have := Tile.le h.2.2; have := h.2.1; omega
theorem Tile.last : ∀ {T : List Rn} {lo s : Int}, Tile lo T s → ∀ y, T.getLast? = some y → y.1 + y.2 = s
  | [], lo, s, _, y, h => by simp at h
  | [x], lo, s, h, y, hy => by simp at hy; subst hy; have := h.1; have := h.2.2; simp only [Tile] at this; omega
  | x :: z :: T, lo, s, h, y, hy => Tile.last h.2.2 y (by simpa using hy)
theorem Tile.bound : ∀ {T : List Rn} {lo s : Int}, Tile lo T s → ∀ x ∈ T, lo ≤ x.1 ∧ 1 ≤ x.2 ∧ x.1 + x.2 ≤ s
  | x :: T, lo, s, h, y, hy => by
    have hl := Tile.le h.2.2
    have := h.1; have := h.2.1
    rcases List.mem_cons.1 hy with rfl | hy
    · omega
    · have := Tile.bound h.2.2 y hy; omega
def Apart (x y : Rn) : Prop := x.1 + x.2 ≤ y.1 ∨ y.1 + y.2 ≤ x.1
theorem Tile.apart : ∀ {T : List Rn} {lo s : Int}, Tile lo T s → T.Pairwise Apart
  | [], _, _, _ => .nil
  | x :: T, lo, s, h => .cons (fun y hy => by have := Tile.bound h.2.2 y hy; have := h.1; exact .inl (by omega)) (Tile.apart h.2.2)
theorem Tile.cover : ∀ {T : List Rn} {lo s : Int}, Tile lo T s → ∀ k, lo ≤ k → k < s → cov T k
  | [], lo, s, h, k, h1, h2 => by simp only [Tile] at h; omega
  | x :: T, lo, s, h, k, h1, h2 => by
    rw [Go.Runs.cov_cons]
    by_cases hk : k < lo + x.2
    · exact .inl ⟨by have := h.1; omega, by have := h.1; omega⟩
    · exact .inr (Tile.cover h.2.2 k (by omega) h2)

theorem eqGuard_int {op : BinOp} {t : TypeId} {x y : Operand} {k k' : IntKind} {a b : Int} : eqGuard op t x y (.int k a) (.int k' b) = pure () := by cases op <;> rfl
theorem run_rem {P : Program} {w : World} {t : TypeId} {x y : Operand} {k : IntKind} {a b : Int} (hb : b ≠ 0) : (sB .rem t (.int k a) (.int k b) (eqGuard .rem t x y (.int k a) (.int k b))).run P w = .ok (.value (.int k (Int.tmod a b))) w := by
  simp [sB, sV, eqGuard_int, binOp, Op.intDiv, hb]

section
variable {g w w' : World} {L R : List Asn}
variable {K : Value → World → Prop} {E : List PanicEntry → World → Prop}

/-- What is left behind s. -/
def tailOf (s : Int) : List Rn := real [(s, 200 - s)]
theorem tailOf_eq (s : Int) : tailOf s = if 200 - s = 0 then [] else [(s, 200 - s)] := by
  simp only [tailOf, real, List.filter_cons, List.filter_nil]
  by_cases h : 200 - s = 0 <;> simp [h]

theorem take_tail {p : Nat} {s n : Int} (h : SAT g w (runs p 200 (tailOf s) :: R)) (hs0 : 0 ≤ s) (hs : s ≤ 200) (hn : 1 ≤ n) (hn2 : n ≤ 9)
    (hk : ∀ w' (ok : Bool) (a s' : Int), SAT g w' (runs p 200 (tailOf s') :: R) → ok = decide (s + n ≤ 200) → (ok = true → a = s ∧ s' = s + n) → (ok = false → s' = s) → K (.tuple #[.int .i64 a, .bool ok]) w') :
    FN Try.prog 19 #[.pointer (some ⟨p, 0, none⟩), .int .i64 n] w K E := by
  have hX := tailOf_eq s
  have hmem : ∀ x ∈ tailOf s, x = (s, 200 - s) ∧ 200 - s ≠ 0 := fun x hx => by
    rw [hX] at hx
    split at hx
    · cases hx
    · exact ⟨List.mem_singleton.1 hx, ‹_›⟩
  refine fn19 h (by rw [hX]; split <;> simp) (fun x hx => by obtain ⟨rfl, h0⟩ := hmem x hx; simp only; omega) (fun hno w1 h1 => ?_) fun A x C hXe _ hnx _ w1 h1 => ?_
  · have : ¬ s + n ≤ 200 := by
      rcases hno with hno | hno
      · omega
      · by_cases h0 : 200 - s = 0
        · omega
        · have := hno (s, 200 - s) (by rw [hX, if_neg h0]; simp)
          simp only at this; omega
    exact hk w1 false 0 s h1 (by symm; simpa using this) (fun h => by cases h) fun _ => rfl
  · obtain ⟨rfl, h0⟩ := hmem x (by rw [hXe]; simp)
    rw [hX, if_neg h0] at hXe
    obtain ⟨rfl, rfl⟩ : A = [] ∧ C = [] := by
      cases A with
      | nil => simp at hXe; exact ⟨rfl, hXe⟩
      | cons y A => simp at hXe
    simp only at hnx h1
    refine hk w1 true s (s + n) ?_ (by symm; simp; omega) (fun _ => ⟨rfl, rfl⟩) fun h => by cases h
    have e : 200 - s - n = 200 - (s + n) := by omega
    rw [e] at h1
    simpa [tailOf] using h1

theorem tail_can {s : Int} (h0 : 0 ≤ s) (h : s ≤ 200) : Go.Runs.Can 0 (tailOf s) ∧ ∀ k, cov (tailOf s) k ↔ s ≤ k ∧ k < 200 := by
  rw [tailOf_eq]
  split
  · exact ⟨trivial, fun k => ⟨fun hc => absurd hc (Go.Runs.cov_nil k), fun hc => by omega⟩⟩
  · refine ⟨⟨h0, by simp only; omega, trivial⟩, fun k => ?_⟩
    rw [Go.Runs.cov_cons]
    have := Go.Runs.cov_nil k
    simp only [this, or_false]
    constructor <;> intro h <;> omega
theorem tail_of {s : Int} (h0 : 0 ≤ s) (h : s ≤ 200) : Of (tailOf s) (List.replicate s.toNat false ++ List.replicate (200 - s).toNat true) := by
  obtain ⟨h1, h2⟩ := tail_can h0 h
  refine ⟨h1, fun k => ?_⟩
  rw [h2]
  simp only [List.getElem?_append, List.length_replicate, List.getElem?_replicate]
  constructor
  · intro hk
    exact ⟨k.toNat, by omega, by rw [if_neg (by omega), if_pos (by omega)]⟩
  · rintro ⟨i, rfl, hi⟩
    by_cases h1 : i < s.toNat
    · simp [h1] at hi
    · rw [if_neg h1] at hi
      split at hi
      · omega
      · cases hi

/-- RunsGrow -/
theorem fn5 {ds do_ : D} {S0 O0 : List Int} (hs : IRow w 1 ds.1 ds.2.1 ds.2.2 (S0.flatMap u8v)) (hS : ∀ x ∈ S0, 0 ≤ x ∧ x < 256) (ho : IRow w 1 do_.1 do_.2.1 do_.2.2 (O0.flatMap u8v)) (hO : ∀ x ∈ O0, 0 ≤ x ∧ x < 256)
    (hk : ∀ w', Same [] w w' → K (.bool true) w') : FN Try.prog 5 #[sl ds, sl do_] w K E := by
  have hns := hs.elen u8v_len (by decide)
  have hno := ho.elen u8v_len (by decide)
  refine R5_ok (fn17 (SAT.start w) fun w1 h1 => ⟨_, rfl, BIF.no rfl ?_⟩)
  refine JOIN.mk (fun _ w' => w1 = w' ∧ S0.length ≤ 30 ∧ O0.length ≤ 100) ?_ ?_
  · exact BIF.dec (fun hc => hk w1 h1.fr) fun hc => BIF.dec (fun hc2 => hk w1 h1.fr) fun hc2 => ⟨rfl, by omega, by omega⟩
  rintro ⟨⟩ _ ⟨rfl, hS30, hO100⟩ J
  refine fn18 h1 fun w2 p h2 => ⟨_, rfl, eqlPtrNil ⟨_, rfl, BIF.no rfl ?_⟩⟩
  have e0 : (if (200 : Int) < 1 ∨ (200 : Int) > 8192 then (0 : Int) else 200) = 200 := by decide
  have e0' : (if (200 : Int) < 1 ∨ (200 : Int) > 8192 then ([] : List Rn) else [(0, 200)]) = tailOf 0 := by decide
  rw [e0, e0'] at h2
  refine LOOP.mk (fun x w' => 0 ≤ x.2.1 ∧ x.2.1 ≤ S0.length ∧ ∃ (T : List Rn) (s : Int), SAT w w' [row 56 2 x.1 (T.flatMap two), runs p 200 (tailOf s)] ∧ Tile 0 T s ∧ s ≤ 200 ∧ T.length ≤ x.2.1.toNat) (fun x _ => (S0.length - x.2.1).toNat)
    ⟨by simp, by simp, [], 0, h2.nilRow 56 2, rfl, by omega, by simp⟩ ?_
  rintro ⟨l, i, _⟩ w3 ⟨h0, hi, T, s, h3, hT, hs200, hTl⟩ J
  simp only [] at h0 hi h3 hTl
  have hl := (h3.rowAt l).elen two_len (by decide)
  have hs0 := hT.le
  refine BIF.dec (fun hc => ?_) fun hc => ?_
  · have hc : i < (S0.length : Int) := by rw [hns] at hc; exact hc
    obtain ⟨v, hv⟩ : ∃ v, S0[i.toNat]? = some v := ⟨S0[i.toNat], List.getElem?_eq_getElem (by omega)⟩
    have hvb := hS v (List.mem_of_getElem? hv)
    have e1 : IntKind.wrap .i64 (i + 1) = i + 1 := wrap64 (by omega) (by omega)
    have e2 : (i + 1).toNat = i.toNat + 1 := by omega
    have en : IntKind.wrap .i64 (1 + Int.tmod (IntKind.wrap .i64 v) 9) = 1 + v % 9 := by
      rw [wrap64 (x := v) (by omega) (by omega), Int.tmod_eq_emod_of_nonneg hvb.1, wrap64 (by omega) (by omega)]
    have hn1 : 1 ≤ 1 + v % 9 ∧ 1 + v % 9 ≤ 9 := by omega
    refine ilF0 (d := ds) (h3.irow hs) u8v_len h0 hv rfl ⟨_, rfl, ?_⟩
    rw [en]
    generalize 1 + v % 9 = n at *
    refine take_tail (h3.at (runs p 200 (tailOf s))) hs0 hs200 hn1.1 hn1.2 fun w4 ok a s' h4 hok hyes hno => ⟨_, _, rfl, ?_⟩
    have h4 : SAT w w4 [row 56 2 l (T.flatMap two), runs p 200 (tailOf s')] := h4.as
    refine JOIN.mk (fun _ w' => SAT w w' [row 56 2 l (T.flatMap two), runs p 200 (tailOf s')]) ?_ ?_
    · refine DRAW.sat h4 fun h4 => ?_
      have elast : (l.2.1 : Int) > 0 → ∃ y, T[((l.2.1 : Int) - 1).toNat]? = some y ∧ y.1 + y.2 = s := fun hz => by
        refine ⟨T[((l.2.1 : Int) - 1).toNat]'(by omega), List.getElem?_eq_getElem (by omega), hT.last _ ?_⟩
        rw [List.getLast?_eq_getElem?]
        have : ((l.2.1 : Int) - 1).toNat = T.length - 1 := by omega
        rw [← this]
        exact List.getElem?_eq_getElem (by omega)
      have e3 : IntKind.wrap .i64 ((l.2.1 : Int) - 1) = (l.2.1 : Int) - 1 := wrap64 (by omega) (by omega)
      rw [e3]
      refine BIF.mk (fun hz => ?_) fun hz => ?_
      · have hz : l.2.1 = 0 := by have : (l.2.1 : Int) = 0 := by simpa using hz
                                  omega
        have : T = [] := List.eq_nil_of_length_eq_zero (by omega)
        subst this
        have hs00 : s = 0 := hT.symm
        refine BIF.yes (by simp; omega) (BIF.no ?_ h4)
        rw [hok]; simp; omega
      · have hz : (l.2.1 : Int) > 0 := by have : ¬ (l.2.1 : Int) = 0 := by simpa using hz
                                          omega
        obtain ⟨y, hy, hys⟩ := elast hz
        have hby := hT.bound y (List.mem_of_getElem? hy)
        refine BIF.yes (by simp; omega) ?_
        refine helF0 (d := l) h4 (.head _) two_len (by omega) hy rfl ⟨_, rfl, helF (d := l) h4 (.head _) two_len (by omega) hy rfl ⟨_, rfl, BIF.no ?_ h4⟩⟩
        rw [wrap64 (x := y.1 + y.2) (by omega) (by omega), hys, wrap64 (by omega) (by omega), hok]
        simp
    rintro ⟨⟩ w5 h5 J
    refine BIF.mk (fun hb => ?_) fun hb => ?_
    · obtain ⟨rfl, rfl⟩ := hyes hb
      rw [hb] at hok
      have hle : a + n ≤ 200 := by simpa using hok.symm
      refine slit (xs := [(a, n)].flatMap two) h5 sb52 (items := [(0, .agg #[.int .i64 a, .int .i64 n])]) (hk := fun w6 b h6 => ⟨_, _, _, rfl, ?_⟩)
      refine sapp (d := l) (d2 := (some ⟨b, 0, none⟩, 1, 1)) sb52 (h6.at (row 56 2 l _)) (h6.rowAt (some ⟨b, 0, none⟩, 1, 1)).seen (enc_one two_one _) (by simp only []; omega) (by simp only [maxLen]; omega) rfl fun w7 a' c' h7 => ⟨_, _, _, rfl, ?_⟩
      rw [← List.flatMap_append] at h7
      simp only [e1]
      exact ⟨⟨by omega, by omega, T ++ [(a, n)], a + n, h7.as, hT.snoc hn1.1, hle, by simp; omega⟩, by omega⟩
    · obtain rfl := hno hb
      simp only [e1]
      exact ⟨⟨by omega, by omega, T, s', h5, hT, hs200, by omega⟩, by omega⟩
  · -- all taken
    have hcX : (tailOf s).length ≤ 1 := by rw [tailOf_eq]; split <;> simp
    have hbX : ∀ x ∈ tailOf s, 0 ≤ x.1 ∧ 1 ≤ x.2 ∧ x.1 + x.2 ≤ 1000000 := fun x hx => by have := (tail_of hs0 hs200).bound x hx; simp at this; omega
    refine fn20 (h3.at (runs p 200 (tailOf s))) (by omega) fun w4 c h4 => ⟨_, rfl, ?_⟩
    refine fn21 h4 (by omega) hbX fun w5 h5 => ⟨_, rfl, ?_⟩
    have hc0 : (0 : Int) ≤ 0 := by omega
    clear hs hS hc
    refine LOOP.mk (fun x w' => 0 ≤ x.1 ∧ x.1 ≤ T.length ∧ ∃ (T' X : List Rn) (F : List Bool), SAT w w' [row 56 2 l (T'.flatMap two), runs c 200 (tailOf s), runs p 200 X] ∧ T'.Perm T ∧ Of X F ∧ F.length = 200 ∧
        ∀ k, cov X k ↔ (s ≤ k ∧ k < 200) ∨ cov (T'.take x.1.toNat) k) (fun x _ => (T.length - x.1).toNat)
      ⟨by simp, by simp, T, tailOf s, _, h5.as, .refl _, tail_of hs0 hs200, by simp; omega, fun k => by rw [(tail_can hs0 hs200).2]; simp [Go.Runs.cov_nil]⟩ ?_
    rintro ⟨i, _⟩ w6 ⟨h0, hi, T', X, F, h6, hP, hoX, hF, hcov⟩ J
    simp only [] at h0 hi hcov
    have hTl' := hP.length_eq
    have hap : T'.Pairwise Apart := (hP.symm.pairwise_iff (fun {x y} h => Or.symm h)).1 hT.apart
    have hbd : ∀ x ∈ T', 0 ≤ x.1 ∧ 1 ≤ x.2 ∧ x.1 + x.2 ≤ s := fun x hx => hT.bound x (hP.mem_iff.1 hx)
    refine BIF.dec (fun hc => ?_) fun hc => ?_
    · have hc : i < (T'.length : Int) := by have : i < (l.2.1 : Int) := hc; omega
      have e1 : IntKind.wrap .i64 (i + 1) = i + 1 := wrap64 (by omega) (by omega)
      have e2 : (i + 1).toNat = i.toNat + 1 := by omega
      refine JOIN.mk (fun x w' => w6 = w' ∧ i ≤ x.1 ∧ x.1 < T'.length) ?_ ?_
      · refine BIF.dec (fun hq => ?_) fun hq => ⟨rfl, by simp only []; omega, hc⟩
        have hq : i < (O0.length : Int) := by rw [hno] at hq; exact hq
        obtain ⟨v, hv⟩ : ∃ v, O0[i.toNat]? = some v := ⟨O0[i.toNat], List.getElem?_eq_getElem (by omega)⟩
        have hvb := hO v (List.mem_of_getElem? hv)
        refine ilF0 (d := do_) (h6.irow ho) u8v_len h0 hv rfl ⟨_, rfl, ?_⟩
        have e4 : IntKind.wrap .i64 ((l.2.1 : Int) - i) = (l.2.1 : Int) - i := wrap64 (by omega) (by omega)
        rw [e4]
        have hpos : 0 < (l.2.1 : Int) - i := by omega
        refine OPW.of_run (run_rem (by omega)) ⟨_, rfl, rfl, ?_⟩
        rw [wrap64 (x := v) (by omega) (by omega), Int.tmod_eq_emod_of_nonneg hvb.1]
        have m1 := Int.emod_nonneg v (b := (l.2.1 : Int) - i) (by omega)
        have m2 := Int.emod_lt_of_pos v hpos
        generalize v % ((l.2.1 : Int) - i) = m at *
        rw [wrap64 (by omega) (by omega)]
        simp only []
        omega
      rintro ⟨k, _⟩ _ ⟨rfl, hk0, hk1⟩ J
      simp only [] at hk0 hk1
      obtain ⟨x, hx⟩ : ∃ x, T'[k.toNat]? = some x := ⟨T'[k.toNat], List.getElem?_eq_getElem (by omega)⟩
      obtain ⟨y, hy⟩ : ∃ y, T'[i.toNat]? = some y := ⟨T'[i.toNat], List.getElem?_eq_getElem (by omega)⟩
      refine DRAW.sat h6 fun h6 => helA (d := l) h6 (.head _) two_len (by omega) hx ⟨_, _, rfl, helA (d := l) h6 (.head _) two_len h0 hy ⟨_, _, rfl, ?_⟩⟩
      refine elStA (d := l) (f := two) (x' := x) h6 (.head _) two_len two_one h0 hc (by decide) fun w7 h7 => ?_
      refine elStA (d := l) (f := two) (x' := y) h7 (.head _) two_len two_one (by omega) (by simpa using hk1) (by decide) fun w8 h8 => ?_
      have hP2 : ((T'.set i.toNat x).set k.toNat y).Perm T' := by
        have ex : T'[k.toNat]'(by omega) = x := by have := List.getElem?_eq_getElem (l := T') (i := k.toNat) (by omega); rw [hx] at this; exact (Option.some.inj this).symm
        have ey : T'[i.toNat]'(by omega) = y := by have := List.getElem?_eq_getElem (l := T') (i := i.toNat) (by omega); rw [hy] at this; exact (Option.some.inj this).symm
        have := @List.set_set_perm _ T' i.toNat k.toNat (by omega) (by omega)
        rw [ex, ey] at this; exact this
      have htk : ((T'.set i.toNat x).set k.toNat y).take i.toNat = T'.take i.toNat := by
        rw [List.take_set_of_le (by omega), List.take_set_of_le (by omega)]
      have hxi : ((T'.set i.toNat x).set k.toNat y)[i.toNat]? = some x := by
        by_cases e : k.toNat = i.toNat
        · rw [e, List.getElem?_set_self (by simp; omega)]
          rw [e, hy] at hx; exact hx
        · rw [List.getElem?_set_ne (by omega), List.getElem?_set_self (by omega)]
      generalize (T'.set i.toNat x).set k.toNat y = U at *
      have hUl := hP2.length_eq
      have hapU : U.Pairwise Apart := (hP2.symm.pairwise_iff (fun {x y} h => Or.symm h)).1 hap
      have hbx := hbd x (hP2.mem_iff.1 (List.mem_of_getElem? hxi))
      have hfree : ∀ j, x.1 ≤ j → j < x.1 + x.2 → ¬ cov X j := fun j hj1 hj2 hcj => by
        rcases (hcov j).1 hcj with hcj | hcj
        · omega
        · rw [← htk] at hcj
          obtain ⟨z, hz, hz2⟩ := hcj
          have hsp := split_at hxi
          rw [hsp] at hapU
          rcases (List.pairwise_append.1 hapU).2.2 z hz x (.head _) with ha | ha <;> omega
      have hbXX : ∀ x ∈ X, 0 ≤ x.1 ∧ 1 ≤ x.2 ∧ x.1 + x.2 ≤ 200 := fun x hx => by have := hoX.bound x hx; omega
      have hXl := hoX.len
      refine DRAW.mk (fun w' => SRow w' 56 2 l.1 l.2.1 l.2.2 (U.flatMap two)) ?_
      have h8 := h8.drew
      refine HELD.elF0 (d := l) (h8.rowAt l) (fun _ h => h) two_len h0 hxi rfl ⟨_, rfl, HELD.elF (d := l) (h8.rowAt l) (fun _ h => h) two_len h0 hxi rfl ⟨_, rfl, ?_⟩⟩
      refine fn22 (a := x.1) (n := x.2) (h8.at (runs p 200 X)) (by omega) (by omega) hbXX (fun hh => by omega) (fun _ _ _ A C hsp hbad w9 h9 => ?_) fun _ _ _ A C hsp hl1 hl2 w9 h9 => ⟨_, rfl, h9.rowAt l, BIF.no rfl ?_⟩
      · obtain ⟨j, hj1, hj2, hj3⟩ := Go.Runs.give_no hoX.1 hsp hbx.2.1 hbad
        exact absurd hj3 (hfree j hj1 hj2)
      obtain ⟨hcan', hcov'⟩ := Go.Runs.can_give hoX.1 hsp hbx.1 hbx.2.1 hl1 hl2
      have ea : ((x.1.toNat : Nat) : Int) = x.1 := by omega
      have en : ((x.2.toNat : Nat) : Int) = x.2 := by omega
      have hoX' := Go.Runs.of_give (at_ := x.1.toNat) (n := x.2.toNat) hoX (by rw [ea]; exact hsp) (by omega) (by omega) (by rw [ea]; exact hl1) (by rw [ea, en]; exact hl2)
      rw [ea, en] at hoX'
      have hFl' := Go.Runs.setR_len (F := F) (at_ := x.1.toNat) (n := x.2.toNat) (b := true) (by omega)
      generalize (Go.Runs.joinL A x.1 x.2).1 ++ (Go.Runs.joinR C (Go.Runs.joinL A x.1 x.2).2 (x.1 + x.2)).2 :: (Go.Runs.joinR C (Go.Runs.joinL A x.1 x.2).2 (x.1 + x.2)).1 = X' at *
      have hbX' : ∀ x ∈ X', 0 ≤ x.1 ∧ 1 ≤ x.2 ∧ x.1 + x.2 ≤ 200 := fun x hx => by have := hoX'.bound x hx; omega
      have hXl' := hoX'.len
      have hdone : ∀ w', SAT w w' [row 56 2 l (U.flatMap two), runs c 200 (tailOf s), runs p 200 X'] → _ := fun w' h' => (⟨⟨by omega, by omega, U, X', _, h', hP2.trans hP, hoX', by omega, fun k => by
        rw [hcov', hcov, e2, List.take_add_one, hxi, Option.toList_some, Go.Runs.cov_append, htk, Go.Runs.cov_cons]
        have := Go.Runs.cov_nil k
        simp only [this, or_false]
        constructor
        · rintro ((h | h) | h)
          · exact .inl h
          · exact .inr (.inl h)
          · exact .inr (.inr h)
        · rintro (h | h | h)
          · exact .inl (.inl h)
          · exact .inl (.inr h)
          · exact .inr h⟩, by omega⟩ : (0 ≤ i + 1 ∧ i + 1 ≤ T.length ∧ ∃ (T' X : List Rn) (F : List Bool), SAT w w' [row 56 2 l (T'.flatMap two), runs c 200 (tailOf s), runs p 200 X] ∧ T'.Perm T ∧ Of X F ∧ F.length = 200 ∧
          ∀ k, cov X k ↔ (s ≤ k ∧ k < 200) ∨ cov (T'.take (i + 1).toNat) k) ∧ (T.length - (i + 1)).toNat < (T.length - i).toNat)
      refine HELD.elF0 (d := l) (h9.rowAt l) (fun _ h => h) two_len h0 hxi rfl ⟨_, rfl, HELD.elF (d := l) (h9.rowAt l) (fun _ h => h) two_len h0 hxi rfl ⟨_, rfl, ?_⟩⟩
      refine fn22 (a := x.1) (n := x.2) (h9.at (runs p 200 X')) (by omega) (by omega) hbX' (fun hh => by omega) (fun _ _ _ A C hsp hbad w10 h10 => ⟨_, rfl, BIF.no rfl ?_⟩) fun _ _ _ A C hsp hl1 hl2 w10 h10 => ?_
      · simp only [e1]
        exact hdone w10 h10.as
      · exfalso
        exact Go.Runs.give_yes hoX'.1 hsp hbx.2.1 hl1 hl2 (k := x.1) (Int.le_refl _) (by omega) ((hcov' x.1).2 (.inr ⟨Int.le_refl _, by omega⟩))
    · have hie : i.toNat = T'.length := by have : ¬ i < (l.2.1 : Int) := hc; omega
      rw [hie, List.take_length] at hcov
      have hXe : X = [(0, 200)] := by
        refine Go.Runs.can_unique hoX.1 (lo' := 0) ⟨Int.le_refl _, by decide, trivial⟩ fun k => ?_
        rw [hcov, Go.Runs.cov_cons]
        have := Go.Runs.cov_nil k
        simp only [this, or_false]
        constructor
        · rintro (h | ⟨z, hz, hz2⟩)
          · omega
          · have := hbd z hz; omega
        · intro h
          by_cases hks : s ≤ k
          · exact .inl ⟨hks, by omega⟩
          · obtain ⟨z, hz, hz2⟩ := hT.cover k (by omega) (by omega)
            exact .inr ⟨z, hP.mem_iff.2 hz, hz2⟩
      subst hXe
      refine fn23 (h6.at (runs p 200 [(0, 200)])) (by simp) fun w7 d h7 => ⟨_, _, _, rfl, ?_⟩
      have hl := (h7.rowAt d).elen two_len (by decide)
      refine BIF.yes (by rw [hl]; rfl) ?_
      refine elA (d := d) (X := [(0, 200)]) (x := (0, 200)) (h7.rowAt d) two_len (by decide) rfl ⟨_, _, rfl, ?_⟩
      refine OPW.of_run (run_eql2 (by kernel_rfl) _ _ _ _ _) ⟨_, rfl, BIF.yes rfl ?_⟩
      refine fn21 (h7.at (runs c 200 (tailOf s))) (by omega) hbX fun w8 h8 => ⟨_, rfl, ?_⟩
      rw [beq_self_eq_true]
      exact hk w8 h8.fr
end
end Go.Proofs.Ytdabjchdmieegaa

