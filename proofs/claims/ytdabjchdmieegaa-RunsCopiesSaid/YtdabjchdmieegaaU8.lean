/-
  RunsCopies, walked.
-/
import Derived.Test.YtdabjchdmieegaaU7
set_option linter.unusedVariables false
set_option linter.unusedSimpArgs false
set_option linter.unnecessarySimpa false
namespace Go.Proofs.Ytdabjchdmieegaa
open Go Go.Lift Go.RowKit
open Go.Runs (Rn runsOf setR cnt Of tot)
section
variable {g w w' : World} {L R : List Asn}
variable {K : Value → World → Prop} {E : List PanicEntry → World → Prop}

theorem setR_one {F : List Bool} {k : Nat} {b : Bool} (h : k < F.length) : setR F k 1 b = F.set k b := by
  have := setR_step (F := F) (a := k) (k := 0) (b := b) (by omega)
  rw [setR_zero] at this
  exact this.symm
theorem set_id {F : List Bool} {k : Nat} {b : Bool} (h : F[k]? = some b) : F.set k b = F := by
  apply List.ext_getElem?
  intro j
  rw [List.getElem?_set]
  split
  · rename_i e
    subst e
    obtain ⟨hk, e⟩ := List.getElem?_eq_some_iff.1 h
    rw [if_pos hk, h]
  · rfl

/-- One block marked. -/
theorem mark1 {p : Nat} {B k : Int} {X : List Rn} {F : List Bool} {b : Bool} (h : SAT g w (runs p B X :: R)) (ho : Of X F) (hFB : (F.length : Int) = B) (hB : B ≤ 10000) (h0 : 0 ≤ k) (hb : F[k.toNat]? = some b)
    (hk : ∀ w' X', SAT g w' (runs p B X' :: R) → Of X' (F.set k.toNat false) → K (.bool b) w') :
    FN Try.prog 26 #[.pointer (some ⟨p, 0, none⟩), .int .i64 k, .int .i64 1] w K E := by
  have hkl := (List.getElem?_eq_some_iff.1 hb).1
  have hXl := ho.len
  have ek : ((k.toNat : Nat) : Int) = k := by omega
  refine fn26 h (by omega) (by omega) (fun x hx => by have := ho.bound x hx; omega) (fun hno w1 h1 => ?_) fun A y C hX ha hn1 hy1 hy2 w1 h1 => ?_
  · cases b with
    | true =>
      exfalso
      obtain ⟨x, hx, hx2⟩ := (ho.2 k).2 ⟨k.toNat, by omega, hb⟩
      rcases hno with hno | hno
      · omega
      · exact hno x hx (by omega)
    | false => exact hk w1 X h1 (by rw [set_id hb]; exact ho)
  · obtain ⟨j, hj, hF⟩ := (ho.2 k).1 ⟨y, by rw [hX]; simp, by omega, by omega⟩
    have : k.toNat = j := by omega
    rw [this, hF] at hb
    cases hb
    rw [hX] at ho
    have o1 := Go.Runs.of_mark (at_ := k.toNat) (n := 1) ho (by omega) (by omega) (by omega) (by omega)
    rw [ek] at o1
    refine hk w1 _ h1 ?_
    rw [← setR_one (by omega)]
    exact o1

/-- One block given. -/
theorem give1 {p : Nat} {B k : Int} {X : List Rn} {F : List Bool} {b : Bool} (h : SAT g w (runs p B X :: R)) (ho : Of X F) (hFB : (F.length : Int) = B) (hB : B ≤ 10000) (h0 : 0 ≤ k) (hb : F[k.toNat]? = some b)
    (hk : ∀ w' X', SAT g w' (runs p B X' :: R) → Of X' (F.set k.toNat true) → K (.bool (!b)) w') :
    FN Try.prog 22 #[.pointer (some ⟨p, 0, none⟩), .int .i64 k, .int .i64 1] w K E := by
  have hkl := (List.getElem?_eq_some_iff.1 hb).1
  have hXl := ho.len
  have ek : ((k.toNat : Nat) : Int) = k := by omega
  refine fn22 h (by omega) (by omega) (fun x hx => by have := ho.bound x hx; omega) (fun hno => by omega) (fun _ _ _ A C hsp hbad w1 h1 => ?_) fun _ _ _ A C hsp hl1 hl2 w1 h1 => ?_
  · obtain ⟨j, hj1, hj2, hjc⟩ := Go.Runs.give_no ho.1 hsp (by omega) hbad
    obtain ⟨i, hi, hF⟩ := (ho.2 j).1 hjc
    have : k.toNat = i := by omega
    rw [this, hF] at hb
    cases hb
    refine hk w1 X h1 ?_
    rw [this, set_id hF]; exact ho
  · have hnc := Go.Runs.give_yes ho.1 hsp (by omega) hl1 hl2 (k := k) (by omega) (by omega)
    cases b with
    | true => exact absurd ((ho.2 k).2 ⟨k.toNat, by omega, hb⟩) hnc
    | false =>
      have o1 := Go.Runs.of_give (at_ := k.toNat) (n := 1) ho (by rw [ek]; exact hsp) (by omega) (by omega) (by rw [ek]; exact hl1) (by rw [ek]; exact hl2)
      rw [ek] at o1
      refine hk w1 _ h1 ?_
      rw [← setR_one (by omega)]
      exact o1

/-! ### Arrays of flags -/
theorem axF {P : Program} {t : TypeId} {b len : Nat} {T : TypeId} {G : List Bool} {x : Bool} {i : Int} (h : Blk w b T (G.flatMap bl)) (lo : 0 ≤ i) (hx : G[i.toNat]? = some x) (hl : G.length = len) (hk : K (.bool x) w) (ht : aggB P t = some false := by kernel_rfl) :
    IDXA 1 len ⟨b, 0, none⟩ i fun a => OPW P (sV (Instr.loadAt t (.pointer (some a)))) w K E := by
  have hi := (List.getElem?_eq_some_iff.1 hx).1
  refine IDXA.mk' lo (by omega) (ld h ?_ hk ht)
  have := enc_at (j := 0) bl_len hx (by decide)
  rw [Nat.zero_add]; exact this
theorem haxF {P : Program} {S : World → World → Prop} {φ : Value → Prop} {t : TypeId} {b len : Nat} {T : TypeId} {G : List Bool} {x : Bool} {i : Int} (hS : S w w) (h : ∀ w', S w w' → Blk w' b T (G.flatMap bl)) (lo : 0 ≤ i) (hx : G[i.toNat]? = some x) (hl : G.length = len) (hk : φ (.bool x)) (ht : aggB P t = some false := by kernel_rfl) :
    IDXA 1 len ⟨b, 0, none⟩ i fun a => HELD P S (sV (Instr.loadAt t (.pointer (some a)))) w φ := by
  have hi := (List.getElem?_eq_some_iff.1 hx).1
  refine IDXA.mk' lo (by omega) (HELD.ld hS h ?_ hk ht)
  have := enc_at (j := 0) bl_len hx (by decide)
  rw [Nat.zero_add]; exact this
theorem axSt {P : Program} {t : TypeId} {b len : Nat} {T : TypeId} {G : List Bool} {x : Bool} {i : Int} (h : SAT g w L) (hu : Upd (cel b T (G.flatMap bl)) (cel b T ((G.set i.toNat x).flatMap bl)) L R) (lo : 0 ≤ i) (hi : i < (len : Int)) (hl : G.length = len) (hk : ∀ w', SAT g w' R → K undef w') (hn : (P.info? t).map (·.size) = some 1 := by kernel_rfl) :
    IDXA 1 len ⟨b, 0, none⟩ i fun a => OPW P (sU (Instr.storeAt t (.pointer (some a)) (.bool x))) w K E := by
  refine IDXA.mk' lo hi ?_
  rw [Nat.zero_add]
  obtain ⟨y, hy⟩ : ∃ y, G[i.toNat]? = some y := ⟨G[i.toNat], List.getElem?_eq_getElem (by omega)⟩
  have e := enc_setj (f := bl) (sz := 1) (j := 0) (x' := x) (v := .bool x) bl_len hy (by decide) rfl
  rw [Nat.add_zero] at e
  rw [← e] at hu
  exact sst h hu (by rw [enc_len bl_len]; omega) hk rfl rfl hn

theorem not_set {G : List Bool} {k : Nat} {b : Bool} : (G.set k b).map (!·) = (G.map (!·)).set k (!b) := by simp [List.map_set]
theorem mod50 {v : Int} (h0 : 0 ≤ v) (h1 : v < 256) : Int.tmod (IntKind.wrap .i64 v) 50 = v % 50 ∧ 0 ≤ v % 50 ∧ v % 50 < 50 := by
  rw [wrap64 (by omega) (by omega), Int.tmod_eq_emod_of_nonneg h0]
  omega

theorem zero68 : zeroB Try.prog 68 = some (.agg (List.replicate 50 (.bool false)).toArray) := by kernel_rfl

/-- RunsCopies -/
theorem fn7 {dm dg : D} {M G0 : List Int} (hm : IRow w 1 dm.1 dm.2.1 dm.2.2 (M.flatMap u8v)) (hM : ∀ x ∈ M, 0 ≤ x ∧ x < 256) (hg : IRow w 1 dg.1 dg.2.1 dg.2.2 (G0.flatMap u8v)) (hG : ∀ x ∈ G0, 0 ≤ x ∧ x < 256)
    (hk : ∀ w', Same [] w w' → K (.bool true) w') : FN Try.prog 7 #[sl dm, sl dg] w K E := by
  have hnm := hm.elen u8v_len (by decide)
  have hng := hg.elen u8v_len (by decide)
  refine R7_ok (fn17 (SAT.start w) fun w1 h1 => ⟨_, rfl, BIF.no rfl ?_⟩)
  refine JOIN.mk (fun _ w' => w1 = w' ∧ M.length ≤ 60 ∧ G0.length ≤ 60) ?_ ?_
  · exact BIF.dec (fun hc => hk w1 h1.fr) fun hc => BIF.dec (fun hc2 => hk w1 h1.fr) fun hc2 => ⟨rfl, by omega, by omega⟩
  rintro ⟨⟩ _ ⟨rfl, hM60, hG60⟩ J
  refine fn18 h1 fun w2 p h2 => ⟨_, rfl, eqlPtrNil ⟨_, rfl, BIF.no rfl ?_⟩⟩
  have e0 : (if (50 : Int) < 1 ∨ (50 : Int) > 8192 then (0 : Int) else 50) = 50 := by decide
  have e0' : (if (50 : Int) < 1 ∨ (50 : Int) > 8192 then ([] : List Rn) else [(0, 50)]) = [(0, 50)] := by decide
  rw [e0, e0'] at h2
  refine salloc (cs := (List.replicate 50 false).flatMap bl) h2 zero68 (by rw [enc_rep (f := bl) (x := false) rfl]; simp [Value.cells]) fun w3 tk h3 => ⟨_, rfl, ?_⟩
  refine LOOP.mk (fun s w' => 0 ≤ s.2.1 ∧ s.2.1 ≤ M.length ∧ ∃ (X : List Rn) (G : List Bool), SAT w w' [cel tk 68 (G.flatMap bl), runs p 50 X] ∧ Of X (G.map (!·)) ∧ G.length = 50 ∧ s.1 = (G.count false : Int)) (fun s _ => (M.length - s.2.1).toNat)
    ⟨by simp, by simp, [(0, 50)], List.replicate 50 false, h3, ?_, by simp, by simp⟩ ?_
  · have := of_new (B := 50) (by decide)
    simpa using this
  rintro ⟨n, i, _⟩ w4 ⟨h0, hi, X, G, h4, ho, hGl, hn⟩ J
  simp only [] at h0 hi hn
  refine BIF.dec (fun hc => ?_) fun hc => ?_
  · have hc : i < (M.length : Int) := by rw [hnm] at hc; exact hc
    obtain ⟨v, hv⟩ : ∃ v, M[i.toNat]? = some v := ⟨M[i.toNat], List.getElem?_eq_getElem (by omega)⟩
    have hvb := hM v (List.mem_of_getElem? hv)
    have e1 : IntKind.wrap .i64 (i + 1) = i + 1 := wrap64 (by omega) (by omega)
    obtain ⟨ek, hk0, hk1⟩ := mod50 hvb.1 hvb.2
    refine ilF0 (d := dm) (h4.irow hm) u8v_len h0 hv rfl ⟨_, rfl, ?_⟩
    rw [ek]
    generalize v % 50 = k at *
    obtain ⟨b, hb⟩ : ∃ b, G[k.toNat]? = some b := ⟨G[k.toNat], List.getElem?_eq_getElem (by omega)⟩
    refine DRAW.mk (fun w' => Blk w' tk 68 (G.flatMap bl)) ?_
    have h4 := h4.drew
    refine haxF (h4.celAt tk) (fun _ h => h) hk0 hb hGl ⟨_, rfl, ?_⟩
    refine mark1 (h4.at (runs p 50 X)) ho (by simp [hGl]) (by omega) hk0 (by rw [List.getElem?_map, hb]; rfl) fun w5 X' h5 ho' => ⟨_, rfl, h5.celAt tk, BIF.no (by cases b <;> rfl) ?_⟩
    refine axF (h5.celAt tk) hk0 hb hGl ⟨_, rfl, ?_⟩
    have hcount := List.count_set (l := G) (i := k.toNat) (a := true) (b := false) (by omega)
    have hgk : G[k.toNat]'(by omega) = b := by
      have := List.getElem?_eq_getElem (l := G) (i := k.toNat) (by omega)
      rw [hb] at this; exact (Option.some.inj this).symm
    rw [hgk] at hcount
    have hpos : b = false → 0 < G.count false := fun e => List.count_pos_iff.2 (by rw [← e]; exact List.mem_of_getElem? hb)
    have hcl : G.count false ≤ G.length := List.count_le_length
    have ho2 : Of X' ((G.set k.toNat true).map (!·)) := by rw [not_set]; exact ho'
    refine BIF.mk (fun hq => ?_) fun hq => ?_
    · have hbf : b = false := by simpa using hq
      have := hpos hbf
      rw [hbf] at hcount
      simp at hcount
      have e3 : IntKind.wrap .i64 (n - 1) = n - 1 := wrap64 (by omega) (by omega)
      refine axSt (x := true) h5 (.tail (.head _)) hk0 (by omega) hGl fun w6 h6 => ?_
      simp only [e1, e3]
      exact ⟨⟨by omega, by omega, X', _, h6.as, ho2, by simpa using hGl, by omega⟩, by omega⟩
    · have hbt : b = true := by simpa using hq
      rw [hbt] at hcount
      simp at hcount
      refine axSt (x := true) h5 (.tail (.head _)) hk0 (by omega) hGl fun w6 h6 => ?_
      simp only [e1]
      exact ⟨⟨by omega, by omega, X', _, h6.as, ho2, by simpa using hGl, by omega⟩, by omega⟩
  · have hn0 : 0 ≤ n := by omega
    have hXl := ho.len
    have hGm : (G.map (!·)).length = 50 := by simp [hGl]
    refine fn20 (h4.at (runs p 50 X)) (by omega) fun w5 c h5 => ⟨_, rfl, ?_⟩
    have hlen : (G.flatMap bl).length = 50 := by rw [enc_len bl_len, hGl]
    refine ldA (vs := G.flatMap bl) (h5.celAt tk) (by rw [List.drop_zero, List.take_of_length_le (Nat.le_of_eq hlen)]) hlen ?_
    refine newA (vs := G.flatMap bl) h5 (fun w6 was h6 => ?_) (by rw [hlen]; kernel_rfl) (List.all_eq_true.2 (enc_one bl_one G)) (by rw [hlen]; kernel_rfl)
    clear hm hM
    refine LOOP.mk (fun s w' => 0 ≤ s.1 ∧ s.1 ≤ G0.length ∧ ∃ (X' : List Rn) (H : List Bool), SAT w w' [cel was 68 (G.flatMap bl), runs c 50 X, cel tk 68 (H.flatMap bl), runs p 50 X'] ∧ Of X' (H.map (!·)) ∧ H.length = 50) (fun s _ => (G0.length - s.1).toNat)
      ⟨by simp, by simp, X, G, h6.as, ho, hGl⟩ ?_
    rintro ⟨i, _⟩ w7 ⟨h0, hi, X', H, h7, ho', hHl⟩ J
    simp only [] at h0 hi
    refine BIF.dec (fun hc => ?_) fun hc => ?_
    · have hc : i < (G0.length : Int) := by rw [hng] at hc; exact hc
      obtain ⟨v, hv⟩ : ∃ v, G0[i.toNat]? = some v := ⟨G0[i.toNat], List.getElem?_eq_getElem (by omega)⟩
      have hvb := hG v (List.mem_of_getElem? hv)
      have e1 : IntKind.wrap .i64 (i + 1) = i + 1 := wrap64 (by omega) (by omega)
      obtain ⟨ek, hk0, hk1⟩ := mod50 hvb.1 hvb.2
      refine ilF0 (d := dg) (h7.irow hg) u8v_len h0 hv rfl ⟨_, rfl, ?_⟩
      rw [ek]
      generalize v % 50 = k at *
      obtain ⟨b, hb⟩ : ∃ b, H[k.toNat]? = some b := ⟨H[k.toNat], List.getElem?_eq_getElem (by omega)⟩
      refine DRAW.mk (fun w' => Blk w' tk 68 (H.flatMap bl)) ?_
      have h7 := h7.drew
      refine haxF (h7.celAt tk) (fun _ h => h) hk0 hb hHl ⟨_, rfl, ?_⟩
      refine give1 (h7.at (runs p 50 X')) ho' (by simp [hHl]) (by omega) hk0 (by rw [List.getElem?_map, hb]; rfl) fun w8 X2 h8 ho2 => ⟨_, rfl, h8.celAt tk, BIF.no (by cases b <;> rfl) ?_⟩
      refine axSt (x := false) h8 (.tail (.tail (.tail (.head _)))) hk0 (by omega) hHl fun w9 h9 => ?_
      simp only [e1]
      exact ⟨⟨by omega, by omega, X2, _, h9.as, by rw [not_set]; exact ho2, by simpa using hHl⟩, by omega⟩
    · refine LOOP.mk (fun s w' => 0 ≤ s.1 ∧ s.1 ≤ 50 ∧ ∃ (Y Z : List Rn) (A B : List Bool), SAT w w' [cel was 68 (G.flatMap bl), runs c 50 Y, cel tk 68 (H.flatMap bl), runs p 50 Z] ∧ Of Y A ∧ A.length = 50 ∧ Of Z B ∧ B.length = 50 ∧
          (∀ j : Nat, j < s.1.toNat → A[j]? = some false ∧ B[j]? = some false) ∧ ∀ j : Nat, s.1.toNat ≤ j → A[j]? = (G.map (!·))[j]? ∧ B[j]? = (H.map (!·))[j]?) (fun s _ => (50 - s.1).toNat)
        ⟨by simp, by simp, X, X', _, _, h7, ho, hGm, ho', by simp [hHl], fun j hj => by simp at hj, fun j _ => ⟨rfl, rfl⟩⟩ ?_
      clear ho ho' hc
      rintro ⟨k, _⟩ w8 ⟨hk0, hk1, Y, Z, A, B, h8, hoY, hA, hoZ, hB, hlo, hhi⟩ J
      simp only [] at hk0 hk1 hlo hhi
      refine BIF.dec (fun hc => ?_) fun hc => ?_
      · have hc : k < 50 := hc
        have e1 : IntKind.wrap .i64 (k + 1) = k + 1 := wrap64 (by omega) (by omega)
        have e2 : (k + 1).toNat = k.toNat + 1 := by omega
        obtain ⟨b, hb⟩ : ∃ b, G[k.toNat]? = some b := ⟨G[k.toNat], List.getElem?_eq_getElem (by omega)⟩
        obtain ⟨b', hb'⟩ : ∃ b', H[k.toNat]? = some b' := ⟨H[k.toNat], List.getElem?_eq_getElem (by omega)⟩
        obtain ⟨a1, a2⟩ := hhi k.toNat (Nat.le_refl _)
        rw [List.getElem?_map, hb] at a1
        rw [List.getElem?_map, hb'] at a2
        refine DRAW.mk (fun w' => Blk w' was 68 (G.flatMap bl) ∧ Blk w' tk 68 (H.flatMap bl)) ?_
        have h8 := h8.drew
        refine haxF ⟨h8.celAt was, h8.celAt tk⟩ (fun _ h => h.1) hk0 hb hGl ⟨_, rfl, ?_⟩
        refine mark1 (h8.at (runs c 50 Y)) hoY (by omega) (by omega) hk0 a1 fun w9 Y' h9 hoY' => ⟨_, rfl, ⟨h9.celAt was, h9.celAt tk⟩, BIF.no (by cases b <;> rfl) ?_⟩
        refine haxF ⟨h9.celAt was, h9.celAt tk⟩ (fun _ h => h.2) hk0 hb' hHl ⟨_, rfl, ?_⟩
        refine mark1 (h9.at (runs p 50 Z)) hoZ (by omega) (by omega) hk0 a2 fun w10 Z' h10 hoZ' => ⟨_, rfl, ⟨h10.celAt was, h10.celAt tk⟩, BIF.no (by cases b' <;> rfl) ?_⟩
        simp only [e1]
        refine ⟨⟨by omega, by omega, Y', Z', _, _, h10.as, hoY', by simpa using hA, hoZ', by simpa using hB, fun j hj => ?_, fun j hj => ?_⟩, by omega⟩
        · by_cases e : j = k.toNat
          · subst e; exact ⟨List.getElem?_set_self (by omega), List.getElem?_set_self (by omega)⟩
          · rw [List.getElem?_set_ne (by omega), List.getElem?_set_ne (by omega)]; exact hlo j (by omega)
        · rw [List.getElem?_set_ne (by omega), List.getElem?_set_ne (by omega)]; exact hhi j (by omega)
      · have hk50 : k.toNat = 50 := by omega
        have hnil : ∀ (Y : List Rn) (A : List Bool), Of Y A → A.length = 50 → (∀ j, j < 50 → A[j]? = some false) → Y = [] := fun Y A hoY hA hj => by
          cases Y with
          | nil => rfl
          | cons y Y =>
            obtain ⟨j, e, hF⟩ := (hoY.2 y.1).1 ⟨y, .head _, Int.le_refl _, by have := hoY.1.2.1; omega⟩
            have h2 := (List.getElem?_eq_some_iff.1 hF).1
            have h3 := hj j (by omega)
            rw [h3] at hF; cases hF
        obtain rfl := hnil Y A hoY hA fun j hj => (hlo j (by omega)).1
        obtain rfl := hnil Z B hoZ hB fun j hj => (hlo j (by omega)).2
        refine fn21 (h8.at (runs c 50 [])) (by simp) (by simp) fun w9 h9 => ⟨_, rfl, BIF.yes rfl ?_⟩
        refine fn21 (h9.at (runs p 50 [])) (by simp) (by simp) fun w10 h10 => ⟨_, rfl, BIF.yes rfl ?_⟩
        refine fn23 (h10.at (runs c 50 [])) (by simp) fun w11 d h11 => ⟨_, _, _, rfl, ?_⟩
        have hl := (h11.rowAt d).elen two_len (by decide)
        refine BIF.yes (by rw [hl]; rfl) (BIF.yes (decide_eq_true hn0) ?_)
        exact fn30 (h11.at (runs c 50 [])) (by simp) fun w12 h12 => ⟨_, rfl, hk w12 h12.fr⟩
end
end Go.Proofs.Ytdabjchdmieegaa

