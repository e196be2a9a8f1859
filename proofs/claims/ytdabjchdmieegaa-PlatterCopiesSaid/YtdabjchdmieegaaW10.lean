/-
  The model's Rot; the comparison of the two platters; one deed done to both.
-/
import Derived.Test.YtdabjchdmieegaaW9
set_option linter.unusedVariables false
namespace Go.Proofs.Ytdabjchdmieegaa
open Go Go.Lift Go.RowKit
section
variable {t : PT} {w w' : World} {p : Nat} {s : St} {ab ac af : D} {ds es : List D} {own : List Nat}
variable {K : Value → World → Prop} {E : List PanicEntry → World → Prop}

/-- The model's Rot. -/
theorem fn42 (h : Obj PR w p s own) {n bit : Int} {mask : Nat} (hm : mask < 2 ^ 32)
    (hk : ∀ w', Obj PR w' p (s.rot n bit mask).1 own → Same own w w' → K (.bool (s.rot n bit mask).2) w') :
    FN Try.prog 42 #[.pointer (some ⟨p, 0, none⟩), .int .i64 n, .int .i64 bit, .int .u32 (mask : Int)] w K E := by
  obtain ⟨ab, ac, af, ds, es, h, rfl⟩ := h
  have quit : (s.bad n || !decide (0 ≤ bit ∧ bit < 512)) = true → K (.bool false) w := by
    intro hbad
    have := hk w (by simp only [St.rot, if_pos hbad]; exact ⟨ab, ac, af, ds, es, h, rfl⟩) (Same.refl _ _)
    simpa only [St.rot, if_pos hbad] using this
  have hnb := h.nb
  refine R42_ok (JOIN.mk (fun _ w2 => w2 = w ∧ (s.bad n || !decide (0 ≤ bit ∧ bit < 512)) = false) ?_ ?_)
  · refine BIF.dec (fun hc => quit (by simp [St.bad]; omega)) fun hc => ?_
    refine ld h.blk rfl ⟨_, _, _, rfl, ?_⟩
    rw [hnb]
    refine BIF.dec (fun hd => quit (by simp [St.bad]; omega)) fun hd => BIF.dec (fun hc' => quit (by simp [St.bad]; omega)) fun hc' => BIF.dec (fun hc'' => quit (by simp [St.bad]; omega)) fun hc'' => ⟨rfl, ?_⟩
    simp [St.bad]; omega
  rintro _ w2 ⟨rfl, hgood⟩ J
  have hg := hgood
  simp only [Bool.or_eq_false_iff, St.bad, Bool.not_eq_false', decide_eq_true_eq] at hg
  obtain ⟨⟨hn0, hn1⟩, hb0, hb1⟩ := hg
  obtain ⟨b, rfl⟩ : ∃ b : Nat, bit = (b : Int) := ⟨bit.toNat, by omega⟩
  have hbn : b < 512 := by omega
  obtain ⟨d0, hd0, hr0, hm0, hx64⟩ := h.bAt (i := n.toNat) (by omega)
  obtain ⟨x, o, cs, ex, _, hbx, hlen, hget, _⟩ := h.arr.open (by have := h.nb; omega)
  generalize hX : s.B.getD n.toNat [] = X at hr0 hx64
  refine ld h.blk rfl ⟨_, _, _, rfl, IDX.at ex hn0 (by omega) (ld hbx (v := sl d0) (by rw [Nat.mul_one, hget _ (by omega)]; exact hm0) ⟨_, _, _, rfl, ?_⟩)⟩
  refine copyB hr0 (by omega) fun w3 d3 hr3 hs3 ho3 => ⟨_, _, _, rfl, ?_⟩
  refine JOIN.mk (fun _ w' => Same [] w2 w' ∧ Row 5 w' d3 (flip X b mask (min 32 (512 - b)))) ?_ ?_
  · refine LOOP.mk (fun x w' => 0 ≤ x.1 ∧ x.1 ≤ (min 32 (512 - b) : Nat) ∧ Same [] w2 w' ∧ Row 5 w' d3 (flip X b mask x.1.toNat)) (fun x _ => (32 - x.1).toNat)
      ⟨by simp, by simp only []; omega, hs3, hr3⟩ ?_
    rintro ⟨i, _⟩ w4 ⟨hi0, hi1, hs4, hr4⟩ J2
    simp only [] at hi0 hi1 hr4
    obtain ⟨k, rfl⟩ : ∃ k : Nat, i = (k : Int) := ⟨i.toNat, by omega⟩
    have ek : (k : Int).toNat = k := by omega
    rw [ek] at hr4
    have ebk : IntKind.wrap .i64 ((b : Int) + (k : Int)) = (b : Int) + (k : Int) := wrap64 (by omega) (by omega)
    refine JOIN.mk (fun _ w5 => w5 = w4 ∧ k < 32 ∧ b + k < 512) ?_ ?_
    · refine BIF.dec (fun hc => BIF.dec (fun hc' => ⟨rfl, ?_, ?_⟩) fun hc' => ⟨hs4, ?_⟩) fun hc => ⟨hs4, ?_⟩
      · have hc : (k : Int) < 32 := hc; omega
      · have hc' : IntKind.wrap .i64 ((b : Int) + (k : Int)) < 512 := hc'; rw [ebk] at hc'; omega
      · have hc' : ¬ IntKind.wrap .i64 ((b : Int) + (k : Int)) < 512 := hc'
        rw [ebk] at hc'
        have : k = min 32 (512 - b) := by omega
        rw [← this]; exact hr4
      · have hc : ¬ (k : Int) < 32 := hc
        have : k = min 32 (512 - b) := by omega
        rw [← this]; exact hr4
    rintro _ w5 ⟨rfl, hk32, hbk⟩ J3
    have e1 : IntKind.wrap .i64 ((k : Int) + 1) = (k : Int) + 1 := wrap64 (by omega) (by omega)
    have e2 : ((k : Int) + 1).toNat = k + 1 := by omega
    have euk : IntKind.wrap .u64 (k : Int) = (k : Int) := wrapu64 (by omega)
    have eum : IntKind.wrap .u64 (((b + k) % 8 : Nat) : Int) = (((b + k) % 8 : Nat) : Int) := wrapu64 (by omega)
    have hj : (b + k) / 8 < (flip X b mask k).length := by rw [flip_len, hx64]; omega
    obtain ⟨y, o2, cs2, ey, hoy, hby, hlen2, hget2, hset2⟩ := Row.byte hr4 hj
    have hdl := hr4.len
    have hjl : (((b + k) / 8 : Nat) : Int) < (d3.2.1 : Int) := by rw [hdl]; omega
    have ej : ((((b + k) / 8 : Nat) : Int)).toNat = (b + k) / 8 := by omega
    have hy : w2.heap.size ≤ y := ho3 y (by rw [hoy]; simp)
    simp only [idx8 hbn hk32, mod8 hbn hk32, euk, eum, e1]
    refine OPW.of_run (run_shr (by omega)) ⟨_, rfl, ?_⟩
    have hbit := shr_bit hm hk32
    have hbits : IntKind.bits .u32 = 32 := rfl
    rw [hbits, hbit]
    refine BIF.mk (fun hq => ?_) fun hq => ?_
    · have htb : mask.testBit k = true := by
        cases h : mask.testBit k
        · rw [h] at hq; simp at hq
        · rfl
      refine IDX.at ey (by omega) hjl (ld hby (v := bv ((flip X b mask k).getD ((b + k) / 8) 0)) (by rw [ej]; exact hget2) ⟨_, rfl, ?_⟩)
      refine OPW.of_run (run_shl (by omega)) ⟨_, rfl, ?_⟩
      have hbits8 : IntKind.bits .u8 = 8 := rfl
      have er : ((((b + k) % 8 : Nat) : Int)).toNat = (b + k) % 8 := by omega
      rw [hbits8, er, shl_bit (by omega), bits_xor]
      refine IDX.at ey (by omega) hjl (Lift.st (v := bv ((flip X b mask k).getD ((b + k) / 8) 0 ^^^ UInt8.ofNat (2 ^ ((b + k) % 8)))) hby (by rw [ej]; exact hlen2) fun w6 hb6 hs6 _ => ?_)
      rw [ej] at hb6
      simp only [e2]
      refine ⟨⟨by omega, by omega, hs4.then hs6 fun z hz => .inr (by rw [List.mem_singleton.1 hz]; exact hy), ?_⟩, by omega⟩
      have := hset2 w6 _ hb6
      simp only [flip, htb, if_true]
      exact this
    · have htb : mask.testBit k = false := by
        cases h : mask.testBit k
        · rfl
        · rw [h] at hq; simp at hq
      simp only [e2]
      refine ⟨⟨by omega, by omega, hs4, ?_⟩, by omega⟩
      simp only [flip, htb, Bool.false_eq_true, if_false]
      exact hr4
  · rintro _ w4 ⟨hs4, hr4⟩ J2
    have h4 := h.nil (.inr rfl) hs4
    refine ld h4.blk rfl ⟨_, _, _, rfl, rotEnd (.inr rfl) h4 hn0 hn1 hr4 (by rw [flip_len]; exact hx64) fun w5 ds5 h5 hs5 => ?_⟩
    have hg' : ¬ (s.bad n || !decide (0 ≤ (b : Int) ∧ (b : Int) < 512)) = true := by rw [hgood]; simp
    have eb : (b : Int).toNat = b := by omega
    have := hk w5 (by simp only [St.rot, if_neg hg', hX, eb]; exact ⟨ab, ac, af, ds5, es, h5, rfl⟩) (hs4.nil.trans (hs5.mono fun q hq => mem_own (List.mem_cons_of_mem _ hq)))
    simpa only [St.rot, if_neg hg'] using this

/-! ### The comparison -/
/-- same: two platters of one state. -/
theorem fn12 {m : Nat} {ownM : List Nat} (hP : Obj PP w p s own) (hM : Obj PR w m s ownM) (hc0 : s.cnt.getD 0 0 = 0) (hk : ∀ w', Same [] w w' → K (.bool true) w') :
    FN Try.prog 12 #[.pointer (some ⟨p, 0, none⟩), .pointer (some ⟨m, 0, none⟩)] w K E := by
  obtain ⟨ab, ac, af, ds, es, hp, rfl⟩ := hP
  obtain ⟨ab', ac', af', ds', es', hm, rfl⟩ := hM
  have key : ∀ {w'}, Same [] w w' → Lay PP w' p s ab ac af ds es ∧ Lay PR w' m s ab' ac' af' ds' es' := fun hs => ⟨hp.nil (.inl rfl) hs, hm.nil (.inr rfl) hs⟩
  have hdr : ∀ {w'}, Same [] w w' → Same [] w (drew w') := fun hs => hs.drew
  refine R12_ok (JOIN.mk (fun _ w' => Same [] w w') ?_ ?_)
  · refine DRAW.mk (fun w' => Blk w' m 46 (cellsOf ab' ac' af' s.cnt s.snc)) ?_
    have h1 := key (hdr (Same.refl [] w))
    refine HELD.ld h1.2.blk (fun _ h => h) rfl ⟨_, _, _, rfl, fn43 h1.1 ⟨_, rfl, h1.2.blk, BIF.no ?_ ?_⟩⟩
    · rw [hm.nb]; simp
    refine HELD.ld h1.2.blk (fun _ h => h) rfl ⟨_, _, _, rfl, fn14 h1.1 ⟨_, rfl, h1.2.blk, BIF.no ?_ ?_⟩⟩
    · rw [hm.nc]; simp
    exact hdr (Same.refl [] w)
  rintro _ w1 hs1 J
  refine LOOP.mk (fun x w' => 0 ≤ x.1 ∧ x.1 ≤ 4 ∧ Same [] w w') (fun x _ => (4 - x.1).toNat) ⟨by simp, by simp, hs1⟩ ?_
  rintro ⟨i, _⟩ w2 ⟨hi0, hi1, hs2⟩ J2
  simp only [] at hi0 hi1
  refine BIF.dec (fun hc => ?_) fun hc => ?_
  · have hc : i < 4 := hc
    have e1 : IntKind.wrap .i64 (i + 1) = i + 1 := wrap64 (by omega) (by omega)
    have h2 := key (hdr hs2)
    refine DRAW.mk (fun w' => Blk w' m 46 (cellsOf ab' ac' af' s.cnt s.snc)) ?_
    refine IDXA.mk' hi0 (by omega) (HELD.ld h2.2.blk (fun _ h => h) (v := .int .i64 (s.cnt.getD i.toNat 0)) (by rw [Nat.mul_one]; exact cells_cnt h2.2.cl (by omega)) ⟨_, rfl, ?_⟩)
    refine fn44 h2.1 hi0 ⟨_, rfl, h2.2.blk, BIF.no ?_ ?_⟩
    · by_cases h0 : 1 ≤ i ∧ i ≤ 3
      · rw [if_pos h0]; simp
      · rw [if_neg h0]
        have : i.toNat = 0 := by omega
        rw [this, hc0]; simp
    · simp only [e1]
      exact ⟨⟨by omega, by omega, hdr hs2⟩, by omega⟩
  · have h2 := key hs2
    refine fn44 h2.1 (by omega) ⟨_, rfl, ?_⟩
    rw [if_neg (by omega)]
    exact hk w2 hs2

end
end Go.Proofs.Ytdabjchdmieegaa
