/-
  Rot, of both platters.
-/
import Derived.Test.YtdabjchdmieegaaW8
set_option linter.unusedVariables false
namespace Go.Proofs.Ytdabjchdmieegaa
open Go Go.Lift Go.RowKit

/-! ### Bits -/
theorem ofInt_u8 (z : UInt8) : BitVec.ofInt 8 (z.toNat : Int) = z.toBitVec := by
  apply BitVec.eq_of_toNat_eq
  have : (z.toNat : Int) % 256 = z.toNat := by have := z.toNat_lt; omega
  simp [this]
theorem bits_xor (x y : UInt8) : bits .xor .u8 (x.toNat : Int) (y.toNat : Int) = ((x ^^^ y).toNat : Int) := by
  show IntKind.wrap .u8 ((BitVec.ofInt 8 (x.toNat : Int) ^^^ BitVec.ofInt 8 (y.toNat : Int)).toNat : Int) = _
  rw [ofInt_u8, ofInt_u8, IntKind.wrap_u8]
  have h : (x.toBitVec ^^^ y.toBitVec).toNat = (x ^^^ y).toNat := rfl
  rw [h]
  have := (x ^^^ y).toNat_lt
  omega
theorem bits_and1 {v : Nat} (hv : v < 2 ^ 32) : bits .and .u32 (v : Int) 1 = ((v % 2 : Nat) : Int) := by
  show IntKind.wrap .u32 ((BitVec.ofInt 32 (v : Int) &&& BitVec.ofInt 32 1).toNat : Int) = _
  have h1 : (BitVec.ofInt 32 (v : Int)).toNat = v := by
    simp
    omega
  have h2 : (BitVec.ofInt 32 (1 : Int)).toNat = 1 := by decide
  rw [BitVec.toNat_and, h1, h2, Nat.and_one_is_mod, IntKind.wrap_u32]
  omega

def flip (x : List UInt8) (bit mask : Nat) : Nat → List UInt8
  | 0 => x
  | i + 1 => if mask.testBit i then (flip x bit mask i).set ((bit + i) / 8) ((flip x bit mask i).getD ((bit + i) / 8) 0 ^^^ UInt8.ofNat (2 ^ ((bit + i) % 8))) else flip x bit mask i
theorem flip_len (x : List UInt8) (bit mask i : Nat) : (flip x bit mask i).length = x.length := by
  induction i with
  | zero => rfl
  | succ i ih => simp only [flip]; split <;> simp [ih]

theorem shr_bit {mask : Nat} (hm : mask < 2 ^ 32) {i : Nat} (hi : i < 32) : bits .and .u32 ((mask : Int).fdiv (2 ^ min ((i : Int).toNat) 32)) 1 = if mask.testBit i then 1 else 0 := by
  have e : min ((i : Int).toNat) 32 = i := by omega
  have e2 : (mask : Int).fdiv (2 ^ i) = ((mask / 2 ^ i : Nat) : Int) := by
    rw [Int.fdiv_eq_ediv_of_nonneg _ (Int.le_of_lt (Int.pow_pos (by omega)))]
    simp
  rw [e, e2, bits_and1 (Nat.lt_of_le_of_lt (Nat.div_le_self _ _) hm), ← Nat.toNat_testBit]
  cases mask.testBit i <;> rfl

theorem pow8 {r : Nat} (hr : r < 8) : (UInt8.ofNat (2 ^ r)).toNat = 2 ^ r := by
  have : r = 0 ∨ r = 1 ∨ r = 2 ∨ r = 3 ∨ r = 4 ∨ r = 5 ∨ r = 6 ∨ r = 7 := by omega
  rcases this with rfl | rfl | rfl | rfl | rfl | rfl | rfl | rfl <;> rfl
theorem shl_bit {r : Nat} (hr : r < 8) : IntKind.wrap .u8 (1 * 2 ^ min r 8) = ((UInt8.ofNat (2 ^ r)).toNat : Int) := by
  have : r = 0 ∨ r = 1 ∨ r = 2 ∨ r = 3 ∨ r = 4 ∨ r = 5 ∨ r = 6 ∨ r = 7 := by omega
  rcases this with rfl | rfl | rfl | rfl | rfl | rfl | rfl | rfl <;> rfl

theorem idx8 {b k : Nat} (hb : b < 512) (hk : k < 32) : IntKind.wrap .i64 (Int.tdiv (IntKind.wrap .i64 ((b : Int) + (k : Int))) 8) = (((b + k) / 8 : Nat) : Int) := by
  have e : (b : Int) + (k : Int) = ((b + k : Nat) : Int) := by omega
  rw [wrap64 (x := (b : Int) + k) (by omega) (by omega), e, Int.tdiv_eq_ediv_of_nonneg (by omega), wrap64 (by omega) (by omega)]
  omega
theorem mod8 {b k : Nat} (hb : b < 512) (hk : k < 32) : Int.tmod (IntKind.wrap .i64 ((b : Int) + (k : Int))) 8 = (((b + k) % 8 : Nat) : Int) := by
  have e : (b : Int) + (k : Int) = ((b + k : Nat) : Int) := by omega
  rw [wrap64 (x := (b : Int) + k) (by omega) (by omega), e, Int.tmod_eq_emod_of_nonneg (by omega)]
  omega
theorem wrapu64 {x : Nat} (h : x < 1000000) : IntKind.wrap .u64 (x : Int) = (x : Int) := by rw [IntKind.wrap_u64]; omega
theorem wrapu8 {x : Int} (h0 : 0 ≤ x) (h : x < 256) : IntKind.wrap .u8 x = x := by rw [IntKind.wrap_u8]; omega

def St.rot (s : St) (n bit : Int) (mask : Nat) : St × Bool :=
  if (s.bad n || !decide (0 ≤ bit ∧ bit < 512)) = true then (s, false) else ({ s with B := s.B.set n.toNat (flip (s.B.getD n.toNat []) bit.toNat mask (min 32 (512 - bit.toNat))) }, true)

section
variable {t : PT} {w w' : World} {p : Nat} {s : St} {ab ac af : D} {ds es : List D} {own : List Nat}
variable {K : Value → World → Prop} {E : List PanicEntry → World → Prop}

theorem Row.byte {d : D} {x : List UInt8} (h : Row 5 w d x) {j : Nat} (hj : j < x.length) : ∃ b o cs, d.1 = some ⟨b, o, none⟩ ∧ ownB d.1 d.2.2 = [b] ∧ Blk w b 5 cs ∧ o + j * 1 < cs.length ∧ cs[o + j * 1]? = some (bv (x.getD j 0)) ∧
    ∀ w' y, Blk w' b 5 (cs.set (o + j * 1) (bv y)) → Row 5 w' d (x.set j y) := by
  have hl := h.len
  obtain ⟨b, o, cs, e, ho, hb, hlen, hget, hset⟩ := SRow.open h (by omega)
  refine ⟨b, o, cs, e, ho, hb, by omega, ?_, fun w' y hb' => ?_⟩
  · rw [Nat.mul_one, hget j (by omega)]
    simp [List.getD, List.getElem?_eq_getElem hj]
  · rw [Nat.mul_one] at hb'
    have := hset w' j (bv y) (by omega) hb'
    rw [← List.map_set] at this
    exact this

/-- The bytes' new slice is laid into the array. -/
theorem rotEnd (ht : t.ok) (h : Lay t w p s ab ac af ds es) {n : Int} (h0 : 0 ≤ n) (h1 : n < s.B.length) {d : D} {x : List UInt8} (hd : Row 5 w d x) (hx : x.length = 64)
    (hk : ∀ w' ds', Lay t w' p { s with B := s.B.set n.toNat x } ab ac af ds' es → Same (ownB ab.1 ab.2.2) w w' → K (.bool true) w') :
    IDX 1 ab.1 ab.2.1 n (fun a => OPW Try.prog (sU (Instr.storeAt 49 (.pointer (some a)) (.slice d.1 d.2.1 d.2.2))) w (fun _ w' => K (.bool true) w') E) := by
  have hnb := h.nb
  obtain ⟨y, o, cs, ex, hox, hbx, hlen, hget, hset⟩ := h.arr.open (by have := h.lo; omega)
  refine IDX.at ex h0 (by omega) (Lift.st hbx (by omega) fun w1 hb1 hs1 _ => ?_)
  have hs1' : Same (ownB ab.1 ab.2.2) w w1 := by rw [hox]; exact hs1
  refine hk w1 (ds.set n.toNat d) (Lay.setB ht h (i := n.toNat) (d := d) (x := x) (by omega) hd hx hs1' (hset w1 n.toNat (sl d) (by omega) ?_)) hs1'
  rw [Nat.mul_one] at hb1
  exact hb1

/-- Rot. -/
theorem fn41 (h : Obj PP w p s own) {n bit : Int} {mask : Nat} (hm : mask < 2 ^ 32)
    (hk : ∀ w', Obj PP w' p (s.rot n bit mask).1 own → Same own w w' → K (.bool (s.rot n bit mask).2) w') :
    FN Try.prog 41 #[.pointer (some ⟨p, 0, none⟩), .int .i64 n, .int .i64 bit, .int .u32 (mask : Int)] w K E := by
  obtain ⟨ab, ac, af, ds, es, h, rfl⟩ := h
  have quit : (s.bad n || !decide (0 ≤ bit ∧ bit < 512)) = true → K (.bool false) w := by
    intro hbad
    have := hk w (by simp only [St.rot, if_pos hbad]; exact ⟨ab, ac, af, ds, es, h, rfl⟩) (Same.refl _ _)
    simpa only [St.rot, if_pos hbad] using this
  refine R41_ok (JOIN.mk (fun _ w2 => w2 = w ∧ (s.bad n || !decide (0 ≤ bit ∧ bit < 512)) = false) ?_ ?_)
  · refine eqlPtrNil ⟨_, rfl, BIF.no rfl (fn58 h ⟨_, rfl, BIF.mk (fun hc => quit ?_) fun hc => ?_⟩)⟩
    · simp only [St.bad, hc, Bool.true_or]
    have hb : s.bad n = false := hc
    refine BIF.dec (fun hc' => quit ?_) fun hc' => BIF.dec (fun hc'' => quit ?_) fun hc'' => ⟨rfl, ?_⟩
    · rw [hb]; simp; omega
    · rw [hb]; simp; omega
    · rw [hb]; simp; omega
  rintro _ w2 ⟨rfl, hgood⟩ J
  have hg := hgood
  simp only [Bool.or_eq_false_iff, St.bad, Bool.not_eq_false', decide_eq_true_eq] at hg
  obtain ⟨⟨hn0, hn1⟩, hb0, hb1⟩ := hg
  obtain ⟨b, rfl⟩ : ∃ b : Nat, bit = (b : Int) := ⟨bit.toNat, by omega⟩
  have hbn : b < 512 := by omega
  obtain ⟨d0, hd0, hr0, hm0, hx64⟩ := h.bAt (i := n.toNat) (by omega)
  obtain ⟨x, o, cs, ex, _, hbx, hlen, hget, _⟩ := h.arr.open (by have := h.nb; omega)
  have hnb := h.nb
  generalize hX : s.B.getD n.toNat [] = X at hr0 hx64
  refine ld h.blk rfl ⟨_, _, _, rfl, IDX.at ex hn0 (by omega) (ld hbx (v := sl d0) (by rw [Nat.mul_one, hget _ (by omega)]; exact hm0) ⟨_, _, _, rfl, ?_⟩)⟩
  refine fn59 hr0 (by omega) (by omega) fun w3 d3 hr3 hs3 ho3 => ⟨_, _, _, rfl, ?_⟩
  have e512 : IntKind.wrap .i64 (512 - (b : Int)) = 512 - (b : Int) := wrap64 (by omega) (by omega)
  rw [e512]
  refine LOOP.mk (fun x w' => 0 ≤ x.1 ∧ x.1 ≤ (min 32 (512 - b) : Nat) ∧ Same [] w2 w' ∧ Row 5 w' d3 (flip X b mask x.1.toNat)) (fun x _ => (32 - x.1).toNat)
    ⟨by simp, by simp only []; omega, hs3, hr3⟩ ?_
  rintro ⟨i, _⟩ w4 ⟨hi0, hi1, hs4, hr4⟩ J2
  simp only [] at hi0 hi1 hr4
  obtain ⟨k, rfl⟩ : ∃ k : Nat, i = (k : Int) := ⟨i.toNat, by omega⟩
  refine BIF.dec (fun hc => ?_) fun hc => ?_
  · have hc : (k : Int) < (if (512 : Int) - (b : Int) < 32 then 512 - (b : Int) else 32) := hc
    have hk32 : k < 32 := by split at hc <;> omega
    have hbk : b + k < 512 := by split at hc <;> omega
    have e1 : IntKind.wrap .i64 ((k : Int) + 1) = (k : Int) + 1 := wrap64 (by omega) (by omega)
    have e2 : ((k : Int) + 1).toNat = k + 1 := by omega
    have ek : (k : Int).toNat = k := by omega
    rw [ek] at hr4
    have hj : (b + k) / 8 < (flip X b mask k).length := by rw [flip_len, hx64]; omega
    obtain ⟨y, o2, cs2, ey, hoy, hby, hlen2, hget2, hset2⟩ := Row.byte hr4 hj
    have hdl := hr4.len
    have hjl : (((b + k) / 8 : Nat) : Int) < (d3.2.1 : Int) := by rw [hdl]; omega
    have ej : ((((b + k) / 8 : Nat) : Int)).toNat = (b + k) / 8 := by omega
    have hy : w2.heap.size ≤ y := ho3 y (by rw [hoy]; simp)
    simp only [idx8 hbn hk32, mod8 hbn hk32]
    refine DRAW.mk (fun w' => Blk w' y 5 cs2) ?_
    refine IDX.at ey (by omega) hjl (HELD.ld (w := drew w4) hby (fun _ h => h) (v := bv ((flip X b mask k).getD ((b + k) / 8) 0)) (by rw [ej]; exact hget2) ⟨_, rfl, ?_⟩)
    refine HELD.mk _ hby (fun w' _ => run_shr (by omega)) ⟨_, rfl, ?_⟩
    have hbit := shr_bit hm hk32
    have hbits : IntKind.bits .u32 = 32 := rfl
    rw [hbits, hbit]
    refine HELD.mk _ hby (fun w' _ => run_shl (by omega)) ⟨_, rfl, ?_⟩
    have hbits8 : IntKind.bits .u8 = 8 := rfl
    have er : ((((b + k) % 8 : Nat) : Int)).toNat = (b + k) % 8 := by omega
    rw [hbits8, er]
    refine IDX.at ey (by omega) hjl ?_
    have hval : bits .xor .u8 (((flip X b mask k).getD ((b + k) / 8) 0).toNat : Int) (IntKind.wrap .u8 (IntKind.wrap .u8 (if mask.testBit k = true then 1 else 0) * 2 ^ min ((b + k) % 8) 8)) =
        (((flip X b mask k).getD ((b + k) / 8) 0 ^^^ (if mask.testBit k then UInt8.ofNat (2 ^ ((b + k) % 8)) else 0)).toNat : Int) := by
      rw [← bits_xor]
      congr 1
      cases mask.testBit k
      · simp [IntKind.wrap_u8]
      · simp only [if_true]
        rw [wrapu8 (x := 1) (by omega) (by omega)]
        exact shl_bit (by omega)
    rw [hval]
    refine Lift.st (w := drew w4) (v := bv ((flip X b mask k).getD ((b + k) / 8) 0 ^^^ (if mask.testBit k then UInt8.ofNat (2 ^ ((b + k) % 8)) else 0))) hby (by rw [ej]; exact hlen2) fun w5 hb5 hs5 _ => ?_
    rw [ej] at hb5
    simp only [e1, e2]
    refine ⟨⟨by omega, by omega, hs4.then hs5.of_drew fun z hz => .inr (by rw [List.mem_singleton.1 hz]; exact hy), ?_⟩, by omega⟩
    have := hset2 w5 _ hb5
    cases htb : mask.testBit k
    · rw [htb] at this
      simp only [flip, htb, Bool.false_eq_true, if_false] at this ⊢
      rw [UInt8.xor_zero] at this
      have hself : (flip X b mask k).set ((b + k) / 8) ((flip X b mask k).getD ((b + k) / 8) 0) = flip X b mask k := by
        apply List.ext_getElem?
        intro q
        rw [List.getElem?_set]
        split
        · rename_i e; subst e; simp [List.getD, List.getElem?_eq_getElem hj]
        · rfl
      rw [hself] at this
      exact this
    · rw [htb] at this
      simp only [flip, htb, if_true] at this ⊢
      exact this
  · have hc : ¬ (k : Int) < (if (512 : Int) - (b : Int) < 32 then 512 - (b : Int) else 32) := hc
    have ek : (k : Int).toNat = min 32 (512 - b) := by split at hc <;> omega
    rw [ek] at hr4
    have h4 := h.nil (.inl rfl) hs4
    refine ld h4.blk rfl ⟨_, _, _, rfl, rotEnd (.inl rfl) h4 hn0 hn1 hr4 (by rw [flip_len]; exact hx64) fun w5 ds5 h5 hs5 => ?_⟩
    have hg' : ¬ (s.bad n || !decide (0 ≤ (b : Int) ∧ (b : Int) < 512)) = true := by rw [hgood]; simp
    have eb : (b : Int).toNat = b := by omega
    have := hk w5 (by simp only [St.rot, if_neg hg', hX, eb]; exact ⟨ab, ac, af, ds5, es, h5, rfl⟩) (hs4.nil.trans (hs5.mono fun q hq => mem_own (List.mem_cons_of_mem _ hq)))
    simpa only [St.rot, if_neg hg'] using this

end
end Go.Proofs.Ytdabjchdmieegaa
