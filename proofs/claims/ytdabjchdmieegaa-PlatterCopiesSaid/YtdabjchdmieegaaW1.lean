/-
  The small methods of both platters, walked.
-/
import Derived.Test.YtdabjchdmieegaaObj
import Derived.Test.YtdabjchdmieegaaRules3
set_option linter.unusedVariables false
namespace Go.Proofs.Ytdabjchdmieegaa
open Go Go.Lift

/-! ### The cells of the struct -/
def cellsOf (ab ac af : D) (cnt snc : List Int) : List Value := sl ab :: sl ac :: sl af :: (i64s cnt ++ i64s snc)

theorem i64s_get {l : List Int} {k : Nat} (h : k < l.length) : (i64s l)[k]? = some (.int .i64 (l.getD k 0)) := by
  simp [i64s, List.getD, List.getElem?_eq_getElem h]

theorem cells_cnt {ab ac af : D} {cnt snc : List Int} (hc : cnt.length = 4) {k : Nat} (hk : k < 4) : (cellsOf ab ac af cnt snc)[3 + k]? = some (.int .i64 (cnt.getD k 0)) := by
  have e : 3 + k = k + 3 := by omega
  have h1 : k < (i64s cnt).length := by simp [i64s]; omega
  rw [e]
  show (i64s cnt ++ i64s snc)[k]? = _
  rw [List.getElem?_append_left h1, i64s_get (by omega)]
theorem cells_snc {ab ac af : D} {cnt snc : List Int} (hc : cnt.length = 4) (hs : snc.length = 4) {k : Nat} (hk : k < 4) : (cellsOf ab ac af cnt snc)[7 + k]? = some (.int .i64 (snc.getD k 0)) := by
  have e : 7 + k = (k + 4) + 3 := by omega
  have h1 : (i64s cnt).length = 4 := by simp [i64s]; omega
  rw [e]
  show (i64s cnt ++ i64s snc)[k + 4]? = _
  rw [List.getElem?_append_right (by omega), h1]
  exact i64s_get (by omega)
theorem cells_setcnt {ab ac af : D} {cnt snc : List Int} (hc : cnt.length = 4) {k : Nat} (hk : k < 4) (v : Int) : (cellsOf ab ac af cnt snc).set (3 + k) (.int .i64 v) = cellsOf ab ac af (cnt.set k v) snc := by
  have e : 3 + k = k + 3 := by omega
  have h1 : k < (i64s cnt).length := by simp [i64s]; omega
  rw [e]
  show sl ab :: sl ac :: sl af :: ((i64s cnt ++ i64s snc).set k (.int .i64 v)) = _
  rw [List.set_append_left _ _ h1]
  simp [cellsOf, i64s, List.map_set]
theorem cells_setsnc {ab ac af : D} {cnt snc : List Int} (hc : cnt.length = 4) (hs : snc.length = 4) {k : Nat} (hk : k < 4) (v : Int) : (cellsOf ab ac af cnt snc).set (7 + k) (.int .i64 v) = cellsOf ab ac af cnt (snc.set k v) := by
  have e : 7 + k = (k + 4) + 3 := by omega
  have h1 : (i64s cnt).length = 4 := by simp [i64s]; omega
  rw [e]
  show sl ab :: sl ac :: sl af :: ((i64s cnt ++ i64s snc).set (k + 4) (.int .i64 v)) = _
  rw [List.set_append_right _ _ (by omega), h1]
  simp [cellsOf, i64s, List.map_set]
theorem cells_len {ab ac af : D} {cnt snc : List Int} (hc : cnt.length = 4) (hs : snc.length = 4) : (cellsOf ab ac af cnt snc).length = 11 := by simp [cellsOf, i64s, hc, hs]

section
variable {t : PT} {w w' : World} {p : Nat} {s : St} {ab ac af : D} {ds es : List D} {own : List Nat}
variable {K : Value → World → Prop} {E : List PanicEntry → World → Prop}

theorem Lay.nb (h : Lay t w p s ab ac af ds es) : ab.2.1 = s.B.length := by
  have h1 := h.arr.1
  have h2 := h.rows.1
  simp at h1
  omega
theorem Lay.ne (h : Lay t w p s ab ac af ds es) : es.length = s.C.length := by have := h.crow.1; simpa using this
theorem cach_len (l : List (Nat × D)) : (cach l).length = 2 * l.length := by
  induction l with
  | nil => rfl
  | cons x l ih => simp only [cach, List.flatMap_cons, List.length_append, List.length_cons, List.length_nil] at *; omega
theorem pairs_len (l : List (Int × Int)) : (pairs l).length = 2 * l.length := by
  induction l with
  | nil => rfl
  | cons x l ih => simp only [pairs, List.flatMap_cons, List.length_append, List.length_cons, List.length_nil] at *; omega
theorem Lay.nc (h : Lay t w p s ab ac af ds es) : ac.2.1 = s.C.length := by
  have h1 := h.car.1
  have h2 := h.ne
  rw [cach_len] at h1
  simp [h2] at h1
  omega
theorem Lay.nf (h : Lay t w p s ab ac af ds es) : af.2.1 = s.F.length := by
  have h1 := h.far.1
  rw [pairs_len] at h1
  omega

/-- Blocks. -/
theorem fn43 (h : Lay PP w p s ab ac af ds es) (hk : K (.int .i64 (s.B.length : Int)) w) : FN Try.prog 43 #[.pointer (some ⟨p, 0, none⟩)] w K E := by
  refine R43_ok (eqlPtrNil ⟨_, rfl, BIF.no rfl (ld h.blk rfl ⟨_, _, _, rfl, ?_⟩)⟩)
  rw [h.nb]; exact hk

/-- Cached. -/
theorem fn14 (h : Lay PP w p s ab ac af ds es) (hk : K (.int .i64 (s.C.length : Int)) w) : FN Try.prog 14 #[.pointer (some ⟨p, 0, none⟩)] w K E := by
  refine R14_ok (eqlPtrNil ⟨_, rfl, BIF.no rfl (ld h.blk rfl ⟨_, _, _, rfl, ?_⟩)⟩)
  rw [h.nc]; exact hk

/-- Count. -/
theorem fn44 (h : Lay PP w p s ab ac af ds es) {op : Int} (h0 : 0 ≤ op) (hk : K (.int .i64 (if 1 ≤ op ∧ op ≤ 3 then s.cnt.getD op.toNat 0 else 0)) w) : FN Try.prog 44 #[.pointer (some ⟨p, 0, none⟩), .int .i64 op] w K E := by
  refine R44_ok (JOIN.mk (fun _ w' => w' = w ∧ 1 ≤ op ∧ op ≤ 3) ?_ ?_)
  · refine eqlPtrNil ⟨_, rfl, BIF.no rfl (BIF.dec (fun hc => ?_) fun hc => BIF.dec (fun hc' => ?_) fun hc' => ⟨rfl, by omega, by omega⟩)⟩
    · rw [if_neg (by omega)] at hk; exact hk
    · rw [if_neg (by omega)] at hk; exact hk
  · rintro _ w' ⟨rfl, h1, h3⟩ _
    refine IDXA.mk' (by omega) (by omega) (ld h.blk (v := .int .i64 (s.cnt.getD op.toNat 0)) ?_ ⟨_, rfl, ?_⟩)
    · rw [Nat.mul_one]; exact cells_cnt h.cl (by omega)
    · rw [if_pos ⟨h1, h3⟩] at hk; exact hk

/-- there. -/
theorem fn58 (h : Lay PP w p s ab ac af ds es) {n : Int} (hk : K (.bool (decide (0 ≤ n ∧ n < (s.B.length : Int)))) w) : FN Try.prog 58 #[.pointer (some ⟨p, 0, none⟩), .int .i64 n] w K E := by
  refine R58_ok (BIF.dec (fun hc => ld h.blk rfl ⟨_, _, _, rfl, ?_⟩) fun hc => ?_)
  · rw [h.nb]
    have : decide (0 ≤ n ∧ n < (s.B.length : Int)) = decide (n < (s.B.length : Int)) := by simp; omega
    rw [← this]; exact hk
  · have : decide (0 ≤ n ∧ n < (s.B.length : Int)) = false := by simp; omega
    rw [this] at hk; exact hk

/-! ### Copies of bytes -/
theorem bv_one (x : UInt8) : (bv x).oneCell' = true := rfl
theorem bvs_one (xs : List UInt8) : ∀ y ∈ xs.map bv, y.oneCell' = true := by
  intro y hy; obtain ⟨x, _, rfl⟩ := List.mem_map.1 hy; rfl

theorem Row.keep {d : D} {xs : List UInt8} (h : Row 5 w d xs) {S : List Nat} (hs : Same S w w') (hn : ∀ b, Calm w b → b ∉ S) : Row 5 w' d xs :=
  SRow.keep h hs fun b hb => hn b (SRow.calm h (.inl rfl) b hb)
theorem Row.nil {d : D} {xs : List UInt8} (h : Row 5 w d xs) (hs : Same [] w w') : Row 5 w' d xs := h.keep hs fun _ _ h => by cases h

/-- append([]byte(nil), b...) -/
theorem copyB {d : D} {xs : List UInt8} (h : Row 5 w d xs) (hl : xs.length ≤ 4096) {cs : Array Bool} {a : Option Addr} (hk : ∀ w' d', Row 5 w' d' xs → Same [] w w' → (∀ b ∈ ownB d'.1 d'.2.2, w.heap.size ≤ b) → K (sl d') w') :
    OPW Try.prog (sBI .append #[49, 49] 49 cs #[.slice a 0 0, .slice d.1 d.2.1 d.2.2]) w K E := by
  have hlen := h.len
  refine appendR (e := 5) (sz := 1) (by_ := 1) (z := [.int .u8 0]) (by kernel_rfl) (SRow.nil w 5 1 a) h (bvs_one xs) (by omega) (by simp only [maxLen]; omega) rfl ?_
  intro w1 a' c' hr hs ho
  have e : ownB a 0 = [] := by cases a <;> simp [ownB]
  rw [e] at hs ho
  exact hk w1 (a', 0 + d.2.1, c') (by simpa [Row] using hr) hs fun b hb => (ho b hb).resolve_left (by simp)

/-- bytes.Clone -/
theorem fn59 {d : D} {xs : List UInt8} (h : Row 5 w d xs) (hl : xs.length ≤ 4096) (h0 : 0 < xs.length) (hk : ∀ w' d', Row 5 w' d' xs → Same [] w w' → (∀ b ∈ ownB d'.1 d'.2.2, w.heap.size ≤ b) → K (sl d') w') :
    FN Try.prog 59 #[sl d] w K E := by
  have hn : d.1.isNone = false := by
    obtain ⟨b, o, cs, e, _⟩ := SRow.open h (by rw [h.len]; omega)
    rw [e]; rfl
  refine R59_ok (eqlSlNil (e := 5) (sz := 1) (by_ := 1) (z := [.int .u8 0]) (by kernel_rfl) ⟨_, rfl, BIF.no hn ?_⟩)
  refine lit0R (e := 5) (sz := 1) (by_ := 1) (z := [.int .u8 0]) (by kernel_rfl) fun w1 b hb hs1 hsz => ⟨_, _, _, rfl, ?_⟩
  refine copyB (Row.nil h hs1) hl fun w2 d2 hr hs2 ho => ⟨_, _, _, rfl, hk w2 d2 hr (hs1.trans hs2) fun b hb => Nat.le_trans hs1.size (ho b hb)⟩

theorem wrap64 {x : Int} (h0 : -9223372036854775808 ≤ x) (h1 : x < 9223372036854775808) : IntKind.wrap .i64 x = x := by
  rw [IntKind.wrap_i64]; omega

/-- full -/
theorem fn32 {b : Int} (hb0 : 0 ≤ b) (hb1 : b < 256) (hk : ∀ w' d, Row 5 w' d (List.replicate 64 (UInt8.ofNat b.toNat)) → Same [] w w' → (∀ b ∈ ownB d.1 d.2.2, w.heap.size ≤ b) → K (sl d) w') :
    FN Try.prog 32 #[.int .u8 b] w K E := by
  refine R32_ok (makeR1 (e := 5) (by_ := 1) (z0 := .int .u8 0) (by kernel_rfl) (by omega) (by omega) (by omega) (by omega) fun w1 x hx hb1' hs1 hsz => ⟨_, _, _, rfl, ?_⟩)
  refine LOOP.mk (fun st w' => 0 ≤ st.1 ∧ st.1 ≤ 64 ∧ Blk w' x 5 (List.replicate st.1.toNat (.int .u8 b) ++ List.replicate (64 - st.1.toNat) (.int .u8 0)) ∧ Same [x] w1 w')
    (fun st _ => (64 - st.1).toNat) ⟨by simp, by simp, by simpa using hb1', Same.refl _ _⟩ ?_
  rintro ⟨i, _⟩ w2 ⟨h0, h64, hblk, hs2⟩ J
  refine BIF.dec (fun hc => ?_) fun hc => ?_
  · refine IDX.at rfl h0 hc (st hblk (by simp at hc ⊢; omega) fun w3 hblk3 hs3 hsz3 => ?_)
    have e : IntKind.wrap .i64 (i + 1) = i + 1 := wrap64 (by omega) (by simp at hc; omega)
    simp only [e]
    simp only [] at hc
    refine ⟨⟨by omega, by simp at hc ⊢; omega, ?_, hs2.trans hs3⟩, by simp at hc ⊢; omega⟩
    have e2 : (i + 1).toNat = i.toNat + 1 := by omega
    have e3 : 64 - i.toNat = (64 - (i + 1).toNat) + 1 := by simp at hc; omega
    rw [e3] at hblk3
    simp only [Nat.zero_add, Nat.mul_one] at hblk3
    rw [List.set_append_right _ _ (by simp), List.length_replicate, Nat.sub_self, List.replicate_succ, List.set_cons_zero] at hblk3
    rw [e2, List.replicate_succ', List.append_assoc]
    rw [e2] at hblk3
    exact hblk3
  · have hi : i = 64 := by simp at hc; omega
    subst hi
    have hsame : Same [] w w2 := hs1.then hs2 fun y hy => .inr (by rw [List.mem_singleton.1 hy]; exact hx)
    refine hk w2 (some ⟨x, 0, none⟩, 64, 64) ⟨by simp, by simp, .inr ⟨x, 0, _, rfl, hblk, by simp, ?_⟩⟩ hsame fun y hy => ?_
    · have : (UInt8.ofNat b.toNat).toNat = b.toNat := by simp; omega
      simp [bv, this, Int.toNat_of_nonneg hb0]
    · simp [ownB] at hy; subst hy; exact hx

end
end Go.Proofs.Ytdabjchdmieegaa
