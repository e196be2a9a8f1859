/-
  Runs: the library's functions on slices of runs.
-/
import Derived.Test.YtdabjchdmieegaaRules9
import Derived.Test.YtdabjchdmieegaaRQ
set_option linter.unusedVariables false
set_option linter.unnecessarySimpa false
set_option linter.unusedSimpArgs false
namespace Go.Proofs.Ytdabjchdmieegaa
open Go Go.Lift Go.RowKit
/-- slices.overlaps of slices in two blocks (element type 56). -/
theorem overlapsR69 {w : World} {K : Value → World → Prop} {E : List PanicEntry → World → Prop} {b o n c b2 o2 n2 c2 : Nat} {cur cur2 : List Value} (hb : Blk w b 56 cur) (hb2 : Blk w b2 56 cur2) (hne : b ≠ b2) (h2 : cur2 ≠ []) (hk : K (.bool false) w) :
    OPW Try.prog (sC (.func (.func 69) #[] #[]) #[.slice (some ⟨b, o, none⟩) n c, .slice (some ⟨b2, o2, none⟩) n2 c2]) w K E := by
  have he : (sC (.func (.func 69) #[] #[]) #[.slice (some ⟨b, o, none⟩) n c, .slice (some ⟨b2, o2, none⟩) n2 c2]).run Try.prog w = .ok (.value (.bool false)) w := by
    have hz : ∀ w, (sizeOf 56).run Try.prog w = .ok 2 w := by
      obtain ⟨_, e, h⟩ := slB_elem (P := Try.prog) (t := 52) (e := 56) (sz := 2) (by_ := 16) (z := [.int .i64 0, .int .i64 0]) (by kernel_rfl)
      intro w; have := h w; rwa [e] at this
    have h1 : (sC (.func (.func 69) #[] #[]) #[.slice (some ⟨b, o, none⟩) n c, .slice (some ⟨b2, o2, none⟩) n2 c2]).run Try.prog w = (callFunc 69 #[.slice (some ⟨b, o, none⟩) n c, .slice (some ⟨b2, o2, none⟩) n2 c2]).run Try.prog w := by
      simp [sC, Deferred.ofValue, invoke]
    rw [h1, run_callFunc_extern Try.func69 (by kernel_rfl) (by kernel_rfl) (by kernel_rfl) (e := Extern.SlicesOverlaps.overlaps #[52, 52] #[4]) (by kernel_rfl)]
    rw [Lib.run_overlaps_apart w 52 4 56 Try.underlying52 2 hz ⟨b, o, none⟩ ⟨b2, o2, none⟩ n c n2 c2 hne 56 56 cur.length cur2.length ?_ ?_ ?_ ?_ ?_]
    · rfl
    · unfold Blk at hb; simp [World.shape?, hb]
    · unfold Blk at hb2; simp [World.shape?, hb2]
    · intro h; exact h2 (List.eq_nil_of_length_eq_zero h)
    · exact hb.free _
    · exact hb.free _
  exact OPW.of_run he hk

/-- slices.Insert (element type 56). -/
theorem fn68 {w : World} {K : Value → World → Prop} {E : List PanicEntry → World → Prop} {a a2 : Option Addr} {n c n2 c2 : Nat} {xs ys : List Value} {i : Int} (hs : SRow w 56 2 a n c xs) (hv : SRow w 56 2 a2 n2 c2 ys) (hd : ∀ b ∈ ownB a2 c2, b ∉ ownB a c)
    (hn : n + n2 ≤ 1000000) (h0 : 0 ≤ i) (hi : i ≤ n) (hx1 : ∀ y ∈ xs, y.oneCell' = true) (hy1 : ∀ y ∈ ys, y.oneCell' = true)
    (hk : ∀ w' a' c', SRow w' 56 2 a' (n + n2) c' (xs.take (i.toNat * 2) ++ ys ++ xs.drop (i.toNat * 2)) → Same (ownB a c) w w' → (∀ b ∈ ownB a' c', b ∈ ownB a c ∨ w.heap.size ≤ b) → K (.slice a' (n + n2) c') w') :
    FN Try.prog 68 #[.slice a n c, .int .i64 i, .slice a2 n2 c2] w K E := by
  have hsb : slB Try.prog 52 = some (56, 2, 16, [.int .i64 0, .int .i64 0]) := by kernel_rfl
  obtain ⟨m, rfl⟩ : ∃ m : Nat, i = m := ⟨i.toNat, by omega⟩
  simp only [Int.toNat_natCast] at hk
  have hlx := hs.1
  have hly := hv.1
  refine R68_ok (slL hsb h0 hi ⟨_, _, _, rfl, BIF.mk (fun hc => ?_) fun hc => ?_⟩)
  · have e0 : n2 = 0 := by have : (n2 : Int) = 0 := by simpa using hc
                           omega
    subst e0
    have : ys = [] := List.eq_nil_of_length_eq_zero (by omega)
    subst this
    exact hk w a c (by simpa using hs) (Same.refl _ _) fun b hb => .inl hb
  have hn2 : 0 < n2 := by have : ¬ (n2 : Int) = 0 := by simpa using hc
                          omega
  refine BIF.mk (fun hc => ?_) fun hc => ?_
  · have e : m = n := by have : (m : Int) = n := by simpa using hc
                         omega
    subst e
    refine appendR hsb hs hv hy1 (by omega) (by simp only [maxLen]; omega) rfl fun w1 a1 c1 hr1 hs1 ho1 => ⟨_, _, _, rfl, ?_⟩
    exact hk w1 a1 c1 (by rw [List.take_of_length_le (by omega), List.drop_eq_nil_of_le (by omega)]; simpa using hr1) hs1 ho1
  have hlt : m < n := by have : ¬ (m : Int) = n := by simpa using hc
                         omega
  have e1 : IntKind.wrap .i64 ((n : Int) + n2) = ((n + n2 : Nat) : Int) := by rw [wrap64 (by omega) (by omega)]; omega
  have e2 : IntKind.wrap .i64 ((m : Int) + n2) = ((m + n2 : Nat) : Int) := by rw [wrap64 (by omega) (by omega)]; omega
  have e3 : IntKind.wrap .i64 (((n + n2 : Nat) : Int) - m) = ((n + n2 - m : Nat) : Int) := by rw [wrap64 (by omega) (by omega)]; omega
  rw [e1, e2, e3]
  clear e1 e2 e3
  have hnc := hs.2.1
  obtain ⟨b, o, cur, rfl, ho, hb, hcl, hg⟩ := hs.whole (by omega)
  refine BIF.dec (fun hc => ?_) fun hc => ?_
  · -- no room
    refine slH hsb h0 (by omega) ?_
    simp only [sliced_zero, Int.toNat_natCast]
    refine ⟨_, _, _, rfl, growR (n := m) (k := n + n2 - m) hsb rfl (by decide) ⟨.i64, by kernel_rfl⟩ (hs.sub0 (by omega)) (by omega) (by omega) (by omega) (by simp only [maxLen]; omega) ?_⟩
    intro w1 b1 cap zs hb1n hzl hcap hb1 hs1
    have e4 : m + (n + n2 - m) = n + n2 := by omega
    rw [e4] at hcap ⊢
    refine ⟨_, _, _, rfl, slL hsb h0 (by omega) ?_⟩
    rw [Int.toNat_natCast, sliced_in (by omega)]
    refine ⟨_, _, _, rfl, copyR hsb hb1 (by simp; omega) ((hv.keep hs1 (by simp)).seen) (fun y hy => hy1 y (List.mem_of_mem_take hy)) fun w2 hb2 hs2 hz2 => ⟨_, rfl, ?_⟩⟩
    have hs12 : Same [] w w2 := hs1.then hs2 fun x hx => .inr (by rw [List.mem_singleton.1 hx]; exact hb1n)
    refine DRAW.any (HELD.slL hsb trivial (by omega) (by omega) ?_)
    rw [Int.toNat_natCast, sliced_in (by omega)]
    refine ⟨_, _, _, rfl, HELD.slL hsb trivial h0 hi ?_⟩
    rw [Int.toNat_natCast, sliced_in (by omega)]
    refine ⟨_, _, _, rfl, ?_⟩
    have hsub : SRow (drew w2) 56 2 (some ⟨b, o + m * 2, none⟩) (n - m) (c - m) (xs.drop (m * 2)) := by
      have := (hs.keep hs12.drew (by simp)).sub (l := m) (h := n) (m := c) (by omega) (by omega) (by omega) (by omega)
      rw [if_neg (by omega)] at this
      rw [List.take_of_length_le (by simp; omega)] at this
      simpa [add_mk] using this
    have e5 : min n2 (n + n2 - m) = n2 := by omega
    have e6 : min (n - m) (n + n2 - (m + n2)) = n - m := by omega
    rw [e5, List.take_of_length_le (l := ys) (by omega)] at hb2
    have hzl' : (xs.take (m * 2) ++ zs).length = cap * 2 := by rw [List.length_append, List.length_take]; omega
    have hl2 : (splice (xs.take (m * 2) ++ zs) (0 + m * 2) ys).length = cap * 2 := by
      rw [splice_length (by omega), hzl']
    refine copyR (b := b1) hsb hb2 (by rw [hl2]; omega) hsub.seen (fun y hy => hx1 y (List.mem_of_mem_drop (List.mem_of_mem_take hy))) fun w3 hb3 hs3 hz3 => ⟨_, rfl, ?_⟩
    have hs13 : Same [] w w3 := hs12.then hs3.of_drew fun x hx => .inr (by rw [List.mem_singleton.1 hx]; exact hb1n)
    rw [e6, List.take_of_length_le (l := xs.drop (m * 2)) (by simp; omega)] at hb3
    have hlg : 0 + (m + n2) * 2 + (xs.drop (m * 2)).length ≤ (splice (xs.take (m * 2) ++ zs) (0 + m * 2) ys).length := by rw [hl2, List.length_drop]; omega
    refine hk w3 (some ⟨b1, 0, none⟩) cap (SRow.ofGet hb3 (by rw [splice_length hlg, hl2]; omega) hcap (by simp only [List.length_append, List.length_take, List.length_drop]; omega) fun k hk => ?_) hs13.nil fun x hx => .inr (by
      simp only [ownB] at hx
      split at hx
      · cases hx
      · rw [List.mem_singleton.1 hx]; exact hb1n)
    rw [splice_get hlg, splice_get (by omega)]
    simp only [List.getElem?_append, List.getElem?_take, List.getElem?_drop, List.length_take, List.length_append, List.length_drop]
    repeat' split
    all_goals first | omega | exact congrArg (fun t => xs[t]?) (by omega) | exact congrArg (fun t => ys[t]?) (by omega) | skip
  · -- room
    have hc' : n + n2 ≤ c := by omega
    refine slH hsb (by omega) (by omega) ?_
    simp only [sliced_zero, Int.toNat_natCast]
    refine ⟨_, _, _, rfl, slL hsb (by omega) (by omega) ?_⟩
    rw [Int.toNat_natCast, sliced_in (by omega)]
    obtain ⟨b2, o2, cur2, rfl, hob, hb2, hcl2, hg2⟩ := hv.whole (by have := hv.2.1; omega)
    have hne : b2 ≠ b := fun e => hd b2 (by rw [hob]; simp) (by rw [ho, e]; simp)
    refine ⟨_, _, _, rfl, overlapsR69 hb2 hb hne (fun e => by rw [e] at hcl; simp at hcl; omega) ⟨_, rfl, BIF.yes rfl ?_⟩⟩
    refine DRAW.any (HELD.slL hsb trivial (by omega) (by omega) ?_)
    rw [Int.toNat_natCast, sliced_in (by omega)]
    refine ⟨_, _, _, rfl, HELD.slL hsb trivial h0 (by omega) ?_⟩
    rw [Int.toNat_natCast, sliced_in (by omega)]
    refine ⟨_, _, _, rfl, ?_⟩
    have hbd : Blk (drew w) b 56 cur := hb
    have hsub : SRow (drew w) 56 2 (some ⟨b, o + m * 2, none⟩) (n + n2 - m) (c - m) ((cur.drop (o + m * 2)).take ((n + n2 - m) * 2)) :=
      ⟨by rw [List.length_take, List.length_drop]; omega, by omega, .inr ⟨b, _, cur, rfl, hbd, by omega, rfl⟩⟩
    have e6 : min (n + n2 - m) (n + n2 - (m + n2)) = n - m := by omega
    have e7 : ((cur.drop (o + m * 2)).take ((n + n2 - m) * 2)).take ((n - m) * 2) = xs.drop (m * 2) := by
      apply List.ext_getElem?
      intro k
      simp only [List.getElem?_take, List.getElem?_drop]
      repeat' split
      · rw [← hg _ (by omega)]; exact congrArg (fun t => cur[t]?) (by omega)
      · omega
      · rw [List.getElem?_eq_none (by omega)]
    refine copyR (b := b) hsb hbd (by omega) hsub.seen (fun y hy => ?_) fun w2 hb2' hs2 hz2 => ⟨_, rfl, ?_⟩
    · rw [e6, e7] at hy; exact hx1 y (List.mem_of_mem_drop hy)
    rw [e6, e7] at hb2'
    have hl1 : o + (m + n2) * 2 + (xs.drop (m * 2)).length ≤ cur.length := by rw [List.length_drop]; omega
    refine slL hsb h0 (by omega) ?_
    rw [Int.toNat_natCast, sliced_in (by omega)]
    have hv2 := hv.keep hs2.of_drew (fun x hx hn => hd x hx (by rw [ho]; exact hn))
    refine ⟨_, _, _, rfl, copyR hsb hb2' (by rw [splice_length hl1]; omega) hv2.seen (fun y hy => hy1 y (List.mem_of_mem_take hy)) fun w3 hb3 hs3 hz3 => ⟨_, rfl, ?_⟩⟩
    have e5 : min n2 (n + n2 - m) = n2 := by omega
    rw [e5, List.take_of_length_le (l := ys) (by omega)] at hb3
    have hl2 : o + m * 2 + ys.length ≤ (splice cur (o + (m + n2) * 2) (xs.drop (m * 2))).length := by rw [splice_length hl1]; omega
    refine hk w3 (some ⟨b, o, none⟩) c (SRow.ofGet hb3 (by rw [splice_length hl2, splice_length hl1]; omega) hc' (by simp only [List.length_append, List.length_take, List.length_drop]; omega) fun k hk => ?_) (by rw [ho]; exact hs2.of_drew.trans hs3) fun x hx => .inl hx
    rw [splice_get hl2, splice_get hl1]
    simp only [List.getElem?_append, List.getElem?_take, List.getElem?_drop, List.length_take, List.length_append, List.length_drop]
    repeat' split
    all_goals first | omega | exact congrArg (fun t => xs[t]?) (by omega) | exact congrArg (fun t => ys[t]?) (by omega) | (rw [← hg _ (by omega)]; done) | skip


set_option maxHeartbeats 1000000 in
/-- slices.Replace (element type 56). -/
theorem fn51 {w : World} {K : Value → World → Prop} {E : List PanicEntry → World → Prop} {a a2 : Option Addr} {n c n2 c2 : Nat} {xs ys : List Value} {i j : Int} (hs : SRow w 56 2 a n c xs) (hv : SRow w 56 2 a2 n2 c2 ys) (hd : ∀ b ∈ ownB a2 c2, b ∉ ownB a c)
    (hn : n + n2 ≤ 1000000) (h0 : 0 ≤ i) (hij : i ≤ j) (hi : j ≤ n) (hx1 : ∀ y ∈ xs, y.oneCell' = true) (hy1 : ∀ y ∈ ys, y.oneCell' = true)
    (hk : ∀ w' a' c', SRow w' 56 2 a' (i.toNat + n2 + (n - j.toNat)) c' (xs.take (i.toNat * 2) ++ ys ++ xs.drop (j.toNat * 2)) → Same (ownB a c) w w' → (∀ b ∈ ownB a' c', b ∈ ownB a c ∨ w.heap.size ≤ b) → K (.slice a' (i.toNat + n2 + (n - j.toNat)) c') w') :
    FN Try.prog 51 #[.slice a n c, .int .i64 i, .int .i64 j, .slice a2 n2 c2] w K E := by
  have hsb : slB Try.prog 52 = some (56, 2, 16, [.int .i64 0, .int .i64 0]) := by kernel_rfl
  obtain ⟨m, rfl⟩ : ∃ m : Nat, i = m := ⟨i.toNat, by omega⟩
  obtain ⟨q, rfl⟩ : ∃ q : Nat, j = q := ⟨j.toNat, by omega⟩
  simp only [Int.toNat_natCast] at hk
  have hlx := hs.1
  have hly := hv.1
  have hnc := hs.2.1
  have hq : q ≤ n := by omega
  have hmq : m ≤ q := by omega
  refine R51_ok (slLH hsb h0 hij (by omega) ⟨_, _, _, rfl, BIF.mk (fun hc => ?_) fun hc => ?_⟩)
  · have e0 : m = q := by have : (m : Int) = q := by simpa using hc
                          omega
    subst e0
    have e1 : m + n2 + (n - m) = n + n2 := by omega
    rw [e1] at hk
    exact fn68 hs hv hd hn h0 hi hx1 hy1 fun w' a' c' h1 h2 h3 => ⟨_, _, _, rfl, hk w' a' c' (by simpa using h1) h2 h3⟩
  have hmq' : m < q := by have : ¬ (m : Int) = q := by simpa using hc
                          omega
  obtain ⟨b, o, cur, rfl, ho, hb, hcl, hg⟩ := hs.whole (by omega)
  refine BIF.mk (fun hc => ?_) fun hc => ?_
  · have e : q = n := by have : (q : Int) = n := by simpa using hc
                         omega
    subst e
    simp only [Nat.sub_self, Nat.add_zero, List.drop_eq_nil_of_le (Nat.le_of_eq hlx), List.append_nil] at hk
    refine slH hsb h0 (by omega) ?_
    simp only [sliced_zero, Int.toNat_natCast]
    refine ⟨_, _, _, rfl, ?_⟩
    by_cases hroom : m + n2 ≤ c
    · refine appendInR (n := m) hsb hb hcl hroom hv.seen hy1 fun w1 hb1 hs1 hz1 => ⟨_, _, _, rfl, ?_⟩
      have hl1 : o + m * 2 + ys.length ≤ cur.length := by omega
      refine BIF.dec (fun hc => ?_) fun hc => ?_
      · refine slL hsb (by omega) (by omega) ?_
        rw [Int.toNat_natCast, sliced_in (by omega)]
        refine ⟨_, _, _, rfl, clearR hsb (by decide) rfl hb1 (by rw [splice_length hl1]; omega) fun w2 zs hzl hb2 hs2 hz2 => ?_⟩
        have hl2 : o + (m + n2) * 2 + zs.length ≤ (splice cur (o + m * 2) ys).length := by rw [splice_length hl1]; omega
        refine hk w2 (some ⟨b, o, none⟩) c (SRow.ofGet hb2 (by rw [splice_length hl2, splice_length hl1]; omega) hroom (by simp only [List.length_append, List.length_take]; omega) fun k hk => ?_) (by rw [ho]; exact hs1.trans hs2) fun x hx => .inl hx
        rw [splice_get hl2, splice_get hl1]
        simp only [List.getElem?_append, List.getElem?_take, List.getElem?_drop, List.length_take, List.length_append, List.length_drop]
        repeat' split
        all_goals first | omega | exact congrArg (fun t => xs[t]?) (by omega) | exact congrArg (fun t => ys[t]?) (by omega) | (rw [← hg _ (by omega)]; done) | skip
      · refine hk w1 (some ⟨b, o, none⟩) c (SRow.ofGet hb1 (by rw [splice_length hl1]; omega) hroom (by simp only [List.length_append, List.length_take]; omega) fun k hk => ?_) (by rw [ho]; exact hs1) fun x hx => .inl hx
        rw [splice_get hl1]
        simp only [List.getElem?_append, List.getElem?_take, List.getElem?_drop, List.length_take, List.length_append, List.length_drop]
        repeat' split
        all_goals first | omega | exact congrArg (fun t => xs[t]?) (by omega) | exact congrArg (fun t => ys[t]?) (by omega) | (rw [← hg _ (by omega)]; done) | skip
    · refine appendR hsb (hs.sub0 (m := m) (by omega)) hv hy1 (by omega) (by simp only [maxLen]; omega) rfl fun w1 a1 c1 hr1 hs1 ho1 => ⟨_, _, _, rfl, ?_⟩
      refine BIF.dec (fun hc => ?_) fun hc => hk w1 a1 c1 hr1 hs1 ho1
      exfalso
      omega
  have hqn : q < n := by have : ¬ (q : Int) = n := by simpa using hc
                         omega
  refine DRAW.any (HELD.slH hsb trivial h0 (by omega) ?_)
  simp only [sliced_zero, Int.toNat_natCast]
  refine ⟨_, _, _, rfl, HELD.slL hsb trivial (by omega) hi ?_⟩
  rw [Int.toNat_natCast, sliced_in (by omega)]
  refine ⟨_, _, _, rfl, ?_⟩
  have e1 : IntKind.wrap .i64 ((m : Int) + n2) = ((m + n2 : Nat) : Int) := by rw [wrap64 (by omega) (by omega)]; omega
  have e2 : IntKind.wrap .i64 (((m + n2 : Nat) : Int) + ((n - q : Nat) : Int)) = ((m + n2 + (n - q) : Nat) : Int) := by rw [wrap64 (by omega) (by omega)]; omega
  have e3 : IntKind.wrap .i64 (((m + n2 + (n - q) : Nat) : Int) - m) = ((n2 + (n - q) : Nat) : Int) := by rw [wrap64 (by omega) (by omega)]; omega
  rw [e1, e2, e3]
  clear e1 e2 e3
  have hsd : SRow (drew w) 56 2 (some ⟨b, o, none⟩) n c xs := hs.keep (Same.refl [] w).drew (by simp)
  have hvd : SRow (drew w) 56 2 a2 n2 c2 ys := hv.keep (Same.refl [] w).drew (by simp)
  have hbd : Blk (drew w) b 56 cur := hb
  refine BIF.dec (fun hc => ?_) fun hc => ?_
  · -- no room
    refine slH hsb h0 (by omega) ?_
    simp only [sliced_zero, Int.toNat_natCast]
    refine ⟨_, _, _, rfl, growR (n := m) (k := n2 + (n - q)) hsb rfl (by decide) ⟨.i64, by kernel_rfl⟩ (hsd.sub0 (by omega)) (by omega) (by omega) (by omega) (by simp only [maxLen]; omega) ?_⟩
    intro w1 b1 cap zs hb1n hzl hcap hb1 hs1
    have hs1 := hs1.of_drew
    have hb1n : w.heap.size ≤ b1 := hb1n
    have e4 : m + (n2 + (n - q)) = m + n2 + (n - q) := by omega
    rw [e4] at hcap ⊢
    refine ⟨_, _, _, rfl, slL hsb h0 (by omega) ?_⟩
    rw [Int.toNat_natCast, sliced_in (by omega)]
    refine ⟨_, _, _, rfl, copyR hsb hb1 (by simp; omega) ((hv.keep hs1 (by simp)).seen) (fun y hy => hy1 y (List.mem_of_mem_take hy)) fun w2 hb2 hs2 hz2 => ⟨_, rfl, ?_⟩⟩
    have hs12 : Same [] w w2 := hs1.then hs2 fun x hx => .inr (by rw [List.mem_singleton.1 hx]; exact hb1n)
    refine DRAW.any (HELD.slL hsb trivial (by omega) (by omega) ?_)
    rw [Int.toNat_natCast, sliced_in (by omega)]
    refine ⟨_, _, _, rfl, HELD.slL hsb trivial (by omega) hi ?_⟩
    rw [Int.toNat_natCast, sliced_in (by omega)]
    refine ⟨_, _, _, rfl, ?_⟩
    have hsub : SRow (drew w2) 56 2 (some ⟨b, o + q * 2, none⟩) (n - q) (c - q) (xs.drop (q * 2)) := by
      have := (hs.keep hs12.drew (by simp)).sub (l := q) (h := n) (m := c) (by omega) (by omega) (by omega) (by omega)
      rw [if_neg (by omega)] at this
      rw [List.take_of_length_le (by simp; omega)] at this
      simpa [add_mk] using this
    have e5 : min n2 (m + n2 + (n - q) - m) = n2 := by omega
    have e6 : min (n - q) (m + n2 + (n - q) - (m + n2)) = n - q := by omega
    rw [e5, List.take_of_length_le (l := ys) (by omega)] at hb2
    have hzl' : (xs.take (m * 2) ++ zs).length = cap * 2 := by rw [List.length_append, List.length_take]; omega
    have hl1 : 0 + m * 2 + ys.length ≤ (xs.take (m * 2) ++ zs).length := by rw [hzl']; omega
    have hl2 : (splice (xs.take (m * 2) ++ zs) (0 + m * 2) ys).length = cap * 2 := by rw [splice_length hl1, hzl']
    refine copyR (b := b1) hsb hb2 (by rw [hl2]; omega) hsub.seen (fun y hy => hx1 y (List.mem_of_mem_drop (List.mem_of_mem_take hy))) fun w3 hb3 hs3 hz3 => ⟨_, rfl, ?_⟩
    have hs13 : Same [] w w3 := hs12.then hs3.of_drew fun x hx => .inr (by rw [List.mem_singleton.1 hx]; exact hb1n)
    rw [e6, List.take_of_length_le (l := xs.drop (q * 2)) (by simp; omega)] at hb3
    have hlg : 0 + (m + n2) * 2 + (xs.drop (q * 2)).length ≤ (splice (xs.take (m * 2) ++ zs) (0 + m * 2) ys).length := by rw [hl2, List.length_drop]; omega
    refine hk w3 (some ⟨b1, 0, none⟩) cap (SRow.ofGet hb3 (by rw [splice_length hlg, hl2]; omega) hcap (by simp only [List.length_append, List.length_take, List.length_drop]; omega) fun k hk => ?_) hs13.nil fun x hx => .inr (by
      simp only [ownB] at hx
      split at hx
      · cases hx
      · rw [List.mem_singleton.1 hx]; exact hb1n)
    rw [splice_get hlg, splice_get hl1]
    simp only [List.getElem?_append, List.getElem?_take, List.getElem?_drop, List.length_take, List.length_append, List.length_drop]
    repeat' split
    all_goals first | omega | exact congrArg (fun t => xs[t]?) (by omega) | exact congrArg (fun t => ys[t]?) (by omega) | skip
  · -- room
    have hc' : m + n2 + (n - q) ≤ c := by omega
    refine slH hsb (by omega) (by omega) ?_
    simp only [sliced_zero, Int.toNat_natCast]
    refine ⟨_, _, _, rfl, ?_⟩
    have hsub0 : SRow (drew w) 56 2 (some ⟨b, o + q * 2, none⟩) (n - q) (c - q) (xs.drop (q * 2)) := by
      have := hsd.sub (l := q) (h := n) (m := c) (by omega) (by omega) (by omega) (by omega)
      rw [if_neg (by omega)] at this
      rw [List.take_of_length_le (by simp; omega)] at this
      simpa [add_mk] using this
    refine BIF.dec (fun hc2 => ?_) fun hc2 => ?_
    · -- not longer
      refine slL hsb h0 (by omega) ?_
      rw [Int.toNat_natCast, sliced_in (by omega)]
      refine ⟨_, _, _, rfl, copyR hsb hbd (by omega) hvd.seen (fun y hy => hy1 y (List.mem_of_mem_take hy)) fun w2 hb2 hs2 hz2 => ⟨_, rfl, ?_⟩⟩
      have e5 : min n2 (m + n2 + (n - q) - m) = n2 := by omega
      rw [e5, List.take_of_length_le (l := ys) (by omega)] at hb2
      have hl1 : o + m * 2 + ys.length ≤ cur.length := by omega
      refine DRAW.any (HELD.slL hsb trivial (by omega) (by omega) ?_)
      rw [Int.toNat_natCast, sliced_in (by omega)]
      refine ⟨_, _, _, rfl, HELD.slL hsb trivial (by omega) hi ?_⟩
      rw [Int.toNat_natCast, sliced_in (by omega)]
      refine ⟨_, _, _, rfl, ?_⟩
      have hbd2 : Blk (drew w2) b 56 (splice cur (o + m * 2) ys) := hb2
      have hsub : SRow (drew w2) 56 2 (some ⟨b, o + q * 2, none⟩) (n - q) (c - q) (xs.drop (q * 2)) := by
        refine SRow.ofGet hbd2 (by rw [splice_length hl1]; omega) (by omega) (by rw [List.length_drop]; omega) fun k hk => ?_
        rw [splice_get hl1]
        simp only [List.getElem?_drop]
        repeat' split
        all_goals first | omega | (rw [← hg _ (by omega)]; exact congrArg (fun t => cur[t]?) (by omega))
      have e6 : min (n - q) (m + n2 + (n - q) - (m + n2)) = n - q := by omega
      refine copyR (b := b) hsb hbd2 (by rw [splice_length hl1]; omega) hsub.seen (fun y hy => hx1 y (List.mem_of_mem_drop (List.mem_of_mem_take hy))) fun w3 hb3 hs3 hz3 => ⟨_, rfl, ?_⟩
      rw [e6, List.take_of_length_le (l := xs.drop (q * 2)) (by simp; omega)] at hb3
      have hl2 : o + (m + n2) * 2 + (xs.drop (q * 2)).length ≤ (splice cur (o + m * 2) ys).length := by rw [splice_length hl1, List.length_drop]; omega
      refine slL hsb (by omega) (by omega) ?_
      obtain ⟨o', ho', ho2, e7⟩ := sliced_in' b o (((m + n2 + (n - q) : Nat) : Int).toNat) n c 2
      rw [e7]
      clear e7
      simp only [Int.toNat_natCast] at ho' ho2 ⊢
      have hlo : o' + (n - (m + n2 + (n - q))) * 2 ≤ cur.length := by
        by_cases hz : c = m + n2 + (n - q)
        · have : n - (m + n2 + (n - q)) = 0 := by omega
          rw [this, ho2 hz]; omega
        · rw [ho' hz]; omega
      have hl3 : ∀ zs : List Value, zs.length = (n - (m + n2 + (n - q))) * 2 → o' + zs.length ≤ (splice (splice cur (o + m * 2) ys) (o + (m + n2) * 2) (xs.drop (q * 2))).length := fun zs hz => by rw [splice_length hl2, splice_length hl1, hz]; exact hlo
      refine ⟨_, _, _, rfl, clearR hsb (by decide) rfl hb3 (by rw [splice_length hl2, splice_length hl1]; exact hlo) fun w4 zs hzl hb4 hs4 hz4 => ?_⟩
      refine hk w4 (some ⟨b, o, none⟩) c (SRow.ofGet hb4 (by rw [splice_length (hl3 zs hzl), splice_length hl2, splice_length hl1]; omega) hc' (by simp only [List.length_append, List.length_take, List.length_drop]; omega) fun k hk => ?_)
        (by rw [ho]; exact ((hs2.of_drew).trans hs3.of_drew).trans hs4) fun x hx => .inl hx
      have hz0 : zs.length ≠ 0 → o' = o + (m + n2 + (n - q)) * 2 := fun h => ho' (by omega)
      rw [splice_get (hl3 zs hzl), splice_get hl2, splice_get hl1]
      simp only [List.getElem?_append, List.getElem?_take, List.getElem?_drop, List.length_take, List.length_append, List.length_drop]
      by_cases hzz : zs.length = 0
      · rw [hzz]
        repeat' split
        all_goals first | omega | exact congrArg (fun t => xs[t]?) (by omega) | exact congrArg (fun t => ys[t]?) (by omega) | (rw [← hg _ (by omega)]; done) | skip
      · rw [hz0 hzz]
        repeat' split
        all_goals first | omega | exact congrArg (fun t => xs[t]?) (by omega) | exact congrArg (fun t => ys[t]?) (by omega) | (rw [← hg _ (by omega)]; done) | skip
    · -- longer
      have hn2 : 0 < n2 := by omega
      obtain ⟨b2, o2, cur2, rfl, hob, hb2, hcl2, hg2⟩ := hvd.whole (by have := hv.2.1; omega)
      have hne : b2 ≠ b := fun e => hd b2 (by rw [hob]; simp) (by rw [ho, e]; simp)
      refine slL hsb (by omega) (by omega) ?_
      rw [Int.toNat_natCast, sliced_in (by omega)]
      refine ⟨_, _, _, rfl, overlapsR69 hbd hb2 (Ne.symm hne) (fun e => by rw [e] at hcl2; simp at hcl2; have := hv.2.1; omega) ⟨_, rfl, BIF.yes rfl ?_⟩⟩
      refine DRAW.any (HELD.slL hsb trivial (by omega) (by omega) ?_)
      rw [Int.toNat_natCast, sliced_in (by omega)]
      refine ⟨_, _, _, rfl, HELD.slL hsb trivial (by omega) hi ?_⟩
      rw [Int.toNat_natCast, sliced_in (by omega)]
      refine ⟨_, _, _, rfl, ?_⟩
      have hbd2 : Blk (drew (drew w)) b 56 cur := hb
      have hsub1 : SRow (drew (drew w)) 56 2 (some ⟨b, o + q * 2, none⟩) (n - q) (c - q) (xs.drop (q * 2)) := hsub0.keep (Same.refl [] _).drew (by simp)
      have e6 : min (n - q) (m + n2 + (n - q) - (m + n2)) = n - q := by omega
      refine copyR (b := b) hsb hbd2 (by omega) hsub1.seen (fun y hy => hx1 y (List.mem_of_mem_drop (List.mem_of_mem_take hy))) fun w3 hb3 hs3 hz3 => ⟨_, rfl, ?_⟩
      rw [e6, List.take_of_length_le (l := xs.drop (q * 2)) (by simp; omega)] at hb3
      have hl1 : o + (m + n2) * 2 + (xs.drop (q * 2)).length ≤ cur.length := by rw [List.length_drop]; omega
      refine slL hsb h0 (by omega) ?_
      rw [Int.toNat_natCast, sliced_in (by omega)]
      have hv3 := hv.keep (hs3.of_drew.of_drew) (fun x hx hn => hd x hx (by rw [ho]; exact hn))
      refine ⟨_, _, _, rfl, copyR hsb hb3 (by rw [splice_length hl1]; omega) hv3.seen (fun y hy => hy1 y (List.mem_of_mem_take hy)) fun w4 hb4 hs4 hz4 => ⟨_, rfl, ?_⟩⟩
      have e5 : min n2 (m + n2 + (n - q) - m) = n2 := by omega
      rw [e5, List.take_of_length_le (l := ys) (by omega)] at hb4
      have hl2 : o + m * 2 + ys.length ≤ (splice cur (o + (m + n2) * 2) (xs.drop (q * 2))).length := by rw [splice_length hl1]; omega
      refine hk w4 (some ⟨b, o, none⟩) c (SRow.ofGet hb4 (by rw [splice_length hl2, splice_length hl1]; omega) hc' (by simp only [List.length_append, List.length_take, List.length_drop]; omega) fun k hk => ?_) (by rw [ho]; exact hs3.of_drew.of_drew.trans hs4) fun x hx => .inl hx
      rw [splice_get hl2, splice_get hl1]
      simp only [List.getElem?_append, List.getElem?_take, List.getElem?_drop, List.length_take, List.length_append, List.length_drop]
      repeat' split
      all_goals first | omega | exact congrArg (fun t => xs[t]?) (by omega) | exact congrArg (fun t => ys[t]?) (by omega) | (rw [← hg _ (by omega)]; done) | skip


section
variable {g w w' : World} {L R : List Asn}
variable {K : Value → World → Prop} {E : List PanicEntry → World → Prop}

theorem sb52 : slB Try.prog 52 = some (56, 2, 16, [.int .i64 0, .int .i64 0]) := by kernel_rfl

/-- slices.Clone -/
theorem fn49 {d : D} {xs : List Value} (h : SAT g w L) (hd : SRow w 56 2 d.1 d.2.1 d.2.2 xs) (hn : d.2.1 ≤ 1000000) (ho : ∀ y ∈ xs, y.oneCell' = true)
    (hk : ∀ w' d', SAT g w' (row 56 2 d' xs :: L) → Same [] w w' → K (sl d') w') :
    FN Try.prog 49 #[sl d] w K E := by
  refine R49_ok (eqlSlNil sb52 ⟨_, rfl, BIF.mk (fun hc => ?_) fun hc => ?_⟩)
  · have h0 : xs = [] := by
      rcases Nat.eq_zero_or_pos d.2.1 with h0 | hp
      · exact List.eq_nil_of_length_eq_zero (by simp [hd.1, h0])
      · obtain ⟨b, o, cs, e, _⟩ := hd.open hp
        rw [e] at hc; cases hc
    subst h0
    exact hk w (none, 0, 0) (h.newRow (Same.refl _ _) (SRow.nil w 56 2 none) (by simp [ownB])) (Same.refl _ _)
  · refine lit0R sb52 fun w1 b hb hs1 _ => ⟨_, _, _, rfl, ?_⟩
    refine appendR sb52 (SRow.nil w1 56 2 _) (hd.keep hs1 (by simp)) ho (by omega) (by simp only [maxLen]; omega) rfl ?_
    intro w2 a2 c2 hr2 hs2 ho2
    have hs2 : Same [] w1 w2 := by simpa [ownB] using hs2
    exact ⟨_, _, _, rfl, hk w2 (a2, 0 + d.2.1, c2) (h.newRow (hs1.trans hs2) (by simpa using hr2) fun b hb => Nat.le_trans hs1.size ((ho2 b hb).resolve_left (by simp [ownB]))) (hs1.trans hs2)⟩

end
end Go.Proofs.Ytdabjchdmieegaa

