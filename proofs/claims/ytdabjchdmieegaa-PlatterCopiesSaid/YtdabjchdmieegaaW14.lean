/-
  What came in, opened: a list of deeds.
-/
import Derived.Test.YtdabjchdmieegaaW13
import Derived.Deep.Grids
import Derived.Deep.SlicePairs
import Derived.ProofKit
set_option linter.unusedVariables false
namespace Go.Proofs.Ytdabjchdmieegaa
open Go Go.Lift Go.RowKit Go.ChangeShapes Go.WideShapes Go.Deep

theorem cell_lt {w : World} {b o : Nat} {sp : Option Nat} {v : Value} (h : w.cell? ⟨b, o, sp⟩ = some v) : b < w.heap.size := by
  rcases Nat.lt_or_ge b w.heap.size with h' | h'
  · exact h'
  · simp [World.cell?, Array.getElem?_eq_none h'] at h

section
variable {H : Type} {enc : TypeId × Value → H} {w : World} {base : Nat} {held : Bool}

theorem mkIRow {sz : Nat} {a : Addr} {n c : Nat} {xs : List Value} (hsz : 0 < sz) (hl : xs.length = n * sz) (hc : n ≤ c) (h : ∀ j u, xs[j]? = some u → w.cell? (a.add j) = some u) : IRow w sz (some a) n c xs := by
  refine ⟨hl, hc, ?_⟩
  rcases Nat.eq_zero_or_pos n with h0 | hp
  · exact .inl h0
  · obtain ⟨b, o, sp⟩ := a
    have h0 : 0 < xs.length := by rw [hl]; exact Nat.mul_pos hp hsz
    have hx := h 0 _ (List.getElem?_eq_getElem h0)
    have hsp : sp = none := by simpa [Addr.add] using World.cell?_spot hx
    subst hsp
    exact .inr ⟨b, o, rfl, cell_lt (by simpa [add_mk] using hx), fun j u hu => by rw [← add_mk]; exact h j u hu⟩

theorem IRow.lt {sz : Nat} {a : Option Addr} {n c : Nat} {xs : List Value} (h : IRow w sz a n c xs) : ∀ b ∈ seenB a n, b < w.heap.size := by
  intro b hb
  unfold seenB at hb
  split at hb
  · split at hb
    · cases hb
    · rename_i a _ hn
      rcases h.2.2 with h0 | ⟨b', o, e, hlt, _⟩
      · exact absurd h0 hn
      · cases e
        rw [List.mem_singleton.1 hb]; exact hlt
  · cases hb

theorem open_keep {fuel : Nat} {cs : List Value} {x : DataW H × List MemPlace} (h : DataW.trod enc Try.prog w base (fun _ => true) held fuel 32 cs = some x) :
    ∃ (d : D) (keep : List Bool), cs = [sl d] ∧ IRow w 1 d.1 d.2.1 d.2.2 (keep.map .bool) := by
  rcases open_bools (P := Try.prog) Try.underlying32 Try.underlying4 (by kernel_rfl) h with ⟨rfl, _⟩ | ⟨a, len, cap, B, rfl, _, hl, _, _, hc⟩
  · exact ⟨(none, 0, 0), [], rfl, (SRow.nil w 4 1 none).seen⟩
  · refine ⟨(some a, len, cap), (List.range len).map B, rfl, mkIRow (by omega) (by simp) hl fun j u hu => ?_⟩
    simp only [List.map_map, List.getElem?_map] at hu
    have hj : j < len := by
      rcases Nat.lt_or_ge j len with h | h
      · exact h
      · rw [List.getElem?_eq_none (by simpa using h)] at hu; simp at hu
    rw [List.getElem?_range hj] at hu
    simp at hu
    rw [← hu]
    exact hc j (by omega)

theorem trod_i64 {fuel : Nat} {cs : List Value} {x : DataW H × List MemPlace} (h : DataW.trod enc Try.prog w base (fun _ => true) held fuel 3 cs = some x) : ∃ n, cs = [.int .i64 n] ∧ (Lit.int .i64 n).wf = true := by
  obtain ⟨n, h1, _, h2⟩ := DataW.trod_int (P := Try.prog) Try.underlying3 h
  exact ⟨n, h1, h2⟩

theorem open_flt {fuel : Nat} {cs : List Value} {x : DataW H × List MemPlace} (h : DataW.trod enc Try.prog w base (fun _ => true) held fuel 33 cs = some x) :
    ∃ (d : D) (F : List (Int × Int)), cs = [sl d] ∧ IRow w 2 d.1 d.2.1 d.2.2 (pairs F) := by
  rcases open_slice_pairs (P := Try.prog) Try.underlying33 Try.underlying106 (by kernel_rfl) (by kernel_rfl) (by kernel_rfl) (by kernel_rfl) (by kernel_rfl) h with ⟨rfl, _⟩ | ⟨a, len, cap, m, n, V0, V1, D0, D1, P0, P1, rfl, _, hl, _, hm, _, hx⟩
  · exact ⟨(none, 0, 0), [], rfl, (SRow.nil w 106 2 none).seen⟩
  · simp only [if_true] at hm
    subst hm
    obtain ⟨f, hf⟩ := choose_lt (α := Int × Int) (n := len) (p := fun i f => V0 i = .int .i64 f.1 ∧ V1 i = .int .i64 f.2) (fun i hi => by
      obtain ⟨_, _, h1, h2⟩ := hx i (by omega)
      obtain ⟨n1, e1, _⟩ := trod_i64 h1
      obtain ⟨n2, e2, _⟩ := trod_i64 h2
      exact ⟨(n1, n2), by simpa using e1, by simpa using e2⟩)
    refine ⟨(some a, len, m), (List.range len).map f, rfl, mkIRow (by omega) (by rw [pairs_len]; simp; omega) hl fun j u hu => ?_⟩
    have hj : j < 2 * len := by
      rcases Nat.lt_or_ge j (2 * len) with h | h
      · exact h
      · rw [List.getElem?_eq_none (by rw [pairs_len]; simpa using h)] at hu; simp at hu
    have hi : j / 2 < len := by omega
    have hg : ((List.range len).map f)[j / 2]? = some (f (j / 2)) := by simp [hi]
    have hp := pairs_get _ _ _ hg
    obtain ⟨c0, c1, _, _⟩ := hx (j / 2) (by omega)
    rcases Nat.mod_two_eq_zero_or_one j with h2 | h2
    · have e : j = j / 2 * 2 := by omega
      rw [e, hp.1] at hu
      rw [e, c0, (hf _ hi).1]; exact hu
    · have e : j = j / 2 * 2 + 1 := by omega
      rw [e, hp.2] at hu
      rw [e, c1, (hf _ hi).2]; exact hu

set_option maxRecDepth 100000 in
theorem open_deed {fuel : Nat} {cs : List Value} {x : DataW H × List MemPlace} (h : DataW.trod enc Try.prog w base (fun _ => true) held fuel 35 cs = some x) :
    ∃ (d : Dd) (k f : D), cs = d.cells k f ∧ Deed w.heap.size w d k f := by
  obtain ⟨xs, n, _, _, hl, hlen, hf⟩ := DataW.trod_struct (P := Try.prog) Try.underlying35 h
  have hcs : cs.length = 6 := by rw [hl]; kernel_rfl
  match cs, hcs with
  | [c0, c1, c2, c3, c4, c5], _ =>
    have some_of : ∀ (i : Nat), i < 6 → ∃ y, xs[i]? = some y := fun i hi => ⟨xs[i]'(by rw [hlen]; exact hi), List.getElem?_eq_getElem _⟩
    have z3 : Try.prog.cellsOf 3 = 1 := by kernel_rfl
    have z5 : Try.prog.cellsOf 5 = 1 := by kernel_rfl
    have z31 : Try.prog.cellsOf 31 = 1 := by kernel_rfl
    have z32 : Try.prog.cellsOf 32 = 1 := by kernel_rfl
    have z33 : Try.prog.cellsOf 33 = 1 := by kernel_rfl
    obtain ⟨y0, g0⟩ := some_of 0 (by omega)
    obtain ⟨y1, g1⟩ := some_of 1 (by omega)
    obtain ⟨y2, g2⟩ := some_of 2 (by omega)
    obtain ⟨y3, g3⟩ := some_of 3 (by omega)
    obtain ⟨y4, g4⟩ := some_of 4 (by omega)
    obtain ⟨y5, g5⟩ := some_of 5 (by omega)
    have q0 : DataW.trod enc Try.prog w base (fun _ => true) held n 3 (([c0, c1, c2, c3, c4, c5].drop 0).take (Try.prog.cellsOf 3)) = xs[0]? := hf 0 _ rfl
    rw [z3, g0] at q0
    have q1 : DataW.trod enc Try.prog w base (fun _ => true) held n 3 (([c0, c1, c2, c3, c4, c5].drop 1).take (Try.prog.cellsOf 3)) = xs[1]? := hf 1 _ rfl
    rw [z3, g1] at q1
    have q2 : DataW.trod enc Try.prog w base (fun _ => true) held n 5 (([c0, c1, c2, c3, c4, c5].drop 2).take (Try.prog.cellsOf 5)) = xs[2]? := hf 2 _ rfl
    rw [z5, g2] at q2
    have q3 : DataW.trod enc Try.prog w base (fun _ => true) held n 31 (([c0, c1, c2, c3, c4, c5].drop 3).take (Try.prog.cellsOf 31)) = xs[3]? := hf 3 _ rfl
    rw [z31, g3] at q3
    have q4 : DataW.trod enc Try.prog w base (fun _ => true) held n 32 (([c0, c1, c2, c3, c4, c5].drop 4).take (Try.prog.cellsOf 32)) = xs[4]? := hf 4 _ rfl
    rw [z32, g4] at q4
    have q5 : DataW.trod enc Try.prog w base (fun _ => true) held n 33 (([c0, c1, c2, c3, c4, c5].drop 5).take (Try.prog.cellsOf 33)) = xs[5]? := hf 5 _ rfl
    rw [z33, g5] at q5
    obtain ⟨n0, e0, _⟩ := DataW.trod_int (P := Try.prog) Try.underlying3 q0
    obtain ⟨n1, e1, _⟩ := DataW.trod_int (P := Try.prog) Try.underlying3 q1
    obtain ⟨n2, e2, _, w2⟩ := DataW.trod_int (P := Try.prog) Try.underlying5 q2
    obtain ⟨n3, e3, _, w3⟩ := DataW.trod_int (P := Try.prog) Try.underlying31 q3
    obtain ⟨k, keep, e4, hk⟩ := open_keep q4
    obtain ⟨f, F, e5, hF⟩ := open_flt q5
    have r2 : 0 ≤ n2 ∧ n2 < 256 := by
      have h : IntKind.u8.min ≤ n2 ∧ n2 ≤ IntKind.u8.max := by simpa [Lit.wf] using w2
      have e1 : IntKind.u8.min = 0 := rfl
      have e2 : IntKind.u8.max = 255 := rfl
      omega
    have r3 : 0 ≤ n3 ∧ n3 < 4294967296 := by
      have h : IntKind.u32.min ≤ n3 ∧ n3 ≤ IntKind.u32.max := by simpa [Lit.wf] using w3
      have e1 : IntKind.u32.min = 0 := rfl
      have e2 : IntKind.u32.max = 4294967295 := rfl
      omega
    refine ⟨⟨n0, n1, n2.toNat, n3.toNat, keep, F, by omega, by omega⟩, k, f, ?_, hk, hF, IRow.lt hk, IRow.lt hF⟩
    simp only [List.drop, List.take, List.cons.injEq, and_true] at e0 e1 e2 e3 e4 e5
    subst e0 e1 e2 e3 e4 e5
    simp [Int.toNat_of_nonneg r2.1, Int.toNat_of_nonneg r3.1]
instance : Inhabited Dd := ⟨d4 0⟩

theorem open_deeds {fuel : Nat} {cs : List Value} {x : DataW H × List MemPlace} (h : DataW.trod enc Try.prog w base (fun _ => true) held fuel 22 cs = some x) :
    ∃ (l : D) (L : List (Dd × D × D)), cs = [sl l] ∧ Deeds w.heap.size w l L := by
  rcases open_slice (P := Try.prog) Try.underlying22 h with ⟨rfl, _⟩ | ⟨a, len, cap, m, n, D0, Pl, rfl, _, hl, _, hm, _, hx⟩
  · exact ⟨(none, 0, 0), [], rfl, (SRow.nil w 35 6 none).seen, by simp [seenB], by simp⟩
  · simp only [if_true] at hm
    subst hm
    have z35 : Try.prog.cellsOf 35 = 6 := by kernel_rfl
    rw [z35] at hx
    obtain ⟨f, hf⟩ := choose_lt (α := Dd × D × D) (n := len) (p := fun i x => w.cells? base (a.add (i * 6)) 6 = some (x.1.cells x.2.1 x.2.2) ∧ Deed w.heap.size w x.1 x.2.1 x.2.2) (fun i hi => by
      obtain ⟨cs', h1, h2⟩ := hx i (by omega)
      obtain ⟨d, k, f, rfl, hd⟩ := open_deed h2
      exact ⟨(d, k, f), h1, hd⟩)
    have hrow : IRow w 6 (some a) len m (((List.range len).map f).flatMap fun x => x.1.cells x.2.1 x.2.2) := by
      refine mkIRow (by omega) (by rw [deeds_len]; simp) hl fun j u hu => ?_
      have hj : j < len * 6 := by
        rcases Nat.lt_or_ge j (len * 6) with h | h
        · exact h
        · rw [List.getElem?_eq_none (by rw [deeds_len]; simpa using h)] at hu; simp at hu
      have hi : j / 6 < len := by omega
      have hg : ((List.range len).map f)[j / 6]? = some (f (j / 6)) := by simp [hi]
      obtain ⟨_, h6, hc⟩ := World.cells?_some (hf _ hi).1
      have hc' := hc (j % 6) (by omega)
      rw [add_add] at hc'
      have e : j / 6 * 6 + j % 6 = j := by omega
      obtain ⟨v, hv⟩ : ∃ v, ((f (j / 6)).1.cells (f (j / 6)).2.1 (f (j / 6)).2.2)[j % 6]? = some v := ⟨_, List.getElem?_eq_getElem (by rw [h6]; omega)⟩
      have := deeds_get _ _ _ hg _ _ hv
      rw [e] at hc' this
      rw [hc', hv, ← this, hu]
    refine ⟨(some a, len, m), (List.range len).map f, rfl, hrow, IRow.lt hrow, fun x hx' => ?_⟩
    obtain ⟨i, hi, rfl⟩ := List.mem_map.1 hx'
    exact (hf i (List.mem_range.1 hi)).2

end
end Go.Proofs.Ytdabjchdmieegaa
