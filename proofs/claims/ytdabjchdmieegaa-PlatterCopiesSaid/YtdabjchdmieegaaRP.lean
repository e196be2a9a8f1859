/- What the Go functions' texts ask, printed by gen.py (my own program) off Lean's print of the translation; each equation is checked by the kernel. -/
import Derived.Test.YtdabjchdmieegaaCtx
set_option linter.unusedVariables false
set_option maxRecDepth 100000
namespace Go.Proofs.Ytdabjchdmieegaa
open Go Go.Lift

/-- concertina/concertinalaw2.awake -/
def R8  (K : Value → World → Prop) (E : List PanicEntry → World → Prop) (w : World) : Prop :=
  FN Try.prog 9 #[(.int .i64 64)] w (fun r_1 w_2 =>
  ∃ (v_3 : Option Addr) (v_4 : Int), r_1 = (.tuple #[(.pointer v_3), (.int .i64 v_4)]) ∧
  JOIN (S := Unit) (fun K_5 =>
  BIF (v_4 != 0)
  (K (.bool false) w_2)
  (OPW Try.prog (sB .eql 24 (.pointer v_3) (.pointer none) (eqGuard .eql 24 (.tmp 17) (.const (.pointer none)) (.pointer v_3) (.pointer none))) w_2 (fun r_9 w_10 =>
  ∃ (v_11 : Bool), r_9 = (.bool v_11) ∧
  BIF v_11
  (K (.bool false) w_10)
  (K_5 (()) w_10))
  E))
  (fun _ s w_12 => 
  FN Try.prog 32 #[(.int .u8 7)] w_12 (fun r_13 w_14 =>
  ∃ (v_15 : Option Addr) (v_15l v_15c : Nat), r_13 = (.slice v_15 v_15l v_15c) ∧
  FN Try.prog 31 #[(.pointer v_3), (.int .i64 3), (.slice v_15 v_15l v_15c)] w_14 (fun r_16 w_17 =>
  ∃ (v_18 : Int), r_16 = (.int .i64 v_18) ∧
  FN Try.prog 33 #[(.pointer v_3), (.slice none 0 0)] w_17 (fun r_19 w_20 =>
  FN Try.prog 34 #[(.pointer v_3), (.int .i64 3)] w_20 (fun r_21 w_22 =>
  ∃ (v_23 : Option Addr) (v_23l v_23c : Nat) (v_24 : Int), r_21 = (.tuple #[(.slice v_23 v_23l v_23c), (.int .i64 v_24)]) ∧
  FN Try.prog 32 #[(.int .u8 7)] w_22 (fun r_25 w_26 =>
  ∃ (v_27 : Option Addr) (v_27l v_27c : Nat), r_25 = (.slice v_27 v_27l v_27c) ∧
  FN Try.prog 31 #[(.pointer v_3), (.int .i64 3), (.slice v_27 v_27l v_27c)] w_26 (fun r_28 w_29 =>
  ∃ (v_30 : Int), r_28 = (.int .i64 v_30) ∧
  FN Try.prog 35 #[(.pointer v_3)] w_29 (fun r_31 w_32 =>
  ∃ (v_33 : Int), r_31 = (.int .i64 v_33) ∧
  FN Try.prog 33 #[(.pointer v_3), (.slice none 0 0)] w_32 (fun r_34 w_35 =>
  FN Try.prog 34 #[(.pointer v_3), (.int .i64 3)] w_35 (fun r_36 w_37 =>
  ∃ (v_38 : Option Addr) (v_38l v_38c : Nat) (v_39 : Int), r_36 = (.tuple #[(.slice v_38 v_38l v_38c), (.int .i64 v_39)]) ∧
  DRAW w_37 (fun (S_40 : World → World → Prop) (w_41 : World) =>
  BIF (v_18 == 0)
  (BIF (v_24 == 0)
  (BIF (v_30 == 0)
  (BIF (v_33 == 0)
  (BIF (v_39 == 0)
  (HELD Try.prog S_40 (sV (convert 49 9 (.slice v_23 v_23l v_23c))) w_41 (fun r_42 =>
  ∃ (v_43 : ByteArray), r_42 = (.string v_43) ∧
  FN Try.prog 32 #[(.int .u8 0)] w_41 (fun r_44 w_45 =>
  ∃ (v_46 : Option Addr) (v_46l v_46c : Nat), r_44 = (.slice v_46 v_46l v_46c) ∧
  S_40 w_41 w_45 ∧ (HELD Try.prog S_40 (sV (convert 49 9 (.slice v_46 v_46l v_46c))) w_45 (fun r_47 =>
  ∃ (v_48 : ByteArray), r_47 = (.string v_48) ∧
  BIF (ByteArray.toList v_43 == ByteArray.toList v_48)
  (HELD Try.prog S_40 (sV (convert 49 9 (.slice v_38 v_38l v_38c))) w_45 (fun r_49 =>
  ∃ (v_50 : ByteArray), r_49 = (.string v_50) ∧
  FN Try.prog 32 #[(.int .u8 7)] w_45 (fun r_51 w_52 =>
  ∃ (v_53 : Option Addr) (v_53l v_53c : Nat), r_51 = (.slice v_53 v_53l v_53c) ∧
  S_40 w_45 w_52 ∧ (HELD Try.prog S_40 (sV (convert 49 9 (.slice v_53 v_53l v_53c))) w_52 (fun r_54 =>
  ∃ (v_55 : ByteArray), r_54 = (.string v_55) ∧
  K (.bool (ByteArray.toList v_50 == ByteArray.toList v_55)) w_52)))
  E))
  (K (.bool false) w_45))))
  E))
  (K (.bool false) w_41))
  (K (.bool false) w_41))
  (K (.bool false) w_41))
  (K (.bool false) w_41))
  (K (.bool false) w_41)))
  E)
  E)
  E)
  E)
  E)
  E)
  E)
  E)
  E))
  E
def plan8 : Plan := (.two .leaf (.two .leaf (.join [] (.two .leaf (.two (.two .leaf .leaf) .leaf)) (.two .leaf (.two .leaf (.two .leaf (.two .leaf (.two .leaf (.two .leaf (.two .leaf (.two (.draw (.take 0 (.take 1 (.take 2 (.split 3 (.take 3 (.take 4 (.take 5 (.take 6 (.split 7 (.take 7 (.take 8 (.take 9 (.take 10 (.split 11 (.take 11 (.take 12 (.take 13 (.take 14 (.split 15 (.take 15 (.take 16 (.take 17 (.take 18 (.split 19 (.take 19 (.take 20 (.cases [21] fun _ => (.take 22 (.take 23 (.take 24 (.take 25 (.split 26 (.take 26 (.take 27 (.cases [28] fun _ => (.take 29 (.take 30 (.take 31 (.take 32 .fin))))))) (.take 26 (.take 27 (.take 28 (.take 29 (.take 30 (.take 31 (.take 32 .fin))))))))))))))) (.take 19 (.take 20 (.take 21 (.take 22 (.take 23 (.take 24 (.take 25 (.take 26 (.take 27 (.take 28 (.take 29 (.take 30 (.take 31 (.take 32 .fin))))))))))))))))))) (.take 15 (.take 16 (.take 17 (.take 18 (.take 19 (.take 20 (.take 21 (.take 22 (.take 23 (.take 24 (.take 25 (.take 26 (.take 27 (.take 28 (.take 29 (.take 30 (.take 31 (.take 32 .fin))))))))))))))))))))))) (.take 11 (.take 12 (.take 13 (.take 14 (.take 15 (.take 16 (.take 17 (.take 18 (.take 19 (.take 20 (.take 21 (.take 22 (.take 23 (.take 24 (.take 25 (.take 26 (.take 27 (.take 28 (.take 29 (.take 30 (.take 31 (.take 32 .fin))))))))))))))))))))))))))) (.take 7 (.take 8 (.take 9 (.take 10 (.take 11 (.take 12 (.take 13 (.take 14 (.take 15 (.take 16 (.take 17 (.take 18 (.take 19 (.take 20 (.take 21 (.take 22 (.take 23 (.take 24 (.take 25 (.take 26 (.take 27 (.take 28 (.take 29 (.take 30 (.take 31 (.take 32 .fin))))))))))))))))))))))))))))))) (.take 3 (.take 4 (.take 5 (.take 6 (.take 7 (.take 8 (.take 9 (.take 10 (.take 11 (.take 12 (.take 13 (.take 14 (.take 15 (.take 16 (.take 17 (.take 18 (.take 19 (.take 20 (.take 21 (.take 22 (.take 23 (.take 24 (.take 25 (.take 26 (.take 27 (.take 28 (.take 29 (.take 30 (.take 31 (.take 32 .fin))))))))))))))))))))))))))))))))))) .leaf)))))))))))
noncomputable def code8 : Code := match Try.f8.body with | some c => c | none => .skip
theorem eq8  (K : Value → World → Prop) (E : List PanicEntry → World → Prop) (w : World) : R8  K E w = ewp ctx code8 plan8 (retQ ctx.P Try.f8 K E) (argEnv []) [] w := by kernel_rfl
theorem okc8 : okC Try.f8.ntmps (bif hasDefer code8 then [] else writes code8) code8 plan8 = true := by kernel_rfl
theorem R8_ok {_u : Unit} {K : Value → World → Prop} {E : List PanicEntry → World → Prop} {w : World} (h : R8  K E w) : FN Try.prog 8 #[] w K E :=
  FN_of_ewp (C := ctx) ctx_ok ctx_mixed Try.func8 (c := code8) (by kernel_rfl) (args := []) (Nat.le_of_ble_eq_true (by kernel_rfl)) okc8 (eq8  K E w ▸ h)

/-- concertina/platter.New -/
def R9 (blocks_1 : Int) (K : Value → World → Prop) (E : List PanicEntry → World → Prop) (w : World) : Prop :=
  JOIN (S := Unit) (fun K_2 =>
  BIF (decide (blocks_1 < 64))
  (K (.tuple #[(.pointer none), (.int .i64 1)]) w)
  (BIF (decide (blocks_1 > 8192))
  (K (.tuple #[(.pointer none), (.int .i64 1)]) w)
  (K_2 (()) w)))
  (fun _ s w_3 => 
  OPW Try.prog (sV (Instr.box 78 (.agg #[(.slice none 0 0), (.slice none 0 0), (.slice none 0 0), (.int .i64 0), (.int .i64 0), (.int .i64 0), (.int .i64 0), (.int .i64 0), (.int .i64 0), (.int .i64 0), (.int .i64 0)]))) w_3 (fun r_4 w_5 =>
  ∃ (v_6 : Nat), r_4 = (.pointer (some ⟨v_6, 0, none⟩)) ∧
  LOOP (S := (Int × Unit)) (fun _ X_7 s w_8 => (fun (v_9 : Int) =>
  BIF (decide (v_9 < blocks_1))
  (DRAW w_8 (fun (S_10 : World → World → Prop) (w_11 : World) =>
  HELD Try.prog S_10 (sV (Instr.loadAt 42 (.pointer (some ⟨v_6, 0, none⟩)))) w_11 (fun r_12 =>
  ∃ (v_13 : Option Addr) (v_13l v_13c : Nat), r_12 = (.slice v_13 v_13l v_13c) ∧
  OPW Try.prog (sV (Instr.makeSlice 49 (.int .i64 64) (.int .i64 64))) w_11 (fun r_14 w_15 =>
  ∃ (v_16 : Option Addr) (v_16l v_16c : Nat), r_14 = (.slice v_16 v_16l v_16c) ∧
  S_10 w_11 w_15 ∧ (OPW Try.prog (sV (Instr.buildSlice 42 1 #[(0, (.slice v_16 v_16l v_16c))])) w_15 (fun r_17 w_18 =>
  ∃ (v_19 : Option Addr) (v_19l v_19c : Nat), r_17 = (.slice v_19 v_19l v_19c) ∧
  S_10 w_15 w_18 ∧ (OPW Try.prog (sBI .append #[42, 42] 42 #[false, false] #[(.slice v_13 v_13l v_13c), (.slice v_19 v_19l v_19c)]) w_18 (fun r_20 w_21 =>
  ∃ (v_22 : Option Addr) (v_22l v_22c : Nat), r_20 = (.slice v_22 v_22l v_22c) ∧
  OPW Try.prog (sU (Instr.storeAt 42 (.pointer (some ⟨v_6, 0, none⟩)) (.slice v_22 v_22l v_22c))) w_21 (fun r_23 w_24 =>
  X_7 ((IntKind.wrap .i64 (v_9 + 1)), ()) w_24)
  E)
  E))
  E))
  E)))
  (K (.tuple #[(.pointer (some ⟨v_6, 0, none⟩)), (.int .i64 0)]) w_8)) s.1)
  (0, ()) w_5)
  E)
def plan9 : Plan := (.two .leaf (.join [] (.two .leaf (.two (.two .leaf .leaf) .leaf)) (.two .leaf (.two (.two .leaf (.loop [(14, (.one (.int .i64)))] (.two .leaf (.two (.two .leaf .leaf) (.two (.draw (.take 0 (.take 1 (.take 2 (.take 3 (.take 4 (.cases [5] fun _ => (.cases [6] fun _ => (.cases [7] fun _ => (.take 8 (.take 9 (.cases [10] fun _ => .fin)))))))))))) .leaf))))) (.two .leaf .leaf)))))
noncomputable def code9 : Code := match Try.f9.body with | some c => c | none => .skip
theorem eq9 (blocks_1 : Int) (K : Value → World → Prop) (E : List PanicEntry → World → Prop) (w : World) : R9 blocks_1 K E w = ewp ctx code9 plan9 (retQ ctx.P Try.f9 K E) (argEnv [(.int .i64 blocks_1)]) [] w := by kernel_rfl
theorem okc9 : okC Try.f9.ntmps (bif hasDefer code9 then [] else writes code9) code9 plan9 = true := by kernel_rfl
theorem R9_ok {blocks_1 : Int} {K : Value → World → Prop} {E : List PanicEntry → World → Prop} {w : World} (h : R9 blocks_1 K E w) : FN Try.prog 9 #[(.int .i64 blocks_1)] w K E :=
  FN_of_ewp (C := ctx) ctx_ok ctx_mixed Try.func9 (c := code9) (by kernel_rfl) (args := [(.int .i64 blocks_1)]) (Nat.le_of_ble_eq_true (by kernel_rfl)) okc9 (eq9 blocks_1 K E w ▸ h)

/-- concertina/concertinaref11.New -/
def R10 (blocks_1 : Int) (K : Value → World → Prop) (E : List PanicEntry → World → Prop) (w : World) : Prop :=
  JOIN (S := Unit) (fun K_2 =>
  BIF (decide (blocks_1 < 64))
  (K (.tuple #[(.pointer none), (.int .i64 1)]) w)
  (BIF (decide (blocks_1 > 8192))
  (K (.tuple #[(.pointer none), (.int .i64 1)]) w)
  (K_2 (()) w)))
  (fun _ s w_3 => 
  OPW Try.prog (sV (Instr.box 46 (.agg #[(.slice none 0 0), (.slice none 0 0), (.slice none 0 0), (.int .i64 0), (.int .i64 0), (.int .i64 0), (.int .i64 0), (.int .i64 0), (.int .i64 0), (.int .i64 0), (.int .i64 0)]))) w_3 (fun r_4 w_5 =>
  ∃ (v_6 : Nat), r_4 = (.pointer (some ⟨v_6, 0, none⟩)) ∧
  LOOP (S := (Int × Unit)) (fun _ X_7 s w_8 => (fun (i_9 : Int) =>
  BIF (decide (i_9 < blocks_1))
  (DRAW w_8 (fun (S_10 : World → World → Prop) (w_11 : World) =>
  HELD Try.prog S_10 (sV (Instr.loadAt 42 (.pointer (some ⟨v_6, 0, none⟩)))) w_11 (fun r_12 =>
  ∃ (v_13 : Option Addr) (v_13l v_13c : Nat), r_12 = (.slice v_13 v_13l v_13c) ∧
  OPW Try.prog (sV (Instr.makeSlice 49 (.int .i64 64) (.int .i64 64))) w_11 (fun r_14 w_15 =>
  ∃ (v_16 : Option Addr) (v_16l v_16c : Nat), r_14 = (.slice v_16 v_16l v_16c) ∧
  S_10 w_11 w_15 ∧ (OPW Try.prog (sV (Instr.buildSlice 42 1 #[(0, (.slice v_16 v_16l v_16c))])) w_15 (fun r_17 w_18 =>
  ∃ (v_19 : Option Addr) (v_19l v_19c : Nat), r_17 = (.slice v_19 v_19l v_19c) ∧
  S_10 w_15 w_18 ∧ (OPW Try.prog (sBI .append #[42, 42] 42 #[false, false] #[(.slice v_13 v_13l v_13c), (.slice v_19 v_19l v_19c)]) w_18 (fun r_20 w_21 =>
  ∃ (v_22 : Option Addr) (v_22l v_22c : Nat), r_20 = (.slice v_22 v_22l v_22c) ∧
  OPW Try.prog (sU (Instr.storeAt 42 (.pointer (some ⟨v_6, 0, none⟩)) (.slice v_22 v_22l v_22c))) w_21 (fun r_23 w_24 =>
  X_7 ((IntKind.wrap .i64 (i_9 + 1)), ()) w_24)
  E)
  E))
  E))
  E)))
  (K (.tuple #[(.pointer (some ⟨v_6, 0, none⟩)), (.int .i64 0)]) w_8)) s.1)
  (0, ()) w_5)
  E)
def plan10 : Plan := (.two .leaf (.join [] (.two .leaf (.two (.two .leaf .leaf) .leaf)) (.two .leaf (.two (.two .leaf (.loop [(5, (.one (.int .i64)))] (.two (.two .leaf (.two .leaf .leaf)) (.two (.draw (.take 0 (.take 1 (.take 2 (.take 3 (.take 4 (.cases [5] fun _ => (.cases [6] fun _ => (.cases [7] fun _ => (.take 8 (.take 9 (.cases [10] fun _ => .fin)))))))))))) .leaf)))) (.two .leaf .leaf)))))
noncomputable def code10 : Code := match Try.f10.body with | some c => c | none => .skip
theorem eq10 (blocks_1 : Int) (K : Value → World → Prop) (E : List PanicEntry → World → Prop) (w : World) : R10 blocks_1 K E w = ewp ctx code10 plan10 (retQ ctx.P Try.f10 K E) (argEnv [(.int .i64 blocks_1)]) [] w := by kernel_rfl
theorem okc10 : okC Try.f10.ntmps (bif hasDefer code10 then [] else writes code10) code10 plan10 = true := by kernel_rfl
theorem R10_ok {blocks_1 : Int} {K : Value → World → Prop} {E : List PanicEntry → World → Prop} {w : World} (h : R10 blocks_1 K E w) : FN Try.prog 10 #[(.int .i64 blocks_1)] w K E :=
  FN_of_ewp (C := ctx) ctx_ok ctx_mixed Try.func10 (c := code10) (by kernel_rfl) (args := [(.int .i64 blocks_1)]) (Nat.le_of_ble_eq_true (by kernel_rfl)) okc10 (eq10 blocks_1 K E w ▸ h)

/-- concertina/concertinalaw2.Do -/
def R11 (p_1 : Nat) (m_2 : Nat) (d_3 : Int) (d_4 : Int) (d_5 : Int) (d_6 : Int) (d_7 : Option Addr) (d_7l d_7c : Nat) (d_8 : Option Addr) (d_8l d_8c : Nat) (K : Value → World → Prop) (E : List PanicEntry → World → Prop) (w : World) : Prop :=
  OPW Try.prog (sV (Instr.box 35 (.agg #[(.int .i64 d_3), (.int .i64 d_4), (.int .u8 d_5), (.int .u32 d_6), (.slice d_7 d_7l d_7c), (.slice d_8 d_8l d_8c)]))) w (fun r_9 w_10 =>
  ∃ (d_11 : Nat), r_9 = (.pointer (some ⟨d_11, 0, none⟩)) ∧
  OPW Try.prog (sV (Instr.loadAt 3 (.pointer (some ⟨d_11, 0, none⟩)))) w_10 (fun r_12 w_13 =>
  ∃ (v_14 : Int), r_12 = (.int .i64 v_14) ∧
  JOIN (S := (Bool × Unit)) (fun K_15 =>
  BIF (v_14 == 0)
  (K_15 ((v_14 == 0), ()) w_13)
  (BIF (v_14 == 1)
  (K_15 ((v_14 == 1), ()) w_13)
  (BIF (v_14 == 2)
  (K_15 ((v_14 == 2), ()) w_13)
  (K_15 ((v_14 == 3), ()) w_13))))
  (fun _ s w_16 => (fun (v_17 : Bool) =>
  BIF v_17
  (OPW Try.prog (sV (Instr.loadAt 5 (.pointer (some ⟨d_11, 2, none⟩)))) w_16 (fun r_18 w_19 =>
  ∃ (v_20 : Int), r_18 = (.int .u8 v_20) ∧
  FN Try.prog 32 #[(.int .u8 v_20)] w_19 (fun r_21 w_22 =>
  ∃ (v_23 : Option Addr) (v_23l v_23c : Nat), r_21 = (.slice v_23 v_23l v_23c) ∧
  JOIN (S := ((Option Addr × Nat × Nat) × Unit)) (fun K_24 =>
  OPW Try.prog (sV (Instr.loadAt 5 (.pointer (some ⟨d_11, 2, none⟩)))) w_22 (fun r_31 w_32 =>
  ∃ (v_33 : Int), r_31 = (.int .u8 v_33) ∧
  BIF (v_33 == 77)
  (OPW Try.prog (sV (Instr.sliceAt 49 (.slice v_23 v_23l v_23c) (some (.int .i64 1)) none none)) w_32 (fun r_34 w_35 =>
  ∃ (v_36 : Option Addr) (v_36l v_36c : Nat), r_34 = (.slice v_36 v_36l v_36c) ∧
  K_24 ((v_36, v_36l, v_36c), ()) w_35)
  E)
  (K_24 ((v_23, v_23l, v_23c), ()) w_32))
  E)
  (fun _ s w_37 => (fun (b_38 : Option Addr) (b_38l b_38c : Nat) =>
  DRAW w_37 (fun (S_39 : World → World → Prop) (w_40 : World) =>
  HELD Try.prog S_39 (sV (Instr.loadAt 3 (.pointer (some ⟨d_11, 1, none⟩)))) w_40 (fun r_41 =>
  ∃ (v_42 : Int), r_41 = (.int .i64 v_42) ∧
  HELD Try.prog S_39 (sV (Instr.loadAt 3 (.pointer (some ⟨d_11, 1, none⟩)))) w_40 (fun r_43 =>
  ∃ (v_44 : Int), r_43 = (.int .i64 v_44) ∧
  FN Try.prog 31 #[(.pointer (some ⟨p_1, 0, none⟩)), (.int .i64 v_42), (.slice b_38 b_38l b_38c)] w_40 (fun r_45 w_46 =>
  ∃ (v_47 : Int), r_45 = (.int .i64 v_47) ∧
  S_39 w_40 w_46 ∧ (FN Try.prog 36 #[(.pointer (some ⟨m_2, 0, none⟩)), (.int .i64 v_44), (.slice b_38 b_38l b_38c)] w_46 (fun r_48 w_49 =>
  ∃ (v_50 : Int), r_48 = (.int .i64 v_50) ∧
  S_39 w_46 w_49 ∧ (K (.bool (v_47 == v_50)) w_49))
  E))
  E)))) s.1.1 s.1.2.1 s.1.2.2))
  E)
  E)
  (JOIN (S := (Bool × Unit)) (fun K_51 =>
  BIF (v_14 == 4)
  (K_51 ((v_14 == 4), ()) w_16)
  (K_51 ((v_14 == 5), ()) w_16))
  (fun _ s w_52 => (fun (v_53 : Bool) =>
  BIF v_53
  (OPW Try.prog (sV (Instr.loadAt 3 (.pointer (some ⟨d_11, 1, none⟩)))) w_52 (fun r_54 w_55 =>
  ∃ (v_56 : Int), r_54 = (.int .i64 v_56) ∧
  FN Try.prog 34 #[(.pointer (some ⟨p_1, 0, none⟩)), (.int .i64 v_56)] w_55 (fun r_57 w_58 =>
  ∃ (v_59 : Option Addr) (v_59l v_59c : Nat) (v_60 : Int), r_57 = (.tuple #[(.slice v_59 v_59l v_59c), (.int .i64 v_60)]) ∧
  OPW Try.prog (sV (Instr.loadAt 3 (.pointer (some ⟨d_11, 1, none⟩)))) w_58 (fun r_61 w_62 =>
  ∃ (v_63 : Int), r_61 = (.int .i64 v_63) ∧
  FN Try.prog 37 #[(.pointer (some ⟨m_2, 0, none⟩)), (.int .i64 v_63)] w_62 (fun r_64 w_65 =>
  ∃ (v_66 : Option Addr) (v_66l v_66c : Nat) (v_67 : Int), r_64 = (.tuple #[(.slice v_66 v_66l v_66c), (.int .i64 v_67)]) ∧
  OPW Try.prog (sV (convert 49 9 (.slice v_59 v_59l v_59c))) w_65 (fun r_68 w_69 =>
  ∃ (v_70 : ByteArray), r_68 = (.string v_70) ∧
  OPW Try.prog (sV (convert 49 9 (.slice v_66 v_66l v_66c))) w_69 (fun r_71 w_72 =>
  ∃ (v_73 : ByteArray), r_71 = (.string v_73) ∧
  BIF (ByteArray.toList v_70 == ByteArray.toList v_73)
  (K (.bool (v_60 == v_67)) w_72)
  (K (.bool false) w_72))
  E)
  E)
  E)
  E)
  E)
  E)
  (BIF (v_14 == 6)
  (FN Try.prog 35 #[(.pointer (some ⟨p_1, 0, none⟩))] w_52 (fun r_74 w_75 =>
  ∃ (v_76 : Int), r_74 = (.int .i64 v_76) ∧
  FN Try.prog 38 #[(.pointer (some ⟨m_2, 0, none⟩))] w_75 (fun r_77 w_78 =>
  ∃ (v_79 : Int), r_77 = (.int .i64 v_79) ∧
  K (.bool (v_76 == v_79)) w_78)
  E)
  E)
  (BIF (v_14 == 7)
  (OPW Try.prog (sV (Instr.buildSlice 32 0 #[])) w_52 (fun r_80 w_81 =>
  ∃ (v_82 : Option Addr) (v_82l v_82c : Nat), r_80 = (.slice v_82 v_82l v_82c) ∧
  OPW Try.prog (sV (Instr.loadAt 32 (.pointer (some ⟨d_11, 4, none⟩)))) w_81 (fun r_83 w_84 =>
  ∃ (v_85 : Option Addr) (v_85l v_85c : Nat), r_83 = (.slice v_85 v_85l v_85c) ∧
  OPW Try.prog (sBI .append #[32, 32] 32 #[false, false] #[(.slice v_82 v_82l v_82c), (.slice v_85 v_85l v_85c)]) w_84 (fun r_86 w_87 =>
  ∃ (v_88 : Option Addr) (v_88l v_88c : Nat), r_86 = (.slice v_88 v_88l v_88c) ∧
  FN Try.prog 33 #[(.pointer (some ⟨p_1, 0, none⟩)), (.slice v_88 v_88l v_88c)] w_87 (fun r_89 w_90 =>
  OPW Try.prog (sV (Instr.loadAt 32 (.pointer (some ⟨d_11, 4, none⟩)))) w_90 (fun r_91 w_92 =>
  ∃ (v_93 : Option Addr) (v_93l v_93c : Nat), r_91 = (.slice v_93 v_93l v_93c) ∧
  FN Try.prog 39 #[(.pointer (some ⟨m_2, 0, none⟩)), (.slice v_93 v_93l v_93c)] w_92 (fun r_94 w_95 =>
  K (.bool true) w_95)
  E)
  E)
  E)
  E)
  E)
  E)
  (BIF (v_14 == 8)
  (OPW Try.prog (sV (Instr.loadAt 33 (.pointer (some ⟨d_11, 5, none⟩)))) w_52 (fun r_96 w_97 =>
  ∃ (v_98 : Option Addr) (v_98l v_98c : Nat), r_96 = (.slice v_98 v_98l v_98c) ∧
  FN Try.prog 40 #[(.slice v_98 v_98l v_98c)] w_97 (fun r_99 w_100 =>
  ∃ (v_101 : Option Addr) (v_101l v_101c : Nat), r_99 = (.slice v_101 v_101l v_101c) ∧
  FN Try.prog 15 #[(.pointer (some ⟨p_1, 0, none⟩)), (.slice v_101 v_101l v_101c)] w_100 (fun r_102 w_103 =>
  OPW Try.prog (sV (Instr.loadAt 33 (.pointer (some ⟨d_11, 5, none⟩)))) w_103 (fun r_104 w_105 =>
  ∃ (v_106 : Option Addr) (v_106l v_106c : Nat), r_104 = (.slice v_106 v_106l v_106c) ∧
  FN Try.prog 16 #[(.pointer (some ⟨m_2, 0, none⟩)), (.slice v_106 v_106l v_106c)] w_105 (fun r_107 w_108 =>
  K (.bool true) w_108)
  E)
  E)
  E)
  E)
  E)
  (BIF (v_14 == 9)
  (DRAW w_52 (fun (S_109 : World → World → Prop) (w_110 : World) =>
  HELD Try.prog S_109 (sV (Instr.loadAt 3 (.pointer (some ⟨d_11, 1, none⟩)))) w_110 (fun r_111 =>
  ∃ (v_112 : Int), r_111 = (.int .i64 v_112) ∧
  HELD Try.prog S_109 (sV (Instr.loadAt 5 (.pointer (some ⟨d_11, 2, none⟩)))) w_110 (fun r_113 =>
  ∃ (v_114 : Int), r_113 = (.int .u8 v_114) ∧
  HELD Try.prog S_109 (sV (Instr.loadAt 31 (.pointer (some ⟨d_11, 3, none⟩)))) w_110 (fun r_115 =>
  ∃ (v_116 : Int), r_115 = (.int .u32 v_116) ∧
  HELD Try.prog S_109 (sV (Instr.loadAt 3 (.pointer (some ⟨d_11, 1, none⟩)))) w_110 (fun r_117 =>
  ∃ (v_118 : Int), r_117 = (.int .i64 v_118) ∧
  HELD Try.prog S_109 (sV (Instr.loadAt 5 (.pointer (some ⟨d_11, 2, none⟩)))) w_110 (fun r_119 =>
  ∃ (v_120 : Int), r_119 = (.int .u8 v_120) ∧
  HELD Try.prog S_109 (sV (Instr.loadAt 31 (.pointer (some ⟨d_11, 3, none⟩)))) w_110 (fun r_121 =>
  ∃ (v_122 : Int), r_121 = (.int .u32 v_122) ∧
  FN Try.prog 41 #[(.pointer (some ⟨p_1, 0, none⟩)), (.int .i64 v_112), (.int .i64 (IntKind.wrap .i64 v_114)), (.int .u32 v_116)] w_110 (fun r_123 w_124 =>
  ∃ (v_125 : Bool), r_123 = (.bool v_125) ∧
  S_109 w_110 w_124 ∧ (FN Try.prog 42 #[(.pointer (some ⟨m_2, 0, none⟩)), (.int .i64 v_118), (.int .i64 (IntKind.wrap .i64 v_120)), (.int .u32 v_122)] w_124 (fun r_126 w_127 =>
  ∃ (v_128 : Bool), r_126 = (.bool v_128) ∧
  S_109 w_124 w_127 ∧ (K (.bool (v_125 == v_128)) w_127))
  E))
  E))))))))
  (K (.bool true) w_52)))))) s.1))) s.1))
  E)
  E
def plan11 : Plan := (.two .leaf (.two (.two .leaf (.join [(14, (.one .bool))] (.two .leaf (.two .leaf (.two .leaf (.two .leaf (.two .leaf (.two .leaf .leaf)))))) (.two (.two .leaf (.join [(7, (.one .slice))] (.two .leaf (.two .leaf .leaf)) (.two (.draw (.take 0 (.take 1 (.take 2 (.take 3 (.take 5 (.take 6 (.take 7 (.take 8 (.cases [4] fun _ => (.cases [9] fun _ => (.take 10 (.take 11 .fin))))))))))))) .leaf))) (.join [(38, (.one .bool))] (.two .leaf (.two .leaf .leaf)) (.two (.two .leaf (.two .leaf (.two .leaf .leaf))) (.two .leaf (.two (.two .leaf .leaf) (.two .leaf (.two (.two .leaf .leaf) (.two .leaf (.two (.two .leaf .leaf) (.two .leaf (.two (.two (.draw (.take 0 (.take 1 (.take 2 (.take 3 (.take 4 (.take 5 (.take 6 (.take 7 (.take 9 (.take 10 (.take 11 (.take 12 (.take 13 (.take 14 (.take 15 (.take 16 (.cases [8] fun _ => (.cases [17] fun _ => (.take 18 (.take 19 .fin))))))))))))))))))))) .leaf) .leaf))))))))))))) (.two .leaf .leaf)))
noncomputable def code11 : Code := match Try.f11.body with | some c => c | none => .skip
theorem eq11 (p_1 : Nat) (m_2 : Nat) (d_3 : Int) (d_4 : Int) (d_5 : Int) (d_6 : Int) (d_7 : Option Addr) (d_7l d_7c : Nat) (d_8 : Option Addr) (d_8l d_8c : Nat) (K : Value → World → Prop) (E : List PanicEntry → World → Prop) (w : World) : R11 p_1 m_2 d_3 d_4 d_5 d_6 d_7 d_7l d_7c d_8 d_8l d_8c K E w = ewp ctx code11 plan11 (retQ ctx.P Try.f11 K E) (argEnv [(.pointer (some ⟨p_1, 0, none⟩)), (.pointer (some ⟨m_2, 0, none⟩)), (.agg #[(.int .i64 d_3), (.int .i64 d_4), (.int .u8 d_5), (.int .u32 d_6), (.slice d_7 d_7l d_7c), (.slice d_8 d_8l d_8c)])]) [] w := by kernel_rfl
theorem okc11 : okC Try.f11.ntmps (bif hasDefer code11 then [] else writes code11) code11 plan11 = true := by kernel_rfl
theorem R11_ok {p_1 : Nat} {m_2 : Nat} {d_3 : Int} {d_4 : Int} {d_5 : Int} {d_6 : Int} {d_7 : Option Addr} {d_7l d_7c : Nat} {d_8 : Option Addr} {d_8l d_8c : Nat} {K : Value → World → Prop} {E : List PanicEntry → World → Prop} {w : World} (h : R11 p_1 m_2 d_3 d_4 d_5 d_6 d_7 d_7l d_7c d_8 d_8l d_8c K E w) : FN Try.prog 11 #[(.pointer (some ⟨p_1, 0, none⟩)), (.pointer (some ⟨m_2, 0, none⟩)), (.agg #[(.int .i64 d_3), (.int .i64 d_4), (.int .u8 d_5), (.int .u32 d_6), (.slice d_7 d_7l d_7c), (.slice d_8 d_8l d_8c)])] w K E :=
  FN_of_ewp (C := ctx) ctx_ok ctx_mixed Try.func11 (c := code11) (by kernel_rfl) (args := [(.pointer (some ⟨p_1, 0, none⟩)), (.pointer (some ⟨m_2, 0, none⟩)), (.agg #[(.int .i64 d_3), (.int .i64 d_4), (.int .u8 d_5), (.int .u32 d_6), (.slice d_7 d_7l d_7c), (.slice d_8 d_8l d_8c)])]) (Nat.le_of_ble_eq_true (by kernel_rfl)) okc11 (eq11 p_1 m_2 d_3 d_4 d_5 d_6 d_7 d_7l d_7c d_8 d_8l d_8c K E w ▸ h)

/-- concertina/concertinalaw2.same -/
def R12 (p_1 : Nat) (m_2 : Nat) (K : Value → World → Prop) (E : List PanicEntry → World → Prop) (w : World) : Prop :=
  JOIN (S := Unit) (fun K_3 =>
  DRAW w (fun (S_16 : World → World → Prop) (w_17 : World) =>
  HELD Try.prog S_16 (sV (Instr.loadAt 42 (.pointer (some ⟨m_2, 0, none⟩)))) w_17 (fun r_18 =>
  ∃ (v_19 : Option Addr) (v_19l v_19c : Nat), r_18 = (.slice v_19 v_19l v_19c) ∧
  FN Try.prog 43 #[(.pointer (some ⟨p_1, 0, none⟩))] w_17 (fun r_20 w_21 =>
  ∃ (v_22 : Int), r_20 = (.int .i64 v_22) ∧
  S_16 w_17 w_21 ∧ (BIF (v_22 != (v_19l : Int))
  (K (.bool false) w_21)
  (HELD Try.prog S_16 (sV (Instr.loadAt 43 (.pointer (some ⟨m_2, 1, none⟩)))) w_21 (fun r_23 =>
  ∃ (v_24 : Option Addr) (v_24l v_24c : Nat), r_23 = (.slice v_24 v_24l v_24c) ∧
  FN Try.prog 14 #[(.pointer (some ⟨p_1, 0, none⟩))] w_21 (fun r_25 w_26 =>
  ∃ (v_27 : Int), r_25 = (.int .i64 v_27) ∧
  S_16 w_21 w_26 ∧ (BIF (v_27 != (v_24l : Int))
  (K (.bool false) w_26)
  (K_3 (()) w_26)))
  E))))
  E)))
  (fun _ s w_28 => 
  LOOP (S := (Int × Unit)) (fun _ X_29 s w_30 => (fun (op_31 : Int) =>
  BIF (decide (op_31 < 4))
  (DRAW w_30 (fun (S_32 : World → World → Prop) (w_33 : World) =>
  IDXA 1 4 ⟨m_2, 3, none⟩ op_31 (fun (a_34 : Addr) =>
  HELD Try.prog S_32 (sV (Instr.loadAt 3 (.pointer (some a_34)))) w_33 (fun r_35 =>
  ∃ (v_36 : Int), r_35 = (.int .i64 v_36) ∧
  FN Try.prog 44 #[(.pointer (some ⟨p_1, 0, none⟩)), (.int .i64 op_31)] w_33 (fun r_37 w_38 =>
  ∃ (v_39 : Int), r_37 = (.int .i64 v_39) ∧
  S_32 w_33 w_38 ∧ (BIF (v_39 != v_36)
  (K (.bool false) w_38)
  (X_29 ((IntKind.wrap .i64 (op_31 + 1)), ()) w_38)))
  E))))
  (FN Try.prog 44 #[(.pointer (some ⟨p_1, 0, none⟩)), (.int .i64 4)] w_30 (fun r_40 w_41 =>
  ∃ (v_42 : Int), r_40 = (.int .i64 v_42) ∧
  K (.bool (v_42 == 0)) w_41)
  E)) s.1)
  (0, ()) w_28)
def plan12 : Plan := (.two .leaf (.join [] (.two (.draw (.take 0 (.take 2 (.take 3 (.take 4 (.take 5 (.take 6 (.cases [1] fun _ => (.take 7 (.take 8 (.split 9 (.take 9 (.take 10 (.take 11 (.take 12 (.take 13 (.take 14 (.take 15 (.take 16 (.take 17 .fin))))))))) (.take 9 (.take 11 (.take 12 (.take 13 (.take 14 (.take 15 (.cases [10] fun _ => (.take 16 (.take 17 .fin)))))))))))))))))))) (.two (.two .leaf .leaf) .leaf)) (.two (.two .leaf (.loop [(5, (.one (.int .i64)))] (.two (.two .leaf (.two .leaf .leaf)) (.two (.two (.draw (.take 0 (.take 1 (.take 3 (.take 4 (.take 5 (.take 6 (.take 7 (.take 8 (.cases [2] fun _ => (.take 9 .fin))))))))))) (.two (.two .leaf .leaf) .leaf)) .leaf)))) (.two .leaf .leaf))))
noncomputable def code12 : Code := match Try.f12.body with | some c => c | none => .skip
theorem eq12 (p_1 : Nat) (m_2 : Nat) (K : Value → World → Prop) (E : List PanicEntry → World → Prop) (w : World) : R12 p_1 m_2 K E w = ewp ctx code12 plan12 (retQ ctx.P Try.f12 K E) (argEnv [(.pointer (some ⟨p_1, 0, none⟩)), (.pointer (some ⟨m_2, 0, none⟩))]) [] w := by kernel_rfl
theorem okc12 : okC Try.f12.ntmps (bif hasDefer code12 then [] else writes code12) code12 plan12 = true := by kernel_rfl
theorem R12_ok {p_1 : Nat} {m_2 : Nat} {K : Value → World → Prop} {E : List PanicEntry → World → Prop} {w : World} (h : R12 p_1 m_2 K E w) : FN Try.prog 12 #[(.pointer (some ⟨p_1, 0, none⟩)), (.pointer (some ⟨m_2, 0, none⟩))] w K E :=
  FN_of_ewp (C := ctx) ctx_ok ctx_mixed Try.func12 (c := code12) (by kernel_rfl) (args := [(.pointer (some ⟨p_1, 0, none⟩)), (.pointer (some ⟨m_2, 0, none⟩))]) (Nat.le_of_ble_eq_true (by kernel_rfl)) okc12 (eq12 p_1 m_2 K E w ▸ h)

/-- (*concertina/platter.Platter).Copy -/
def R13 (p_1 : Nat) (K : Value → World → Prop) (E : List PanicEntry → World → Prop) (w : World) : Prop :=
  OPW Try.prog (sB .eql 24 (.pointer (some ⟨p_1, 0, none⟩)) (.pointer none) (eqGuard .eql 24 (.tmp 4) (.const (.pointer none)) (.pointer (some ⟨p_1, 0, none⟩)) (.pointer none))) w (fun r_2 w_3 =>
  ∃ (v_4 : Bool), r_2 = (.bool v_4) ∧
  BIF v_4
  (K (.pointer none) w_3)
  (OPW Try.prog (sV (Instr.loadAt 78 (.pointer (some ⟨p_1, 0, none⟩)))) w_3 (fun r_5 w_6 =>
  ∃ (v_7 : Option Addr) (v_7l v_7c : Nat) (v_8 : Option Addr) (v_8l v_8c : Nat) (v_9 : Option Addr) (v_9l v_9c : Nat) (v_10 : Int) (v_11 : Int) (v_12 : Int) (v_13 : Int) (v_14 : Int) (v_15 : Int) (v_16 : Int) (v_17 : Int), r_5 = (.agg #[(.slice v_7 v_7l v_7c), (.slice v_8 v_8l v_8c), (.slice v_9 v_9l v_9c), (.int .i64 v_10), (.int .i64 v_11), (.int .i64 v_12), (.int .i64 v_13), (.int .i64 v_14), (.int .i64 v_15), (.int .i64 v_16), (.int .i64 v_17)]) ∧
  OPW Try.prog (sV (Instr.alloc 78 true (.tuple #[]))) w_6 (fun r_18 w_19 =>
  ∃ (q_20 : Nat), r_18 = (.pointer (some ⟨q_20, 0, none⟩)) ∧
  OPW Try.prog (sU (Instr.storeAt 78 (.pointer (some ⟨q_20, 0, none⟩)) (.agg #[(.slice v_7 v_7l v_7c), (.slice v_8 v_8l v_8c), (.slice v_9 v_9l v_9c), (.int .i64 v_10), (.int .i64 v_11), (.int .i64 v_12), (.int .i64 v_13), (.int .i64 v_14), (.int .i64 v_15), (.int .i64 v_16), (.int .i64 v_17)]))) w_19 (fun r_21 w_22 =>
  DRAW w_22 (fun (S_23 : World → World → Prop) (w_24 : World) =>
  HELD Try.prog S_23 (sV (Instr.loadAt 42 (.pointer (some ⟨p_1, 0, none⟩)))) w_24 (fun r_25 =>
  ∃ (v_26 : Option Addr) (v_26l v_26c : Nat), r_25 = (.slice v_26 v_26l v_26c) ∧
  HELD Try.prog S_23 (sV (Instr.loadAt 75 (.pointer (some ⟨p_1, 1, none⟩)))) w_24 (fun r_27 =>
  ∃ (v_28 : Option Addr) (v_28l v_28c : Nat), r_27 = (.slice v_28 v_28l v_28c) ∧
  HELD Try.prog S_23 (sV (Instr.loadAt 76 (.pointer (some ⟨p_1, 2, none⟩)))) w_24 (fun r_29 =>
  ∃ (v_30 : Option Addr) (v_30l v_30c : Nat), r_29 = (.slice v_30 v_30l v_30c) ∧
  FN Try.prog 45 #[(.slice v_26 v_26l v_26c)] w_24 (fun r_31 w_32 =>
  ∃ (v_33 : Option Addr) (v_33l v_33c : Nat), r_31 = (.slice v_33 v_33l v_33c) ∧
  S_23 w_24 w_32 ∧ (FN Try.prog 46 #[(.slice v_28 v_28l v_28c)] w_32 (fun r_34 w_35 =>
  ∃ (v_36 : Option Addr) (v_36l v_36c : Nat), r_34 = (.slice v_36 v_36l v_36c) ∧
  S_23 w_32 w_35 ∧ (FN Try.prog 47 #[(.slice v_30 v_30l v_30c)] w_35 (fun r_37 w_38 =>
  ∃ (v_39 : Option Addr) (v_39l v_39c : Nat), r_37 = (.slice v_39 v_39l v_39c) ∧
  OPW Try.prog (sU (Instr.storeAt 42 (.pointer (some ⟨q_20, 0, none⟩)) (.slice v_33 v_33l v_33c))) w_38 (fun r_40 w_41 =>
  OPW Try.prog (sU (Instr.storeAt 75 (.pointer (some ⟨q_20, 1, none⟩)) (.slice v_36 v_36l v_36c))) w_41 (fun r_42 w_43 =>
  OPW Try.prog (sU (Instr.storeAt 76 (.pointer (some ⟨q_20, 2, none⟩)) (.slice v_39 v_39l v_39c))) w_43 (fun r_44 w_45 =>
  K (.pointer (some ⟨q_20, 0, none⟩)) w_45)
  E)
  E)
  E)
  E))
  E))
  E)))))
  E)
  E)
  E))
  E
def plan13 : Plan := (.two .leaf (.two (.two .leaf (.two (.two .leaf .leaf) .leaf)) (.two .leaf (.two (.draw (.take 0 (.take 1 (.take 2 (.take 3 (.take 5 (.take 6 (.take 7 (.take 8 (.take 10 (.take 11 (.take 12 (.take 13 (.cases [4] fun _ => (.cases [9] fun _ => (.cases [14] fun _ => (.take 15 (.cases [16] fun _ => (.take 17 (.cases [18] fun _ => (.take 19 (.cases [20] fun _ => .fin)))))))))))))))))))))) (.two .leaf .leaf)))))
noncomputable def code13 : Code := match Try.f13.body with | some c => c | none => .skip
theorem eq13 (p_1 : Nat) (K : Value → World → Prop) (E : List PanicEntry → World → Prop) (w : World) : R13 p_1 K E w = ewp ctx code13 plan13 (retQ ctx.P Try.f13 K E) (argEnv [(.pointer (some ⟨p_1, 0, none⟩))]) [] w := by kernel_rfl
theorem okc13 : okC Try.f13.ntmps (bif hasDefer code13 then [] else writes code13) code13 plan13 = true := by kernel_rfl
theorem R13_ok {p_1 : Nat} {K : Value → World → Prop} {E : List PanicEntry → World → Prop} {w : World} (h : R13 p_1 K E w) : FN Try.prog 13 #[(.pointer (some ⟨p_1, 0, none⟩))] w K E :=
  FN_of_ewp (C := ctx) ctx_ok ctx_mixed Try.func13 (c := code13) (by kernel_rfl) (args := [(.pointer (some ⟨p_1, 0, none⟩))]) (Nat.le_of_ble_eq_true (by kernel_rfl)) okc13 (eq13 p_1 K E w ▸ h)

/-- (*concertina/platter.Platter).Cached -/
def R14 (p_1 : Nat) (K : Value → World → Prop) (E : List PanicEntry → World → Prop) (w : World) : Prop :=
  OPW Try.prog (sB .eql 24 (.pointer (some ⟨p_1, 0, none⟩)) (.pointer none) (eqGuard .eql 24 (.tmp 3) (.const (.pointer none)) (.pointer (some ⟨p_1, 0, none⟩)) (.pointer none))) w (fun r_2 w_3 =>
  ∃ (v_4 : Bool), r_2 = (.bool v_4) ∧
  BIF v_4
  (K (.int .i64 0) w_3)
  (OPW Try.prog (sV (Instr.loadAt 75 (.pointer (some ⟨p_1, 1, none⟩)))) w_3 (fun r_5 w_6 =>
  ∃ (v_7 : Option Addr) (v_7l v_7c : Nat), r_5 = (.slice v_7 v_7l v_7c) ∧
  K (.int .i64 (v_7l : Int)) w_6)
  E))
  E
def plan14 : Plan := (.two .leaf (.two (.two .leaf (.two (.two .leaf .leaf) .leaf)) (.two .leaf .leaf)))
noncomputable def code14 : Code := match Try.f14.body with | some c => c | none => .skip
theorem eq14 (p_1 : Nat) (K : Value → World → Prop) (E : List PanicEntry → World → Prop) (w : World) : R14 p_1 K E w = ewp ctx code14 plan14 (retQ ctx.P Try.f14 K E) (argEnv [(.pointer (some ⟨p_1, 0, none⟩))]) [] w := by kernel_rfl
theorem okc14 : okC Try.f14.ntmps (bif hasDefer code14 then [] else writes code14) code14 plan14 = true := by kernel_rfl
theorem R14_ok {p_1 : Nat} {K : Value → World → Prop} {E : List PanicEntry → World → Prop} {w : World} (h : R14 p_1 K E w) : FN Try.prog 14 #[(.pointer (some ⟨p_1, 0, none⟩))] w K E :=
  FN_of_ewp (C := ctx) ctx_ok ctx_mixed Try.func14 (c := code14) (by kernel_rfl) (args := [(.pointer (some ⟨p_1, 0, none⟩))]) (Nat.le_of_ble_eq_true (by kernel_rfl)) okc14 (eq14 p_1 K E w ▸ h)

/-- (*concertina/platter.Platter).Fail -/
def R15 (p_1 : Nat) (l_2 : Option Addr) (l_2l l_2c : Nat) (K : Value → World → Prop) (E : List PanicEntry → World → Prop) (w : World) : Prop :=
  OPW Try.prog (sB .eql 24 (.pointer (some ⟨p_1, 0, none⟩)) (.pointer none) (eqGuard .eql 24 (.tmp 4) (.const (.pointer none)) (.pointer (some ⟨p_1, 0, none⟩)) (.pointer none))) w (fun r_3 w_4 =>
  ∃ (v_5 : Bool), r_3 = (.bool v_5) ∧
  BIF v_5
  (K (.tuple #[]) w_4)
  (FN Try.prog 47 #[(.slice l_2 l_2l l_2c)] w_4 (fun r_6 w_7 =>
  ∃ (v_8 : Option Addr) (v_8l v_8c : Nat), r_6 = (.slice v_8 v_8l v_8c) ∧
  OPW Try.prog (sU (Instr.storeAt 76 (.pointer (some ⟨p_1, 2, none⟩)) (.slice v_8 v_8l v_8c))) w_7 (fun r_9 w_10 =>
  OPW Try.prog (sU (Instr.storeAt 44 (.pointer (some ⟨p_1, 7, none⟩)) (.agg #[(.int .i64 0), (.int .i64 0), (.int .i64 0), (.int .i64 0)]))) w_10 (fun r_11 w_12 =>
  K (.tuple #[]) w_12)
  E)
  E)
  E))
  E
def plan15 : Plan := (.two (.two .leaf (.two .leaf .leaf)) (.two .leaf .leaf))
noncomputable def code15 : Code := match Try.f15.body with | some c => c | none => .skip
theorem eq15 (p_1 : Nat) (l_2 : Option Addr) (l_2l l_2c : Nat) (K : Value → World → Prop) (E : List PanicEntry → World → Prop) (w : World) : R15 p_1 l_2 l_2l l_2c K E w = ewp ctx code15 plan15 (retQ ctx.P Try.f15 K E) (argEnv [(.pointer (some ⟨p_1, 0, none⟩)), (.slice l_2 l_2l l_2c)]) [] w := by kernel_rfl
theorem okc15 : okC Try.f15.ntmps (bif hasDefer code15 then [] else writes code15) code15 plan15 = true := by kernel_rfl
theorem R15_ok {p_1 : Nat} {l_2 : Option Addr} {l_2l l_2c : Nat} {K : Value → World → Prop} {E : List PanicEntry → World → Prop} {w : World} (h : R15 p_1 l_2 l_2l l_2c K E w) : FN Try.prog 15 #[(.pointer (some ⟨p_1, 0, none⟩)), (.slice l_2 l_2l l_2c)] w K E :=
  FN_of_ewp (C := ctx) ctx_ok ctx_mixed Try.func15 (c := code15) (by kernel_rfl) (args := [(.pointer (some ⟨p_1, 0, none⟩)), (.slice l_2 l_2l l_2c)]) (Nat.le_of_ble_eq_true (by kernel_rfl)) okc15 (eq15 p_1 l_2 l_2l l_2c K E w ▸ h)

/-- (*concertina/concertinaref11.Platter).Fail -/
def R16 (p_1 : Nat) (l_2 : Option Addr) (l_2l l_2c : Nat) (K : Value → World → Prop) (E : List PanicEntry → World → Prop) (w : World) : Prop :=
  OPW Try.prog (sBI .append #[33, 33] 33 #[true, false] #[(.slice none 0 0), (.slice l_2 l_2l l_2c)]) w (fun r_3 w_4 =>
  ∃ (v_5 : Option Addr) (v_5l v_5c : Nat), r_3 = (.slice v_5 v_5l v_5c) ∧
  OPW Try.prog (sU (Instr.storeAt 33 (.pointer (some ⟨p_1, 2, none⟩)) (.slice v_5 v_5l v_5c))) w_4 (fun r_6 w_7 =>
  OPW Try.prog (sU (Instr.storeAt 44 (.pointer (some ⟨p_1, 7, none⟩)) (.agg #[(.int .i64 0), (.int .i64 0), (.int .i64 0), (.int .i64 0)]))) w_7 (fun r_8 w_9 =>
  K (.tuple #[]) w_9)
  E)
  E)
  E
def plan16 : Plan := .leaf
noncomputable def code16 : Code := match Try.f16.body with | some c => c | none => .skip
theorem eq16 (p_1 : Nat) (l_2 : Option Addr) (l_2l l_2c : Nat) (K : Value → World → Prop) (E : List PanicEntry → World → Prop) (w : World) : R16 p_1 l_2 l_2l l_2c K E w = ewp ctx code16 plan16 (retQ ctx.P Try.f16 K E) (argEnv [(.pointer (some ⟨p_1, 0, none⟩)), (.slice l_2 l_2l l_2c)]) [] w := by kernel_rfl
theorem okc16 : okC Try.f16.ntmps (bif hasDefer code16 then [] else writes code16) code16 plan16 = true := by kernel_rfl
theorem R16_ok {p_1 : Nat} {l_2 : Option Addr} {l_2l l_2c : Nat} {K : Value → World → Prop} {E : List PanicEntry → World → Prop} {w : World} (h : R16 p_1 l_2 l_2l l_2c K E w) : FN Try.prog 16 #[(.pointer (some ⟨p_1, 0, none⟩)), (.slice l_2 l_2l l_2c)] w K E :=
  FN_of_ewp (C := ctx) ctx_ok ctx_mixed Try.func16 (c := code16) (by kernel_rfl) (args := [(.pointer (some ⟨p_1, 0, none⟩)), (.slice l_2 l_2l l_2c)]) (Nat.le_of_ble_eq_true (by kernel_rfl)) okc16 (eq16 p_1 l_2 l_2l l_2c K E w ▸ h)

/-- (*concertina/platter.Platter).Write -/
def R31 (p_1 : Nat) (n_2 : Int) (b_3 : Option Addr) (b_3l b_3c : Nat) (K : Value → World → Prop) (E : List PanicEntry → World → Prop) (w : World) : Prop :=
  OPW Try.prog (sV (Instr.box 24 (.pointer (some ⟨p_1, 0, none⟩)))) w (fun r_4 w_5 =>
  ∃ (p_6 : Nat), r_4 = (.pointer (some ⟨p_6, 0, none⟩)) ∧
  OPW Try.prog (sV (Instr.box 3 (.int .i64 n_2))) w_5 (fun r_7 w_8 =>
  ∃ (n_9 : Nat), r_7 = (.pointer (some ⟨n_9, 0, none⟩)) ∧
  OPW Try.prog (sV (Instr.box 49 (.slice b_3 b_3l b_3c))) w_8 (fun r_10 w_11 =>
  ∃ (b_12 : Nat), r_10 = (.pointer (some ⟨b_12, 0, none⟩)) ∧
  OPW Try.prog (sV (Instr.loadAt 24 (.pointer (some ⟨p_6, 0, none⟩)))) w_11 (fun r_13 w_14 =>
  ∃ (v_15 : Option Addr), r_13 = (.pointer v_15) ∧
  FN Try.prog 56 #[(.pointer v_15), (.int .i64 2), (.func (.func 57) #[] #[(.pointer (some ⟨p_6, 0, none⟩)), (.pointer (some ⟨n_9, 0, none⟩)), (.pointer (some ⟨b_12, 0, none⟩))])] w_14 (fun r_16 w_17 =>
  ∃ (v_18 : Int), r_16 = (.int .i64 v_18) ∧
  K (.int .i64 v_18) w_17)
  E)
  E)
  E)
  E)
  E
def plan31 : Plan := (.two .leaf (.two .leaf .leaf))
noncomputable def code31 : Code := match Try.f31.body with | some c => c | none => .skip
theorem eq31 (p_1 : Nat) (n_2 : Int) (b_3 : Option Addr) (b_3l b_3c : Nat) (K : Value → World → Prop) (E : List PanicEntry → World → Prop) (w : World) : R31 p_1 n_2 b_3 b_3l b_3c K E w = ewp ctx code31 plan31 (retQ ctx.P Try.f31 K E) (argEnv [(.pointer (some ⟨p_1, 0, none⟩)), (.int .i64 n_2), (.slice b_3 b_3l b_3c)]) [] w := by kernel_rfl
theorem okc31 : okC Try.f31.ntmps (bif hasDefer code31 then [] else writes code31) code31 plan31 = true := by kernel_rfl
theorem R31_ok {p_1 : Nat} {n_2 : Int} {b_3 : Option Addr} {b_3l b_3c : Nat} {K : Value → World → Prop} {E : List PanicEntry → World → Prop} {w : World} (h : R31 p_1 n_2 b_3 b_3l b_3c K E w) : FN Try.prog 31 #[(.pointer (some ⟨p_1, 0, none⟩)), (.int .i64 n_2), (.slice b_3 b_3l b_3c)] w K E :=
  FN_of_ewp (C := ctx) ctx_ok ctx_mixed Try.func31 (c := code31) (by kernel_rfl) (args := [(.pointer (some ⟨p_1, 0, none⟩)), (.int .i64 n_2), (.slice b_3 b_3l b_3c)]) (Nat.le_of_ble_eq_true (by kernel_rfl)) okc31 (eq31 p_1 n_2 b_3 b_3l b_3c K E w ▸ h)

/-- concertina/concertinalaw2.full -/
def R32 (b_1 : Int) (K : Value → World → Prop) (E : List PanicEntry → World → Prop) (w : World) : Prop :=
  OPW Try.prog (sV (Instr.makeSlice 49 (.int .i64 64) (.int .i64 64))) w (fun r_2 w_3 =>
  ∃ (v_4 : Option Addr) (v_4l v_4c : Nat), r_2 = (.slice v_4 v_4l v_4c) ∧
  LOOP (S := (Int × Unit)) (fun _ X_5 s w_6 => (fun (i_7 : Int) =>
  BIF (decide (i_7 < (v_4l : Int)))
  (IDX 1 v_4 v_4l i_7 (fun (a_8 : Addr) =>
  OPW Try.prog (sU (Instr.storeAt 5 (.pointer (some a_8)) (.int .u8 b_1))) w_6 (fun r_9 w_10 =>
  X_5 ((IntKind.wrap .i64 (i_7 + 1)), ()) w_10)
  E))
  (K (.slice v_4 v_4l v_4c) w_6)) s.1)
  (0, ()) w_3)
  E
def plan32 : Plan := (.two .leaf (.two .leaf (.two (.two .leaf (.loop [(4, (.one (.int .i64)))] (.two (.two .leaf (.two .leaf .leaf)) (.two .leaf .leaf)))) (.two .leaf .leaf))))
noncomputable def code32 : Code := match Try.f32.body with | some c => c | none => .skip
theorem eq32 (b_1 : Int) (K : Value → World → Prop) (E : List PanicEntry → World → Prop) (w : World) : R32 b_1 K E w = ewp ctx code32 plan32 (retQ ctx.P Try.f32 K E) (argEnv [(.int .u8 b_1)]) [] w := by kernel_rfl
theorem okc32 : okC Try.f32.ntmps (bif hasDefer code32 then [] else writes code32) code32 plan32 = true := by kernel_rfl
theorem R32_ok {b_1 : Int} {K : Value → World → Prop} {E : List PanicEntry → World → Prop} {w : World} (h : R32 b_1 K E w) : FN Try.prog 32 #[(.int .u8 b_1)] w K E :=
  FN_of_ewp (C := ctx) ctx_ok ctx_mixed Try.func32 (c := code32) (by kernel_rfl) (args := [(.int .u8 b_1)]) (Nat.le_of_ble_eq_true (by kernel_rfl)) okc32 (eq32 b_1 K E w ▸ h)

/-- (*concertina/platter.Platter).Crash -/
def R33 (p_1 : Nat) (keep_2 : Option Addr) (keep_2l keep_2c : Nat) (K : Value → World → Prop) (E : List PanicEntry → World → Prop) (w : World) : Prop :=
  OPW Try.prog (sV (Instr.box 32 (.slice keep_2 keep_2l keep_2c))) w (fun r_3 w_4 =>
  ∃ (keep_5 : Nat), r_3 = (.pointer (some ⟨keep_5, 0, none⟩)) ∧
  OPW Try.prog (sB .eql 24 (.pointer (some ⟨p_1, 0, none⟩)) (.pointer none) (eqGuard .eql 24 (.tmp 4) (.const (.pointer none)) (.pointer (some ⟨p_1, 0, none⟩)) (.pointer none))) w_4 (fun r_6 w_7 =>
  ∃ (v_8 : Bool), r_6 = (.bool v_8) ∧
  BIF v_8
  (K (.tuple #[]) w_7)
  (FN Try.prog 60 #[(.pointer (some ⟨p_1, 0, none⟩)), (.func (.func 61) #[] #[(.pointer (some ⟨keep_5, 0, none⟩))])] w_7 (fun r_9 w_10 =>
  OPW Try.prog (sU (Instr.storeAt 76 (.pointer (some ⟨p_1, 2, none⟩)) (.slice none 0 0))) w_10 (fun r_11 w_12 =>
  K (.tuple #[]) w_12)
  E)
  E))
  E)
  E
def plan33 : Plan := (.two .leaf (.two (.two .leaf (.two .leaf .leaf)) (.two .leaf .leaf)))
noncomputable def code33 : Code := match Try.f33.body with | some c => c | none => .skip
theorem eq33 (p_1 : Nat) (keep_2 : Option Addr) (keep_2l keep_2c : Nat) (K : Value → World → Prop) (E : List PanicEntry → World → Prop) (w : World) : R33 p_1 keep_2 keep_2l keep_2c K E w = ewp ctx code33 plan33 (retQ ctx.P Try.f33 K E) (argEnv [(.pointer (some ⟨p_1, 0, none⟩)), (.slice keep_2 keep_2l keep_2c)]) [] w := by kernel_rfl
theorem okc33 : okC Try.f33.ntmps (bif hasDefer code33 then [] else writes code33) code33 plan33 = true := by kernel_rfl
theorem R33_ok {p_1 : Nat} {keep_2 : Option Addr} {keep_2l keep_2c : Nat} {K : Value → World → Prop} {E : List PanicEntry → World → Prop} {w : World} (h : R33 p_1 keep_2 keep_2l keep_2c K E w) : FN Try.prog 33 #[(.pointer (some ⟨p_1, 0, none⟩)), (.slice keep_2 keep_2l keep_2c)] w K E :=
  FN_of_ewp (C := ctx) ctx_ok ctx_mixed Try.func33 (c := code33) (by kernel_rfl) (args := [(.pointer (some ⟨p_1, 0, none⟩)), (.slice keep_2 keep_2l keep_2c)]) (Nat.le_of_ble_eq_true (by kernel_rfl)) okc33 (eq33 p_1 keep_2 keep_2l keep_2c K E w ▸ h)

/-- (*concertina/platter.Platter).Read -/
def R34 (p_1 : Nat) (n_2 : Int) (K : Value → World → Prop) (E : List PanicEntry → World → Prop) (w : World) : Prop :=
  OPW Try.prog (sV (Instr.box 24 (.pointer (some ⟨p_1, 0, none⟩)))) w (fun r_3 w_4 =>
  ∃ (p_5 : Nat), r_3 = (.pointer (some ⟨p_5, 0, none⟩)) ∧
  OPW Try.prog (sV (Instr.box 3 (.int .i64 n_2))) w_4 (fun r_6 w_7 =>
  ∃ (n_8 : Nat), r_6 = (.pointer (some ⟨n_8, 0, none⟩)) ∧
  OPW Try.prog (sV (Instr.alloc 49 true (.tuple #[]))) w_7 (fun r_9 w_10 =>
  ∃ (b_11 : Nat), r_9 = (.pointer (some ⟨b_11, 0, none⟩)) ∧
  OPW Try.prog (sV (Instr.loadAt 24 (.pointer (some ⟨p_5, 0, none⟩)))) w_10 (fun r_12 w_13 =>
  ∃ (v_14 : Option Addr), r_12 = (.pointer v_14) ∧
  FN Try.prog 56 #[(.pointer v_14), (.int .i64 1), (.func (.func 62) #[] #[(.pointer (some ⟨p_5, 0, none⟩)), (.pointer (some ⟨n_8, 0, none⟩)), (.pointer (some ⟨b_11, 0, none⟩))])] w_13 (fun r_15 w_16 =>
  ∃ (v_17 : Int), r_15 = (.int .i64 v_17) ∧
  OPW Try.prog (sV (Instr.loadAt 49 (.pointer (some ⟨b_11, 0, none⟩)))) w_16 (fun r_18 w_19 =>
  ∃ (v_20 : Option Addr) (v_20l v_20c : Nat), r_18 = (.slice v_20 v_20l v_20c) ∧
  OPW Try.prog (sU (Instr.storeAt 49 (.pointer (some ⟨b_11, 0, none⟩)) (.slice v_20 v_20l v_20c))) w_19 (fun r_21 w_22 =>
  RCELL Try.prog 49 (.pointer (some ⟨b_11, 0, none⟩)) w_22 (fun x_23 => K (.tuple #[x_23, (.int .i64 v_17)]) w_22))
  E)
  E)
  E)
  E)
  E)
  E)
  E
def plan34 : Plan := (.two .leaf (.two .leaf (.two .leaf .leaf)))
noncomputable def code34 : Code := match Try.f34.body with | some c => c | none => .skip
theorem eq34 (p_1 : Nat) (n_2 : Int) (K : Value → World → Prop) (E : List PanicEntry → World → Prop) (w : World) : R34 p_1 n_2 K E w = ewp ctx code34 plan34 (retQ ctx.P Try.f34 K E) (argEnv [(.pointer (some ⟨p_1, 0, none⟩)), (.int .i64 n_2)]) [] w := by kernel_rfl
theorem okc34 : okC Try.f34.ntmps (bif hasDefer code34 then [] else writes code34) code34 plan34 = true := by kernel_rfl
theorem R34_ok {p_1 : Nat} {n_2 : Int} {K : Value → World → Prop} {E : List PanicEntry → World → Prop} {w : World} (h : R34 p_1 n_2 K E w) : FN Try.prog 34 #[(.pointer (some ⟨p_1, 0, none⟩)), (.int .i64 n_2)] w K E :=
  FN_of_ewp (C := ctx) ctx_ok ctx_mixed Try.func34 (c := code34) (by kernel_rfl) (args := [(.pointer (some ⟨p_1, 0, none⟩)), (.int .i64 n_2)]) (Nat.le_of_ble_eq_true (by kernel_rfl)) okc34 (eq34 p_1 n_2 K E w ▸ h)

/-- (*concertina/platter.Platter).Sync -/
def R35 (p_1 : Nat) (K : Value → World → Prop) (E : List PanicEntry → World → Prop) (w : World) : Prop :=
  OPW Try.prog (sV (Instr.box 24 (.pointer (some ⟨p_1, 0, none⟩)))) w (fun r_2 w_3 =>
  ∃ (p_4 : Nat), r_2 = (.pointer (some ⟨p_4, 0, none⟩)) ∧
  OPW Try.prog (sV (Instr.loadAt 24 (.pointer (some ⟨p_4, 0, none⟩)))) w_3 (fun r_5 w_6 =>
  ∃ (v_7 : Option Addr), r_5 = (.pointer v_7) ∧
  FN Try.prog 56 #[(.pointer v_7), (.int .i64 3), (.func (.func 63) #[] #[(.pointer (some ⟨p_4, 0, none⟩))])] w_6 (fun r_8 w_9 =>
  ∃ (v_10 : Int), r_8 = (.int .i64 v_10) ∧
  K (.int .i64 v_10) w_9)
  E)
  E)
  E
def plan35 : Plan := (.two .leaf (.two .leaf .leaf))
noncomputable def code35 : Code := match Try.f35.body with | some c => c | none => .skip
theorem eq35 (p_1 : Nat) (K : Value → World → Prop) (E : List PanicEntry → World → Prop) (w : World) : R35 p_1 K E w = ewp ctx code35 plan35 (retQ ctx.P Try.f35 K E) (argEnv [(.pointer (some ⟨p_1, 0, none⟩))]) [] w := by kernel_rfl
theorem okc35 : okC Try.f35.ntmps (bif hasDefer code35 then [] else writes code35) code35 plan35 = true := by kernel_rfl
theorem R35_ok {p_1 : Nat} {K : Value → World → Prop} {E : List PanicEntry → World → Prop} {w : World} (h : R35 p_1 K E w) : FN Try.prog 35 #[(.pointer (some ⟨p_1, 0, none⟩))] w K E :=
  FN_of_ewp (C := ctx) ctx_ok ctx_mixed Try.func35 (c := code35) (by kernel_rfl) (args := [(.pointer (some ⟨p_1, 0, none⟩))]) (Nat.le_of_ble_eq_true (by kernel_rfl)) okc35 (eq35 p_1 K E w ▸ h)

/-- (*concertina/concertinaref11.Platter).Write -/
def R36 (p_1 : Nat) (n_2 : Int) (b_3 : Option Addr) (b_3l b_3c : Nat) (K : Value → World → Prop) (E : List PanicEntry → World → Prop) (w : World) : Prop :=
  FN Try.prog 65 #[(.pointer (some ⟨p_1, 0, none⟩)), (.int .i64 2)] w (fun r_4 w_5 =>
  ∃ (v_6 : Bool), r_4 = (.bool v_6) ∧
  BIF v_6
  (K (.int .i64 6) w_5)
  (JOIN (S := Unit) (fun K_7 =>
  BIF (decide (n_2 < 0))
  (K (.int .i64 1) w_5)
  (OPW Try.prog (sV (Instr.loadAt 42 (.pointer (some ⟨p_1, 0, none⟩)))) w_5 (fun r_11 w_12 =>
  ∃ (v_13 : Option Addr) (v_13l v_13c : Nat), r_11 = (.slice v_13 v_13l v_13c) ∧
  BIF (decide (n_2 ≥ (v_13l : Int)))
  (K (.int .i64 1) w_12)
  (BIF ((b_3l : Int) != 64)
  (K (.int .i64 1) w_12)
  (K_7 (()) w_12)))
  E))
  (fun _ s w_14 => 
  DRAW w_14 (fun (S_15 : World → World → Prop) (w_16 : World) =>
  HELD Try.prog S_15 (sV (Instr.loadAt 43 (.pointer (some ⟨p_1, 1, none⟩)))) w_16 (fun r_17 =>
  ∃ (v_18 : Option Addr) (v_18l v_18c : Nat), r_17 = (.slice v_18 v_18l v_18c) ∧
  OPW Try.prog (sBI .append #[49, 49] 49 #[true, false] #[(.slice none 0 0), (.slice b_3 b_3l b_3c)]) w_16 (fun r_19 w_20 =>
  ∃ (v_21 : Option Addr) (v_21l v_21c : Nat), r_19 = (.slice v_21 v_21l v_21c) ∧
  S_15 w_16 w_20 ∧ (OPW Try.prog (sV (Instr.buildSlice 43 1 #[(0, (.agg #[(.int .i64 n_2), (.slice v_21 v_21l v_21c)]))])) w_20 (fun r_22 w_23 =>
  ∃ (v_24 : Option Addr) (v_24l v_24c : Nat), r_22 = (.slice v_24 v_24l v_24c) ∧
  S_15 w_20 w_23 ∧ (OPW Try.prog (sBI .append #[43, 43] 43 #[false, false] #[(.slice v_18 v_18l v_18c), (.slice v_24 v_24l v_24c)]) w_23 (fun r_25 w_26 =>
  ∃ (v_27 : Option Addr) (v_27l v_27c : Nat), r_25 = (.slice v_27 v_27l v_27c) ∧
  OPW Try.prog (sU (Instr.storeAt 43 (.pointer (some ⟨p_1, 1, none⟩)) (.slice v_27 v_27l v_27c))) w_26 (fun r_28 w_29 =>
  K (.int .i64 0) w_29)
  E)
  E))
  E))
  E)))))
  E
def plan36 : Plan := (.two .leaf (.two (.two .leaf (.two (.two .leaf .leaf) .leaf)) (.join [] (.two .leaf (.two (.two .leaf .leaf) .leaf)) (.two (.draw (.take 0 (.take 1 (.take 2 (.take 3 (.take 4 (.take 5 (.take 6 (.cases [7] fun _ => (.take 8 (.cases [9] fun _ => (.cases [10] fun _ => (.take 11 (.take 12 (.cases [13] fun _ => .fin))))))))))))))) (.two .leaf .leaf)))))
noncomputable def code36 : Code := match Try.f36.body with | some c => c | none => .skip
theorem eq36 (p_1 : Nat) (n_2 : Int) (b_3 : Option Addr) (b_3l b_3c : Nat) (K : Value → World → Prop) (E : List PanicEntry → World → Prop) (w : World) : R36 p_1 n_2 b_3 b_3l b_3c K E w = ewp ctx code36 plan36 (retQ ctx.P Try.f36 K E) (argEnv [(.pointer (some ⟨p_1, 0, none⟩)), (.int .i64 n_2), (.slice b_3 b_3l b_3c)]) [] w := by kernel_rfl
theorem okc36 : okC Try.f36.ntmps (bif hasDefer code36 then [] else writes code36) code36 plan36 = true := by kernel_rfl
theorem R36_ok {p_1 : Nat} {n_2 : Int} {b_3 : Option Addr} {b_3l b_3c : Nat} {K : Value → World → Prop} {E : List PanicEntry → World → Prop} {w : World} (h : R36 p_1 n_2 b_3 b_3l b_3c K E w) : FN Try.prog 36 #[(.pointer (some ⟨p_1, 0, none⟩)), (.int .i64 n_2), (.slice b_3 b_3l b_3c)] w K E :=
  FN_of_ewp (C := ctx) ctx_ok ctx_mixed Try.func36 (c := code36) (by kernel_rfl) (args := [(.pointer (some ⟨p_1, 0, none⟩)), (.int .i64 n_2), (.slice b_3 b_3l b_3c)]) (Nat.le_of_ble_eq_true (by kernel_rfl)) okc36 (eq36 p_1 n_2 b_3 b_3l b_3c K E w ▸ h)

/-- (*concertina/concertinaref11.Platter).Read -/
def R37 (p_1 : Nat) (n_2 : Int) (K : Value → World → Prop) (E : List PanicEntry → World → Prop) (w : World) : Prop :=
  FN Try.prog 65 #[(.pointer (some ⟨p_1, 0, none⟩)), (.int .i64 1)] w (fun r_3 w_4 =>
  ∃ (v_5 : Bool), r_3 = (.bool v_5) ∧
  BIF v_5
  (K (.tuple #[(.slice none 0 0), (.int .i64 6)]) w_4)
  (JOIN (S := Unit) (fun K_6 =>
  BIF (decide (n_2 < 0))
  (K (.tuple #[(.slice none 0 0), (.int .i64 1)]) w_4)
  (OPW Try.prog (sV (Instr.loadAt 42 (.pointer (some ⟨p_1, 0, none⟩)))) w_4 (fun r_10 w_11 =>
  ∃ (v_12 : Option Addr) (v_12l v_12c : Nat), r_10 = (.slice v_12 v_12l v_12c) ∧
  BIF (decide (n_2 ≥ (v_12l : Int)))
  (K (.tuple #[(.slice none 0 0), (.int .i64 1)]) w_11)
  (K_6 (()) w_11))
  E))
  (fun _ s w_13 => 
  OPW Try.prog (sV (Instr.loadAt 43 (.pointer (some ⟨p_1, 1, none⟩)))) w_13 (fun r_14 w_15 =>
  ∃ (v_16 : Option Addr) (v_16l v_16c : Nat), r_14 = (.slice v_16 v_16l v_16c) ∧
  LOOP (S := (Int × Unit)) (fun _ X_17 s w_18 => (fun (i_19 : Int) =>
  BIF (decide (i_19 ≥ 0))
  (OPW Try.prog (sV (Instr.loadAt 43 (.pointer (some ⟨p_1, 1, none⟩)))) w_18 (fun r_20 w_21 =>
  ∃ (v_22 : Option Addr) (v_22l v_22c : Nat), r_20 = (.slice v_22 v_22l v_22c) ∧
  IDX 2 v_22 v_22l i_19 (fun (a_23 : Addr) =>
  OPW Try.prog (sV (Instr.loadAt 3 (.pointer (some a_23)))) w_21 (fun r_24 w_25 =>
  ∃ (v_26 : Int), r_24 = (.int .i64 v_26) ∧
  BIF (v_26 == n_2)
  (OPW Try.prog (sV (Instr.loadAt 43 (.pointer (some ⟨p_1, 1, none⟩)))) w_25 (fun r_27 w_28 =>
  ∃ (v_29 : Option Addr) (v_29l v_29c : Nat), r_27 = (.slice v_29 v_29l v_29c) ∧
  IDX 2 v_29 v_29l i_19 (fun (a_30 : Addr) =>
  OPW Try.prog (sV (Instr.loadAt 49 (.pointer (some (Addr.add a_30 1))))) w_28 (fun r_31 w_32 =>
  ∃ (v_33 : Option Addr) (v_33l v_33c : Nat), r_31 = (.slice v_33 v_33l v_33c) ∧
  OPW Try.prog (sBI .append #[49, 49] 49 #[true, false] #[(.slice none 0 0), (.slice v_33 v_33l v_33c)]) w_32 (fun r_34 w_35 =>
  ∃ (v_36 : Option Addr) (v_36l v_36c : Nat), r_34 = (.slice v_36 v_36l v_36c) ∧
  K (.tuple #[(.slice v_36 v_36l v_36c), (.int .i64 0)]) w_35)
  E)
  E))
  E)
  (X_17 ((IntKind.wrap .i64 (i_19 - 1)), ()) w_25))
  E))
  E)
  (OPW Try.prog (sV (Instr.loadAt 42 (.pointer (some ⟨p_1, 0, none⟩)))) w_18 (fun r_37 w_38 =>
  ∃ (v_39 : Option Addr) (v_39l v_39c : Nat), r_37 = (.slice v_39 v_39l v_39c) ∧
  IDX 1 v_39 v_39l n_2 (fun (a_40 : Addr) =>
  OPW Try.prog (sV (Instr.loadAt 49 (.pointer (some a_40)))) w_38 (fun r_41 w_42 =>
  ∃ (v_43 : Option Addr) (v_43l v_43c : Nat), r_41 = (.slice v_43 v_43l v_43c) ∧
  OPW Try.prog (sBI .append #[49, 49] 49 #[true, false] #[(.slice none 0 0), (.slice v_43 v_43l v_43c)]) w_42 (fun r_44 w_45 =>
  ∃ (v_46 : Option Addr) (v_46l v_46c : Nat), r_44 = (.slice v_46 v_46l v_46c) ∧
  K (.tuple #[(.slice v_46 v_46l v_46c), (.int .i64 0)]) w_45)
  E)
  E))
  E)) s.1)
  ((IntKind.wrap .i64 ((v_16l : Int) - 1)), ()) w_15)
  E)))
  E
def plan37 : Plan := (.two .leaf (.two (.two .leaf (.two (.two .leaf .leaf) .leaf)) (.join [] (.two .leaf (.two (.two .leaf .leaf) .leaf)) (.two (.two .leaf (.loop [(6, (.one (.int .i64)))] (.two (.two .leaf (.two .leaf .leaf)) (.two (.two .leaf (.two (.two .leaf .leaf) .leaf)) .leaf)))) (.two .leaf .leaf)))))
noncomputable def code37 : Code := match Try.f37.body with | some c => c | none => .skip
theorem eq37 (p_1 : Nat) (n_2 : Int) (K : Value → World → Prop) (E : List PanicEntry → World → Prop) (w : World) : R37 p_1 n_2 K E w = ewp ctx code37 plan37 (retQ ctx.P Try.f37 K E) (argEnv [(.pointer (some ⟨p_1, 0, none⟩)), (.int .i64 n_2)]) [] w := by kernel_rfl
theorem okc37 : okC Try.f37.ntmps (bif hasDefer code37 then [] else writes code37) code37 plan37 = true := by kernel_rfl
theorem R37_ok {p_1 : Nat} {n_2 : Int} {K : Value → World → Prop} {E : List PanicEntry → World → Prop} {w : World} (h : R37 p_1 n_2 K E w) : FN Try.prog 37 #[(.pointer (some ⟨p_1, 0, none⟩)), (.int .i64 n_2)] w K E :=
  FN_of_ewp (C := ctx) ctx_ok ctx_mixed Try.func37 (c := code37) (by kernel_rfl) (args := [(.pointer (some ⟨p_1, 0, none⟩)), (.int .i64 n_2)]) (Nat.le_of_ble_eq_true (by kernel_rfl)) okc37 (eq37 p_1 n_2 K E w ▸ h)

/-- (*concertina/concertinaref11.Platter).Sync -/
def R38 (p_1 : Nat) (K : Value → World → Prop) (E : List PanicEntry → World → Prop) (w : World) : Prop :=
  FN Try.prog 65 #[(.pointer (some ⟨p_1, 0, none⟩)), (.int .i64 3)] w (fun r_2 w_3 =>
  ∃ (v_4 : Bool), r_2 = (.bool v_4) ∧
  BIF v_4
  (K (.int .i64 6) w_3)
  (LOOP (S := (Int × Unit)) (fun _ X_5 s w_6 => (fun (i_7 : Int) =>
  OPW Try.prog (sV (Instr.loadAt 43 (.pointer (some ⟨p_1, 1, none⟩)))) w_6 (fun r_8 w_9 =>
  ∃ (v_10 : Option Addr) (v_10l v_10c : Nat), r_8 = (.slice v_10 v_10l v_10c) ∧
  BIF (decide (i_7 < (v_10l : Int)))
  (DRAW w_9 (fun (S_11 : World → World → Prop) (w_12 : World) =>
  HELD Try.prog S_11 (sV (Instr.loadAt 42 (.pointer (some ⟨p_1, 0, none⟩)))) w_12 (fun r_13 =>
  ∃ (v_14 : Option Addr) (v_14l v_14c : Nat), r_13 = (.slice v_14 v_14l v_14c) ∧
  HELD Try.prog S_11 (sV (Instr.loadAt 43 (.pointer (some ⟨p_1, 1, none⟩)))) w_12 (fun r_15 =>
  ∃ (v_16 : Option Addr) (v_16l v_16c : Nat), r_15 = (.slice v_16 v_16l v_16c) ∧
  IDX 2 v_16 v_16l i_7 (fun (a_17 : Addr) =>
  HELD Try.prog S_11 (sV (Instr.loadAt 3 (.pointer (some a_17)))) w_12 (fun r_18 =>
  ∃ (v_19 : Int), r_18 = (.int .i64 v_19) ∧
  HELD Try.prog S_11 (sV (Instr.loadAt 43 (.pointer (some ⟨p_1, 1, none⟩)))) w_12 (fun r_20 =>
  ∃ (v_21 : Option Addr) (v_21l v_21c : Nat), r_20 = (.slice v_21 v_21l v_21c) ∧
  IDX 2 v_21 v_21l i_7 (fun (a_22 : Addr) =>
  HELD Try.prog S_11 (sV (Instr.loadAt 49 (.pointer (some (Addr.add a_22 1))))) w_12 (fun r_23 =>
  ∃ (v_24 : Option Addr) (v_24l v_24c : Nat), r_23 = (.slice v_24 v_24l v_24c) ∧
  IDX 1 v_14 v_14l v_19 (fun (a_25 : Addr) =>
  OPW Try.prog (sU (Instr.storeAt 49 (.pointer (some a_25)) (.slice v_24 v_24l v_24c))) w_12 (fun r_26 w_27 =>
  X_5 ((IntKind.wrap .i64 (i_7 + 1)), ()) w_27)
  E))))))))))
  (OPW Try.prog (sU (Instr.storeAt 43 (.pointer (some ⟨p_1, 1, none⟩)) (.slice none 0 0))) w_9 (fun r_28 w_29 =>
  K (.int .i64 0) w_29)
  E))
  E) s.1)
  (0, ()) w_3))
  E
def plan38 : Plan := (.two .leaf (.two (.two .leaf (.two (.two .leaf .leaf) .leaf)) (.two (.two .leaf (.loop [(3, (.one (.int .i64)))] (.two (.two .leaf (.two .leaf .leaf)) (.two (.draw (.take 0 (.take 1 (.take 2 (.take 3 (.take 4 (.take 5 (.take 6 (.take 7 (.take 8 (.take 9 (.take 10 (.take 11 (.take 12 (.take 13 (.take 14 (.take 15 (.take 16 (.take 17 (.take 18 (.take 19 (.take 20 (.cases [21] fun _ => .fin))))))))))))))))))))))) .leaf)))) (.two .leaf (.two .leaf .leaf)))))
noncomputable def code38 : Code := match Try.f38.body with | some c => c | none => .skip
theorem eq38 (p_1 : Nat) (K : Value → World → Prop) (E : List PanicEntry → World → Prop) (w : World) : R38 p_1 K E w = ewp ctx code38 plan38 (retQ ctx.P Try.f38 K E) (argEnv [(.pointer (some ⟨p_1, 0, none⟩))]) [] w := by kernel_rfl
theorem okc38 : okC Try.f38.ntmps (bif hasDefer code38 then [] else writes code38) code38 plan38 = true := by kernel_rfl
theorem R38_ok {p_1 : Nat} {K : Value → World → Prop} {E : List PanicEntry → World → Prop} {w : World} (h : R38 p_1 K E w) : FN Try.prog 38 #[(.pointer (some ⟨p_1, 0, none⟩))] w K E :=
  FN_of_ewp (C := ctx) ctx_ok ctx_mixed Try.func38 (c := code38) (by kernel_rfl) (args := [(.pointer (some ⟨p_1, 0, none⟩))]) (Nat.le_of_ble_eq_true (by kernel_rfl)) okc38 (eq38 p_1 K E w ▸ h)

/-- (*concertina/concertinaref11.Platter).Crash -/
def R39 (p_1 : Nat) (keep_2 : Option Addr) (keep_2l keep_2c : Nat) (K : Value → World → Prop) (E : List PanicEntry → World → Prop) (w : World) : Prop :=
  JOIN (S := Unit) (fun K_3 =>
  LOOP (S := (Int × Unit)) (fun _ X_36 s w_37 => (fun (i_38 : Int) =>
  JOIN (S := Unit) (fun K_39 =>
  OPW Try.prog (sV (Instr.loadAt 43 (.pointer (some ⟨p_1, 1, none⟩)))) w_37 (fun r_40 w_41 =>
  ∃ (v_42 : Option Addr) (v_42l v_42c : Nat), r_40 = (.slice v_42 v_42l v_42c) ∧
  BIF (decide (i_38 < (v_42l : Int)))
  (BIF (decide (i_38 < (keep_2l : Int)))
  (K_39 (()) w_41)
  (K_3 (()) w_41))
  (K_3 (()) w_41))
  E)
  (fun _ s w_43 => 
  IDX 1 keep_2 keep_2l i_38 (fun (a_44 : Addr) =>
  OPW Try.prog (sV (Instr.loadAt 4 (.pointer (some a_44)))) w_43 (fun r_45 w_46 =>
  ∃ (v_47 : Bool), r_45 = (.bool v_47) ∧
  BIF v_47
  (DRAW w_46 (fun (S_48 : World → World → Prop) (w_49 : World) =>
  HELD Try.prog S_48 (sV (Instr.loadAt 42 (.pointer (some ⟨p_1, 0, none⟩)))) w_49 (fun r_50 =>
  ∃ (v_51 : Option Addr) (v_51l v_51c : Nat), r_50 = (.slice v_51 v_51l v_51c) ∧
  HELD Try.prog S_48 (sV (Instr.loadAt 43 (.pointer (some ⟨p_1, 1, none⟩)))) w_49 (fun r_52 =>
  ∃ (v_53 : Option Addr) (v_53l v_53c : Nat), r_52 = (.slice v_53 v_53l v_53c) ∧
  IDX 2 v_53 v_53l i_38 (fun (a_54 : Addr) =>
  HELD Try.prog S_48 (sV (Instr.loadAt 3 (.pointer (some a_54)))) w_49 (fun r_55 =>
  ∃ (v_56 : Int), r_55 = (.int .i64 v_56) ∧
  HELD Try.prog S_48 (sV (Instr.loadAt 43 (.pointer (some ⟨p_1, 1, none⟩)))) w_49 (fun r_57 =>
  ∃ (v_58 : Option Addr) (v_58l v_58c : Nat), r_57 = (.slice v_58 v_58l v_58c) ∧
  IDX 2 v_58 v_58l i_38 (fun (a_59 : Addr) =>
  HELD Try.prog S_48 (sV (Instr.loadAt 49 (.pointer (some (Addr.add a_59 1))))) w_49 (fun r_60 =>
  ∃ (v_61 : Option Addr) (v_61l v_61c : Nat), r_60 = (.slice v_61 v_61l v_61c) ∧
  IDX 1 v_51 v_51l v_56 (fun (a_62 : Addr) =>
  OPW Try.prog (sU (Instr.storeAt 49 (.pointer (some a_62)) (.slice v_61 v_61l v_61c))) w_49 (fun r_63 w_64 =>
  X_36 ((IntKind.wrap .i64 (i_38 + 1)), ()) w_64)
  E))))))))))
  (X_36 ((IntKind.wrap .i64 (i_38 + 1)), ()) w_46))
  E))) s.1)
  (0, ()) w)
  (fun _ s w_65 => 
  OPW Try.prog (sU (Instr.storeAt 43 (.pointer (some ⟨p_1, 1, none⟩)) (.slice none 0 0))) w_65 (fun r_66 w_67 =>
  OPW Try.prog (sU (Instr.storeAt 33 (.pointer (some ⟨p_1, 2, none⟩)) (.slice none 0 0))) w_67 (fun r_68 w_69 =>
  K (.tuple #[]) w_69)
  E)
  E)
def plan39 : Plan := (.join [] (.two .leaf (.loop [(4, (.one (.int .i64)))] (.join [] (.two .leaf (.two .leaf .leaf)) (.two (.two .leaf (.two (.draw (.take 0 (.take 1 (.take 2 (.take 3 (.take 4 (.take 5 (.take 6 (.take 7 (.take 8 (.take 9 (.take 10 (.take 11 (.take 12 (.take 13 (.take 14 (.take 15 (.take 16 (.take 17 (.take 18 (.take 19 (.take 20 (.cases [21] fun _ => .fin))))))))))))))))))))))) .leaf)) .leaf)))) .leaf)
noncomputable def code39 : Code := match Try.f39.body with | some c => c | none => .skip
theorem eq39 (p_1 : Nat) (keep_2 : Option Addr) (keep_2l keep_2c : Nat) (K : Value → World → Prop) (E : List PanicEntry → World → Prop) (w : World) : R39 p_1 keep_2 keep_2l keep_2c K E w = ewp ctx code39 plan39 (retQ ctx.P Try.f39 K E) (argEnv [(.pointer (some ⟨p_1, 0, none⟩)), (.slice keep_2 keep_2l keep_2c)]) [] w := by kernel_rfl
theorem okc39 : okC Try.f39.ntmps (bif hasDefer code39 then [] else writes code39) code39 plan39 = true := by kernel_rfl
theorem R39_ok {p_1 : Nat} {keep_2 : Option Addr} {keep_2l keep_2c : Nat} {K : Value → World → Prop} {E : List PanicEntry → World → Prop} {w : World} (h : R39 p_1 keep_2 keep_2l keep_2c K E w) : FN Try.prog 39 #[(.pointer (some ⟨p_1, 0, none⟩)), (.slice keep_2 keep_2l keep_2c)] w K E :=
  FN_of_ewp (C := ctx) ctx_ok ctx_mixed Try.func39 (c := code39) (by kernel_rfl) (args := [(.pointer (some ⟨p_1, 0, none⟩)), (.slice keep_2 keep_2l keep_2c)]) (Nat.le_of_ble_eq_true (by kernel_rfl)) okc39 (eq39 p_1 keep_2 keep_2l keep_2c K E w ▸ h)

/-- concertina/concertinalaw2.Faults -/
def R40 (l_1 : Option Addr) (l_1l l_1c : Nat) (K : Value → World → Prop) (E : List PanicEntry → World → Prop) (w : World) : Prop :=
  LOOP (S := ((Option Addr × Nat × Nat) × Int × Unit)) (fun _ X_2 s w_3 => (fun (out_4 : Option Addr) (out_4l out_4c : Nat) (i_5 : Int) =>
  BIF (decide (i_5 < (l_1l : Int)))
  (DRAW w_3 (fun (S_6 : World → World → Prop) (w_7 : World) =>
  IDX 2 l_1 l_1l i_5 (fun (a_8 : Addr) =>
  HELD Try.prog S_6 (sV (Instr.loadAt 3 (.pointer (some a_8)))) w_7 (fun r_9 =>
  ∃ (v_10 : Int), r_9 = (.int .i64 v_10) ∧
  IDX 2 l_1 l_1l i_5 (fun (a_11 : Addr) =>
  HELD Try.prog S_6 (sV (Instr.loadAt 3 (.pointer (some (Addr.add a_11 1))))) w_7 (fun r_12 =>
  ∃ (v_13 : Int), r_12 = (.int .i64 v_13) ∧
  OPW Try.prog (sV (Instr.buildSlice 76 1 #[(0, (.agg #[(.int .i64 v_10), (.int .i64 v_13)]))])) w_7 (fun r_14 w_15 =>
  ∃ (v_16 : Option Addr) (v_16l v_16c : Nat), r_14 = (.slice v_16 v_16l v_16c) ∧
  OPW Try.prog (sBI .append #[76, 76] 76 #[false, false] #[(.slice out_4 out_4l out_4c), (.slice v_16 v_16l v_16c)]) w_15 (fun r_17 w_18 =>
  ∃ (v_19 : Option Addr) (v_19l v_19c : Nat), r_17 = (.slice v_19 v_19l v_19c) ∧
  X_2 ((v_19, v_19l, v_19c), (IntKind.wrap .i64 (i_5 + 1)), ()) w_18)
  E)
  E))))))
  (K (.slice out_4 out_4l out_4c) w_3)) s.1.1 s.1.2.1 s.1.2.2 s.2.1)
  ((none, 0, 0), 0, ()) w
def plan40 : Plan := (.two .leaf (.two .leaf (.two (.two .leaf (.loop [(3, (.one .slice)), (4, (.one (.int .i64)))] (.two (.two .leaf (.two .leaf .leaf)) (.two (.draw (.take 0 (.take 1 (.take 2 (.take 3 (.take 4 (.take 5 (.take 6 (.take 7 (.take 8 (.take 9 (.take 10 (.take 11 (.cases [12] fun _ => (.cases [13] fun _ => (.take 14 .fin)))))))))))))))) .leaf)))) (.two .leaf .leaf))))
noncomputable def code40 : Code := match Try.f40.body with | some c => c | none => .skip
theorem eq40 (l_1 : Option Addr) (l_1l l_1c : Nat) (K : Value → World → Prop) (E : List PanicEntry → World → Prop) (w : World) : R40 l_1 l_1l l_1c K E w = ewp ctx code40 plan40 (retQ ctx.P Try.f40 K E) (argEnv [(.slice l_1 l_1l l_1c)]) [] w := by kernel_rfl
theorem okc40 : okC Try.f40.ntmps (bif hasDefer code40 then [] else writes code40) code40 plan40 = true := by kernel_rfl
theorem R40_ok {l_1 : Option Addr} {l_1l l_1c : Nat} {K : Value → World → Prop} {E : List PanicEntry → World → Prop} {w : World} (h : R40 l_1 l_1l l_1c K E w) : FN Try.prog 40 #[(.slice l_1 l_1l l_1c)] w K E :=
  FN_of_ewp (C := ctx) ctx_ok ctx_mixed Try.func40 (c := code40) (by kernel_rfl) (args := [(.slice l_1 l_1l l_1c)]) (Nat.le_of_ble_eq_true (by kernel_rfl)) okc40 (eq40 l_1 l_1l l_1c K E w ▸ h)

/-- (*concertina/platter.Platter).Rot -/
def R41 (p_1 : Nat) (n_2 : Int) (bit_3 : Int) (mask_4 : Int) (K : Value → World → Prop) (E : List PanicEntry → World → Prop) (w : World) : Prop :=
  JOIN (S := Unit) (fun K_5 =>
  OPW Try.prog (sB .eql 24 (.pointer (some ⟨p_1, 0, none⟩)) (.pointer none) (eqGuard .eql 24 (.tmp 12) (.const (.pointer none)) (.pointer (some ⟨p_1, 0, none⟩)) (.pointer none))) w (fun r_12 w_13 =>
  ∃ (v_14 : Bool), r_12 = (.bool v_14) ∧
  BIF v_14
  (K (.bool false) w_13)
  (FN Try.prog 58 #[(.pointer (some ⟨p_1, 0, none⟩)), (.int .i64 n_2)] w_13 (fun r_15 w_16 =>
  ∃ (v_17 : Bool), r_15 = (.bool v_17) ∧
  BIF (!v_17)
  (K (.bool false) w_16)
  (BIF (decide (bit_3 < 0))
  (K (.bool false) w_16)
  (BIF (decide (bit_3 ≥ 512))
  (K (.bool false) w_16)
  (K_5 (()) w_16))))
  E))
  E)
  (fun _ s w_18 => 
  OPW Try.prog (sV (Instr.loadAt 42 (.pointer (some ⟨p_1, 0, none⟩)))) w_18 (fun r_19 w_20 =>
  ∃ (v_21 : Option Addr) (v_21l v_21c : Nat), r_19 = (.slice v_21 v_21l v_21c) ∧
  IDX 1 v_21 v_21l n_2 (fun (a_22 : Addr) =>
  OPW Try.prog (sV (Instr.loadAt 49 (.pointer (some a_22)))) w_20 (fun r_23 w_24 =>
  ∃ (v_25 : Option Addr) (v_25l v_25c : Nat), r_23 = (.slice v_25 v_25l v_25c) ∧
  FN Try.prog 59 #[(.slice v_25 v_25l v_25c)] w_24 (fun r_26 w_27 =>
  ∃ (v_28 : Option Addr) (v_28l v_28c : Nat), r_26 = (.slice v_28 v_28l v_28c) ∧
  LOOP (S := (Int × Unit)) (fun _ X_29 s w_30 => (fun (v_31 : Int) =>
  BIF (decide (v_31 < (if (IntKind.wrap .i64 (512 - bit_3)) < 32 then (IntKind.wrap .i64 (512 - bit_3)) else 32)))
  (DRAW w_30 (fun (S_32 : World → World → Prop) (w_33 : World) =>
  IDX 1 v_28 v_28l (IntKind.wrap .i64 (Int.tdiv (IntKind.wrap .i64 (bit_3 + v_31)) 8)) (fun (a_34 : Addr) =>
  HELD Try.prog S_32 (sV (Instr.loadAt 5 (.pointer (some a_34)))) w_33 (fun r_35 =>
  ∃ (v_36 : Int), r_35 = (.int .u8 v_36) ∧
  HELD Try.prog S_32 (sB .shr 31 (.int .u32 mask_4) (.int .i64 v_31) (eqGuard .shr 31 (.tmp 50) (.tmp 51) (.int .u32 mask_4) (.int .i64 v_31))) w_33 (fun r_37 =>
  ∃ (v_38 : Int), r_37 = (.int .u32 v_38) ∧
  HELD Try.prog S_32 (sB .shl 5 (.int .u8 (IntKind.wrap .u8 (bits .and .u32 v_38 1))) (.int .i64 (Int.tmod (IntKind.wrap .i64 (bit_3 + v_31)) 8)) (eqGuard .shl 5 (.tmp 54) (.tmp 56) (.int .u8 (IntKind.wrap .u8 (bits .and .u32 v_38 1))) (.int .i64 (Int.tmod (IntKind.wrap .i64 (bit_3 + v_31)) 8)))) w_33 (fun r_39 =>
  ∃ (v_40 : Int), r_39 = (.int .u8 v_40) ∧
  IDX 1 v_28 v_28l (IntKind.wrap .i64 (Int.tdiv (IntKind.wrap .i64 (bit_3 + v_31)) 8)) (fun (a_41 : Addr) =>
  OPW Try.prog (sU (Instr.storeAt 5 (.pointer (some a_41)) (.int .u8 (bits .xor .u8 v_36 v_40)))) w_33 (fun r_42 w_43 =>
  X_29 ((IntKind.wrap .i64 (v_31 + 1)), ()) w_43)
  E)))))))
  (OPW Try.prog (sV (Instr.loadAt 42 (.pointer (some ⟨p_1, 0, none⟩)))) w_30 (fun r_44 w_45 =>
  ∃ (v_46 : Option Addr) (v_46l v_46c : Nat), r_44 = (.slice v_46 v_46l v_46c) ∧
  IDX 1 v_46 v_46l n_2 (fun (a_47 : Addr) =>
  OPW Try.prog (sU (Instr.storeAt 49 (.pointer (some a_47)) (.slice v_28 v_28l v_28c))) w_45 (fun r_48 w_49 =>
  K (.bool true) w_49)
  E))
  E)) s.1)
  (0, ()) w_27)
  E)
  E))
  E)
def plan41 : Plan := (.two .leaf (.join [] (.two .leaf (.two (.two .leaf .leaf) .leaf)) (.two .leaf (.two (.two .leaf (.loop [(39, (.one (.int .i64)))] (.two .leaf (.two (.two .leaf .leaf) (.two (.two .leaf (.two .leaf (.draw (.take 0 (.take 1 (.take 2 (.take 3 (.take 4 (.take 5 (.take 6 (.take 7 (.take 8 (.take 9 (.take 10 (.take 11 (.take 12 (.take 13 (.take 14 (.cases [15] fun _ => .fin))))))))))))))))))) .leaf))))) (.two .leaf (.two .leaf .leaf))))))
noncomputable def code41 : Code := match Try.f41.body with | some c => c | none => .skip
theorem eq41 (p_1 : Nat) (n_2 : Int) (bit_3 : Int) (mask_4 : Int) (K : Value → World → Prop) (E : List PanicEntry → World → Prop) (w : World) : R41 p_1 n_2 bit_3 mask_4 K E w = ewp ctx code41 plan41 (retQ ctx.P Try.f41 K E) (argEnv [(.pointer (some ⟨p_1, 0, none⟩)), (.int .i64 n_2), (.int .i64 bit_3), (.int .u32 mask_4)]) [] w := by kernel_rfl
theorem okc41 : okC Try.f41.ntmps (bif hasDefer code41 then [] else writes code41) code41 plan41 = true := by kernel_rfl
theorem R41_ok {p_1 : Nat} {n_2 : Int} {bit_3 : Int} {mask_4 : Int} {K : Value → World → Prop} {E : List PanicEntry → World → Prop} {w : World} (h : R41 p_1 n_2 bit_3 mask_4 K E w) : FN Try.prog 41 #[(.pointer (some ⟨p_1, 0, none⟩)), (.int .i64 n_2), (.int .i64 bit_3), (.int .u32 mask_4)] w K E :=
  FN_of_ewp (C := ctx) ctx_ok ctx_mixed Try.func41 (c := code41) (by kernel_rfl) (args := [(.pointer (some ⟨p_1, 0, none⟩)), (.int .i64 n_2), (.int .i64 bit_3), (.int .u32 mask_4)]) (Nat.le_of_ble_eq_true (by kernel_rfl)) okc41 (eq41 p_1 n_2 bit_3 mask_4 K E w ▸ h)

/-- (*concertina/concertinaref11.Platter).Rot -/
def R42 (p_1 : Nat) (n_2 : Int) (bit_3 : Int) (mask_4 : Int) (K : Value → World → Prop) (E : List PanicEntry → World → Prop) (w : World) : Prop :=
  JOIN (S := Unit) (fun K_5 =>
  BIF (decide (n_2 < 0))
  (K (.bool false) w)
  (OPW Try.prog (sV (Instr.loadAt 42 (.pointer (some ⟨p_1, 0, none⟩)))) w (fun r_9 w_10 =>
  ∃ (v_11 : Option Addr) (v_11l v_11c : Nat), r_9 = (.slice v_11 v_11l v_11c) ∧
  BIF (decide (n_2 ≥ (v_11l : Int)))
  (K (.bool false) w_10)
  (BIF (decide (bit_3 < 0))
  (K (.bool false) w_10)
  (BIF (decide (bit_3 ≥ 512))
  (K (.bool false) w_10)
  (K_5 (()) w_10))))
  E))
  (fun _ s w_12 => 
  OPW Try.prog (sV (Instr.loadAt 42 (.pointer (some ⟨p_1, 0, none⟩)))) w_12 (fun r_13 w_14 =>
  ∃ (v_15 : Option Addr) (v_15l v_15c : Nat), r_13 = (.slice v_15 v_15l v_15c) ∧
  IDX 1 v_15 v_15l n_2 (fun (a_16 : Addr) =>
  OPW Try.prog (sV (Instr.loadAt 49 (.pointer (some a_16)))) w_14 (fun r_17 w_18 =>
  ∃ (v_19 : Option Addr) (v_19l v_19c : Nat), r_17 = (.slice v_19 v_19l v_19c) ∧
  OPW Try.prog (sBI .append #[49, 49] 49 #[true, false] #[(.slice none 0 0), (.slice v_19 v_19l v_19c)]) w_18 (fun r_20 w_21 =>
  ∃ (v_22 : Option Addr) (v_22l v_22c : Nat), r_20 = (.slice v_22 v_22l v_22c) ∧
  JOIN (S := Unit) (fun K_23 =>
  LOOP (S := (Int × Unit)) (fun _ X_42 s w_43 => (fun (i_44 : Int) =>
  JOIN (S := Unit) (fun K_45 =>
  BIF (decide (i_44 < 32))
  (BIF (decide ((IntKind.wrap .i64 (bit_3 + i_44)) < 512))
  (K_45 (()) w_43)
  (K_23 (()) w_43))
  (K_23 (()) w_43))
  (fun _ s w_46 => 
  OPW Try.prog (sB .shr 31 (.int .u32 mask_4) (.int .u64 (IntKind.wrap .u64 i_44)) (eqGuard .shr 31 (.tmp 48) (.tmp 50) (.int .u32 mask_4) (.int .u64 (IntKind.wrap .u64 i_44)))) w_46 (fun r_47 w_48 =>
  ∃ (v_49 : Int), r_47 = (.int .u32 v_49) ∧
  BIF ((bits .and .u32 v_49 1) == 1)
  (IDX 1 v_22 v_22l (IntKind.wrap .i64 (Int.tdiv (IntKind.wrap .i64 (bit_3 + i_44)) 8)) (fun (a_50 : Addr) =>
  OPW Try.prog (sV (Instr.loadAt 5 (.pointer (some a_50)))) w_48 (fun r_51 w_52 =>
  ∃ (v_53 : Int), r_51 = (.int .u8 v_53) ∧
  OPW Try.prog (sB .shl 5 (.int .u8 1) (.int .u64 (IntKind.wrap .u64 (Int.tmod (IntKind.wrap .i64 (bit_3 + i_44)) 8))) (eqGuard .shl 5 (.const (.int .u8 1)) (.tmp 70) (.int .u8 1) (.int .u64 (IntKind.wrap .u64 (Int.tmod (IntKind.wrap .i64 (bit_3 + i_44)) 8))))) w_52 (fun r_54 w_55 =>
  ∃ (v_56 : Int), r_54 = (.int .u8 v_56) ∧
  IDX 1 v_22 v_22l (IntKind.wrap .i64 (Int.tdiv (IntKind.wrap .i64 (bit_3 + i_44)) 8)) (fun (a_57 : Addr) =>
  OPW Try.prog (sU (Instr.storeAt 5 (.pointer (some a_57)) (.int .u8 (bits .xor .u8 v_53 v_56)))) w_55 (fun r_58 w_59 =>
  X_42 ((IntKind.wrap .i64 (i_44 + 1)), ()) w_59)
  E))
  E)
  E))
  (X_42 ((IntKind.wrap .i64 (i_44 + 1)), ()) w_48))
  E)) s.1)
  (0, ()) w_21)
  (fun _ s w_60 => 
  OPW Try.prog (sV (Instr.loadAt 42 (.pointer (some ⟨p_1, 0, none⟩)))) w_60 (fun r_61 w_62 =>
  ∃ (v_63 : Option Addr) (v_63l v_63c : Nat), r_61 = (.slice v_63 v_63l v_63c) ∧
  IDX 1 v_63 v_63l n_2 (fun (a_64 : Addr) =>
  OPW Try.prog (sU (Instr.storeAt 49 (.pointer (some a_64)) (.slice v_22 v_22l v_22c))) w_62 (fun r_65 w_66 =>
  K (.bool true) w_66)
  E))
  E))
  E)
  E))
  E)
def plan42 : Plan := (.two .leaf (.join [] (.two .leaf (.two (.two .leaf .leaf) .leaf)) (.two .leaf (.join [] (.two .leaf (.loop [(10, (.one (.int .i64)))] (.join [] (.two .leaf (.two .leaf .leaf)) (.two (.two .leaf (.two .leaf .leaf)) .leaf)))) (.two .leaf (.two .leaf .leaf))))))
noncomputable def code42 : Code := match Try.f42.body with | some c => c | none => .skip
theorem eq42 (p_1 : Nat) (n_2 : Int) (bit_3 : Int) (mask_4 : Int) (K : Value → World → Prop) (E : List PanicEntry → World → Prop) (w : World) : R42 p_1 n_2 bit_3 mask_4 K E w = ewp ctx code42 plan42 (retQ ctx.P Try.f42 K E) (argEnv [(.pointer (some ⟨p_1, 0, none⟩)), (.int .i64 n_2), (.int .i64 bit_3), (.int .u32 mask_4)]) [] w := by kernel_rfl
theorem okc42 : okC Try.f42.ntmps (bif hasDefer code42 then [] else writes code42) code42 plan42 = true := by kernel_rfl
theorem R42_ok {p_1 : Nat} {n_2 : Int} {bit_3 : Int} {mask_4 : Int} {K : Value → World → Prop} {E : List PanicEntry → World → Prop} {w : World} (h : R42 p_1 n_2 bit_3 mask_4 K E w) : FN Try.prog 42 #[(.pointer (some ⟨p_1, 0, none⟩)), (.int .i64 n_2), (.int .i64 bit_3), (.int .u32 mask_4)] w K E :=
  FN_of_ewp (C := ctx) ctx_ok ctx_mixed Try.func42 (c := code42) (by kernel_rfl) (args := [(.pointer (some ⟨p_1, 0, none⟩)), (.int .i64 n_2), (.int .i64 bit_3), (.int .u32 mask_4)]) (Nat.le_of_ble_eq_true (by kernel_rfl)) okc42 (eq42 p_1 n_2 bit_3 mask_4 K E w ▸ h)

/-- (*concertina/platter.Platter).Blocks -/
def R43 (p_1 : Nat) (K : Value → World → Prop) (E : List PanicEntry → World → Prop) (w : World) : Prop :=
  OPW Try.prog (sB .eql 24 (.pointer (some ⟨p_1, 0, none⟩)) (.pointer none) (eqGuard .eql 24 (.tmp 3) (.const (.pointer none)) (.pointer (some ⟨p_1, 0, none⟩)) (.pointer none))) w (fun r_2 w_3 =>
  ∃ (v_4 : Bool), r_2 = (.bool v_4) ∧
  BIF v_4
  (K (.int .i64 0) w_3)
  (OPW Try.prog (sV (Instr.loadAt 42 (.pointer (some ⟨p_1, 0, none⟩)))) w_3 (fun r_5 w_6 =>
  ∃ (v_7 : Option Addr) (v_7l v_7c : Nat), r_5 = (.slice v_7 v_7l v_7c) ∧
  K (.int .i64 (v_7l : Int)) w_6)
  E))
  E
def plan43 : Plan := (.two .leaf (.two (.two .leaf (.two (.two .leaf .leaf) .leaf)) (.two .leaf .leaf)))
noncomputable def code43 : Code := match Try.f43.body with | some c => c | none => .skip
theorem eq43 (p_1 : Nat) (K : Value → World → Prop) (E : List PanicEntry → World → Prop) (w : World) : R43 p_1 K E w = ewp ctx code43 plan43 (retQ ctx.P Try.f43 K E) (argEnv [(.pointer (some ⟨p_1, 0, none⟩))]) [] w := by kernel_rfl
theorem okc43 : okC Try.f43.ntmps (bif hasDefer code43 then [] else writes code43) code43 plan43 = true := by kernel_rfl
theorem R43_ok {p_1 : Nat} {K : Value → World → Prop} {E : List PanicEntry → World → Prop} {w : World} (h : R43 p_1 K E w) : FN Try.prog 43 #[(.pointer (some ⟨p_1, 0, none⟩))] w K E :=
  FN_of_ewp (C := ctx) ctx_ok ctx_mixed Try.func43 (c := code43) (by kernel_rfl) (args := [(.pointer (some ⟨p_1, 0, none⟩))]) (Nat.le_of_ble_eq_true (by kernel_rfl)) okc43 (eq43 p_1 K E w ▸ h)

/-- (*concertina/platter.Platter).Count -/
def R44 (p_1 : Nat) (op_2 : Int) (K : Value → World → Prop) (E : List PanicEntry → World → Prop) (w : World) : Prop :=
  JOIN (S := Unit) (fun K_3 =>
  OPW Try.prog (sB .eql 24 (.pointer (some ⟨p_1, 0, none⟩)) (.pointer none) (eqGuard .eql 24 (.tmp 5) (.const (.pointer none)) (.pointer (some ⟨p_1, 0, none⟩)) (.pointer none))) w (fun r_7 w_8 =>
  ∃ (v_9 : Bool), r_7 = (.bool v_9) ∧
  BIF v_9
  (K (.int .i64 0) w_8)
  (BIF (decide (op_2 < 1))
  (K (.int .i64 0) w_8)
  (BIF (decide (op_2 > 3))
  (K (.int .i64 0) w_8)
  (K_3 (()) w_8))))
  E)
  (fun _ s w_10 => 
  IDXA 1 4 ⟨p_1, 3, none⟩ op_2 (fun (a_11 : Addr) =>
  OPW Try.prog (sV (Instr.loadAt 3 (.pointer (some a_11)))) w_10 (fun r_12 w_13 =>
  ∃ (v_14 : Int), r_12 = (.int .i64 v_14) ∧
  K (.int .i64 v_14) w_13)
  E))
def plan44 : Plan := (.two .leaf (.join [] (.two .leaf (.two (.two .leaf .leaf) .leaf)) (.two .leaf .leaf)))
noncomputable def code44 : Code := match Try.f44.body with | some c => c | none => .skip
theorem eq44 (p_1 : Nat) (op_2 : Int) (K : Value → World → Prop) (E : List PanicEntry → World → Prop) (w : World) : R44 p_1 op_2 K E w = ewp ctx code44 plan44 (retQ ctx.P Try.f44 K E) (argEnv [(.pointer (some ⟨p_1, 0, none⟩)), (.int .i64 op_2)]) [] w := by kernel_rfl
theorem okc44 : okC Try.f44.ntmps (bif hasDefer code44 then [] else writes code44) code44 plan44 = true := by kernel_rfl
theorem R44_ok {p_1 : Nat} {op_2 : Int} {K : Value → World → Prop} {E : List PanicEntry → World → Prop} {w : World} (h : R44 p_1 op_2 K E w) : FN Try.prog 44 #[(.pointer (some ⟨p_1, 0, none⟩)), (.int .i64 op_2)] w K E :=
  FN_of_ewp (C := ctx) ctx_ok ctx_mixed Try.func44 (c := code44) (by kernel_rfl) (args := [(.pointer (some ⟨p_1, 0, none⟩)), (.int .i64 op_2)]) (Nat.le_of_ble_eq_true (by kernel_rfl)) okc44 (eq44 p_1 op_2 K E w ▸ h)

/-- slices.Clone[[][]byte,[]byte] -/
def R45 (s_1 : Option Addr) (s_1l s_1c : Nat) (K : Value → World → Prop) (E : List PanicEntry → World → Prop) (w : World) : Prop :=
  OPW Try.prog (sB .eql 42 (.slice s_1 s_1l s_1c) (.slice none 0 0) (eqGuard .eql 42 (.tmp 3) (.const (.slice none 0 0)) (.slice s_1 s_1l s_1c) (.slice none 0 0))) w (fun r_2 w_3 =>
  ∃ (v_4 : Bool), r_2 = (.bool v_4) ∧
  BIF v_4
  (K (.slice none 0 0) w_3)
  (OPW Try.prog (sV (Instr.buildSlice 42 0 #[])) w_3 (fun r_5 w_6 =>
  ∃ (v_7 : Option Addr) (v_7l v_7c : Nat), r_5 = (.slice v_7 v_7l v_7c) ∧
  OPW Try.prog (sBI .append #[42, 42] 42 #[false, false] #[(.slice v_7 v_7l v_7c), (.slice s_1 s_1l s_1c)]) w_6 (fun r_8 w_9 =>
  ∃ (v_10 : Option Addr) (v_10l v_10c : Nat), r_8 = (.slice v_10 v_10l v_10c) ∧
  K (.slice v_10 v_10l v_10c) w_9)
  E)
  E))
  E
def plan45 : Plan := (.two .leaf (.two (.two .leaf (.two (.two .leaf .leaf) .leaf)) (.two .leaf .leaf)))
noncomputable def code45 : Code := match Try.f45.body with | some c => c | none => .skip
theorem eq45 (s_1 : Option Addr) (s_1l s_1c : Nat) (K : Value → World → Prop) (E : List PanicEntry → World → Prop) (w : World) : R45 s_1 s_1l s_1c K E w = ewp ctx code45 plan45 (retQ ctx.P Try.f45 K E) (argEnv [(.slice s_1 s_1l s_1c)]) [] w := by kernel_rfl
theorem okc45 : okC Try.f45.ntmps (bif hasDefer code45 then [] else writes code45) code45 plan45 = true := by kernel_rfl
theorem R45_ok {s_1 : Option Addr} {s_1l s_1c : Nat} {K : Value → World → Prop} {E : List PanicEntry → World → Prop} {w : World} (h : R45 s_1 s_1l s_1c K E w) : FN Try.prog 45 #[(.slice s_1 s_1l s_1c)] w K E :=
  FN_of_ewp (C := ctx) ctx_ok ctx_mixed Try.func45 (c := code45) (by kernel_rfl) (args := [(.slice s_1 s_1l s_1c)]) (Nat.le_of_ble_eq_true (by kernel_rfl)) okc45 (eq45 s_1 s_1l s_1c K E w ▸ h)

/-- slices.Clone[[]concertina/platter.write,concertina/platter.write] -/
def R46 (s_1 : Option Addr) (s_1l s_1c : Nat) (K : Value → World → Prop) (E : List PanicEntry → World → Prop) (w : World) : Prop :=
  OPW Try.prog (sB .eql 75 (.slice s_1 s_1l s_1c) (.slice none 0 0) (eqGuard .eql 75 (.tmp 3) (.const (.slice none 0 0)) (.slice s_1 s_1l s_1c) (.slice none 0 0))) w (fun r_2 w_3 =>
  ∃ (v_4 : Bool), r_2 = (.bool v_4) ∧
  BIF v_4
  (K (.slice none 0 0) w_3)
  (OPW Try.prog (sV (Instr.buildSlice 75 0 #[])) w_3 (fun r_5 w_6 =>
  ∃ (v_7 : Option Addr) (v_7l v_7c : Nat), r_5 = (.slice v_7 v_7l v_7c) ∧
  OPW Try.prog (sBI .append #[75, 75] 75 #[false, false] #[(.slice v_7 v_7l v_7c), (.slice s_1 s_1l s_1c)]) w_6 (fun r_8 w_9 =>
  ∃ (v_10 : Option Addr) (v_10l v_10c : Nat), r_8 = (.slice v_10 v_10l v_10c) ∧
  K (.slice v_10 v_10l v_10c) w_9)
  E)
  E))
  E
def plan46 : Plan := (.two .leaf (.two (.two .leaf (.two (.two .leaf .leaf) .leaf)) (.two .leaf .leaf)))
noncomputable def code46 : Code := match Try.f46.body with | some c => c | none => .skip
theorem eq46 (s_1 : Option Addr) (s_1l s_1c : Nat) (K : Value → World → Prop) (E : List PanicEntry → World → Prop) (w : World) : R46 s_1 s_1l s_1c K E w = ewp ctx code46 plan46 (retQ ctx.P Try.f46 K E) (argEnv [(.slice s_1 s_1l s_1c)]) [] w := by kernel_rfl
theorem okc46 : okC Try.f46.ntmps (bif hasDefer code46 then [] else writes code46) code46 plan46 = true := by kernel_rfl
theorem R46_ok {s_1 : Option Addr} {s_1l s_1c : Nat} {K : Value → World → Prop} {E : List PanicEntry → World → Prop} {w : World} (h : R46 s_1 s_1l s_1c K E w) : FN Try.prog 46 #[(.slice s_1 s_1l s_1c)] w K E :=
  FN_of_ewp (C := ctx) ctx_ok ctx_mixed Try.func46 (c := code46) (by kernel_rfl) (args := [(.slice s_1 s_1l s_1c)]) (Nat.le_of_ble_eq_true (by kernel_rfl)) okc46 (eq46 s_1 s_1l s_1c K E w ▸ h)

/-- slices.Clone[[]concertina/platter.Fault,concertina/platter.Fault] -/
def R47 (s_1 : Option Addr) (s_1l s_1c : Nat) (K : Value → World → Prop) (E : List PanicEntry → World → Prop) (w : World) : Prop :=
  OPW Try.prog (sB .eql 76 (.slice s_1 s_1l s_1c) (.slice none 0 0) (eqGuard .eql 76 (.tmp 3) (.const (.slice none 0 0)) (.slice s_1 s_1l s_1c) (.slice none 0 0))) w (fun r_2 w_3 =>
  ∃ (v_4 : Bool), r_2 = (.bool v_4) ∧
  BIF v_4
  (K (.slice none 0 0) w_3)
  (OPW Try.prog (sV (Instr.buildSlice 76 0 #[])) w_3 (fun r_5 w_6 =>
  ∃ (v_7 : Option Addr) (v_7l v_7c : Nat), r_5 = (.slice v_7 v_7l v_7c) ∧
  OPW Try.prog (sBI .append #[76, 76] 76 #[false, false] #[(.slice v_7 v_7l v_7c), (.slice s_1 s_1l s_1c)]) w_6 (fun r_8 w_9 =>
  ∃ (v_10 : Option Addr) (v_10l v_10c : Nat), r_8 = (.slice v_10 v_10l v_10c) ∧
  K (.slice v_10 v_10l v_10c) w_9)
  E)
  E))
  E
def plan47 : Plan := (.two .leaf (.two (.two .leaf (.two (.two .leaf .leaf) .leaf)) (.two .leaf .leaf)))
noncomputable def code47 : Code := match Try.f47.body with | some c => c | none => .skip
theorem eq47 (s_1 : Option Addr) (s_1l s_1c : Nat) (K : Value → World → Prop) (E : List PanicEntry → World → Prop) (w : World) : R47 s_1 s_1l s_1c K E w = ewp ctx code47 plan47 (retQ ctx.P Try.f47 K E) (argEnv [(.slice s_1 s_1l s_1c)]) [] w := by kernel_rfl
theorem okc47 : okC Try.f47.ntmps (bif hasDefer code47 then [] else writes code47) code47 plan47 = true := by kernel_rfl
theorem R47_ok {s_1 : Option Addr} {s_1l s_1c : Nat} {K : Value → World → Prop} {E : List PanicEntry → World → Prop} {w : World} (h : R47 s_1 s_1l s_1c K E w) : FN Try.prog 47 #[(.slice s_1 s_1l s_1c)] w K E :=
  FN_of_ewp (C := ctx) ctx_ok ctx_mixed Try.func47 (c := code47) (by kernel_rfl) (args := [(.slice s_1 s_1l s_1c)]) (Nat.le_of_ble_eq_true (by kernel_rfl)) okc47 (eq47 s_1 s_1l s_1c K E w ▸ h)

/-- (*concertina/platter.Platter).tried -/
def R56 (p_1 : Nat) (op_2 : Int) (do_3 : Nat) (do_3c : Array Value) (K : Value → World → Prop) (E : List PanicEntry → World → Prop) (w : World) : Prop :=
  OPW Try.prog (sV (Instr.alloc 25 true (.tuple #[]))) w (fun r_4 w_5 =>
  ∃ (e_6 : Nat), r_4 = (.pointer (some ⟨e_6, 0, none⟩)) ∧
  FN Try.prog 43 #[(.pointer (some ⟨p_1, 0, none⟩))] w_5 (fun r_7 w_8 =>
  ∃ (v_9 : Int), r_7 = (.int .i64 v_9) ∧
  BIF (v_9 == 0)
  (OPW Try.prog (sU (Instr.storeAt 25 (.pointer (some ⟨e_6, 0, none⟩)) (.int .i64 1))) w_8 (fun r_10 w_11 =>
  RCELL Try.prog 25 (.pointer (some ⟨e_6, 0, none⟩)) w_11 (fun x_12 => K x_12 w_11))
  E)
  (FN Try.prog 73 #[(.pointer (some ⟨p_1, 0, none⟩)), (.int .i64 op_2)] w_8 (fun r_28 w_29 =>
  CALLF Try.prog (ctx.bd do_3) do_3 ((([] : List Value) ++ do_3c.toList).toArray) (sC (.func (.func do_3) #[] do_3c) #[]) w_29 (fun r_40 w_41 =>
  ∃ (v_42 : Int), r_40 = (.int .i64 v_42) ∧
  OPW Try.prog (sU (Instr.storeAt 25 (.pointer (some ⟨e_6, 0, none⟩)) (.int .i64 v_42))) w_41 (fun r_48 w_49 =>
  DEFER Try.prog { target := .fn (.func 72) #[(.pointer (some ⟨e_6, 0, none⟩))], args := #[] } .returning w_49 (fun u_50 w_51 => LVEND (settle u_50) (RCELL Try.prog 25 (.pointer (some ⟨e_6, 0, none⟩)) w_51 (fun x_53 => K x_53 w_51)) E w_51) (fun ch_52 u_50 w_51 => LVEND (raised u_50 ch_52) (RCELL Try.prog 25 (.pointer (some ⟨e_6, 0, none⟩)) w_51 (fun x_54 => K x_54 w_51)) E w_51))
  (fun ch w => DEFER Try.prog { target := .fn (.func 72) #[(.pointer (some ⟨e_6, 0, none⟩))], args := #[] } (.panicking ch) w (fun u_43 w_44 => LVEND (settle u_43) (RCELL Try.prog 25 (.pointer (some ⟨e_6, 0, none⟩)) w_44 (fun x_46 => K x_46 w_44)) E w_44) (fun ch_45 u_43 w_44 => LVEND (raised u_43 ch_45) (RCELL Try.prog 25 (.pointer (some ⟨e_6, 0, none⟩)) w_44 (fun x_47 => K x_47 w_44)) E w_44)))
  (fun ch w => DEFER Try.prog { target := .fn (.func 72) #[(.pointer (some ⟨e_6, 0, none⟩))], args := #[] } (.panicking ch) w (fun u_35 w_36 => LVEND (settle u_35) (RCELL Try.prog 25 (.pointer (some ⟨e_6, 0, none⟩)) w_36 (fun x_38 => K x_38 w_36)) E w_36) (fun ch_37 u_35 w_36 => LVEND (raised u_35 ch_37) (RCELL Try.prog 25 (.pointer (some ⟨e_6, 0, none⟩)) w_36 (fun x_39 => K x_39 w_36)) E w_36)))
  (fun ch w => DEFER Try.prog { target := .fn (.func 72) #[(.pointer (some ⟨e_6, 0, none⟩))], args := #[] } (.panicking ch) w (fun u_23 w_24 => LVEND (settle u_23) (RCELL Try.prog 25 (.pointer (some ⟨e_6, 0, none⟩)) w_24 (fun x_26 => K x_26 w_24)) E w_24) (fun ch_25 u_23 w_24 => LVEND (raised u_23 ch_25) (RCELL Try.prog 25 (.pointer (some ⟨e_6, 0, none⟩)) w_24 (fun x_27 => K x_27 w_24)) E w_24))))
  E)
  E
def plan56 : Plan := (.two .leaf (.two (.two .leaf (.two (.two .leaf .leaf) .leaf)) (.two .leaf (.two .leaf (.two .leaf .leaf)))))
noncomputable def code56 : Code := match Try.f56.body with | some c => c | none => .skip
theorem eq56 (p_1 : Nat) (op_2 : Int) (do_3 : Nat) (do_3c : Array Value) (K : Value → World → Prop) (E : List PanicEntry → World → Prop) (w : World) : R56 p_1 op_2 do_3 do_3c K E w = ewp ctx code56 plan56 (retQ ctx.P Try.f56 K E) (argEnv [(.pointer (some ⟨p_1, 0, none⟩)), (.int .i64 op_2), (.func (.func do_3) #[] do_3c)]) [] w := by kernel_rfl
theorem okc56 : okC Try.f56.ntmps (bif hasDefer code56 then [] else writes code56) code56 plan56 = true := by kernel_rfl
theorem R56_ok {p_1 : Nat} {op_2 : Int} {do_3 : Nat} {do_3c : Array Value} {K : Value → World → Prop} {E : List PanicEntry → World → Prop} {w : World} (h : R56 p_1 op_2 do_3 do_3c K E w) : FN Try.prog 56 #[(.pointer (some ⟨p_1, 0, none⟩)), (.int .i64 op_2), (.func (.func do_3) #[] do_3c)] w K E :=
  FN_of_ewp (C := ctx) ctx_ok ctx_mixed Try.func56 (c := code56) (by kernel_rfl) (args := [(.pointer (some ⟨p_1, 0, none⟩)), (.int .i64 op_2), (.func (.func do_3) #[] do_3c)]) (Nat.le_of_ble_eq_true (by kernel_rfl)) okc56 (eq56 p_1 op_2 do_3 do_3c K E w ▸ h)

/-- (*concertina/platter.Platter).Write$1 -/
def R57 (v_1 : Nat) (v_2 : Nat) (v_3 : Nat) (K : Value → World → Prop) (E : List PanicEntry → World → Prop) (w : World) : Prop :=
  JOIN (S := Unit) (fun K_4 =>
  OPW Try.prog (sV (Instr.loadAt 24 (.pointer (some ⟨v_1, 0, none⟩)))) w (fun r_17 w_18 =>
  ∃ (v_19 : Option Addr), r_17 = (.pointer v_19) ∧
  OPW Try.prog (sV (Instr.loadAt 3 (.pointer (some ⟨v_2, 0, none⟩)))) w_18 (fun r_20 w_21 =>
  ∃ (v_22 : Int), r_20 = (.int .i64 v_22) ∧
  FN Try.prog 58 #[(.pointer v_19), (.int .i64 v_22)] w_21 (fun r_23 w_24 =>
  ∃ (v_25 : Bool), r_23 = (.bool v_25) ∧
  BIF (!v_25)
  (K (.int .i64 1) w_24)
  (OPW Try.prog (sV (Instr.loadAt 49 (.pointer (some ⟨v_3, 0, none⟩)))) w_24 (fun r_26 w_27 =>
  ∃ (v_28 : Option Addr) (v_28l v_28c : Nat), r_26 = (.slice v_28 v_28l v_28c) ∧
  BIF ((v_28l : Int) != 64)
  (K (.int .i64 1) w_27)
  (K_4 (()) w_27))
  E))
  E)
  E)
  E)
  (fun _ s w_29 => 
  DRAW w_29 (fun (S_30 : World → World → Prop) (w_31 : World) =>
  HELD Try.prog S_30 (sV (Instr.loadAt 24 (.pointer (some ⟨v_1, 0, none⟩)))) w_31 (fun r_32 =>
  ∃ (v_33 : Option Addr), r_32 = (.pointer v_33) ∧
  HELD Try.prog S_30 (sV (Instr.loadAt 24 (.pointer (some ⟨v_1, 0, none⟩)))) w_31 (fun r_34 =>
  ∃ (v_35 : Option Addr), r_34 = (.pointer v_35) ∧
  NILCHK v_35 (fun (a_36 : Addr) =>
  HELD Try.prog S_30 (sV (Instr.loadAt 75 (.pointer (some (Addr.add a_36 1))))) w_31 (fun r_37 =>
  ∃ (v_38 : Option Addr) (v_38l v_38c : Nat), r_37 = (.slice v_38 v_38l v_38c) ∧
  HELD Try.prog S_30 (sV (Instr.loadAt 3 (.pointer (some ⟨v_2, 0, none⟩)))) w_31 (fun r_39 =>
  ∃ (v_40 : Int), r_39 = (.int .i64 v_40) ∧
  HELD Try.prog S_30 (sV (Instr.loadAt 49 (.pointer (some ⟨v_3, 0, none⟩)))) w_31 (fun r_41 =>
  ∃ (v_42 : Option Addr) (v_42l v_42c : Nat), r_41 = (.slice v_42 v_42l v_42c) ∧
  FN Try.prog 59 #[(.slice v_42 v_42l v_42c)] w_31 (fun r_43 w_44 =>
  ∃ (v_45 : Option Addr) (v_45l v_45c : Nat), r_43 = (.slice v_45 v_45l v_45c) ∧
  S_30 w_31 w_44 ∧ (OPW Try.prog (sV (Instr.buildSlice 75 1 #[(0, (.agg #[(.int .i64 v_40), (.slice v_45 v_45l v_45c)]))])) w_44 (fun r_46 w_47 =>
  ∃ (v_48 : Option Addr) (v_48l v_48c : Nat), r_46 = (.slice v_48 v_48l v_48c) ∧
  S_30 w_44 w_47 ∧ (OPW Try.prog (sBI .append #[75, 75] 75 #[false, false] #[(.slice v_38 v_38l v_38c), (.slice v_48 v_48l v_48c)]) w_47 (fun r_49 w_50 =>
  ∃ (v_51 : Option Addr) (v_51l v_51c : Nat), r_49 = (.slice v_51 v_51l v_51c) ∧
  S_30 w_47 w_50 ∧ (NILCHK v_33 (fun (a_52 : Addr) =>
  OPW Try.prog (sU (Instr.storeAt 75 (.pointer (some (Addr.add a_52 1))) (.slice v_51 v_51l v_51c))) w_50 (fun r_53 w_54 =>
  K (.int .i64 0) w_54)
  E)))
  E))
  E))
  E))))))))
def plan57 : Plan := (.two .leaf (.join [] (.two .leaf (.two (.two .leaf .leaf) .leaf)) (.two (.draw (.take 0 (.take 1 (.take 2 (.take 3 (.take 4 (.take 5 (.take 6 (.cases [7] fun _ => (.take 8 (.cases [9] fun _ => (.cases [10] fun _ => (.take 11 (.take 12 (.cases [13] fun _ => .fin))))))))))))))) (.two .leaf .leaf))))
noncomputable def code57 : Code := match Try.f57.body with | some c => c | none => .skip
theorem eq57 (v_1 : Nat) (v_2 : Nat) (v_3 : Nat) (K : Value → World → Prop) (E : List PanicEntry → World → Prop) (w : World) : R57 v_1 v_2 v_3 K E w = ewp ctx code57 plan57 (retQ ctx.P Try.f57 K E) (argEnv [(.pointer (some ⟨v_1, 0, none⟩)), (.pointer (some ⟨v_2, 0, none⟩)), (.pointer (some ⟨v_3, 0, none⟩))]) [] w := by kernel_rfl
theorem okc57 : okC Try.f57.ntmps (bif hasDefer code57 then [] else writes code57) code57 plan57 = true := by kernel_rfl
theorem R57_ok {v_1 : Nat} {v_2 : Nat} {v_3 : Nat} {K : Value → World → Prop} {E : List PanicEntry → World → Prop} {w : World} (h : R57 v_1 v_2 v_3 K E w) : FN Try.prog 57 #[(.pointer (some ⟨v_1, 0, none⟩)), (.pointer (some ⟨v_2, 0, none⟩)), (.pointer (some ⟨v_3, 0, none⟩))] w K E :=
  FN_of_ewp (C := ctx) ctx_ok ctx_mixed Try.func57 (c := code57) (by kernel_rfl) (args := [(.pointer (some ⟨v_1, 0, none⟩)), (.pointer (some ⟨v_2, 0, none⟩)), (.pointer (some ⟨v_3, 0, none⟩))]) (Nat.le_of_ble_eq_true (by kernel_rfl)) okc57 (eq57 v_1 v_2 v_3 K E w ▸ h)

/-- (*concertina/platter.Platter).there -/
def R58 (p_1 : Nat) (n_2 : Int) (K : Value → World → Prop) (E : List PanicEntry → World → Prop) (w : World) : Prop :=
  BIF (decide (n_2 ≥ 0))
  (OPW Try.prog (sV (Instr.loadAt 42 (.pointer (some ⟨p_1, 0, none⟩)))) w (fun r_3 w_4 =>
  ∃ (v_5 : Option Addr) (v_5l v_5c : Nat), r_3 = (.slice v_5 v_5l v_5c) ∧
  K (.bool (decide (n_2 < (v_5l : Int)))) w_4)
  E)
  (K (.bool false) w)
def plan58 : Plan := (.two .leaf (.two .leaf .leaf))
noncomputable def code58 : Code := match Try.f58.body with | some c => c | none => .skip
theorem eq58 (p_1 : Nat) (n_2 : Int) (K : Value → World → Prop) (E : List PanicEntry → World → Prop) (w : World) : R58 p_1 n_2 K E w = ewp ctx code58 plan58 (retQ ctx.P Try.f58 K E) (argEnv [(.pointer (some ⟨p_1, 0, none⟩)), (.int .i64 n_2)]) [] w := by kernel_rfl
theorem okc58 : okC Try.f58.ntmps (bif hasDefer code58 then [] else writes code58) code58 plan58 = true := by kernel_rfl
theorem R58_ok {p_1 : Nat} {n_2 : Int} {K : Value → World → Prop} {E : List PanicEntry → World → Prop} {w : World} (h : R58 p_1 n_2 K E w) : FN Try.prog 58 #[(.pointer (some ⟨p_1, 0, none⟩)), (.int .i64 n_2)] w K E :=
  FN_of_ewp (C := ctx) ctx_ok ctx_mixed Try.func58 (c := code58) (by kernel_rfl) (args := [(.pointer (some ⟨p_1, 0, none⟩)), (.int .i64 n_2)]) (Nat.le_of_ble_eq_true (by kernel_rfl)) okc58 (eq58 p_1 n_2 K E w ▸ h)

/-- bytes.Clone -/
def R59 (b_1 : Option Addr) (b_1l b_1c : Nat) (K : Value → World → Prop) (E : List PanicEntry → World → Prop) (w : World) : Prop :=
  OPW Try.prog (sB .eql 49 (.slice b_1 b_1l b_1c) (.slice none 0 0) (eqGuard .eql 49 (.tmp 3) (.const (.slice none 0 0)) (.slice b_1 b_1l b_1c) (.slice none 0 0))) w (fun r_2 w_3 =>
  ∃ (v_4 : Bool), r_2 = (.bool v_4) ∧
  BIF v_4
  (K (.slice none 0 0) w_3)
  (OPW Try.prog (sV (Instr.buildSlice 49 0 #[])) w_3 (fun r_5 w_6 =>
  ∃ (v_7 : Option Addr) (v_7l v_7c : Nat), r_5 = (.slice v_7 v_7l v_7c) ∧
  OPW Try.prog (sBI .append #[49, 49] 49 #[false, false] #[(.slice v_7 v_7l v_7c), (.slice b_1 b_1l b_1c)]) w_6 (fun r_8 w_9 =>
  ∃ (v_10 : Option Addr) (v_10l v_10c : Nat), r_8 = (.slice v_10 v_10l v_10c) ∧
  K (.slice v_10 v_10l v_10c) w_9)
  E)
  E))
  E
def plan59 : Plan := (.two .leaf (.two (.two .leaf (.two (.two .leaf .leaf) .leaf)) (.two .leaf .leaf)))
noncomputable def code59 : Code := match Try.f59.body with | some c => c | none => .skip
theorem eq59 (b_1 : Option Addr) (b_1l b_1c : Nat) (K : Value → World → Prop) (E : List PanicEntry → World → Prop) (w : World) : R59 b_1 b_1l b_1c K E w = ewp ctx code59 plan59 (retQ ctx.P Try.f59 K E) (argEnv [(.slice b_1 b_1l b_1c)]) [] w := by kernel_rfl
theorem okc59 : okC Try.f59.ntmps (bif hasDefer code59 then [] else writes code59) code59 plan59 = true := by kernel_rfl
theorem R59_ok {b_1 : Option Addr} {b_1l b_1c : Nat} {K : Value → World → Prop} {E : List PanicEntry → World → Prop} {w : World} (h : R59 b_1 b_1l b_1c K E w) : FN Try.prog 59 #[(.slice b_1 b_1l b_1c)] w K E :=
  FN_of_ewp (C := ctx) ctx_ok ctx_mixed Try.func59 (c := code59) (by kernel_rfl) (args := [(.slice b_1 b_1l b_1c)]) (Nat.le_of_ble_eq_true (by kernel_rfl)) okc59 (eq59 b_1 b_1l b_1c K E w ▸ h)

/-- (*concertina/platter.Platter).settle -/
def R60 (p_1 : Nat) (kept_2 : Nat) (kept_2c : Array Value) (K : Value → World → Prop) (E : List PanicEntry → World → Prop) (w : World) : Prop :=
  OPW Try.prog (sV (Instr.loadAt 75 (.pointer (some ⟨p_1, 1, none⟩)))) w (fun r_3 w_4 =>
  ∃ (v_5 : Option Addr) (v_5l v_5c : Nat), r_3 = (.slice v_5 v_5l v_5c) ∧
  LOOP (S := (Int × Unit)) (fun _ X_6 s w_7 => (fun (v_8 : Int) =>
  BIF (decide (v_8 < (v_5l : Int)))
  (IDX 2 v_5 v_5l v_8 (fun (a_9 : Addr) =>
  OPW Try.prog (sV (Instr.loadAt 88 (.pointer (some a_9)))) w_7 (fun r_10 w_11 =>
  ∃ (v_12 : Int) (v_13 : Option Addr) (v_13l v_13c : Nat), r_10 = (.agg #[(.int .i64 v_12), (.slice v_13 v_13l v_13c)]) ∧
  OPW Try.prog (sV (Instr.alloc 88 true (.tuple #[]))) w_11 (fun r_14 w_15 =>
  ∃ (w_16 : Nat), r_14 = (.pointer (some ⟨w_16, 0, none⟩)) ∧
  OPW Try.prog (sU (Instr.storeAt 88 (.pointer (some ⟨w_16, 0, none⟩)) (.agg #[(.int .i64 v_12), (.slice v_13 v_13l v_13c)]))) w_15 (fun r_17 w_18 =>
  CALLF Try.prog (ctx.bd kept_2) kept_2 ((([(.int .i64 v_8)] : List Value) ++ kept_2c.toList).toArray) (sC (.func (.func kept_2) #[] kept_2c) #[(.int .i64 v_8)]) w_18 (fun r_19 w_20 =>
  ∃ (v_21 : Bool), r_19 = (.bool v_21) ∧
  BIF v_21
  (DRAW w_20 (fun (S_22 : World → World → Prop) (w_23 : World) =>
  HELD Try.prog S_22 (sV (Instr.loadAt 42 (.pointer (some ⟨p_1, 0, none⟩)))) w_23 (fun r_24 =>
  ∃ (v_25 : Option Addr) (v_25l v_25c : Nat), r_24 = (.slice v_25 v_25l v_25c) ∧
  HELD Try.prog S_22 (sV (Instr.loadAt 3 (.pointer (some ⟨w_16, 0, none⟩)))) w_23 (fun r_26 =>
  ∃ (v_27 : Int), r_26 = (.int .i64 v_27) ∧
  HELD Try.prog S_22 (sV (Instr.loadAt 49 (.pointer (some ⟨w_16, 1, none⟩)))) w_23 (fun r_28 =>
  ∃ (v_29 : Option Addr) (v_29l v_29c : Nat), r_28 = (.slice v_29 v_29l v_29c) ∧
  IDX 1 v_25 v_25l v_27 (fun (a_30 : Addr) =>
  OPW Try.prog (sU (Instr.storeAt 49 (.pointer (some a_30)) (.slice v_29 v_29l v_29c))) w_23 (fun r_31 w_32 =>
  X_6 ((IntKind.wrap .i64 (v_8 + 1)), ()) w_32)
  E))))))
  (X_6 ((IntKind.wrap .i64 (v_8 + 1)), ()) w_20))
  E)
  E)
  E)
  E))
  (OPW Try.prog (sU (Instr.storeAt 75 (.pointer (some ⟨p_1, 1, none⟩)) (.slice none 0 0))) w_7 (fun r_33 w_34 =>
  K (.tuple #[]) w_34)
  E)) s.1)
  (0, ()) w_4)
  E
def plan60 : Plan := (.two (.two .leaf (.loop [(11, (.one (.int .i64)))] (.two .leaf (.two (.two .leaf .leaf) (.two (.two .leaf (.two .leaf (.two (.draw (.take 0 (.take 1 (.take 2 (.take 3 (.take 4 (.take 5 (.take 6 (.take 7 (.take 8 (.cases [9] fun _ => .fin))))))))))) .leaf))) .leaf))))) .leaf)
noncomputable def code60 : Code := match Try.f60.body with | some c => c | none => .skip
theorem eq60 (p_1 : Nat) (kept_2 : Nat) (kept_2c : Array Value) (K : Value → World → Prop) (E : List PanicEntry → World → Prop) (w : World) : R60 p_1 kept_2 kept_2c K E w = ewp ctx code60 plan60 (retQ ctx.P Try.f60 K E) (argEnv [(.pointer (some ⟨p_1, 0, none⟩)), (.func (.func kept_2) #[] kept_2c)]) [] w := by kernel_rfl
theorem okc60 : okC Try.f60.ntmps (bif hasDefer code60 then [] else writes code60) code60 plan60 = true := by kernel_rfl
theorem R60_ok {p_1 : Nat} {kept_2 : Nat} {kept_2c : Array Value} {K : Value → World → Prop} {E : List PanicEntry → World → Prop} {w : World} (h : R60 p_1 kept_2 kept_2c K E w) : FN Try.prog 60 #[(.pointer (some ⟨p_1, 0, none⟩)), (.func (.func kept_2) #[] kept_2c)] w K E :=
  FN_of_ewp (C := ctx) ctx_ok ctx_mixed Try.func60 (c := code60) (by kernel_rfl) (args := [(.pointer (some ⟨p_1, 0, none⟩)), (.func (.func kept_2) #[] kept_2c)]) (Nat.le_of_ble_eq_true (by kernel_rfl)) okc60 (eq60 p_1 kept_2 kept_2c K E w ▸ h)

/-- (*concertina/platter.Platter).Crash$1 -/
def R61 (i_1 : Int) (v_2 : Nat) (K : Value → World → Prop) (E : List PanicEntry → World → Prop) (w : World) : Prop :=
  OPW Try.prog (sV (Instr.loadAt 32 (.pointer (some ⟨v_2, 0, none⟩)))) w (fun r_3 w_4 =>
  ∃ (v_5 : Option Addr) (v_5l v_5c : Nat), r_3 = (.slice v_5 v_5l v_5c) ∧
  BIF (decide (i_1 < (v_5l : Int)))
  (OPW Try.prog (sV (Instr.loadAt 32 (.pointer (some ⟨v_2, 0, none⟩)))) w_4 (fun r_6 w_7 =>
  ∃ (v_8 : Option Addr) (v_8l v_8c : Nat), r_6 = (.slice v_8 v_8l v_8c) ∧
  IDX 1 v_8 v_8l i_1 (fun (a_9 : Addr) =>
  OPW Try.prog (sV (Instr.loadAt 4 (.pointer (some a_9)))) w_7 (fun r_10 w_11 =>
  ∃ (v_12 : Bool), r_10 = (.bool v_12) ∧
  K (.bool v_12) w_11)
  E))
  E)
  (K (.bool false) w_4))
  E
def plan61 : Plan := (.two .leaf (.two .leaf .leaf))
noncomputable def code61 : Code := match Try.f61.body with | some c => c | none => .skip
theorem eq61 (i_1 : Int) (v_2 : Nat) (K : Value → World → Prop) (E : List PanicEntry → World → Prop) (w : World) : R61 i_1 v_2 K E w = ewp ctx code61 plan61 (retQ ctx.P Try.f61 K E) (argEnv [(.int .i64 i_1), (.pointer (some ⟨v_2, 0, none⟩))]) [] w := by kernel_rfl
theorem okc61 : okC Try.f61.ntmps (bif hasDefer code61 then [] else writes code61) code61 plan61 = true := by kernel_rfl
theorem R61_ok {i_1 : Int} {v_2 : Nat} {K : Value → World → Prop} {E : List PanicEntry → World → Prop} {w : World} (h : R61 i_1 v_2 K E w) : FN Try.prog 61 #[(.int .i64 i_1), (.pointer (some ⟨v_2, 0, none⟩))] w K E :=
  FN_of_ewp (C := ctx) ctx_ok ctx_mixed Try.func61 (c := code61) (by kernel_rfl) (args := [(.int .i64 i_1), (.pointer (some ⟨v_2, 0, none⟩))]) (Nat.le_of_ble_eq_true (by kernel_rfl)) okc61 (eq61 i_1 v_2 K E w ▸ h)

/-- (*concertina/platter.Platter).Read$1 -/
def R62 (v_1 : Nat) (v_2 : Nat) (v_3 : Nat) (K : Value → World → Prop) (E : List PanicEntry → World → Prop) (w : World) : Prop :=
  OPW Try.prog (sV (Instr.loadAt 24 (.pointer (some ⟨v_1, 0, none⟩)))) w (fun r_4 w_5 =>
  ∃ (v_6 : Option Addr), r_4 = (.pointer v_6) ∧
  OPW Try.prog (sV (Instr.loadAt 3 (.pointer (some ⟨v_2, 0, none⟩)))) w_5 (fun r_7 w_8 =>
  ∃ (v_9 : Int), r_7 = (.int .i64 v_9) ∧
  FN Try.prog 58 #[(.pointer v_6), (.int .i64 v_9)] w_8 (fun r_10 w_11 =>
  ∃ (v_12 : Bool), r_10 = (.bool v_12) ∧
  BIF (!v_12)
  (K (.int .i64 1) w_11)
  (DRAW w_11 (fun (S_13 : World → World → Prop) (w_14 : World) =>
  HELD Try.prog S_13 (sV (Instr.loadAt 24 (.pointer (some ⟨v_1, 0, none⟩)))) w_14 (fun r_15 =>
  ∃ (v_16 : Option Addr), r_15 = (.pointer v_16) ∧
  NILCHK v_16 (fun (a_17 : Addr) =>
  HELD Try.prog S_13 (sV (Instr.loadAt 42 (.pointer (some a_17)))) w_14 (fun r_18 =>
  ∃ (v_19 : Option Addr) (v_19l v_19c : Nat), r_18 = (.slice v_19 v_19l v_19c) ∧
  HELD Try.prog S_13 (sV (Instr.loadAt 3 (.pointer (some ⟨v_2, 0, none⟩)))) w_14 (fun r_20 =>
  ∃ (v_21 : Int), r_20 = (.int .i64 v_21) ∧
  IDX 1 v_19 v_19l v_21 (fun (a_22 : Addr) =>
  HELD Try.prog S_13 (sV (Instr.loadAt 49 (.pointer (some a_22)))) w_14 (fun r_23 =>
  ∃ (v_24 : Option Addr) (v_24l v_24c : Nat), r_23 = (.slice v_24 v_24l v_24c) ∧
  OPW Try.prog (sU (Instr.storeAt 49 (.pointer (some ⟨v_3, 0, none⟩)) (.slice v_24 v_24l v_24c))) w_14 (fun r_25 w_26 =>
  OPW Try.prog (sV (Instr.loadAt 24 (.pointer (some ⟨v_1, 0, none⟩)))) w_26 (fun r_27 w_28 =>
  ∃ (v_29 : Option Addr), r_27 = (.pointer v_29) ∧
  NILCHK v_29 (fun (a_30 : Addr) =>
  OPW Try.prog (sV (Instr.loadAt 75 (.pointer (some (Addr.add a_30 1))))) w_28 (fun r_31 w_32 =>
  ∃ (v_33 : Option Addr) (v_33l v_33c : Nat), r_31 = (.slice v_33 v_33l v_33c) ∧
  LOOP (S := (Int × Unit)) (fun _ X_34 s w_35 => (fun (v_36 : Int) =>
  BIF (decide (v_36 < (v_33l : Int)))
  (IDX 2 v_33 v_33l v_36 (fun (a_37 : Addr) =>
  OPW Try.prog (sV (Instr.loadAt 88 (.pointer (some a_37)))) w_35 (fun r_38 w_39 =>
  ∃ (v_40 : Int) (v_41 : Option Addr) (v_41l v_41c : Nat), r_38 = (.agg #[(.int .i64 v_40), (.slice v_41 v_41l v_41c)]) ∧
  OPW Try.prog (sV (Instr.alloc 88 true (.tuple #[]))) w_39 (fun r_42 w_43 =>
  ∃ (w_44 : Nat), r_42 = (.pointer (some ⟨w_44, 0, none⟩)) ∧
  OPW Try.prog (sU (Instr.storeAt 88 (.pointer (some ⟨w_44, 0, none⟩)) (.agg #[(.int .i64 v_40), (.slice v_41 v_41l v_41c)]))) w_43 (fun r_45 w_46 =>
  OPW Try.prog (sV (Instr.loadAt 3 (.pointer (some ⟨w_44, 0, none⟩)))) w_46 (fun r_47 w_48 =>
  ∃ (v_49 : Int), r_47 = (.int .i64 v_49) ∧
  OPW Try.prog (sV (Instr.loadAt 3 (.pointer (some ⟨v_2, 0, none⟩)))) w_48 (fun r_50 w_51 =>
  ∃ (v_52 : Int), r_50 = (.int .i64 v_52) ∧
  BIF (v_49 == v_52)
  (OPW Try.prog (sV (Instr.loadAt 49 (.pointer (some ⟨w_44, 1, none⟩)))) w_51 (fun r_53 w_54 =>
  ∃ (v_55 : Option Addr) (v_55l v_55c : Nat), r_53 = (.slice v_55 v_55l v_55c) ∧
  OPW Try.prog (sU (Instr.storeAt 49 (.pointer (some ⟨v_3, 0, none⟩)) (.slice v_55 v_55l v_55c))) w_54 (fun r_56 w_57 =>
  X_34 ((IntKind.wrap .i64 (v_36 + 1)), ()) w_57)
  E)
  E)
  (X_34 ((IntKind.wrap .i64 (v_36 + 1)), ()) w_51))
  E)
  E)
  E)
  E)
  E))
  (OPW Try.prog (sV (Instr.loadAt 49 (.pointer (some ⟨v_3, 0, none⟩)))) w_35 (fun r_58 w_59 =>
  ∃ (v_60 : Option Addr) (v_60l v_60c : Nat), r_58 = (.slice v_60 v_60l v_60c) ∧
  FN Try.prog 59 #[(.slice v_60 v_60l v_60c)] w_59 (fun r_61 w_62 =>
  ∃ (v_63 : Option Addr) (v_63l v_63c : Nat), r_61 = (.slice v_63 v_63l v_63c) ∧
  OPW Try.prog (sU (Instr.storeAt 49 (.pointer (some ⟨v_3, 0, none⟩)) (.slice v_63 v_63l v_63c))) w_62 (fun r_64 w_65 =>
  K (.int .i64 0) w_65)
  E)
  E)
  E)) s.1)
  (0, ()) w_32)
  E))
  E)
  E)))))))))
  E)
  E)
  E
def plan62 : Plan := (.two .leaf (.two (.two .leaf (.two (.two .leaf .leaf) .leaf)) (.two (.draw (.take 0 (.take 1 (.take 2 (.take 3 (.take 4 (.take 5 (.take 6 (.cases [7] fun _ => .fin))))))))) (.two (.two .leaf (.loop [(22, (.one (.int .i64)))] (.two .leaf (.two (.two .leaf .leaf) (.two (.two .leaf (.two .leaf (.two .leaf .leaf))) .leaf))))) (.two .leaf (.two .leaf .leaf))))))
noncomputable def code62 : Code := match Try.f62.body with | some c => c | none => .skip
theorem eq62 (v_1 : Nat) (v_2 : Nat) (v_3 : Nat) (K : Value → World → Prop) (E : List PanicEntry → World → Prop) (w : World) : R62 v_1 v_2 v_3 K E w = ewp ctx code62 plan62 (retQ ctx.P Try.f62 K E) (argEnv [(.pointer (some ⟨v_1, 0, none⟩)), (.pointer (some ⟨v_2, 0, none⟩)), (.pointer (some ⟨v_3, 0, none⟩))]) [] w := by kernel_rfl
theorem okc62 : okC Try.f62.ntmps (bif hasDefer code62 then [] else writes code62) code62 plan62 = true := by kernel_rfl
theorem R62_ok {v_1 : Nat} {v_2 : Nat} {v_3 : Nat} {K : Value → World → Prop} {E : List PanicEntry → World → Prop} {w : World} (h : R62 v_1 v_2 v_3 K E w) : FN Try.prog 62 #[(.pointer (some ⟨v_1, 0, none⟩)), (.pointer (some ⟨v_2, 0, none⟩)), (.pointer (some ⟨v_3, 0, none⟩))] w K E :=
  FN_of_ewp (C := ctx) ctx_ok ctx_mixed Try.func62 (c := code62) (by kernel_rfl) (args := [(.pointer (some ⟨v_1, 0, none⟩)), (.pointer (some ⟨v_2, 0, none⟩)), (.pointer (some ⟨v_3, 0, none⟩))]) (Nat.le_of_ble_eq_true (by kernel_rfl)) okc62 (eq62 v_1 v_2 v_3 K E w ▸ h)

/-- (*concertina/platter.Platter).Sync$1 -/
def R63 (v_1 : Nat) (K : Value → World → Prop) (E : List PanicEntry → World → Prop) (w : World) : Prop :=
  OPW Try.prog (sV (Instr.loadAt 24 (.pointer (some ⟨v_1, 0, none⟩)))) w (fun r_2 w_3 =>
  ∃ (v_4 : Option Addr), r_2 = (.pointer v_4) ∧
  FN Try.prog 60 #[(.pointer v_4), (.func (.func 64) #[] #[])] w_3 (fun r_5 w_6 =>
  K (.int .i64 0) w_6)
  E)
  E
def plan63 : Plan := (.two .leaf (.two .leaf (.two .leaf .leaf)))
noncomputable def code63 : Code := match Try.f63.body with | some c => c | none => .skip
theorem eq63 (v_1 : Nat) (K : Value → World → Prop) (E : List PanicEntry → World → Prop) (w : World) : R63 v_1 K E w = ewp ctx code63 plan63 (retQ ctx.P Try.f63 K E) (argEnv [(.pointer (some ⟨v_1, 0, none⟩))]) [] w := by kernel_rfl
theorem okc63 : okC Try.f63.ntmps (bif hasDefer code63 then [] else writes code63) code63 plan63 = true := by kernel_rfl
theorem R63_ok {v_1 : Nat} {K : Value → World → Prop} {E : List PanicEntry → World → Prop} {w : World} (h : R63 v_1 K E w) : FN Try.prog 63 #[(.pointer (some ⟨v_1, 0, none⟩))] w K E :=
  FN_of_ewp (C := ctx) ctx_ok ctx_mixed Try.func63 (c := code63) (by kernel_rfl) (args := [(.pointer (some ⟨v_1, 0, none⟩))]) (Nat.le_of_ble_eq_true (by kernel_rfl)) okc63 (eq63 v_1 K E w ▸ h)

/-- (*concertina/platter.Platter).Sync$1$1 -/
def R64 (v_1 : Int) (K : Value → World → Prop) (E : List PanicEntry → World → Prop) (w : World) : Prop :=
  K (.bool true) w
def plan64 : Plan := (.two .leaf (.two .leaf .leaf))
noncomputable def code64 : Code := match Try.f64.body with | some c => c | none => .skip
theorem eq64 (v_1 : Int) (K : Value → World → Prop) (E : List PanicEntry → World → Prop) (w : World) : R64 v_1 K E w = ewp ctx code64 plan64 (retQ ctx.P Try.f64 K E) (argEnv [(.int .i64 v_1)]) [] w := by kernel_rfl
theorem okc64 : okC Try.f64.ntmps (bif hasDefer code64 then [] else writes code64) code64 plan64 = true := by kernel_rfl
theorem R64_ok {v_1 : Int} {K : Value → World → Prop} {E : List PanicEntry → World → Prop} {w : World} (h : R64 v_1 K E w) : FN Try.prog 64 #[(.int .i64 v_1)] w K E :=
  FN_of_ewp (C := ctx) ctx_ok ctx_mixed Try.func64 (c := code64) (by kernel_rfl) (args := [(.int .i64 v_1)]) (Nat.le_of_ble_eq_true (by kernel_rfl)) okc64 (eq64 v_1 K E w ▸ h)

/-- (*concertina/concertinaref11.Platter).fault -/
def R65 (p_1 : Nat) (op_2 : Int) (K : Value → World → Prop) (E : List PanicEntry → World → Prop) (w : World) : Prop :=
  DRAW w (fun (S_3 : World → World → Prop) (w_4 : World) =>
  IDXA 1 4 ⟨p_1, 3, none⟩ op_2 (fun (a_5 : Addr) =>
  HELD Try.prog S_3 (sV (Instr.loadAt 3 (.pointer (some a_5)))) w_4 (fun r_6 =>
  ∃ (v_7 : Int), r_6 = (.int .i64 v_7) ∧
  IDXA 1 4 ⟨p_1, 3, none⟩ op_2 (fun (a_8 : Addr) =>
  OPW Try.prog (sU (Instr.storeAt 3 (.pointer (some a_8)) (.int .i64 (IntKind.wrap .i64 (v_7 + 1))))) w_4 (fun r_9 w_10 =>
  DRAW w_10 (fun (S_11 : World → World → Prop) (w_12 : World) =>
  IDXA 1 4 ⟨p_1, 7, none⟩ op_2 (fun (a_13 : Addr) =>
  HELD Try.prog S_11 (sV (Instr.loadAt 3 (.pointer (some a_13)))) w_12 (fun r_14 =>
  ∃ (v_15 : Int), r_14 = (.int .i64 v_15) ∧
  IDXA 1 4 ⟨p_1, 7, none⟩ op_2 (fun (a_16 : Addr) =>
  OPW Try.prog (sU (Instr.storeAt 3 (.pointer (some a_16)) (.int .i64 (IntKind.wrap .i64 (v_15 + 1))))) w_12 (fun r_17 w_18 =>
  LOOP (S := (Int × Unit)) (fun _ X_19 s w_20 => (fun (i_21 : Int) =>
  OPW Try.prog (sV (Instr.loadAt 33 (.pointer (some ⟨p_1, 2, none⟩)))) w_20 (fun r_22 w_23 =>
  ∃ (v_24 : Option Addr) (v_24l v_24c : Nat), r_22 = (.slice v_24 v_24l v_24c) ∧
  BIF (decide (i_21 < (v_24l : Int)))
  (DRAW w_23 (fun (S_25 : World → World → Prop) (w_26 : World) =>
  HELD Try.prog S_25 (sV (Instr.loadAt 33 (.pointer (some ⟨p_1, 2, none⟩)))) w_26 (fun r_27 =>
  ∃ (v_28 : Option Addr) (v_28l v_28c : Nat), r_27 = (.slice v_28 v_28l v_28c) ∧
  IDX 2 v_28 v_28l i_21 (fun (a_29 : Addr) =>
  HELD Try.prog S_25 (sV (Instr.loadAt 3 (.pointer (some a_29)))) w_26 (fun r_30 =>
  ∃ (v_31 : Int), r_30 = (.int .i64 v_31) ∧
  BIF (v_31 == op_2)
  (HELD Try.prog S_25 (sV (Instr.loadAt 33 (.pointer (some ⟨p_1, 2, none⟩)))) w_26 (fun r_32 =>
  ∃ (v_33 : Option Addr) (v_33l v_33c : Nat), r_32 = (.slice v_33 v_33l v_33c) ∧
  IDX 2 v_33 v_33l i_21 (fun (a_34 : Addr) =>
  HELD Try.prog S_25 (sV (Instr.loadAt 3 (.pointer (some (Addr.add a_34 1))))) w_26 (fun r_35 =>
  ∃ (v_36 : Int), r_35 = (.int .i64 v_36) ∧
  IDXA 1 4 ⟨p_1, 7, none⟩ op_2 (fun (a_37 : Addr) =>
  HELD Try.prog S_25 (sV (Instr.loadAt 3 (.pointer (some a_37)))) w_26 (fun r_38 =>
  ∃ (v_39 : Int), r_38 = (.int .i64 v_39) ∧
  BIF (v_36 == v_39)
  (K (.bool true) w_26)
  (X_19 ((IntKind.wrap .i64 (i_21 + 1)), ()) w_26)))))))
  (X_19 ((IntKind.wrap .i64 (i_21 + 1)), ()) w_26))))))
  (K (.bool false) w_23))
  E) s.1)
  (0, ()) w_18)
  E)))))
  E))))
def plan65 : Plan := (.two .leaf (.two (.draw (.take 0 (.take 1 (.take 2 (.take 3 (.take 4 (.take 5 (.take 6 (.take 7 (.take 8 (.take 9 (.cases [10] fun _ => .fin)))))))))))) (.two (.draw (.take 0 (.take 1 (.take 2 (.take 3 (.take 4 (.take 5 (.take 6 (.take 7 (.take 8 (.take 9 (.cases [10] fun _ => .fin)))))))))))) (.two (.two .leaf (.loop [(5, (.one (.int .i64)))] (.two (.two .leaf (.two .leaf .leaf)) (.two (.two (.draw (.take 0 (.take 1 (.take 2 (.take 3 (.take 4 (.take 5 (.take 6 (.take 7 (.take 8 (.take 9 (.take 10 (.split 11 (.take 11 (.take 12 (.take 13 (.take 14 (.take 15 (.take 16 (.take 17 (.take 18 (.take 19 (.take 20 (.take 21 (.take 22 (.take 23 (.take 24 (.take 25 (.take 26 .fin)))))))))))))))) (.take 11 (.take 12 (.take 13 (.take 14 (.take 15 (.take 16 (.take 17 (.take 18 (.take 19 (.take 20 (.take 21 (.take 22 (.take 23 (.take 24 (.take 25 (.take 26 .fin))))))))))))))))))))))))))))) (.two (.two .leaf .leaf) .leaf)) .leaf)))) (.two .leaf .leaf)))))
noncomputable def code65 : Code := match Try.f65.body with | some c => c | none => .skip
theorem eq65 (p_1 : Nat) (op_2 : Int) (K : Value → World → Prop) (E : List PanicEntry → World → Prop) (w : World) : R65 p_1 op_2 K E w = ewp ctx code65 plan65 (retQ ctx.P Try.f65 K E) (argEnv [(.pointer (some ⟨p_1, 0, none⟩)), (.int .i64 op_2)]) [] w := by kernel_rfl
theorem okc65 : okC Try.f65.ntmps (bif hasDefer code65 then [] else writes code65) code65 plan65 = true := by kernel_rfl
theorem R65_ok {p_1 : Nat} {op_2 : Int} {K : Value → World → Prop} {E : List PanicEntry → World → Prop} {w : World} (h : R65 p_1 op_2 K E w) : FN Try.prog 65 #[(.pointer (some ⟨p_1, 0, none⟩)), (.int .i64 op_2)] w K E :=
  FN_of_ewp (C := ctx) ctx_ok ctx_mixed Try.func65 (c := code65) (by kernel_rfl) (args := [(.pointer (some ⟨p_1, 0, none⟩)), (.int .i64 op_2)]) (Nat.le_of_ble_eq_true (by kernel_rfl)) okc65 (eq65 p_1 op_2 K E w ▸ h)

/-- (*concertina/platter.Platter).asked -/
def R73 (p_1 : Nat) (op_2 : Int) (K : Value → World → Prop) (E : List PanicEntry → World → Prop) (w : World) : Prop :=
  DRAW w (fun (S_3 : World → World → Prop) (w_4 : World) =>
  IDXA 1 4 ⟨p_1, 3, none⟩ op_2 (fun (a_5 : Addr) =>
  HELD Try.prog S_3 (sV (Instr.loadAt 3 (.pointer (some a_5)))) w_4 (fun r_6 =>
  ∃ (v_7 : Int), r_6 = (.int .i64 v_7) ∧
  IDXA 1 4 ⟨p_1, 3, none⟩ op_2 (fun (a_8 : Addr) =>
  OPW Try.prog (sU (Instr.storeAt 3 (.pointer (some a_8)) (.int .i64 (IntKind.wrap .i64 (v_7 + 1))))) w_4 (fun r_9 w_10 =>
  DRAW w_10 (fun (S_11 : World → World → Prop) (w_12 : World) =>
  IDXA 1 4 ⟨p_1, 7, none⟩ op_2 (fun (a_13 : Addr) =>
  HELD Try.prog S_11 (sV (Instr.loadAt 3 (.pointer (some a_13)))) w_12 (fun r_14 =>
  ∃ (v_15 : Int), r_14 = (.int .i64 v_15) ∧
  IDXA 1 4 ⟨p_1, 7, none⟩ op_2 (fun (a_16 : Addr) =>
  OPW Try.prog (sU (Instr.storeAt 3 (.pointer (some a_16)) (.int .i64 (IntKind.wrap .i64 (v_15 + 1))))) w_12 (fun r_17 w_18 =>
  DRAW w_18 (fun (S_19 : World → World → Prop) (w_20 : World) =>
  HELD Try.prog S_19 (sV (Instr.loadAt 76 (.pointer (some ⟨p_1, 2, none⟩)))) w_20 (fun r_21 =>
  ∃ (v_22 : Option Addr) (v_22l v_22c : Nat), r_21 = (.slice v_22 v_22l v_22c) ∧
  IDXA 1 4 ⟨p_1, 7, none⟩ op_2 (fun (a_23 : Addr) =>
  HELD Try.prog S_19 (sV (Instr.loadAt 3 (.pointer (some a_23)))) w_20 (fun r_24 =>
  ∃ (v_25 : Int), r_24 = (.int .i64 v_25) ∧
  FN Try.prog 76 #[(.slice v_22 v_22l v_22c), (.agg #[(.int .i64 op_2), (.int .i64 v_25)])] w_20 (fun r_26 w_27 =>
  ∃ (v_28 : Bool), r_26 = (.bool v_28) ∧
  BIF v_28
  (OPW Try.prog (sV (Instr.panic (.iface 115 (.agg #[])))) w_27 (fun r_29 w_30 =>
  K (.tuple #[]) w_30)
  E)
  (K (.tuple #[]) w_27))
  E)))))
  E)))))
  E))))
def plan73 : Plan := (.two (.draw (.take 0 (.take 1 (.take 2 (.take 3 (.take 4 (.take 5 (.take 6 (.take 7 (.take 8 (.take 9 (.cases [10] fun _ => .fin)))))))))))) (.two (.draw (.take 0 (.take 1 (.take 2 (.take 3 (.take 4 (.take 5 (.take 6 (.take 7 (.take 8 (.take 9 (.cases [10] fun _ => .fin)))))))))))) (.two (.draw (.take 0 (.take 1 (.take 2 (.take 3 (.take 4 (.take 5 (.take 6 (.take 7 (.take 8 (.take 9 (.take 10 (.take 11 (.cases [12] fun _ => .fin)))))))))))))) (.two .leaf .leaf))))
noncomputable def code73 : Code := match Try.f73.body with | some c => c | none => .skip
theorem eq73 (p_1 : Nat) (op_2 : Int) (K : Value → World → Prop) (E : List PanicEntry → World → Prop) (w : World) : R73 p_1 op_2 K E w = ewp ctx code73 plan73 (retQ ctx.P Try.f73 K E) (argEnv [(.pointer (some ⟨p_1, 0, none⟩)), (.int .i64 op_2)]) [] w := by kernel_rfl
theorem okc73 : okC Try.f73.ntmps (bif hasDefer code73 then [] else writes code73) code73 plan73 = true := by kernel_rfl
theorem R73_ok {p_1 : Nat} {op_2 : Int} {K : Value → World → Prop} {E : List PanicEntry → World → Prop} {w : World} (h : R73 p_1 op_2 K E w) : FN Try.prog 73 #[(.pointer (some ⟨p_1, 0, none⟩)), (.int .i64 op_2)] w K E :=
  FN_of_ewp (C := ctx) ctx_ok ctx_mixed Try.func73 (c := code73) (by kernel_rfl) (args := [(.pointer (some ⟨p_1, 0, none⟩)), (.int .i64 op_2)]) (Nat.le_of_ble_eq_true (by kernel_rfl)) okc73 (eq73 p_1 op_2 K E w ▸ h)

/-- slices.Contains[[]concertina/platter.Fault,concertina/platter.Fault] -/
def R76 (s_1 : Option Addr) (s_1l s_1c : Nat) (v_2 : Int) (v_3 : Int) (K : Value → World → Prop) (E : List PanicEntry → World → Prop) (w : World) : Prop :=
  OPW Try.prog (sV (Instr.box 91 (.agg #[(.int .i64 v_2), (.int .i64 v_3)]))) w (fun r_4 w_5 =>
  ∃ (v_6 : Nat), r_4 = (.pointer (some ⟨v_6, 0, none⟩)) ∧
  OPW Try.prog (sV (Instr.loadAt 91 (.pointer (some ⟨v_6, 0, none⟩)))) w_5 (fun r_7 w_8 =>
  ∃ (v_9 : Int) (v_10 : Int), r_7 = (.agg #[(.int .i64 v_9), (.int .i64 v_10)]) ∧
  FN Try.prog 78 #[(.slice s_1 s_1l s_1c), (.agg #[(.int .i64 v_9), (.int .i64 v_10)])] w_8 (fun r_11 w_12 =>
  ∃ (v_13 : Int), r_11 = (.int .i64 v_13) ∧
  K (.bool (decide (v_13 ≥ 0))) w_12)
  E)
  E)
  E
def plan76 : Plan := (.two .leaf (.two .leaf .leaf))
noncomputable def code76 : Code := match Try.f76.body with | some c => c | none => .skip
theorem eq76 (s_1 : Option Addr) (s_1l s_1c : Nat) (v_2 : Int) (v_3 : Int) (K : Value → World → Prop) (E : List PanicEntry → World → Prop) (w : World) : R76 s_1 s_1l s_1c v_2 v_3 K E w = ewp ctx code76 plan76 (retQ ctx.P Try.f76 K E) (argEnv [(.slice s_1 s_1l s_1c), (.agg #[(.int .i64 v_2), (.int .i64 v_3)])]) [] w := by kernel_rfl
theorem okc76 : okC Try.f76.ntmps (bif hasDefer code76 then [] else writes code76) code76 plan76 = true := by kernel_rfl
theorem R76_ok {s_1 : Option Addr} {s_1l s_1c : Nat} {v_2 : Int} {v_3 : Int} {K : Value → World → Prop} {E : List PanicEntry → World → Prop} {w : World} (h : R76 s_1 s_1l s_1c v_2 v_3 K E w) : FN Try.prog 76 #[(.slice s_1 s_1l s_1c), (.agg #[(.int .i64 v_2), (.int .i64 v_3)])] w K E :=
  FN_of_ewp (C := ctx) ctx_ok ctx_mixed Try.func76 (c := code76) (by kernel_rfl) (args := [(.slice s_1 s_1l s_1c), (.agg #[(.int .i64 v_2), (.int .i64 v_3)])]) (Nat.le_of_ble_eq_true (by kernel_rfl)) okc76 (eq76 s_1 s_1l s_1c v_2 v_3 K E w ▸ h)

/-- slices.Index[[]concertina/platter.Fault,concertina/platter.Fault] -/
def R78 (s_1 : Option Addr) (s_1l s_1c : Nat) (v_2 : Int) (v_3 : Int) (K : Value → World → Prop) (E : List PanicEntry → World → Prop) (w : World) : Prop :=
  OPW Try.prog (sV (Instr.box 91 (.agg #[(.int .i64 v_2), (.int .i64 v_3)]))) w (fun r_4 w_5 =>
  ∃ (v_6 : Nat), r_4 = (.pointer (some ⟨v_6, 0, none⟩)) ∧
  LOOP (S := (Int × Unit)) (fun _ X_7 s w_8 => (fun (v_9 : Int) =>
  BIF (decide (v_9 < (s_1l : Int)))
  (DRAW w_8 (fun (S_10 : World → World → Prop) (w_11 : World) =>
  HELD Try.prog S_10 (sV (Instr.loadAt 91 (.pointer (some ⟨v_6, 0, none⟩)))) w_11 (fun r_12 =>
  ∃ (v_13 : Int) (v_14 : Int), r_12 = (.agg #[(.int .i64 v_13), (.int .i64 v_14)]) ∧
  IDX 2 s_1 s_1l v_9 (fun (a_15 : Addr) =>
  HELD Try.prog S_10 (sV (Instr.loadAt 91 (.pointer (some a_15)))) w_11 (fun r_16 =>
  ∃ (v_17 : Int) (v_18 : Int), r_16 = (.agg #[(.int .i64 v_17), (.int .i64 v_18)]) ∧
  HELD Try.prog S_10 (sB .eql 91 (.agg #[(.int .i64 v_13), (.int .i64 v_14)]) (.agg #[(.int .i64 v_17), (.int .i64 v_18)]) (eqGuard .eql 91 (.tmp 11) (.tmp 15) (.agg #[(.int .i64 v_13), (.int .i64 v_14)]) (.agg #[(.int .i64 v_17), (.int .i64 v_18)]))) w_11 (fun r_19 =>
  ∃ (v_20 : Bool), r_19 = (.bool v_20) ∧
  BIF v_20
  (K (.int .i64 v_9) w_11)
  (X_7 ((IntKind.wrap .i64 (v_9 + 1)), ()) w_11)))))))
  (K (.int .i64 (-1)) w_8)) s.1)
  (0, ()) w_5)
  E
def plan78 : Plan := (.two .leaf (.two (.two .leaf (.loop [(8, (.one (.int .i64)))] (.two .leaf (.two (.two .leaf .leaf) (.two (.two .leaf (.two (.draw (.take 0 (.take 1 (.take 2 (.take 3 (.take 4 (.take 5 .fin))))))) (.two (.two .leaf .leaf) .leaf))) .leaf))))) (.two .leaf .leaf)))
noncomputable def code78 : Code := match Try.f78.body with | some c => c | none => .skip
theorem eq78 (s_1 : Option Addr) (s_1l s_1c : Nat) (v_2 : Int) (v_3 : Int) (K : Value → World → Prop) (E : List PanicEntry → World → Prop) (w : World) : R78 s_1 s_1l s_1c v_2 v_3 K E w = ewp ctx code78 plan78 (retQ ctx.P Try.f78 K E) (argEnv [(.slice s_1 s_1l s_1c), (.agg #[(.int .i64 v_2), (.int .i64 v_3)])]) [] w := by kernel_rfl
theorem okc78 : okC Try.f78.ntmps (bif hasDefer code78 then [] else writes code78) code78 plan78 = true := by kernel_rfl
theorem R78_ok {s_1 : Option Addr} {s_1l s_1c : Nat} {v_2 : Int} {v_3 : Int} {K : Value → World → Prop} {E : List PanicEntry → World → Prop} {w : World} (h : R78 s_1 s_1l s_1c v_2 v_3 K E w) : FN Try.prog 78 #[(.slice s_1 s_1l s_1c), (.agg #[(.int .i64 v_2), (.int .i64 v_3)])] w K E :=
  FN_of_ewp (C := ctx) ctx_ok ctx_mixed Try.func78 (c := code78) (by kernel_rfl) (args := [(.slice s_1 s_1l s_1c), (.agg #[(.int .i64 v_2), (.int .i64 v_3)])]) (Nat.le_of_ble_eq_true (by kernel_rfl)) okc78 (eq78 s_1 s_1l s_1c v_2 v_3 K E w ▸ h)

/-- concertina/concertinalaw2.PlatterPlays -/
def R3 (blocks_1 : Int) (l_2 : Option Addr) (l_2l l_2c : Nat) (K : Value → World → Prop) (E : List PanicEntry → World → Prop) (w : World) : Prop :=
  FN Try.prog 8 #[] w (fun r_3 w_4 =>
  ∃ (v_5 : Bool), r_3 = (.bool v_5) ∧
  BIF (!v_5)
  (K (.bool false) w_4)
  (JOIN (S := Unit) (fun K_6 =>
  BIF (decide ((l_2l : Int) > 150))
  (K (.bool true) w_4)
  (BIF (decide (blocks_1 > 500))
  (BIF (decide (blocks_1 ≤ 8192))
  (K (.bool true) w_4)
  (K_6 (()) w_4))
  (K_6 (()) w_4)))
  (fun _ s w_7 => 
  FN Try.prog 9 #[(.int .i64 blocks_1)] w_7 (fun r_8 w_9 =>
  ∃ (v_10 : Option Addr) (v_11 : Int), r_8 = (.tuple #[(.pointer v_10), (.int .i64 v_11)]) ∧
  FN Try.prog 10 #[(.int .i64 blocks_1)] w_9 (fun r_12 w_13 =>
  ∃ (v_14 : Option Addr) (v_15 : Int), r_12 = (.tuple #[(.pointer v_14), (.int .i64 v_15)]) ∧
  JOIN (S := Unit) (fun K_16 =>
  BIF (v_11 != v_15)
  (K (.bool false) w_13)
  (OPW Try.prog (sB .neq 24 (.pointer v_10) (.pointer none) (eqGuard .neq 24 (.tmp 41) (.const (.pointer none)) (.pointer v_10) (.pointer none))) w_13 (fun r_20 w_21 =>
  ∃ (v_22 : Bool), r_20 = (.bool v_22) ∧
  BIF (!((v_11 == 0) == v_22))
  (K (.bool false) w_21)
  (K_16 (()) w_21))
  E))
  (fun _ s w_23 => 
  BIF (v_11 != 0)
  (K (.bool true) w_23)
  (LOOP (S := (Int × Unit)) (fun _ X_24 s w_25 => (fun (i_26 : Int) =>
  BIF (decide (i_26 < (l_2l : Int)))
  (JOIN (S := Unit) (fun K_27 =>
  IDX 6 l_2 l_2l i_26 (fun (a_36 : Addr) =>
  OPW Try.prog (sV (Instr.loadAt 32 (.pointer (some (Addr.add a_36 4))))) w_25 (fun r_37 w_38 =>
  ∃ (v_39 : Option Addr) (v_39l v_39c : Nat), r_37 = (.slice v_39 v_39l v_39c) ∧
  BIF (decide ((v_39l : Int) > 200))
  (K (.bool true) w_38)
  (IDX 6 l_2 l_2l i_26 (fun (a_40 : Addr) =>
  OPW Try.prog (sV (Instr.loadAt 33 (.pointer (some (Addr.add a_40 5))))) w_38 (fun r_41 w_42 =>
  ∃ (v_43 : Option Addr) (v_43l v_43c : Nat), r_41 = (.slice v_43 v_43l v_43c) ∧
  BIF (decide ((v_43l : Int) > 20))
  (K (.bool true) w_42)
  (K_27 (()) w_42))
  E)))
  E))
  (fun _ s w_44 => 
  IDX 6 l_2 l_2l i_26 (fun (a_45 : Addr) =>
  OPW Try.prog (sV (Instr.loadAt 35 (.pointer (some a_45)))) w_44 (fun r_46 w_47 =>
  ∃ (v_48 : Int) (v_49 : Int) (v_50 : Int) (v_51 : Int) (v_52 : Option Addr) (v_52l v_52c : Nat) (v_53 : Option Addr) (v_53l v_53c : Nat), r_46 = (.agg #[(.int .i64 v_48), (.int .i64 v_49), (.int .u8 v_50), (.int .u32 v_51), (.slice v_52 v_52l v_52c), (.slice v_53 v_53l v_53c)]) ∧
  FN Try.prog 11 #[(.pointer v_10), (.pointer v_14), (.agg #[(.int .i64 v_48), (.int .i64 v_49), (.int .u8 v_50), (.int .u32 v_51), (.slice v_52 v_52l v_52c), (.slice v_53 v_53l v_53c)])] w_47 (fun r_54 w_55 =>
  ∃ (v_56 : Bool), r_54 = (.bool v_56) ∧
  BIF (!v_56)
  (K (.bool false) w_55)
  (FN Try.prog 12 #[(.pointer v_10), (.pointer v_14)] w_55 (fun r_57 w_58 =>
  ∃ (v_59 : Bool), r_57 = (.bool v_59) ∧
  BIF (!v_59)
  (K (.bool false) w_58)
  (X_24 ((IntKind.wrap .i64 (i_26 + 1)), ()) w_58))
  E))
  E)
  E)))
  (FN Try.prog 13 #[(.pointer v_10)] w_25 (fun r_60 w_61 =>
  ∃ (v_62 : Option Addr), r_60 = (.pointer v_62) ∧
  JOIN (S := Unit) (fun K_63 =>
  OPW Try.prog (sB .eql 24 (.pointer v_62) (.pointer none) (eqGuard .eql 24 (.tmp 85) (.const (.pointer none)) (.pointer v_62) (.pointer none))) w_61 (fun r_73 w_74 =>
  ∃ (v_75 : Bool), r_73 = (.bool v_75) ∧
  BIF v_75
  (K (.bool false) w_74)
  (FN Try.prog 14 #[(.pointer v_62)] w_74 (fun r_76 w_77 =>
  ∃ (v_78 : Int), r_76 = (.int .i64 v_78) ∧
  FN Try.prog 14 #[(.pointer v_10)] w_77 (fun r_79 w_80 =>
  ∃ (v_81 : Int), r_79 = (.int .i64 v_81) ∧
  BIF (v_78 != v_81)
  (K (.bool false) w_80)
  (K_63 (()) w_80))
  E)
  E))
  E)
  (fun _ s w_82 => 
  FN Try.prog 15 #[(.pointer v_10), (.slice none 0 0)] w_82 (fun r_83 w_84 =>
  FN Try.prog 16 #[(.pointer v_14), (.slice none 0 0)] w_84 (fun r_85 w_86 =>
  LOOP (S := (Int × Unit)) (fun _ X_87 s w_88 => (fun (i_89 : Int) =>
  JOIN (S := Unit) (fun K_90 =>
  NILCHK v_14 (fun (a_95 : Addr) =>
  OPW Try.prog (sV (Instr.loadAt 42 (.pointer (some a_95)))) w_88 (fun r_96 w_97 =>
  ∃ (v_98 : Option Addr) (v_98l v_98c : Nat), r_96 = (.slice v_98 v_98l v_98c) ∧
  BIF (decide (i_89 < (v_98l : Int)))
  (BIF (decide (i_89 < 70))
  (K_90 (()) w_97)
  (K (.bool true) w_97))
  (K (.bool true) w_97))
  E))
  (fun _ s w_99 => 
  FN Try.prog 11 #[(.pointer v_10), (.pointer v_14), (.agg #[(.int .i64 4), (.int .i64 i_89), (.int .u8 0), (.int .u32 0), (.slice none 0 0), (.slice none 0 0)])] w_99 (fun r_100 w_101 =>
  ∃ (v_102 : Bool), r_100 = (.bool v_102) ∧
  BIF (!v_102)
  (K (.bool false) w_101)
  (X_87 ((IntKind.wrap .i64 (i_89 + 1)), ()) w_101))
  E)) s.1)
  (0, ()) w_86)
  E)
  E))
  E)) s.1)
  (0, ()) w_23)))
  E)
  E)))
  E
def plan3 : Plan := (.two .leaf (.two (.two .leaf (.two (.two .leaf .leaf) .leaf)) (.join [] (.two .leaf (.two (.two .leaf .leaf) .leaf)) (.two .leaf (.two .leaf (.join [] (.two .leaf (.two (.two .leaf .leaf) .leaf)) (.two (.two .leaf (.two (.two .leaf .leaf) .leaf)) (.two (.two .leaf (.loop [(9, (.one (.int .i64)))] (.two (.two .leaf (.two .leaf .leaf)) (.two (.join [] (.two .leaf (.two (.two .leaf .leaf) .leaf)) (.two .leaf (.two (.two .leaf .leaf) .leaf))) .leaf)))) (.two .leaf (.join [] (.two .leaf (.two (.two .leaf .leaf) .leaf)) (.two .leaf (.two .leaf (.two (.two .leaf (.loop [(11, (.one (.int .i64)))] (.join [] (.two .leaf (.two .leaf .leaf)) (.two (.two .leaf (.two (.two .leaf .leaf) .leaf)) .leaf)))) (.two .leaf .leaf))))))))))))))
noncomputable def code3 : Code := match Try.f3.body with | some c => c | none => .skip
theorem eq3 (blocks_1 : Int) (l_2 : Option Addr) (l_2l l_2c : Nat) (K : Value → World → Prop) (E : List PanicEntry → World → Prop) (w : World) : R3 blocks_1 l_2 l_2l l_2c K E w = ewp ctx code3 plan3 (retQ ctx.P Try.f3 K E) (argEnv [(.int .i64 blocks_1), (.slice l_2 l_2l l_2c)]) [] w := by kernel_rfl
theorem okc3 : okC Try.f3.ntmps (bif hasDefer code3 then [] else writes code3) code3 plan3 = true := by kernel_rfl
theorem R3_ok {blocks_1 : Int} {l_2 : Option Addr} {l_2l l_2c : Nat} {K : Value → World → Prop} {E : List PanicEntry → World → Prop} {w : World} (h : R3 blocks_1 l_2 l_2l l_2c K E w) : FN Try.prog 3 #[(.int .i64 blocks_1), (.slice l_2 l_2l l_2c)] w K E :=
  FN_of_ewp (C := ctx) ctx_ok ctx_mixed Try.func3 (c := code3) (by kernel_rfl) (args := [(.int .i64 blocks_1), (.slice l_2 l_2l l_2c)]) (Nat.le_of_ble_eq_true (by kernel_rfl)) okc3 (eq3 blocks_1 l_2 l_2l l_2c K E w ▸ h)

/-- concertina/concertinalaw2.PlatterCopies -/
def R4 (a_1 : Option Addr) (a_1l a_1c : Nat) (b_2 : Option Addr) (b_2l b_2c : Nat) (c_3 : Option Addr) (c_3l c_3c : Nat) (K : Value → World → Prop) (E : List PanicEntry → World → Prop) (w : World) : Prop :=
  FN Try.prog 8 #[] w (fun r_4 w_5 =>
  ∃ (v_6 : Bool), r_4 = (.bool v_6) ∧
  BIF (!v_6)
  (K (.bool false) w_5)
  (JOIN (S := Unit) (fun K_7 =>
  BIF (decide ((a_1l : Int) > 50))
  (K (.bool true) w_5)
  (BIF (decide ((b_2l : Int) > 50))
  (K (.bool true) w_5)
  (BIF (decide ((c_3l : Int) > 50))
  (K (.bool true) w_5)
  (K_7 (()) w_5))))
  (fun _ s w_8 => 
  FN Try.prog 9 #[(.int .i64 64)] w_8 (fun r_9 w_10 =>
  ∃ (v_11 : Option Addr) (v_12 : Int), r_9 = (.tuple #[(.pointer v_11), (.int .i64 v_12)]) ∧
  FN Try.prog 10 #[(.int .i64 64)] w_10 (fun r_13 w_14 =>
  ∃ (v_15 : Option Addr) (v_16 : Int), r_13 = (.tuple #[(.pointer v_15), (.int .i64 v_16)]) ∧
  FN Try.prog 10 #[(.int .i64 64)] w_14 (fun r_17 w_18 =>
  ∃ (v_19 : Option Addr) (v_20 : Int), r_17 = (.tuple #[(.pointer v_19), (.int .i64 v_20)]) ∧
  JOIN (S := Unit) (fun K_21 =>
  BIF (v_12 != 0)
  (K (.bool false) w_18)
  (OPW Try.prog (sB .eql 24 (.pointer v_11) (.pointer none) (eqGuard .eql 24 (.tmp 49) (.const (.pointer none)) (.pointer v_11) (.pointer none))) w_18 (fun r_25 w_26 =>
  ∃ (v_27 : Bool), r_25 = (.bool v_27) ∧
  BIF v_27
  (K (.bool false) w_26)
  (K_21 (()) w_26))
  E))
  (fun _ s w_28 => 
  LOOP (S := (Int × Unit)) (fun _ X_29 s w_30 => (fun (i_31 : Int) =>
  BIF (decide (i_31 < (a_1l : Int)))
  (JOIN (S := Unit) (fun K_32 =>
  IDX 6 a_1 a_1l i_31 (fun (a_45 : Addr) =>
  OPW Try.prog (sV (Instr.loadAt 32 (.pointer (some (Addr.add a_45 4))))) w_30 (fun r_46 w_47 =>
  ∃ (v_48 : Option Addr) (v_48l v_48c : Nat), r_46 = (.slice v_48 v_48l v_48c) ∧
  BIF (decide ((v_48l : Int) > 200))
  (K (.bool true) w_47)
  (IDX 6 a_1 a_1l i_31 (fun (a_49 : Addr) =>
  OPW Try.prog (sV (Instr.loadAt 33 (.pointer (some (Addr.add a_49 5))))) w_47 (fun r_50 w_51 =>
  ∃ (v_52 : Option Addr) (v_52l v_52c : Nat), r_50 = (.slice v_52 v_52l v_52c) ∧
  BIF (decide ((v_52l : Int) > 20))
  (K (.bool true) w_51)
  (IDX 6 a_1 a_1l i_31 (fun (a_53 : Addr) =>
  OPW Try.prog (sV (Instr.loadAt 3 (.pointer (some a_53)))) w_51 (fun r_54 w_55 =>
  ∃ (v_56 : Int), r_54 = (.int .i64 v_56) ∧
  BIF (v_56 == 8)
  (K (.bool true) w_55)
  (K_32 (()) w_55))
  E)))
  E)))
  E))
  (fun _ s w_57 => 
  IDX 6 a_1 a_1l i_31 (fun (a_58 : Addr) =>
  OPW Try.prog (sV (Instr.loadAt 35 (.pointer (some a_58)))) w_57 (fun r_59 w_60 =>
  ∃ (v_61 : Int) (v_62 : Int) (v_63 : Int) (v_64 : Int) (v_65 : Option Addr) (v_65l v_65c : Nat) (v_66 : Option Addr) (v_66l v_66c : Nat), r_59 = (.agg #[(.int .i64 v_61), (.int .i64 v_62), (.int .u8 v_63), (.int .u32 v_64), (.slice v_65 v_65l v_65c), (.slice v_66 v_66l v_66c)]) ∧
  FN Try.prog 11 #[(.pointer v_11), (.pointer v_15), (.agg #[(.int .i64 v_61), (.int .i64 v_62), (.int .u8 v_63), (.int .u32 v_64), (.slice v_65 v_65l v_65c), (.slice v_66 v_66l v_66c)])] w_60 (fun r_67 w_68 =>
  ∃ (v_69 : Bool), r_67 = (.bool v_69) ∧
  BIF (!v_69)
  (K (.bool false) w_68)
  (X_29 ((IntKind.wrap .i64 (i_31 + 1)), ()) w_68))
  E)
  E)))
  (FN Try.prog 13 #[(.pointer v_11)] w_30 (fun r_70 w_71 =>
  ∃ (v_72 : Option Addr), r_70 = (.pointer v_72) ∧
  OPW Try.prog (sB .eql 24 (.pointer v_72) (.pointer none) (eqGuard .eql 24 (.tmp 92) (.const (.pointer none)) (.pointer v_72) (.pointer none))) w_71 (fun r_73 w_74 =>
  ∃ (v_75 : Bool), r_73 = (.bool v_75) ∧
  BIF v_75
  (K (.bool false) w_74)
  (FN Try.prog 9 #[(.int .i64 64)] w_74 (fun r_76 w_77 =>
  ∃ (v_78 : Option Addr) (v_79 : Int), r_76 = (.tuple #[(.pointer v_78), (.int .i64 v_79)]) ∧
  LOOP (S := (Int × Unit)) (fun _ X_80 s w_81 => (fun (i_82 : Int) =>
  BIF (decide (i_82 < (a_1l : Int)))
  (IDX 6 a_1 a_1l i_82 (fun (a_83 : Addr) =>
  OPW Try.prog (sV (Instr.loadAt 35 (.pointer (some a_83)))) w_81 (fun r_84 w_85 =>
  ∃ (v_86 : Int) (v_87 : Int) (v_88 : Int) (v_89 : Int) (v_90 : Option Addr) (v_90l v_90c : Nat) (v_91 : Option Addr) (v_91l v_91c : Nat), r_84 = (.agg #[(.int .i64 v_86), (.int .i64 v_87), (.int .u8 v_88), (.int .u32 v_89), (.slice v_90 v_90l v_90c), (.slice v_91 v_91l v_91c)]) ∧
  FN Try.prog 11 #[(.pointer v_78), (.pointer v_19), (.agg #[(.int .i64 v_86), (.int .i64 v_87), (.int .u8 v_88), (.int .u32 v_89), (.slice v_90 v_90l v_90c), (.slice v_91 v_91l v_91c)])] w_85 (fun r_92 w_93 =>
  ∃ (v_94 : Bool), r_92 = (.bool v_94) ∧
  X_80 ((IntKind.wrap .i64 (i_82 + 1)), ()) w_93)
  E)
  E))
  (LOOP (S := (Int × Unit)) (fun _ X_95 s w_96 => (fun (i_97 : Int) =>
  BIF (decide (i_97 < (if (c_3l : Int) > (b_2l : Int) then (c_3l : Int) else (b_2l : Int))))
  (JOIN (S := Unit) (fun K_98 =>
  BIF (decide (i_97 < (b_2l : Int)))
  (IDX 6 b_2 b_2l i_97 (fun (a_119 : Addr) =>
  OPW Try.prog (sV (Instr.loadAt 32 (.pointer (some (Addr.add a_119 4))))) w_96 (fun r_120 w_121 =>
  ∃ (v_122 : Option Addr) (v_122l v_122c : Nat), r_120 = (.slice v_122 v_122l v_122c) ∧
  BIF (decide ((v_122l : Int) ≤ 200))
  (IDX 6 b_2 b_2l i_97 (fun (a_123 : Addr) =>
  OPW Try.prog (sV (Instr.loadAt 33 (.pointer (some (Addr.add a_123 5))))) w_121 (fun r_124 w_125 =>
  ∃ (v_126 : Option Addr) (v_126l v_126c : Nat), r_124 = (.slice v_126 v_126l v_126c) ∧
  BIF (decide ((v_126l : Int) ≤ 20))
  (IDX 6 b_2 b_2l i_97 (fun (a_127 : Addr) =>
  OPW Try.prog (sV (Instr.loadAt 35 (.pointer (some a_127)))) w_125 (fun r_128 w_129 =>
  ∃ (v_130 : Int) (v_131 : Int) (v_132 : Int) (v_133 : Int) (v_134 : Option Addr) (v_134l v_134c : Nat) (v_135 : Option Addr) (v_135l v_135c : Nat), r_128 = (.agg #[(.int .i64 v_130), (.int .i64 v_131), (.int .u8 v_132), (.int .u32 v_133), (.slice v_134 v_134l v_134c), (.slice v_135 v_135l v_135c)]) ∧
  FN Try.prog 11 #[(.pointer v_11), (.pointer v_15), (.agg #[(.int .i64 v_130), (.int .i64 v_131), (.int .u8 v_132), (.int .u32 v_133), (.slice v_134 v_134l v_134c), (.slice v_135 v_135l v_135c)])] w_129 (fun r_136 w_137 =>
  ∃ (v_138 : Bool), r_136 = (.bool v_138) ∧
  BIF (!v_138)
  (K (.bool false) w_137)
  (K_98 (()) w_137))
  E)
  E))
  (K_98 (()) w_125))
  E))
  (K_98 (()) w_121))
  E))
  (K_98 (()) w_96))
  (fun _ s w_139 => 
  BIF (decide (i_97 < (c_3l : Int)))
  (IDX 6 c_3 c_3l i_97 (fun (a_140 : Addr) =>
  OPW Try.prog (sV (Instr.loadAt 32 (.pointer (some (Addr.add a_140 4))))) w_139 (fun r_141 w_142 =>
  ∃ (v_143 : Option Addr) (v_143l v_143c : Nat), r_141 = (.slice v_143 v_143l v_143c) ∧
  BIF (decide ((v_143l : Int) ≤ 200))
  (IDX 6 c_3 c_3l i_97 (fun (a_144 : Addr) =>
  OPW Try.prog (sV (Instr.loadAt 33 (.pointer (some (Addr.add a_144 5))))) w_142 (fun r_145 w_146 =>
  ∃ (v_147 : Option Addr) (v_147l v_147c : Nat), r_145 = (.slice v_147 v_147l v_147c) ∧
  BIF (decide ((v_147l : Int) ≤ 20))
  (IDX 6 c_3 c_3l i_97 (fun (a_148 : Addr) =>
  OPW Try.prog (sV (Instr.loadAt 35 (.pointer (some a_148)))) w_146 (fun r_149 w_150 =>
  ∃ (v_151 : Int) (v_152 : Int) (v_153 : Int) (v_154 : Int) (v_155 : Option Addr) (v_155l v_155c : Nat) (v_156 : Option Addr) (v_156l v_156c : Nat), r_149 = (.agg #[(.int .i64 v_151), (.int .i64 v_152), (.int .u8 v_153), (.int .u32 v_154), (.slice v_155 v_155l v_155c), (.slice v_156 v_156l v_156c)]) ∧
  FN Try.prog 11 #[(.pointer v_72), (.pointer v_19), (.agg #[(.int .i64 v_151), (.int .i64 v_152), (.int .u8 v_153), (.int .u32 v_154), (.slice v_155 v_155l v_155c), (.slice v_156 v_156l v_156c)])] w_150 (fun r_157 w_158 =>
  ∃ (v_159 : Bool), r_157 = (.bool v_159) ∧
  BIF (!v_159)
  (K (.bool false) w_158)
  (X_95 ((IntKind.wrap .i64 (i_97 + 1)), ()) w_158))
  E)
  E))
  (X_95 ((IntKind.wrap .i64 (i_97 + 1)), ()) w_146))
  E))
  (X_95 ((IntKind.wrap .i64 (i_97 + 1)), ()) w_142))
  E))
  (X_95 ((IntKind.wrap .i64 (i_97 + 1)), ()) w_139)))
  (FN Try.prog 12 #[(.pointer v_11), (.pointer v_15)] w_96 (fun r_160 w_161 =>
  ∃ (v_162 : Bool), r_160 = (.bool v_162) ∧
  BIF v_162
  (FN Try.prog 12 #[(.pointer v_72), (.pointer v_19)] w_161 (fun r_163 w_164 =>
  ∃ (v_165 : Bool), r_163 = (.bool v_165) ∧
  K (.bool v_165) w_164)
  E)
  (K (.bool false) w_161))
  E)) s.1)
  (0, ()) w_81)) s.1)
  (0, ()) w_77)
  E))
  E)
  E)) s.1)
  (0, ()) w_28))
  E)
  E)
  E)))
  E
def plan4 : Plan := (.two .leaf (.two (.two .leaf (.two (.two .leaf .leaf) .leaf)) (.join [] (.two .leaf (.two (.two .leaf .leaf) .leaf)) (.two .leaf (.two .leaf (.two .leaf (.join [] (.two .leaf (.two (.two .leaf .leaf) .leaf)) (.two (.two .leaf (.loop [(13, (.one (.int .i64)))] (.two (.two .leaf (.two .leaf .leaf)) (.two (.join [] (.two .leaf (.two (.two .leaf .leaf) .leaf)) (.two .leaf (.two (.two .leaf .leaf) .leaf))) .leaf)))) (.two .leaf (.two (.two .leaf (.two (.two .leaf .leaf) .leaf)) (.two .leaf (.two (.two .leaf (.loop [(17, (.one (.int .i64)))] (.two (.two .leaf (.two .leaf .leaf)) (.two .leaf .leaf)))) (.two (.two .leaf (.loop [(18, (.one (.int .i64)))] (.two (.two .leaf (.two .leaf .leaf)) (.two (.join [] (.two .leaf (.two (.two .leaf .leaf) .leaf)) (.two .leaf (.two (.two .leaf .leaf) .leaf))) .leaf)))) (.two .leaf .leaf))))))))))))))
noncomputable def code4 : Code := match Try.f4.body with | some c => c | none => .skip
theorem eq4 (a_1 : Option Addr) (a_1l a_1c : Nat) (b_2 : Option Addr) (b_2l b_2c : Nat) (c_3 : Option Addr) (c_3l c_3c : Nat) (K : Value → World → Prop) (E : List PanicEntry → World → Prop) (w : World) : R4 a_1 a_1l a_1c b_2 b_2l b_2c c_3 c_3l c_3c K E w = ewp ctx code4 plan4 (retQ ctx.P Try.f4 K E) (argEnv [(.slice a_1 a_1l a_1c), (.slice b_2 b_2l b_2c), (.slice c_3 c_3l c_3c)]) [] w := by kernel_rfl
theorem okc4 : okC Try.f4.ntmps (bif hasDefer code4 then [] else writes code4) code4 plan4 = true := by kernel_rfl
theorem R4_ok {a_1 : Option Addr} {a_1l a_1c : Nat} {b_2 : Option Addr} {b_2l b_2c : Nat} {c_3 : Option Addr} {c_3l c_3c : Nat} {K : Value → World → Prop} {E : List PanicEntry → World → Prop} {w : World} (h : R4 a_1 a_1l a_1c b_2 b_2l b_2c c_3 c_3l c_3c K E w) : FN Try.prog 4 #[(.slice a_1 a_1l a_1c), (.slice b_2 b_2l b_2c), (.slice c_3 c_3l c_3c)] w K E :=
  FN_of_ewp (C := ctx) ctx_ok ctx_mixed Try.func4 (c := code4) (by kernel_rfl) (args := [(.slice a_1 a_1l a_1c), (.slice b_2 b_2l b_2c), (.slice c_3 c_3l c_3c)]) (Nat.le_of_ble_eq_true (by kernel_rfl)) okc4 (eq4 a_1 a_1l a_1c b_2 b_2l b_2c c_3 c_3l c_3c K E w ▸ h)

end Go.Proofs.Ytdabjchdmieegaa
