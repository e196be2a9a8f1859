/- What the Go functions' texts ask, printed by gen.py (my own program) off Lean's print of the translation; each equation is checked by the kernel. -/
import Derived.Test.YtdabjchdmieegaaCtx
set_option linter.unusedVariables false
set_option maxRecDepth 100000
namespace Go.Proofs.Ytdabjchdmieegaa
open Go Go.Lift

/-- concertina/concertinalaw11.RunsGrow -/
def R5 (sizes_1 : Option Addr) (sizes_1l sizes_1c : Nat) (order_2 : Option Addr) (order_2l order_2c : Nat) (K : Value → World → Prop) (E : List PanicEntry → World → Prop) (w : World) : Prop :=
  FN Try.prog 17 #[] w (fun r_3 w_4 =>
  ∃ (v_5 : Bool), r_3 = (.bool v_5) ∧
  BIF (!v_5)
  (K (.bool false) w_4)
  (JOIN (S := Unit) (fun K_6 =>
  BIF (decide ((sizes_1l : Int) > 30))
  (K (.bool true) w_4)
  (BIF (decide ((order_2l : Int) > 100))
  (K (.bool true) w_4)
  (K_6 (()) w_4)))
  (fun _ s w_7 => 
  FN Try.prog 18 #[(.int .i64 200)] w_7 (fun r_8 w_9 =>
  ∃ (v_10 : Option Addr), r_8 = (.pointer v_10) ∧
  OPW Try.prog (sB .eql 50 (.pointer v_10) (.pointer none) (eqGuard .eql 50 (.tmp 27) (.const (.pointer none)) (.pointer v_10) (.pointer none))) w_9 (fun r_11 w_12 =>
  ∃ (v_13 : Bool), r_11 = (.bool v_13) ∧
  BIF v_13
  (K (.bool false) w_12)
  (LOOP (S := ((Option Addr × Nat × Nat) × Int × Unit)) (fun _ X_14 s w_15 => (fun (l_16 : Option Addr) (l_16l l_16c : Nat) (i_17 : Int) =>
  BIF (decide (i_17 < (sizes_1l : Int)))
  (IDX 1 sizes_1 sizes_1l i_17 (fun (a_18 : Addr) =>
  OPW Try.prog (sV (Instr.loadAt 5 (.pointer (some a_18)))) w_15 (fun r_19 w_20 =>
  ∃ (v_21 : Int), r_19 = (.int .u8 v_21) ∧
  FN Try.prog 19 #[(.pointer v_10), (.int .i64 (IntKind.wrap .i64 (1 + (Int.tmod (IntKind.wrap .i64 v_21) 9))))] w_20 (fun r_22 w_23 =>
  ∃ (v_24 : Int) (v_25 : Bool), r_22 = (.tuple #[(.int .i64 v_24), (.bool v_25)]) ∧
  JOIN (S := Unit) (fun K_26 =>
  DRAW w_23 (fun (S_41 : World → World → Prop) (w_42 : World) =>
  BIF ((l_16l : Int) == 0)
  (BIF (decide ((IntKind.wrap .i64 (1 + (Int.tmod (IntKind.wrap .i64 v_21) 9))) ≤ 200))
  (BIF (!(v_25 == true))
  (K (.bool false) w_42)
  (K_26 (()) w_42))
  (BIF (decide ((l_16l : Int) > 0))
  (IDX 2 l_16 l_16l (IntKind.wrap .i64 ((l_16l : Int) - 1)) (fun (a_43 : Addr) =>
  HELD Try.prog S_41 (sV (Instr.loadAt 3 (.pointer (some a_43)))) w_42 (fun r_44 =>
  ∃ (v_45 : Int), r_44 = (.int .i64 v_45) ∧
  IDX 2 l_16 l_16l (IntKind.wrap .i64 ((l_16l : Int) - 1)) (fun (a_46 : Addr) =>
  HELD Try.prog S_41 (sV (Instr.loadAt 3 (.pointer (some (Addr.add a_46 1))))) w_42 (fun r_47 =>
  ∃ (v_48 : Int), r_47 = (.int .i64 v_48) ∧
  BIF (!(v_25 == decide ((IntKind.wrap .i64 ((IntKind.wrap .i64 (v_45 + v_48)) + (IntKind.wrap .i64 (1 + (Int.tmod (IntKind.wrap .i64 v_21) 9))))) ≤ 200)))
  (K (.bool false) w_42)
  (K_26 (()) w_42))))))
  (BIF (!(v_25 == false))
  (K (.bool false) w_42)
  (K_26 (()) w_42))))
  (BIF (decide ((l_16l : Int) > 0))
  (IDX 2 l_16 l_16l (IntKind.wrap .i64 ((l_16l : Int) - 1)) (fun (a_49 : Addr) =>
  HELD Try.prog S_41 (sV (Instr.loadAt 3 (.pointer (some a_49)))) w_42 (fun r_50 =>
  ∃ (v_51 : Int), r_50 = (.int .i64 v_51) ∧
  IDX 2 l_16 l_16l (IntKind.wrap .i64 ((l_16l : Int) - 1)) (fun (a_52 : Addr) =>
  HELD Try.prog S_41 (sV (Instr.loadAt 3 (.pointer (some (Addr.add a_52 1))))) w_42 (fun r_53 =>
  ∃ (v_54 : Int), r_53 = (.int .i64 v_54) ∧
  BIF (!(v_25 == decide ((IntKind.wrap .i64 ((IntKind.wrap .i64 (v_51 + v_54)) + (IntKind.wrap .i64 (1 + (Int.tmod (IntKind.wrap .i64 v_21) 9))))) ≤ 200)))
  (K (.bool false) w_42)
  (K_26 (()) w_42))))))
  (BIF (!(v_25 == false))
  (K (.bool false) w_42)
  (K_26 (()) w_42)))))
  (fun _ s w_55 => 
  BIF v_25
  (OPW Try.prog (sV (Instr.buildSlice 52 1 #[(0, (.agg #[(.int .i64 v_24), (.int .i64 (IntKind.wrap .i64 (1 + (Int.tmod (IntKind.wrap .i64 v_21) 9))))]))])) w_55 (fun r_56 w_57 =>
  ∃ (v_58 : Option Addr) (v_58l v_58c : Nat), r_56 = (.slice v_58 v_58l v_58c) ∧
  OPW Try.prog (sBI .append #[52, 52] 52 #[false, false] #[(.slice l_16 l_16l l_16c), (.slice v_58 v_58l v_58c)]) w_57 (fun r_59 w_60 =>
  ∃ (v_61 : Option Addr) (v_61l v_61c : Nat), r_59 = (.slice v_61 v_61l v_61c) ∧
  X_14 ((v_61, v_61l, v_61c), (IntKind.wrap .i64 (i_17 + 1)), ()) w_60)
  E)
  E)
  (X_14 ((l_16, l_16l, l_16c), (IntKind.wrap .i64 (i_17 + 1)), ()) w_55)))
  E)
  E))
  (FN Try.prog 20 #[(.pointer v_10)] w_15 (fun r_62 w_63 =>
  ∃ (v_64 : Option Addr), r_62 = (.pointer v_64) ∧
  FN Try.prog 21 #[(.pointer v_64)] w_63 (fun r_65 w_66 =>
  ∃ (v_67 : Int), r_65 = (.int .i64 v_67) ∧
  LOOP (S := (Int × Unit)) (fun _ X_68 s w_69 => (fun (i_70 : Int) =>
  BIF (decide (i_70 < (l_16l : Int)))
  (JOIN (S := (Int × Unit)) (fun K_71 =>
  BIF (decide (i_70 < (order_2l : Int)))
  (IDX 1 order_2 order_2l i_70 (fun (a_79 : Addr) =>
  OPW Try.prog (sV (Instr.loadAt 5 (.pointer (some a_79)))) w_69 (fun r_80 w_81 =>
  ∃ (v_82 : Int), r_80 = (.int .u8 v_82) ∧
  OPW Try.prog (sB .rem 3 (.int .i64 (IntKind.wrap .i64 v_82)) (.int .i64 (IntKind.wrap .i64 ((l_16l : Int) - i_70))) (eqGuard .rem 3 (.tmp 109) (.tmp 113) (.int .i64 (IntKind.wrap .i64 v_82)) (.int .i64 (IntKind.wrap .i64 ((l_16l : Int) - i_70))))) w_81 (fun r_83 w_84 =>
  ∃ (v_85 : Int), r_83 = (.int .i64 v_85) ∧
  K_71 ((IntKind.wrap .i64 (i_70 + v_85)), ()) w_84)
  E)
  E))
  (K_71 (i_70, ()) w_69))
  (fun _ s w_86 => (fun (k_87 : Int) =>
  DRAW w_86 (fun (S_88 : World → World → Prop) (w_89 : World) =>
  IDX 2 l_16 l_16l k_87 (fun (a_90 : Addr) =>
  HELD Try.prog S_88 (sV (Instr.loadAt 56 (.pointer (some a_90)))) w_89 (fun r_91 =>
  ∃ (v_92 : Int) (v_93 : Int), r_91 = (.agg #[(.int .i64 v_92), (.int .i64 v_93)]) ∧
  IDX 2 l_16 l_16l i_70 (fun (a_94 : Addr) =>
  HELD Try.prog S_88 (sV (Instr.loadAt 56 (.pointer (some a_94)))) w_89 (fun r_95 =>
  ∃ (v_96 : Int) (v_97 : Int), r_95 = (.agg #[(.int .i64 v_96), (.int .i64 v_97)]) ∧
  IDX 2 l_16 l_16l i_70 (fun (a_98 : Addr) =>
  OPW Try.prog (sU (Instr.storeAt 56 (.pointer (some a_98)) (.agg #[(.int .i64 v_92), (.int .i64 v_93)]))) w_89 (fun r_99 w_100 =>
  IDX 2 l_16 l_16l k_87 (fun (a_101 : Addr) =>
  OPW Try.prog (sU (Instr.storeAt 56 (.pointer (some a_101)) (.agg #[(.int .i64 v_96), (.int .i64 v_97)]))) w_100 (fun r_102 w_103 =>
  DRAW w_103 (fun (S_104 : World → World → Prop) (w_105 : World) =>
  IDX 2 l_16 l_16l i_70 (fun (a_106 : Addr) =>
  HELD Try.prog S_104 (sV (Instr.loadAt 3 (.pointer (some a_106)))) w_105 (fun r_107 =>
  ∃ (v_108 : Int), r_107 = (.int .i64 v_108) ∧
  IDX 2 l_16 l_16l i_70 (fun (a_109 : Addr) =>
  HELD Try.prog S_104 (sV (Instr.loadAt 3 (.pointer (some (Addr.add a_109 1))))) w_105 (fun r_110 =>
  ∃ (v_111 : Int), r_110 = (.int .i64 v_111) ∧
  FN Try.prog 22 #[(.pointer v_10), (.int .i64 v_108), (.int .i64 v_111)] w_105 (fun r_112 w_113 =>
  ∃ (v_114 : Bool), r_112 = (.bool v_114) ∧
  S_104 w_105 w_113 ∧ (BIF (!v_114)
  (K (.bool false) w_113)
  (IDX 2 l_16 l_16l i_70 (fun (a_115 : Addr) =>
  HELD Try.prog S_104 (sV (Instr.loadAt 3 (.pointer (some a_115)))) w_113 (fun r_116 =>
  ∃ (v_117 : Int), r_116 = (.int .i64 v_117) ∧
  IDX 2 l_16 l_16l i_70 (fun (a_118 : Addr) =>
  HELD Try.prog S_104 (sV (Instr.loadAt 3 (.pointer (some (Addr.add a_118 1))))) w_113 (fun r_119 =>
  ∃ (v_120 : Int), r_119 = (.int .i64 v_120) ∧
  FN Try.prog 22 #[(.pointer v_10), (.int .i64 v_117), (.int .i64 v_120)] w_113 (fun r_121 w_122 =>
  ∃ (v_123 : Bool), r_121 = (.bool v_123) ∧
  BIF v_123
  (K (.bool false) w_122)
  (X_68 ((IntKind.wrap .i64 (i_70 + 1)), ()) w_122))
  E)))))))
  E))))))
  E))
  E))))))) s.1))
  (FN Try.prog 23 #[(.pointer v_10)] w_69 (fun r_124 w_125 =>
  ∃ (v_126 : Option Addr) (v_126l v_126c : Nat), r_124 = (.slice v_126 v_126l v_126c) ∧
  BIF ((v_126l : Int) == 1)
  (IDX 2 v_126 v_126l 0 (fun (a_127 : Addr) =>
  OPW Try.prog (sV (Instr.loadAt 56 (.pointer (some a_127)))) w_125 (fun r_128 w_129 =>
  ∃ (v_130 : Int) (v_131 : Int), r_128 = (.agg #[(.int .i64 v_130), (.int .i64 v_131)]) ∧
  OPW Try.prog (sB .eql 56 (.agg #[(.int .i64 v_130), (.int .i64 v_131)]) (.agg #[(.int .i64 0), (.int .i64 200)]) (eqGuard .eql 56 (.tmp 165) (.tmp 166) (.agg #[(.int .i64 v_130), (.int .i64 v_131)]) (.agg #[(.int .i64 0), (.int .i64 200)]))) w_129 (fun r_132 w_133 =>
  ∃ (v_134 : Bool), r_132 = (.bool v_134) ∧
  BIF v_134
  (FN Try.prog 21 #[(.pointer v_64)] w_133 (fun r_135 w_136 =>
  ∃ (v_137 : Int), r_135 = (.int .i64 v_137) ∧
  K (.bool (v_137 == v_67)) w_136)
  E)
  (K (.bool false) w_133))
  E)
  E))
  (K (.bool false) w_125))
  E)) s.1)
  (0, ()) w_66)
  E)
  E)) s.1.1 s.1.2.1 s.1.2.2 s.2.1)
  ((none, 0, 0), 0, ()) w_12))
  E)
  E)))
  E
def plan5 : Plan := (.two .leaf (.two (.two .leaf (.two (.two .leaf .leaf) .leaf)) (.join [] (.two .leaf (.two (.two .leaf .leaf) .leaf)) (.two .leaf (.two (.two .leaf (.two (.two .leaf .leaf) .leaf)) (.two .leaf (.two (.two .leaf (.loop [(6, (.one .slice)), (7, (.one (.int .i64)))] (.two (.two .leaf (.two .leaf .leaf)) (.two (.two .leaf (.two .leaf (.join [] (.two (.draw (.take 0 (.take 1 (.take 2 (.take 3 (.take 4 (.split 5 (.take 5 (.take 6 (.take 7 (.take 8 (.split 9 (.take 9 (.take 10 (.take 11 (.take 12 (.take 13 (.take 14 (.take 15 (.take 16 (.take 17 (.take 18 (.take 19 (.take 20 (.take 21 (.take 22 (.take 23 (.take 24 (.take 25 (.take 26 (.take 27 (.take 28 (.take 29 (.take 30 (.take 31 (.take 32 (.take 33 .fin))))))))))))))))))))))))) (.take 9 (.take 10 (.take 11 (.take 12 (.split 13 (.take 13 (.take 14 (.take 15 (.take 16 (.take 17 (.take 18 (.take 19 (.take 20 (.take 21 (.take 22 (.take 23 (.take 24 (.take 25 (.take 26 (.take 27 (.take 28 (.take 29 (.take 30 (.take 31 (.take 32 (.take 33 .fin))))))))))))))))))))) (.take 13 (.take 14 (.take 15 (.take 16 (.take 17 (.take 18 (.take 19 (.take 20 (.take 21 (.take 22 (.take 23 (.take 24 (.take 25 (.take 26 (.take 27 (.take 28 (.take 29 (.take 30 (.take 31 (.take 32 (.take 33 .fin))))))))))))))))))))))))))))))) (.take 5 (.take 6 (.take 7 (.take 8 (.take 9 (.take 10 (.take 11 (.take 12 (.split 13 (.take 13 (.take 14 (.take 15 (.take 16 (.take 17 (.take 18 (.take 19 (.take 20 (.take 21 (.take 22 (.take 23 (.take 24 (.take 25 (.take 26 (.take 27 (.take 28 (.take 29 (.take 30 (.take 31 (.take 32 (.take 33 .fin))))))))))))))))))))) (.take 13 (.take 14 (.take 15 (.take 16 (.take 17 (.take 18 (.take 19 (.take 20 (.take 21 (.take 22 (.take 23 (.take 24 (.take 25 (.take 26 (.take 27 (.take 28 (.take 29 (.take 30 (.take 31 (.take 32 (.take 33 .fin))))))))))))))))))))))))))))))))))))) (.two (.two .leaf .leaf) .leaf)) (.two .leaf (.two .leaf .leaf))))) .leaf)))) (.two .leaf (.two .leaf (.two (.two .leaf (.loop [(13, (.one (.int .i64)))] (.two (.two .leaf (.two .leaf .leaf)) (.two (.two .leaf (.join [(14, (.one (.int .i64)))] (.two .leaf (.two .leaf .leaf)) (.two (.draw (.take 0 (.take 1 (.take 2 (.take 3 (.take 4 (.take 5 (.take 6 (.take 7 (.take 8 (.take 9 (.take 10 (.take 11 (.take 12 (.cases [13] fun _ => (.take 14 (.cases [15] fun _ => .fin))))))))))))))))) (.two (.draw (.take 0 (.take 1 (.take 2 (.take 3 (.take 4 (.take 5 (.take 6 (.take 7 (.take 8 (.take 9 (.take 10 (.cases [11] fun _ => (.take 12 (.take 13 (.split 14 (.take 14 (.take 15 (.take 16 (.take 17 (.take 18 (.take 19 (.take 20 (.take 21 (.take 22 (.take 23 (.take 24 (.take 25 (.take 26 .fin))))))))))))) (.take 14 (.take 15 (.take 16 (.take 17 (.take 18 (.take 19 (.take 20 (.take 21 (.take 22 (.take 23 (.take 24 (.cases [25] fun _ => (.take 26 .fin))))))))))))))))))))))))))))) (.two (.two .leaf .leaf) .leaf))))) .leaf)))) (.two .leaf (.two .leaf .leaf))))))))))))
noncomputable def code5 : Code := match Try.f5.body with | some c => c | none => .skip
theorem eq5 (sizes_1 : Option Addr) (sizes_1l sizes_1c : Nat) (order_2 : Option Addr) (order_2l order_2c : Nat) (K : Value → World → Prop) (E : List PanicEntry → World → Prop) (w : World) : R5 sizes_1 sizes_1l sizes_1c order_2 order_2l order_2c K E w = ewp ctx code5 plan5 (retQ ctx.P Try.f5 K E) (argEnv [(.slice sizes_1 sizes_1l sizes_1c), (.slice order_2 order_2l order_2c)]) [] w := by kernel_rfl
theorem okc5 : okC Try.f5.ntmps (bif hasDefer code5 then [] else writes code5) code5 plan5 = true := by kernel_rfl
theorem R5_ok {sizes_1 : Option Addr} {sizes_1l sizes_1c : Nat} {order_2 : Option Addr} {order_2l order_2c : Nat} {K : Value → World → Prop} {E : List PanicEntry → World → Prop} {w : World} (h : R5 sizes_1 sizes_1l sizes_1c order_2 order_2l order_2c K E w) : FN Try.prog 5 #[(.slice sizes_1 sizes_1l sizes_1c), (.slice order_2 order_2l order_2c)] w K E :=
  FN_of_ewp (C := ctx) ctx_ok ctx_mixed Try.func5 (c := code5) (by kernel_rfl) (args := [(.slice sizes_1 sizes_1l sizes_1c), (.slice order_2 order_2l order_2c)]) (Nat.le_of_ble_eq_true (by kernel_rfl)) okc5 (eq5 sizes_1 sizes_1l sizes_1c order_2 order_2l order_2c K E w ▸ h)

/-- concertina/concertinalaw11.RunsPlay -/
def R6 (blocks_1 : Int) (l_2 : Option Addr) (l_2l l_2c : Nat) (K : Value → World → Prop) (E : List PanicEntry → World → Prop) (w : World) : Prop :=
  FN Try.prog 17 #[] w (fun r_3 w_4 =>
  ∃ (v_5 : Bool), r_3 = (.bool v_5) ∧
  BIF (!v_5)
  (K (.bool false) w_4)
  (JOIN (S := Unit) (fun K_6 =>
  BIF (decide ((l_2l : Int) > 100))
  (K (.bool true) w_4)
  (BIF (decide (blocks_1 > 300))
  (BIF (decide (blocks_1 ≤ 8192))
  (K (.bool true) w_4)
  (K_6 (()) w_4))
  (K_6 (()) w_4)))
  (fun _ s w_7 => 
  FN Try.prog 18 #[(.int .i64 blocks_1)] w_7 (fun r_8 w_9 =>
  ∃ (v_10 : Option Addr), r_8 = (.pointer v_10) ∧
  FN Try.prog 24 #[(.int .i64 blocks_1)] w_9 (fun r_11 w_12 =>
  ∃ (v_13 : Option Addr), r_11 = (.pointer v_13) ∧
  OPW Try.prog (sB .eql 50 (.pointer v_10) (.pointer none) (eqGuard .eql 50 (.tmp 31) (.const (.pointer none)) (.pointer v_10) (.pointer none))) w_12 (fun r_14 w_15 =>
  ∃ (v_16 : Bool), r_14 = (.bool v_16) ∧
  BIF v_16
  (K (.bool false) w_15)
  (LOOP (S := (Int × Unit)) (fun _ X_17 s w_18 => (fun (i_19 : Int) =>
  BIF (decide (i_19 < (l_2l : Int)))
  (IDX 3 l_2 l_2l i_19 (fun (a_20 : Addr) =>
  OPW Try.prog (sV (Instr.loadAt 65 (.pointer (some a_20)))) w_18 (fun r_21 w_22 =>
  ∃ (v_23 : Int) (v_24 : Int) (v_25 : Int), r_21 = (.agg #[(.int .i64 v_23), (.int .i64 v_24), (.int .i64 v_25)]) ∧
  OPW Try.prog (sV (Instr.alloc 65 true (.tuple #[]))) w_22 (fun r_26 w_27 =>
  ∃ (d_28 : Nat), r_26 = (.pointer (some ⟨d_28, 0, none⟩)) ∧
  OPW Try.prog (sU (Instr.storeAt 65 (.pointer (some ⟨d_28, 0, none⟩)) (.agg #[(.int .i64 v_23), (.int .i64 v_24), (.int .i64 v_25)]))) w_27 (fun r_29 w_30 =>
  JOIN (S := (Bool × Unit)) (fun K_31 =>
  OPW Try.prog (sV (Instr.loadAt 3 (.pointer (some ⟨d_28, 0, none⟩)))) w_30 (fun r_87 w_88 =>
  ∃ (v_89 : Int), r_87 = (.int .i64 v_89) ∧
  JOIN (S := (Bool × Unit)) (fun K_90 =>
  BIF (v_89 == 0)
  (K_90 ((v_89 == 0), ()) w_88)
  (BIF (v_89 == 1)
  (K_90 ((v_89 == 1), ()) w_88)
  (K_90 ((v_89 == 2), ()) w_88)))
  (fun _ s w_91 => (fun (v_92 : Bool) =>
  BIF v_92
  (OPW Try.prog (sV (Instr.loadAt 3 (.pointer (some ⟨d_28, 2, none⟩)))) w_91 (fun r_93 w_94 =>
  ∃ (v_95 : Int), r_93 = (.int .i64 v_95) ∧
  FN Try.prog 19 #[(.pointer v_10), (.int .i64 v_95)] w_94 (fun r_96 w_97 =>
  ∃ (v_98 : Int) (v_99 : Bool), r_96 = (.tuple #[(.int .i64 v_98), (.bool v_99)]) ∧
  OPW Try.prog (sV (Instr.loadAt 3 (.pointer (some ⟨d_28, 2, none⟩)))) w_97 (fun r_100 w_101 =>
  ∃ (v_102 : Int), r_100 = (.int .i64 v_102) ∧
  FN Try.prog 25 #[(.pointer v_13), (.int .i64 v_102)] w_101 (fun r_103 w_104 =>
  ∃ (v_105 : Int) (v_106 : Bool), r_103 = (.tuple #[(.int .i64 v_105), (.bool v_106)]) ∧
  BIF (v_98 == v_105)
  (K_31 ((v_99 == v_106), ()) w_104)
  (K_31 (false, ()) w_104))
  E)
  E)
  E)
  E)
  (BIF (v_89 == 3)
  (DRAW w_91 (fun (S_107 : World → World → Prop) (w_108 : World) =>
  HELD Try.prog S_107 (sV (Instr.loadAt 3 (.pointer (some ⟨d_28, 1, none⟩)))) w_108 (fun r_109 =>
  ∃ (v_110 : Int), r_109 = (.int .i64 v_110) ∧
  HELD Try.prog S_107 (sV (Instr.loadAt 3 (.pointer (some ⟨d_28, 2, none⟩)))) w_108 (fun r_111 =>
  ∃ (v_112 : Int), r_111 = (.int .i64 v_112) ∧
  HELD Try.prog S_107 (sV (Instr.loadAt 3 (.pointer (some ⟨d_28, 1, none⟩)))) w_108 (fun r_113 =>
  ∃ (v_114 : Int), r_113 = (.int .i64 v_114) ∧
  HELD Try.prog S_107 (sV (Instr.loadAt 3 (.pointer (some ⟨d_28, 2, none⟩)))) w_108 (fun r_115 =>
  ∃ (v_116 : Int), r_115 = (.int .i64 v_116) ∧
  FN Try.prog 26 #[(.pointer v_10), (.int .i64 v_110), (.int .i64 v_112)] w_108 (fun r_117 w_118 =>
  ∃ (v_119 : Bool), r_117 = (.bool v_119) ∧
  S_107 w_108 w_118 ∧ (FN Try.prog 27 #[(.pointer v_13), (.int .i64 v_114), (.int .i64 v_116)] w_118 (fun r_120 w_121 =>
  ∃ (v_122 : Bool), r_120 = (.bool v_122) ∧
  S_107 w_118 w_121 ∧ (K_31 ((v_119 == v_122), ()) w_121))
  E))
  E))))))
  (JOIN (S := (Bool × Unit)) (fun K_123 =>
  BIF (v_89 == 4)
  (K_123 ((v_89 == 4), ()) w_91)
  (BIF (v_89 == 5)
  (K_123 ((v_89 == 5), ()) w_91)
  (K_123 ((v_89 == 6), ()) w_91)))
  (fun _ s w_124 => (fun (v_125 : Bool) =>
  BIF v_125
  (DRAW w_124 (fun (S_126 : World → World → Prop) (w_127 : World) =>
  HELD Try.prog S_126 (sV (Instr.loadAt 3 (.pointer (some ⟨d_28, 1, none⟩)))) w_127 (fun r_128 =>
  ∃ (v_129 : Int), r_128 = (.int .i64 v_129) ∧
  HELD Try.prog S_126 (sV (Instr.loadAt 3 (.pointer (some ⟨d_28, 2, none⟩)))) w_127 (fun r_130 =>
  ∃ (v_131 : Int), r_130 = (.int .i64 v_131) ∧
  HELD Try.prog S_126 (sV (Instr.loadAt 3 (.pointer (some ⟨d_28, 1, none⟩)))) w_127 (fun r_132 =>
  ∃ (v_133 : Int), r_132 = (.int .i64 v_133) ∧
  HELD Try.prog S_126 (sV (Instr.loadAt 3 (.pointer (some ⟨d_28, 2, none⟩)))) w_127 (fun r_134 =>
  ∃ (v_135 : Int), r_134 = (.int .i64 v_135) ∧
  FN Try.prog 22 #[(.pointer v_10), (.int .i64 v_129), (.int .i64 v_131)] w_127 (fun r_136 w_137 =>
  ∃ (v_138 : Bool), r_136 = (.bool v_138) ∧
  S_126 w_127 w_137 ∧ (FN Try.prog 28 #[(.pointer v_13), (.int .i64 v_133), (.int .i64 v_135)] w_137 (fun r_139 w_140 =>
  ∃ (v_141 : Bool), r_139 = (.bool v_141) ∧
  S_126 w_137 w_140 ∧ (K_31 ((v_138 == v_141), ()) w_140))
  E))
  E))))))
  (K_31 (true, ()) w_124)) s.1)))) s.1))
  E)
  (fun _ s w_142 => (fun (ok_143 : Bool) =>
  BIF (!ok_143)
  (K (.bool false) w_142)
  (FN Try.prog 29 #[(.pointer v_10), (.pointer v_13)] w_142 (fun r_144 w_145 =>
  ∃ (v_146 : Bool), r_144 = (.bool v_146) ∧
  BIF (!v_146)
  (K (.bool false) w_145)
  (X_17 ((IntKind.wrap .i64 (i_19 + 1)), ()) w_145))
  E)) s.1))
  E)
  E)
  E))
  (FN Try.prog 20 #[(.pointer v_10)] w_18 (fun r_147 w_148 =>
  ∃ (v_149 : Option Addr), r_147 = (.pointer v_149) ∧
  FN Try.prog 29 #[(.pointer v_149), (.pointer v_13)] w_148 (fun r_150 w_151 =>
  ∃ (v_152 : Bool), r_150 = (.bool v_152) ∧
  K (.bool v_152) w_151)
  E)
  E)) s.1)
  (0, ()) w_15))
  E)
  E)
  E)))
  E
def plan6 : Plan := (.two .leaf (.two (.two .leaf (.two (.two .leaf .leaf) .leaf)) (.join [] (.two .leaf (.two (.two .leaf .leaf) .leaf)) (.two .leaf (.two (.two .leaf (.two (.two .leaf .leaf) .leaf)) (.two (.two .leaf (.loop [(7, (.one (.int .i64)))] (.two (.two .leaf (.two .leaf .leaf)) (.two (.two .leaf (.join [(9, (.one .bool))] (.two .leaf (.join [(45, (.one .bool))] (.two .leaf (.two .leaf (.two .leaf (.two .leaf .leaf)))) (.two (.two .leaf (.two .leaf .leaf)) (.two .leaf (.two (.draw (.take 0 (.take 1 (.take 2 (.take 3 (.take 4 (.take 6 (.take 7 (.take 8 (.take 9 (.take 10 (.cases [5] fun _ => (.cases [11] fun _ => (.take 12 (.take 13 .fin))))))))))))))) (.join [(86, (.one .bool))] (.two .leaf (.two .leaf (.two .leaf (.two .leaf .leaf)))) (.two (.draw (.take 0 (.take 1 (.take 2 (.take 3 (.take 4 (.take 6 (.take 7 (.take 8 (.take 9 (.take 10 (.cases [5] fun _ => (.cases [11] fun _ => (.take 12 (.take 13 .fin))))))))))))))) .leaf))))))) (.two .leaf (.two (.two .leaf .leaf) .leaf)))) .leaf)))) (.two .leaf .leaf)))))))
noncomputable def code6 : Code := match Try.f6.body with | some c => c | none => .skip
theorem eq6 (blocks_1 : Int) (l_2 : Option Addr) (l_2l l_2c : Nat) (K : Value → World → Prop) (E : List PanicEntry → World → Prop) (w : World) : R6 blocks_1 l_2 l_2l l_2c K E w = ewp ctx code6 plan6 (retQ ctx.P Try.f6 K E) (argEnv [(.int .i64 blocks_1), (.slice l_2 l_2l l_2c)]) [] w := by kernel_rfl
theorem okc6 : okC Try.f6.ntmps (bif hasDefer code6 then [] else writes code6) code6 plan6 = true := by kernel_rfl
theorem R6_ok {blocks_1 : Int} {l_2 : Option Addr} {l_2l l_2c : Nat} {K : Value → World → Prop} {E : List PanicEntry → World → Prop} {w : World} (h : R6 blocks_1 l_2 l_2l l_2c K E w) : FN Try.prog 6 #[(.int .i64 blocks_1), (.slice l_2 l_2l l_2c)] w K E :=
  FN_of_ewp (C := ctx) ctx_ok ctx_mixed Try.func6 (c := code6) (by kernel_rfl) (args := [(.int .i64 blocks_1), (.slice l_2 l_2l l_2c)]) (Nat.le_of_ble_eq_true (by kernel_rfl)) okc6 (eq6 blocks_1 l_2 l_2l l_2c K E w ▸ h)

/-- concertina/concertinalaw11.RunsCopies -/
def R7 (marks_1 : Option Addr) (marks_1l marks_1c : Nat) (gives_2 : Option Addr) (gives_2l gives_2c : Nat) (K : Value → World → Prop) (E : List PanicEntry → World → Prop) (w : World) : Prop :=
  FN Try.prog 17 #[] w (fun r_3 w_4 =>
  ∃ (v_5 : Bool), r_3 = (.bool v_5) ∧
  BIF (!v_5)
  (K (.bool false) w_4)
  (JOIN (S := Unit) (fun K_6 =>
  BIF (decide ((marks_1l : Int) > 60))
  (K (.bool true) w_4)
  (BIF (decide ((gives_2l : Int) > 60))
  (K (.bool true) w_4)
  (K_6 (()) w_4)))
  (fun _ s w_7 => 
  FN Try.prog 18 #[(.int .i64 50)] w_7 (fun r_8 w_9 =>
  ∃ (v_10 : Option Addr), r_8 = (.pointer v_10) ∧
  OPW Try.prog (sB .eql 50 (.pointer v_10) (.pointer none) (eqGuard .eql 50 (.tmp 26) (.const (.pointer none)) (.pointer v_10) (.pointer none))) w_9 (fun r_11 w_12 =>
  ∃ (v_13 : Bool), r_11 = (.bool v_13) ∧
  BIF v_13
  (K (.bool false) w_12)
  (OPW Try.prog (sV (Instr.alloc 68 true (.tuple #[]))) w_12 (fun r_14 w_15 =>
  ∃ (taken_16 : Nat), r_14 = (.pointer (some ⟨taken_16, 0, none⟩)) ∧
  LOOP (S := (Int × Int × Unit)) (fun _ X_17 s w_18 => (fun (n_19 : Int) (i_20 : Int) =>
  BIF (decide (i_20 < (marks_1l : Int)))
  (IDX 1 marks_1 marks_1l i_20 (fun (a_21 : Addr) =>
  OPW Try.prog (sV (Instr.loadAt 5 (.pointer (some a_21)))) w_18 (fun r_22 w_23 =>
  ∃ (v_24 : Int), r_22 = (.int .u8 v_24) ∧
  DRAW w_23 (fun (S_25 : World → World → Prop) (w_26 : World) =>
  IDXA 1 50 ⟨taken_16, 0, none⟩ (Int.tmod (IntKind.wrap .i64 v_24) 50) (fun (a_27 : Addr) =>
  HELD Try.prog S_25 (sV (Instr.loadAt 4 (.pointer (some a_27)))) w_26 (fun r_28 =>
  ∃ (v_29 : Bool), r_28 = (.bool v_29) ∧
  FN Try.prog 26 #[(.pointer v_10), (.int .i64 (Int.tmod (IntKind.wrap .i64 v_24) 50)), (.int .i64 1)] w_26 (fun r_30 w_31 =>
  ∃ (v_32 : Bool), r_30 = (.bool v_32) ∧
  S_25 w_26 w_31 ∧ (BIF (v_32 == v_29)
  (K (.bool false) w_31)
  (IDXA 1 50 ⟨taken_16, 0, none⟩ (Int.tmod (IntKind.wrap .i64 v_24) 50) (fun (a_33 : Addr) =>
  OPW Try.prog (sV (Instr.loadAt 4 (.pointer (some a_33)))) w_31 (fun r_34 w_35 =>
  ∃ (v_36 : Bool), r_34 = (.bool v_36) ∧
  BIF (!v_36)
  (IDXA 1 50 ⟨taken_16, 0, none⟩ (Int.tmod (IntKind.wrap .i64 v_24) 50) (fun (a_37 : Addr) =>
  OPW Try.prog (sU (Instr.storeAt 4 (.pointer (some a_37)) (.bool true))) w_35 (fun r_38 w_39 =>
  X_17 ((IntKind.wrap .i64 (n_19 - 1)), (IntKind.wrap .i64 (i_20 + 1)), ()) w_39)
  E))
  (IDXA 1 50 ⟨taken_16, 0, none⟩ (Int.tmod (IntKind.wrap .i64 v_24) 50) (fun (a_40 : Addr) =>
  OPW Try.prog (sU (Instr.storeAt 4 (.pointer (some a_40)) (.bool true))) w_35 (fun r_41 w_42 =>
  X_17 (n_19, (IntKind.wrap .i64 (i_20 + 1)), ()) w_42)
  E)))
  E))))
  E))))
  E))
  (FN Try.prog 20 #[(.pointer v_10)] w_18 (fun r_43 w_44 =>
  ∃ (v_45 : Option Addr), r_43 = (.pointer v_45) ∧
  OPW Try.prog (sV (Instr.loadAt 68 (.pointer (some ⟨taken_16, 0, none⟩)))) w_44 (fun r_46 w_47 =>
  OPW Try.prog (sV (Instr.alloc 68 true (.tuple #[]))) w_47 (fun r_48 w_49 =>
  ∃ (was_50 : Nat), r_48 = (.pointer (some ⟨was_50, 0, none⟩)) ∧
  OPW Try.prog (sU (Instr.storeAt 68 (.pointer (some ⟨was_50, 0, none⟩)) r_46)) w_49 (fun r_51 w_52 =>
  LOOP (S := (Int × Unit)) (fun _ X_53 s w_54 => (fun (i_55 : Int) =>
  BIF (decide (i_55 < (gives_2l : Int)))
  (IDX 1 gives_2 gives_2l i_55 (fun (a_56 : Addr) =>
  OPW Try.prog (sV (Instr.loadAt 5 (.pointer (some a_56)))) w_54 (fun r_57 w_58 =>
  ∃ (v_59 : Int), r_57 = (.int .u8 v_59) ∧
  DRAW w_58 (fun (S_60 : World → World → Prop) (w_61 : World) =>
  IDXA 1 50 ⟨taken_16, 0, none⟩ (Int.tmod (IntKind.wrap .i64 v_59) 50) (fun (a_62 : Addr) =>
  HELD Try.prog S_60 (sV (Instr.loadAt 4 (.pointer (some a_62)))) w_61 (fun r_63 =>
  ∃ (v_64 : Bool), r_63 = (.bool v_64) ∧
  FN Try.prog 22 #[(.pointer v_10), (.int .i64 (Int.tmod (IntKind.wrap .i64 v_59) 50)), (.int .i64 1)] w_61 (fun r_65 w_66 =>
  ∃ (v_67 : Bool), r_65 = (.bool v_67) ∧
  S_60 w_61 w_66 ∧ (BIF (!(v_67 == v_64))
  (K (.bool false) w_66)
  (IDXA 1 50 ⟨taken_16, 0, none⟩ (Int.tmod (IntKind.wrap .i64 v_59) 50) (fun (a_68 : Addr) =>
  OPW Try.prog (sU (Instr.storeAt 4 (.pointer (some a_68)) (.bool false))) w_66 (fun r_69 w_70 =>
  X_53 ((IntKind.wrap .i64 (i_55 + 1)), ()) w_70)
  E))))
  E))))
  E))
  (LOOP (S := (Int × Unit)) (fun _ X_71 s w_72 => (fun (k_73 : Int) =>
  BIF (decide (k_73 < 50))
  (DRAW w_72 (fun (S_74 : World → World → Prop) (w_75 : World) =>
  IDXA 1 50 ⟨was_50, 0, none⟩ k_73 (fun (a_76 : Addr) =>
  HELD Try.prog S_74 (sV (Instr.loadAt 4 (.pointer (some a_76)))) w_75 (fun r_77 =>
  ∃ (v_78 : Bool), r_77 = (.bool v_78) ∧
  FN Try.prog 26 #[(.pointer v_45), (.int .i64 k_73), (.int .i64 1)] w_75 (fun r_79 w_80 =>
  ∃ (v_81 : Bool), r_79 = (.bool v_81) ∧
  S_74 w_75 w_80 ∧ (BIF (v_81 == v_78)
  (K (.bool false) w_80)
  (IDXA 1 50 ⟨taken_16, 0, none⟩ k_73 (fun (a_82 : Addr) =>
  HELD Try.prog S_74 (sV (Instr.loadAt 4 (.pointer (some a_82)))) w_80 (fun r_83 =>
  ∃ (v_84 : Bool), r_83 = (.bool v_84) ∧
  FN Try.prog 26 #[(.pointer v_10), (.int .i64 k_73), (.int .i64 1)] w_80 (fun r_85 w_86 =>
  ∃ (v_87 : Bool), r_85 = (.bool v_87) ∧
  S_74 w_80 w_86 ∧ (BIF (v_87 == v_84)
  (K (.bool false) w_86)
  (X_71 ((IntKind.wrap .i64 (k_73 + 1)), ()) w_86)))
  E)))))
  E))))
  (FN Try.prog 21 #[(.pointer v_45)] w_72 (fun r_88 w_89 =>
  ∃ (v_90 : Int), r_88 = (.int .i64 v_90) ∧
  BIF (v_90 == 0)
  (FN Try.prog 21 #[(.pointer v_10)] w_89 (fun r_91 w_92 =>
  ∃ (v_93 : Int), r_91 = (.int .i64 v_93) ∧
  BIF (v_93 == 0)
  (FN Try.prog 23 #[(.pointer v_45)] w_92 (fun r_94 w_95 =>
  ∃ (v_96 : Option Addr) (v_96l v_96c : Nat), r_94 = (.slice v_96 v_96l v_96c) ∧
  BIF ((v_96l : Int) == 0)
  (BIF (decide (n_19 ≥ 0))
  (FN Try.prog 30 #[(.pointer v_45)] w_95 (fun r_97 w_98 =>
  ∃ (v_99 : Int), r_97 = (.int .i64 v_99) ∧
  K (.bool (v_99 == 0)) w_98)
  E)
  (K (.bool false) w_95))
  (K (.bool false) w_95))
  E)
  (K (.bool false) w_92))
  E)
  (K (.bool false) w_89))
  E)) s.1)
  (0, ()) w_54)) s.1)
  (0, ()) w_52)
  E)
  E)
  E)
  E)) s.1 s.2.1)
  (50, 0, ()) w_15)
  E))
  E)
  E)))
  E
def plan7 : Plan := (.two .leaf (.two (.two .leaf (.two (.two .leaf .leaf) .leaf)) (.join [] (.two .leaf (.two (.two .leaf .leaf) .leaf)) (.two .leaf (.two (.two .leaf (.two (.two .leaf .leaf) .leaf)) (.two .leaf (.two .leaf (.two (.two .leaf (.loop [(7, (.one (.int .i64))), (8, (.one (.int .i64)))] (.two (.two .leaf (.two .leaf .leaf)) (.two (.two .leaf (.two (.two (.draw (.take 0 (.take 1 (.take 3 (.take 4 (.take 5 (.cases [2] fun _ => (.take 6 .fin)))))))) (.two (.two .leaf .leaf) .leaf)) (.two (.two .leaf (.two .leaf .leaf)) .leaf))) .leaf)))) (.two .leaf (.two .leaf (.two (.two .leaf (.loop [(12, (.one (.int .i64)))] (.two (.two .leaf (.two .leaf .leaf)) (.two (.two .leaf (.two (.two (.draw (.take 0 (.take 1 (.take 3 (.take 4 (.take 5 (.cases [2] fun _ => (.take 6 .fin)))))))) (.two (.two .leaf .leaf) .leaf)) .leaf)) .leaf)))) (.two (.two .leaf (.loop [(14, (.one (.int .i64)))] (.two (.two .leaf (.two .leaf .leaf)) (.two (.two (.draw (.take 0 (.take 1 (.take 3 (.take 4 (.take 5 (.cases [2] fun _ => (.take 6 (.take 7 (.split 8 (.take 8 (.take 9 (.take 10 (.take 11 (.take 12 (.take 13 (.take 14 (.take 15 .fin)))))))) (.take 8 (.take 9 (.take 11 (.take 12 (.take 13 (.cases [10] fun _ => (.take 14 (.take 15 .fin)))))))))))))))))) (.two (.two .leaf .leaf) .leaf)) .leaf)))) (.two .leaf .leaf)))))))))))))
noncomputable def code7 : Code := match Try.f7.body with | some c => c | none => .skip
theorem eq7 (marks_1 : Option Addr) (marks_1l marks_1c : Nat) (gives_2 : Option Addr) (gives_2l gives_2c : Nat) (K : Value → World → Prop) (E : List PanicEntry → World → Prop) (w : World) : R7 marks_1 marks_1l marks_1c gives_2 gives_2l gives_2c K E w = ewp ctx code7 plan7 (retQ ctx.P Try.f7 K E) (argEnv [(.slice marks_1 marks_1l marks_1c), (.slice gives_2 gives_2l gives_2c)]) [] w := by kernel_rfl
theorem okc7 : okC Try.f7.ntmps (bif hasDefer code7 then [] else writes code7) code7 plan7 = true := by kernel_rfl
theorem R7_ok {marks_1 : Option Addr} {marks_1l marks_1c : Nat} {gives_2 : Option Addr} {gives_2l gives_2c : Nat} {K : Value → World → Prop} {E : List PanicEntry → World → Prop} {w : World} (h : R7 marks_1 marks_1l marks_1c gives_2 gives_2l gives_2c K E w) : FN Try.prog 7 #[(.slice marks_1 marks_1l marks_1c), (.slice gives_2 gives_2l gives_2c)] w K E :=
  FN_of_ewp (C := ctx) ctx_ok ctx_mixed Try.func7 (c := code7) (by kernel_rfl) (args := [(.slice marks_1 marks_1l marks_1c), (.slice gives_2 gives_2l gives_2c)]) (Nat.le_of_ble_eq_true (by kernel_rfl)) okc7 (eq7 marks_1 marks_1l marks_1c gives_2 gives_2l gives_2c K E w ▸ h)

/-- concertina/concertinalaw11.awake -/
def R17  (K : Value → World → Prop) (E : List PanicEntry → World → Prop) (w : World) : Prop :=
  FN Try.prog 18 #[(.int .i64 8)] w (fun r_1 w_2 =>
  ∃ (v_3 : Option Addr), r_1 = (.pointer v_3) ∧
  OPW Try.prog (sB .eql 50 (.pointer v_3) (.pointer none) (eqGuard .eql 50 (.tmp 9) (.const (.pointer none)) (.pointer v_3) (.pointer none))) w_2 (fun r_4 w_5 =>
  ∃ (v_6 : Bool), r_4 = (.bool v_6) ∧
  BIF v_6
  (K (.bool false) w_5)
  (FN Try.prog 19 #[(.pointer v_3), (.int .i64 3)] w_5 (fun r_7 w_8 =>
  ∃ (v_9 : Int) (v_10 : Bool), r_7 = (.tuple #[(.int .i64 v_9), (.bool v_10)]) ∧
  FN Try.prog 19 #[(.pointer v_3), (.int .i64 2)] w_8 (fun r_11 w_12 =>
  ∃ (v_13 : Int) (v_14 : Bool), r_11 = (.tuple #[(.int .i64 v_13), (.bool v_14)]) ∧
  FN Try.prog 22 #[(.pointer v_3), (.int .i64 0), (.int .i64 3)] w_12 (fun r_15 w_16 =>
  ∃ (v_17 : Bool), r_15 = (.bool v_17) ∧
  FN Try.prog 23 #[(.pointer v_3)] w_16 (fun r_18 w_19 =>
  ∃ (v_20 : Option Addr) (v_20l v_20c : Nat), r_18 = (.slice v_20 v_20l v_20c) ∧
  BIF v_10
  (BIF v_14
  (BIF v_17
  (BIF (v_9 == 0)
  (BIF (v_13 == 3)
  (BIF ((v_20l : Int) == 2)
  (IDX 2 v_20 v_20l 0 (fun (a_21 : Addr) =>
  OPW Try.prog (sV (Instr.loadAt 56 (.pointer (some a_21)))) w_19 (fun r_22 w_23 =>
  ∃ (v_24 : Int) (v_25 : Int), r_22 = (.agg #[(.int .i64 v_24), (.int .i64 v_25)]) ∧
  OPW Try.prog (sB .eql 56 (.agg #[(.int .i64 v_24), (.int .i64 v_25)]) (.agg #[(.int .i64 0), (.int .i64 3)]) (eqGuard .eql 56 (.tmp 48) (.tmp 49) (.agg #[(.int .i64 v_24), (.int .i64 v_25)]) (.agg #[(.int .i64 0), (.int .i64 3)]))) w_23 (fun r_26 w_27 =>
  ∃ (v_28 : Bool), r_26 = (.bool v_28) ∧
  BIF v_28
  (IDX 2 v_20 v_20l 1 (fun (a_29 : Addr) =>
  OPW Try.prog (sV (Instr.loadAt 56 (.pointer (some a_29)))) w_27 (fun r_30 w_31 =>
  ∃ (v_32 : Int) (v_33 : Int), r_30 = (.agg #[(.int .i64 v_32), (.int .i64 v_33)]) ∧
  OPW Try.prog (sB .eql 56 (.agg #[(.int .i64 v_32), (.int .i64 v_33)]) (.agg #[(.int .i64 5), (.int .i64 3)]) (eqGuard .eql 56 (.tmp 55) (.tmp 56) (.agg #[(.int .i64 v_32), (.int .i64 v_33)]) (.agg #[(.int .i64 5), (.int .i64 3)]))) w_31 (fun r_34 w_35 =>
  ∃ (v_36 : Bool), r_34 = (.bool v_36) ∧
  K (.bool v_36) w_35)
  E)
  E))
  (K (.bool false) w_27))
  E)
  E))
  (K (.bool false) w_19))
  (K (.bool false) w_19))
  (K (.bool false) w_19))
  (K (.bool false) w_19))
  (K (.bool false) w_19))
  (K (.bool false) w_19))
  E)
  E)
  E)
  E))
  E)
  E
def plan17 : Plan := (.two .leaf (.two .leaf (.two (.two .leaf (.two (.two .leaf .leaf) .leaf)) (.two .leaf (.two .leaf (.two .leaf (.two .leaf (.two .leaf .leaf))))))))
noncomputable def code17 : Code := match Try.f17.body with | some c => c | none => .skip
theorem eq17  (K : Value → World → Prop) (E : List PanicEntry → World → Prop) (w : World) : R17  K E w = ewp ctx code17 plan17 (retQ ctx.P Try.f17 K E) (argEnv []) [] w := by kernel_rfl
theorem okc17 : okC Try.f17.ntmps (bif hasDefer code17 then [] else writes code17) code17 plan17 = true := by kernel_rfl
theorem R17_ok {_u : Unit} {K : Value → World → Prop} {E : List PanicEntry → World → Prop} {w : World} (h : R17  K E w) : FN Try.prog 17 #[] w K E :=
  FN_of_ewp (C := ctx) ctx_ok ctx_mixed Try.func17 (c := code17) (by kernel_rfl) (args := []) (Nat.le_of_ble_eq_true (by kernel_rfl)) okc17 (eq17  K E w ▸ h)

/-- concertina/runs.New -/
def R18 (blocks_1 : Int) (K : Value → World → Prop) (E : List PanicEntry → World → Prop) (w : World) : Prop :=
  JOIN (S := Unit) (fun K_2 =>
  BIF (decide (blocks_1 < 1))
  (OPW Try.prog (sV (Instr.box 93 (.agg #[(.int .i64 0), (.slice none 0 0)]))) w (fun r_9 w_10 =>
  ∃ (v_11 : Nat), r_9 = (.pointer (some ⟨v_11, 0, none⟩)) ∧
  K (.pointer (some ⟨v_11, 0, none⟩)) w_10)
  E)
  (BIF (decide (blocks_1 > 8192))
  (OPW Try.prog (sV (Instr.box 93 (.agg #[(.int .i64 0), (.slice none 0 0)]))) w (fun r_12 w_13 =>
  ∃ (v_14 : Nat), r_12 = (.pointer (some ⟨v_14, 0, none⟩)) ∧
  K (.pointer (some ⟨v_14, 0, none⟩)) w_13)
  E)
  (K_2 (()) w)))
  (fun _ s w_15 => 
  OPW Try.prog (sV (Instr.buildSlice 52 1 #[(0, (.agg #[(.int .i64 0), (.int .i64 blocks_1)]))])) w_15 (fun r_16 w_17 =>
  ∃ (v_18 : Option Addr) (v_18l v_18c : Nat), r_16 = (.slice v_18 v_18l v_18c) ∧
  OPW Try.prog (sV (Instr.box 93 (.agg #[(.int .i64 blocks_1), (.slice v_18 v_18l v_18c)]))) w_17 (fun r_19 w_20 =>
  ∃ (v_21 : Nat), r_19 = (.pointer (some ⟨v_21, 0, none⟩)) ∧
  K (.pointer (some ⟨v_21, 0, none⟩)) w_20)
  E)
  E)
def plan18 : Plan := (.two .leaf (.join [] (.two .leaf (.two (.two .leaf .leaf) .leaf)) (.two .leaf .leaf)))
noncomputable def code18 : Code := match Try.f18.body with | some c => c | none => .skip
theorem eq18 (blocks_1 : Int) (K : Value → World → Prop) (E : List PanicEntry → World → Prop) (w : World) : R18 blocks_1 K E w = ewp ctx code18 plan18 (retQ ctx.P Try.f18 K E) (argEnv [(.int .i64 blocks_1)]) [] w := by kernel_rfl
theorem okc18 : okC Try.f18.ntmps (bif hasDefer code18 then [] else writes code18) code18 plan18 = true := by kernel_rfl
theorem R18_ok {blocks_1 : Int} {K : Value → World → Prop} {E : List PanicEntry → World → Prop} {w : World} (h : R18 blocks_1 K E w) : FN Try.prog 18 #[(.int .i64 blocks_1)] w K E :=
  FN_of_ewp (C := ctx) ctx_ok ctx_mixed Try.func18 (c := code18) (by kernel_rfl) (args := [(.int .i64 blocks_1)]) (Nat.le_of_ble_eq_true (by kernel_rfl)) okc18 (eq18 blocks_1 K E w ▸ h)

/-- (*concertina/runs.Runs).Take -/
def R19 (r_1 : Nat) (n_2 : Int) (K : Value → World → Prop) (E : List PanicEntry → World → Prop) (w : World) : Prop :=
  JOIN (S := Unit) (fun K_3 =>
  OPW Try.prog (sB .eql 50 (.pointer (some ⟨r_1, 0, none⟩)) (.pointer none) (eqGuard .eql 50 (.tmp 8) (.const (.pointer none)) (.pointer (some ⟨r_1, 0, none⟩)) (.pointer none))) w (fun r_7 w_8 =>
  ∃ (v_9 : Bool), r_7 = (.bool v_9) ∧
  BIF v_9
  (K (.tuple #[(.int .i64 0), (.bool false)]) w_8)
  (BIF (decide (n_2 < 1))
  (K (.tuple #[(.int .i64 0), (.bool false)]) w_8)
  (K_3 (()) w_8)))
  E)
  (fun _ s w_10 => 
  OPW Try.prog (sV (Instr.loadAt 52 (.pointer (some ⟨r_1, 1, none⟩)))) w_10 (fun r_11 w_12 =>
  ∃ (v_13 : Option Addr) (v_13l v_13c : Nat), r_11 = (.slice v_13 v_13l v_13c) ∧
  LOOP (S := (Int × Unit)) (fun _ X_14 s w_15 => (fun (v_16 : Int) =>
  BIF (decide (v_16 < (v_13l : Int)))
  (IDX 2 v_13 v_13l v_16 (fun (a_17 : Addr) =>
  OPW Try.prog (sV (Instr.loadAt 56 (.pointer (some a_17)))) w_15 (fun r_18 w_19 =>
  ∃ (v_20 : Int) (v_21 : Int), r_18 = (.agg #[(.int .i64 v_20), (.int .i64 v_21)]) ∧
  OPW Try.prog (sV (Instr.alloc 56 true (.tuple #[]))) w_19 (fun r_22 w_23 =>
  ∃ (x_24 : Nat), r_22 = (.pointer (some ⟨x_24, 0, none⟩)) ∧
  OPW Try.prog (sU (Instr.storeAt 56 (.pointer (some ⟨x_24, 0, none⟩)) (.agg #[(.int .i64 v_20), (.int .i64 v_21)]))) w_23 (fun r_25 w_26 =>
  OPW Try.prog (sV (Instr.loadAt 3 (.pointer (some ⟨x_24, 1, none⟩)))) w_26 (fun r_27 w_28 =>
  ∃ (v_29 : Int), r_27 = (.int .i64 v_29) ∧
  BIF (decide (v_29 ≥ n_2))
  (OPW Try.prog (sV (Instr.loadAt 3 (.pointer (some ⟨x_24, 0, none⟩)))) w_28 (fun r_30 w_31 =>
  ∃ (v_32 : Int), r_30 = (.int .i64 v_32) ∧
  OPW Try.prog (sV (Instr.loadAt 3 (.pointer (some ⟨x_24, 1, none⟩)))) w_31 (fun r_33 w_34 =>
  ∃ (v_35 : Int), r_33 = (.int .i64 v_35) ∧
  OPW Try.prog (sV (Instr.buildSlice 52 1 #[(0, (.agg #[(.int .i64 (IntKind.wrap .i64 (v_32 + n_2))), (.int .i64 (IntKind.wrap .i64 (v_35 - n_2)))]))])) w_34 (fun r_36 w_37 =>
  ∃ (v_38 : Option Addr) (v_38l v_38c : Nat), r_36 = (.slice v_38 v_38l v_38c) ∧
  FN Try.prog 48 #[(.pointer (some ⟨r_1, 0, none⟩)), (.int .i64 v_16), (.slice v_38 v_38l v_38c)] w_37 (fun r_39 w_40 =>
  OPW Try.prog (sV (Instr.loadAt 3 (.pointer (some ⟨x_24, 0, none⟩)))) w_40 (fun r_41 w_42 =>
  ∃ (v_43 : Int), r_41 = (.int .i64 v_43) ∧
  K (.tuple #[(.int .i64 v_43), (.bool true)]) w_42)
  E)
  E)
  E)
  E)
  E)
  (X_14 ((IntKind.wrap .i64 (v_16 + 1)), ()) w_28))
  E)
  E)
  E)
  E))
  (K (.tuple #[(.int .i64 0), (.bool false)]) w_15)) s.1)
  (0, ()) w_12)
  E)
def plan19 : Plan := (.two .leaf (.join [] (.two .leaf (.two (.two .leaf .leaf) .leaf)) (.two (.two .leaf (.loop [(19, (.one (.int .i64)))] (.two .leaf (.two (.two .leaf .leaf) (.two (.two .leaf (.two .leaf (.two (.two .leaf (.two .leaf .leaf)) .leaf))) .leaf))))) (.two .leaf .leaf))))
noncomputable def code19 : Code := match Try.f19.body with | some c => c | none => .skip
theorem eq19 (r_1 : Nat) (n_2 : Int) (K : Value → World → Prop) (E : List PanicEntry → World → Prop) (w : World) : R19 r_1 n_2 K E w = ewp ctx code19 plan19 (retQ ctx.P Try.f19 K E) (argEnv [(.pointer (some ⟨r_1, 0, none⟩)), (.int .i64 n_2)]) [] w := by kernel_rfl
theorem okc19 : okC Try.f19.ntmps (bif hasDefer code19 then [] else writes code19) code19 plan19 = true := by kernel_rfl
theorem R19_ok {r_1 : Nat} {n_2 : Int} {K : Value → World → Prop} {E : List PanicEntry → World → Prop} {w : World} (h : R19 r_1 n_2 K E w) : FN Try.prog 19 #[(.pointer (some ⟨r_1, 0, none⟩)), (.int .i64 n_2)] w K E :=
  FN_of_ewp (C := ctx) ctx_ok ctx_mixed Try.func19 (c := code19) (by kernel_rfl) (args := [(.pointer (some ⟨r_1, 0, none⟩)), (.int .i64 n_2)]) (Nat.le_of_ble_eq_true (by kernel_rfl)) okc19 (eq19 r_1 n_2 K E w ▸ h)

/-- (*concertina/runs.Runs).Copy -/
def R20 (r_1 : Nat) (K : Value → World → Prop) (E : List PanicEntry → World → Prop) (w : World) : Prop :=
  OPW Try.prog (sB .eql 50 (.pointer (some ⟨r_1, 0, none⟩)) (.pointer none) (eqGuard .eql 50 (.tmp 3) (.const (.pointer none)) (.pointer (some ⟨r_1, 0, none⟩)) (.pointer none))) w (fun r_2 w_3 =>
  ∃ (v_4 : Bool), r_2 = (.bool v_4) ∧
  BIF v_4
  (K (.pointer none) w_3)
  (DRAW w_3 (fun (S_5 : World → World → Prop) (w_6 : World) =>
  HELD Try.prog S_5 (sV (Instr.loadAt 3 (.pointer (some ⟨r_1, 0, none⟩)))) w_6 (fun r_7 =>
  ∃ (v_8 : Int), r_7 = (.int .i64 v_8) ∧
  HELD Try.prog S_5 (sV (Instr.loadAt 52 (.pointer (some ⟨r_1, 1, none⟩)))) w_6 (fun r_9 =>
  ∃ (v_10 : Option Addr) (v_10l v_10c : Nat), r_9 = (.slice v_10 v_10l v_10c) ∧
  FN Try.prog 49 #[(.slice v_10 v_10l v_10c)] w_6 (fun r_11 w_12 =>
  ∃ (v_13 : Option Addr) (v_13l v_13c : Nat), r_11 = (.slice v_13 v_13l v_13c) ∧
  S_5 w_6 w_12 ∧ (OPW Try.prog (sV (Instr.box 93 (.agg #[(.int .i64 v_8), (.slice v_13 v_13l v_13c)]))) w_12 (fun r_14 w_15 =>
  ∃ (v_16 : Nat), r_14 = (.pointer (some ⟨v_16, 0, none⟩)) ∧
  K (.pointer (some ⟨v_16, 0, none⟩)) w_15)
  E))
  E)))))
  E
def plan20 : Plan := (.two .leaf (.two (.two .leaf (.two (.two .leaf .leaf) .leaf)) (.two (.draw (.take 0 (.take 1 (.take 2 (.take 3 (.take 4 (.take 5 (.take 6 (.take 7 (.cases [8] fun _ => (.take 9 (.cases [10] fun _ => (.take 11 .fin))))))))))))) .leaf)))
noncomputable def code20 : Code := match Try.f20.body with | some c => c | none => .skip
theorem eq20 (r_1 : Nat) (K : Value → World → Prop) (E : List PanicEntry → World → Prop) (w : World) : R20 r_1 K E w = ewp ctx code20 plan20 (retQ ctx.P Try.f20 K E) (argEnv [(.pointer (some ⟨r_1, 0, none⟩))]) [] w := by kernel_rfl
theorem okc20 : okC Try.f20.ntmps (bif hasDefer code20 then [] else writes code20) code20 plan20 = true := by kernel_rfl
theorem R20_ok {r_1 : Nat} {K : Value → World → Prop} {E : List PanicEntry → World → Prop} {w : World} (h : R20 r_1 K E w) : FN Try.prog 20 #[(.pointer (some ⟨r_1, 0, none⟩))] w K E :=
  FN_of_ewp (C := ctx) ctx_ok ctx_mixed Try.func20 (c := code20) (by kernel_rfl) (args := [(.pointer (some ⟨r_1, 0, none⟩))]) (Nat.le_of_ble_eq_true (by kernel_rfl)) okc20 (eq20 r_1 K E w ▸ h)

/-- (*concertina/runs.Runs).Free -/
def R21 (r_1 : Nat) (K : Value → World → Prop) (E : List PanicEntry → World → Prop) (w : World) : Prop :=
  FN Try.prog 23 #[(.pointer (some ⟨r_1, 0, none⟩))] w (fun r_2 w_3 =>
  ∃ (v_4 : Option Addr) (v_4l v_4c : Nat), r_2 = (.slice v_4 v_4l v_4c) ∧
  LOOP (S := (Int × Int × Unit)) (fun _ X_5 s w_6 => (fun (n_7 : Int) (v_8 : Int) =>
  BIF (decide (v_8 < (v_4l : Int)))
  (IDX 2 v_4 v_4l v_8 (fun (a_9 : Addr) =>
  OPW Try.prog (sV (Instr.loadAt 56 (.pointer (some a_9)))) w_6 (fun r_10 w_11 =>
  ∃ (v_12 : Int) (v_13 : Int), r_10 = (.agg #[(.int .i64 v_12), (.int .i64 v_13)]) ∧
  OPW Try.prog (sV (Instr.alloc 56 true (.tuple #[]))) w_11 (fun r_14 w_15 =>
  ∃ (x_16 : Nat), r_14 = (.pointer (some ⟨x_16, 0, none⟩)) ∧
  OPW Try.prog (sU (Instr.storeAt 56 (.pointer (some ⟨x_16, 0, none⟩)) (.agg #[(.int .i64 v_12), (.int .i64 v_13)]))) w_15 (fun r_17 w_18 =>
  OPW Try.prog (sV (Instr.loadAt 3 (.pointer (some ⟨x_16, 1, none⟩)))) w_18 (fun r_19 w_20 =>
  ∃ (v_21 : Int), r_19 = (.int .i64 v_21) ∧
  X_5 ((IntKind.wrap .i64 (n_7 + v_21)), (IntKind.wrap .i64 (v_8 + 1)), ()) w_20)
  E)
  E)
  E)
  E))
  (K (.int .i64 n_7) w_6)) s.1 s.2.1)
  (0, 0, ()) w_3)
  E
def plan21 : Plan := (.two .leaf (.two .leaf (.two (.two .leaf (.loop [(3, (.one (.int .i64))), (9, (.one (.int .i64)))] (.two .leaf (.two (.two .leaf .leaf) (.two (.two .leaf .leaf) .leaf))))) (.two .leaf .leaf))))
noncomputable def code21 : Code := match Try.f21.body with | some c => c | none => .skip
theorem eq21 (r_1 : Nat) (K : Value → World → Prop) (E : List PanicEntry → World → Prop) (w : World) : R21 r_1 K E w = ewp ctx code21 plan21 (retQ ctx.P Try.f21 K E) (argEnv [(.pointer (some ⟨r_1, 0, none⟩))]) [] w := by kernel_rfl
theorem okc21 : okC Try.f21.ntmps (bif hasDefer code21 then [] else writes code21) code21 plan21 = true := by kernel_rfl
theorem R21_ok {r_1 : Nat} {K : Value → World → Prop} {E : List PanicEntry → World → Prop} {w : World} (h : R21 r_1 K E w) : FN Try.prog 21 #[(.pointer (some ⟨r_1, 0, none⟩))] w K E :=
  FN_of_ewp (C := ctx) ctx_ok ctx_mixed Try.func21 (c := code21) (by kernel_rfl) (args := [(.pointer (some ⟨r_1, 0, none⟩))]) (Nat.le_of_ble_eq_true (by kernel_rfl)) okc21 (eq21 r_1 K E w ▸ h)

/-- (*concertina/runs.Runs).Give -/
def R22 (r_1 : Nat) (at_2 : Int) (n_3 : Int) (K : Value → World → Prop) (E : List PanicEntry → World → Prop) (w : World) : Prop :=
  FN Try.prog 50 #[(.pointer (some ⟨r_1, 0, none⟩)), (.int .i64 at_2), (.int .i64 n_3)] w (fun r_4 w_5 =>
  ∃ (v_6 : Bool), r_4 = (.bool v_6) ∧
  BIF (!v_6)
  (K (.bool false) w_5)
  (JOIN (S := (Int × Unit)) (fun K_7 =>
  LOOP (S := (Int × Unit)) (fun _ X_21 s w_22 => (fun (i_23 : Int) =>
  OPW Try.prog (sV (Instr.loadAt 52 (.pointer (some ⟨r_1, 1, none⟩)))) w_22 (fun r_24 w_25 =>
  ∃ (v_26 : Option Addr) (v_26l v_26c : Nat), r_24 = (.slice v_26 v_26l v_26c) ∧
  BIF (decide (i_23 < (v_26l : Int)))
  (OPW Try.prog (sV (Instr.loadAt 52 (.pointer (some ⟨r_1, 1, none⟩)))) w_25 (fun r_27 w_28 =>
  ∃ (v_29 : Option Addr) (v_29l v_29c : Nat), r_27 = (.slice v_29 v_29l v_29c) ∧
  IDX 2 v_29 v_29l i_23 (fun (a_30 : Addr) =>
  OPW Try.prog (sV (Instr.loadAt 3 (.pointer (some a_30)))) w_28 (fun r_31 w_32 =>
  ∃ (v_33 : Int), r_31 = (.int .i64 v_33) ∧
  BIF (decide (v_33 < at_2))
  (X_21 ((IntKind.wrap .i64 (i_23 + 1)), ()) w_32)
  (K_7 (i_23, ()) w_32))
  E))
  E)
  (K_7 (i_23, ()) w_25))
  E) s.1)
  (0, ()) w_5)
  (fun _ s w_34 => (fun (i_35 : Int) =>
  JOIN (S := Unit) (fun K_36 =>
  DRAW w_34 (fun (S_63 : World → World → Prop) (w_64 : World) =>
  BIF (decide (i_35 > 0))
  (HELD Try.prog S_63 (sV (Instr.loadAt 52 (.pointer (some ⟨r_1, 1, none⟩)))) w_64 (fun r_65 =>
  ∃ (v_66 : Option Addr) (v_66l v_66c : Nat), r_65 = (.slice v_66 v_66l v_66c) ∧
  IDX 2 v_66 v_66l (IntKind.wrap .i64 (i_35 - 1)) (fun (a_67 : Addr) =>
  HELD Try.prog S_63 (sV (Instr.loadAt 3 (.pointer (some a_67)))) w_64 (fun r_68 =>
  ∃ (v_69 : Int), r_68 = (.int .i64 v_69) ∧
  HELD Try.prog S_63 (sV (Instr.loadAt 52 (.pointer (some ⟨r_1, 1, none⟩)))) w_64 (fun r_70 =>
  ∃ (v_71 : Option Addr) (v_71l v_71c : Nat), r_70 = (.slice v_71 v_71l v_71c) ∧
  IDX 2 v_71 v_71l (IntKind.wrap .i64 (i_35 - 1)) (fun (a_72 : Addr) =>
  HELD Try.prog S_63 (sV (Instr.loadAt 3 (.pointer (some (Addr.add a_72 1))))) w_64 (fun r_73 =>
  ∃ (v_74 : Int), r_73 = (.int .i64 v_74) ∧
  BIF (decide ((IntKind.wrap .i64 (v_69 + v_74)) > at_2))
  (K (.bool false) w_64)
  (HELD Try.prog S_63 (sV (Instr.loadAt 52 (.pointer (some ⟨r_1, 1, none⟩)))) w_64 (fun r_75 =>
  ∃ (v_76 : Option Addr) (v_76l v_76c : Nat), r_75 = (.slice v_76 v_76l v_76c) ∧
  BIF (decide (i_35 < (v_76l : Int)))
  (HELD Try.prog S_63 (sV (Instr.loadAt 52 (.pointer (some ⟨r_1, 1, none⟩)))) w_64 (fun r_77 =>
  ∃ (v_78 : Option Addr) (v_78l v_78c : Nat), r_77 = (.slice v_78 v_78l v_78c) ∧
  IDX 2 v_78 v_78l i_35 (fun (a_79 : Addr) =>
  HELD Try.prog S_63 (sV (Instr.loadAt 3 (.pointer (some a_79)))) w_64 (fun r_80 =>
  ∃ (v_81 : Int), r_80 = (.int .i64 v_81) ∧
  BIF (decide ((IntKind.wrap .i64 (at_2 + n_3)) > v_81))
  (K (.bool false) w_64)
  (K_36 (()) w_64)))))
  (K_36 (()) w_64))))))))))
  (HELD Try.prog S_63 (sV (Instr.loadAt 52 (.pointer (some ⟨r_1, 1, none⟩)))) w_64 (fun r_82 =>
  ∃ (v_83 : Option Addr) (v_83l v_83c : Nat), r_82 = (.slice v_83 v_83l v_83c) ∧
  BIF (decide (i_35 < (v_83l : Int)))
  (HELD Try.prog S_63 (sV (Instr.loadAt 52 (.pointer (some ⟨r_1, 1, none⟩)))) w_64 (fun r_84 =>
  ∃ (v_85 : Option Addr) (v_85l v_85c : Nat), r_84 = (.slice v_85 v_85l v_85c) ∧
  IDX 2 v_85 v_85l i_35 (fun (a_86 : Addr) =>
  HELD Try.prog S_63 (sV (Instr.loadAt 3 (.pointer (some a_86)))) w_64 (fun r_87 =>
  ∃ (v_88 : Int), r_87 = (.int .i64 v_88) ∧
  BIF (decide ((IntKind.wrap .i64 (at_2 + n_3)) > v_88))
  (K (.bool false) w_64)
  (K_36 (()) w_64)))))
  (K_36 (()) w_64)))))
  (fun _ s w_89 => 
  OPW Try.prog (sV (Instr.alloc 56 true (.tuple #[]))) w_89 (fun r_90 w_91 =>
  ∃ (x_92 : Nat), r_90 = (.pointer (some ⟨x_92, 0, none⟩)) ∧
  OPW Try.prog (sU (Instr.storeAt 56 (.pointer (some ⟨x_92, 0, none⟩)) (.agg #[(.int .i64 at_2), (.int .i64 n_3)]))) w_91 (fun r_93 w_94 =>
  JOIN (S := (Int × Unit)) (fun K_95 =>
  JOIN (S := (Bool × Unit)) (fun K_137 =>
  DRAW w_94 (fun (S_138 : World → World → Prop) (w_139 : World) =>
  BIF (decide (i_35 > 0))
  (HELD Try.prog S_138 (sV (Instr.loadAt 52 (.pointer (some ⟨r_1, 1, none⟩)))) w_139 (fun r_140 =>
  ∃ (v_141 : Option Addr) (v_141l v_141c : Nat), r_140 = (.slice v_141 v_141l v_141c) ∧
  IDX 2 v_141 v_141l (IntKind.wrap .i64 (i_35 - 1)) (fun (a_142 : Addr) =>
  HELD Try.prog S_138 (sV (Instr.loadAt 3 (.pointer (some a_142)))) w_139 (fun r_143 =>
  ∃ (v_144 : Int), r_143 = (.int .i64 v_144) ∧
  HELD Try.prog S_138 (sV (Instr.loadAt 52 (.pointer (some ⟨r_1, 1, none⟩)))) w_139 (fun r_145 =>
  ∃ (v_146 : Option Addr) (v_146l v_146c : Nat), r_145 = (.slice v_146 v_146l v_146c) ∧
  IDX 2 v_146 v_146l (IntKind.wrap .i64 (i_35 - 1)) (fun (a_147 : Addr) =>
  HELD Try.prog S_138 (sV (Instr.loadAt 3 (.pointer (some (Addr.add a_147 1))))) w_139 (fun r_148 =>
  ∃ (v_149 : Int), r_148 = (.int .i64 v_149) ∧
  K_137 (((IntKind.wrap .i64 (v_144 + v_149)) == at_2), ()) w_139)))))))
  (K_137 (false, ()) w_139)))
  (fun _ s w_150 => (fun (v_151 : Bool) =>
  BIF v_151
  (DRAW w_150 (fun (S_152 : World → World → Prop) (w_153 : World) =>
  HELD Try.prog S_152 (sV (Instr.loadAt 52 (.pointer (some ⟨r_1, 1, none⟩)))) w_153 (fun r_154 =>
  ∃ (v_155 : Option Addr) (v_155l v_155c : Nat), r_154 = (.slice v_155 v_155l v_155c) ∧
  IDX 2 v_155 v_155l (IntKind.wrap .i64 (i_35 - 1)) (fun (a_156 : Addr) =>
  HELD Try.prog S_152 (sV (Instr.loadAt 3 (.pointer (some a_156)))) w_153 (fun r_157 =>
  ∃ (v_158 : Int), r_157 = (.int .i64 v_158) ∧
  HELD Try.prog S_152 (sV (Instr.loadAt 52 (.pointer (some ⟨r_1, 1, none⟩)))) w_153 (fun r_159 =>
  ∃ (v_160 : Option Addr) (v_160l v_160c : Nat), r_159 = (.slice v_160 v_160l v_160c) ∧
  IDX 2 v_160 v_160l (IntKind.wrap .i64 (i_35 - 1)) (fun (a_161 : Addr) =>
  HELD Try.prog S_152 (sV (Instr.loadAt 3 (.pointer (some (Addr.add a_161 1))))) w_153 (fun r_162 =>
  ∃ (v_163 : Int), r_162 = (.int .i64 v_163) ∧
  OPW Try.prog (sU (Instr.storeAt 56 (.pointer (some ⟨x_92, 0, none⟩)) (.agg #[(.int .i64 v_158), (.int .i64 (IntKind.wrap .i64 (v_163 + n_3)))]))) w_153 (fun r_164 w_165 =>
  K_95 ((IntKind.wrap .i64 (i_35 - 1)), ()) w_165)
  E))))))))
  (K_95 (i_35, ()) w_150)) s.1))
  (fun _ s w_166 => (fun (from_167 : Int) =>
  JOIN (S := (Int × Unit)) (fun K_168 =>
  JOIN (S := (Bool × Unit)) (fun K_203 =>
  OPW Try.prog (sV (Instr.loadAt 52 (.pointer (some ⟨r_1, 1, none⟩)))) w_166 (fun r_204 w_205 =>
  ∃ (v_206 : Option Addr) (v_206l v_206c : Nat), r_204 = (.slice v_206 v_206l v_206c) ∧
  BIF (decide (i_35 < (v_206l : Int)))
  (OPW Try.prog (sV (Instr.loadAt 52 (.pointer (some ⟨r_1, 1, none⟩)))) w_205 (fun r_207 w_208 =>
  ∃ (v_209 : Option Addr) (v_209l v_209c : Nat), r_207 = (.slice v_209 v_209l v_209c) ∧
  IDX 2 v_209 v_209l i_35 (fun (a_210 : Addr) =>
  OPW Try.prog (sV (Instr.loadAt 3 (.pointer (some a_210)))) w_208 (fun r_211 w_212 =>
  ∃ (v_213 : Int), r_211 = (.int .i64 v_213) ∧
  K_203 (((IntKind.wrap .i64 (at_2 + n_3)) == v_213), ()) w_212)
  E))
  E)
  (K_203 (false, ()) w_205))
  E)
  (fun _ s w_214 => (fun (v_215 : Bool) =>
  BIF v_215
  (DRAW w_214 (fun (S_216 : World → World → Prop) (w_217 : World) =>
  HELD Try.prog S_216 (sV (Instr.loadAt 3 (.pointer (some ⟨x_92, 1, none⟩)))) w_217 (fun r_218 =>
  ∃ (v_219 : Int), r_218 = (.int .i64 v_219) ∧
  HELD Try.prog S_216 (sV (Instr.loadAt 52 (.pointer (some ⟨r_1, 1, none⟩)))) w_217 (fun r_220 =>
  ∃ (v_221 : Option Addr) (v_221l v_221c : Nat), r_220 = (.slice v_221 v_221l v_221c) ∧
  IDX 2 v_221 v_221l i_35 (fun (a_222 : Addr) =>
  HELD Try.prog S_216 (sV (Instr.loadAt 3 (.pointer (some (Addr.add a_222 1))))) w_217 (fun r_223 =>
  ∃ (v_224 : Int), r_223 = (.int .i64 v_224) ∧
  OPW Try.prog (sU (Instr.storeAt 3 (.pointer (some ⟨x_92, 1, none⟩)) (.int .i64 (IntKind.wrap .i64 (v_219 + v_224))))) w_217 (fun r_225 w_226 =>
  K_168 ((IntKind.wrap .i64 (i_35 + 1)), ()) w_226)
  E))))))
  (K_168 (i_35, ()) w_214)) s.1))
  (fun _ s w_227 => (fun (to_228 : Int) =>
  DRAW w_227 (fun (S_229 : World → World → Prop) (w_230 : World) =>
  HELD Try.prog S_229 (sV (Instr.loadAt 52 (.pointer (some ⟨r_1, 1, none⟩)))) w_230 (fun r_231 =>
  ∃ (v_232 : Option Addr) (v_232l v_232c : Nat), r_231 = (.slice v_232 v_232l v_232c) ∧
  HELD Try.prog S_229 (sV (Instr.loadAt 56 (.pointer (some ⟨x_92, 0, none⟩)))) w_230 (fun r_233 =>
  ∃ (v_234 : Int) (v_235 : Int), r_233 = (.agg #[(.int .i64 v_234), (.int .i64 v_235)]) ∧
  OPW Try.prog (sV (Instr.buildSlice 52 1 #[(0, (.agg #[(.int .i64 v_234), (.int .i64 v_235)]))])) w_230 (fun r_236 w_237 =>
  ∃ (v_238 : Option Addr) (v_238l v_238c : Nat), r_236 = (.slice v_238 v_238l v_238c) ∧
  S_229 w_230 w_237 ∧ (FN Try.prog 51 #[(.slice v_232 v_232l v_232c), (.int .i64 from_167), (.int .i64 to_228), (.slice v_238 v_238l v_238c)] w_237 (fun r_239 w_240 =>
  ∃ (v_241 : Option Addr) (v_241l v_241c : Nat), r_239 = (.slice v_241 v_241l v_241c) ∧
  OPW Try.prog (sU (Instr.storeAt 52 (.pointer (some ⟨r_1, 1, none⟩)) (.slice v_241 v_241l v_241c))) w_240 (fun r_242 w_243 =>
  K (.bool true) w_243)
  E)
  E))
  E)))) s.1)) s.1))
  E)
  E)) s.1)))
  E
def plan22 : Plan := (.two .leaf (.two (.two .leaf (.two (.two .leaf .leaf) .leaf)) (.two .leaf (.join [(7, (.one (.int .i64)))] (.loop [(7, (.one (.int .i64)))] (.two (.two .leaf (.two .leaf .leaf)) .leaf)) (.join [] (.two (.draw (.take 0 (.take 1 (.take 2 (.split 3 (.take 3 (.take 4 (.take 5 (.take 6 (.take 7 (.take 8 (.take 9 (.take 10 (.take 11 (.take 12 (.take 13 (.take 14 (.take 15 (.take 16 (.take 17 (.take 18 (.take 19 (.take 20 (.take 21 (.take 22 (.take 23 (.take 24 (.take 25 (.split 26 (.take 26 (.take 27 (.take 28 (.take 29 (.take 30 (.take 31 (.take 32 (.take 33 (.take 34 (.take 35 (.take 36 (.take 37 (.take 38 (.take 39 (.take 40 (.take 41 (.take 42 (.take 43 (.take 44 (.take 45 (.take 46 (.take 47 .fin)))))))))))))))))))))) (.take 26 (.take 27 (.take 28 (.take 29 (.take 30 (.take 31 (.take 32 (.take 33 (.split 34 (.take 34 (.take 35 (.take 36 (.take 37 (.take 38 (.take 39 (.take 40 (.take 41 (.take 42 (.take 43 (.take 44 (.take 45 (.take 46 (.take 47 .fin)))))))))))))) (.take 34 (.take 35 (.take 36 (.take 37 (.take 38 (.take 39 (.take 40 (.take 41 (.take 42 (.take 43 (.take 44 (.take 45 (.take 46 (.take 47 .fin))))))))))))))))))))))))))))))))))))))))))))))) (.take 3 (.take 4 (.take 5 (.take 6 (.take 7 (.take 8 (.take 9 (.take 10 (.take 11 (.take 12 (.take 13 (.take 14 (.take 15 (.take 16 (.take 17 (.take 18 (.take 19 (.take 20 (.take 21 (.take 22 (.take 23 (.take 24 (.take 25 (.take 26 (.take 27 (.take 28 (.take 29 (.take 30 (.take 31 (.take 32 (.take 33 (.split 34 (.take 34 (.take 35 (.take 36 (.take 37 (.take 38 (.take 39 (.take 40 (.take 41 (.take 42 (.take 43 (.take 44 (.take 45 (.take 46 (.take 47 .fin)))))))))))))) (.take 34 (.take 35 (.take 36 (.take 37 (.take 38 (.take 39 (.take 40 (.take 41 (.take 42 (.take 43 (.take 44 (.take 45 (.take 46 (.take 47 .fin))))))))))))))))))))))))))))))))))))))))))))))))))) (.two (.two .leaf .leaf) .leaf)) (.two .leaf (.two .leaf (.join [(9, (.one (.int .i64)))] (.join [(114, (.one .bool))] (.draw (.take 0 (.take 1 (.take 2 (.split 3 (.take 3 (.take 4 (.take 5 (.take 6 (.take 7 (.take 8 (.take 9 (.take 10 (.take 11 (.take 12 (.take 13 (.take 14 (.take 15 (.take 16 (.take 17 (.take 18 (.take 19 (.take 20 (.take 21 (.take 22 (.take 23 (.take 24 .fin)))))))))))))))))))))) (.take 3 (.take 4 (.take 5 (.take 6 (.take 7 (.take 8 (.take 9 (.take 10 (.take 11 (.take 12 (.take 13 (.take 14 (.take 15 (.take 16 (.take 17 (.take 18 (.take 19 (.take 20 (.take 21 (.take 22 (.take 23 (.take 24 .fin))))))))))))))))))))))))))) (.two (.two .leaf (.draw (.take 0 (.take 1 (.take 2 (.take 3 (.take 4 (.take 5 (.take 6 (.take 7 (.take 8 (.take 9 (.take 10 (.take 11 (.take 12 (.take 13 (.take 14 (.take 15 (.take 16 (.take 17 (.take 18 (.cases [19] fun _ => .fin)))))))))))))))))))))) .leaf)) (.join [(10, (.one (.int .i64)))] (.join [(156, (.one .bool))] .leaf (.two (.two (.draw (.take 0 (.take 1 (.take 2 (.take 3 (.take 4 (.take 5 (.take 6 (.take 7 (.take 8 (.take 9 (.take 10 (.take 11 (.cases [12] fun _ => .fin)))))))))))))) .leaf) .leaf)) (.two (.draw (.take 0 (.take 1 (.take 2 (.take 3 (.take 4 (.take 5 (.take 6 (.take 7 (.cases [8] fun _ => (.cases [9] fun _ => (.take 10 (.take 11 (.cases [12] fun _ => .fin)))))))))))))) (.two .leaf .leaf)))))))))))
noncomputable def code22 : Code := match Try.f22.body with | some c => c | none => .skip
theorem eq22 (r_1 : Nat) (at_2 : Int) (n_3 : Int) (K : Value → World → Prop) (E : List PanicEntry → World → Prop) (w : World) : R22 r_1 at_2 n_3 K E w = ewp ctx code22 plan22 (retQ ctx.P Try.f22 K E) (argEnv [(.pointer (some ⟨r_1, 0, none⟩)), (.int .i64 at_2), (.int .i64 n_3)]) [] w := by kernel_rfl
theorem okc22 : okC Try.f22.ntmps (bif hasDefer code22 then [] else writes code22) code22 plan22 = true := by kernel_rfl
theorem R22_ok {r_1 : Nat} {at_2 : Int} {n_3 : Int} {K : Value → World → Prop} {E : List PanicEntry → World → Prop} {w : World} (h : R22 r_1 at_2 n_3 K E w) : FN Try.prog 22 #[(.pointer (some ⟨r_1, 0, none⟩)), (.int .i64 at_2), (.int .i64 n_3)] w K E :=
  FN_of_ewp (C := ctx) ctx_ok ctx_mixed Try.func22 (c := code22) (by kernel_rfl) (args := [(.pointer (some ⟨r_1, 0, none⟩)), (.int .i64 at_2), (.int .i64 n_3)]) (Nat.le_of_ble_eq_true (by kernel_rfl)) okc22 (eq22 r_1 at_2 n_3 K E w ▸ h)

/-- (*concertina/runs.Runs).List -/
def R23 (r_1 : Nat) (K : Value → World → Prop) (E : List PanicEntry → World → Prop) (w : World) : Prop :=
  OPW Try.prog (sB .eql 50 (.pointer (some ⟨r_1, 0, none⟩)) (.pointer none) (eqGuard .eql 50 (.tmp 3) (.const (.pointer none)) (.pointer (some ⟨r_1, 0, none⟩)) (.pointer none))) w (fun r_2 w_3 =>
  ∃ (v_4 : Bool), r_2 = (.bool v_4) ∧
  BIF v_4
  (K (.slice none 0 0) w_3)
  (OPW Try.prog (sV (Instr.loadAt 52 (.pointer (some ⟨r_1, 1, none⟩)))) w_3 (fun r_5 w_6 =>
  ∃ (v_7 : Option Addr) (v_7l v_7c : Nat), r_5 = (.slice v_7 v_7l v_7c) ∧
  FN Try.prog 49 #[(.slice v_7 v_7l v_7c)] w_6 (fun r_8 w_9 =>
  ∃ (v_10 : Option Addr) (v_10l v_10c : Nat), r_8 = (.slice v_10 v_10l v_10c) ∧
  K (.slice v_10 v_10l v_10c) w_9)
  E)
  E))
  E
def plan23 : Plan := (.two .leaf (.two (.two .leaf (.two (.two .leaf .leaf) .leaf)) (.two .leaf .leaf)))
noncomputable def code23 : Code := match Try.f23.body with | some c => c | none => .skip
theorem eq23 (r_1 : Nat) (K : Value → World → Prop) (E : List PanicEntry → World → Prop) (w : World) : R23 r_1 K E w = ewp ctx code23 plan23 (retQ ctx.P Try.f23 K E) (argEnv [(.pointer (some ⟨r_1, 0, none⟩))]) [] w := by kernel_rfl
theorem okc23 : okC Try.f23.ntmps (bif hasDefer code23 then [] else writes code23) code23 plan23 = true := by kernel_rfl
theorem R23_ok {r_1 : Nat} {K : Value → World → Prop} {E : List PanicEntry → World → Prop} {w : World} (h : R23 r_1 K E w) : FN Try.prog 23 #[(.pointer (some ⟨r_1, 0, none⟩))] w K E :=
  FN_of_ewp (C := ctx) ctx_ok ctx_mixed Try.func23 (c := code23) (by kernel_rfl) (args := [(.pointer (some ⟨r_1, 0, none⟩))]) (Nat.le_of_ble_eq_true (by kernel_rfl)) okc23 (eq23 r_1 K E w ▸ h)

/-- concertina/concertinaref11.NewRuns -/
def R24 (blocks_1 : Int) (K : Value → World → Prop) (E : List PanicEntry → World → Prop) (w : World) : Prop :=
  JOIN (S := (Int × Unit)) (fun K_2 =>
  BIF (decide (blocks_1 < 0))
  (K_2 (0, ()) w)
  (BIF (decide (blocks_1 > 8192))
  (K_2 (0, ()) w)
  (K_2 (blocks_1, ()) w)))
  (fun _ s w_3 => (fun (blocks_4 : Int) =>
  OPW Try.prog (sV (Instr.makeSlice 32 (.int .i64 blocks_4) (.int .i64 blocks_4))) w_3 (fun r_5 w_6 =>
  ∃ (v_7 : Option Addr) (v_7l v_7c : Nat), r_5 = (.slice v_7 v_7l v_7c) ∧
  OPW Try.prog (sV (Instr.box 98 (.agg #[(.slice v_7 v_7l v_7c)]))) w_6 (fun r_8 w_9 =>
  ∃ (v_10 : Nat), r_8 = (.pointer (some ⟨v_10, 0, none⟩)) ∧
  LOOP (S := (Int × Unit)) (fun _ X_11 s w_12 => (fun (i_13 : Int) =>
  BIF (decide (i_13 < blocks_4))
  (OPW Try.prog (sV (Instr.loadAt 32 (.pointer (some ⟨v_10, 0, none⟩)))) w_12 (fun r_14 w_15 =>
  ∃ (v_16 : Option Addr) (v_16l v_16c : Nat), r_14 = (.slice v_16 v_16l v_16c) ∧
  IDX 1 v_16 v_16l i_13 (fun (a_17 : Addr) =>
  OPW Try.prog (sU (Instr.storeAt 4 (.pointer (some a_17)) (.bool true))) w_15 (fun r_18 w_19 =>
  X_11 ((IntKind.wrap .i64 (i_13 + 1)), ()) w_19)
  E))
  E)
  (K (.pointer (some ⟨v_10, 0, none⟩)) w_12)) s.1)
  (0, ()) w_9)
  E)
  E) s.1)
def plan24 : Plan := (.two .leaf (.join [(0, (.one (.int .i64)))] (.two .leaf (.two .leaf .leaf)) (.two .leaf (.two (.two .leaf (.loop [(4, (.one (.int .i64)))] (.two (.two .leaf (.two .leaf .leaf)) (.two .leaf .leaf)))) (.two .leaf .leaf)))))
noncomputable def code24 : Code := match Try.f24.body with | some c => c | none => .skip
theorem eq24 (blocks_1 : Int) (K : Value → World → Prop) (E : List PanicEntry → World → Prop) (w : World) : R24 blocks_1 K E w = ewp ctx code24 plan24 (retQ ctx.P Try.f24 K E) (argEnv [(.int .i64 blocks_1)]) [] w := by kernel_rfl
theorem okc24 : okC Try.f24.ntmps (bif hasDefer code24 then [] else writes code24) code24 plan24 = true := by kernel_rfl
theorem R24_ok {blocks_1 : Int} {K : Value → World → Prop} {E : List PanicEntry → World → Prop} {w : World} (h : R24 blocks_1 K E w) : FN Try.prog 24 #[(.int .i64 blocks_1)] w K E :=
  FN_of_ewp (C := ctx) ctx_ok ctx_mixed Try.func24 (c := code24) (by kernel_rfl) (args := [(.int .i64 blocks_1)]) (Nat.le_of_ble_eq_true (by kernel_rfl)) okc24 (eq24 blocks_1 K E w ▸ h)

/-- (*concertina/concertinaref11.Runs).Take -/
def R25 (r_1 : Nat) (n_2 : Int) (K : Value → World → Prop) (E : List PanicEntry → World → Prop) (w : World) : Prop :=
  FN Try.prog 52 #[(.pointer (some ⟨r_1, 0, none⟩))] w (fun r_3 w_4 =>
  ∃ (v_5 : Option Addr) (v_5l v_5c : Nat), r_3 = (.slice v_5 v_5l v_5c) ∧
  LOOP (S := (Int × Unit)) (fun _ X_6 s w_7 => (fun (i_8 : Int) =>
  JOIN (S := Unit) (fun K_9 =>
  BIF (decide (i_8 < (v_5l : Int)))
  (BIF (decide (n_2 > 0))
  (K_9 (()) w_7)
  (K (.tuple #[(.int .i64 0), (.bool false)]) w_7))
  (K (.tuple #[(.int .i64 0), (.bool false)]) w_7))
  (fun _ s w_10 => 
  IDX 2 v_5 v_5l i_8 (fun (a_11 : Addr) =>
  OPW Try.prog (sV (Instr.loadAt 3 (.pointer (some (Addr.add a_11 1))))) w_10 (fun r_12 w_13 =>
  ∃ (v_14 : Int), r_12 = (.int .i64 v_14) ∧
  BIF (decide (v_14 ≥ n_2))
  (LOOP (S := (Int × Unit)) (fun _ X_15 s w_16 => (fun (k_17 : Int) =>
  BIF (decide (k_17 < n_2))
  (DRAW w_16 (fun (S_18 : World → World → Prop) (w_19 : World) =>
  HELD Try.prog S_18 (sV (Instr.loadAt 32 (.pointer (some ⟨r_1, 0, none⟩)))) w_19 (fun r_20 =>
  ∃ (v_21 : Option Addr) (v_21l v_21c : Nat), r_20 = (.slice v_21 v_21l v_21c) ∧
  IDX 2 v_5 v_5l i_8 (fun (a_22 : Addr) =>
  HELD Try.prog S_18 (sV (Instr.loadAt 3 (.pointer (some a_22)))) w_19 (fun r_23 =>
  ∃ (v_24 : Int), r_23 = (.int .i64 v_24) ∧
  IDX 1 v_21 v_21l (IntKind.wrap .i64 (v_24 + k_17)) (fun (a_25 : Addr) =>
  OPW Try.prog (sU (Instr.storeAt 4 (.pointer (some a_25)) (.bool false))) w_19 (fun r_26 w_27 =>
  X_15 ((IntKind.wrap .i64 (k_17 + 1)), ()) w_27)
  E))))))
  (IDX 2 v_5 v_5l i_8 (fun (a_28 : Addr) =>
  OPW Try.prog (sV (Instr.loadAt 3 (.pointer (some a_28)))) w_16 (fun r_29 w_30 =>
  ∃ (v_31 : Int), r_29 = (.int .i64 v_31) ∧
  K (.tuple #[(.int .i64 v_31), (.bool true)]) w_30)
  E))) s.1)
  (0, ()) w_13)
  (X_6 ((IntKind.wrap .i64 (i_8 + 1)), ()) w_13))
  E))) s.1)
  (0, ()) w_4)
  E
def plan25 : Plan := (.two .leaf (.two .leaf (.two (.two .leaf (.loop [(7, (.one (.int .i64)))] (.join [] (.two .leaf (.two .leaf .leaf)) (.two (.two .leaf (.two (.two (.two .leaf (.loop [(8, (.one (.int .i64)))] (.two (.two .leaf (.two .leaf .leaf)) (.two (.draw (.take 0 (.take 1 (.take 2 (.take 3 (.take 4 (.take 5 (.take 6 (.take 7 (.take 8 (.take 9 (.take 10 (.take 11 (.cases [12] fun _ => .fin)))))))))))))) .leaf)))) (.two .leaf .leaf)) .leaf)) .leaf)))) (.two .leaf .leaf))))
noncomputable def code25 : Code := match Try.f25.body with | some c => c | none => .skip
theorem eq25 (r_1 : Nat) (n_2 : Int) (K : Value → World → Prop) (E : List PanicEntry → World → Prop) (w : World) : R25 r_1 n_2 K E w = ewp ctx code25 plan25 (retQ ctx.P Try.f25 K E) (argEnv [(.pointer (some ⟨r_1, 0, none⟩)), (.int .i64 n_2)]) [] w := by kernel_rfl
theorem okc25 : okC Try.f25.ntmps (bif hasDefer code25 then [] else writes code25) code25 plan25 = true := by kernel_rfl
theorem R25_ok {r_1 : Nat} {n_2 : Int} {K : Value → World → Prop} {E : List PanicEntry → World → Prop} {w : World} (h : R25 r_1 n_2 K E w) : FN Try.prog 25 #[(.pointer (some ⟨r_1, 0, none⟩)), (.int .i64 n_2)] w K E :=
  FN_of_ewp (C := ctx) ctx_ok ctx_mixed Try.func25 (c := code25) (by kernel_rfl) (args := [(.pointer (some ⟨r_1, 0, none⟩)), (.int .i64 n_2)]) (Nat.le_of_ble_eq_true (by kernel_rfl)) okc25 (eq25 r_1 n_2 K E w ▸ h)

/-- (*concertina/runs.Runs).Mark -/
def R26 (r_1 : Nat) (at_2 : Int) (n_3 : Int) (K : Value → World → Prop) (E : List PanicEntry → World → Prop) (w : World) : Prop :=
  FN Try.prog 50 #[(.pointer (some ⟨r_1, 0, none⟩)), (.int .i64 at_2), (.int .i64 n_3)] w (fun r_4 w_5 =>
  ∃ (v_6 : Bool), r_4 = (.bool v_6) ∧
  BIF (!v_6)
  (K (.bool false) w_5)
  (OPW Try.prog (sV (Instr.loadAt 52 (.pointer (some ⟨r_1, 1, none⟩)))) w_5 (fun r_7 w_8 =>
  ∃ (v_9 : Option Addr) (v_9l v_9c : Nat), r_7 = (.slice v_9 v_9l v_9c) ∧
  LOOP (S := (Int × Unit)) (fun _ X_10 s w_11 => (fun (v_12 : Int) =>
  BIF (decide (v_12 < (v_9l : Int)))
  (IDX 2 v_9 v_9l v_12 (fun (a_13 : Addr) =>
  OPW Try.prog (sV (Instr.loadAt 56 (.pointer (some a_13)))) w_11 (fun r_14 w_15 =>
  ∃ (v_16 : Int) (v_17 : Int), r_14 = (.agg #[(.int .i64 v_16), (.int .i64 v_17)]) ∧
  OPW Try.prog (sV (Instr.alloc 56 true (.tuple #[]))) w_15 (fun r_18 w_19 =>
  ∃ (x_20 : Nat), r_18 = (.pointer (some ⟨x_20, 0, none⟩)) ∧
  OPW Try.prog (sU (Instr.storeAt 56 (.pointer (some ⟨x_20, 0, none⟩)) (.agg #[(.int .i64 v_16), (.int .i64 v_17)]))) w_19 (fun r_21 w_22 =>
  JOIN (S := (Bool × Unit)) (fun K_23 =>
  OPW Try.prog (sV (Instr.loadAt 3 (.pointer (some ⟨x_20, 0, none⟩)))) w_22 (fun r_33 w_34 =>
  ∃ (v_35 : Int), r_33 = (.int .i64 v_35) ∧
  BIF (decide (v_35 ≤ at_2))
  (OPW Try.prog (sV (Instr.loadAt 3 (.pointer (some ⟨x_20, 0, none⟩)))) w_34 (fun r_36 w_37 =>
  ∃ (v_38 : Int), r_36 = (.int .i64 v_38) ∧
  OPW Try.prog (sV (Instr.loadAt 3 (.pointer (some ⟨x_20, 1, none⟩)))) w_37 (fun r_39 w_40 =>
  ∃ (v_41 : Int), r_39 = (.int .i64 v_41) ∧
  K_23 (decide ((IntKind.wrap .i64 (at_2 + n_3)) ≤ (IntKind.wrap .i64 (v_38 + v_41))), ()) w_40)
  E)
  E)
  (K_23 (false, ()) w_34))
  E)
  (fun _ s w_42 => (fun (v_43 : Bool) =>
  BIF v_43
  (OPW Try.prog (sV (Instr.loadAt 3 (.pointer (some ⟨x_20, 0, none⟩)))) w_42 (fun r_44 w_45 =>
  ∃ (v_46 : Int), r_44 = (.int .i64 v_46) ∧
  OPW Try.prog (sV (Instr.loadAt 3 (.pointer (some ⟨x_20, 0, none⟩)))) w_45 (fun r_47 w_48 =>
  ∃ (v_49 : Int), r_47 = (.int .i64 v_49) ∧
  OPW Try.prog (sV (Instr.loadAt 3 (.pointer (some ⟨x_20, 0, none⟩)))) w_48 (fun r_50 w_51 =>
  ∃ (v_52 : Int), r_50 = (.int .i64 v_52) ∧
  OPW Try.prog (sV (Instr.loadAt 3 (.pointer (some ⟨x_20, 1, none⟩)))) w_51 (fun r_53 w_54 =>
  ∃ (v_55 : Int), r_53 = (.int .i64 v_55) ∧
  OPW Try.prog (sV (Instr.buildSlice 52 2 #[(0, (.agg #[(.int .i64 v_46), (.int .i64 (IntKind.wrap .i64 (at_2 - v_49)))])), (1, (.agg #[(.int .i64 (IntKind.wrap .i64 (at_2 + n_3))), (.int .i64 (IntKind.wrap .i64 ((IntKind.wrap .i64 ((IntKind.wrap .i64 (v_52 + v_55)) - at_2)) - n_3)))]))])) w_54 (fun r_56 w_57 =>
  ∃ (v_58 : Option Addr) (v_58l v_58c : Nat), r_56 = (.slice v_58 v_58l v_58c) ∧
  FN Try.prog 48 #[(.pointer (some ⟨r_1, 0, none⟩)), (.int .i64 v_12), (.slice v_58 v_58l v_58c)] w_57 (fun r_59 w_60 =>
  K (.bool true) w_60)
  E)
  E)
  E)
  E)
  E)
  E)
  (X_10 ((IntKind.wrap .i64 (v_12 + 1)), ()) w_42)) s.1))
  E)
  E)
  E))
  (K (.bool false) w_11)) s.1)
  (0, ()) w_8)
  E))
  E
def plan26 : Plan := (.two .leaf (.two (.two .leaf (.two (.two .leaf .leaf) .leaf)) (.two (.two .leaf (.loop [(19, (.one (.int .i64)))] (.two .leaf (.two (.two .leaf .leaf) (.two (.two .leaf (.join [(38, (.one .bool))] .leaf (.two (.two .leaf (.two .leaf .leaf)) .leaf))) .leaf))))) (.two .leaf .leaf))))
noncomputable def code26 : Code := match Try.f26.body with | some c => c | none => .skip
theorem eq26 (r_1 : Nat) (at_2 : Int) (n_3 : Int) (K : Value → World → Prop) (E : List PanicEntry → World → Prop) (w : World) : R26 r_1 at_2 n_3 K E w = ewp ctx code26 plan26 (retQ ctx.P Try.f26 K E) (argEnv [(.pointer (some ⟨r_1, 0, none⟩)), (.int .i64 at_2), (.int .i64 n_3)]) [] w := by kernel_rfl
theorem okc26 : okC Try.f26.ntmps (bif hasDefer code26 then [] else writes code26) code26 plan26 = true := by kernel_rfl
theorem R26_ok {r_1 : Nat} {at_2 : Int} {n_3 : Int} {K : Value → World → Prop} {E : List PanicEntry → World → Prop} {w : World} (h : R26 r_1 at_2 n_3 K E w) : FN Try.prog 26 #[(.pointer (some ⟨r_1, 0, none⟩)), (.int .i64 at_2), (.int .i64 n_3)] w K E :=
  FN_of_ewp (C := ctx) ctx_ok ctx_mixed Try.func26 (c := code26) (by kernel_rfl) (args := [(.pointer (some ⟨r_1, 0, none⟩)), (.int .i64 at_2), (.int .i64 n_3)]) (Nat.le_of_ble_eq_true (by kernel_rfl)) okc26 (eq26 r_1 at_2 n_3 K E w ▸ h)

/-- (*concertina/concertinaref11.Runs).Mark -/
def R27 (r_1 : Nat) (at_2 : Int) (n_3 : Int) (K : Value → World → Prop) (E : List PanicEntry → World → Prop) (w : World) : Prop :=
  FN Try.prog 53 #[(.pointer (some ⟨r_1, 0, none⟩)), (.int .i64 at_2), (.int .i64 n_3), (.bool true)] w (fun r_4 w_5 =>
  ∃ (v_6 : Bool), r_4 = (.bool v_6) ∧
  BIF (!v_6)
  (K (.bool false) w_5)
  (LOOP (S := (Int × Unit)) (fun _ X_7 s w_8 => (fun (k_9 : Int) =>
  BIF (decide (k_9 < n_3))
  (OPW Try.prog (sV (Instr.loadAt 32 (.pointer (some ⟨r_1, 0, none⟩)))) w_8 (fun r_10 w_11 =>
  ∃ (v_12 : Option Addr) (v_12l v_12c : Nat), r_10 = (.slice v_12 v_12l v_12c) ∧
  IDX 1 v_12 v_12l (IntKind.wrap .i64 (at_2 + k_9)) (fun (a_13 : Addr) =>
  OPW Try.prog (sU (Instr.storeAt 4 (.pointer (some a_13)) (.bool false))) w_11 (fun r_14 w_15 =>
  X_7 ((IntKind.wrap .i64 (k_9 + 1)), ()) w_15)
  E))
  E)
  (K (.bool true) w_8)) s.1)
  (0, ()) w_5))
  E
def plan27 : Plan := (.two .leaf (.two (.two .leaf (.two (.two .leaf .leaf) .leaf)) (.two (.two .leaf (.loop [(7, (.one (.int .i64)))] (.two (.two .leaf (.two .leaf .leaf)) (.two .leaf .leaf)))) (.two .leaf .leaf))))
noncomputable def code27 : Code := match Try.f27.body with | some c => c | none => .skip
theorem eq27 (r_1 : Nat) (at_2 : Int) (n_3 : Int) (K : Value → World → Prop) (E : List PanicEntry → World → Prop) (w : World) : R27 r_1 at_2 n_3 K E w = ewp ctx code27 plan27 (retQ ctx.P Try.f27 K E) (argEnv [(.pointer (some ⟨r_1, 0, none⟩)), (.int .i64 at_2), (.int .i64 n_3)]) [] w := by kernel_rfl
theorem okc27 : okC Try.f27.ntmps (bif hasDefer code27 then [] else writes code27) code27 plan27 = true := by kernel_rfl
theorem R27_ok {r_1 : Nat} {at_2 : Int} {n_3 : Int} {K : Value → World → Prop} {E : List PanicEntry → World → Prop} {w : World} (h : R27 r_1 at_2 n_3 K E w) : FN Try.prog 27 #[(.pointer (some ⟨r_1, 0, none⟩)), (.int .i64 at_2), (.int .i64 n_3)] w K E :=
  FN_of_ewp (C := ctx) ctx_ok ctx_mixed Try.func27 (c := code27) (by kernel_rfl) (args := [(.pointer (some ⟨r_1, 0, none⟩)), (.int .i64 at_2), (.int .i64 n_3)]) (Nat.le_of_ble_eq_true (by kernel_rfl)) okc27 (eq27 r_1 at_2 n_3 K E w ▸ h)

/-- (*concertina/concertinaref11.Runs).Give -/
def R28 (r_1 : Nat) (at_2 : Int) (n_3 : Int) (K : Value → World → Prop) (E : List PanicEntry → World → Prop) (w : World) : Prop :=
  FN Try.prog 53 #[(.pointer (some ⟨r_1, 0, none⟩)), (.int .i64 at_2), (.int .i64 n_3), (.bool false)] w (fun r_4 w_5 =>
  ∃ (v_6 : Bool), r_4 = (.bool v_6) ∧
  BIF (!v_6)
  (K (.bool false) w_5)
  (LOOP (S := (Int × Unit)) (fun _ X_7 s w_8 => (fun (k_9 : Int) =>
  BIF (decide (k_9 < n_3))
  (OPW Try.prog (sV (Instr.loadAt 32 (.pointer (some ⟨r_1, 0, none⟩)))) w_8 (fun r_10 w_11 =>
  ∃ (v_12 : Option Addr) (v_12l v_12c : Nat), r_10 = (.slice v_12 v_12l v_12c) ∧
  IDX 1 v_12 v_12l (IntKind.wrap .i64 (at_2 + k_9)) (fun (a_13 : Addr) =>
  OPW Try.prog (sU (Instr.storeAt 4 (.pointer (some a_13)) (.bool true))) w_11 (fun r_14 w_15 =>
  X_7 ((IntKind.wrap .i64 (k_9 + 1)), ()) w_15)
  E))
  E)
  (K (.bool true) w_8)) s.1)
  (0, ()) w_5))
  E
def plan28 : Plan := (.two .leaf (.two (.two .leaf (.two (.two .leaf .leaf) .leaf)) (.two (.two .leaf (.loop [(7, (.one (.int .i64)))] (.two (.two .leaf (.two .leaf .leaf)) (.two .leaf .leaf)))) (.two .leaf .leaf))))
noncomputable def code28 : Code := match Try.f28.body with | some c => c | none => .skip
theorem eq28 (r_1 : Nat) (at_2 : Int) (n_3 : Int) (K : Value → World → Prop) (E : List PanicEntry → World → Prop) (w : World) : R28 r_1 at_2 n_3 K E w = ewp ctx code28 plan28 (retQ ctx.P Try.f28 K E) (argEnv [(.pointer (some ⟨r_1, 0, none⟩)), (.int .i64 at_2), (.int .i64 n_3)]) [] w := by kernel_rfl
theorem okc28 : okC Try.f28.ntmps (bif hasDefer code28 then [] else writes code28) code28 plan28 = true := by kernel_rfl
theorem R28_ok {r_1 : Nat} {at_2 : Int} {n_3 : Int} {K : Value → World → Prop} {E : List PanicEntry → World → Prop} {w : World} (h : R28 r_1 at_2 n_3 K E w) : FN Try.prog 28 #[(.pointer (some ⟨r_1, 0, none⟩)), (.int .i64 at_2), (.int .i64 n_3)] w K E :=
  FN_of_ewp (C := ctx) ctx_ok ctx_mixed Try.func28 (c := code28) (by kernel_rfl) (args := [(.pointer (some ⟨r_1, 0, none⟩)), (.int .i64 at_2), (.int .i64 n_3)]) (Nat.le_of_ble_eq_true (by kernel_rfl)) okc28 (eq28 r_1 at_2 n_3 K E w ▸ h)

/-- concertina/concertinalaw11.Same -/
def R29 (r_1 : Nat) (m_2 : Nat) (K : Value → World → Prop) (E : List PanicEntry → World → Prop) (w : World) : Prop :=
  FN Try.prog 23 #[(.pointer (some ⟨r_1, 0, none⟩))] w (fun r_3 w_4 =>
  ∃ (v_5 : Option Addr) (v_5l v_5c : Nat), r_3 = (.slice v_5 v_5l v_5c) ∧
  FN Try.prog 52 #[(.pointer (some ⟨m_2, 0, none⟩))] w_4 (fun r_6 w_7 =>
  ∃ (v_8 : Option Addr) (v_8l v_8c : Nat), r_6 = (.slice v_8 v_8l v_8c) ∧
  JOIN (S := Unit) (fun K_9 =>
  BIF ((v_5l : Int) != (v_8l : Int))
  (K (.bool false) w_7)
  (FN Try.prog 21 #[(.pointer (some ⟨r_1, 0, none⟩))] w_7 (fun r_22 w_23 =>
  ∃ (v_24 : Int), r_22 = (.int .i64 v_24) ∧
  FN Try.prog 54 #[(.pointer (some ⟨m_2, 0, none⟩))] w_23 (fun r_25 w_26 =>
  ∃ (v_27 : Int), r_25 = (.int .i64 v_27) ∧
  BIF (v_24 != v_27)
  (K (.bool false) w_26)
  (FN Try.prog 30 #[(.pointer (some ⟨r_1, 0, none⟩))] w_26 (fun r_28 w_29 =>
  ∃ (v_30 : Int), r_28 = (.int .i64 v_30) ∧
  FN Try.prog 55 #[(.pointer (some ⟨m_2, 0, none⟩))] w_29 (fun r_31 w_32 =>
  ∃ (v_33 : Int), r_31 = (.int .i64 v_33) ∧
  BIF (v_30 != v_33)
  (K (.bool false) w_32)
  (K_9 (()) w_32))
  E)
  E))
  E)
  E))
  (fun _ s w_34 => 
  LOOP (S := (Int × Unit)) (fun _ X_35 s w_36 => (fun (i_37 : Int) =>
  BIF (decide (i_37 < (v_5l : Int)))
  (DRAW w_36 (fun (S_38 : World → World → Prop) (w_39 : World) =>
  IDX 2 v_5 v_5l i_37 (fun (a_40 : Addr) =>
  HELD Try.prog S_38 (sV (Instr.loadAt 56 (.pointer (some a_40)))) w_39 (fun r_41 =>
  ∃ (v_42 : Int) (v_43 : Int), r_41 = (.agg #[(.int .i64 v_42), (.int .i64 v_43)]) ∧
  IDX 2 v_8 v_8l i_37 (fun (a_44 : Addr) =>
  HELD Try.prog S_38 (sV (Instr.loadAt 56 (.pointer (some a_44)))) w_39 (fun r_45 =>
  ∃ (v_46 : Int) (v_47 : Int), r_45 = (.agg #[(.int .i64 v_46), (.int .i64 v_47)]) ∧
  HELD Try.prog S_38 (sB .neq 56 (.agg #[(.int .i64 v_42), (.int .i64 v_43)]) (.agg #[(.int .i64 v_46), (.int .i64 v_47)]) (eqGuard .neq 56 (.tmp 40) (.tmp 44) (.agg #[(.int .i64 v_42), (.int .i64 v_43)]) (.agg #[(.int .i64 v_46), (.int .i64 v_47)]))) w_39 (fun r_48 =>
  ∃ (v_49 : Bool), r_48 = (.bool v_49) ∧
  BIF v_49
  (K (.bool false) w_39)
  (X_35 ((IntKind.wrap .i64 (i_37 + 1)), ()) w_39))))))))
  (K (.bool true) w_36)) s.1)
  (0, ()) w_34))
  E)
  E
def plan29 : Plan := (.two .leaf (.two .leaf (.join [] (.two .leaf (.two (.two .leaf .leaf) .leaf)) (.two (.two .leaf (.loop [(7, (.one (.int .i64)))] (.two (.two .leaf (.two .leaf .leaf)) (.two (.two (.draw (.take 0 (.take 1 (.take 2 (.take 3 (.take 4 (.take 5 (.take 6 (.take 7 (.take 8 .fin)))))))))) (.two (.two .leaf .leaf) .leaf)) .leaf)))) (.two .leaf .leaf)))))
noncomputable def code29 : Code := match Try.f29.body with | some c => c | none => .skip
theorem eq29 (r_1 : Nat) (m_2 : Nat) (K : Value → World → Prop) (E : List PanicEntry → World → Prop) (w : World) : R29 r_1 m_2 K E w = ewp ctx code29 plan29 (retQ ctx.P Try.f29 K E) (argEnv [(.pointer (some ⟨r_1, 0, none⟩)), (.pointer (some ⟨m_2, 0, none⟩))]) [] w := by kernel_rfl
theorem okc29 : okC Try.f29.ntmps (bif hasDefer code29 then [] else writes code29) code29 plan29 = true := by kernel_rfl
theorem R29_ok {r_1 : Nat} {m_2 : Nat} {K : Value → World → Prop} {E : List PanicEntry → World → Prop} {w : World} (h : R29 r_1 m_2 K E w) : FN Try.prog 29 #[(.pointer (some ⟨r_1, 0, none⟩)), (.pointer (some ⟨m_2, 0, none⟩))] w K E :=
  FN_of_ewp (C := ctx) ctx_ok ctx_mixed Try.func29 (c := code29) (by kernel_rfl) (args := [(.pointer (some ⟨r_1, 0, none⟩)), (.pointer (some ⟨m_2, 0, none⟩))]) (Nat.le_of_ble_eq_true (by kernel_rfl)) okc29 (eq29 r_1 m_2 K E w ▸ h)

/-- (*concertina/runs.Runs).Greatest -/
def R30 (r_1 : Nat) (K : Value → World → Prop) (E : List PanicEntry → World → Prop) (w : World) : Prop :=
  FN Try.prog 23 #[(.pointer (some ⟨r_1, 0, none⟩))] w (fun r_2 w_3 =>
  ∃ (v_4 : Option Addr) (v_4l v_4c : Nat), r_2 = (.slice v_4 v_4l v_4c) ∧
  LOOP (S := (Int × Int × Unit)) (fun _ X_5 s w_6 => (fun (n_7 : Int) (v_8 : Int) =>
  BIF (decide (v_8 < (v_4l : Int)))
  (IDX 2 v_4 v_4l v_8 (fun (a_9 : Addr) =>
  OPW Try.prog (sV (Instr.loadAt 56 (.pointer (some a_9)))) w_6 (fun r_10 w_11 =>
  ∃ (v_12 : Int) (v_13 : Int), r_10 = (.agg #[(.int .i64 v_12), (.int .i64 v_13)]) ∧
  OPW Try.prog (sV (Instr.alloc 56 true (.tuple #[]))) w_11 (fun r_14 w_15 =>
  ∃ (x_16 : Nat), r_14 = (.pointer (some ⟨x_16, 0, none⟩)) ∧
  OPW Try.prog (sU (Instr.storeAt 56 (.pointer (some ⟨x_16, 0, none⟩)) (.agg #[(.int .i64 v_12), (.int .i64 v_13)]))) w_15 (fun r_17 w_18 =>
  OPW Try.prog (sV (Instr.loadAt 3 (.pointer (some ⟨x_16, 1, none⟩)))) w_18 (fun r_19 w_20 =>
  ∃ (v_21 : Int), r_19 = (.int .i64 v_21) ∧
  X_5 ((if v_21 > n_7 then v_21 else n_7), (IntKind.wrap .i64 (v_8 + 1)), ()) w_20)
  E)
  E)
  E)
  E))
  (K (.int .i64 n_7) w_6)) s.1 s.2.1)
  (0, 0, ()) w_3)
  E
def plan30 : Plan := (.two .leaf (.two .leaf (.two (.two .leaf (.loop [(3, (.one (.int .i64))), (9, (.one (.int .i64)))] (.two .leaf (.two (.two .leaf .leaf) (.two (.two .leaf .leaf) .leaf))))) (.two .leaf .leaf))))
noncomputable def code30 : Code := match Try.f30.body with | some c => c | none => .skip
theorem eq30 (r_1 : Nat) (K : Value → World → Prop) (E : List PanicEntry → World → Prop) (w : World) : R30 r_1 K E w = ewp ctx code30 plan30 (retQ ctx.P Try.f30 K E) (argEnv [(.pointer (some ⟨r_1, 0, none⟩))]) [] w := by kernel_rfl
theorem okc30 : okC Try.f30.ntmps (bif hasDefer code30 then [] else writes code30) code30 plan30 = true := by kernel_rfl
theorem R30_ok {r_1 : Nat} {K : Value → World → Prop} {E : List PanicEntry → World → Prop} {w : World} (h : R30 r_1 K E w) : FN Try.prog 30 #[(.pointer (some ⟨r_1, 0, none⟩))] w K E :=
  FN_of_ewp (C := ctx) ctx_ok ctx_mixed Try.func30 (c := code30) (by kernel_rfl) (args := [(.pointer (some ⟨r_1, 0, none⟩))]) (Nat.le_of_ble_eq_true (by kernel_rfl)) okc30 (eq30 r_1 K E w ▸ h)

/-- (*concertina/runs.Runs).put -/
def R48 (r_1 : Nat) (i_2 : Int) (l_3 : Option Addr) (l_3l l_3c : Nat) (K : Value → World → Prop) (E : List PanicEntry → World → Prop) (w : World) : Prop :=
  FN Try.prog 66 #[(.slice l_3 l_3l l_3c), (.func (.func 67) #[] #[])] w (fun r_4 w_5 =>
  ∃ (v_6 : Option Addr) (v_6l v_6c : Nat), r_4 = (.slice v_6 v_6l v_6c) ∧
  OPW Try.prog (sV (Instr.loadAt 52 (.pointer (some ⟨r_1, 1, none⟩)))) w_5 (fun r_7 w_8 =>
  ∃ (v_9 : Option Addr) (v_9l v_9c : Nat), r_7 = (.slice v_9 v_9l v_9c) ∧
  FN Try.prog 51 #[(.slice v_9 v_9l v_9c), (.int .i64 i_2), (.int .i64 (IntKind.wrap .i64 (i_2 + 1))), (.slice v_6 v_6l v_6c)] w_8 (fun r_10 w_11 =>
  ∃ (v_12 : Option Addr) (v_12l v_12c : Nat), r_10 = (.slice v_12 v_12l v_12c) ∧
  OPW Try.prog (sU (Instr.storeAt 52 (.pointer (some ⟨r_1, 1, none⟩)) (.slice v_12 v_12l v_12c))) w_11 (fun r_13 w_14 =>
  K (.tuple #[]) w_14)
  E)
  E)
  E)
  E
def plan48 : Plan := (.two .leaf .leaf)
noncomputable def code48 : Code := match Try.f48.body with | some c => c | none => .skip
theorem eq48 (r_1 : Nat) (i_2 : Int) (l_3 : Option Addr) (l_3l l_3c : Nat) (K : Value → World → Prop) (E : List PanicEntry → World → Prop) (w : World) : R48 r_1 i_2 l_3 l_3l l_3c K E w = ewp ctx code48 plan48 (retQ ctx.P Try.f48 K E) (argEnv [(.pointer (some ⟨r_1, 0, none⟩)), (.int .i64 i_2), (.slice l_3 l_3l l_3c)]) [] w := by kernel_rfl
theorem okc48 : okC Try.f48.ntmps (bif hasDefer code48 then [] else writes code48) code48 plan48 = true := by kernel_rfl
theorem R48_ok {r_1 : Nat} {i_2 : Int} {l_3 : Option Addr} {l_3l l_3c : Nat} {K : Value → World → Prop} {E : List PanicEntry → World → Prop} {w : World} (h : R48 r_1 i_2 l_3 l_3l l_3c K E w) : FN Try.prog 48 #[(.pointer (some ⟨r_1, 0, none⟩)), (.int .i64 i_2), (.slice l_3 l_3l l_3c)] w K E :=
  FN_of_ewp (C := ctx) ctx_ok ctx_mixed Try.func48 (c := code48) (by kernel_rfl) (args := [(.pointer (some ⟨r_1, 0, none⟩)), (.int .i64 i_2), (.slice l_3 l_3l l_3c)]) (Nat.le_of_ble_eq_true (by kernel_rfl)) okc48 (eq48 r_1 i_2 l_3 l_3l l_3c K E w ▸ h)

/-- slices.Clone[[]concertina/api.Run,concertina/api.Run] -/
def R49 (s_1 : Option Addr) (s_1l s_1c : Nat) (K : Value → World → Prop) (E : List PanicEntry → World → Prop) (w : World) : Prop :=
  OPW Try.prog (sB .eql 52 (.slice s_1 s_1l s_1c) (.slice none 0 0) (eqGuard .eql 52 (.tmp 3) (.const (.slice none 0 0)) (.slice s_1 s_1l s_1c) (.slice none 0 0))) w (fun r_2 w_3 =>
  ∃ (v_4 : Bool), r_2 = (.bool v_4) ∧
  BIF v_4
  (K (.slice none 0 0) w_3)
  (OPW Try.prog (sV (Instr.buildSlice 52 0 #[])) w_3 (fun r_5 w_6 =>
  ∃ (v_7 : Option Addr) (v_7l v_7c : Nat), r_5 = (.slice v_7 v_7l v_7c) ∧
  OPW Try.prog (sBI .append #[52, 52] 52 #[false, false] #[(.slice v_7 v_7l v_7c), (.slice s_1 s_1l s_1c)]) w_6 (fun r_8 w_9 =>
  ∃ (v_10 : Option Addr) (v_10l v_10c : Nat), r_8 = (.slice v_10 v_10l v_10c) ∧
  K (.slice v_10 v_10l v_10c) w_9)
  E)
  E))
  E
def plan49 : Plan := (.two .leaf (.two (.two .leaf (.two (.two .leaf .leaf) .leaf)) (.two .leaf .leaf)))
noncomputable def code49 : Code := match Try.f49.body with | some c => c | none => .skip
theorem eq49 (s_1 : Option Addr) (s_1l s_1c : Nat) (K : Value → World → Prop) (E : List PanicEntry → World → Prop) (w : World) : R49 s_1 s_1l s_1c K E w = ewp ctx code49 plan49 (retQ ctx.P Try.f49 K E) (argEnv [(.slice s_1 s_1l s_1c)]) [] w := by kernel_rfl
theorem okc49 : okC Try.f49.ntmps (bif hasDefer code49 then [] else writes code49) code49 plan49 = true := by kernel_rfl
theorem R49_ok {s_1 : Option Addr} {s_1l s_1c : Nat} {K : Value → World → Prop} {E : List PanicEntry → World → Prop} {w : World} (h : R49 s_1 s_1l s_1c K E w) : FN Try.prog 49 #[(.slice s_1 s_1l s_1c)] w K E :=
  FN_of_ewp (C := ctx) ctx_ok ctx_mixed Try.func49 (c := code49) (by kernel_rfl) (args := [(.slice s_1 s_1l s_1c)]) (Nat.le_of_ble_eq_true (by kernel_rfl)) okc49 (eq49 s_1 s_1l s_1c K E w ▸ h)

/-- (*concertina/runs.Runs).known -/
def R50 (r_1 : Nat) (at_2 : Int) (n_3 : Int) (K : Value → World → Prop) (E : List PanicEntry → World → Prop) (w : World) : Prop :=
  OPW Try.prog (sB .neq 50 (.pointer (some ⟨r_1, 0, none⟩)) (.pointer none) (eqGuard .neq 50 (.tmp 7) (.const (.pointer none)) (.pointer (some ⟨r_1, 0, none⟩)) (.pointer none))) w (fun r_4 w_5 =>
  ∃ (v_6 : Bool), r_4 = (.bool v_6) ∧
  BIF v_6
  (BIF (decide (at_2 ≥ 0))
  (BIF (decide (n_3 ≥ 1))
  (OPW Try.prog (sV (Instr.loadAt 3 (.pointer (some ⟨r_1, 0, none⟩)))) w_5 (fun r_7 w_8 =>
  ∃ (v_9 : Int), r_7 = (.int .i64 v_9) ∧
  BIF (decide (n_3 ≤ v_9))
  (OPW Try.prog (sV (Instr.loadAt 3 (.pointer (some ⟨r_1, 0, none⟩)))) w_8 (fun r_10 w_11 =>
  ∃ (v_12 : Int), r_10 = (.int .i64 v_12) ∧
  K (.bool (decide (at_2 ≤ (IntKind.wrap .i64 (v_12 - n_3))))) w_11)
  E)
  (K (.bool false) w_8))
  E)
  (K (.bool false) w_5))
  (K (.bool false) w_5))
  (K (.bool false) w_5))
  E
def plan50 : Plan := (.two .leaf (.two .leaf .leaf))
noncomputable def code50 : Code := match Try.f50.body with | some c => c | none => .skip
theorem eq50 (r_1 : Nat) (at_2 : Int) (n_3 : Int) (K : Value → World → Prop) (E : List PanicEntry → World → Prop) (w : World) : R50 r_1 at_2 n_3 K E w = ewp ctx code50 plan50 (retQ ctx.P Try.f50 K E) (argEnv [(.pointer (some ⟨r_1, 0, none⟩)), (.int .i64 at_2), (.int .i64 n_3)]) [] w := by kernel_rfl
theorem okc50 : okC Try.f50.ntmps (bif hasDefer code50 then [] else writes code50) code50 plan50 = true := by kernel_rfl
theorem R50_ok {r_1 : Nat} {at_2 : Int} {n_3 : Int} {K : Value → World → Prop} {E : List PanicEntry → World → Prop} {w : World} (h : R50 r_1 at_2 n_3 K E w) : FN Try.prog 50 #[(.pointer (some ⟨r_1, 0, none⟩)), (.int .i64 at_2), (.int .i64 n_3)] w K E :=
  FN_of_ewp (C := ctx) ctx_ok ctx_mixed Try.func50 (c := code50) (by kernel_rfl) (args := [(.pointer (some ⟨r_1, 0, none⟩)), (.int .i64 at_2), (.int .i64 n_3)]) (Nat.le_of_ble_eq_true (by kernel_rfl)) okc50 (eq50 r_1 at_2 n_3 K E w ▸ h)

/-- slices.Replace[[]concertina/api.Run,concertina/api.Run] -/
def R51 (s_1 : Option Addr) (s_1l s_1c : Nat) (i_2 : Int) (j_3 : Int) (v_4 : Option Addr) (v_4l v_4c : Nat) (K : Value → World → Prop) (E : List PanicEntry → World → Prop) (w : World) : Prop :=
  OPW Try.prog (sV (Instr.sliceAt 52 (.slice s_1 s_1l s_1c) (some (.int .i64 i_2)) (some (.int .i64 j_3)) none)) w (fun r_5 w_6 =>
  ∃ (v_7 : Option Addr) (v_7l v_7c : Nat), r_5 = (.slice v_7 v_7l v_7c) ∧
  BIF (i_2 == j_3)
  (FN Try.prog 68 #[(.slice s_1 s_1l s_1c), (.int .i64 i_2), (.slice v_4 v_4l v_4c)] w_6 (fun r_8 w_9 =>
  ∃ (v_10 : Option Addr) (v_10l v_10c : Nat), r_8 = (.slice v_10 v_10l v_10c) ∧
  K (.slice v_10 v_10l v_10c) w_9)
  E)
  (BIF (j_3 == (s_1l : Int))
  (OPW Try.prog (sV (Instr.sliceAt 52 (.slice s_1 s_1l s_1c) none (some (.int .i64 i_2)) none)) w_6 (fun r_11 w_12 =>
  ∃ (v_13 : Option Addr) (v_13l v_13c : Nat), r_11 = (.slice v_13 v_13l v_13c) ∧
  OPW Try.prog (sBI .append #[52, 52] 52 #[false, false] #[(.slice v_13 v_13l v_13c), (.slice v_4 v_4l v_4c)]) w_12 (fun r_14 w_15 =>
  ∃ (v_16 : Option Addr) (v_16l v_16c : Nat), r_14 = (.slice v_16 v_16l v_16c) ∧
  BIF (decide ((v_16l : Int) < (s_1l : Int)))
  (OPW Try.prog (sV (Instr.sliceAt 52 (.slice s_1 s_1l s_1c) (some (.int .i64 (v_16l : Int))) none none)) w_15 (fun r_17 w_18 =>
  ∃ (v_19 : Option Addr) (v_19l v_19c : Nat), r_17 = (.slice v_19 v_19l v_19c) ∧
  OPW Try.prog (sBI .clear #[52] 0 #[false] #[(.slice v_19 v_19l v_19c)]) w_18 (fun r_20 w_21 =>
  K (.slice v_16 v_16l v_16c) w_21)
  E)
  E)
  (K (.slice v_16 v_16l v_16c) w_15))
  E)
  E)
  (DRAW w_6 (fun (S_22 : World → World → Prop) (w_23 : World) =>
  HELD Try.prog S_22 (sV (Instr.sliceAt 52 (.slice s_1 s_1l s_1c) none (some (.int .i64 i_2)) none)) w_23 (fun r_24 =>
  ∃ (v_25 : Option Addr) (v_25l v_25c : Nat), r_24 = (.slice v_25 v_25l v_25c) ∧
  HELD Try.prog S_22 (sV (Instr.sliceAt 52 (.slice s_1 s_1l s_1c) (some (.int .i64 j_3)) none none)) w_23 (fun r_26 =>
  ∃ (v_27 : Option Addr) (v_27l v_27c : Nat), r_26 = (.slice v_27 v_27l v_27c) ∧
  BIF (decide ((IntKind.wrap .i64 ((IntKind.wrap .i64 ((v_25l : Int) + (v_4l : Int))) + (v_27l : Int))) > (s_1c : Int)))
  (OPW Try.prog (sV (Instr.sliceAt 52 (.slice s_1 s_1l s_1c) none (some (.int .i64 i_2)) none)) w_23 (fun r_28 w_29 =>
  ∃ (v_30 : Option Addr) (v_30l v_30c : Nat), r_28 = (.slice v_30 v_30l v_30c) ∧
  OPW Try.prog (sBI .append #[52, 3] 52 #[false, false] #[(.slice v_30 v_30l v_30c), (.int .i64 (IntKind.wrap .i64 ((IntKind.wrap .i64 ((IntKind.wrap .i64 ((v_25l : Int) + (v_4l : Int))) + (v_27l : Int))) - i_2)))]) w_29 (fun r_31 w_32 =>
  ∃ (v_33 : Option Addr) (v_33l v_33c : Nat), r_31 = (.slice v_33 v_33l v_33c) ∧
  OPW Try.prog (sV (Instr.sliceAt 52 (.slice v_33 v_33l v_33c) (some (.int .i64 i_2)) none none)) w_32 (fun r_34 w_35 =>
  ∃ (v_36 : Option Addr) (v_36l v_36c : Nat), r_34 = (.slice v_36 v_36l v_36c) ∧
  OPW Try.prog (sBI .copy #[52, 52] 3 #[false, false] #[(.slice v_36 v_36l v_36c), (.slice v_4 v_4l v_4c)]) w_35 (fun r_37 w_38 =>
  ∃ (v_39 : Int), r_37 = (.int .i64 v_39) ∧
  DRAW w_38 (fun (S_40 : World → World → Prop) (w_41 : World) =>
  HELD Try.prog S_40 (sV (Instr.sliceAt 52 (.slice v_33 v_33l v_33c) (some (.int .i64 (IntKind.wrap .i64 (i_2 + (v_4l : Int))))) none none)) w_41 (fun r_42 =>
  ∃ (v_43 : Option Addr) (v_43l v_43c : Nat), r_42 = (.slice v_43 v_43l v_43c) ∧
  HELD Try.prog S_40 (sV (Instr.sliceAt 52 (.slice s_1 s_1l s_1c) (some (.int .i64 j_3)) none none)) w_41 (fun r_44 =>
  ∃ (v_45 : Option Addr) (v_45l v_45c : Nat), r_44 = (.slice v_45 v_45l v_45c) ∧
  OPW Try.prog (sBI .copy #[52, 52] 3 #[false, false] #[(.slice v_43 v_43l v_43c), (.slice v_45 v_45l v_45c)]) w_41 (fun r_46 w_47 =>
  ∃ (v_48 : Int), r_46 = (.int .i64 v_48) ∧
  K (.slice v_33 v_33l v_33c) w_47)
  E))))
  E)
  E)
  E)
  E)
  (OPW Try.prog (sV (Instr.sliceAt 52 (.slice s_1 s_1l s_1c) none (some (.int .i64 (IntKind.wrap .i64 ((IntKind.wrap .i64 ((v_25l : Int) + (v_4l : Int))) + (v_27l : Int))))) none)) w_23 (fun r_49 w_50 =>
  ∃ (v_51 : Option Addr) (v_51l v_51c : Nat), r_49 = (.slice v_51 v_51l v_51c) ∧
  BIF (decide ((IntKind.wrap .i64 (i_2 + (v_4l : Int))) ≤ j_3))
  (OPW Try.prog (sV (Instr.sliceAt 52 (.slice v_51 v_51l v_51c) (some (.int .i64 i_2)) none none)) w_50 (fun r_52 w_53 =>
  ∃ (v_54 : Option Addr) (v_54l v_54c : Nat), r_52 = (.slice v_54 v_54l v_54c) ∧
  OPW Try.prog (sBI .copy #[52, 52] 3 #[false, false] #[(.slice v_54 v_54l v_54c), (.slice v_4 v_4l v_4c)]) w_53 (fun r_55 w_56 =>
  ∃ (v_57 : Int), r_55 = (.int .i64 v_57) ∧
  DRAW w_56 (fun (S_58 : World → World → Prop) (w_59 : World) =>
  HELD Try.prog S_58 (sV (Instr.sliceAt 52 (.slice v_51 v_51l v_51c) (some (.int .i64 (IntKind.wrap .i64 (i_2 + (v_4l : Int))))) none none)) w_59 (fun r_60 =>
  ∃ (v_61 : Option Addr) (v_61l v_61c : Nat), r_60 = (.slice v_61 v_61l v_61c) ∧
  HELD Try.prog S_58 (sV (Instr.sliceAt 52 (.slice s_1 s_1l s_1c) (some (.int .i64 j_3)) none none)) w_59 (fun r_62 =>
  ∃ (v_63 : Option Addr) (v_63l v_63c : Nat), r_62 = (.slice v_63 v_63l v_63c) ∧
  OPW Try.prog (sBI .copy #[52, 52] 3 #[false, false] #[(.slice v_61 v_61l v_61c), (.slice v_63 v_63l v_63c)]) w_59 (fun r_64 w_65 =>
  ∃ (v_66 : Int), r_64 = (.int .i64 v_66) ∧
  OPW Try.prog (sV (Instr.sliceAt 52 (.slice s_1 s_1l s_1c) (some (.int .i64 (IntKind.wrap .i64 ((IntKind.wrap .i64 ((v_25l : Int) + (v_4l : Int))) + (v_27l : Int))))) none none)) w_65 (fun r_67 w_68 =>
  ∃ (v_69 : Option Addr) (v_69l v_69c : Nat), r_67 = (.slice v_69 v_69l v_69c) ∧
  OPW Try.prog (sBI .clear #[52] 0 #[false] #[(.slice v_69 v_69l v_69c)]) w_68 (fun r_70 w_71 =>
  K (.slice v_51 v_51l v_51c) w_71)
  E)
  E)
  E))))
  E)
  E)
  (OPW Try.prog (sV (Instr.sliceAt 52 (.slice v_51 v_51l v_51c) (some (.int .i64 (IntKind.wrap .i64 (i_2 + (v_4l : Int))))) none none)) w_50 (fun r_72 w_73 =>
  ∃ (v_74 : Option Addr) (v_74l v_74c : Nat), r_72 = (.slice v_74 v_74l v_74c) ∧
  OPW Try.prog (sC (.func (.func 69) #[] #[]) #[(.slice v_74 v_74l v_74c), (.slice v_4 v_4l v_4c)]) w_73 (fun r_75 w_76 =>
  ∃ (v_77 : Bool), r_75 = (.bool v_77) ∧
  BIF (!v_77)
  (DRAW w_76 (fun (S_78 : World → World → Prop) (w_79 : World) =>
  HELD Try.prog S_78 (sV (Instr.sliceAt 52 (.slice v_51 v_51l v_51c) (some (.int .i64 (IntKind.wrap .i64 (i_2 + (v_4l : Int))))) none none)) w_79 (fun r_80 =>
  ∃ (v_81 : Option Addr) (v_81l v_81c : Nat), r_80 = (.slice v_81 v_81l v_81c) ∧
  HELD Try.prog S_78 (sV (Instr.sliceAt 52 (.slice s_1 s_1l s_1c) (some (.int .i64 j_3)) none none)) w_79 (fun r_82 =>
  ∃ (v_83 : Option Addr) (v_83l v_83c : Nat), r_82 = (.slice v_83 v_83l v_83c) ∧
  OPW Try.prog (sBI .copy #[52, 52] 3 #[false, false] #[(.slice v_81 v_81l v_81c), (.slice v_83 v_83l v_83c)]) w_79 (fun r_84 w_85 =>
  ∃ (v_86 : Int), r_84 = (.int .i64 v_86) ∧
  OPW Try.prog (sV (Instr.sliceAt 52 (.slice v_51 v_51l v_51c) (some (.int .i64 i_2)) none none)) w_85 (fun r_87 w_88 =>
  ∃ (v_89 : Option Addr) (v_89l v_89c : Nat), r_87 = (.slice v_89 v_89l v_89c) ∧
  OPW Try.prog (sBI .copy #[52, 52] 3 #[false, false] #[(.slice v_89 v_89l v_89c), (.slice v_4 v_4l v_4c)]) w_88 (fun r_90 w_91 =>
  ∃ (v_92 : Int), r_90 = (.int .i64 v_92) ∧
  K (.slice v_51 v_51l v_51c) w_91)
  E)
  E)
  E))))
  (OPW Try.prog (sV (Instr.sliceAt 52 (.slice v_51 v_51l v_51c) (some (.int .i64 i_2)) (some (.int .i64 j_3)) none)) w_76 (fun r_93 w_94 =>
  ∃ (v_95 : Option Addr) (v_95l v_95c : Nat), r_93 = (.slice v_95 v_95l v_95c) ∧
  OPW Try.prog (sC (.func (.func 69) #[] #[]) #[(.slice v_95 v_95l v_95c), (.slice v_4 v_4l v_4c)]) w_94 (fun r_96 w_97 =>
  ∃ (v_98 : Bool), r_96 = (.bool v_98) ∧
  BIF (!v_98)
  (DRAW w_97 (fun (S_99 : World → World → Prop) (w_100 : World) =>
  HELD Try.prog S_99 (sV (Instr.sliceAt 52 (.slice v_51 v_51l v_51c) (some (.int .i64 i_2)) (some (.int .i64 j_3)) none)) w_100 (fun r_101 =>
  ∃ (v_102 : Option Addr) (v_102l v_102c : Nat), r_101 = (.slice v_102 v_102l v_102c) ∧
  HELD Try.prog S_99 (sV (Instr.sliceAt 52 (.slice v_4 v_4l v_4c) (some (.int .i64 (IntKind.wrap .i64 ((v_4l : Int) - (IntKind.wrap .i64 (j_3 - i_2)))))) none none)) w_100 (fun r_103 =>
  ∃ (v_104 : Option Addr) (v_104l v_104c : Nat), r_103 = (.slice v_104 v_104l v_104c) ∧
  OPW Try.prog (sBI .copy #[52, 52] 3 #[false, false] #[(.slice v_102 v_102l v_102c), (.slice v_104 v_104l v_104c)]) w_100 (fun r_105 w_106 =>
  ∃ (v_107 : Int), r_105 = (.int .i64 v_107) ∧
  DRAW w_106 (fun (S_108 : World → World → Prop) (w_109 : World) =>
  HELD Try.prog S_108 (sV (Instr.sliceAt 52 (.slice v_51 v_51l v_51c) (some (.int .i64 (s_1l : Int))) none none)) w_109 (fun r_110 =>
  ∃ (v_111 : Option Addr) (v_111l v_111c : Nat), r_110 = (.slice v_111 v_111l v_111c) ∧
  HELD Try.prog S_108 (sV (Instr.sliceAt 52 (.slice v_4 v_4l v_4c) none (some (.int .i64 (IntKind.wrap .i64 ((v_4l : Int) - (IntKind.wrap .i64 (j_3 - i_2)))))) none)) w_109 (fun r_112 =>
  ∃ (v_113 : Option Addr) (v_113l v_113c : Nat), r_112 = (.slice v_113 v_113l v_113c) ∧
  OPW Try.prog (sBI .copy #[52, 52] 3 #[false, false] #[(.slice v_111 v_111l v_111c), (.slice v_113 v_113l v_113c)]) w_109 (fun r_114 w_115 =>
  ∃ (v_116 : Int), r_114 = (.int .i64 v_116) ∧
  OPW Try.prog (sV (Instr.sliceAt 52 (.slice v_51 v_51l v_51c) (some (.int .i64 i_2)) none none)) w_115 (fun r_117 w_118 =>
  ∃ (v_119 : Option Addr) (v_119l v_119c : Nat), r_117 = (.slice v_119 v_119l v_119c) ∧
  FN Try.prog 70 #[(.slice v_119 v_119l v_119c), (.int .i64 (IntKind.wrap .i64 ((v_4l : Int) - (IntKind.wrap .i64 (j_3 - i_2)))))] w_118 (fun r_120 w_121 =>
  K (.slice v_51 v_51l v_51c) w_121)
  E)
  E)
  E))))
  E))))
  (OPW Try.prog (sV (Instr.sliceAt 52 (.slice v_51 v_51l v_51c) (some (.int .i64 (s_1l : Int))) none none)) w_97 (fun r_122 w_123 =>
  ∃ (v_124 : Option Addr) (v_124l v_124c : Nat), r_122 = (.slice v_124 v_124l v_124c) ∧
  OPW Try.prog (sC (.func (.func 69) #[] #[]) #[(.slice v_124 v_124l v_124c), (.slice v_4 v_4l v_4c)]) w_123 (fun r_125 w_126 =>
  ∃ (v_127 : Bool), r_125 = (.bool v_127) ∧
  BIF (!v_127)
  (DRAW w_126 (fun (S_128 : World → World → Prop) (w_129 : World) =>
  HELD Try.prog S_128 (sV (Instr.sliceAt 52 (.slice v_51 v_51l v_51c) (some (.int .i64 (s_1l : Int))) none none)) w_129 (fun r_130 =>
  ∃ (v_131 : Option Addr) (v_131l v_131c : Nat), r_130 = (.slice v_131 v_131l v_131c) ∧
  HELD Try.prog S_128 (sV (Instr.sliceAt 52 (.slice v_4 v_4l v_4c) none (some (.int .i64 (IntKind.wrap .i64 ((v_4l : Int) - (IntKind.wrap .i64 (j_3 - i_2)))))) none)) w_129 (fun r_132 =>
  ∃ (v_133 : Option Addr) (v_133l v_133c : Nat), r_132 = (.slice v_133 v_133l v_133c) ∧
  OPW Try.prog (sBI .copy #[52, 52] 3 #[false, false] #[(.slice v_131 v_131l v_131c), (.slice v_133 v_133l v_133c)]) w_129 (fun r_134 w_135 =>
  ∃ (v_136 : Int), r_134 = (.int .i64 v_136) ∧
  DRAW w_135 (fun (S_137 : World → World → Prop) (w_138 : World) =>
  HELD Try.prog S_137 (sV (Instr.sliceAt 52 (.slice v_51 v_51l v_51c) (some (.int .i64 i_2)) (some (.int .i64 j_3)) none)) w_138 (fun r_139 =>
  ∃ (v_140 : Option Addr) (v_140l v_140c : Nat), r_139 = (.slice v_140 v_140l v_140c) ∧
  HELD Try.prog S_137 (sV (Instr.sliceAt 52 (.slice v_4 v_4l v_4c) (some (.int .i64 (IntKind.wrap .i64 ((v_4l : Int) - (IntKind.wrap .i64 (j_3 - i_2)))))) none none)) w_138 (fun r_141 =>
  ∃ (v_142 : Option Addr) (v_142l v_142c : Nat), r_141 = (.slice v_142 v_142l v_142c) ∧
  OPW Try.prog (sBI .copy #[52, 52] 3 #[false, false] #[(.slice v_140 v_140l v_140c), (.slice v_142 v_142l v_142c)]) w_138 (fun r_143 w_144 =>
  ∃ (v_145 : Int), r_143 = (.int .i64 v_145) ∧
  OPW Try.prog (sV (Instr.sliceAt 52 (.slice v_51 v_51l v_51c) (some (.int .i64 i_2)) none none)) w_144 (fun r_146 w_147 =>
  ∃ (v_148 : Option Addr) (v_148l v_148c : Nat), r_146 = (.slice v_148 v_148l v_148c) ∧
  FN Try.prog 70 #[(.slice v_148 v_148l v_148c), (.int .i64 (IntKind.wrap .i64 ((v_4l : Int) - (IntKind.wrap .i64 (j_3 - i_2)))))] w_147 (fun r_149 w_150 =>
  K (.slice v_51 v_51l v_51c) w_150)
  E)
  E)
  E))))
  E))))
  (OPW Try.prog (sV (Instr.sliceAt 52 (.slice s_1 s_1l s_1c) (some (.int .i64 j_3)) none none)) w_126 (fun r_151 w_152 =>
  ∃ (v_153 : Option Addr) (v_153l v_153c : Nat), r_151 = (.slice v_153 v_153l v_153c) ∧
  FN Try.prog 71 #[(.slice v_4 v_4l v_4c), (.slice v_153 v_153l v_153c)] w_152 (fun r_154 w_155 =>
  ∃ (v_156 : Int), r_154 = (.int .i64 v_156) ∧
  OPW Try.prog (sV (Instr.sliceAt 52 (.slice v_51 v_51l v_51c) (some (.int .i64 i_2)) none none)) w_155 (fun r_157 w_158 =>
  ∃ (v_159 : Option Addr) (v_159l v_159c : Nat), r_157 = (.slice v_159 v_159l v_159c) ∧
  OPW Try.prog (sBI .copy #[52, 52] 3 #[false, false] #[(.slice v_159 v_159l v_159c), (.slice v_4 v_4l v_4c)]) w_158 (fun r_160 w_161 =>
  ∃ (v_162 : Int), r_160 = (.int .i64 v_162) ∧
  DRAW w_161 (fun (S_163 : World → World → Prop) (w_164 : World) =>
  HELD Try.prog S_163 (sV (Instr.sliceAt 52 (.slice v_51 v_51l v_51c) (some (.int .i64 (IntKind.wrap .i64 (i_2 + (v_4l : Int))))) none none)) w_164 (fun r_165 =>
  ∃ (v_166 : Option Addr) (v_166l v_166c : Nat), r_165 = (.slice v_166 v_166l v_166c) ∧
  HELD Try.prog S_163 (sV (Instr.sliceAt 52 (.slice v_51 v_51l v_51c) (some (.int .i64 (IntKind.wrap .i64 (i_2 + v_156)))) none none)) w_164 (fun r_167 =>
  ∃ (v_168 : Option Addr) (v_168l v_168c : Nat), r_167 = (.slice v_168 v_168l v_168c) ∧
  OPW Try.prog (sBI .copy #[52, 52] 3 #[false, false] #[(.slice v_166 v_166l v_166c), (.slice v_168 v_168l v_168c)]) w_164 (fun r_169 w_170 =>
  ∃ (v_171 : Int), r_169 = (.int .i64 v_171) ∧
  K (.slice v_51 v_51l v_51c) w_170)
  E))))
  E)
  E)
  E)
  E))
  E)
  E))
  E)
  E))
  E)
  E))
  E)))))))
  E
def plan51 : Plan := (.two .leaf (.two .leaf (.two (.two .leaf (.two (.two .leaf .leaf) .leaf)) (.two (.two .leaf (.two (.two .leaf (.two (.two .leaf (.two .leaf .leaf)) (.two .leaf .leaf))) .leaf)) (.two (.draw (.take 0 (.take 1 (.take 2 (.take 3 (.take 4 (.take 5 (.take 6 (.take 7 (.take 8 (.take 9 (.take 10 (.take 11 (.take 12 .fin)))))))))))))) (.two (.two .leaf (.two (.two .leaf (.two .leaf (.two (.draw (.take 0 (.take 1 (.take 2 (.take 3 (.take 4 (.take 5 (.take 6 (.take 7 (.take 8 (.cases [9] fun _ => .fin))))))))))) (.two .leaf .leaf)))) .leaf)) (.two .leaf (.two (.two .leaf (.two (.two .leaf (.two (.draw (.take 0 (.take 1 (.take 2 (.take 3 (.take 4 (.take 5 (.take 6 (.take 7 (.take 8 (.cases [9] fun _ => .fin))))))))))) (.two .leaf (.two .leaf .leaf)))) .leaf)) (.two (.two .leaf (.two (.two (.draw (.take 0 (.take 1 (.take 2 (.take 3 (.take 4 (.take 5 (.take 6 (.take 7 (.take 8 (.cases [9] fun _ => .fin))))))))))) (.two .leaf (.two .leaf .leaf))) .leaf)) (.two .leaf (.two (.two .leaf (.two (.two (.draw (.take 0 (.take 1 (.take 2 (.take 3 (.take 4 (.take 5 (.take 6 (.cases [7] fun _ => .fin))))))))) (.two (.draw (.take 0 (.take 1 (.take 2 (.take 3 (.take 4 (.take 5 (.take 6 (.cases [7] fun _ => .fin))))))))) (.two .leaf (.two .leaf .leaf)))) .leaf)) (.two (.two .leaf (.two (.two (.draw (.take 0 (.take 1 (.take 2 (.take 3 (.take 4 (.take 5 (.take 6 (.cases [7] fun _ => .fin))))))))) (.two (.draw (.take 0 (.take 1 (.take 2 (.take 3 (.take 4 (.take 5 (.take 6 (.cases [7] fun _ => .fin))))))))) (.two .leaf (.two .leaf .leaf)))) .leaf)) (.two .leaf (.two .leaf (.two (.draw (.take 0 (.take 1 (.take 2 (.take 3 (.take 4 (.take 5 (.take 6 (.take 7 (.take 8 (.take 9 (.take 10 (.cases [11] fun _ => .fin))))))))))))) (.two .leaf .leaf))))))))))))))))
noncomputable def code51 : Code := match Try.f51.body with | some c => c | none => .skip
theorem eq51 (s_1 : Option Addr) (s_1l s_1c : Nat) (i_2 : Int) (j_3 : Int) (v_4 : Option Addr) (v_4l v_4c : Nat) (K : Value → World → Prop) (E : List PanicEntry → World → Prop) (w : World) : R51 s_1 s_1l s_1c i_2 j_3 v_4 v_4l v_4c K E w = ewp ctx code51 plan51 (retQ ctx.P Try.f51 K E) (argEnv [(.slice s_1 s_1l s_1c), (.int .i64 i_2), (.int .i64 j_3), (.slice v_4 v_4l v_4c)]) [] w := by kernel_rfl
theorem okc51 : okC Try.f51.ntmps (bif hasDefer code51 then [] else writes code51) code51 plan51 = true := by kernel_rfl
theorem R51_ok {s_1 : Option Addr} {s_1l s_1c : Nat} {i_2 : Int} {j_3 : Int} {v_4 : Option Addr} {v_4l v_4c : Nat} {K : Value → World → Prop} {E : List PanicEntry → World → Prop} {w : World} (h : R51 s_1 s_1l s_1c i_2 j_3 v_4 v_4l v_4c K E w) : FN Try.prog 51 #[(.slice s_1 s_1l s_1c), (.int .i64 i_2), (.int .i64 j_3), (.slice v_4 v_4l v_4c)] w K E :=
  FN_of_ewp (C := ctx) ctx_ok ctx_mixed Try.func51 (c := code51) (by kernel_rfl) (args := [(.slice s_1 s_1l s_1c), (.int .i64 i_2), (.int .i64 j_3), (.slice v_4 v_4l v_4c)]) (Nat.le_of_ble_eq_true (by kernel_rfl)) okc51 (eq51 s_1 s_1l s_1c i_2 j_3 v_4 v_4l v_4c K E w ▸ h)

/-- (*concertina/concertinaref11.Runs).List -/
def R52 (r_1 : Nat) (K : Value → World → Prop) (E : List PanicEntry → World → Prop) (w : World) : Prop :=
  LOOP (S := ((Option Addr × Nat × Nat) × Int × Unit)) (fun _ X_2 s w_3 => (fun (l_4 : Option Addr) (l_4l l_4c : Nat) (i_5 : Int) =>
  OPW Try.prog (sV (Instr.loadAt 32 (.pointer (some ⟨r_1, 0, none⟩)))) w_3 (fun r_6 w_7 =>
  ∃ (v_8 : Option Addr) (v_8l v_8c : Nat), r_6 = (.slice v_8 v_8l v_8c) ∧
  BIF (decide (i_5 < (v_8l : Int)))
  (OPW Try.prog (sV (Instr.loadAt 32 (.pointer (some ⟨r_1, 0, none⟩)))) w_7 (fun r_9 w_10 =>
  ∃ (v_11 : Option Addr) (v_11l v_11c : Nat), r_9 = (.slice v_11 v_11l v_11c) ∧
  IDX 1 v_11 v_11l i_5 (fun (a_12 : Addr) =>
  OPW Try.prog (sV (Instr.loadAt 4 (.pointer (some a_12)))) w_10 (fun r_13 w_14 =>
  ∃ (v_15 : Bool), r_13 = (.bool v_15) ∧
  BIF (!v_15)
  (X_2 ((l_4, l_4l, l_4c), (IntKind.wrap .i64 (i_5 + 1)), ()) w_14)
  (JOIN (S := (Bool × Unit)) (fun K_16 =>
  DRAW w_14 (fun (S_25 : World → World → Prop) (w_26 : World) =>
  BIF (decide ((l_4l : Int) > 0))
  (IDX 2 l_4 l_4l (IntKind.wrap .i64 ((l_4l : Int) - 1)) (fun (a_27 : Addr) =>
  HELD Try.prog S_25 (sV (Instr.loadAt 3 (.pointer (some a_27)))) w_26 (fun r_28 =>
  ∃ (v_29 : Int), r_28 = (.int .i64 v_29) ∧
  IDX 2 l_4 l_4l (IntKind.wrap .i64 ((l_4l : Int) - 1)) (fun (a_30 : Addr) =>
  HELD Try.prog S_25 (sV (Instr.loadAt 3 (.pointer (some (Addr.add a_30 1))))) w_26 (fun r_31 =>
  ∃ (v_32 : Int), r_31 = (.int .i64 v_32) ∧
  K_16 (((IntKind.wrap .i64 (v_29 + v_32)) == i_5), ()) w_26)))))
  (K_16 (false, ()) w_26)))
  (fun _ s w_33 => (fun (v_34 : Bool) =>
  BIF v_34
  (IDX 2 l_4 l_4l (IntKind.wrap .i64 ((l_4l : Int) - 1)) (fun (a_35 : Addr) =>
  OPW Try.prog (sV (Instr.loadAt 3 (.pointer (some (Addr.add a_35 1))))) w_33 (fun r_36 w_37 =>
  ∃ (v_38 : Int), r_36 = (.int .i64 v_38) ∧
  IDX 2 l_4 l_4l (IntKind.wrap .i64 ((l_4l : Int) - 1)) (fun (a_39 : Addr) =>
  OPW Try.prog (sU (Instr.storeAt 3 (.pointer (some (Addr.add a_39 1))) (.int .i64 (IntKind.wrap .i64 (v_38 + 1))))) w_37 (fun r_40 w_41 =>
  X_2 ((l_4, l_4l, l_4c), (IntKind.wrap .i64 (i_5 + 1)), ()) w_41)
  E))
  E))
  (OPW Try.prog (sV (Instr.buildSlice 52 1 #[(0, (.agg #[(.int .i64 i_5), (.int .i64 1)]))])) w_33 (fun r_42 w_43 =>
  ∃ (v_44 : Option Addr) (v_44l v_44c : Nat), r_42 = (.slice v_44 v_44l v_44c) ∧
  OPW Try.prog (sBI .append #[52, 52] 52 #[false, false] #[(.slice l_4 l_4l l_4c), (.slice v_44 v_44l v_44c)]) w_43 (fun r_45 w_46 =>
  ∃ (v_47 : Option Addr) (v_47l v_47c : Nat), r_45 = (.slice v_47 v_47l v_47c) ∧
  X_2 ((v_47, v_47l, v_47c), (IntKind.wrap .i64 (i_5 + 1)), ()) w_46)
  E)
  E)) s.1)))
  E))
  E)
  (K (.slice l_4 l_4l l_4c) w_7))
  E) s.1.1 s.1.2.1 s.1.2.2 s.2.1)
  ((none, 0, 0), 0, ()) w
def plan52 : Plan := (.two .leaf (.two .leaf (.two (.two .leaf (.loop [(3, (.one .slice)), (4, (.one (.int .i64)))] (.two (.two .leaf (.two .leaf .leaf)) (.two (.two (.two .leaf (.two .leaf .leaf)) (.join [(43, (.one .bool))] (.draw (.take 0 (.take 1 (.take 2 (.take 3 (.split 4 (.take 4 (.take 5 (.take 6 (.take 7 (.take 8 (.take 9 (.take 10 (.take 11 (.take 12 (.take 13 (.take 14 (.take 15 (.take 16 (.take 17 (.take 18 (.take 19 (.take 20 (.take 21 .fin)))))))))))))))))) (.take 4 (.take 5 (.take 6 (.take 7 (.take 8 (.take 9 (.take 10 (.take 11 (.take 12 (.take 13 (.take 14 (.take 15 (.take 16 (.take 17 (.take 18 (.take 19 (.take 20 (.take 21 .fin)))))))))))))))))))))))) (.two .leaf .leaf))) .leaf)))) (.two .leaf .leaf))))
noncomputable def code52 : Code := match Try.f52.body with | some c => c | none => .skip
theorem eq52 (r_1 : Nat) (K : Value → World → Prop) (E : List PanicEntry → World → Prop) (w : World) : R52 r_1 K E w = ewp ctx code52 plan52 (retQ ctx.P Try.f52 K E) (argEnv [(.pointer (some ⟨r_1, 0, none⟩))]) [] w := by kernel_rfl
theorem okc52 : okC Try.f52.ntmps (bif hasDefer code52 then [] else writes code52) code52 plan52 = true := by kernel_rfl
theorem R52_ok {r_1 : Nat} {K : Value → World → Prop} {E : List PanicEntry → World → Prop} {w : World} (h : R52 r_1 K E w) : FN Try.prog 52 #[(.pointer (some ⟨r_1, 0, none⟩))] w K E :=
  FN_of_ewp (C := ctx) ctx_ok ctx_mixed Try.func52 (c := code52) (by kernel_rfl) (args := [(.pointer (some ⟨r_1, 0, none⟩))]) (Nat.le_of_ble_eq_true (by kernel_rfl)) okc52 (eq52 r_1 K E w ▸ h)

/-- (*concertina/concertinaref11.Runs).all -/
def R53 (r_1 : Nat) (at_2 : Int) (n_3 : Int) (free_4 : Bool) (K : Value → World → Prop) (E : List PanicEntry → World → Prop) (w : World) : Prop :=
  JOIN (S := Unit) (fun K_5 =>
  BIF (decide (at_2 < 0))
  (K (.bool false) w)
  (BIF (decide (n_3 < 1))
  (K (.bool false) w)
  (OPW Try.prog (sV (Instr.loadAt 32 (.pointer (some ⟨r_1, 0, none⟩)))) w (fun r_12 w_13 =>
  ∃ (v_14 : Option Addr) (v_14l v_14c : Nat), r_12 = (.slice v_14 v_14l v_14c) ∧
  BIF (decide (at_2 ≥ (v_14l : Int)))
  (K (.bool false) w_13)
  (OPW Try.prog (sV (Instr.loadAt 32 (.pointer (some ⟨r_1, 0, none⟩)))) w_13 (fun r_15 w_16 =>
  ∃ (v_17 : Option Addr) (v_17l v_17c : Nat), r_15 = (.slice v_17 v_17l v_17c) ∧
  BIF (decide (n_3 > (IntKind.wrap .i64 ((v_17l : Int) - at_2))))
  (K (.bool false) w_16)
  (K_5 (()) w_16))
  E))
  E)))
  (fun _ s w_18 => 
  LOOP (S := (Int × Unit)) (fun _ X_19 s w_20 => (fun (k_21 : Int) =>
  BIF (decide (k_21 < n_3))
  (OPW Try.prog (sV (Instr.loadAt 32 (.pointer (some ⟨r_1, 0, none⟩)))) w_20 (fun r_22 w_23 =>
  ∃ (v_24 : Option Addr) (v_24l v_24c : Nat), r_22 = (.slice v_24 v_24l v_24c) ∧
  IDX 1 v_24 v_24l (IntKind.wrap .i64 (at_2 + k_21)) (fun (a_25 : Addr) =>
  OPW Try.prog (sV (Instr.loadAt 4 (.pointer (some a_25)))) w_23 (fun r_26 w_27 =>
  ∃ (v_28 : Bool), r_26 = (.bool v_28) ∧
  BIF (!(v_28 == free_4))
  (K (.bool false) w_27)
  (X_19 ((IntKind.wrap .i64 (k_21 + 1)), ()) w_27))
  E))
  E)
  (K (.bool true) w_20)) s.1)
  (0, ()) w_18)
def plan53 : Plan := (.two .leaf (.join [] (.two .leaf (.two (.two .leaf .leaf) .leaf)) (.two (.two .leaf (.loop [(9, (.one (.int .i64)))] (.two (.two .leaf (.two .leaf .leaf)) (.two (.two .leaf (.two (.two .leaf .leaf) .leaf)) .leaf)))) (.two .leaf .leaf))))
noncomputable def code53 : Code := match Try.f53.body with | some c => c | none => .skip
theorem eq53 (r_1 : Nat) (at_2 : Int) (n_3 : Int) (free_4 : Bool) (K : Value → World → Prop) (E : List PanicEntry → World → Prop) (w : World) : R53 r_1 at_2 n_3 free_4 K E w = ewp ctx code53 plan53 (retQ ctx.P Try.f53 K E) (argEnv [(.pointer (some ⟨r_1, 0, none⟩)), (.int .i64 at_2), (.int .i64 n_3), (.bool free_4)]) [] w := by kernel_rfl
theorem okc53 : okC Try.f53.ntmps (bif hasDefer code53 then [] else writes code53) code53 plan53 = true := by kernel_rfl
theorem R53_ok {r_1 : Nat} {at_2 : Int} {n_3 : Int} {free_4 : Bool} {K : Value → World → Prop} {E : List PanicEntry → World → Prop} {w : World} (h : R53 r_1 at_2 n_3 free_4 K E w) : FN Try.prog 53 #[(.pointer (some ⟨r_1, 0, none⟩)), (.int .i64 at_2), (.int .i64 n_3), (.bool free_4)] w K E :=
  FN_of_ewp (C := ctx) ctx_ok ctx_mixed Try.func53 (c := code53) (by kernel_rfl) (args := [(.pointer (some ⟨r_1, 0, none⟩)), (.int .i64 at_2), (.int .i64 n_3), (.bool free_4)]) (Nat.le_of_ble_eq_true (by kernel_rfl)) okc53 (eq53 r_1 at_2 n_3 free_4 K E w ▸ h)

/-- (*concertina/concertinaref11.Runs).Free -/
def R54 (r_1 : Nat) (K : Value → World → Prop) (E : List PanicEntry → World → Prop) (w : World) : Prop :=
  LOOP (S := (Int × Int × Unit)) (fun _ X_2 s w_3 => (fun (n_4 : Int) (i_5 : Int) =>
  OPW Try.prog (sV (Instr.loadAt 32 (.pointer (some ⟨r_1, 0, none⟩)))) w_3 (fun r_6 w_7 =>
  ∃ (v_8 : Option Addr) (v_8l v_8c : Nat), r_6 = (.slice v_8 v_8l v_8c) ∧
  BIF (decide (i_5 < (v_8l : Int)))
  (OPW Try.prog (sV (Instr.loadAt 32 (.pointer (some ⟨r_1, 0, none⟩)))) w_7 (fun r_9 w_10 =>
  ∃ (v_11 : Option Addr) (v_11l v_11c : Nat), r_9 = (.slice v_11 v_11l v_11c) ∧
  IDX 1 v_11 v_11l i_5 (fun (a_12 : Addr) =>
  OPW Try.prog (sV (Instr.loadAt 4 (.pointer (some a_12)))) w_10 (fun r_13 w_14 =>
  ∃ (v_15 : Bool), r_13 = (.bool v_15) ∧
  BIF v_15
  (X_2 ((IntKind.wrap .i64 (n_4 + 1)), (IntKind.wrap .i64 (i_5 + 1)), ()) w_14)
  (X_2 (n_4, (IntKind.wrap .i64 (i_5 + 1)), ()) w_14))
  E))
  E)
  (K (.int .i64 n_4) w_7))
  E) s.1 s.2.1)
  (0, 0, ()) w
def plan54 : Plan := (.two .leaf (.two .leaf (.two (.two .leaf (.loop [(3, (.one (.int .i64))), (4, (.one (.int .i64)))] (.two (.two .leaf (.two .leaf .leaf)) (.two (.two .leaf (.two .leaf .leaf)) .leaf)))) (.two .leaf .leaf))))
noncomputable def code54 : Code := match Try.f54.body with | some c => c | none => .skip
theorem eq54 (r_1 : Nat) (K : Value → World → Prop) (E : List PanicEntry → World → Prop) (w : World) : R54 r_1 K E w = ewp ctx code54 plan54 (retQ ctx.P Try.f54 K E) (argEnv [(.pointer (some ⟨r_1, 0, none⟩))]) [] w := by kernel_rfl
theorem okc54 : okC Try.f54.ntmps (bif hasDefer code54 then [] else writes code54) code54 plan54 = true := by kernel_rfl
theorem R54_ok {r_1 : Nat} {K : Value → World → Prop} {E : List PanicEntry → World → Prop} {w : World} (h : R54 r_1 K E w) : FN Try.prog 54 #[(.pointer (some ⟨r_1, 0, none⟩))] w K E :=
  FN_of_ewp (C := ctx) ctx_ok ctx_mixed Try.func54 (c := code54) (by kernel_rfl) (args := [(.pointer (some ⟨r_1, 0, none⟩))]) (Nat.le_of_ble_eq_true (by kernel_rfl)) okc54 (eq54 r_1 K E w ▸ h)

/-- (*concertina/concertinaref11.Runs).Greatest -/
def R55 (r_1 : Nat) (K : Value → World → Prop) (E : List PanicEntry → World → Prop) (w : World) : Prop :=
  FN Try.prog 52 #[(.pointer (some ⟨r_1, 0, none⟩))] w (fun r_2 w_3 =>
  ∃ (v_4 : Option Addr) (v_4l v_4c : Nat), r_2 = (.slice v_4 v_4l v_4c) ∧
  LOOP (S := (Int × Int × Unit)) (fun _ X_5 s w_6 => (fun (n_7 : Int) (i_8 : Int) =>
  BIF (decide (i_8 < (v_4l : Int)))
  (IDX 2 v_4 v_4l i_8 (fun (a_9 : Addr) =>
  OPW Try.prog (sV (Instr.loadAt 3 (.pointer (some (Addr.add a_9 1))))) w_6 (fun r_10 w_11 =>
  ∃ (v_12 : Int), r_10 = (.int .i64 v_12) ∧
  X_5 ((if v_12 > n_7 then v_12 else n_7), (IntKind.wrap .i64 (i_8 + 1)), ()) w_11)
  E))
  (K (.int .i64 n_7) w_6)) s.1 s.2.1)
  (0, 0, ()) w_3)
  E
def plan55 : Plan := (.two .leaf (.two .leaf (.two (.two .leaf (.loop [(4, (.one (.int .i64))), (5, (.one (.int .i64)))] (.two (.two .leaf (.two .leaf .leaf)) (.two .leaf .leaf)))) (.two .leaf .leaf))))
noncomputable def code55 : Code := match Try.f55.body with | some c => c | none => .skip
theorem eq55 (r_1 : Nat) (K : Value → World → Prop) (E : List PanicEntry → World → Prop) (w : World) : R55 r_1 K E w = ewp ctx code55 plan55 (retQ ctx.P Try.f55 K E) (argEnv [(.pointer (some ⟨r_1, 0, none⟩))]) [] w := by kernel_rfl
theorem okc55 : okC Try.f55.ntmps (bif hasDefer code55 then [] else writes code55) code55 plan55 = true := by kernel_rfl
theorem R55_ok {r_1 : Nat} {K : Value → World → Prop} {E : List PanicEntry → World → Prop} {w : World} (h : R55 r_1 K E w) : FN Try.prog 55 #[(.pointer (some ⟨r_1, 0, none⟩))] w K E :=
  FN_of_ewp (C := ctx) ctx_ok ctx_mixed Try.func55 (c := code55) (by kernel_rfl) (args := [(.pointer (some ⟨r_1, 0, none⟩))]) (Nat.le_of_ble_eq_true (by kernel_rfl)) okc55 (eq55 r_1 K E w ▸ h)

/-- slices.DeleteFunc[[]concertina/api.Run,concertina/api.Run] -/
def R66 (s_1 : Option Addr) (s_1l s_1c : Nat) (del_2 : Nat) (del_2c : Array Value) (K : Value → World → Prop) (E : List PanicEntry → World → Prop) (w : World) : Prop :=
  FN Try.prog 74 #[(.slice s_1 s_1l s_1c), (.func (.func del_2) #[] del_2c)] w (fun r_3 w_4 =>
  ∃ (v_5 : Int), r_3 = (.int .i64 v_5) ∧
  BIF (v_5 == -1)
  (K (.slice s_1 s_1l s_1c) w_4)
  (LOOP (S := (Int × Int × Unit)) (fun _ X_6 s w_7 => (fun (i_8 : Int) (j_9 : Int) =>
  BIF (decide (j_9 < (s_1l : Int)))
  (IDX 2 s_1 s_1l j_9 (fun (a_10 : Addr) =>
  OPW Try.prog (sV (Instr.loadAt 56 (.pointer (some a_10)))) w_7 (fun r_11 w_12 =>
  ∃ (v_13 : Int) (v_14 : Int), r_11 = (.agg #[(.int .i64 v_13), (.int .i64 v_14)]) ∧
  OPW Try.prog (sV (Instr.alloc 56 true (.tuple #[]))) w_12 (fun r_15 w_16 =>
  ∃ (v_17 : Nat), r_15 = (.pointer (some ⟨v_17, 0, none⟩)) ∧
  OPW Try.prog (sU (Instr.storeAt 56 (.pointer (some ⟨v_17, 0, none⟩)) (.agg #[(.int .i64 v_13), (.int .i64 v_14)]))) w_16 (fun r_18 w_19 =>
  OPW Try.prog (sV (Instr.loadAt 56 (.pointer (some ⟨v_17, 0, none⟩)))) w_19 (fun r_20 w_21 =>
  ∃ (v_22 : Int) (v_23 : Int), r_20 = (.agg #[(.int .i64 v_22), (.int .i64 v_23)]) ∧
  CALLF Try.prog (ctx.bd del_2) del_2 ((([(.agg #[(.int .i64 v_22), (.int .i64 v_23)])] : List Value) ++ del_2c.toList).toArray) (sC (.func (.func del_2) #[] del_2c) #[(.agg #[(.int .i64 v_22), (.int .i64 v_23)])]) w_21 (fun r_24 w_25 =>
  ∃ (v_26 : Bool), r_24 = (.bool v_26) ∧
  BIF (!v_26)
  (OPW Try.prog (sV (Instr.loadAt 56 (.pointer (some ⟨v_17, 0, none⟩)))) w_25 (fun r_27 w_28 =>
  ∃ (v_29 : Int) (v_30 : Int), r_27 = (.agg #[(.int .i64 v_29), (.int .i64 v_30)]) ∧
  IDX 2 s_1 s_1l i_8 (fun (a_31 : Addr) =>
  OPW Try.prog (sU (Instr.storeAt 56 (.pointer (some a_31)) (.agg #[(.int .i64 v_29), (.int .i64 v_30)]))) w_28 (fun r_32 w_33 =>
  X_6 ((IntKind.wrap .i64 (i_8 + 1)), (IntKind.wrap .i64 (j_9 + 1)), ()) w_33)
  E))
  E)
  (X_6 (i_8, (IntKind.wrap .i64 (j_9 + 1)), ()) w_25))
  E)
  E)
  E)
  E)
  E))
  (OPW Try.prog (sV (Instr.sliceAt 52 (.slice s_1 s_1l s_1c) (some (.int .i64 i_8)) none none)) w_7 (fun r_34 w_35 =>
  ∃ (v_36 : Option Addr) (v_36l v_36c : Nat), r_34 = (.slice v_36 v_36l v_36c) ∧
  OPW Try.prog (sBI .clear #[52] 0 #[false] #[(.slice v_36 v_36l v_36c)]) w_35 (fun r_37 w_38 =>
  OPW Try.prog (sV (Instr.sliceAt 52 (.slice s_1 s_1l s_1c) none (some (.int .i64 i_8)) none)) w_38 (fun r_39 w_40 =>
  ∃ (v_41 : Option Addr) (v_41l v_41c : Nat), r_39 = (.slice v_41 v_41l v_41c) ∧
  K (.slice v_41 v_41l v_41c) w_40)
  E)
  E)
  E)) s.1 s.2.1)
  (v_5, (IntKind.wrap .i64 (v_5 + 1)), ()) w_4))
  E
def plan66 : Plan := (.two .leaf (.two .leaf (.two (.two .leaf (.two (.two .leaf .leaf) .leaf)) (.two (.two .leaf (.loop [(5, (.one (.int .i64))), (6, (.one (.int .i64)))] (.two (.two .leaf (.two .leaf .leaf)) (.two (.two .leaf (.two .leaf (.two (.two .leaf .leaf) .leaf))) .leaf)))) (.two .leaf (.two .leaf .leaf))))))
noncomputable def code66 : Code := match Try.f66.body with | some c => c | none => .skip
theorem eq66 (s_1 : Option Addr) (s_1l s_1c : Nat) (del_2 : Nat) (del_2c : Array Value) (K : Value → World → Prop) (E : List PanicEntry → World → Prop) (w : World) : R66 s_1 s_1l s_1c del_2 del_2c K E w = ewp ctx code66 plan66 (retQ ctx.P Try.f66 K E) (argEnv [(.slice s_1 s_1l s_1c), (.func (.func del_2) #[] del_2c)]) [] w := by kernel_rfl
theorem okc66 : okC Try.f66.ntmps (bif hasDefer code66 then [] else writes code66) code66 plan66 = true := by kernel_rfl
theorem R66_ok {s_1 : Option Addr} {s_1l s_1c : Nat} {del_2 : Nat} {del_2c : Array Value} {K : Value → World → Prop} {E : List PanicEntry → World → Prop} {w : World} (h : R66 s_1 s_1l s_1c del_2 del_2c K E w) : FN Try.prog 66 #[(.slice s_1 s_1l s_1c), (.func (.func del_2) #[] del_2c)] w K E :=
  FN_of_ewp (C := ctx) ctx_ok ctx_mixed Try.func66 (c := code66) (by kernel_rfl) (args := [(.slice s_1 s_1l s_1c), (.func (.func del_2) #[] del_2c)]) (Nat.le_of_ble_eq_true (by kernel_rfl)) okc66 (eq66 s_1 s_1l s_1c del_2 del_2c K E w ▸ h)

/-- (*concertina/runs.Runs).put$1 -/
def R67 (x_1 : Int) (x_2 : Int) (K : Value → World → Prop) (E : List PanicEntry → World → Prop) (w : World) : Prop :=
  OPW Try.prog (sV (Instr.box 56 (.agg #[(.int .i64 x_1), (.int .i64 x_2)]))) w (fun r_3 w_4 =>
  ∃ (x_5 : Nat), r_3 = (.pointer (some ⟨x_5, 0, none⟩)) ∧
  OPW Try.prog (sV (Instr.loadAt 3 (.pointer (some ⟨x_5, 1, none⟩)))) w_4 (fun r_6 w_7 =>
  ∃ (v_8 : Int), r_6 = (.int .i64 v_8) ∧
  K (.bool (v_8 == 0)) w_7)
  E)
  E
def plan67 : Plan := (.two .leaf (.two .leaf .leaf))
noncomputable def code67 : Code := match Try.f67.body with | some c => c | none => .skip
theorem eq67 (x_1 : Int) (x_2 : Int) (K : Value → World → Prop) (E : List PanicEntry → World → Prop) (w : World) : R67 x_1 x_2 K E w = ewp ctx code67 plan67 (retQ ctx.P Try.f67 K E) (argEnv [(.agg #[(.int .i64 x_1), (.int .i64 x_2)])]) [] w := by kernel_rfl
theorem okc67 : okC Try.f67.ntmps (bif hasDefer code67 then [] else writes code67) code67 plan67 = true := by kernel_rfl
theorem R67_ok {x_1 : Int} {x_2 : Int} {K : Value → World → Prop} {E : List PanicEntry → World → Prop} {w : World} (h : R67 x_1 x_2 K E w) : FN Try.prog 67 #[(.agg #[(.int .i64 x_1), (.int .i64 x_2)])] w K E :=
  FN_of_ewp (C := ctx) ctx_ok ctx_mixed Try.func67 (c := code67) (by kernel_rfl) (args := [(.agg #[(.int .i64 x_1), (.int .i64 x_2)])]) (Nat.le_of_ble_eq_true (by kernel_rfl)) okc67 (eq67 x_1 x_2 K E w ▸ h)

/-- slices.Insert[[]concertina/api.Run,concertina/api.Run] -/
def R68 (s_1 : Option Addr) (s_1l s_1c : Nat) (i_2 : Int) (v_3 : Option Addr) (v_3l v_3c : Nat) (K : Value → World → Prop) (E : List PanicEntry → World → Prop) (w : World) : Prop :=
  OPW Try.prog (sV (Instr.sliceAt 52 (.slice s_1 s_1l s_1c) (some (.int .i64 i_2)) none none)) w (fun r_4 w_5 =>
  ∃ (v_6 : Option Addr) (v_6l v_6c : Nat), r_4 = (.slice v_6 v_6l v_6c) ∧
  BIF ((v_3l : Int) == 0)
  (K (.slice s_1 s_1l s_1c) w_5)
  (BIF (i_2 == (s_1l : Int))
  (OPW Try.prog (sBI .append #[52, 52] 52 #[false, false] #[(.slice s_1 s_1l s_1c), (.slice v_3 v_3l v_3c)]) w_5 (fun r_7 w_8 =>
  ∃ (v_9 : Option Addr) (v_9l v_9c : Nat), r_7 = (.slice v_9 v_9l v_9c) ∧
  K (.slice v_9 v_9l v_9c) w_8)
  E)
  (BIF (decide ((IntKind.wrap .i64 ((s_1l : Int) + (v_3l : Int))) > (s_1c : Int)))
  (OPW Try.prog (sV (Instr.sliceAt 52 (.slice s_1 s_1l s_1c) none (some (.int .i64 i_2)) none)) w_5 (fun r_10 w_11 =>
  ∃ (v_12 : Option Addr) (v_12l v_12c : Nat), r_10 = (.slice v_12 v_12l v_12c) ∧
  OPW Try.prog (sBI .append #[52, 3] 52 #[false, false] #[(.slice v_12 v_12l v_12c), (.int .i64 (IntKind.wrap .i64 ((IntKind.wrap .i64 ((s_1l : Int) + (v_3l : Int))) - i_2)))]) w_11 (fun r_13 w_14 =>
  ∃ (v_15 : Option Addr) (v_15l v_15c : Nat), r_13 = (.slice v_15 v_15l v_15c) ∧
  OPW Try.prog (sV (Instr.sliceAt 52 (.slice v_15 v_15l v_15c) (some (.int .i64 i_2)) none none)) w_14 (fun r_16 w_17 =>
  ∃ (v_18 : Option Addr) (v_18l v_18c : Nat), r_16 = (.slice v_18 v_18l v_18c) ∧
  OPW Try.prog (sBI .copy #[52, 52] 3 #[false, false] #[(.slice v_18 v_18l v_18c), (.slice v_3 v_3l v_3c)]) w_17 (fun r_19 w_20 =>
  ∃ (v_21 : Int), r_19 = (.int .i64 v_21) ∧
  DRAW w_20 (fun (S_22 : World → World → Prop) (w_23 : World) =>
  HELD Try.prog S_22 (sV (Instr.sliceAt 52 (.slice v_15 v_15l v_15c) (some (.int .i64 (IntKind.wrap .i64 (i_2 + (v_3l : Int))))) none none)) w_23 (fun r_24 =>
  ∃ (v_25 : Option Addr) (v_25l v_25c : Nat), r_24 = (.slice v_25 v_25l v_25c) ∧
  HELD Try.prog S_22 (sV (Instr.sliceAt 52 (.slice s_1 s_1l s_1c) (some (.int .i64 i_2)) none none)) w_23 (fun r_26 =>
  ∃ (v_27 : Option Addr) (v_27l v_27c : Nat), r_26 = (.slice v_27 v_27l v_27c) ∧
  OPW Try.prog (sBI .copy #[52, 52] 3 #[false, false] #[(.slice v_25 v_25l v_25c), (.slice v_27 v_27l v_27c)]) w_23 (fun r_28 w_29 =>
  ∃ (v_30 : Int), r_28 = (.int .i64 v_30) ∧
  K (.slice v_15 v_15l v_15c) w_29)
  E))))
  E)
  E)
  E)
  E)
  (OPW Try.prog (sV (Instr.sliceAt 52 (.slice s_1 s_1l s_1c) none (some (.int .i64 (IntKind.wrap .i64 ((s_1l : Int) + (v_3l : Int))))) none)) w_5 (fun r_31 w_32 =>
  ∃ (v_33 : Option Addr) (v_33l v_33c : Nat), r_31 = (.slice v_33 v_33l v_33c) ∧
  OPW Try.prog (sV (Instr.sliceAt 52 (.slice v_33 v_33l v_33c) (some (.int .i64 (IntKind.wrap .i64 (i_2 + (v_3l : Int))))) none none)) w_32 (fun r_34 w_35 =>
  ∃ (v_36 : Option Addr) (v_36l v_36c : Nat), r_34 = (.slice v_36 v_36l v_36c) ∧
  OPW Try.prog (sC (.func (.func 69) #[] #[]) #[(.slice v_3 v_3l v_3c), (.slice v_36 v_36l v_36c)]) w_35 (fun r_37 w_38 =>
  ∃ (v_39 : Bool), r_37 = (.bool v_39) ∧
  BIF (!v_39)
  (DRAW w_38 (fun (S_40 : World → World → Prop) (w_41 : World) =>
  HELD Try.prog S_40 (sV (Instr.sliceAt 52 (.slice v_33 v_33l v_33c) (some (.int .i64 (IntKind.wrap .i64 (i_2 + (v_3l : Int))))) none none)) w_41 (fun r_42 =>
  ∃ (v_43 : Option Addr) (v_43l v_43c : Nat), r_42 = (.slice v_43 v_43l v_43c) ∧
  HELD Try.prog S_40 (sV (Instr.sliceAt 52 (.slice v_33 v_33l v_33c) (some (.int .i64 i_2)) none none)) w_41 (fun r_44 =>
  ∃ (v_45 : Option Addr) (v_45l v_45c : Nat), r_44 = (.slice v_45 v_45l v_45c) ∧
  OPW Try.prog (sBI .copy #[52, 52] 3 #[false, false] #[(.slice v_43 v_43l v_43c), (.slice v_45 v_45l v_45c)]) w_41 (fun r_46 w_47 =>
  ∃ (v_48 : Int), r_46 = (.int .i64 v_48) ∧
  OPW Try.prog (sV (Instr.sliceAt 52 (.slice v_33 v_33l v_33c) (some (.int .i64 i_2)) none none)) w_47 (fun r_49 w_50 =>
  ∃ (v_51 : Option Addr) (v_51l v_51c : Nat), r_49 = (.slice v_51 v_51l v_51c) ∧
  OPW Try.prog (sBI .copy #[52, 52] 3 #[false, false] #[(.slice v_51 v_51l v_51c), (.slice v_3 v_3l v_3c)]) w_50 (fun r_52 w_53 =>
  ∃ (v_54 : Int), r_52 = (.int .i64 v_54) ∧
  K (.slice v_33 v_33l v_33c) w_53)
  E)
  E)
  E))))
  (OPW Try.prog (sV (Instr.sliceAt 52 (.slice v_33 v_33l v_33c) (some (.int .i64 (s_1l : Int))) none none)) w_38 (fun r_55 w_56 =>
  ∃ (v_57 : Option Addr) (v_57l v_57c : Nat), r_55 = (.slice v_57 v_57l v_57c) ∧
  OPW Try.prog (sBI .copy #[52, 52] 3 #[false, false] #[(.slice v_57 v_57l v_57c), (.slice v_3 v_3l v_3c)]) w_56 (fun r_58 w_59 =>
  ∃ (v_60 : Int), r_58 = (.int .i64 v_60) ∧
  OPW Try.prog (sV (Instr.sliceAt 52 (.slice v_33 v_33l v_33c) (some (.int .i64 i_2)) none none)) w_59 (fun r_61 w_62 =>
  ∃ (v_63 : Option Addr) (v_63l v_63c : Nat), r_61 = (.slice v_63 v_63l v_63c) ∧
  FN Try.prog 70 #[(.slice v_63 v_63l v_63c), (.int .i64 (v_3l : Int))] w_62 (fun r_64 w_65 =>
  K (.slice v_33 v_33l v_33c) w_65)
  E)
  E)
  E)
  E))
  E)
  E)
  E))))
  E
def plan68 : Plan := (.two .leaf (.two .leaf (.two .leaf (.two (.two .leaf (.two (.two .leaf .leaf) .leaf)) (.two .leaf (.two (.two .leaf (.two (.two .leaf .leaf) .leaf)) (.two (.two .leaf (.two (.two .leaf (.two .leaf (.two (.draw (.take 0 (.take 1 (.take 2 (.take 3 (.take 4 (.take 5 (.take 6 (.take 7 (.cases [8] fun _ => .fin)))))))))) (.two .leaf .leaf)))) .leaf)) (.two .leaf (.two (.two .leaf (.two (.two (.draw (.take 0 (.take 1 (.take 2 (.take 3 (.take 4 (.take 5 (.take 6 (.take 7 (.cases [8] fun _ => .fin)))))))))) (.two .leaf (.two .leaf .leaf))) .leaf)) (.two .leaf (.two .leaf (.two .leaf .leaf))))))))))))
noncomputable def code68 : Code := match Try.f68.body with | some c => c | none => .skip
theorem eq68 (s_1 : Option Addr) (s_1l s_1c : Nat) (i_2 : Int) (v_3 : Option Addr) (v_3l v_3c : Nat) (K : Value → World → Prop) (E : List PanicEntry → World → Prop) (w : World) : R68 s_1 s_1l s_1c i_2 v_3 v_3l v_3c K E w = ewp ctx code68 plan68 (retQ ctx.P Try.f68 K E) (argEnv [(.slice s_1 s_1l s_1c), (.int .i64 i_2), (.slice v_3 v_3l v_3c)]) [] w := by kernel_rfl
theorem okc68 : okC Try.f68.ntmps (bif hasDefer code68 then [] else writes code68) code68 plan68 = true := by kernel_rfl
theorem R68_ok {s_1 : Option Addr} {s_1l s_1c : Nat} {i_2 : Int} {v_3 : Option Addr} {v_3l v_3c : Nat} {K : Value → World → Prop} {E : List PanicEntry → World → Prop} {w : World} (h : R68 s_1 s_1l s_1c i_2 v_3 v_3l v_3c K E w) : FN Try.prog 68 #[(.slice s_1 s_1l s_1c), (.int .i64 i_2), (.slice v_3 v_3l v_3c)] w K E :=
  FN_of_ewp (C := ctx) ctx_ok ctx_mixed Try.func68 (c := code68) (by kernel_rfl) (args := [(.slice s_1 s_1l s_1c), (.int .i64 i_2), (.slice v_3 v_3l v_3c)]) (Nat.le_of_ble_eq_true (by kernel_rfl)) okc68 (eq68 s_1 s_1l s_1c i_2 v_3 v_3l v_3c K E w ▸ h)

/-- slices.rotateRight[concertina/api.Run] -/
def R70 (s_1 : Option Addr) (s_1l s_1c : Nat) (r_2 : Int) (K : Value → World → Prop) (E : List PanicEntry → World → Prop) (w : World) : Prop :=
  FN Try.prog 75 #[(.slice s_1 s_1l s_1c), (.int .i64 (IntKind.wrap .i64 ((s_1l : Int) - r_2)))] w (fun r_3 w_4 =>
  K (.tuple #[]) w_4)
  E
def plan70 : Plan := .leaf
noncomputable def code70 : Code := match Try.f70.body with | some c => c | none => .skip
theorem eq70 (s_1 : Option Addr) (s_1l s_1c : Nat) (r_2 : Int) (K : Value → World → Prop) (E : List PanicEntry → World → Prop) (w : World) : R70 s_1 s_1l s_1c r_2 K E w = ewp ctx code70 plan70 (retQ ctx.P Try.f70 K E) (argEnv [(.slice s_1 s_1l s_1c), (.int .i64 r_2)]) [] w := by kernel_rfl
theorem okc70 : okC Try.f70.ntmps (bif hasDefer code70 then [] else writes code70) code70 plan70 = true := by kernel_rfl
theorem R70_ok {s_1 : Option Addr} {s_1l s_1c : Nat} {r_2 : Int} {K : Value → World → Prop} {E : List PanicEntry → World → Prop} {w : World} (h : R70 s_1 s_1l s_1c r_2 K E w) : FN Try.prog 70 #[(.slice s_1 s_1l s_1c), (.int .i64 r_2)] w K E :=
  FN_of_ewp (C := ctx) ctx_ok ctx_mixed Try.func70 (c := code70) (by kernel_rfl) (args := [(.slice s_1 s_1l s_1c), (.int .i64 r_2)]) (Nat.le_of_ble_eq_true (by kernel_rfl)) okc70 (eq70 s_1 s_1l s_1c r_2 K E w ▸ h)

/-- slices.startIdx[concertina/api.Run] -/
def R71 (haystack_1 : Option Addr) (haystack_1l haystack_1c : Nat) (needle_2 : Option Addr) (needle_2l needle_2c : Nat) (K : Value → World → Prop) (E : List PanicEntry → World → Prop) (w : World) : Prop :=
  IDX 2 needle_2 needle_2l 0 (fun (a_3 : Addr) =>
  LOOP (S := (Int × Int × Unit)) (fun _ X_4 s w_5 => (fun (v_6 : Int) (v_7 : Int) =>
  BIF (decide (v_7 < (haystack_1l : Int)))
  (IDX 2 haystack_1 haystack_1l v_7 (fun (a_8 : Addr) =>
  OPW Try.prog (sB .eql 119 (.pointer (some a_3)) (.pointer (some a_8)) (eqGuard .eql 119 (.tmp 14) (.tmp 17) (.pointer (some a_3)) (.pointer (some a_8)))) w_5 (fun r_9 w_10 =>
  ∃ (v_11 : Bool), r_9 = (.bool v_11) ∧
  BIF v_11
  (K (.int .i64 v_7) w_10)
  (X_4 (v_6, (IntKind.wrap .i64 (v_7 + 1)), ()) w_10))
  E))
  (OPW Try.prog (sV (Instr.panic (.iface 9 (.string (ByteArray.mk #[110, 101, 101, 100, 108, 101, 32, 110, 111, 116, 32, 102, 111, 117, 110, 100]))))) w_5 (fun r_12 w_13 =>
  K (.int .i64 v_6) w_13)
  E)) s.1 s.2.1)
  (0, 0, ()) w)
def plan71 : Plan := (.two .leaf (.two .leaf (.two (.two .leaf (.loop [(4, (.one (.int .i64))), (11, (.one (.int .i64)))] (.two .leaf (.two (.two .leaf .leaf) (.two (.two .leaf (.two .leaf (.two (.two .leaf .leaf) .leaf))) .leaf))))) .leaf)))
noncomputable def code71 : Code := match Try.f71.body with | some c => c | none => .skip
theorem eq71 (haystack_1 : Option Addr) (haystack_1l haystack_1c : Nat) (needle_2 : Option Addr) (needle_2l needle_2c : Nat) (K : Value → World → Prop) (E : List PanicEntry → World → Prop) (w : World) : R71 haystack_1 haystack_1l haystack_1c needle_2 needle_2l needle_2c K E w = ewp ctx code71 plan71 (retQ ctx.P Try.f71 K E) (argEnv [(.slice haystack_1 haystack_1l haystack_1c), (.slice needle_2 needle_2l needle_2c)]) [] w := by kernel_rfl
theorem okc71 : okC Try.f71.ntmps (bif hasDefer code71 then [] else writes code71) code71 plan71 = true := by kernel_rfl
theorem R71_ok {haystack_1 : Option Addr} {haystack_1l haystack_1c : Nat} {needle_2 : Option Addr} {needle_2l needle_2c : Nat} {K : Value → World → Prop} {E : List PanicEntry → World → Prop} {w : World} (h : R71 haystack_1 haystack_1l haystack_1c needle_2 needle_2l needle_2c K E w) : FN Try.prog 71 #[(.slice haystack_1 haystack_1l haystack_1c), (.slice needle_2 needle_2l needle_2c)] w K E :=
  FN_of_ewp (C := ctx) ctx_ok ctx_mixed Try.func71 (c := code71) (by kernel_rfl) (args := [(.slice haystack_1 haystack_1l haystack_1c), (.slice needle_2 needle_2l needle_2c)]) (Nat.le_of_ble_eq_true (by kernel_rfl)) okc71 (eq71 haystack_1 haystack_1l haystack_1c needle_2 needle_2l needle_2c K E w ▸ h)

/-- slices.IndexFunc[[]concertina/api.Run,concertina/api.Run] -/
def R74 (s_1 : Option Addr) (s_1l s_1c : Nat) (f_2 : Nat) (f_2c : Array Value) (K : Value → World → Prop) (E : List PanicEntry → World → Prop) (w : World) : Prop :=
  LOOP (S := (Int × Unit)) (fun _ X_3 s w_4 => (fun (v_5 : Int) =>
  BIF (decide (v_5 < (s_1l : Int)))
  (IDX 2 s_1 s_1l v_5 (fun (a_6 : Addr) =>
  OPW Try.prog (sV (Instr.loadAt 56 (.pointer (some a_6)))) w_4 (fun r_7 w_8 =>
  ∃ (v_9 : Int) (v_10 : Int), r_7 = (.agg #[(.int .i64 v_9), (.int .i64 v_10)]) ∧
  CALLF Try.prog (ctx.bd f_2) f_2 ((([(.agg #[(.int .i64 v_9), (.int .i64 v_10)])] : List Value) ++ f_2c.toList).toArray) (sC (.func (.func f_2) #[] f_2c) #[(.agg #[(.int .i64 v_9), (.int .i64 v_10)])]) w_8 (fun r_11 w_12 =>
  ∃ (v_13 : Bool), r_11 = (.bool v_13) ∧
  BIF v_13
  (K (.int .i64 v_5) w_12)
  (X_3 ((IntKind.wrap .i64 (v_5 + 1)), ()) w_12))
  E)
  E))
  (K (.int .i64 (-1)) w_4)) s.1)
  (0, ()) w
def plan74 : Plan := (.two .leaf (.two (.two .leaf (.loop [(8, (.one (.int .i64)))] (.two .leaf (.two (.two .leaf .leaf) (.two (.two .leaf (.two .leaf (.two (.two .leaf .leaf) .leaf))) .leaf))))) (.two .leaf .leaf)))
noncomputable def code74 : Code := match Try.f74.body with | some c => c | none => .skip
theorem eq74 (s_1 : Option Addr) (s_1l s_1c : Nat) (f_2 : Nat) (f_2c : Array Value) (K : Value → World → Prop) (E : List PanicEntry → World → Prop) (w : World) : R74 s_1 s_1l s_1c f_2 f_2c K E w = ewp ctx code74 plan74 (retQ ctx.P Try.f74 K E) (argEnv [(.slice s_1 s_1l s_1c), (.func (.func f_2) #[] f_2c)]) [] w := by kernel_rfl
theorem okc74 : okC Try.f74.ntmps (bif hasDefer code74 then [] else writes code74) code74 plan74 = true := by kernel_rfl
theorem R74_ok {s_1 : Option Addr} {s_1l s_1c : Nat} {f_2 : Nat} {f_2c : Array Value} {K : Value → World → Prop} {E : List PanicEntry → World → Prop} {w : World} (h : R74 s_1 s_1l s_1c f_2 f_2c K E w) : FN Try.prog 74 #[(.slice s_1 s_1l s_1c), (.func (.func f_2) #[] f_2c)] w K E :=
  FN_of_ewp (C := ctx) ctx_ok ctx_mixed Try.func74 (c := code74) (by kernel_rfl) (args := [(.slice s_1 s_1l s_1c), (.func (.func f_2) #[] f_2c)]) (Nat.le_of_ble_eq_true (by kernel_rfl)) okc74 (eq74 s_1 s_1l s_1c f_2 f_2c K E w ▸ h)

/-- slices.rotateLeft[concertina/api.Run] -/
def R75 (s_1 : Option Addr) (s_1l s_1c : Nat) (r_2 : Int) (K : Value → World → Prop) (E : List PanicEntry → World → Prop) (w : World) : Prop :=
  OPW Try.prog (sV (Instr.sliceAt 52 (.slice s_1 s_1l s_1c) none (some (.int .i64 r_2)) none)) w (fun r_3 w_4 =>
  ∃ (v_5 : Option Addr) (v_5l v_5c : Nat), r_3 = (.slice v_5 v_5l v_5c) ∧
  FN Try.prog 77 #[(.slice v_5 v_5l v_5c)] w_4 (fun r_6 w_7 =>
  OPW Try.prog (sV (Instr.sliceAt 52 (.slice s_1 s_1l s_1c) (some (.int .i64 r_2)) none none)) w_7 (fun r_8 w_9 =>
  ∃ (v_10 : Option Addr) (v_10l v_10c : Nat), r_8 = (.slice v_10 v_10l v_10c) ∧
  FN Try.prog 77 #[(.slice v_10 v_10l v_10c)] w_9 (fun r_11 w_12 =>
  FN Try.prog 77 #[(.slice s_1 s_1l s_1c)] w_12 (fun r_13 w_14 =>
  K (.tuple #[]) w_14)
  E)
  E)
  E)
  E)
  E
def plan75 : Plan := (.two .leaf (.two .leaf .leaf))
noncomputable def code75 : Code := match Try.f75.body with | some c => c | none => .skip
theorem eq75 (s_1 : Option Addr) (s_1l s_1c : Nat) (r_2 : Int) (K : Value → World → Prop) (E : List PanicEntry → World → Prop) (w : World) : R75 s_1 s_1l s_1c r_2 K E w = ewp ctx code75 plan75 (retQ ctx.P Try.f75 K E) (argEnv [(.slice s_1 s_1l s_1c), (.int .i64 r_2)]) [] w := by kernel_rfl
theorem okc75 : okC Try.f75.ntmps (bif hasDefer code75 then [] else writes code75) code75 plan75 = true := by kernel_rfl
theorem R75_ok {s_1 : Option Addr} {s_1l s_1c : Nat} {r_2 : Int} {K : Value → World → Prop} {E : List PanicEntry → World → Prop} {w : World} (h : R75 s_1 s_1l s_1c r_2 K E w) : FN Try.prog 75 #[(.slice s_1 s_1l s_1c), (.int .i64 r_2)] w K E :=
  FN_of_ewp (C := ctx) ctx_ok ctx_mixed Try.func75 (c := code75) (by kernel_rfl) (args := [(.slice s_1 s_1l s_1c), (.int .i64 r_2)]) (Nat.le_of_ble_eq_true (by kernel_rfl)) okc75 (eq75 s_1 s_1l s_1c r_2 K E w ▸ h)

/-- slices.Reverse[[]concertina/api.Run,concertina/api.Run] -/
def R77 (s_1 : Option Addr) (s_1l s_1c : Nat) (K : Value → World → Prop) (E : List PanicEntry → World → Prop) (w : World) : Prop :=
  LOOP (S := (Int × Int × Unit)) (fun _ X_2 s w_3 => (fun (i_4 : Int) (j_5 : Int) =>
  BIF (decide (i_4 < j_5))
  (DRAW w_3 (fun (S_6 : World → World → Prop) (w_7 : World) =>
  IDX 2 s_1 s_1l j_5 (fun (a_8 : Addr) =>
  HELD Try.prog S_6 (sV (Instr.loadAt 56 (.pointer (some a_8)))) w_7 (fun r_9 =>
  ∃ (v_10 : Int) (v_11 : Int), r_9 = (.agg #[(.int .i64 v_10), (.int .i64 v_11)]) ∧
  IDX 2 s_1 s_1l i_4 (fun (a_12 : Addr) =>
  HELD Try.prog S_6 (sV (Instr.loadAt 56 (.pointer (some a_12)))) w_7 (fun r_13 =>
  ∃ (v_14 : Int) (v_15 : Int), r_13 = (.agg #[(.int .i64 v_14), (.int .i64 v_15)]) ∧
  IDX 2 s_1 s_1l i_4 (fun (a_16 : Addr) =>
  OPW Try.prog (sU (Instr.storeAt 56 (.pointer (some a_16)) (.agg #[(.int .i64 v_10), (.int .i64 v_11)]))) w_7 (fun r_17 w_18 =>
  IDX 2 s_1 s_1l j_5 (fun (a_19 : Addr) =>
  OPW Try.prog (sU (Instr.storeAt 56 (.pointer (some a_19)) (.agg #[(.int .i64 v_14), (.int .i64 v_15)]))) w_18 (fun r_20 w_21 =>
  X_2 ((IntKind.wrap .i64 (i_4 + 1)), (IntKind.wrap .i64 (j_5 - 1)), ()) w_21)
  E))
  E)))))))
  (K (.tuple #[]) w_3)) s.1 s.2.1)
  (0, (IntKind.wrap .i64 ((s_1l : Int) - 1)), ()) w
def plan77 : Plan := (.two .leaf (.loop [(2, (.one (.int .i64))), (3, (.one (.int .i64)))] (.two (.two .leaf (.two .leaf .leaf)) (.two (.draw (.take 0 (.take 1 (.take 2 (.take 3 (.take 4 (.take 5 (.take 6 (.take 7 (.take 8 (.take 9 (.take 10 (.take 11 (.take 12 (.cases [13] fun _ => (.take 14 (.cases [15] fun _ => .fin))))))))))))))))) .leaf))))
noncomputable def code77 : Code := match Try.f77.body with | some c => c | none => .skip
theorem eq77 (s_1 : Option Addr) (s_1l s_1c : Nat) (K : Value → World → Prop) (E : List PanicEntry → World → Prop) (w : World) : R77 s_1 s_1l s_1c K E w = ewp ctx code77 plan77 (retQ ctx.P Try.f77 K E) (argEnv [(.slice s_1 s_1l s_1c)]) [] w := by kernel_rfl
theorem okc77 : okC Try.f77.ntmps (bif hasDefer code77 then [] else writes code77) code77 plan77 = true := by kernel_rfl
theorem R77_ok {s_1 : Option Addr} {s_1l s_1c : Nat} {K : Value → World → Prop} {E : List PanicEntry → World → Prop} {w : World} (h : R77 s_1 s_1l s_1c K E w) : FN Try.prog 77 #[(.slice s_1 s_1l s_1c)] w K E :=
  FN_of_ewp (C := ctx) ctx_ok ctx_mixed Try.func77 (c := code77) (by kernel_rfl) (args := [(.slice s_1 s_1l s_1c)]) (Nat.le_of_ble_eq_true (by kernel_rfl)) okc77 (eq77 s_1 s_1l s_1c K E w ▸ h)

end Go.Proofs.Ytdabjchdmieegaa
