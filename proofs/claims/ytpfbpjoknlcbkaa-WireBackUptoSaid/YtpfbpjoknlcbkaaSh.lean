/-
  PRINTED BY MY OWN PROGRAM (gen.py) out of Lean's print of the seat's functions: each function's shallow form, and that a call does what it says.
-/
import Derived.Test.YtpfbpjoknlcbkaaProg
import Derived.Test.YtpfbpjoknlcbkaaVc
namespace Go.Proofs.Ytpfbpjoknlcbkaa
open Go.Vc
set_option linter.unusedVariables false
set_option maxRecDepth 100000
abbrev Fn.sluicelaw07_WireWrites : Nat := 3
abbrev Fn.sluicelaw07_WireReads : Nat := 4
abbrev Fn.sluicelaw07_WireBack : Nat := 5
abbrev Fn.sluicelaw07_WireOne : Nat := 6
abbrev Fn.sluicelaw07_WireSizes : Nat := 7
abbrev Fn.sluicelaw07_taken : Nat := 8
abbrev Fn.wire_NewWriter : Nat := 9
abbrev Fn.sluicelaw07_writes : Nat := 10
abbrev Fn.sluicelaw07_book_whole : Nat := 11
abbrev Fn.wire_Writer_Data : Nat := 12
abbrev Fn.wire_Writer_Err : Nat := 13
abbrev Fn.sluicelaw07_lent : Nat := 14
abbrev Fn.wire_NewReader : Nat := 15
abbrev Fn.sluicelaw07_kept : Nat := 16
abbrev Fn.sluiceref07_NewReader : Nat := 17
abbrev Fn.sluicelaw07_reads : Nat := 18
abbrev Fn.sluicelaw07_puts : Nat := 19
abbrev Fn.sluicelaw07_got : Nat := 20
abbrev Fn.wire_Reader_Err : Nat := 21
abbrev Fn.wire_Reader_At : Nat := 22
abbrev Fn.wire_Reader_End : Nat := 23
abbrev Fn.wire_Writer_Int : Nat := 24
abbrev Fn.wire_Reader_Int : Nat := 25
abbrev Fn.wire_Writer_Num : Nat := 26
abbrev Fn.wire_Reader_Num : Nat := 27
abbrev Fn.wire_Reader_Byte : Nat := 28
abbrev Fn.wire_Reader_Bytes : Nat := 29
abbrev Fn.wire_Writer_Byte : Nat := 30
abbrev Fn.wire_Writer_Bytes : Nat := 31
abbrev Fn.sluiceref07_Writer_Num : Nat := 32
abbrev Fn.sluiceref07_Writer_Int : Nat := 33
abbrev Fn.sluiceref07_Writer_Byte : Nat := 34
abbrev Fn.sluiceref07_Writer_Bytes : Nat := 35
abbrev Fn.sluicelaw07_book_keep : Nat := 36
abbrev Fn.sluicelaw07_apart : Nat := 37
abbrev Fn.slices_Clone_byte_byte : Nat := 38
abbrev Fn.sluiceref07_Reader_Num : Nat := 39
abbrev Fn.sluiceref07_Reader_Int : Nat := 40
abbrev Fn.sluiceref07_Reader_Byte : Nat := 41
abbrev Fn.sluiceref07_Reader_Bytes : Nat := 42
abbrev Fn.sluiceref07_Reader_End : Nat := 43
abbrev Fn.sluicelaw07_cut : Nat := 44
abbrev Fn.wire_Reader_off : Nat := 45
abbrev Fn.wire_status_fail : Nat := 46
abbrev Fn.wire_Writer_off : Nat := 47
abbrev Fn.wire_Reader_number : Nat := 48
abbrev Fn.sluiceref07_Writer_put : Nat := 49
abbrev Fn.sluiceref07_Form : Nat := 50
abbrev Fn.sluiceref07_Whole : Nat := 51
abbrev Fn.sluiceref07_number : Nat := 52
abbrev Fn.sluiceref07_Reader_take : Nat := 53
abbrev Fn.sluiceref07_back : Nat := 54
abbrev Fn.wire_status_failed : Nat := 55

theorem mixed : Try.prog.follows .mixedOrders = true := by kernel_rfl

/-- sluice/sluicelaw07.WireWrites -/
def Sh.sluicelaw07_WireWrites (P : Program) (a0 : Value) (w : World) (K : Value → World → Prop) (X : XPost) : Prop :=
  FCall P Fn.sluicelaw07_taken #[] w (fun x10_1 w_2 =>
  RunV P (Op.unary UnOp.not x10_1) w_2 (fun x11_3 w_4 =>
  Cond x11_3 (K (Value.bool false) w_4) (FCall P Fn.wire_NewWriter #[] w_4 (fun x12_5 w_6 =>
  FCall P Fn.wire_NewWriter #[] w_6 (fun x13_7 w_8 =>
  Share (fun vs_9 w_10 =>
  ∀ σ_9 : Env, RunV P (Instr.build 29 #[]) w_10 (fun x20_11 w_12 =>
  RunV P (Instr.box 29 x20_11) w_12 (fun x21_13 w_14 =>
  RunV P (Instr.build 29 #[]) w_14 (fun x22_15 w_16 =>
  RunV P (Instr.box 29 x22_15) w_16 (fun x23_17 w_18 =>
  RunV P (Instr.build 34 #[]) w_18 (fun x24_19 w_20 =>
  RunV P (Instr.box 34 x24_19) w_20 (fun x25_21 w_22 =>
  Share (fun vs_23 w_24 =>
  ∀ σ_23 : Env, FCall P Fn.sluicelaw07_book_whole #[x25_21] w_24 (fun x56_25 w_26 =>
  RunV P (Op.unary UnOp.not x56_25) w_26 (fun x57_27 w_28 =>
  Cond x57_27 (K (Value.bool false) w_28) (∃ S : World → Prop, S (World.drew w_28) ∧ TakeP P (nilc x21_13) fun x62_31 =>
  TakeP P (Instr.fieldAt 29 x62_31 0) fun x63_32 =>
  Take P (Instr.loadAt 27 x63_32) S fun x64_33 =>
  Take P (convert 27 9 x64_33) S fun x65_34 =>
  FCall P Fn.wire_Writer_Data #[x12_5] (World.drew w_28) (fun x59_35 w_36 =>
  Keep S w_36 (fun S_37 =>
  RunV P (convert 27 9 x59_35) w_36 (fun x60_38 w_39 =>
  Keep S_37 w_39 (fun S_40 =>
  TakeP P (bin BinOp.eql 9 false false x60_38 x65_34) fun x66_41 =>
  Share (fun vs_42 w_43 =>
  ∀ σ_42 : Env, Pick x66_41 (vs_42.getD 0 undef) (Value.bool false) fun x77_44 =>
  Share (fun vs_45 w_46 =>
  ∀ σ_45 : Env, Pick x77_44 (vs_45.getD 0 undef) (Value.bool false) fun x86_47 =>
  Guard x86_47 true (TakeP P (nilc x23_17) fun x91_48 =>
  TakeP P (Instr.fieldAt 29 x91_48 1) fun x92_49 =>
  Take P (Instr.loadAt 3 x92_49) S_40 fun x93_50 =>
  FCall P Fn.wire_Writer_Err #[x13_7] w_46 (fun x89_51 w_52 =>
  Keep S_40 w_52 (fun S_53 =>
  TakeP P (bin BinOp.eql 3 false false x89_51 x93_50) fun x94_54 =>
  Pick x86_47 x94_54 (Value.bool false) fun x95_55 =>
  K x95_55 w_52)) (fun _ _ =>
  False)) (Pick x86_47 undef (Value.bool false) fun x95_56 =>
  K x95_56 w_46)) (fun J_45 =>
  Guard x77_44 true (TakeP P (nilc x21_13) fun x82_57 =>
  TakeP P (Instr.fieldAt 29 x82_57 1) fun x83_58 =>
  Take P (Instr.loadAt 3 x83_58) S_40 fun x84_59 =>
  FCall P Fn.wire_Writer_Err #[x12_5] w_43 (fun x80_60 w_61 =>
  (S_40 w_61 ∧ TakeP P (bin BinOp.eql 3 false false x80_60 x84_59) fun x85_62 =>
  J_45 [x85_62] w_61)) (fun _ _ =>
  False)) (J_45 [undef] w_43))) (fun J_42 =>
  Guard x66_41 true (TakeP P (nilc x23_17) fun x72_63 =>
  TakeP P (Instr.fieldAt 29 x72_63 0) fun x73_64 =>
  Take P (Instr.loadAt 27 x73_64) S_40 fun x74_65 =>
  Take P (convert 27 9 x74_65) S_40 fun x75_66 =>
  FCall P Fn.wire_Writer_Data #[x13_7] w_39 (fun x69_67 w_68 =>
  (S_40 w_68 ∧ RunV P (convert 27 9 x69_67) w_68 (fun x70_69 w_70 =>
  (S_40 w_70 ∧ TakeP P (bin BinOp.eql 9 false false x70_69 x75_66) fun x76_71 =>
  J_42 [x76_71] w_70)) (fun _ _ =>
  False))) (fun _ _ =>
  False)) (J_42 [undef] w_39)))) (fun _ _ =>
  False))) (fun _ _ =>
  False))) X) X) (fun J_23 =>
  FLoop (fun vs_72 w_73 k_74 =>
  ∀ σ_72 : Env, RunV P (Builtin.len_ #[22] 3 #[a0]) w_73 (fun x28_75 w_76 =>
  RunV P (bin BinOp.lss 3 false false (vs_72.getD 0 undef) x28_75) w_76 (fun x29_77 w_78 =>
  Cond x29_77 (Share (fun vs_79 w_80 =>
  ∀ σ_79 : Env, RunV P (Op.unary UnOp.not (vs_79.getD 0 undef)) w_80 (fun x54_81 w_82 =>
  Cond x54_81 (K (Value.bool false) w_82) (RunV P (bin BinOp.add 3 false true (vs_72.getD 0 undef) (Value.int IntKind.i64 1)) w_82 (fun x31_83 w_84 =>
  k_74 [x31_83] w_84) X)) X) (fun J_79 =>
  RunV P (Instr.indexAt 22 a0 (vs_72.getD 0 undef)) w_78 (fun x34_85 w_86 =>
  RunV P (Instr.fieldAt 37 x34_85 1) w_86 (fun x35_87 w_88 =>
  RunV P (Instr.loadAt 4 x35_87) w_88 (fun x36_89 w_90 =>
  Cond x36_89 (RunV P (Instr.indexAt 22 a0 (vs_72.getD 0 undef)) w_90 (fun x41_91 w_92 =>
  RunV P (Instr.loadAt 37 x41_91) w_92 (fun x42_93 w_94 =>
  FCall P Fn.sluicelaw07_writes #[x13_7, x23_17, x42_93, x25_21] w_94 (fun x44_95 w_96 =>
  J_79 [x44_95] w_96) X) X) X) (RunV P (Instr.indexAt 22 a0 (vs_72.getD 0 undef)) w_90 (fun x49_97 w_98 =>
  RunV P (Instr.loadAt 37 x49_97) w_98 (fun x50_99 w_100 =>
  FCall P Fn.sluicelaw07_writes #[x12_5, x21_13, x50_99, x25_21] w_100 (fun x52_101 w_102 =>
  J_79 [x52_101] w_102) X) X) X)) X) X) X)) (J_23 [] w_78)) X) X) [(Value.int IntKind.i64 0)] w_22)) X) X) X) X) X) X) (fun J_9 =>
  RunV P (bin BinOp.eql 24 false true x12_5 (Value.pointer none)) w_8 (fun x15_103 w_104 =>
  Guard x15_103 false (RunV P (bin BinOp.eql 24 false true x13_7 (Value.pointer none)) w_104 (fun x18_105 w_106 =>
  Pick x15_103 (Value.bool true) x18_105 fun x19_107 =>
  Cond x19_107 (K (Value.bool false) w_106) (J_9 [] w_106)) X) (Pick x15_103 (Value.bool true) undef fun x19_108 =>
  Cond x19_108 (K (Value.bool false) w_104) (J_9 [] w_104))) X)) X) X)) X) X
theorem sluicelaw07_WireWrites_call {a0 : Value} {w : World} {K : Value → World → Prop} {X : XPost} (h : Sh.sluicelaw07_WireWrites Try.prog a0 w K X) : FCall Try.prog Fn.sluicelaw07_WireWrites #[a0] w K X :=
  call_of_sh (n := 96) (ts := [2]) (args := [a0]) h (.seq .nil (.seq .nil (.seq .nil (.seq .nil (.join [] [2, 14, 15, 16, 17, 18, 19] (.seq (.ops [(3, none), (2, none), (1, none)]) .nil) (.seq .nil (.seq .nil (.seq .nil (.join [] [2, 8, 9, 26, 27, 28, 29, 30, 31, 32, 33, 34, 35, 36, 37, 38, 39, 40, 41, 42, 43, 44, 45, 46, 47, 48, 49, 50, 51, 52, 53, 54] (.seq .nil (.one (.loop [8] [2, 8, 9, 26, 27, 28, 29, 30, 31, 32, 33, 34, 35, 36, 37, 38, 39, 40, 41, 42, 43, 44, 45, 46, 47, 48, 49, 50, 51, 52, 53, 54] (.seq .nil (.seq (.one (.seq .nil (.join [9] [9, 32, 33, 34, 35, 36, 37, 38, 39, 40, 41, 42, 43, 44, 45, 46, 47, 48, 49, 50, 51, 52] .nil .nil))) .nil))))) (.seq .nil (.seq (.draw [(0, 0), (0, 3), (0, 4), (0, 5), (1, 6), (1, 7), (2, 1), (2, 2), (0, 8), (0, 9), (0, 10), (0, 13), (0, 14), (0, 15), (1, 16), (1, 17), (2, 11), (2, 12), (0, 18), (0, 19), (0, 20), (0, 21), (0, 23), (0, 24), (0, 25), (1, 26), (2, 22), (0, 27), (0, 28), (0, 29), (0, 30), (0, 32), (0, 33), (0, 34), (1, 35), (2, 31), (0, 36), (0, 37), (0, 38)] [(10, none), (9, some ([76], [68, 69, 70, 71, 72, 73, 74, 75, 76])), (2, none), (7, some ([85], [79, 80, 81, 82, 83, 84, 85])), (2, none), (7, none), (2, none)]) .nil))))))))))) mixed Try.func3 rfl Try.ntmps3 (Nat.le_of_ble_eq_true rfl) (res1 (P := Try.prog) (fn := Try.f3) rfl) (fun _ => by kernel_rfl) (by kernel_rfl) (by kernel_rfl)

/-- sluice/sluicelaw07.WireReads -/
def Sh.sluicelaw07_WireReads (P : Program) (a0 a1 a2 : Value) (w : World) (K : Value → World → Prop) (X : XPost) : Prop :=
  FCall P Fn.sluicelaw07_taken #[] w (fun x16_1 w_2 =>
  RunV P (Op.unary UnOp.not x16_1) w_2 (fun x17_3 w_4 =>
  Cond x17_3 (K (Value.bool false) w_4) (FCall P Fn.sluicelaw07_lent #[a0] w_4 (fun x19_5 w_6 =>
  FCall P Fn.wire_NewReader #[x19_5] w_6 (fun x21_7 w_8 =>
  RunV P (Instr.buildSlice 27 0 #[]) w_8 (fun x22_9 w_10 =>
  RunV P (Builtin.append_ #[27, 27] 27 #[x22_9, a1]) w_10 (fun x24_11 w_12 =>
  FCall P Fn.wire_NewReader #[x24_11] w_12 (fun x25_13 w_14 =>
  Share (fun vs_15 w_16 =>
  ∀ σ_15 : Env, Share (fun vs_17 w_18 =>
  ∀ σ_17 : Env, FCall P Fn.sluiceref07_NewReader #[a0] w_18 (fun x53_19 w_20 =>
  FCall P Fn.sluiceref07_NewReader #[a1] w_20 (fun x55_21 w_22 =>
  RunV P (Instr.build 34 #[]) w_22 (fun x56_23 w_24 =>
  RunV P (Instr.box 34 x56_23) w_24 (fun x57_25 w_26 =>
  Share (fun vs_27 w_28 =>
  ∀ σ_27 : Env, FCall P Fn.sluicelaw07_book_whole #[x57_25] w_28 (fun x88_29 w_30 =>
  K x88_29 w_30) X) (fun J_27 =>
  FLoop (fun vs_31 w_32 k_33 =>
  ∀ σ_31 : Env, RunV P (Builtin.len_ #[22] 3 #[a2]) w_32 (fun x60_34 w_35 =>
  RunV P (bin BinOp.lss 3 false false (vs_31.getD 0 undef) x60_34) w_35 (fun x61_36 w_37 =>
  Cond x61_36 (Share (fun vs_38 w_39 =>
  ∀ σ_38 : Env, RunV P (Op.unary UnOp.not (vs_38.getD 0 undef)) w_39 (fun x86_40 w_41 =>
  Cond x86_40 (K (Value.bool false) w_41) (RunV P (bin BinOp.add 3 false true (vs_31.getD 0 undef) (Value.int IntKind.i64 1)) w_41 (fun x63_42 w_43 =>
  k_33 [x63_42] w_43) X)) X) (fun J_38 =>
  RunV P (Instr.indexAt 22 a2 (vs_31.getD 0 undef)) w_37 (fun x66_44 w_45 =>
  RunV P (Instr.fieldAt 37 x66_44 1) w_45 (fun x67_46 w_47 =>
  RunV P (Instr.loadAt 4 x67_46) w_47 (fun x68_48 w_49 =>
  Cond x68_48 (RunV P (Instr.indexAt 22 a2 (vs_31.getD 0 undef)) w_49 (fun x73_50 w_51 =>
  RunV P (Instr.loadAt 37 x73_50) w_51 (fun x74_52 w_53 =>
  FCall P Fn.sluicelaw07_reads #[x25_13, x55_21, x74_52, x57_25] w_53 (fun x76_54 w_55 =>
  J_38 [x76_54] w_55) X) X) X) (RunV P (Instr.indexAt 22 a2 (vs_31.getD 0 undef)) w_49 (fun x81_56 w_57 =>
  RunV P (Instr.loadAt 37 x81_56) w_57 (fun x82_58 w_59 =>
  FCall P Fn.sluicelaw07_reads #[x21_7, x53_19, x82_58, x57_25] w_59 (fun x84_60 w_61 =>
  J_38 [x84_60] w_61) X) X) X)) X) X) X)) (J_27 [] w_37)) X) X) [(Value.int IntKind.i64 0)] w_26)) X) X) X) X) (fun J_17 =>
  FLoop (fun vs_62 w_63 k_64 =>
  ∀ σ_62 : Env, RunV P (Builtin.len_ #[27] 3 #[x19_5]) w_63 (fun x40_65 w_66 =>
  RunV P (bin BinOp.lss 3 false false (vs_62.getD 0 undef) x40_65) w_66 (fun x41_67 w_68 =>
  Cond x41_67 (RunV P (Instr.indexAt 27 x19_5 (vs_62.getD 0 undef)) w_68 (fun x48_69 w_70 =>
  RunV P (Instr.loadAt 5 x48_69) w_70 (fun x49_71 w_72 =>
  RunV P (bin BinOp.xor 5 false true x49_71 (Value.int IntKind.u8 85)) w_72 (fun x50_73 w_74 =>
  RunV P (Instr.indexAt 27 x19_5 (vs_62.getD 0 undef)) w_74 (fun x51_75 w_76 =>
  RunU P (Instr.storeAt 5 x51_75 x50_73) w_76 (fun w_77 =>
  RunV P (bin BinOp.add 3 false true (vs_62.getD 0 undef) (Value.int IntKind.i64 1)) w_77 (fun x43_78 w_79 =>
  k_64 [x43_78] w_79) X) X) X) X) X) X) (J_17 [] w_68)) X) X) [(Value.int IntKind.i64 0)] w_16)) (fun J_15 =>
  RunV P (bin BinOp.eql 44 false true x21_7 (Value.pointer none)) w_14 (fun x27_80 w_81 =>
  Share (fun vs_82 w_83 =>
  ∀ σ_82 : Env, Pick x27_80 (Value.bool true) (vs_82.getD 0 undef) fun x31_84 =>
  Guard x31_84 false (FCall P Fn.sluicelaw07_kept #[x19_5, a0] w_83 (fun x35_85 w_86 =>
  RunV P (Op.unary UnOp.not x35_85) w_86 (fun x36_87 w_88 =>
  Pick x31_84 (Value.bool true) x36_87 fun x37_89 =>
  Cond x37_89 (K (Value.bool false) w_88) (J_15 [] w_88)) X) X) (Pick x31_84 (Value.bool true) undef fun x37_90 =>
  Cond x37_90 (K (Value.bool false) w_83) (J_15 [] w_83))) (fun J_82 =>
  Guard x27_80 false (RunV P (bin BinOp.eql 44 false true x25_13 (Value.pointer none)) w_81 (fun x30_91 w_92 =>
  J_82 [x30_91] w_92) X) (J_82 [undef] w_81))) X)) X) X) X) X) X)) X) X
theorem sluicelaw07_WireReads_call {a0 a1 a2 : Value} {w : World} {K : Value → World → Prop} {X : XPost} (h : Sh.sluicelaw07_WireReads Try.prog a0 a1 a2 w K X) : FCall Try.prog Fn.sluicelaw07_WireReads #[a0, a1, a2] w K X :=
  call_of_sh (n := 89) (ts := [6]) (args := [a0, a1, a2]) h (.seq .nil (.seq .nil (.seq .nil (.seq .nil (.seq .nil (.join [] [6, 26, 27, 28, 29, 30, 31, 32, 33, 34, 35, 36, 37] (.seq (.ops [(3, none), (2, some ([30], [29, 30])), (2, none), (4, none), (1, none)]) .nil) (.join [] [10, 38, 39, 40, 41, 42, 43, 44, 45, 46, 47, 48, 49, 50, 51] (.seq .nil (.one (.loop [10] [10, 38, 39, 40, 41, 42, 43, 44, 45, 46, 47, 48, 49, 50, 51] .nil))) (.seq .nil (.seq .nil (.seq .nil (.join [] [6, 14, 15, 58, 59, 60, 61, 62, 63, 64, 65, 66, 67, 68, 69, 70, 71, 72, 73, 74, 75, 76, 77, 78, 79, 80, 81, 82, 83, 84, 85, 86] (.seq .nil (.one (.loop [14] [6, 14, 15, 58, 59, 60, 61, 62, 63, 64, 65, 66, 67, 68, 69, 70, 71, 72, 73, 74, 75, 76, 77, 78, 79, 80, 81, 82, 83, 84, 85, 86] (.seq .nil (.seq (.one (.seq .nil (.join [15] [15, 64, 65, 66, 67, 68, 69, 70, 71, 72, 73, 74, 75, 76, 77, 78, 79, 80, 81, 82, 83, 84] .nil .nil))) .nil))))) .nil))))))))))) mixed Try.func4 rfl Try.ntmps4 (Nat.le_of_ble_eq_true rfl) (res1 (P := Try.prog) (fn := Try.f4) rfl) (fun _ => by kernel_rfl) (by kernel_rfl) (by kernel_rfl)

/-- sluice/sluicelaw07.WireBack -/
def Sh.sluicelaw07_WireBack (P : Program) (a0 a1 : Value) (w : World) (K : Value → World → Prop) (X : XPost) : Prop :=
  FCall P Fn.sluicelaw07_taken #[] w (fun x12_1 w_2 =>
  RunV P (Op.unary UnOp.not x12_1) w_2 (fun x13_3 w_4 =>
  Cond x13_3 (K (Value.bool false) w_4) (FCall P Fn.sluicelaw07_puts #[a0] w_4 (fun x16_5 w_6 =>
  RunV P (Instr.extract x16_5 0) w_6 (fun x17_7 w_8 =>
  RunV P (Instr.extract x16_5 1) w_8 (fun x18_9 w_10 =>
  RunV P (Builtin.len_ #[51] 3 #[x18_9]) w_10 (fun x20_11 w_12 =>
  RunV P (Builtin.len_ #[22] 3 #[a0]) w_12 (fun x22_13 w_14 =>
  RunV P (bin BinOp.neq 3 false false x20_11 x22_13) w_14 (fun x23_15 w_16 =>
  Cond x23_15 (K (Value.bool false) w_16) (FCall P Fn.wire_NewReader #[x17_7] w_16 (fun x25_17 w_18 =>
  RunV P (bin BinOp.eql 44 false true x25_17 (Value.pointer none)) w_18 (fun x27_19 w_20 =>
  Cond x27_19 (K (Value.bool false) w_20) (Share (fun vs_21 w_22 =>
  ∀ σ_21 : Env, FCall P Fn.wire_Reader_End #[x25_17] w_22 (fun x56_23 w_24 =>
  FCall P Fn.wire_Reader_Err #[x25_17] w_24 (fun x58_25 w_26 =>
  RunV P (bin BinOp.neq 40 false true x58_25 (Value.int IntKind.i64 0)) w_26 (fun x59_27 w_28 =>
  Cond x59_27 (K (Value.bool false) w_28) (Share (fun vs_29 w_30 =>
  ∀ σ_29 : Env, RunV P (Instr.sliceAt 27 x17_7 none (some a1) none) w_30 (fun x70_31 w_32 =>
  FCall P Fn.wire_NewReader #[x70_31] w_32 (fun x71_33 w_34 =>
  Share (fun vs_35 w_36 =>
  ∀ σ_35 : Env, FLoop (fun vs_39 w_40 k_41 =>
  ∀ σ_39 : Env, RunV P (Builtin.len_ #[22] 3 #[a0]) w_40 (fun x100_42 w_43 =>
  RunV P (bin BinOp.lss 3 false false (vs_39.getD 0 undef) x100_42) w_43 (fun x101_44 w_45 =>
  Cond x101_44 (RunV P (Instr.indexAt 51 x18_9 (vs_39.getD 0 undef)) w_45 (fun x106_46 w_47 =>
  RunV P (Instr.loadAt 3 x106_46) w_47 (fun x107_48 w_49 =>
  RunV P (bin BinOp.gtr 3 false false x107_48 a1) w_49 (fun x109_50 w_51 =>
  Cond x109_50 (RunV P (Instr.indexAt 22 a0 (vs_39.getD 0 undef)) w_51 (fun x113_52 w_53 =>
  RunV P (Instr.loadAt 37 x113_52) w_53 (fun x114_54 w_55 =>
  FCall P Fn.sluicelaw07_got #[x71_33, x114_54] w_55 (fun x115_56 w_57 =>
  FCall P Fn.wire_Reader_Err #[x71_33] w_57 (fun x117_58 w_59 =>
  RunV P (bin BinOp.eql 40 false true x117_58 (Value.int IntKind.i64 30)) w_59 (fun x118_60 w_61 =>
  K x118_60 w_61) X) X) X) X) X) (RunV P (bin BinOp.add 3 false true (vs_39.getD 0 undef) (Value.int IntKind.i64 1)) w_51 (fun x103_62 w_63 =>
  k_41 [x103_62] w_63) X)) X) X) X) (K (Value.bool false) w_45)) X) X) [(Value.int IntKind.i64 0)] w_36) (fun J_35 =>
  FLoop (fun vs_64 w_65 k_66 =>
  ∀ σ_64 : Env, Share (fun vs_67 w_68 =>
  ∀ σ_67 : Env, Share (fun vs_69 w_70 =>
  ∀ σ_69 : Env, RunV P (bin BinOp.add 3 false true (vs_64.getD 0 undef) (Value.int IntKind.i64 1)) w_70 (fun x85_71 w_72 =>
  k_66 [x85_71] w_72) X) (fun J_69 =>
  RunV P (Instr.indexAt 22 a0 (vs_64.getD 0 undef)) w_68 (fun x89_73 w_74 =>
  RunV P (Instr.loadAt 37 x89_73) w_74 (fun x90_75 w_76 =>
  FCall P Fn.sluicelaw07_got #[x71_33, x90_75] w_76 (fun x91_77 w_78 =>
  RunV P (Op.unary UnOp.not x91_77) w_78 (fun x92_79 w_80 =>
  Guard x92_79 false (FCall P Fn.wire_Reader_Err #[x71_33] w_80 (fun x95_81 w_82 =>
  RunV P (bin BinOp.neq 40 false true x95_81 (Value.int IntKind.i64 0)) w_82 (fun x96_83 w_84 =>
  Pick x92_79 (Value.bool true) x96_83 fun x97_85 =>
  Cond x97_85 (K (Value.bool false) w_84) (J_69 [] w_84)) X) X) (Pick x92_79 (Value.bool true) undef fun x97_86 =>
  Cond x97_86 (K (Value.bool false) w_80) (J_69 [] w_80))) X) X) X) X)) (fun J_67 =>
  RunV P (Builtin.len_ #[22] 3 #[a0]) w_65 (fun x74_87 w_88 =>
  RunV P (bin BinOp.lss 3 false false (vs_64.getD 0 undef) x74_87) w_88 (fun x75_89 w_90 =>
  Guard x75_89 true (RunV P (Instr.indexAt 51 x18_9 (vs_64.getD 0 undef)) w_90 (fun x79_91 w_92 =>
  RunV P (Instr.loadAt 3 x79_91) w_92 (fun x80_93 w_94 =>
  RunV P (bin BinOp.leq 3 false false x80_93 a1) w_94 (fun x82_95 w_96 =>
  Pick x75_89 x82_95 (Value.bool false) fun x83_97 =>
  Cond x83_97 (J_67 [] w_96) (J_35 [] w_96)) X) X) X) (Pick x75_89 undef (Value.bool false) fun x83_98 =>
  Cond x83_98 (J_67 [] w_90) (J_35 [] w_90))) X) X)) [(Value.int IntKind.i64 0)] w_34)) X) X) (fun J_29 =>
  RunV P (bin BinOp.lss 3 false true a1 (Value.int IntKind.i64 0)) w_28 (fun x61_99 w_100 =>
  Guard x61_99 false (RunV P (Builtin.len_ #[27] 3 #[x17_7]) w_100 (fun x65_101 w_102 =>
  RunV P (bin BinOp.geq 3 false false a1 x65_101) w_102 (fun x66_103 w_104 =>
  Pick x61_99 (Value.bool true) x66_103 fun x67_105 =>
  Cond x67_105 (K (Value.bool true) w_104) (J_29 [] w_104)) X) X) (Pick x61_99 (Value.bool true) undef fun x67_106 =>
  Cond x67_106 (K (Value.bool true) w_100) (J_29 [] w_100))) X))) X) X) X) (fun J_21 =>
  FLoop (fun vs_107 w_108 k_109 =>
  ∀ σ_107 : Env, RunV P (Builtin.len_ #[22] 3 #[a0]) w_108 (fun x30_110 w_111 =>
  RunV P (bin BinOp.lss 3 false false (vs_107.getD 0 undef) x30_110) w_111 (fun x31_112 w_113 =>
  Cond x31_112 (Share (fun vs_114 w_115 =>
  ∀ σ_114 : Env, RunV P (bin BinOp.add 3 false true (vs_107.getD 0 undef) (Value.int IntKind.i64 1)) w_115 (fun x33_116 w_117 =>
  k_109 [x33_116] w_117) X) (fun J_114 =>
  ∃ S : World → Prop, S (World.drew w_113) ∧ TakeP P (Instr.indexAt 22 a0 (vs_107.getD 0 undef)) fun x37_118 =>
  RunV P (Instr.loadAt 37 x37_118) (World.drew w_113) (fun x38_119 w_120 =>
  Keep S w_120 (fun S_121 =>
  FCall P Fn.sluicelaw07_got #[x25_17, x38_119] w_120 (fun x39_122 w_123 =>
  Keep S_121 w_123 (fun S_124 =>
  TakeP P (Op.unary UnOp.not x39_122) fun x40_125 =>
  Share (fun vs_126 w_127 =>
  ∀ σ_126 : Env, Pick x40_125 (Value.bool true) (vs_126.getD 0 undef) fun x45_128 =>
  Guard x45_128 false (TakeP P (Instr.indexAt 51 x18_9 (vs_107.getD 0 undef)) fun x51_129 =>
  Take P (Instr.loadAt 3 x51_129) S_124 fun x52_130 =>
  FCall P Fn.wire_Reader_At #[x25_17] w_127 (fun x48_131 w_132 =>
  Keep S_124 w_132 (fun S_133 =>
  TakeP P (bin BinOp.neq 3 false false x48_131 x52_130) fun x53_134 =>
  Pick x45_128 (Value.bool true) x53_134 fun x54_135 =>
  Cond x54_135 (K (Value.bool false) w_132) (J_114 [] w_132))) (fun _ _ =>
  False)) (Pick x45_128 (Value.bool true) undef fun x54_136 =>
  Cond x54_136 (K (Value.bool false) w_127) (J_114 [] w_127))) (fun J_126 =>
  Guard x40_125 false (FCall P Fn.wire_Reader_Err #[x25_17] w_123 (fun x43_137 w_138 =>
  (S_124 w_138 ∧ TakeP P (bin BinOp.neq 40 false true x43_137 (Value.int IntKind.i64 0)) fun x44_139 =>
  J_126 [x44_139] w_138)) (fun _ _ =>
  False)) (J_126 [undef] w_123)))) (fun _ _ =>
  False))) (fun _ _ =>
  False))) (J_21 [] w_113)) X) X) [(Value.int IntKind.i64 0)] w_20))) X) X)) X) X) X) X) X) X)) X) X
theorem sluicelaw07_WireBack_call {a0 a1 : Value} {w : World} {K : Value → World → Prop} {X : XPost} (h : Sh.sluicelaw07_WireBack Try.prog a0 a1 w K X) : FCall Try.prog Fn.sluicelaw07_WireBack #[a0, a1] w K X :=
  call_of_sh (n := 119) (ts := [4]) (args := [a0, a1]) h (.seq .nil (.seq .nil (.seq .nil (.seq .nil (.seq .nil (.seq .nil (.join [] [4, 8, 28, 29, 30, 31, 32, 33, 34, 35, 36, 37, 38, 39, 40, 41, 42, 43, 44, 45, 46, 47, 48, 49, 50, 51, 52, 53, 54] (.seq .nil (.one (.loop [8] [4, 8, 28, 29, 30, 31, 32, 33, 34, 35, 36, 37, 38, 39, 40, 41, 42, 43, 44, 45, 46, 47, 48, 49, 50, 51, 52, 53, 54] (.seq .nil (.join [] [4, 34, 35, 36, 37, 38, 39, 40, 41, 42, 43, 44, 45, 46, 47, 48, 49, 50, 51, 52, 53, 54] (.one (.seq (.draw [(0, 0), (0, 1), (0, 2), (0, 3), (2, 4), (2, 5), (0, 6), (0, 7), (0, 8), (2, 9), (0, 10), (0, 11), (0, 12), (0, 13), (0, 15), (0, 16), (0, 17), (1, 18), (2, 14), (0, 19), (0, 20)] [(8, none), (3, some ([44], [42, 43, 44])), (2, none), (7, none), (1, none)]) .nil)) .nil))))) (.seq .nil (.seq .nil (.join [] [4, 60, 61, 62, 63, 64, 65, 66, 67] (.seq (.ops [(3, none), (4, none), (1, none)]) .nil) (.seq .nil (.join [] [4, 10, 72, 73, 74, 75, 76, 77, 78, 79, 80, 81, 82, 83, 84, 85, 86, 87, 88, 89, 90, 91, 92, 93, 94, 95, 96, 97] (.seq .nil (.one (.loop [10] [4, 10, 72, 73, 74, 75, 76, 77, 78, 79, 80, 81, 82, 83, 84, 85, 86, 87, 88, 89, 90, 91, 92, 93, 94, 95, 96, 97] (.join [] [72, 73, 74, 75, 76, 77, 78, 79, 80, 81, 82, 83] (.seq (.ops [(5, none), (6, none), (1, none)]) .nil) (.join [] [4, 86, 87, 88, 89, 90, 91, 92, 93, 94, 95, 96, 97] (.one (.seq (.ops [(8, none), (3, none), (1, none)]) .nil)) .nil))))) (.seq (.seq .nil (.one (.loop [11] [4, 11, 98, 99, 100, 101, 102, 103, 104, 105, 106, 107, 108, 109, 110, 111, 112, 113, 114, 115, 116, 117, 118] .nil))) .nil))))))))))))) mixed Try.func5 rfl Try.ntmps5 (Nat.le_of_ble_eq_true rfl) (res1 (P := Try.prog) (fn := Try.f5) rfl) (fun _ => by kernel_rfl) (by kernel_rfl) (by kernel_rfl)

/-- sluice/sluicelaw07.WireOne -/
def Sh.sluicelaw07_WireOne (P : Program) (a0 a1 a2 : Value) (w : World) (K : Value → World → Prop) (X : XPost) : Prop :=
  FCall P Fn.sluicelaw07_taken #[] w (fun x10_1 w_2 =>
  RunV P (Op.unary UnOp.not x10_1) w_2 (fun x11_3 w_4 =>
  Cond x11_3 (K (Value.bool false) w_4) (RunV P (Instr.buildSlice 27 0 #[]) w_4 (fun x12_5 w_6 =>
  RunV P (Builtin.append_ #[27, 27] 27 #[x12_5, a0]) w_6 (fun x14_7 w_8 =>
  FCall P Fn.wire_NewReader #[x14_7] w_8 (fun x15_9 w_10 =>
  FCall P Fn.wire_NewWriter #[] w_10 (fun x16_11 w_12 =>
  Share (fun vs_13 w_14 =>
  ∀ σ_13 : Env, Share (fun vs_15 w_16 =>
  ∀ σ_15 : Env, FCall P Fn.wire_Reader_Err #[x15_9] w_16 (fun x34_17 w_18 =>
  RunV P (bin BinOp.eql 40 false true x34_17 (Value.int IntKind.i64 0)) w_18 (fun x36_19 w_20 =>
  Cond x36_19 (∃ S : World → Prop, S (World.drew w_20) ∧ FCall P Fn.wire_Reader_At #[x15_9] (World.drew w_20) (fun x38_21 w_22 =>
  Keep S w_22 (fun S_23 =>
  TakeP P (bin BinOp.geq 3 false true x38_21 (Value.int IntKind.i64 1)) fun x39_24 =>
  Share (fun vs_25 w_26 =>
  ∀ σ_25 : Env, Pick x39_24 (vs_25.getD 0 undef) (Value.bool false) fun x44_27 =>
  Share (fun vs_28 w_29 =>
  ∀ σ_28 : Env, Pick x44_27 (vs_28.getD 0 undef) (Value.bool false) fun x51_30 =>
  Guard x51_30 true (FCall P Fn.wire_Writer_Data #[x16_11] w_29 (fun x54_31 w_32 =>
  Keep S_23 w_32 (fun S_33 =>
  Take P (convert 27 9 x54_31) S_33 fun x55_34 =>
  FCall P Fn.wire_Reader_At #[x15_9] w_32 (fun x58_35 w_36 =>
  Keep S_33 w_36 (fun S_37 =>
  TakeP P (Instr.sliceAt 27 a0 none (some x58_35) none) fun x59_38 =>
  RunV P (convert 27 9 x59_38) w_36 (fun x60_39 w_40 =>
  Keep S_37 w_40 (fun S_41 =>
  TakeP P (bin BinOp.eql 9 false false x55_34 x60_39) fun x61_42 =>
  Pick x51_30 x61_42 (Value.bool false) fun x62_43 =>
  K x62_43 w_40)) (fun _ _ =>
  False))) (fun _ _ =>
  False))) (fun _ _ =>
  False)) (Pick x51_30 undef (Value.bool false) fun x62_44 =>
  K x62_44 w_29)) (fun J_28 =>
  Guard x44_27 true (TakeP P (Builtin.len_ #[27] 3 #[a0]) fun x49_45 =>
  FCall P Fn.wire_Reader_At #[x15_9] w_26 (fun x47_46 w_47 =>
  (S_23 w_47 ∧ TakeP P (bin BinOp.leq 3 false false x47_46 x49_45) fun x50_48 =>
  J_28 [x50_48] w_47)) (fun _ _ =>
  False)) (J_28 [undef] w_26))) (fun J_25 =>
  Guard x39_24 true (FCall P Fn.wire_Reader_At #[x15_9] w_22 (fun x42_49 w_50 =>
  (S_23 w_50 ∧ TakeP P (bin BinOp.leq 3 false true x42_49 (Value.int IntKind.i64 10)) fun x43_51 =>
  J_25 [x43_51] w_50)) (fun _ _ =>
  False)) (J_25 [undef] w_22)))) (fun _ _ =>
  False)) (Share (fun vs_52 w_53 =>
  ∀ σ_52 : Env, FCall P Fn.wire_Reader_End #[x15_9] w_53 (fun x86_54 w_55 =>
  FCall P Fn.wire_Reader_Byte #[x15_9] w_55 (fun x88_58 w_59 =>
  RunV P (bin BinOp.eql 5 false true x88_58 (Value.int IntKind.u8 0)) w_59 (fun x89_60 w_61 =>
  Share (fun vs_62 w_63 =>
  ∀ σ_62 : Env, Pick x89_60 (vs_62.getD 0 undef) (Value.bool false) fun x95_64 =>
  Share (fun vs_65 w_66 =>
  ∀ σ_65 : Env, Pick x95_64 (vs_65.getD 0 undef) (Value.bool false) fun x100_67 =>
  Share (fun vs_68 w_69 =>
  ∀ σ_68 : Env, Pick x100_67 (vs_68.getD 0 undef) (Value.bool false) fun x105_70 =>
  Share (fun vs_71 w_72 =>
  ∀ σ_71 : Env, Pick x105_70 (vs_71.getD 0 undef) (Value.bool false) fun x111_73 =>
  Guard x111_73 true (FCall P Fn.wire_Reader_At #[x15_9] w_72 (fun x114_74 w_75 =>
  RunV P (bin BinOp.eql 3 false true x114_74 (Value.int IntKind.i64 0)) w_75 (fun x115_76 w_77 =>
  Pick x111_73 x115_76 (Value.bool false) fun x116_78 =>
  K x116_78 w_77) X) X) (Pick x111_73 undef (Value.bool false) fun x116_79 =>
  K x116_79 w_72)) (fun J_71 =>
  Guard x105_70 true (FCall P Fn.wire_Reader_Err #[x15_9] w_69 (fun x108_80 w_81 =>
  RunV P (bin BinOp.eql 40 false false x108_80 x34_17) w_81 (fun x110_82 w_83 =>
  J_71 [x110_82] w_83) X) X) (J_71 [undef] w_69))) (fun J_68 =>
  Guard x100_67 true (FCall P Fn.wire_Reader_Int #[x15_9] w_66 (fun x103_84 w_85 =>
  RunV P (bin BinOp.eql 2 false true x103_84 (Value.int IntKind.i64 0)) w_85 (fun x104_86 w_87 =>
  J_68 [x104_86] w_87) X) X) (J_68 [undef] w_66))) (fun J_65 =>
  Guard x95_64 true (FCall P Fn.wire_Reader_Num #[x15_9, (Value.int IntKind.u64 9)] w_63 (fun x98_88 w_89 =>
  RunV P (bin BinOp.eql 35 false true x98_88 (Value.int IntKind.u64 0)) w_89 (fun x99_90 w_91 =>
  J_65 [x99_90] w_91) X) X) (J_65 [undef] w_63))) (fun J_62 =>
  Guard x89_60 true (FCall P Fn.wire_Reader_Bytes #[x15_9, (Value.int IntKind.i64 9)] w_61 (fun x92_92 w_93 =>
  RunV P (Builtin.len_ #[27] 3 #[x92_92]) w_93 (fun x93_94 w_95 =>
  RunV P (bin BinOp.eql 3 false true x93_94 (Value.int IntKind.i64 0)) w_95 (fun x94_96 w_97 =>
  J_62 [x94_96] w_97) X) X) X) (J_62 [undef] w_61))) X) X) X) (fun J_52 =>
  FCall P Fn.wire_Reader_At #[x15_9] w_20 (fun x64_98 w_99 =>
  RunV P (bin BinOp.neq 3 false true x64_98 (Value.int IntKind.i64 0)) w_99 (fun x65_100 w_101 =>
  Share (fun vs_102 w_103 =>
  ∀ σ_102 : Env, Share (fun vs_104 w_105 =>
  ∀ σ_104 : Env, Share (fun vs_106 w_107 =>
  ∀ σ_106 : Env, Share (fun vs_108 w_109 =>
  ∀ σ_108 : Env, Share (fun vs_110 w_111 =>
  ∀ σ_110 : Env, Pick x65_100 (Value.bool true) (vs_110.getD 0 undef) fun x77_112 =>
  Share (fun vs_113 w_114 =>
  ∀ σ_113 : Env, Share (fun vs_115 w_116 =>
  ∀ σ_115 : Env, Guard x77_112 false (Pick (vs_113.getD 0 undef) (vs_115.getD 0 undef) (Value.bool false) fun x83_117 =>
  Pick x77_112 (Value.bool true) x83_117 fun x84_118 =>
  Cond x84_118 (K (Value.bool false) w_116) (J_52 [] w_116)) (Pick x77_112 (Value.bool true) undef fun x84_119 =>
  Cond x84_119 (K (Value.bool false) w_116) (J_52 [] w_116))) (fun J_115 =>
  Guard (vs_113.getD 0 undef) true (RunV P (bin BinOp.eql 40 false true x34_17 (Value.int IntKind.i64 12)) w_114 (fun x82_120 w_121 =>
  J_115 [x82_120] w_121) X) (J_115 [undef] w_114))) (fun J_113 =>
  Guard x77_112 false (J_113 [a2] w_111) (J_113 [undef] w_111))) (fun J_110 =>
  Guard x65_100 false (Pick (vs_106.getD 0 undef) (vs_108.getD 0 undef) (Value.bool false) fun x76_122 =>
  J_110 [x76_122] w_109) (J_110 [undef] w_109))) (fun J_108 =>
  Guard (vs_106.getD 0 undef) true (RunV P (bin BinOp.neq 40 false true x34_17 (Value.int IntKind.i64 12)) w_107 (fun x75_123 w_124 =>
  J_108 [x75_123] w_124) X) (J_108 [undef] w_107))) (fun J_106 =>
  Guard x65_100 false (Pick (vs_102.getD 0 undef) (vs_104.getD 0 undef) (Value.bool false) fun x72_125 =>
  J_106 [x72_125] w_105) (J_106 [undef] w_105))) (fun J_104 =>
  Guard (vs_102.getD 0 undef) true (RunV P (bin BinOp.neq 40 false true x34_17 (Value.int IntKind.i64 31)) w_103 (fun x71_126 w_127 =>
  J_104 [x71_126] w_127) X) (J_104 [undef] w_103))) (fun J_102 =>
  Guard x65_100 false (RunV P (bin BinOp.neq 40 false true x34_17 (Value.int IntKind.i64 30)) w_101 (fun x68_128 w_129 =>
  J_102 [x68_128] w_129) X) (J_102 [undef] w_101))) X) X))) X) X) (fun J_15 =>
  Cond a2 (FCall P Fn.wire_Reader_Int #[x15_9] w_14 (fun x26_130 w_131 =>
  FCall P Fn.wire_Writer_Int #[x16_11, x26_130] w_131 (fun x27_132 w_133 =>
  J_15 [] w_133) X) X) (FCall P Fn.wire_Reader_Num #[x15_9, a1] w_14 (fun x31_134 w_135 =>
  FCall P Fn.wire_Writer_Num #[x16_11, x31_134] w_135 (fun x32_136 w_137 =>
  J_15 [] w_137) X) X))) (fun J_13 =>
  RunV P (bin BinOp.eql 44 false true x15_9 (Value.pointer none)) w_12 (fun x18_138 w_139 =>
  Guard x18_138 false (RunV P (bin BinOp.eql 24 false true x16_11 (Value.pointer none)) w_139 (fun x21_140 w_141 =>
  Pick x18_138 (Value.bool true) x21_140 fun x22_142 =>
  Cond x22_142 (K (Value.bool false) w_141) (J_13 [] w_141)) X) (Pick x18_138 (Value.bool true) undef fun x22_143 =>
  Cond x22_143 (K (Value.bool false) w_139) (J_13 [] w_139))) X)) X) X) X) X)) X) X
theorem sluicelaw07_WireOne_call {a0 a1 a2 : Value} {w : World} {K : Value → World → Prop} {X : XPost} (h : Sh.sluicelaw07_WireOne Try.prog a0 a1 a2 w K X) : FCall Try.prog Fn.sluicelaw07_WireOne #[a0, a1, a2] w K X :=
  call_of_sh (n := 117) (ts := [6]) (args := [a0, a1, a2]) h (.seq .nil (.seq .nil (.seq .nil (.seq .nil (.join [] [6, 17, 18, 19, 20, 21, 22] (.seq (.ops [(3, none), (2, none), (1, none)]) .nil) (.join [] [23, 24, 25, 26, 27, 28, 29, 30, 31, 32] .nil (.seq .nil (.seq (.seq .nil (.seq (.seq (.draw [(0, 0), (2, 1), (0, 2), (0, 3), (0, 4), (2, 5), (0, 6), (0, 7), (0, 8), (0, 9), (0, 11), (0, 12), (2, 10), (0, 13), (0, 14), (0, 15), (0, 16), (0, 19), (0, 20), (2, 17), (1, 18), (2, 21), (0, 22), (2, 23), (0, 24), (0, 25), (0, 26)] [(4, none), (3, some ([43], [41, 42, 43])), (2, none), (5, some ([50], [46, 47, 48, 49, 50])), (2, none), (9, none), (2, none)]) .nil) .nil)) (.join [] [6, 63, 64, 65, 66, 67, 68, 69, 70, 71, 72, 73, 74, 75, 76, 77, 78, 79, 80, 81, 82, 83, 84] (.seq (.ops [(4, none), (3, some ([69], [67, 68, 69])), (2, some ([71], [70, 71])), (2, some ([73], [72, 73])), (2, some ([75], [74, 75])), (1, some ([76], [76])), (2, none), (2, some ([80], [79, 80])), (2, some ([82], [81, 82])), (1, none), (1, none)]) .nil) (.seq .nil (.seq (.ops [(4, none), (4, some ([94], [91, 92, 93, 94])), (2, none), (3, some ([99], [97, 98, 99])), (2, none), (3, some ([104], [102, 103, 104])), (2, none), (4, some ([110], [107, 108, 109, 110])), (2, none), (3, none), (2, none)]) .nil))))))))))) mixed Try.func6 rfl Try.ntmps6 (Nat.le_of_ble_eq_true rfl) (res1 (P := Try.prog) (fn := Try.f6) rfl) (fun _ => by kernel_rfl) (by kernel_rfl) (by kernel_rfl)

/-- sluice/sluicelaw07.WireSizes -/
def Sh.sluicelaw07_WireSizes (P : Program) (a0 a1 a2 : Value) (w : World) (K : Value → World → Prop) (X : XPost) : Prop :=
  FCall P Fn.wire_NewWriter #[] w (fun x13_1 w_2 =>
  FCall P Fn.wire_NewWriter #[] w_2 (fun x14_3 w_4 =>
  FCall P Fn.wire_NewWriter #[] w_4 (fun x15_5 w_6 =>
  Share (fun vs_7 w_8 =>
  ∀ σ_7 : Env, FCall P Fn.wire_Writer_Num #[x13_1, a0] w_8 (fun x32_9 w_10 =>
  FCall P Fn.wire_Writer_Num #[x14_3, a1] w_10 (fun x35_11 w_12 =>
  FCall P Fn.wire_Writer_Int #[x15_5, a2] w_12 (fun x38_13 w_14 =>
  FCall P Fn.wire_Writer_Data #[x13_1] w_14 (fun x40_15 w_16 =>
  FCall P Fn.wire_Writer_Data #[x14_3] w_16 (fun x42_17 w_18 =>
  FCall P Fn.wire_Writer_Data #[x15_5] w_18 (fun x44_19 w_20 =>
  Share (fun vs_21 w_22 =>
  ∀ σ_21 : Env, Share (fun vs_23 w_24 =>
  ∀ σ_23 : Env, RunV P (Builtin.len_ #[27] 3 #[x44_19]) w_24 (fun x100_25 w_26 =>
  RunV P (bin BinOp.eql 3 false true x100_25 (Value.int IntKind.i64 1)) w_26 (fun x101_27 w_28 =>
  RunV P (bin BinOp.geq 2 false true a2 (Value.int IntKind.i64 (-64))) w_28 (fun x103_29 w_30 =>
  Share (fun vs_31 w_32 =>
  ∀ σ_31 : Env, Pick x103_29 (vs_31.getD 0 undef) (Value.bool false) fun x107_33 =>
  RunV P (bin BinOp.eql 4 false false x101_27 x107_33) w_32 (fun x108_34 w_35 =>
  K x108_34 w_35) X) (fun J_31 =>
  Guard x103_29 true (RunV P (bin BinOp.leq 2 false true a2 (Value.int IntKind.i64 63)) w_30 (fun x106_36 w_37 =>
  J_31 [x106_36] w_37) X) (J_31 [undef] w_30))) X) X) X) (fun J_23 =>
  RunV P (Builtin.len_ #[27] 3 #[x40_15]) w_22 (fun x76_38 w_39 =>
  RunV P (bin BinOp.sub 3 false true x76_38 (Value.int IntKind.i64 1)) w_39 (fun x77_40 w_41 =>
  RunV P (bin BinOp.mul 3 true false (Value.int IntKind.i64 7) x77_40) w_41 (fun x78_42 w_43 =>
  RunV P (bin BinOp.shr 35 false false a0 x78_42) w_43 (fun x79_44 w_45 =>
  RunV P (bin BinOp.eql 35 false true x79_44 (Value.int IntKind.u64 0)) w_45 (fun x80_46 w_47 =>
  Share (fun vs_48 w_49 =>
  ∀ σ_48 : Env, Pick x80_46 (vs_48.getD 0 undef) (Value.bool false) fun x85_50 =>
  Share (fun vs_51 w_52 =>
  ∀ σ_51 : Env, Share (fun vs_53 w_54 =>
  ∀ σ_53 : Env, Guard x85_50 false (Pick (vs_51.getD 0 undef) (vs_53.getD 0 undef) (Value.bool false) fun x97_55 =>
  Pick x85_50 (Value.bool true) x97_55 fun x98_56 =>
  Cond x98_56 (K (Value.bool false) w_54) (J_23 [] w_54)) (Pick x85_50 (Value.bool true) undef fun x98_57 =>
  Cond x98_57 (K (Value.bool false) w_54) (J_23 [] w_54))) (fun J_53 =>
  Guard (vs_51.getD 0 undef) true (RunV P (Builtin.len_ #[27] 3 #[x40_15]) w_52 (fun x93_58 w_59 =>
  RunV P (bin BinOp.mul 3 true false (Value.int IntKind.i64 7) x93_58) w_59 (fun x94_60 w_61 =>
  RunV P (bin BinOp.shr 35 false false a0 x94_60) w_61 (fun x95_62 w_63 =>
  RunV P (bin BinOp.neq 35 false true x95_62 (Value.int IntKind.u64 0)) w_63 (fun x96_64 w_65 =>
  J_53 [x96_64] w_65) X) X) X) X) (J_53 [undef] w_52))) (fun J_51 =>
  Guard x85_50 false (RunV P (Builtin.len_ #[27] 3 #[x40_15]) w_49 (fun x88_66 w_67 =>
  RunV P (bin BinOp.lss 3 false true x88_66 (Value.int IntKind.i64 10)) w_67 (fun x89_68 w_69 =>
  J_51 [x89_68] w_69) X) X) (J_51 [undef] w_49))) (fun J_48 =>
  Guard x80_46 true (RunV P (Builtin.len_ #[27] 3 #[x40_15]) w_47 (fun x83_70 w_71 =>
  RunV P (bin BinOp.gtr 3 false true x83_70 (Value.int IntKind.i64 1)) w_71 (fun x84_72 w_73 =>
  J_48 [x84_72] w_73) X) X) (J_48 [undef] w_47))) X) X) X) X) X)) (fun J_21 =>
  RunV P (Builtin.len_ #[27] 3 #[x40_15]) w_20 (fun x46_74 w_75 =>
  RunV P (bin BinOp.lss 3 false true x46_74 (Value.int IntKind.i64 1)) w_75 (fun x47_76 w_77 =>
  Share (fun vs_78 w_79 =>
  ∀ σ_78 : Env, Pick x47_76 (Value.bool true) (vs_78.getD 0 undef) fun x52_80 =>
  Share (fun vs_81 w_82 =>
  ∀ σ_81 : Env, Pick x52_80 (Value.bool true) (vs_81.getD 0 undef) fun x57_83 =>
  Share (fun vs_84 w_85 =>
  ∀ σ_84 : Env, Pick x57_83 (Value.bool true) (vs_84.getD 0 undef) fun x62_86 =>
  Guard x62_86 false (RunV P (convert 27 9 x40_15) w_85 (fun x65_87 w_88 =>
  RunV P (convert 27 9 x42_17) w_88 (fun x67_89 w_90 =>
  RunV P (bin BinOp.eql 9 false false x65_87 x67_89) w_90 (fun x68_91 w_92 =>
  RunV P (bin BinOp.eql 35 false false a0 a1) w_92 (fun x71_93 w_94 =>
  RunV P (bin BinOp.neq 4 false false x68_91 x71_93) w_94 (fun x72_95 w_96 =>
  Pick x62_86 (Value.bool true) x72_95 fun x73_97 =>
  Cond x73_97 (K (Value.bool false) w_96) (J_21 [] w_96)) X) X) X) X) X) (Pick x62_86 (Value.bool true) undef fun x73_98 =>
  Cond x73_98 (K (Value.bool false) w_85) (J_21 [] w_85))) (fun J_84 =>
  Guard x57_83 false (RunV P (Builtin.len_ #[27] 3 #[x44_19]) w_82 (fun x60_99 w_100 =>
  RunV P (bin BinOp.gtr 3 false true x60_99 (Value.int IntKind.i64 10)) w_100 (fun x61_101 w_102 =>
  J_84 [x61_101] w_102) X) X) (J_84 [undef] w_82))) (fun J_81 =>
  Guard x52_80 false (RunV P (Builtin.len_ #[27] 3 #[x44_19]) w_79 (fun x55_103 w_104 =>
  RunV P (bin BinOp.lss 3 false true x55_103 (Value.int IntKind.i64 1)) w_104 (fun x56_105 w_106 =>
  J_81 [x56_105] w_106) X) X) (J_81 [undef] w_79))) (fun J_78 =>
  Guard x47_76 false (RunV P (Builtin.len_ #[27] 3 #[x40_15]) w_77 (fun x50_107 w_108 =>
  RunV P (bin BinOp.gtr 3 false true x50_107 (Value.int IntKind.i64 10)) w_108 (fun x51_109 w_110 =>
  J_78 [x51_109] w_110) X) X) (J_78 [undef] w_77))) X) X)) X) X) X) X) X) X) (fun J_7 =>
  RunV P (bin BinOp.eql 24 false true x13_1 (Value.pointer none)) w_6 (fun x17_111 w_112 =>
  Share (fun vs_113 w_114 =>
  ∀ σ_113 : Env, Pick x17_111 (Value.bool true) (vs_113.getD 0 undef) fun x21_115 =>
  Share (fun vs_116 w_117 =>
  ∀ σ_116 : Env, Pick x21_115 (Value.bool true) (vs_116.getD 0 undef) fun x25_118 =>
  Guard x25_118 false (FCall P Fn.sluicelaw07_taken #[] w_117 (fun x27_119 w_120 =>
  RunV P (Op.unary UnOp.not x27_119) w_120 (fun x28_121 w_122 =>
  Pick x25_118 (Value.bool true) x28_121 fun x29_123 =>
  Cond x29_123 (K (Value.bool false) w_122) (J_7 [] w_122)) X) X) (Pick x25_118 (Value.bool true) undef fun x29_124 =>
  Cond x29_124 (K (Value.bool false) w_117) (J_7 [] w_117))) (fun J_116 =>
  Guard x21_115 false (RunV P (bin BinOp.eql 24 false true x15_5 (Value.pointer none)) w_114 (fun x24_125 w_126 =>
  J_116 [x24_125] w_126) X) (J_116 [undef] w_114))) (fun J_113 =>
  Guard x17_111 false (RunV P (bin BinOp.eql 24 false true x14_3 (Value.pointer none)) w_112 (fun x20_127 w_128 =>
  J_113 [x20_127] w_128) X) (J_113 [undef] w_112))) X)) X) X) X
theorem sluicelaw07_WireSizes_call {a0 a1 a2 : Value} {w : World} {K : Value → World → Prop} {X : XPost} (h : Sh.sluicelaw07_WireSizes Try.prog a0 a1 a2 w K X) : FCall Try.prog Fn.sluicelaw07_WireSizes #[a0, a1, a2] w K X :=
  call_of_sh (n := 109) (ts := [6]) (args := [a0, a1, a2]) h (.seq .nil (.seq .nil (.seq .nil (.seq .nil (.join [] [6, 16, 17, 18, 19, 20, 21, 22, 23, 24, 25, 26, 27, 28, 29] (.seq (.ops [(3, none), (2, some ([20], [19, 20])), (2, none), (2, some ([24], [23, 24])), (2, none), (2, none), (1, none)]) .nil) (.seq .nil (.seq .nil (.seq .nil (.seq .nil (.seq .nil (.seq .nil (.join [] [6, 45, 46, 47, 48, 49, 50, 51, 52, 53, 54, 55, 56, 57, 58, 59, 60, 61, 62, 63, 64, 65, 66, 67, 68, 69, 70, 71, 72, 73] (.seq (.ops [(4, none), (3, some ([51], [49, 50, 51])), (2, none), (3, some ([56], [54, 55, 56])), (2, none), (3, some ([61], [59, 60, 61])), (2, none), (9, none), (1, none)]) .nil) (.join [] [6, 74, 75, 76, 77, 78, 79, 80, 81, 82, 83, 84, 85, 86, 87, 88, 89, 90, 91, 92, 93, 94, 95, 96, 97, 98] (.seq (.ops [(8, none), (3, some ([84], [82, 83, 84])), (2, none), (4, some ([90], [87, 88, 89, 90])), (6, some ([96], [91, 92, 93, 94, 95, 96])), (1, none), (1, none)]) .nil) (.seq (.ops [(6, none), (2, some ([106], [105, 106])), (3, none)]) .nil)))))))))))))) mixed Try.func7 rfl Try.ntmps7 (Nat.le_of_ble_eq_true rfl) (res1 (P := Try.prog) (fn := Try.f7) rfl) (fun _ => by kernel_rfl) (by kernel_rfl) (by kernel_rfl)

/-- sluice/sluicelaw07.taken -/
def Sh.sluicelaw07_taken (P : Program) (w : World) (K : Value → World → Prop) (X : XPost) : Prop :=
  FCall P Fn.wire_NewWriter #[] w (fun x5_1 w_2 =>
  RunV P (Instr.buildSlice 27 3 #[(0, (Value.int IntKind.u8 172)), (1, (Value.int IntKind.u8 2)), (2, (Value.int IntKind.u8 7))]) w_2 (fun x6_3 w_4 =>
  FCall P Fn.wire_NewReader #[x6_3] w_4 (fun x7_5 w_6 =>
  FCall P Fn.wire_Writer_Num #[(Value.pointer none), (Value.int IntKind.u64 1)] w_6 (fun x9_7 w_8 =>
  FCall P Fn.wire_Writer_Int #[(Value.pointer none), (Value.int IntKind.i64 1)] w_8 (fun x11_9 w_10 =>
  FCall P Fn.wire_Writer_Byte #[(Value.pointer none), (Value.int IntKind.u8 1)] w_10 (fun x13_11 w_12 =>
  RunV P (Instr.buildSlice 27 1 #[(0, (Value.int IntKind.u8 1))]) w_12 (fun x15_13 w_14 =>
  FCall P Fn.wire_Writer_Bytes #[(Value.pointer none), x15_13] w_14 (fun x16_15 w_16 =>
  FCall P Fn.wire_Reader_End #[(Value.pointer none)] w_16 (fun x18_17 w_18 =>
  Share (fun vs_19 w_20 =>
  ∀ σ_19 : Env, FCall P Fn.wire_Writer_Num #[x5_1, (Value.int IntKind.u64 300)] w_20 (fun x68_21 w_22 =>
  FCall P Fn.wire_Writer_Int #[x5_1, (Value.int IntKind.i64 (-1))] w_22 (fun x70_23 w_24 =>
  FCall P Fn.wire_Writer_Data #[x5_1] w_24 (fun x72_27 w_28 =>
  RunV P (convert 27 9 x72_27) w_28 (fun x73_29 w_30 =>
  RunV P (bin BinOp.eql 9 false true x73_29 (Value.string (ByteArray.mk #[172, 2, 1]))) w_30 (fun x74_31 w_32 =>
  Share (fun vs_33 w_34 =>
  ∀ σ_33 : Env, Pick x74_31 (vs_33.getD 0 undef) (Value.bool false) fun x79_35 =>
  Share (fun vs_36 w_37 =>
  ∀ σ_36 : Env, Pick x79_35 (vs_36.getD 0 undef) (Value.bool false) fun x84_38 =>
  Share (fun vs_39 w_40 =>
  ∀ σ_39 : Env, Pick x84_38 (vs_39.getD 0 undef) (Value.bool false) fun x89_41 =>
  Guard x89_41 true (FCall P Fn.wire_Reader_Err #[x7_5] w_40 (fun x92_42 w_43 =>
  RunV P (bin BinOp.eql 40 false true x92_42 (Value.int IntKind.i64 0)) w_43 (fun x93_44 w_45 =>
  Pick x89_41 x93_44 (Value.bool false) fun x94_46 =>
  K x94_46 w_45) X) X) (Pick x89_41 undef (Value.bool false) fun x94_47 =>
  K x94_47 w_40)) (fun J_39 =>
  Guard x84_38 true (FCall P Fn.wire_Reader_Byte #[x7_5] w_37 (fun x87_48 w_49 =>
  RunV P (bin BinOp.eql 5 false true x87_48 (Value.int IntKind.u8 7)) w_49 (fun x88_50 w_51 =>
  J_39 [x88_50] w_51) X) X) (J_39 [undef] w_37))) (fun J_36 =>
  Guard x79_35 true (FCall P Fn.wire_Reader_At #[x7_5] w_34 (fun x82_52 w_53 =>
  RunV P (bin BinOp.eql 3 false true x82_52 (Value.int IntKind.i64 2)) w_53 (fun x83_54 w_55 =>
  J_36 [x83_54] w_55) X) X) (J_36 [undef] w_34))) (fun J_33 =>
  Guard x74_31 true (FCall P Fn.wire_Reader_Num #[x7_5, (Value.int IntKind.u64 300)] w_32 (fun x77_56 w_57 =>
  RunV P (bin BinOp.eql 35 false true x77_56 (Value.int IntKind.u64 300)) w_57 (fun x78_58 w_59 =>
  J_33 [x78_58] w_59) X) X) (J_33 [undef] w_32))) X) X) X) X) X) (fun J_19 =>
  RunV P (bin BinOp.eql 24 false true x5_1 (Value.pointer none)) w_18 (fun x20_60 w_61 =>
  Share (fun vs_62 w_63 =>
  ∀ σ_62 : Env, Pick x20_60 (Value.bool true) (vs_62.getD 0 undef) fun x24_64 =>
  Share (fun vs_65 w_66 =>
  ∀ σ_65 : Env, Pick x24_64 (Value.bool true) (vs_65.getD 0 undef) fun x30_67 =>
  Share (fun vs_68 w_69 =>
  ∀ σ_68 : Env, Pick x30_67 (Value.bool true) (vs_68.getD 0 undef) fun x35_70 =>
  Share (fun vs_71 w_72 =>
  ∀ σ_71 : Env, Pick x35_70 (Value.bool true) (vs_71.getD 0 undef) fun x40_73 =>
  Share (fun vs_74 w_75 =>
  ∀ σ_74 : Env, Pick x40_73 (Value.bool true) (vs_74.getD 0 undef) fun x45_76 =>
  Share (fun vs_77 w_78 =>
  ∀ σ_77 : Env, Pick x45_76 (Value.bool true) (vs_77.getD 0 undef) fun x50_79 =>
  Share (fun vs_80 w_81 =>
  ∀ σ_80 : Env, Pick x50_79 (Value.bool true) (vs_80.getD 0 undef) fun x56_82 =>
  Share (fun vs_83 w_84 =>
  ∀ σ_83 : Env, Pick x56_82 (Value.bool true) (vs_83.getD 0 undef) fun x61_85 =>
  Guard x61_85 false (FCall P Fn.wire_Reader_Err #[(Value.pointer none)] w_84 (fun x64_86 w_87 =>
  RunV P (bin BinOp.neq 40 false true x64_86 (Value.int IntKind.i64 0)) w_87 (fun x65_88 w_89 =>
  Pick x61_85 (Value.bool true) x65_88 fun x66_90 =>
  Cond x66_90 (K (Value.bool false) w_89) (J_19 [] w_89)) X) X) (Pick x61_85 (Value.bool true) undef fun x66_91 =>
  Cond x66_91 (K (Value.bool false) w_84) (J_19 [] w_84))) (fun J_83 =>
  Guard x56_82 false (FCall P Fn.wire_Reader_At #[(Value.pointer none)] w_81 (fun x59_92 w_93 =>
  RunV P (bin BinOp.neq 3 false true x59_92 (Value.int IntKind.i64 0)) w_93 (fun x60_94 w_95 =>
  J_83 [x60_94] w_95) X) X) (J_83 [undef] w_81))) (fun J_80 =>
  Guard x50_79 false (FCall P Fn.wire_Reader_Bytes #[(Value.pointer none), (Value.int IntKind.i64 9)] w_78 (fun x53_96 w_97 =>
  RunV P (Builtin.len_ #[27] 3 #[x53_96]) w_97 (fun x54_98 w_99 =>
  RunV P (bin BinOp.neq 3 false true x54_98 (Value.int IntKind.i64 0)) w_99 (fun x55_100 w_101 =>
  J_80 [x55_100] w_101) X) X) X) (J_80 [undef] w_78))) (fun J_77 =>
  Guard x45_76 false (FCall P Fn.wire_Reader_Byte #[(Value.pointer none)] w_75 (fun x48_102 w_103 =>
  RunV P (bin BinOp.neq 5 false true x48_102 (Value.int IntKind.u8 0)) w_103 (fun x49_104 w_105 =>
  J_77 [x49_104] w_105) X) X) (J_77 [undef] w_75))) (fun J_74 =>
  Guard x40_73 false (FCall P Fn.wire_Reader_Int #[(Value.pointer none)] w_72 (fun x43_106 w_107 =>
  RunV P (bin BinOp.neq 2 false true x43_106 (Value.int IntKind.i64 0)) w_107 (fun x44_108 w_109 =>
  J_74 [x44_108] w_109) X) X) (J_74 [undef] w_72))) (fun J_71 =>
  Guard x35_70 false (FCall P Fn.wire_Reader_Num #[(Value.pointer none), (Value.int IntKind.u64 9)] w_69 (fun x38_110 w_111 =>
  RunV P (bin BinOp.neq 35 false true x38_110 (Value.int IntKind.u64 0)) w_111 (fun x39_112 w_113 =>
  J_71 [x39_112] w_113) X) X) (J_71 [undef] w_69))) (fun J_68 =>
  Guard x30_67 false (FCall P Fn.wire_Writer_Err #[(Value.pointer none)] w_66 (fun x33_114 w_115 =>
  RunV P (bin BinOp.neq 40 false true x33_114 (Value.int IntKind.i64 0)) w_115 (fun x34_116 w_117 =>
  J_68 [x34_116] w_117) X) X) (J_68 [undef] w_66))) (fun J_65 =>
  Guard x24_64 false (FCall P Fn.wire_Writer_Data #[(Value.pointer none)] w_63 (fun x27_118 w_119 =>
  RunV P (Builtin.len_ #[27] 3 #[x27_118]) w_119 (fun x28_120 w_121 =>
  RunV P (bin BinOp.neq 3 false true x28_120 (Value.int IntKind.i64 0)) w_121 (fun x29_122 w_123 =>
  J_65 [x29_122] w_123) X) X) X) (J_65 [undef] w_63))) (fun J_62 =>
  Guard x20_60 false (RunV P (bin BinOp.eql 44 false true x7_5 (Value.pointer none)) w_61 (fun x23_124 w_125 =>
  J_62 [x23_124] w_125) X) (J_62 [undef] w_61))) X)) X) X) X) X) X) X) X) X) X
theorem sluicelaw07_taken_call {w : World} {K : Value → World → Prop} {X : XPost} (h : Sh.sluicelaw07_taken Try.prog  w K X) : FCall Try.prog Fn.sluicelaw07_taken #[] w K X :=
  call_of_sh (n := 95) (ts := [0]) (args := []) h (.seq .nil (.seq .nil (.seq .nil (.seq .nil (.seq .nil (.seq .nil (.seq .nil (.seq .nil (.seq .nil (.seq .nil (.join [] [0, 19, 20, 21, 22, 23, 24, 25, 26, 27, 28, 29, 30, 31, 32, 33, 34, 35, 36, 37, 38, 39, 40, 41, 42, 43, 44, 45, 46, 47, 48, 49, 50, 51, 52, 53, 54, 55, 56, 57, 58, 59, 60, 61, 62, 63, 64, 65, 66] (.seq (.ops [(3, none), (2, some ([23], [22, 23])), (2, none), (4, some ([29], [26, 27, 28, 29])), (2, none), (3, some ([34], [32, 33, 34])), (2, none), (3, some ([39], [37, 38, 39])), (2, none), (3, some ([44], [42, 43, 44])), (2, none), (3, some ([49], [47, 48, 49])), (2, none), (4, some ([55], [52, 53, 54, 55])), (2, none), (3, some ([60], [58, 59, 60])), (2, none), (3, none), (1, none)]) .nil) (.seq .nil (.seq .nil (.seq (.ops [(5, none), (3, some ([78], [76, 77, 78])), (2, none), (3, some ([83], [81, 82, 83])), (2, none), (3, some ([88], [86, 87, 88])), (2, none), (3, none), (2, none)]) .nil)))))))))))))) mixed Try.func8 rfl Try.ntmps8 (Nat.le_of_ble_eq_true rfl) (res1 (P := Try.prog) (fn := Try.f8) rfl) (fun _ => by kernel_rfl) (by kernel_rfl) (by kernel_rfl)

/-- sluice/wire.NewWriter -/
def Sh.wire_NewWriter (P : Program) (w : World) (K : Value → World → Prop) (X : XPost) : Prop :=
  RunV P (Instr.build 70 #[]) w (fun x1_1 w_2 =>
  RunV P (Instr.box 70 x1_1) w_2 (fun x2_3 w_4 =>
  K x2_3 w_4) X) X
theorem wire_NewWriter_call {w : World} {K : Value → World → Prop} {X : XPost} (h : Sh.wire_NewWriter Try.prog  w K X) : FCall Try.prog Fn.wire_NewWriter #[] w K X :=
  call_of_sh (n := 3) (ts := [0]) (args := []) h .nil mixed Try.func9 rfl Try.ntmps9 (Nat.le_of_ble_eq_true rfl) (res1 (P := Try.prog) (fn := Try.f9) rfl) (fun _ => by kernel_rfl) (by kernel_rfl) (by kernel_rfl)

/-- sluice/sluicelaw07.writes -/
def Sh.sluicelaw07_writes (P : Program) (a0 a1 a2 a3 : Value) (w : World) (K : Value → World → Prop) (X : XPost) : Prop :=
  RunV P (Instr.box 37 a2) w (fun x6_1 w_2 =>
  Share (fun vs_3 w_4 =>
  ∀ σ_3 : Env, ∃ S : World → Prop, S (World.drew w_4) ∧ TakeP P (nilc a1) fun x111_5 =>
  TakeP P (Instr.fieldAt 29 x111_5 1) fun x112_6 =>
  Take P (Instr.loadAt 3 x112_6) S fun x113_7 =>
  FCall P Fn.wire_Writer_Err #[a0] (World.drew w_4) (fun x109_8 w_9 =>
  Keep S w_9 (fun S_10 =>
  TakeP P (bin BinOp.eql 3 false false x109_8 x113_7) fun x114_11 =>
  K x114_11 w_9)) (fun _ _ =>
  False)) (fun J_3 =>
  RunV P (Instr.fieldAt 37 x6_1 0) w_2 (fun x13_12 w_13 =>
  RunV P (Instr.loadAt 3 x13_12) w_13 (fun x14_14 w_15 =>
  RunV P (bin BinOp.eql 3 false true x14_14 (Value.int IntKind.i64 1)) w_15 (fun x16_16 w_17 =>
  Cond x16_16 (RunV P (Instr.fieldAt 37 x6_1 2) w_17 (fun x18_18 w_19 =>
  RunV P (Instr.loadAt 35 x18_18) w_19 (fun x19_20 w_21 =>
  FCall P Fn.wire_Writer_Num #[a0, x19_20] w_21 (fun x20_22 w_23 =>
  RunV P (Instr.fieldAt 37 x6_1 2) w_23 (fun x22_24 w_25 =>
  RunV P (Instr.loadAt 35 x22_24) w_25 (fun x23_26 w_27 =>
  FCall P Fn.sluiceref07_Writer_Num #[a1, x23_26] w_27 (fun x24_28 w_29 =>
  J_3 [] w_29) X) X) X) X) X) X) (RunV P (bin BinOp.eql 3 false true x14_14 (Value.int IntKind.i64 2)) w_17 (fun x26_30 w_31 =>
  Cond x26_30 (RunV P (Instr.fieldAt 37 x6_1 3) w_31 (fun x28_32 w_33 =>
  RunV P (Instr.loadAt 2 x28_32) w_33 (fun x29_34 w_35 =>
  FCall P Fn.wire_Writer_Int #[a0, x29_34] w_35 (fun x30_36 w_37 =>
  RunV P (Instr.fieldAt 37 x6_1 3) w_37 (fun x32_38 w_39 =>
  RunV P (Instr.loadAt 2 x32_38) w_39 (fun x33_40 w_41 =>
  FCall P Fn.sluiceref07_Writer_Int #[a1, x33_40] w_41 (fun x34_42 w_43 =>
  J_3 [] w_43) X) X) X) X) X) X) (RunV P (bin BinOp.eql 3 false true x14_14 (Value.int IntKind.i64 3)) w_31 (fun x36_44 w_45 =>
  Cond x36_44 (RunV P (Instr.fieldAt 37 x6_1 3) w_45 (fun x38_46 w_47 =>
  RunV P (Instr.loadAt 2 x38_46) w_47 (fun x39_48 w_49 =>
  RunV P (convert 2 5 x39_48) w_49 (fun x40_50 w_51 =>
  FCall P Fn.wire_Writer_Byte #[a0, x40_50] w_51 (fun x41_52 w_53 =>
  RunV P (Instr.fieldAt 37 x6_1 3) w_53 (fun x43_54 w_55 =>
  RunV P (Instr.loadAt 2 x43_54) w_55 (fun x44_56 w_57 =>
  RunV P (convert 2 5 x44_56) w_57 (fun x45_58 w_59 =>
  FCall P Fn.sluiceref07_Writer_Byte #[a1, x45_58] w_59 (fun x46_60 w_61 =>
  J_3 [] w_61) X) X) X) X) X) X) X) X) (RunV P (bin BinOp.eql 3 false true x14_14 (Value.int IntKind.i64 4)) w_45 (fun x48_62 w_63 =>
  Cond x48_62 (RunV P (Instr.fieldAt 37 x6_1 4) w_63 (fun x49_64 w_65 =>
  RunV P (Instr.loadAt 27 x49_64) w_65 (fun x50_66 w_67 =>
  FCall P Fn.sluicelaw07_lent #[x50_66] w_67 (fun x51_68 w_69 =>
  FCall P Fn.wire_Writer_Bytes #[a0, x51_68] w_69 (fun x54_70 w_71 =>
  RunV P (Instr.fieldAt 37 x6_1 4) w_71 (fun x56_72 w_73 =>
  RunV P (Instr.loadAt 27 x56_72) w_73 (fun x57_74 w_75 =>
  FCall P Fn.sluiceref07_Writer_Bytes #[a1, x57_74] w_75 (fun x58_76 w_77 =>
  RunV P (Instr.fieldAt 37 x6_1 4) w_77 (fun x60_78 w_79 =>
  RunV P (Instr.loadAt 27 x60_78) w_79 (fun x61_80 w_81 =>
  FCall P Fn.sluicelaw07_kept #[x51_68, x61_80] w_81 (fun x62_82 w_83 =>
  RunV P (Op.unary UnOp.not x62_82) w_83 (fun x63_84 w_85 =>
  Cond x63_84 (K (Value.bool false) w_85) (FLoop (fun vs_86 w_87 k_88 =>
  ∀ σ_86 : Env, RunV P (Builtin.len_ #[27] 3 #[x51_68]) w_87 (fun x66_89 w_90 =>
  RunV P (bin BinOp.lss 3 false false (vs_86.getD 0 undef) x66_89) w_90 (fun x67_91 w_92 =>
  Cond x67_91 (RunV P (Instr.indexAt 27 x51_68 (vs_86.getD 0 undef)) w_92 (fun x74_93 w_94 =>
  RunV P (Instr.loadAt 5 x74_93) w_94 (fun x75_95 w_96 =>
  RunV P (bin BinOp.add 5 false true x75_95 (Value.int IntKind.u8 5)) w_96 (fun x76_97 w_98 =>
  RunV P (Instr.indexAt 27 x51_68 (vs_86.getD 0 undef)) w_98 (fun x77_99 w_100 =>
  RunU P (Instr.storeAt 5 x77_99 x76_97) w_100 (fun w_101 =>
  RunV P (bin BinOp.add 3 false true (vs_86.getD 0 undef) (Value.int IntKind.i64 1)) w_101 (fun x69_102 w_103 =>
  k_88 [x69_102] w_103) X) X) X) X) X) X) (J_3 [] w_92)) X) X) [(Value.int IntKind.i64 0)] w_85)) X) X) X) X) X) X) X) X) X) X) X) (RunV P (bin BinOp.eql 3 false true x14_14 (Value.int IntKind.i64 5)) w_63 (fun x79_104 w_105 =>
  Cond x79_104 (FCall P Fn.wire_Writer_Data #[a0] w_105 (fun x81_106 w_107 =>
  FCall P Fn.wire_Writer_Data #[a0] w_107 (fun x83_108 w_109 =>
  Share (fun vs_110 w_111 =>
  ∀ σ_110 : Env, FCall P Fn.sluicelaw07_book_keep #[a3, x81_106] w_111 (fun x104_112 w_113 =>
  FCall P Fn.sluicelaw07_book_keep #[a3, x83_108] w_113 (fun x107_114 w_115 =>
  J_3 [] w_115) X) X) (fun J_110 =>
  ∃ S : World → Prop, S (World.drew w_109) ∧ TakeP P (nilc a1) fun x87_116 =>
  TakeP P (Instr.fieldAt 29 x87_116 0) fun x88_117 =>
  Take P (convert 27 9 x81_106) S fun x85_118 =>
  RunV P (Instr.loadAt 27 x88_117) (World.drew w_109) (fun x89_119 w_120 =>
  Keep S w_120 (fun S_121 =>
  RunV P (convert 27 9 x89_119) w_120 (fun x90_122 w_123 =>
  Keep S_121 w_123 (fun S_124 =>
  TakeP P (bin BinOp.neq 9 false false x85_118 x90_122) fun x91_125 =>
  Guard x91_125 false (TakeP P (nilc a1) fun x96_126 =>
  TakeP P (Instr.fieldAt 29 x96_126 0) fun x97_127 =>
  Take P (convert 27 9 x83_108) S_124 fun x94_128 =>
  RunV P (Instr.loadAt 27 x97_127) w_123 (fun x98_129 w_130 =>
  Keep S_124 w_130 (fun S_131 =>
  RunV P (convert 27 9 x98_129) w_130 (fun x99_132 w_133 =>
  Keep S_131 w_133 (fun S_134 =>
  TakeP P (bin BinOp.neq 9 false false x94_128 x99_132) fun x100_135 =>
  Pick x91_125 (Value.bool true) x100_135 fun x101_136 =>
  Cond x101_136 (K (Value.bool false) w_133) (J_110 [] w_133))) (fun _ _ =>
  False))) (fun _ _ =>
  False)) (Pick x91_125 (Value.bool true) undef fun x101_137 =>
  Cond x101_137 (K (Value.bool false) w_123) (J_110 [] w_123)))) (fun _ _ =>
  False))) (fun _ _ =>
  False))) X) X) (J_3 [] w_105)) X)) X)) X)) X)) X) X) X)) X
theorem sluicelaw07_writes_call {a0 a1 a2 a3 : Value} {w : World} {K : Value → World → Prop} {X : XPost} (h : Sh.sluicelaw07_writes Try.prog a0 a1 a2 a3 w K X) : FCall Try.prog Fn.sluicelaw07_writes #[a0, a1, a2, a3] w K X :=
  call_of_sh (n := 115) (ts := [8]) (args := [a0, a1, a2, a3]) h (.seq .nil (.join [] [8, 9, 10, 11, 12, 13, 14, 15, 16, 17, 18, 19, 20, 21, 22, 23, 24, 25, 26, 27, 28, 29, 30, 31, 32, 33, 34, 35, 36, 37, 38, 39, 40, 41, 42, 43, 44, 45, 46, 47, 48, 49, 50, 51, 52, 53, 54, 55, 56, 57, 58, 59, 60, 61, 62, 63, 64, 65, 66, 67, 68, 69, 70, 71, 72, 73, 74, 75, 76, 77, 78, 79, 80, 81, 82, 83, 84, 85, 86, 87, 88, 89, 90, 91, 92, 93, 94, 95, 96, 97, 98, 99, 100, 101, 102, 103, 104, 105, 106, 107] (.seq .nil (.one (.seq .nil (.seq .nil (.seq .nil (.seq .nil (.seq .nil (.seq .nil (.seq .nil (.seq (.seq .nil (.seq .nil (.seq .nil (.seq .nil (.seq .nil (.one (.loop [10] [10, 64, 65, 66, 67, 68, 69, 70, 71, 72, 73, 74, 75, 76, 77] .nil))))))) (.seq .nil (.seq (.seq .nil (.seq .nil (.join [] [8, 84, 85, 86, 87, 88, 89, 90, 91, 92, 93, 94, 95, 96, 97, 98, 99, 100, 101] (.seq (.draw [(0, 0), (0, 2), (0, 3), (0, 4), (1, 1), (2, 5), (2, 6), (0, 7), (0, 8), (0, 9), (0, 11), (0, 12), (0, 13), (1, 10), (2, 14), (2, 15), (0, 16), (0, 17)] [(9, none), (8, none), (1, none)]) .nil) .nil))) .nil)))))))))))) (.seq (.draw [(0, 0), (0, 2), (0, 3), (0, 4), (1, 5), (2, 1), (0, 6), (0, 7)] []) .nil))) mixed Try.func10 rfl Try.ntmps10 (Nat.le_of_ble_eq_true rfl) (res1 (P := Try.prog) (fn := Try.f10) rfl) (fun _ => by kernel_rfl) (by kernel_rfl) (by kernel_rfl)

/-- (*sluice/sluicelaw07.book).whole -/
def Sh.sluicelaw07_book_whole (P : Program) (a0 : Value) (w : World) (K : Value → World → Prop) (X : XPost) : Prop :=
  Share (fun vs_1 w_2 =>
  ∀ σ_1 : Env, RunV P (nilc a0) w_2 (fun x30_3 w_4 =>
  RunV P (Instr.fieldAt 34 x30_3 0) w_4 (fun x31_5 w_6 =>
  RunV P (Instr.loadAt 31 x31_5) w_6 (fun x32_7 w_8 =>
  FCall P Fn.sluicelaw07_apart #[x32_7] w_8 (fun x33_9 w_10 =>
  K x33_9 w_10) X) X) X) X) (fun J_1 =>
  FLoop (fun vs_11 w_12 k_13 =>
  ∀ σ_11 : Env, RunV P (nilc a0) w_12 (fun x6_14 w_15 =>
  RunV P (Instr.fieldAt 34 x6_14 0) w_15 (fun x7_16 w_17 =>
  RunV P (Instr.loadAt 31 x7_16) w_17 (fun x8_18 w_19 =>
  RunV P (Builtin.len_ #[31] 3 #[x8_18]) w_19 (fun x9_20 w_21 =>
  RunV P (bin BinOp.lss 3 false false (vs_11.getD 0 undef) x9_20) w_21 (fun x10_22 w_23 =>
  Cond x10_22 (∃ S : World → Prop, S (World.drew w_23) ∧ TakeP P (nilc a0) fun x14_24 =>
  TakeP P (Instr.fieldAt 34 x14_24 0) fun x15_25 =>
  TakeP P (nilc a0) fun x22_26 =>
  TakeP P (Instr.fieldAt 34 x22_26 1) fun x23_27 =>
  Take P (Instr.loadAt 31 x15_25) S fun x16_28 =>
  TakeP P (Instr.indexAt 31 x16_28 (vs_11.getD 0 undef)) fun x18_29 =>
  Take P (Instr.loadAt 27 x18_29) S fun x19_30 =>
  Take P (convert 27 9 x19_30) S fun x20_31 =>
  RunV P (Instr.loadAt 32 x23_27) (World.drew w_23) (fun x24_32 w_33 =>
  Keep S w_33 (fun S_34 =>
  TakeP P (Instr.indexAt 32 x24_32 (vs_11.getD 0 undef)) fun x26_35 =>
  RunV P (Instr.loadAt 9 x26_35) w_33 (fun x27_36 w_37 =>
  Keep S_34 w_37 (fun S_38 =>
  TakeP P (bin BinOp.neq 9 false false x20_31 x27_36) fun x28_39 =>
  Cond x28_39 (K (Value.bool false) w_37) (RunV P (bin BinOp.add 3 false true (vs_11.getD 0 undef) (Value.int IntKind.i64 1)) w_37 (fun x12_40 w_41 =>
  k_13 [x12_40] w_41) X))) (fun _ _ =>
  False))) (fun _ _ =>
  False)) (J_1 [] w_23)) X) X) X) X) X) [(Value.int IntKind.i64 0)] w)
theorem sluicelaw07_book_whole_call {a0 : Value} {w : World} {K : Value → World → Prop} {X : XPost} (h : Sh.sluicelaw07_book_whole Try.prog a0 w K X) : FCall Try.prog Fn.sluicelaw07_book_whole #[a0] w K X :=
  call_of_sh (n := 34) (ts := [2]) (args := [a0]) h (.seq .nil (.join [] [2, 3, 4, 5, 6, 7, 8, 9, 10, 11, 12, 13, 14, 15, 16, 17, 18, 19, 20, 21, 22, 23, 24, 25, 26, 27, 28] (.seq .nil (.one (.loop [3] [2, 3, 4, 5, 6, 7, 8, 9, 10, 11, 12, 13, 14, 15, 16, 17, 18, 19, 20, 21, 22, 23, 24, 25, 26, 27, 28] (.seq .nil (.seq (.one (.seq (.draw [(0, 0), (0, 1), (0, 2), (0, 4), (0, 8), (0, 9), (0, 10), (0, 12), (1, 3), (0, 5), (1, 6), (1, 7), (2, 11), (0, 13), (2, 14), (0, 15)] []) .nil)) .nil))))) .nil)) mixed Try.func11 rfl Try.ntmps11 (Nat.le_of_ble_eq_true rfl) (res1 (P := Try.prog) (fn := Try.f11) rfl) (fun _ => by kernel_rfl) (by kernel_rfl) (by kernel_rfl)

/-- (*sluice/wire.Writer).Data -/
def Sh.wire_Writer_Data (P : Program) (a0 : Value) (w : World) (K : Value → World → Prop) (X : XPost) : Prop :=
  RunV P (bin BinOp.eql 24 false true a0 (Value.pointer none)) w (fun x4_1 w_2 =>
  Cond x4_1 (K (Value.slice none 0 0) w_2) (RunV P (nilc a0) w_2 (fun x6_3 w_4 =>
  RunV P (Instr.fieldAt 70 x6_3 1) w_4 (fun x7_5 w_6 =>
  RunV P (Instr.loadAt 27 x7_5) w_6 (fun x8_7 w_8 =>
  FCall P Fn.slices_Clone_byte_byte #[x8_7] w_8 (fun x9_9 w_10 =>
  K x9_9 w_10) X) X) X) X)) X
theorem wire_Writer_Data_call {a0 : Value} {w : World} {K : Value → World → Prop} {X : XPost} (h : Sh.wire_Writer_Data Try.prog a0 w K X) : FCall Try.prog Fn.wire_Writer_Data #[a0] w K X :=
  call_of_sh (n := 10) (ts := [2]) (args := [a0]) h .nil mixed Try.func12 rfl Try.ntmps12 (Nat.le_of_ble_eq_true rfl) (res1 (P := Try.prog) (fn := Try.f12) rfl) (fun _ => by kernel_rfl) (by kernel_rfl) (by kernel_rfl)

/-- (*sluice/wire.Writer).Err -/
def Sh.wire_Writer_Err (P : Program) (a0 : Value) (w : World) (K : Value → World → Prop) (X : XPost) : Prop :=
  RunV P (bin BinOp.eql 24 false true a0 (Value.pointer none)) w (fun x4_1 w_2 =>
  Cond x4_1 (K (Value.int IntKind.i64 0) w_2) (RunV P (nilc a0) w_2 (fun x6_3 w_4 =>
  RunV P (Instr.fieldAt 70 x6_3 0) w_4 (fun x7_5 w_6 =>
  RunV P (Instr.fieldAt 68 x7_5 0) w_6 (fun x8_7 w_8 =>
  RunV P (Instr.loadAt 40 x8_7) w_8 (fun x9_9 w_10 =>
  K x9_9 w_10) X) X) X) X)) X
theorem wire_Writer_Err_call {a0 : Value} {w : World} {K : Value → World → Prop} {X : XPost} (h : Sh.wire_Writer_Err Try.prog a0 w K X) : FCall Try.prog Fn.wire_Writer_Err #[a0] w K X :=
  call_of_sh (n := 10) (ts := [2]) (args := [a0]) h .nil mixed Try.func13 rfl Try.ntmps13 (Nat.le_of_ble_eq_true rfl) (res1 (P := Try.prog) (fn := Try.f13) rfl) (fun _ => by kernel_rfl) (by kernel_rfl) (by kernel_rfl)

/-- sluice/sluicelaw07.lent -/
def Sh.sluicelaw07_lent (P : Program) (a0 : Value) (w : World) (K : Value → World → Prop) (X : XPost) : Prop :=
  RunV P (Instr.buildSlice 27 0 #[]) w (fun x4_1 w_2 =>
  RunV P (Builtin.append_ #[27, 27] 27 #[x4_1, a0]) w_2 (fun x6_3 w_4 =>
  RunV P (Instr.buildSlice 27 2 #[(0, (Value.int IntKind.u8 195)), (1, (Value.int IntKind.u8 60))]) w_4 (fun x8_5 w_6 =>
  RunV P (Builtin.append_ #[27, 27] 27 #[x6_3, x8_5]) w_6 (fun x9_7 w_8 =>
  RunV P (Builtin.len_ #[27] 3 #[a0]) w_8 (fun x11_9 w_10 =>
  RunV P (Instr.sliceAt 27 x9_7 none (some x11_9) none) w_10 (fun x12_11 w_12 =>
  K x12_11 w_12) X) X) X) X) X) X
theorem sluicelaw07_lent_call {a0 : Value} {w : World} {K : Value → World → Prop} {X : XPost} (h : Sh.sluicelaw07_lent Try.prog a0 w K X) : FCall Try.prog Fn.sluicelaw07_lent #[a0] w K X :=
  call_of_sh (n := 13) (ts := [2]) (args := [a0]) h .nil mixed Try.func14 rfl Try.ntmps14 (Nat.le_of_ble_eq_true rfl) (res1 (P := Try.prog) (fn := Try.f14) rfl) (fun _ => by kernel_rfl) (by kernel_rfl) (by kernel_rfl)

/-- sluice/wire.NewReader -/
def Sh.wire_NewReader (P : Program) (a0 : Value) (w : World) (K : Value → World → Prop) (X : XPost) : Prop :=
  FCall P Fn.slices_Clone_byte_byte #[a0] w (fun x4_1 w_2 =>
  RunV P (Instr.build 73 #[(1, x4_1)]) w_2 (fun x5_3 w_4 =>
  RunV P (Instr.box 73 x5_3) w_4 (fun x6_5 w_6 =>
  K x6_5 w_6) X) X) X
theorem wire_NewReader_call {a0 : Value} {w : World} {K : Value → World → Prop} {X : XPost} (h : Sh.wire_NewReader Try.prog a0 w K X) : FCall Try.prog Fn.wire_NewReader #[a0] w K X :=
  call_of_sh (n := 7) (ts := [2]) (args := [a0]) h .nil mixed Try.func15 rfl Try.ntmps15 (Nat.le_of_ble_eq_true rfl) (res1 (P := Try.prog) (fn := Try.f15) rfl) (fun _ => by kernel_rfl) (by kernel_rfl) (by kernel_rfl)

/-- sluice/sluicelaw07.kept -/
def Sh.sluicelaw07_kept (P : Program) (a0 a1 : Value) (w : World) (K : Value → World → Prop) (X : XPost) : Prop :=
  RunV P (Builtin.len_ #[27] 3 #[a1]) w (fun x8_1 w_2 =>
  RunV P (bin BinOp.add 3 false true x8_1 (Value.int IntKind.i64 2)) w_2 (fun x9_3 w_4 =>
  RunV P (Instr.sliceAt 27 a0 none (some x9_3) none) w_4 (fun x10_5 w_6 =>
  ∃ S : World → Prop, S (World.drew w_6) ∧ TakeP P (Builtin.len_ #[27] 3 #[a1]) fun x13_9 =>
  TakeP P (Instr.sliceAt 27 x10_5 none (some x13_9) none) fun x14_10 =>
  Take P (convert 27 9 x14_10) S fun x15_11 =>
  RunV P (convert 27 9 a1) (World.drew w_6) (fun x17_12 w_13 =>
  Keep S w_13 (fun S_14 =>
  TakeP P (bin BinOp.eql 9 false false x15_11 x17_12) fun x18_15 =>
  Share (fun vs_16 w_17 =>
  ∀ σ_16 : Env, Pick x18_15 (vs_16.getD 0 undef) (Value.bool false) fun x26_18 =>
  Guard x26_18 true (TakeP P (Builtin.len_ #[27] 3 #[a1]) fun x30_19 =>
  TakeP P (bin BinOp.add 3 false true x30_19 (Value.int IntKind.i64 1)) fun x31_20 =>
  TakeP P (Instr.indexAt 27 x10_5 x31_20) fun x32_21 =>
  RunV P (Instr.loadAt 5 x32_21) w_17 (fun x33_22 w_23 =>
  TakeP P (bin BinOp.eql 5 false true x33_22 (Value.int IntKind.u8 60)) fun x34_24 =>
  Pick x26_18 x34_24 (Value.bool false) fun x35_25 =>
  K x35_25 w_23) (fun _ _ =>
  False)) (Pick x26_18 undef (Value.bool false) fun x35_26 =>
  K x35_26 w_17)) (fun J_16 =>
  Guard x18_15 true (TakeP P (Builtin.len_ #[27] 3 #[a1]) fun x22_27 =>
  TakeP P (Instr.indexAt 27 x10_5 x22_27) fun x23_28 =>
  RunV P (Instr.loadAt 5 x23_28) w_13 (fun x24_29 w_30 =>
  TakeP P (bin BinOp.eql 5 false true x24_29 (Value.int IntKind.u8 195)) fun x25_31 =>
  J_16 [x25_31] w_30) (fun _ _ =>
  False)) (J_16 [undef] w_13)))) (fun _ _ =>
  False)) X) X) X
theorem sluicelaw07_kept_call {a0 a1 : Value} {w : World} {K : Value → World → Prop} {X : XPost} (h : Sh.sluicelaw07_kept Try.prog a0 a1 w K X) : FCall Try.prog Fn.sluicelaw07_kept #[a0, a1] w K X :=
  call_of_sh (n := 36) (ts := [4]) (args := [a0, a1]) h (.seq .nil (.seq .nil (.seq (.draw [(0, 0), (0, 1), (0, 2), (0, 3), (0, 5), (1, 4), (2, 6), (0, 7), (0, 8), (0, 9), (0, 10), (0, 11), (0, 12), (3, 13), (0, 14), (0, 15), (0, 16), (0, 17), (0, 18), (0, 19), (0, 20), (0, 21), (3, 22), (0, 23), (0, 24), (0, 25)] [(9, none), (6, some ([25], [20, 21, 22, 23, 24, 25])), (2, none), (7, none), (2, none)]) .nil))) mixed Try.func16 rfl Try.ntmps16 (Nat.le_of_ble_eq_true rfl) (res1 (P := Try.prog) (fn := Try.f16) rfl) (fun _ => by kernel_rfl) (by kernel_rfl) (by kernel_rfl)

/-- sluice/sluiceref07.NewReader -/
def Sh.sluiceref07_NewReader (P : Program) (a0 : Value) (w : World) (K : Value → World → Prop) (X : XPost) : Prop :=
  RunV P (Instr.buildSlice 27 0 #[]) w (fun x3_1 w_2 =>
  RunV P (Builtin.append_ #[27, 27] 27 #[x3_1, a0]) w_2 (fun x5_3 w_4 =>
  RunV P (Instr.build 75 #[(0, x5_3)]) w_4 (fun x6_5 w_6 =>
  RunV P (Instr.box 75 x6_5) w_6 (fun x7_7 w_8 =>
  K x7_7 w_8) X) X) X) X
theorem sluiceref07_NewReader_call {a0 : Value} {w : World} {K : Value → World → Prop} {X : XPost} (h : Sh.sluiceref07_NewReader Try.prog a0 w K X) : FCall Try.prog Fn.sluiceref07_NewReader #[a0] w K X :=
  call_of_sh (n := 8) (ts := [2]) (args := [a0]) h .nil mixed Try.func17 rfl Try.ntmps17 (Nat.le_of_ble_eq_true rfl) (res1 (P := Try.prog) (fn := Try.f17) rfl) (fun _ => by kernel_rfl) (by kernel_rfl) (by kernel_rfl)

/-- sluice/sluicelaw07.reads -/
def Sh.sluicelaw07_reads (P : Program) (a0 a1 a2 a3 : Value) (w : World) (K : Value → World → Prop) (X : XPost) : Prop :=
  RunV P (Instr.box 37 a2) w (fun x6_1 w_2 =>
  Share (fun vs_3 w_4 =>
  ∀ σ_3 : Env, ∃ S : World → Prop, S (World.drew w_4) ∧ TakeP P (nilc a1) fun x63_7 =>
  TakeP P (Instr.fieldAt 75 x63_7 1) fun x64_8 =>
  Take P (Instr.loadAt 3 x64_8) S fun x65_9 =>
  FCall P Fn.wire_Reader_At #[a0] (World.drew w_4) (fun x61_10 w_11 =>
  Keep S w_11 (fun S_12 =>
  TakeP P (bin BinOp.eql 3 false false x61_10 x65_9) fun x66_13 =>
  Guard x66_13 true (TakeP P (nilc a1) fun x71_14 =>
  TakeP P (Instr.fieldAt 75 x71_14 2) fun x72_15 =>
  Take P (Instr.loadAt 3 x72_15) S_12 fun x73_16 =>
  FCall P Fn.wire_Reader_Err #[a0] w_11 (fun x69_17 w_18 =>
  Keep S_12 w_18 (fun S_19 =>
  TakeP P (bin BinOp.eql 3 false false x69_17 x73_16) fun x74_20 =>
  Pick x66_13 x74_20 (Value.bool false) fun x75_21 =>
  K x75_21 w_18)) (fun _ _ =>
  False)) (Pick x66_13 undef (Value.bool false) fun x75_22 =>
  K x75_22 w_11))) (fun _ _ =>
  False)) (fun J_3 =>
  RunV P (Instr.fieldAt 37 x6_1 0) w_2 (fun x10_23 w_24 =>
  RunV P (Instr.loadAt 3 x10_23) w_24 (fun x11_25 w_26 =>
  RunV P (bin BinOp.eql 3 false true x11_25 (Value.int IntKind.i64 1)) w_26 (fun x13_27 w_28 =>
  Cond x13_27 (∃ S : World → Prop, S (World.drew w_28) ∧ TakeP P (Instr.fieldAt 37 x6_1 2) fun x15_29 =>
  TakeP P (Instr.fieldAt 37 x6_1 2) fun x19_30 =>
  Take P (Instr.loadAt 35 x15_29) S fun x16_31 =>
  Take P (Instr.loadAt 35 x19_30) S fun x20_32 =>
  FCall P Fn.wire_Reader_Num #[a0, x16_31] (World.drew w_28) (fun x17_33 w_34 =>
  Keep S w_34 (fun S_35 =>
  FCall P Fn.sluiceref07_Reader_Num #[a1, x20_32] w_34 (fun x21_36 w_37 =>
  TakeP P (bin BinOp.neq 35 false false x17_33 x21_36) fun x22_38 =>
  Cond x22_38 (K (Value.bool false) w_37) (J_3 [] w_37)) (fun _ _ =>
  False))) (fun _ _ =>
  False)) (RunV P (bin BinOp.eql 3 false true x11_25 (Value.int IntKind.i64 2)) w_28 (fun x24_39 w_40 =>
  Cond x24_39 (FCall P Fn.wire_Reader_Int #[a0] w_40 (fun x26_41 w_42 =>
  FCall P Fn.sluiceref07_Reader_Int #[a1] w_42 (fun x28_43 w_44 =>
  RunV P (bin BinOp.neq 2 false false x26_41 x28_43) w_44 (fun x29_45 w_46 =>
  Cond x29_45 (K (Value.bool false) w_46) (J_3 [] w_46)) X) X) X) (RunV P (bin BinOp.eql 3 false true x11_25 (Value.int IntKind.i64 3)) w_40 (fun x31_47 w_48 =>
  Cond x31_47 (FCall P Fn.wire_Reader_Byte #[a0] w_48 (fun x33_49 w_50 =>
  FCall P Fn.sluiceref07_Reader_Byte #[a1] w_50 (fun x35_51 w_52 =>
  RunV P (bin BinOp.neq 5 false false x33_49 x35_51) w_52 (fun x36_53 w_54 =>
  Cond x36_53 (K (Value.bool false) w_54) (J_3 [] w_54)) X) X) X) (RunV P (bin BinOp.eql 3 false true x11_25 (Value.int IntKind.i64 4)) w_48 (fun x38_55 w_56 =>
  Cond x38_55 (RunV P (Instr.fieldAt 37 x6_1 3) w_56 (fun x40_57 w_58 =>
  RunV P (Instr.loadAt 2 x40_57) w_58 (fun x41_59 w_60 =>
  FCall P Fn.wire_Reader_Bytes #[a0, x41_59] w_60 (fun x42_61 w_62 =>
  ∃ S : World → Prop, S (World.drew w_62) ∧ TakeP P (Instr.fieldAt 37 x6_1 3) fun x46_63 =>
  Take P (convert 27 9 x42_61) S fun x44_64 =>
  RunV P (Instr.loadAt 2 x46_63) (World.drew w_62) (fun x47_65 w_66 =>
  Keep S w_66 (fun S_67 =>
  FCall P Fn.sluiceref07_Reader_Bytes #[a1, x47_65] w_66 (fun x48_68 w_69 =>
  Keep S_67 w_69 (fun S_70 =>
  RunV P (convert 27 9 x48_68) w_69 (fun x49_71 w_72 =>
  Keep S_70 w_72 (fun S_73 =>
  TakeP P (bin BinOp.neq 9 false false x44_64 x49_71) fun x50_74 =>
  Cond x50_74 (K (Value.bool false) w_72) (FCall P Fn.sluicelaw07_book_keep #[a3, x42_61] w_72 (fun x53_75 w_76 =>
  J_3 [] w_76) X))) (fun _ _ =>
  False))) (fun _ _ =>
  False))) (fun _ _ =>
  False)) X) X) X) (RunV P (bin BinOp.eql 3 false true x11_25 (Value.int IntKind.i64 6)) w_56 (fun x55_77 w_78 =>
  Cond x55_77 (FCall P Fn.wire_Reader_End #[a0] w_78 (fun x57_79 w_80 =>
  FCall P Fn.sluiceref07_Reader_End #[a1] w_80 (fun x59_81 w_82 =>
  J_3 [] w_82) X) X) (J_3 [] w_78)) X)) X)) X)) X)) X) X) X)) X
theorem sluicelaw07_reads_call {a0 a1 a2 a3 : Value} {w : World} {K : Value → World → Prop} {X : XPost} (h : Sh.sluicelaw07_reads Try.prog a0 a1 a2 a3 w K X) : FCall Try.prog Fn.sluicelaw07_reads #[a0, a1, a2, a3] w K X :=
  call_of_sh (n := 76) (ts := [8]) (args := [a0, a1, a2, a3]) h (.seq .nil (.join [] [8, 9, 10, 11, 12, 13, 14, 15, 16, 17, 18, 19, 20, 21, 22, 23, 24, 25, 26, 27, 28, 29, 30, 31, 32, 33, 34, 35, 36, 37, 38, 39, 40, 41, 42, 43, 44, 45, 46, 47, 48, 49, 50, 51, 52, 53, 54, 55, 56, 57, 58, 59] (.seq .nil (.one (.seq .nil (.seq (.seq (.draw [(0, 0), (0, 1), (0, 4), (0, 5), (1, 2), (1, 6), (2, 3), (3, 7), (0, 8)] []) .nil) (.seq .nil (.seq .nil (.seq .nil (.seq .nil (.seq .nil (.seq (.seq .nil (.seq (.seq (.draw [(0, 0), (0, 2), (0, 3), (1, 1), (2, 4), (2, 5), (2, 6), (0, 7)] []) .nil) .nil)) .nil)))))))))) (.seq (.draw [(0, 0), (0, 2), (0, 3), (0, 4), (1, 5), (2, 1), (0, 6), (0, 7), (0, 8), (0, 10), (0, 11), (0, 12), (1, 13), (2, 9), (0, 14), (0, 15), (0, 16)] [(8, none), (7, none), (2, none)]) .nil))) mixed Try.func18 rfl Try.ntmps18 (Nat.le_of_ble_eq_true rfl) (res1 (P := Try.prog) (fn := Try.f18) rfl) (fun _ => by kernel_rfl) (by kernel_rfl) (by kernel_rfl)

/-- sluice/sluicelaw07.puts -/
def Sh.sluicelaw07_puts (P : Program) (a0 : Value) (w : World) (K : Value → World → Prop) (X : XPost) : Prop :=
  FCall P Fn.wire_NewWriter #[] w (fun x8_1 w_2 =>
  RunV P (bin BinOp.eql 24 false true x8_1 (Value.pointer none)) w_2 (fun x10_3 w_4 =>
  Cond x10_3 (K (Value.tuple #[(Value.slice none 0 0), (Value.slice none 0 0)]) w_4) (Share (fun vs_5 w_6 =>
  ∀ σ_5 : Env, FCall P Fn.wire_Writer_Err #[x8_1] w_6 (fun x54_7 w_8 =>
  RunV P (bin BinOp.neq 40 false true x54_7 (Value.int IntKind.i64 0)) w_8 (fun x55_9 w_10 =>
  Cond x55_9 (K (Value.tuple #[(Value.slice none 0 0), (Value.slice none 0 0)]) w_10) (FCall P Fn.wire_Writer_Data #[x8_1] w_10 (fun x57_11 w_12 =>
  K (Value.tuple #[x57_11, (vs_5.getD 0 undef)]) w_12) X)) X) X) (fun J_5 =>
  FLoop (fun vs_13 w_14 k_15 =>
  ∀ σ_13 : Env, RunV P (Builtin.len_ #[22] 3 #[a0]) w_14 (fun x13_16 w_17 =>
  RunV P (bin BinOp.lss 3 false false (vs_13.getD 1 undef) x13_16) w_17 (fun x14_18 w_19 =>
  Cond x14_18 (RunV P (Instr.indexAt 22 a0 (vs_13.getD 1 undef)) w_19 (fun x19_20 w_21 =>
  RunV P (Instr.loadAt 37 x19_20) w_21 (fun x20_22 w_23 =>
  RunV P (Instr.alloc 37 true (Value.tuple #[])) w_23 (fun x7_24 w_25 =>
  RunU P (Instr.storeAt 37 x7_24 x20_22) w_25 (fun w_26 =>
  Share (fun vs_27 w_28 =>
  ∀ σ_27 : Env, FCall P Fn.wire_Writer_Data #[x8_1] w_28 (fun x49_29 w_30 =>
  RunV P (Builtin.len_ #[27] 3 #[x49_29]) w_30 (fun x50_31 w_32 =>
  RunV P (Instr.buildSlice 51 1 #[(0, x50_31)]) w_32 (fun x51_33 w_34 =>
  RunV P (Builtin.append_ #[51, 51] 51 #[(vs_13.getD 0 undef), x51_33]) w_34 (fun x52_35 w_36 =>
  RunV P (bin BinOp.add 3 false true (vs_13.getD 1 undef) (Value.int IntKind.i64 1)) w_36 (fun x16_37 w_38 =>
  k_15 [x52_35, x16_37] w_38) X) X) X) X) X) (fun J_27 =>
  RunV P (Instr.fieldAt 37 x7_24 0) w_26 (fun x21_39 w_40 =>
  RunV P (Instr.loadAt 3 x21_39) w_40 (fun x22_41 w_42 =>
  RunV P (bin BinOp.eql 3 false true x22_41 (Value.int IntKind.i64 1)) w_42 (fun x29_43 w_44 =>
  Cond x29_43 (RunV P (Instr.fieldAt 37 x7_24 2) w_44 (fun x31_45 w_46 =>
  RunV P (Instr.loadAt 35 x31_45) w_46 (fun x32_47 w_48 =>
  FCall P Fn.wire_Writer_Num #[x8_1, x32_47] w_48 (fun x33_49 w_50 =>
  J_27 [] w_50) X) X) X) (RunV P (bin BinOp.eql 3 false true x22_41 (Value.int IntKind.i64 2)) w_44 (fun x35_51 w_52 =>
  Cond x35_51 (RunV P (Instr.fieldAt 37 x7_24 3) w_52 (fun x37_53 w_54 =>
  RunV P (Instr.loadAt 2 x37_53) w_54 (fun x38_55 w_56 =>
  FCall P Fn.wire_Writer_Int #[x8_1, x38_55] w_56 (fun x39_57 w_58 =>
  J_27 [] w_58) X) X) X) (RunV P (bin BinOp.eql 3 false true x22_41 (Value.int IntKind.i64 3)) w_52 (fun x41_59 w_60 =>
  Cond x41_59 (RunV P (Instr.fieldAt 37 x7_24 3) w_60 (fun x43_61 w_62 =>
  RunV P (Instr.loadAt 2 x43_61) w_62 (fun x44_63 w_64 =>
  RunV P (convert 2 5 x44_63) w_64 (fun x45_65 w_66 =>
  FCall P Fn.wire_Writer_Byte #[x8_1, x45_65] w_66 (fun x46_67 w_68 =>
  J_27 [] w_68) X) X) X) X) (RunV P (Instr.fieldAt 37 x7_24 4) w_60 (fun x24_69 w_70 =>
  RunV P (Instr.loadAt 27 x24_69) w_70 (fun x25_71 w_72 =>
  FCall P Fn.sluicelaw07_cut #[x25_71] w_72 (fun x26_73 w_74 =>
  FCall P Fn.wire_Writer_Bytes #[x8_1, x26_73] w_74 (fun x27_75 w_76 =>
  J_27 [] w_76) X) X) X) X)) X)) X)) X) X) X)) X) X) X) X) (J_5 [(vs_13.getD 0 undef)] w_19)) X) X) [(Value.slice none 0 0), (Value.int IntKind.i64 0)] w_4))) X) X
theorem sluicelaw07_puts_call {a0 : Value} {w : World} {K : Value → World → Prop} {X : XPost} (h : Sh.sluicelaw07_puts Try.prog a0 w K X) : FCall Try.prog Fn.sluicelaw07_puts #[a0] w K X :=
  call_of_sh (n := 59) (ts := [2, 3]) (args := [a0]) h (.seq .nil (.seq .nil (.seq .nil (.seq .nil (.join [5] [5, 6, 7, 11, 12, 13, 14, 15, 16, 17, 18, 19, 20, 21, 22, 23, 24, 25, 26, 27, 28, 29, 30, 31, 32, 33, 34, 35, 36, 37, 38, 39, 40, 41, 42, 43, 44, 45, 46, 47, 48, 49, 50, 51, 52] (.seq .nil (.one (.loop [5, 6] [5, 6, 7, 11, 12, 13, 14, 15, 16, 17, 18, 19, 20, 21, 22, 23, 24, 25, 26, 27, 28, 29, 30, 31, 32, 33, 34, 35, 36, 37, 38, 39, 40, 41, 42, 43, 44, 45, 46, 47, 48, 49, 50, 51, 52] (.seq .nil (.seq (.one (.seq .nil (.join [] [21, 22, 23, 24, 25, 26, 27, 28, 29, 30, 31, 32, 33, 34, 35, 36, 37, 38, 39, 40, 41, 42, 43, 44, 45, 46] .nil .nil))) .nil))))) .nil))))) mixed Try.func19 rfl Try.ntmps19 (Nat.le_of_ble_eq_true rfl) (res2 (P := Try.prog) (fn := Try.f19) rfl) (fun _ => by kernel_rfl) (by kernel_rfl) (by kernel_rfl)

/-- sluice/sluicelaw07.got -/
def Sh.sluicelaw07_got (P : Program) (a0 a1 : Value) (w : World) (K : Value → World → Prop) (X : XPost) : Prop :=
  RunV P (Instr.box 37 a1) w (fun x3_1 w_2 =>
  RunV P (Instr.fieldAt 37 x3_1 0) w_2 (fun x5_3 w_4 =>
  RunV P (Instr.loadAt 3 x5_3) w_4 (fun x6_5 w_6 =>
  RunV P (bin BinOp.eql 3 false true x6_5 (Value.int IntKind.i64 1)) w_6 (fun x8_7 w_8 =>
  Cond x8_7 (∃ S : World → Prop, S (World.drew w_8) ∧ TakeP P (Instr.fieldAt 37 x3_1 2) fun x10_9 =>
  TakeP P (Instr.fieldAt 37 x3_1 2) fun x13_10 =>
  Take P (Instr.loadAt 35 x10_9) S fun x11_11 =>
  Take P (Instr.loadAt 35 x13_10) S fun x14_12 =>
  FCall P Fn.wire_Reader_Num #[a0, x11_11] (World.drew w_8) (fun x12_13 w_14 =>
  Keep S w_14 (fun S_15 =>
  TakeP P (bin BinOp.eql 35 false false x12_13 x14_12) fun x15_16 =>
  K x15_16 w_14)) (fun _ _ =>
  False)) (RunV P (bin BinOp.eql 3 false true x6_5 (Value.int IntKind.i64 2)) w_8 (fun x17_17 w_18 =>
  Cond x17_17 (∃ S : World → Prop, S (World.drew w_18) ∧ TakeP P (Instr.fieldAt 37 x3_1 3) fun x20_19 =>
  Take P (Instr.loadAt 2 x20_19) S fun x21_20 =>
  FCall P Fn.wire_Reader_Int #[a0] (World.drew w_18) (fun x19_21 w_22 =>
  Keep S w_22 (fun S_23 =>
  TakeP P (bin BinOp.eql 2 false false x19_21 x21_20) fun x22_24 =>
  K x22_24 w_22)) (fun _ _ =>
  False)) (RunV P (bin BinOp.eql 3 false true x6_5 (Value.int IntKind.i64 3)) w_18 (fun x24_25 w_26 =>
  Cond x24_25 (∃ S : World → Prop, S (World.drew w_26) ∧ TakeP P (Instr.fieldAt 37 x3_1 3) fun x27_27 =>
  Take P (Instr.loadAt 2 x27_27) S fun x28_28 =>
  TakeP P (convert 2 5 x28_28) fun x29_29 =>
  FCall P Fn.wire_Reader_Byte #[a0] (World.drew w_26) (fun x26_30 w_31 =>
  Keep S w_31 (fun S_32 =>
  TakeP P (bin BinOp.eql 5 false false x26_30 x29_29) fun x30_33 =>
  K x30_33 w_31)) (fun _ _ =>
  False)) (∃ S : World → Prop, S (World.drew w_26) ∧ TakeP P (Instr.fieldAt 37 x3_1 4) fun x32_34 =>
  TakeP P (Instr.fieldAt 37 x3_1 4) fun x38_35 =>
  Take P (Instr.loadAt 27 x32_34) S fun x33_36 =>
  Take P (Instr.loadAt 27 x38_35) S fun x39_37 =>
  FCall P Fn.sluicelaw07_cut #[x33_36] (World.drew w_26) (fun x34_38 w_39 =>
  Keep S w_39 (fun S_40 =>
  TakeP P (Builtin.len_ #[27] 3 #[x34_38]) fun x35_41 =>
  FCall P Fn.wire_Reader_Bytes #[a0, x35_41] w_39 (fun x36_42 w_43 =>
  Keep S_40 w_43 (fun S_44 =>
  Take P (convert 27 9 x36_42) S_44 fun x37_45 =>
  FCall P Fn.sluicelaw07_cut #[x39_37] w_43 (fun x40_46 w_47 =>
  Keep S_44 w_47 (fun S_48 =>
  RunV P (convert 27 9 x40_46) w_47 (fun x41_49 w_50 =>
  Keep S_48 w_50 (fun S_51 =>
  TakeP P (bin BinOp.eql 9 false false x37_45 x41_49) fun x42_52 =>
  K x42_52 w_50)) (fun _ _ =>
  False))) (fun _ _ =>
  False))) (fun _ _ =>
  False))) (fun _ _ =>
  False))) X)) X)) X) X) X) X
theorem sluicelaw07_got_call {a0 a1 : Value} {w : World} {K : Value → World → Prop} {X : XPost} (h : Sh.sluicelaw07_got Try.prog a0 a1 w K X) : FCall Try.prog Fn.sluicelaw07_got #[a0, a1] w K X :=
  call_of_sh (n := 43) (ts := [4]) (args := [a0, a1]) h (.seq .nil (.seq (.seq .nil (.one (.seq .nil (.seq (.seq (.draw [(0, 0), (0, 1), (0, 4), (1, 2), (1, 5), (2, 3), (0, 6), (0, 7)] []) .nil) (.seq .nil (.seq (.seq (.draw [(0, 0), (0, 2), (1, 3), (2, 1), (0, 4), (0, 5)] []) .nil) (.seq .nil (.seq (.seq (.draw [(0, 0), (0, 2), (1, 3), (0, 4), (2, 1), (0, 5), (0, 6)] []) .nil) .nil)))))))) (.seq (.draw [(0, 0), (0, 1), (0, 7), (1, 2), (1, 8), (2, 3), (0, 4), (2, 5), (1, 6), (2, 9), (2, 10), (0, 11), (0, 12)] []) .nil))) mixed Try.func20 rfl Try.ntmps20 (Nat.le_of_ble_eq_true rfl) (res1 (P := Try.prog) (fn := Try.f20) rfl) (fun _ => by kernel_rfl) (by kernel_rfl) (by kernel_rfl)

/-- (*sluice/wire.Reader).Err -/
def Sh.wire_Reader_Err (P : Program) (a0 : Value) (w : World) (K : Value → World → Prop) (X : XPost) : Prop :=
  RunV P (bin BinOp.eql 44 false true a0 (Value.pointer none)) w (fun x4_1 w_2 =>
  Cond x4_1 (K (Value.int IntKind.i64 0) w_2) (RunV P (nilc a0) w_2 (fun x6_3 w_4 =>
  RunV P (Instr.fieldAt 73 x6_3 0) w_4 (fun x7_5 w_6 =>
  RunV P (Instr.fieldAt 68 x7_5 0) w_6 (fun x8_7 w_8 =>
  RunV P (Instr.loadAt 40 x8_7) w_8 (fun x9_9 w_10 =>
  K x9_9 w_10) X) X) X) X)) X
theorem wire_Reader_Err_call {a0 : Value} {w : World} {K : Value → World → Prop} {X : XPost} (h : Sh.wire_Reader_Err Try.prog a0 w K X) : FCall Try.prog Fn.wire_Reader_Err #[a0] w K X :=
  call_of_sh (n := 10) (ts := [2]) (args := [a0]) h .nil mixed Try.func21 rfl Try.ntmps21 (Nat.le_of_ble_eq_true rfl) (res1 (P := Try.prog) (fn := Try.f21) rfl) (fun _ => by kernel_rfl) (by kernel_rfl) (by kernel_rfl)

/-- (*sluice/wire.Reader).At -/
def Sh.wire_Reader_At (P : Program) (a0 : Value) (w : World) (K : Value → World → Prop) (X : XPost) : Prop :=
  RunV P (bin BinOp.eql 44 false true a0 (Value.pointer none)) w (fun x4_1 w_2 =>
  Cond x4_1 (K (Value.int IntKind.i64 0) w_2) (RunV P (nilc a0) w_2 (fun x6_3 w_4 =>
  RunV P (Instr.fieldAt 73 x6_3 2) w_4 (fun x7_5 w_6 =>
  RunV P (Instr.loadAt 3 x7_5) w_6 (fun x8_7 w_8 =>
  K x8_7 w_8) X) X) X)) X
theorem wire_Reader_At_call {a0 : Value} {w : World} {K : Value → World → Prop} {X : XPost} (h : Sh.wire_Reader_At Try.prog a0 w K X) : FCall Try.prog Fn.wire_Reader_At #[a0] w K X :=
  call_of_sh (n := 9) (ts := [2]) (args := [a0]) h .nil mixed Try.func22 rfl Try.ntmps22 (Nat.le_of_ble_eq_true rfl) (res1 (P := Try.prog) (fn := Try.f22) rfl) (fun _ => by kernel_rfl) (by kernel_rfl) (by kernel_rfl)

/-- (*sluice/wire.Reader).End -/
def Sh.wire_Reader_End (P : Program) (a0 : Value) (w : World) (K : Value → World → Prop) (X : XPost) : Prop :=
  Share (fun vs_1 w_2 =>
  ∀ σ_1 : Env, Cond (vs_1.getD 0 undef) (RunV P (nilc a0) w_2 (fun x18_3 w_4 =>
  RunV P (Instr.fieldAt 73 x18_3 0) w_4 (fun x19_5 w_6 =>
  FCall P Fn.wire_status_fail #[x19_5, (Value.int IntKind.i64 32)] w_6 (fun x20_7 w_8 =>
  K (Value.tuple #[]) w_8) X) X) X) (K (Value.tuple #[]) w_2)) (fun J_1 =>
  ∃ S : World → Prop, S (World.drew w) ∧ FCall P Fn.wire_Reader_off #[a0] (World.drew w) (fun x3_9 w_10 =>
  Keep S w_10 (fun S_11 =>
  TakeP P (Op.unary UnOp.not x3_9) fun x4_12 =>
  Guard x4_12 true (TakeP P (nilc a0) fun x7_13 =>
  TakeP P (Instr.fieldAt 73 x7_13 2) fun x8_14 =>
  TakeP P (nilc a0) fun x11_15 =>
  TakeP P (Instr.fieldAt 73 x11_15 1) fun x12_16 =>
  Take P (Instr.loadAt 3 x8_14) S_11 fun x9_17 =>
  RunV P (Instr.loadAt 27 x12_16) w_10 (fun x13_18 w_19 =>
  Keep S_11 w_19 (fun S_20 =>
  TakeP P (Builtin.len_ #[27] 3 #[x13_18]) fun x14_21 =>
  TakeP P (bin BinOp.lss 3 false false x9_17 x14_21) fun x15_22 =>
  Pick x4_12 x15_22 (Value.bool false) fun x16_23 =>
  J_1 [x16_23] w_19)) (fun _ _ =>
  False)) (Pick x4_12 undef (Value.bool false) fun x16_24 =>
  J_1 [x16_24] w_10))) (fun _ _ =>
  False))
theorem wire_Reader_End_call {a0 : Value} {w : World} {K : Value → World → Prop} {X : XPost} (h : Sh.wire_Reader_End Try.prog a0 w K X) : FCall Try.prog Fn.wire_Reader_End #[a0] w K X :=
  call_of_sh (n := 21) (ts := []) (args := [a0]) h (.join [16] [2, 3, 4, 5, 6, 7, 8, 9, 10, 11, 12, 13, 14, 15, 16] (.draw [(0, 0), (2, 1), (0, 2), (0, 3), (0, 4), (0, 5), (0, 6), (0, 8), (0, 9), (0, 10), (1, 7), (2, 11), (0, 12), (0, 13), (0, 14)] [(4, none), (10, none), (1, none)]) .nil) mixed Try.func23 rfl Try.ntmps23 (Nat.le_of_ble_eq_true rfl) (res0 (P := Try.prog) (fn := Try.f23) rfl) (fun _ => by kernel_rfl) (by kernel_rfl) (by kernel_rfl)

/-- (*sluice/wire.Writer).Int -/
def Sh.wire_Writer_Int (P : Program) (a0 a1 : Value) (w : World) (K : Value → World → Prop) (X : XPost) : Prop :=
  RunV P (convert 2 35 a1) w (fun x6_1 w_2 =>
  RunV P (bin BinOp.shl 35 false true x6_1 (Value.int IntKind.u64 1)) w_2 (fun x7_3 w_4 =>
  RunV P (bin BinOp.shr 2 false true a1 (Value.int IntKind.u64 63)) w_4 (fun x9_5 w_6 =>
  RunV P (convert 2 35 x9_5) w_6 (fun x10_7 w_8 =>
  RunV P (bin BinOp.xor 35 false false x7_3 x10_7) w_8 (fun x11_9 w_10 =>
  FCall P Fn.wire_Writer_Num #[a0, x11_9] w_10 (fun x12_11 w_12 =>
  K (Value.tuple #[]) w_12) X) X) X) X) X) X
theorem wire_Writer_Int_call {a0 a1 : Value} {w : World} {K : Value → World → Prop} {X : XPost} (h : Sh.wire_Writer_Int Try.prog a0 a1 w K X) : FCall Try.prog Fn.wire_Writer_Int #[a0, a1] w K X :=
  call_of_sh (n := 13) (ts := []) (args := [a0, a1]) h .nil mixed Try.func24 rfl Try.ntmps24 (Nat.le_of_ble_eq_true rfl) (res0 (P := Try.prog) (fn := Try.f24) rfl) (fun _ => by kernel_rfl) (by kernel_rfl) (by kernel_rfl)

/-- (*sluice/wire.Reader).Int -/
def Sh.wire_Reader_Int (P : Program) (a0 : Value) (w : World) (K : Value → World → Prop) (X : XPost) : Prop :=
  FCall P Fn.wire_Reader_Num #[a0, (Value.int IntKind.u64 18446744073709551615)] w (fun x5_1 w_2 =>
  RunV P (bin BinOp.shr 35 false true x5_1 (Value.int IntKind.u64 1)) w_2 (fun x7_3 w_4 =>
  RunV P (convert 35 2 x7_3) w_4 (fun x8_5 w_6 =>
  RunV P (bin BinOp.and 35 false true x5_1 (Value.int IntKind.u64 1)) w_6 (fun x10_7 w_8 =>
  RunV P (convert 35 2 x10_7) w_8 (fun x11_9 w_10 =>
  RunV P (Op.unary UnOp.neg x11_9) w_10 (fun x12_11 w_12 =>
  RunV P (bin BinOp.xor 2 false false x8_5 x12_11) w_12 (fun x13_13 w_14 =>
  K x13_13 w_14) X) X) X) X) X) X) X
theorem wire_Reader_Int_call {a0 : Value} {w : World} {K : Value → World → Prop} {X : XPost} (h : Sh.wire_Reader_Int Try.prog a0 w K X) : FCall Try.prog Fn.wire_Reader_Int #[a0] w K X :=
  call_of_sh (n := 14) (ts := [2]) (args := [a0]) h .nil mixed Try.func25 rfl Try.ntmps25 (Nat.le_of_ble_eq_true rfl) (res1 (P := Try.prog) (fn := Try.f25) rfl) (fun _ => by kernel_rfl) (by kernel_rfl) (by kernel_rfl)

/-- (*sluice/wire.Writer).Num -/
def Sh.wire_Writer_Num (P : Program) (a0 a1 : Value) (w : World) (K : Value → World → Prop) (X : XPost) : Prop :=
  FCall P Fn.wire_Writer_off #[a0] w (fun x5_1 w_2 =>
  Cond x5_1 (K (Value.tuple #[]) w_2) (Share (fun vs_3 w_4 =>
  ∀ σ_3 : Env, RunV P (nilc a0) w_4 (fun x24_5 w_6 =>
  RunV P (Instr.fieldAt 70 x24_5 1) w_6 (fun x25_7 w_8 =>
  RunV P (Instr.loadAt 27 x25_7) w_8 (fun x26_9 w_10 =>
  RunV P (convert 35 5 (vs_3.getD 0 undef)) w_10 (fun x28_11 w_12 =>
  RunV P (Instr.buildSlice 27 1 #[(0, x28_11)]) w_12 (fun x29_13 w_14 =>
  RunV P (Builtin.append_ #[27, 27] 27 #[x26_9, x29_13]) w_14 (fun x30_15 w_16 =>
  RunV P (nilc a0) w_16 (fun x31_17 w_18 =>
  RunV P (Instr.fieldAt 70 x31_17 1) w_18 (fun x32_19 w_20 =>
  RunU P (Instr.storeAt 27 x32_19 x30_15) w_20 (fun w_21 =>
  K (Value.tuple #[]) w_21) X) X) X) X) X) X) X) X) X) (fun J_3 =>
  FLoop (fun vs_22 w_23 k_24 =>
  ∀ σ_22 : Env, RunV P (bin BinOp.gtr 35 false true (vs_22.getD 0 undef) (Value.int IntKind.u64 127)) w_23 (fun x7_25 w_26 =>
  Cond x7_25 (RunV P (nilc a0) w_26 (fun x12_27 w_28 =>
  RunV P (Instr.fieldAt 70 x12_27 1) w_28 (fun x13_29 w_30 =>
  RunV P (Instr.loadAt 27 x13_29) w_30 (fun x14_31 w_32 =>
  RunV P (convert 35 5 (vs_22.getD 0 undef)) w_32 (fun x16_33 w_34 =>
  RunV P (bin BinOp.or 5 false true x16_33 (Value.int IntKind.u8 128)) w_34 (fun x17_35 w_36 =>
  RunV P (Instr.buildSlice 27 1 #[(0, x17_35)]) w_36 (fun x18_37 w_38 =>
  RunV P (Builtin.append_ #[27, 27] 27 #[x14_31, x18_37]) w_38 (fun x19_39 w_40 =>
  RunV P (nilc a0) w_40 (fun x20_41 w_42 =>
  RunV P (Instr.fieldAt 70 x20_41 1) w_42 (fun x21_43 w_44 =>
  RunU P (Instr.storeAt 27 x21_43 x19_39) w_44 (fun w_45 =>
  RunV P (bin BinOp.shr 35 false true (vs_22.getD 0 undef) (Value.int IntKind.u64 7)) w_45 (fun x9_46 w_47 =>
  k_24 [x9_46] w_47) X) X) X) X) X) X) X) X) X) X) X) (J_3 [(vs_22.getD 0 undef)] w_26)) X) [a1] w_2))) X
theorem wire_Writer_Num_call {a0 a1 : Value} {w : World} {K : Value → World → Prop} {X : XPost} (h : Sh.wire_Writer_Num Try.prog a0 a1 w K X) : FCall Try.prog Fn.wire_Writer_Num #[a0, a1] w K X :=
  call_of_sh (n := 33) (ts := []) (args := [a0, a1]) h (.seq .nil (.join [1] [1, 6, 7, 8, 9, 10, 11, 12, 13, 14, 15, 16, 17, 18, 19, 20, 21] (.one (.loop [1] [1, 6, 7, 8, 9, 10, 11, 12, 13, 14, 15, 16, 17, 18, 19, 20, 21] .nil)) .nil)) mixed Try.func26 rfl Try.ntmps26 (Nat.le_of_ble_eq_true rfl) (res0 (P := Try.prog) (fn := Try.f26) rfl) (fun _ => by kernel_rfl) (by kernel_rfl) (by kernel_rfl)

/-- (*sluice/wire.Reader).Num -/
def Sh.wire_Reader_Num (P : Program) (a0 a1 : Value) (w : World) (K : Value → World → Prop) (X : XPost) : Prop :=
  FCall P Fn.wire_Reader_off #[a0] w (fun x9_1 w_2 =>
  Cond x9_1 (K (Value.int IntKind.u64 0) w_2) (FCall P Fn.wire_Reader_number #[a0] w_2 (fun x12_3 w_4 =>
  RunV P (Instr.extract x12_3 0) w_4 (fun x13_5 w_6 =>
  RunV P (Instr.extract x12_3 1) w_6 (fun x14_7 w_8 =>
  RunV P (Instr.extract x12_3 2) w_8 (fun x15_9 w_10 =>
  Share (fun vs_11 w_12 =>
  ∀ σ_11 : Env, RunV P (bin BinOp.neq 40 false true (vs_11.getD 0 undef) (Value.int IntKind.i64 0)) w_12 (fun x24_13 w_14 =>
  Cond x24_13 (RunV P (nilc a0) w_14 (fun x26_15 w_16 =>
  RunV P (Instr.fieldAt 73 x26_15 0) w_16 (fun x27_17 w_18 =>
  FCall P Fn.wire_status_fail #[x27_17, (vs_11.getD 0 undef)] w_18 (fun x29_19 w_20 =>
  K (Value.int IntKind.u64 0) w_20) X) X) X) (RunV P (nilc a0) w_14 (fun x31_21 w_22 =>
  RunV P (Instr.fieldAt 73 x31_21 2) w_22 (fun x32_23 w_24 =>
  RunV P (Instr.loadAt 3 x32_23) w_24 (fun x33_25 w_26 =>
  RunV P (bin BinOp.add 3 false false x33_25 x14_7) w_26 (fun x35_27 w_28 =>
  RunV P (nilc a0) w_28 (fun x36_29 w_30 =>
  RunV P (Instr.fieldAt 73 x36_29 2) w_30 (fun x37_31 w_32 =>
  RunU P (Instr.storeAt 3 x37_31 x35_27) w_32 (fun w_33 =>
  K x13_5 w_33) X) X) X) X) X) X) X)) X) (fun J_11 =>
  RunV P (bin BinOp.eql 40 false true x15_9 (Value.int IntKind.i64 0)) w_10 (fun x17_34 w_35 =>
  Guard x17_34 true (RunV P (bin BinOp.gtr 35 false false x13_5 a1) w_35 (fun x21_36 w_37 =>
  Pick x17_34 x21_36 (Value.bool false) fun x22_38 =>
  Cond x22_38 (J_11 [(Value.int IntKind.i64 12)] w_37) (J_11 [x15_9] w_37)) X) (Pick x17_34 undef (Value.bool false) fun x22_39 =>
  Cond x22_39 (J_11 [(Value.int IntKind.i64 12)] w_35) (J_11 [x15_9] w_35))) X)) X) X) X) X)) X
theorem wire_Reader_Num_call {a0 a1 : Value} {w : World} {K : Value → World → Prop} {X : XPost} (h : Sh.wire_Reader_Num Try.prog a0 a1 w K X) : FCall Try.prog Fn.wire_Reader_Num #[a0, a1] w K X :=
  call_of_sh (n := 39) (ts := [4]) (args := [a0, a1]) h (.seq .nil (.seq .nil (.seq .nil (.join [7] [7, 16, 17, 18, 19, 20, 21, 22] (.seq (.ops [(3, none), (3, none), (1, none)]) .nil) .nil)))) mixed Try.func27 rfl Try.ntmps27 (Nat.le_of_ble_eq_true rfl) (res1 (P := Try.prog) (fn := Try.f27) rfl) (fun _ => by kernel_rfl) (by kernel_rfl) (by kernel_rfl)

/-- (*sluice/wire.Reader).Byte -/
def Sh.wire_Reader_Byte (P : Program) (a0 : Value) (w : World) (K : Value → World → Prop) (X : XPost) : Prop :=
  FCall P Fn.wire_Reader_off #[a0] w (fun x4_1 w_2 =>
  Cond x4_1 (K (Value.int IntKind.u8 0) w_2) (∃ S : World → Prop, S (World.drew w_2) ∧ TakeP P (nilc a0) fun x6_3 =>
  TakeP P (Instr.fieldAt 73 x6_3 2) fun x7_4 =>
  TakeP P (nilc a0) fun x10_5 =>
  TakeP P (Instr.fieldAt 73 x10_5 1) fun x11_6 =>
  Take P (Instr.loadAt 3 x7_4) S fun x8_7 =>
  RunV P (Instr.loadAt 27 x11_6) (World.drew w_2) (fun x12_8 w_9 =>
  Keep S w_9 (fun S_10 =>
  TakeP P (Builtin.len_ #[27] 3 #[x12_8]) fun x13_11 =>
  TakeP P (bin BinOp.eql 3 false false x8_7 x13_11) fun x14_12 =>
  Cond x14_12 (RunV P (nilc a0) w_9 (fun x16_13 w_14 =>
  RunV P (Instr.fieldAt 73 x16_13 0) w_14 (fun x17_15 w_16 =>
  FCall P Fn.wire_status_fail #[x17_15, (Value.int IntKind.i64 30)] w_16 (fun x18_17 w_18 =>
  K (Value.int IntKind.u8 0) w_18) X) X) X) (RunV P (nilc a0) w_9 (fun x20_19 w_20 =>
  RunV P (Instr.fieldAt 73 x20_19 2) w_20 (fun x21_21 w_22 =>
  RunV P (Instr.loadAt 3 x21_21) w_22 (fun x22_23 w_24 =>
  RunV P (bin BinOp.add 3 false true x22_23 (Value.int IntKind.i64 1)) w_24 (fun x23_25 w_26 =>
  RunV P (nilc a0) w_26 (fun x24_27 w_28 =>
  RunV P (Instr.fieldAt 73 x24_27 2) w_28 (fun x25_29 w_30 =>
  RunU P (Instr.storeAt 3 x25_29 x23_25) w_30 (fun w_31 =>
  ∃ S : World → Prop, S (World.drew w_31) ∧ TakeP P (nilc a0) fun x27_32 =>
  TakeP P (Instr.fieldAt 73 x27_32 1) fun x28_33 =>
  TakeP P (nilc a0) fun x31_34 =>
  TakeP P (Instr.fieldAt 73 x31_34 2) fun x32_35 =>
  Take P (Instr.loadAt 27 x28_33) S fun x29_36 =>
  RunV P (Instr.loadAt 3 x32_35) (World.drew w_31) (fun x33_37 w_38 =>
  Keep S w_38 (fun S_39 =>
  TakeP P (bin BinOp.sub 3 false true x33_37 (Value.int IntKind.i64 1)) fun x34_40 =>
  TakeP P (Instr.indexAt 27 x29_36 x34_40) fun x35_41 =>
  RunV P (Instr.loadAt 5 x35_41) w_38 (fun x36_42 w_43 =>
  K x36_42 w_43) (fun _ _ =>
  False))) (fun _ _ =>
  False)) X) X) X) X) X) X) X))) (fun _ _ =>
  False))) X
theorem wire_Reader_Byte_call {a0 : Value} {w : World} {K : Value → World → Prop} {X : XPost} (h : Sh.wire_Reader_Byte Try.prog a0 w K X) : FCall Try.prog Fn.wire_Reader_Byte #[a0] w K X :=
  call_of_sh (n := 37) (ts := [2]) (args := [a0]) h (.seq .nil (.seq .nil (.seq (.seq (.draw [(0, 0), (0, 1), (0, 2), (0, 4), (0, 5), (0, 6), (1, 3), (2, 7), (0, 8), (0, 9)] []) .nil) (.seq .nil (.seq (.draw [(0, 0), (0, 1), (0, 2), (0, 4), (0, 5), (0, 6), (1, 3), (2, 7), (0, 8), (0, 9), (3, 10), (0, 11)] []) .nil))))) mixed Try.func28 rfl Try.ntmps28 (Nat.le_of_ble_eq_true rfl) (res1 (P := Try.prog) (fn := Try.f28) rfl) (fun _ => by kernel_rfl) (by kernel_rfl) (by kernel_rfl)

/-- (*sluice/wire.Reader).Bytes -/
def Sh.wire_Reader_Bytes (P : Program) (a0 a1 : Value) (w : World) (K : Value → World → Prop) (X : XPost) : Prop :=
  FCall P Fn.wire_Reader_off #[a0] w (fun x10_1 w_2 =>
  Cond x10_1 (K (Value.slice none 0 0) w_2) (FCall P Fn.wire_Reader_number #[a0] w_2 (fun x13_3 w_4 =>
  RunV P (Instr.extract x13_3 0) w_4 (fun x14_5 w_6 =>
  RunV P (Instr.extract x13_3 1) w_6 (fun x15_7 w_8 =>
  RunV P (Instr.extract x13_3 2) w_8 (fun x16_9 w_10 =>
  Share (fun vs_11 w_12 =>
  ∀ σ_11 : Env, RunV P (bin BinOp.neq 40 false true (vs_11.getD 0 undef) (Value.int IntKind.i64 0)) w_12 (fun x47_13 w_14 =>
  Cond x47_13 (RunV P (nilc a0) w_14 (fun x49_15 w_16 =>
  RunV P (Instr.fieldAt 73 x49_15 0) w_16 (fun x50_17 w_18 =>
  FCall P Fn.wire_status_fail #[x50_17, (vs_11.getD 0 undef)] w_18 (fun x52_19 w_20 =>
  K (Value.slice none 0 0) w_20) X) X) X) (RunV P (nilc a0) w_14 (fun x54_21 w_22 =>
  RunV P (Instr.fieldAt 73 x54_21 2) w_22 (fun x55_23 w_24 =>
  RunV P (Instr.loadAt 3 x55_23) w_24 (fun x56_25 w_26 =>
  RunV P (bin BinOp.add 3 false false x56_25 x15_7) w_26 (fun x58_27 w_28 =>
  RunV P (convert 35 3 x14_5) w_28 (fun x62_29 w_30 =>
  RunV P (bin BinOp.add 3 false false x58_27 x62_29) w_30 (fun x63_31 w_32 =>
  RunV P (nilc a0) w_32 (fun x64_33 w_34 =>
  RunV P (Instr.fieldAt 73 x64_33 2) w_34 (fun x65_35 w_36 =>
  RunU P (Instr.storeAt 3 x65_35 x63_31) w_36 (fun w_37 =>
  ∃ S : World → Prop, S (World.drew w_37) ∧ TakeP P (nilc a0) fun x67_38 =>
  TakeP P (Instr.fieldAt 73 x67_38 1) fun x68_39 =>
  TakeP P (nilc a0) fun x72_40 =>
  TakeP P (Instr.fieldAt 73 x72_40 2) fun x73_41 =>
  Take P (Instr.loadAt 27 x68_39) S fun x69_42 =>
  RunV P (Instr.loadAt 3 x73_41) (World.drew w_37) (fun x74_43 w_44 =>
  Keep S w_44 (fun S_45 =>
  TakeP P (Instr.sliceAt 27 x69_42 (some x58_27) (some x74_43) none) fun x75_46 =>
  FCall P Fn.slices_Clone_byte_byte #[x75_46] w_44 (fun x76_47 w_48 =>
  K x76_47 w_48) (fun _ _ =>
  False))) (fun _ _ =>
  False)) X) X) X) X) X) X) X) X) X)) X) (fun J_11 =>
  RunV P (bin BinOp.neq 40 false true x16_9 (Value.int IntKind.i64 0)) w_10 (fun x19_49 w_50 =>
  Cond x19_49 (J_11 [x16_9] w_50) (Share (fun vs_51 w_52 =>
  ∀ σ_51 : Env, Cond (vs_51.getD 0 undef) (J_11 [(Value.int IntKind.i64 12)] w_52) (∃ S : World → Prop, S (World.drew w_52) ∧ TakeP P (nilc a0) fun x33_53 =>
  TakeP P (Instr.fieldAt 73 x33_53 1) fun x34_54 =>
  TakeP P (nilc a0) fun x38_55 =>
  TakeP P (Instr.fieldAt 73 x38_55 2) fun x39_56 =>
  Take P (Instr.loadAt 27 x34_54) S fun x35_57 =>
  TakeP P (Builtin.len_ #[27] 3 #[x35_57]) fun x36_58 =>
  RunV P (Instr.loadAt 3 x39_56) (World.drew w_52) (fun x40_59 w_60 =>
  Keep S w_60 (fun S_61 =>
  TakeP P (bin BinOp.sub 3 false false x36_58 x40_59) fun x41_62 =>
  TakeP P (bin BinOp.sub 3 false false x41_62 x15_7) fun x43_63 =>
  TakeP P (convert 3 35 x43_63) fun x44_64 =>
  TakeP P (bin BinOp.gtr 35 false false x14_5 x44_64) fun x45_65 =>
  Cond x45_65 (J_11 [(Value.int IntKind.i64 30)] w_60) (J_11 [x16_9] w_60))) (fun _ _ =>
  False))) (fun J_51 =>
  RunV P (bin BinOp.lss 3 false true a1 (Value.int IntKind.i64 0)) w_50 (fun x22_66 w_67 =>
  Guard x22_66 false (RunV P (Builtin.min_ #[3, 3] 3 #[a1, (Value.int IntKind.i64 65536)]) w_67 (fun x26_68 w_69 =>
  RunV P (convert 3 35 x26_68) w_69 (fun x27_70 w_71 =>
  RunV P (bin BinOp.gtr 35 false false x14_5 x27_70) w_71 (fun x28_72 w_73 =>
  Pick x22_66 (Value.bool true) x28_72 fun x29_74 =>
  J_51 [x29_74] w_73) X) X) X) (Pick x22_66 (Value.bool true) undef fun x29_75 =>
  J_51 [x29_75] w_67)) X))) X)) X) X) X) X)) X
theorem wire_Reader_Bytes_call {a0 a1 : Value} {w : World} {K : Value → World → Prop} {X : XPost} (h : Sh.wire_Reader_Bytes Try.prog a0 a1 w K X) : FCall Try.prog Fn.wire_Reader_Bytes #[a0, a1] w K X :=
  call_of_sh (n := 77) (ts := [4]) (args := [a0, a1]) h (.seq .nil (.seq .nil (.seq .nil (.join [7] [7, 17, 18, 19, 20, 21, 22, 23, 24, 25, 26, 27, 28, 29, 30, 31, 32, 33, 34, 35, 36, 37, 38, 39, 40, 41, 42, 43, 44, 45] (.one (.seq .nil (.seq .nil (.join [20] [20, 21, 22, 23, 24, 25, 26, 27, 28, 29] (.ops [(3, none), (5, none), (2, none)]) (.seq .nil (.seq (.draw [(0, 0), (0, 1), (0, 2), (0, 3), (0, 6), (0, 7), (0, 8), (0, 11), (1, 4), (0, 5), (2, 9), (0, 10), (0, 12), (0, 13), (0, 14), (0, 15)] []) .nil)))))) (.seq .nil (.seq .nil (.seq .nil (.seq (.draw [(0, 0), (0, 1), (0, 2), (0, 4), (0, 5), (0, 6), (0, 7), (1, 3), (2, 8), (0, 9), (3, 10), (0, 11)] []) .nil)))))))) mixed Try.func29 rfl Try.ntmps29 (Nat.le_of_ble_eq_true rfl) (res1 (P := Try.prog) (fn := Try.f29) rfl) (fun _ => by kernel_rfl) (by kernel_rfl) (by kernel_rfl)

/-- (*sluice/wire.Writer).Byte -/
def Sh.wire_Writer_Byte (P : Program) (a0 a1 : Value) (w : World) (K : Value → World → Prop) (X : XPost) : Prop :=
  FCall P Fn.wire_Writer_off #[a0] w (fun x5_1 w_2 =>
  RunV P (Op.unary UnOp.not x5_1) w_2 (fun x6_3 w_4 =>
  Cond x6_3 (RunV P (nilc a0) w_4 (fun x9_5 w_6 =>
  RunV P (Instr.fieldAt 70 x9_5 1) w_6 (fun x10_7 w_8 =>
  RunV P (Instr.loadAt 27 x10_7) w_8 (fun x11_9 w_10 =>
  RunV P (Instr.buildSlice 27 1 #[(0, a1)]) w_10 (fun x13_11 w_12 =>
  RunV P (Builtin.append_ #[27, 27] 27 #[x11_9, x13_11]) w_12 (fun x14_13 w_14 =>
  RunV P (nilc a0) w_14 (fun x15_15 w_16 =>
  RunV P (Instr.fieldAt 70 x15_15 1) w_16 (fun x16_17 w_18 =>
  RunU P (Instr.storeAt 27 x16_17 x14_13) w_18 (fun w_19 =>
  K (Value.tuple #[]) w_19) X) X) X) X) X) X) X) X) (K (Value.tuple #[]) w_4)) X) X
theorem wire_Writer_Byte_call {a0 a1 : Value} {w : World} {K : Value → World → Prop} {X : XPost} (h : Sh.wire_Writer_Byte Try.prog a0 a1 w K X) : FCall Try.prog Fn.wire_Writer_Byte #[a0, a1] w K X :=
  call_of_sh (n := 17) (ts := []) (args := [a0, a1]) h .nil mixed Try.func30 rfl Try.ntmps30 (Nat.le_of_ble_eq_true rfl) (res0 (P := Try.prog) (fn := Try.f30) rfl) (fun _ => by kernel_rfl) (by kernel_rfl) (by kernel_rfl)

/-- (*sluice/wire.Writer).Bytes -/
def Sh.wire_Writer_Bytes (P : Program) (a0 a1 : Value) (w : World) (K : Value → World → Prop) (X : XPost) : Prop :=
  FCall P Fn.wire_Writer_off #[a0] w (fun x5_1 w_2 =>
  Cond x5_1 (K (Value.tuple #[]) w_2) (RunV P (Builtin.len_ #[27] 3 #[a1]) w_2 (fun x7_3 w_4 =>
  RunV P (bin BinOp.gtr 3 false true x7_3 (Value.int IntKind.i64 65536)) w_4 (fun x8_5 w_6 =>
  Cond x8_5 (RunV P (nilc a0) w_6 (fun x10_7 w_8 =>
  RunV P (Instr.fieldAt 70 x10_7 0) w_8 (fun x11_9 w_10 =>
  FCall P Fn.wire_status_fail #[x11_9, (Value.int IntKind.i64 2)] w_10 (fun x12_11 w_12 =>
  K (Value.tuple #[]) w_12) X) X) X) (RunV P (Builtin.len_ #[27] 3 #[a1]) w_6 (fun x15_13 w_14 =>
  RunV P (convert 3 35 x15_13) w_14 (fun x16_15 w_16 =>
  FCall P Fn.wire_Writer_Num #[a0, x16_15] w_16 (fun x17_17 w_18 =>
  RunV P (nilc a0) w_18 (fun x20_19 w_20 =>
  RunV P (Instr.fieldAt 70 x20_19 1) w_20 (fun x21_21 w_22 =>
  RunV P (Instr.loadAt 27 x21_21) w_22 (fun x22_23 w_24 =>
  RunV P (Builtin.append_ #[27, 27] 27 #[x22_23, a1]) w_24 (fun x24_25 w_26 =>
  RunV P (nilc a0) w_26 (fun x25_27 w_28 =>
  RunV P (Instr.fieldAt 70 x25_27 1) w_28 (fun x26_29 w_30 =>
  RunU P (Instr.storeAt 27 x26_29 x24_25) w_30 (fun w_31 =>
  K (Value.tuple #[]) w_31) X) X) X) X) X) X) X) X) X) X)) X) X)) X
theorem wire_Writer_Bytes_call {a0 a1 : Value} {w : World} {K : Value → World → Prop} {X : XPost} (h : Sh.wire_Writer_Bytes Try.prog a0 a1 w K X) : FCall Try.prog Fn.wire_Writer_Bytes #[a0, a1] w K X :=
  call_of_sh (n := 27) (ts := []) (args := [a0, a1]) h .nil mixed Try.func31 rfl Try.ntmps31 (Nat.le_of_ble_eq_true rfl) (res0 (P := Try.prog) (fn := Try.f31) rfl) (fun _ => by kernel_rfl) (by kernel_rfl) (by kernel_rfl)

/-- (*sluice/sluiceref07.Writer).Num -/
def Sh.sluiceref07_Writer_Num (P : Program) (a0 a1 : Value) (w : World) (K : Value → World → Prop) (X : XPost) : Prop :=
  FCall P Fn.sluiceref07_Form #[a1] w (fun x6_1 w_2 =>
  FCall P Fn.sluiceref07_Writer_put #[a0, x6_1] w_2 (fun x7_3 w_4 =>
  K (Value.tuple #[]) w_4) X) X
theorem sluiceref07_Writer_Num_call {a0 a1 : Value} {w : World} {K : Value → World → Prop} {X : XPost} (h : Sh.sluiceref07_Writer_Num Try.prog a0 a1 w K X) : FCall Try.prog Fn.sluiceref07_Writer_Num #[a0, a1] w K X :=
  call_of_sh (n := 8) (ts := []) (args := [a0, a1]) h .nil mixed Try.func32 rfl Try.ntmps32 (Nat.le_of_ble_eq_true rfl) (res0 (P := Try.prog) (fn := Try.f32) rfl) (fun _ => by kernel_rfl) (by kernel_rfl) (by kernel_rfl)

/-- (*sluice/sluiceref07.Writer).Int -/
def Sh.sluiceref07_Writer_Int (P : Program) (a0 a1 : Value) (w : World) (K : Value → World → Prop) (X : XPost) : Prop :=
  FCall P Fn.sluiceref07_Whole #[a1] w (fun x6_1 w_2 =>
  FCall P Fn.sluiceref07_Form #[x6_1] w_2 (fun x7_3 w_4 =>
  FCall P Fn.sluiceref07_Writer_put #[a0, x7_3] w_4 (fun x8_5 w_6 =>
  K (Value.tuple #[]) w_6) X) X) X
theorem sluiceref07_Writer_Int_call {a0 a1 : Value} {w : World} {K : Value → World → Prop} {X : XPost} (h : Sh.sluiceref07_Writer_Int Try.prog a0 a1 w K X) : FCall Try.prog Fn.sluiceref07_Writer_Int #[a0, a1] w K X :=
  call_of_sh (n := 9) (ts := []) (args := [a0, a1]) h .nil mixed Try.func33 rfl Try.ntmps33 (Nat.le_of_ble_eq_true rfl) (res0 (P := Try.prog) (fn := Try.f33) rfl) (fun _ => by kernel_rfl) (by kernel_rfl) (by kernel_rfl)

/-- (*sluice/sluiceref07.Writer).Byte -/
def Sh.sluiceref07_Writer_Byte (P : Program) (a0 a1 : Value) (w : World) (K : Value → World → Prop) (X : XPost) : Prop :=
  RunV P (Instr.buildSlice 27 1 #[(0, a1)]) w (fun x6_1 w_2 =>
  FCall P Fn.sluiceref07_Writer_put #[a0, x6_1] w_2 (fun x7_3 w_4 =>
  K (Value.tuple #[]) w_4) X) X
theorem sluiceref07_Writer_Byte_call {a0 a1 : Value} {w : World} {K : Value → World → Prop} {X : XPost} (h : Sh.sluiceref07_Writer_Byte Try.prog a0 a1 w K X) : FCall Try.prog Fn.sluiceref07_Writer_Byte #[a0, a1] w K X :=
  call_of_sh (n := 8) (ts := []) (args := [a0, a1]) h .nil mixed Try.func34 rfl Try.ntmps34 (Nat.le_of_ble_eq_true rfl) (res0 (P := Try.prog) (fn := Try.f34) rfl) (fun _ => by kernel_rfl) (by kernel_rfl) (by kernel_rfl)

/-- (*sluice/sluiceref07.Writer).Bytes -/
def Sh.sluiceref07_Writer_Bytes (P : Program) (a0 a1 : Value) (w : World) (K : Value → World → Prop) (X : XPost) : Prop :=
  Share (fun vs_1 w_2 =>
  ∀ σ_1 : Env, Cond (vs_1.getD 0 undef) (RunV P (nilc a0) w_2 (fun x15_3 w_4 =>
  RunV P (Instr.fieldAt 29 x15_3 1) w_4 (fun x16_5 w_6 =>
  RunU P (Instr.storeAt 3 x16_5 (Value.int IntKind.i64 2)) w_6 (fun w_7 =>
  K (Value.tuple #[]) w_7) X) X) X) (RunV P (Builtin.len_ #[27] 3 #[a1]) w_2 (fun x19_8 w_9 =>
  RunV P (convert 3 35 x19_8) w_9 (fun x20_10 w_11 =>
  FCall P Fn.sluiceref07_Form #[x20_10] w_11 (fun x21_12 w_13 =>
  FCall P Fn.sluiceref07_Writer_put #[a0, x21_12] w_13 (fun x22_14 w_15 =>
  FCall P Fn.sluiceref07_Writer_put #[a0, a1] w_15 (fun x25_16 w_17 =>
  K (Value.tuple #[]) w_17) X) X) X) X) X)) (fun J_1 =>
  RunV P (nilc a0) w (fun x5_18 w_19 =>
  RunV P (Instr.fieldAt 29 x5_18 1) w_19 (fun x6_20 w_21 =>
  RunV P (Instr.loadAt 3 x6_20) w_21 (fun x7_22 w_23 =>
  RunV P (bin BinOp.eql 3 false true x7_22 (Value.int IntKind.i64 0)) w_23 (fun x8_24 w_25 =>
  Guard x8_24 true (RunV P (Builtin.len_ #[27] 3 #[a1]) w_25 (fun x11_26 w_27 =>
  RunV P (bin BinOp.gtr 3 false true x11_26 (Value.int IntKind.i64 65536)) w_27 (fun x12_28 w_29 =>
  Pick x8_24 x12_28 (Value.bool false) fun x13_30 =>
  J_1 [x13_30] w_29) X) X) (Pick x8_24 undef (Value.bool false) fun x13_31 =>
  J_1 [x13_31] w_25)) X) X) X) X)
theorem sluiceref07_Writer_Bytes_call {a0 a1 : Value} {w : World} {K : Value → World → Prop} {X : XPost} (h : Sh.sluiceref07_Writer_Bytes Try.prog a0 a1 w K X) : FCall Try.prog Fn.sluiceref07_Writer_Bytes #[a0, a1] w K X :=
  call_of_sh (n := 26) (ts := []) (args := [a0, a1]) h (.seq (.join [13] [4, 5, 6, 7, 8, 9, 10, 11, 12, 13] (.ops [(6, none), (3, none), (1, none)]) .nil) .nil) mixed Try.func35 rfl Try.ntmps35 (Nat.le_of_ble_eq_true rfl) (res0 (P := Try.prog) (fn := Try.f35) rfl) (fun _ => by kernel_rfl) (by kernel_rfl) (by kernel_rfl)

/-- (*sluice/sluicelaw07.book).keep -/
def Sh.sluicelaw07_book_keep (P : Program) (a0 a1 : Value) (w : World) (K : Value → World → Prop) (X : XPost) : Prop :=
  RunV P (nilc a0) w (fun x6_1 w_2 =>
  RunV P (Instr.fieldAt 34 x6_1 0) w_2 (fun x7_3 w_4 =>
  RunV P (Instr.loadAt 31 x7_3) w_4 (fun x8_5 w_6 =>
  RunV P (Instr.buildSlice 31 1 #[(0, a1)]) w_6 (fun x10_7 w_8 =>
  RunV P (Builtin.append_ #[31, 31] 31 #[x8_5, x10_7]) w_8 (fun x11_9 w_10 =>
  RunV P (nilc a0) w_10 (fun x12_11 w_12 =>
  RunV P (Instr.fieldAt 34 x12_11 0) w_12 (fun x13_13 w_14 =>
  RunU P (Instr.storeAt 31 x13_13 x11_9) w_14 (fun w_15 =>
  ∃ S : World → Prop, S (World.drew w_15) ∧ TakeP P (nilc a0) fun x16_16 =>
  TakeP P (Instr.fieldAt 34 x16_16 1) fun x17_17 =>
  Take P (Instr.loadAt 32 x17_17) S fun x18_18 =>
  RunV P (convert 27 9 a1) (World.drew w_15) (fun x20_19 w_20 =>
  Keep S w_20 (fun S_21 =>
  RunV P (Instr.buildSlice 32 1 #[(0, x20_19)]) w_20 (fun x21_22 w_23 =>
  Keep S_21 w_23 (fun S_24 =>
  RunV P (Builtin.append_ #[32, 32] 32 #[x18_18, x21_22]) w_23 (fun x22_25 w_26 =>
  TakeP P (nilc a0) fun x23_27 =>
  TakeP P (Instr.fieldAt 34 x23_27 1) fun x24_28 =>
  RunU P (Instr.storeAt 32 x24_28 x22_25) w_26 (fun w_29 =>
  K (Value.tuple #[]) w_29) (fun _ _ =>
  False)) (fun _ _ =>
  False))) (fun _ _ =>
  False))) (fun _ _ =>
  False)) X) X) X) X) X) X) X) X
theorem sluicelaw07_book_keep_call {a0 a1 : Value} {w : World} {K : Value → World → Prop} {X : XPost} (h : Sh.sluicelaw07_book_keep Try.prog a0 a1 w K X) : FCall Try.prog Fn.sluicelaw07_book_keep #[a0, a1] w K X :=
  call_of_sh (n := 25) (ts := []) (args := [a0, a1]) h (.seq .nil (.draw [(0, 0), (0, 1), (0, 2), (0, 3), (0, 5), (1, 4), (2, 6), (2, 7), (3, 8), (0, 9), (0, 10), (3, 11)] [])) mixed Try.func36 rfl Try.ntmps36 (Nat.le_of_ble_eq_true rfl) (res0 (P := Try.prog) (fn := Try.f36) rfl) (fun _ => by kernel_rfl) (by kernel_rfl) (by kernel_rfl)

/-- sluice/sluicelaw07.apart -/
def Sh.sluicelaw07_apart (P : Program) (a0 : Value) (w : World) (K : Value → World → Prop) (X : XPost) : Prop :=
  Share (fun vs_1 w_2 =>
  ∀ σ_1 : Env, Share (fun vs_3 w_4 =>
  ∀ σ_3 : Env, FLoop (fun vs_7 w_8 k_9 =>
  ∀ σ_7 : Env, RunV P (Builtin.len_ #[31] 3 #[a0]) w_8 (fun x63_10 w_11 =>
  RunV P (bin BinOp.lss 3 false false (vs_7.getD 0 undef) x63_10) w_11 (fun x64_12 w_13 =>
  Cond x64_12 (Share (fun vs_14 w_15 =>
  ∀ σ_14 : Env, RunV P (bin BinOp.add 3 false true (vs_7.getD 0 undef) (Value.int IntKind.i64 1)) w_15 (fun x66_16 w_17 =>
  k_9 [x66_16] w_17) X) (fun J_14 =>
  FLoop (fun vs_18 w_19 k_20 =>
  ∀ σ_18 : Env, RunV P (Instr.indexAt 31 (vs_3.getD 0 undef) (vs_7.getD 0 undef)) w_19 (fun x70_21 w_22 =>
  RunV P (Instr.loadAt 27 x70_21) w_22 (fun x71_23 w_24 =>
  RunV P (Builtin.len_ #[27] 3 #[x71_23]) w_24 (fun x72_25 w_26 =>
  RunV P (bin BinOp.lss 3 false false (vs_18.getD 0 undef) x72_25) w_26 (fun x73_27 w_28 =>
  Cond x73_27 (Share (fun vs_29 w_30 =>
  ∀ σ_29 : Env, RunV P (bin BinOp.add 3 false true (vs_18.getD 0 undef) (Value.int IntKind.i64 1)) w_30 (fun x75_31 w_32 =>
  k_20 [x75_31] w_32) X) (fun J_29 =>
  RunV P (Instr.indexAt 31 (vs_3.getD 0 undef) (vs_7.getD 0 undef)) w_28 (fun x78_33 w_34 =>
  RunV P (Instr.loadAt 27 x78_33) w_34 (fun x79_35 w_36 =>
  RunV P (Instr.indexAt 27 x79_35 (vs_18.getD 0 undef)) w_36 (fun x81_37 w_38 =>
  RunV P (Instr.loadAt 5 x81_37) w_38 (fun x82_39 w_40 =>
  RunV P (bin BinOp.mul 3 false true (vs_7.getD 0 undef) (Value.int IntKind.i64 3)) w_40 (fun x84_41 w_42 =>
  RunV P (bin BinOp.add 3 false true x84_41 (Value.int IntKind.i64 1)) w_42 (fun x85_43 w_44 =>
  RunV P (convert 3 5 x85_43) w_44 (fun x86_45 w_46 =>
  RunV P (bin BinOp.neq 5 false false x82_39 x86_45) w_46 (fun x87_47 w_48 =>
  Share (fun vs_49 w_50 =>
  ∀ σ_49 : Env, Share (fun vs_51 w_52 =>
  ∀ σ_51 : Env, Guard x87_47 false (Pick (vs_49.getD 0 undef) (vs_51.getD 0 undef) (Value.bool false) fun x109_53 =>
  Pick x87_47 (Value.bool true) x109_53 fun x110_54 =>
  Cond x110_54 (K (Value.bool false) w_52) (J_29 [] w_52)) (Pick x87_47 (Value.bool true) undef fun x110_55 =>
  Cond x110_55 (K (Value.bool false) w_52) (J_29 [] w_52))) (fun J_51 =>
  Guard (vs_49.getD 0 undef) true (RunV P (Instr.indexAt 31 a0 (vs_7.getD 0 undef)) w_50 (fun x99_56 w_57 =>
  RunV P (Instr.loadAt 27 x99_56) w_57 (fun x100_58 w_59 =>
  RunV P (Instr.indexAt 27 x100_58 (vs_18.getD 0 undef)) w_59 (fun x102_60 w_61 =>
  RunV P (Instr.loadAt 5 x102_60) w_61 (fun x103_62 w_63 =>
  RunV P (bin BinOp.mul 3 false true (vs_7.getD 0 undef) (Value.int IntKind.i64 3)) w_63 (fun x105_64 w_65 =>
  RunV P (bin BinOp.add 3 false true x105_64 (Value.int IntKind.i64 1)) w_65 (fun x106_66 w_67 =>
  RunV P (convert 3 5 x106_66) w_67 (fun x107_68 w_69 =>
  RunV P (bin BinOp.neq 5 false false x103_62 x107_68) w_69 (fun x108_70 w_71 =>
  J_51 [x108_70] w_71) X) X) X) X) X) X) X) X) (J_51 [undef] w_50))) (fun J_49 =>
  Guard x87_47 false (RunV P (Instr.indexAt 31 a0 (vs_7.getD 0 undef)) w_48 (fun x92_72 w_73 =>
  RunV P (Instr.loadAt 27 x92_72) w_73 (fun x93_74 w_75 =>
  RunV P (Builtin.len_ #[27] 3 #[x93_74]) w_75 (fun x94_76 w_77 =>
  RunV P (bin BinOp.lss 3 false false (vs_18.getD 0 undef) x94_76) w_77 (fun x95_78 w_79 =>
  J_49 [x95_78] w_79) X) X) X) X) (J_49 [undef] w_48))) X) X) X) X) X) X) X) X)) (J_14 [] w_28)) X) X) X) X) [(Value.int IntKind.i64 0)] w_13)) (K (Value.bool true) w_13)) X) X) [(Value.int IntKind.i64 0)] w_4) (fun J_3 =>
  FLoop (fun vs_80 w_81 k_82 =>
  ∀ σ_80 : Env, RunV P (Builtin.len_ #[31] 3 #[a0]) w_81 (fun x38_83 w_84 =>
  RunV P (bin BinOp.lss 3 false false (vs_80.getD 1 undef) x38_83) w_84 (fun x39_85 w_86 =>
  Cond x39_85 (RunV P (Instr.indexAt 31 a0 (vs_80.getD 1 undef)) w_86 (fun x44_87 w_88 =>
  RunV P (Instr.loadAt 27 x44_87) w_88 (fun x45_89 w_90 =>
  Share (fun vs_91 w_92 =>
  ∀ σ_91 : Env, RunV P (Instr.buildSlice 31 1 #[(0, (vs_91.getD 0 undef))]) w_92 (fun x59_93 w_94 =>
  RunV P (Builtin.append_ #[31, 31] 31 #[(vs_80.getD 0 undef), x59_93]) w_94 (fun x60_95 w_96 =>
  RunV P (bin BinOp.add 3 false true (vs_80.getD 1 undef) (Value.int IntKind.i64 1)) w_96 (fun x41_97 w_98 =>
  k_82 [x60_95, x41_97] w_98) X) X) X) (fun J_91 =>
  FLoop (fun vs_99 w_100 k_101 =>
  ∀ σ_99 : Env, RunV P (bin BinOp.lss 3 false true (vs_99.getD 1 undef) (Value.int IntKind.i64 70)) w_100 (fun x47_102 w_103 =>
  Cond x47_102 (RunV P (bin BinOp.mul 3 false true (vs_80.getD 1 undef) (Value.int IntKind.i64 3)) w_103 (fun x52_104 w_105 =>
  RunV P (bin BinOp.add 3 false true x52_104 (Value.int IntKind.i64 1)) w_105 (fun x53_106 w_107 =>
  RunV P (convert 3 5 x53_106) w_107 (fun x54_108 w_109 =>
  RunV P (Instr.buildSlice 27 1 #[(0, x54_108)]) w_109 (fun x55_110 w_111 =>
  RunV P (Builtin.append_ #[27, 27] 27 #[(vs_99.getD 0 undef), x55_110]) w_111 (fun x56_112 w_113 =>
  RunV P (bin BinOp.add 3 false true (vs_99.getD 1 undef) (Value.int IntKind.i64 1)) w_113 (fun x49_114 w_115 =>
  k_101 [x56_112, x49_114] w_115) X) X) X) X) X) X) (J_91 [(vs_99.getD 0 undef)] w_103)) X) [x45_89, (Value.int IntKind.i64 0)] w_90)) X) X) (J_3 [(vs_80.getD 0 undef)] w_86)) X) X) [(Value.slice none 0 0), (Value.int IntKind.i64 0)] w_2)) (fun J_1 =>
  FLoop (fun vs_116 w_117 k_118 =>
  ∀ σ_116 : Env, RunV P (Builtin.len_ #[31] 3 #[a0]) w_117 (fun x13_119 w_120 =>
  RunV P (bin BinOp.lss 3 false false (vs_116.getD 0 undef) x13_119) w_120 (fun x14_121 w_122 =>
  Cond x14_121 (Share (fun vs_123 w_124 =>
  ∀ σ_123 : Env, RunV P (bin BinOp.add 3 false true (vs_116.getD 0 undef) (Value.int IntKind.i64 1)) w_124 (fun x16_125 w_126 =>
  k_118 [x16_125] w_126) X) (fun J_123 =>
  FLoop (fun vs_127 w_128 k_129 =>
  ∀ σ_127 : Env, RunV P (Instr.indexAt 31 a0 (vs_116.getD 0 undef)) w_128 (fun x20_130 w_131 =>
  RunV P (Instr.loadAt 27 x20_130) w_131 (fun x21_132 w_133 =>
  RunV P (Builtin.len_ #[27] 3 #[x21_132]) w_133 (fun x22_134 w_135 =>
  RunV P (bin BinOp.lss 3 false false (vs_127.getD 0 undef) x22_134) w_135 (fun x23_136 w_137 =>
  Cond x23_136 (RunV P (Instr.indexAt 31 a0 (vs_116.getD 0 undef)) w_137 (fun x28_138 w_139 =>
  RunV P (Instr.loadAt 27 x28_138) w_139 (fun x29_140 w_141 =>
  RunV P (bin BinOp.mul 3 false true (vs_116.getD 0 undef) (Value.int IntKind.i64 3)) w_141 (fun x32_142 w_143 =>
  RunV P (bin BinOp.add 3 false true x32_142 (Value.int IntKind.i64 1)) w_143 (fun x33_144 w_145 =>
  RunV P (convert 3 5 x33_144) w_145 (fun x34_146 w_147 =>
  RunV P (Instr.indexAt 27 x29_140 (vs_127.getD 0 undef)) w_147 (fun x35_148 w_149 =>
  RunU P (Instr.storeAt 5 x35_148 x34_146) w_149 (fun w_150 =>
  RunV P (bin BinOp.add 3 false true (vs_127.getD 0 undef) (Value.int IntKind.i64 1)) w_150 (fun x25_151 w_152 =>
  k_129 [x25_151] w_152) X) X) X) X) X) X) X) X) (J_123 [] w_137)) X) X) X) X) [(Value.int IntKind.i64 0)] w_122)) (J_1 [] w_122)) X) X) [(Value.int IntKind.i64 0)] w)
theorem sluicelaw07_apart_call {a0 : Value} {w : World} {K : Value → World → Prop} {X : XPost} (h : Sh.sluicelaw07_apart Try.prog a0 w K X) : FCall Try.prog Fn.sluicelaw07_apart #[a0] w K X :=
  call_of_sh (n := 111) (ts := [2]) (args := [a0]) h (.seq .nil (.join [] [3, 4, 11, 12, 13, 14, 15, 16, 17, 18, 19, 20, 21, 22, 23, 24, 25, 26, 27, 28, 29, 30, 31, 32, 33, 34, 35] (.seq .nil (.one (.loop [3] [3, 4, 11, 12, 13, 14, 15, 16, 17, 18, 19, 20, 21, 22, 23, 24, 25, 26, 27, 28, 29, 30, 31, 32, 33, 34, 35] (.seq .nil (.join [] [4, 17, 18, 19, 20, 21, 22, 23, 24, 25, 26, 27, 28, 29, 30, 31, 32, 33, 34, 35] (.one (.seq .nil (.one (.loop [4] [4, 17, 18, 19, 20, 21, 22, 23, 24, 25, 26, 27, 28, 29, 30, 31, 32, 33, 34, 35] .nil)))) .nil))))) (.seq .nil (.join [5] [5, 6, 7, 8, 36, 37, 38, 39, 40, 41, 42, 43, 44, 45, 46, 47, 48, 49, 50, 51, 52, 53, 54, 55, 56, 57, 58, 59, 60] (.seq .nil (.one (.loop [5, 6] [5, 6, 7, 8, 36, 37, 38, 39, 40, 41, 42, 43, 44, 45, 46, 47, 48, 49, 50, 51, 52, 53, 54, 55, 56, 57, 58, 59, 60] (.seq .nil (.seq (.one (.seq .nil (.join [7] [7, 8, 46, 47, 48, 49, 50, 51, 52, 53, 54, 55, 56] (.seq .nil (.one (.loop [7, 8] [7, 8, 46, 47, 48, 49, 50, 51, 52, 53, 54, 55, 56] .nil))) .nil))) .nil))))) (.seq (.seq .nil (.one (.loop [9] [2, 9, 10, 61, 62, 63, 64, 65, 66, 67, 68, 69, 70, 71, 72, 73, 74, 75, 76, 77, 78, 79, 80, 81, 82, 83, 84, 85, 86, 87, 88, 89, 90, 91, 92, 93, 94, 95, 96, 97, 98, 99, 100, 101, 102, 103, 104, 105, 106, 107, 108, 109, 110] (.seq .nil (.join [] [2, 10, 67, 68, 69, 70, 71, 72, 73, 74, 75, 76, 77, 78, 79, 80, 81, 82, 83, 84, 85, 86, 87, 88, 89, 90, 91, 92, 93, 94, 95, 96, 97, 98, 99, 100, 101, 102, 103, 104, 105, 106, 107, 108, 109, 110] (.one (.seq .nil (.one (.loop [10] [2, 10, 67, 68, 69, 70, 71, 72, 73, 74, 75, 76, 77, 78, 79, 80, 81, 82, 83, 84, 85, 86, 87, 88, 89, 90, 91, 92, 93, 94, 95, 96, 97, 98, 99, 100, 101, 102, 103, 104, 105, 106, 107, 108, 109, 110] (.seq .nil (.join [] [2, 76, 77, 78, 79, 80, 81, 82, 83, 84, 85, 86, 87, 88, 89, 90, 91, 92, 93, 94, 95, 96, 97, 98, 99, 100, 101, 102, 103, 104, 105, 106, 107, 108, 109, 110] (.one (.seq (.ops [(13, none), (8, some ([96], [89, 90, 91, 92, 93, 94, 95, 96])), (12, some ([108], [97, 98, 99, 100, 101, 102, 103, 104, 105, 106, 107, 108])), (1, none), (1, none)]) .nil)) .nil)))))) .nil))))) .nil))))) mixed Try.func37 rfl Try.ntmps37 (Nat.le_of_ble_eq_true rfl) (res1 (P := Try.prog) (fn := Try.f37) rfl) (fun _ => by kernel_rfl) (by kernel_rfl) (by kernel_rfl)

/-- slices.Clone[[]byte,byte] -/
def Sh.slices_Clone_byte_byte (P : Program) (a0 : Value) (w : World) (K : Value → World → Prop) (X : XPost) : Prop :=
  RunV P (bin BinOp.eql 27 false true a0 (Value.slice none 0 0)) w (fun x4_1 w_2 =>
  Cond x4_1 (K (Value.slice none 0 0) w_2) (RunV P (Instr.buildSlice 27 0 #[]) w_2 (fun x5_3 w_4 =>
  RunV P (Builtin.append_ #[27, 27] 27 #[x5_3, a0]) w_4 (fun x7_5 w_6 =>
  K x7_5 w_6) X) X)) X
theorem slices_Clone_byte_byte_call {a0 : Value} {w : World} {K : Value → World → Prop} {X : XPost} (h : Sh.slices_Clone_byte_byte Try.prog a0 w K X) : FCall Try.prog Fn.slices_Clone_byte_byte #[a0] w K X :=
  call_of_sh (n := 8) (ts := [2]) (args := [a0]) h .nil mixed Try.func38 rfl Try.ntmps38 (Nat.le_of_ble_eq_true rfl) (res1 (P := Try.prog) (fn := Try.f38) rfl) (fun _ => by kernel_rfl) (by kernel_rfl) (by kernel_rfl)

/-- (*sluice/sluiceref07.Reader).Num -/
def Sh.sluiceref07_Reader_Num (P : Program) (a0 a1 : Value) (w : World) (K : Value → World → Prop) (X : XPost) : Prop :=
  RunV P (nilc a0) w (fun x9_1 w_2 =>
  RunV P (Instr.fieldAt 75 x9_1 2) w_2 (fun x10_3 w_4 =>
  RunV P (Instr.loadAt 3 x10_3) w_4 (fun x11_5 w_6 =>
  RunV P (bin BinOp.neq 3 false true x11_5 (Value.int IntKind.i64 0)) w_6 (fun x12_7 w_8 =>
  Cond x12_7 (K (Value.int IntKind.u64 0) w_8) (RunV P (nilc a0) w_8 (fun x15_9 w_10 =>
  RunV P (Instr.fieldAt 75 x15_9 0) w_10 (fun x16_11 w_12 =>
  RunV P (Instr.loadAt 27 x16_11) w_12 (fun x17_13 w_14 =>
  FCall P Fn.sluiceref07_number #[x17_13, a1] w_14 (fun x19_15 w_16 =>
  RunV P (Instr.extract x19_15 0) w_16 (fun x20_17 w_18 =>
  RunV P (Instr.extract x19_15 1) w_18 (fun x21_19 w_20 =>
  RunV P (Instr.extract x19_15 2) w_20 (fun x22_21 w_22 =>
  RunV P (nilc a0) w_22 (fun x25_23 w_24 =>
  RunV P (Instr.fieldAt 75 x25_23 2) w_24 (fun x26_25 w_26 =>
  RunU P (Instr.storeAt 3 x26_25 x22_21) w_26 (fun w_27 =>
  FCall P Fn.sluiceref07_Reader_take #[a0, x21_19] w_27 (fun x29_28 w_29 =>
  K x20_17 w_29) X) X) X) X) X) X) X) X) X) X) X)) X) X) X) X
theorem sluiceref07_Reader_Num_call {a0 a1 : Value} {w : World} {K : Value → World → Prop} {X : XPost} (h : Sh.sluiceref07_Reader_Num Try.prog a0 a1 w K X) : FCall Try.prog Fn.sluiceref07_Reader_Num #[a0, a1] w K X :=
  call_of_sh (n := 31) (ts := [4]) (args := [a0, a1]) h .nil mixed Try.func39 rfl Try.ntmps39 (Nat.le_of_ble_eq_true rfl) (res1 (P := Try.prog) (fn := Try.f39) rfl) (fun _ => by kernel_rfl) (by kernel_rfl) (by kernel_rfl)

/-- (*sluice/sluiceref07.Reader).Int -/
def Sh.sluiceref07_Reader_Int (P : Program) (a0 : Value) (w : World) (K : Value → World → Prop) (X : XPost) : Prop :=
  FCall P Fn.sluiceref07_Reader_Num #[a0, (Value.int IntKind.u64 18446744073709551615)] w (fun x5_1 w_2 =>
  RunV P (nilc a0) w_2 (fun x7_3 w_4 =>
  RunV P (Instr.fieldAt 75 x7_3 2) w_4 (fun x8_5 w_6 =>
  RunV P (Instr.loadAt 3 x8_5) w_6 (fun x9_7 w_8 =>
  RunV P (bin BinOp.neq 3 false true x9_7 (Value.int IntKind.i64 0)) w_8 (fun x10_9 w_10 =>
  Cond x10_9 (K (Value.int IntKind.i64 0) w_10) (FCall P Fn.sluiceref07_back #[x5_1] w_10 (fun x12_11 w_12 =>
  K x12_11 w_12) X)) X) X) X) X) X
theorem sluiceref07_Reader_Int_call {a0 : Value} {w : World} {K : Value → World → Prop} {X : XPost} (h : Sh.sluiceref07_Reader_Int Try.prog a0 w K X) : FCall Try.prog Fn.sluiceref07_Reader_Int #[a0] w K X :=
  call_of_sh (n := 13) (ts := [2]) (args := [a0]) h .nil mixed Try.func40 rfl Try.ntmps40 (Nat.le_of_ble_eq_true rfl) (res1 (P := Try.prog) (fn := Try.f40) rfl) (fun _ => by kernel_rfl) (by kernel_rfl) (by kernel_rfl)

/-- (*sluice/sluiceref07.Reader).Byte -/
def Sh.sluiceref07_Reader_Byte (P : Program) (a0 : Value) (w : World) (K : Value → World → Prop) (X : XPost) : Prop :=
  RunV P (nilc a0) w (fun x5_1 w_2 =>
  RunV P (Instr.fieldAt 75 x5_1 2) w_2 (fun x6_3 w_4 =>
  RunV P (Instr.loadAt 3 x6_3) w_4 (fun x7_5 w_6 =>
  RunV P (bin BinOp.neq 3 false true x7_5 (Value.int IntKind.i64 0)) w_6 (fun x8_7 w_8 =>
  Cond x8_7 (K (Value.int IntKind.u8 0) w_8) (RunV P (nilc a0) w_8 (fun x10_9 w_10 =>
  RunV P (Instr.fieldAt 75 x10_9 0) w_10 (fun x11_11 w_12 =>
  RunV P (Instr.loadAt 27 x11_11) w_12 (fun x12_13 w_14 =>
  RunV P (Builtin.len_ #[27] 3 #[x12_13]) w_14 (fun x13_15 w_16 =>
  RunV P (bin BinOp.eql 3 false true x13_15 (Value.int IntKind.i64 0)) w_16 (fun x14_17 w_18 =>
  Cond x14_17 (RunV P (nilc a0) w_18 (fun x16_19 w_20 =>
  RunV P (Instr.fieldAt 75 x16_19 2) w_20 (fun x17_21 w_22 =>
  RunU P (Instr.storeAt 3 x17_21 (Value.int IntKind.i64 30)) w_22 (fun w_23 =>
  K (Value.int IntKind.u8 0) w_23) X) X) X) (FCall P Fn.sluiceref07_Reader_take #[a0, (Value.int IntKind.i64 1)] w_18 (fun x19_24 w_25 =>
  RunV P (Instr.indexAt 27 x19_24 (Value.int IntKind.i64 0)) w_25 (fun x21_26 w_27 =>
  RunV P (Instr.loadAt 5 x21_26) w_27 (fun x22_28 w_29 =>
  K x22_28 w_29) X) X) X)) X) X) X) X) X)) X) X) X) X
theorem sluiceref07_Reader_Byte_call {a0 : Value} {w : World} {K : Value → World → Prop} {X : XPost} (h : Sh.sluiceref07_Reader_Byte Try.prog a0 w K X) : FCall Try.prog Fn.sluiceref07_Reader_Byte #[a0] w K X :=
  call_of_sh (n := 23) (ts := [2]) (args := [a0]) h .nil mixed Try.func41 rfl Try.ntmps41 (Nat.le_of_ble_eq_true rfl) (res1 (P := Try.prog) (fn := Try.f41) rfl) (fun _ => by kernel_rfl) (by kernel_rfl) (by kernel_rfl)

/-- (*sluice/sluiceref07.Reader).Bytes -/
def Sh.sluiceref07_Reader_Bytes (P : Program) (a0 a1 : Value) (w : World) (K : Value → World → Prop) (X : XPost) : Prop :=
  RunV P (nilc a0) w (fun x9_1 w_2 =>
  RunV P (Instr.fieldAt 75 x9_1 2) w_2 (fun x10_3 w_4 =>
  RunV P (Instr.loadAt 3 x10_3) w_4 (fun x11_5 w_6 =>
  RunV P (bin BinOp.neq 3 false true x11_5 (Value.int IntKind.i64 0)) w_6 (fun x12_7 w_8 =>
  Cond x12_7 (K (Value.slice none 0 0) w_8) (RunV P (nilc a0) w_8 (fun x15_9 w_10 =>
  RunV P (Instr.fieldAt 75 x15_9 0) w_10 (fun x16_11 w_12 =>
  RunV P (Instr.loadAt 27 x16_11) w_12 (fun x17_13 w_14 =>
  FCall P Fn.sluiceref07_number #[x17_13, (Value.int IntKind.u64 18446744073709551615)] w_14 (fun x18_15 w_16 =>
  RunV P (Instr.extract x18_15 0) w_16 (fun x19_17 w_18 =>
  RunV P (Instr.extract x18_15 1) w_18 (fun x20_19 w_20 =>
  RunV P (Instr.extract x18_15 2) w_20 (fun x21_21 w_22 =>
  Share (fun vs_23 w_24 =>
  ∀ σ_23 : Env, Share (fun vs_25 w_26 =>
  ∀ σ_25 : Env, RunV P (bin BinOp.neq 3 false true (vs_25.getD 0 undef) (Value.int IntKind.i64 0)) w_26 (fun x53_27 w_28 =>
  Cond x53_27 (RunV P (nilc a0) w_28 (fun x56_29 w_30 =>
  RunV P (Instr.fieldAt 75 x56_29 2) w_30 (fun x57_31 w_32 =>
  RunU P (Instr.storeAt 3 x57_31 (vs_25.getD 0 undef)) w_32 (fun w_33 =>
  K (Value.slice none 0 0) w_33) X) X) X) (FCall P Fn.sluiceref07_Reader_take #[a0, x20_19] w_28 (fun x60_34 w_35 =>
  RunV P (convert 35 3 x19_17) w_35 (fun x63_36 w_37 =>
  FCall P Fn.sluiceref07_Reader_take #[a0, x63_36] w_37 (fun x64_38 w_39 =>
  K x64_38 w_39) X) X) X)) X) (fun J_25 =>
  RunV P (bin BinOp.eql 3 false true (vs_23.getD 0 undef) (Value.int IntKind.i64 0)) w_24 (fun x39_40 w_41 =>
  Guard x39_40 true (RunV P (nilc a0) w_41 (fun x43_42 w_43 =>
  RunV P (Instr.fieldAt 75 x43_42 0) w_43 (fun x44_44 w_45 =>
  RunV P (Instr.loadAt 27 x44_44) w_45 (fun x45_46 w_47 =>
  RunV P (Builtin.len_ #[27] 3 #[x45_46]) w_47 (fun x46_48 w_49 =>
  RunV P (bin BinOp.sub 3 false false x46_48 x20_19) w_49 (fun x48_50 w_51 =>
  RunV P (convert 3 35 x48_50) w_51 (fun x49_52 w_53 =>
  RunV P (bin BinOp.gtr 35 false false x19_17 x49_52) w_53 (fun x50_54 w_55 =>
  Pick x39_40 x50_54 (Value.bool false) fun x51_56 =>
  Cond x51_56 (J_25 [(Value.int IntKind.i64 30)] w_55) (J_25 [(vs_23.getD 0 undef)] w_55)) X) X) X) X) X) X) X) (Pick x39_40 undef (Value.bool false) fun x51_57 =>
  Cond x51_57 (J_25 [(Value.int IntKind.i64 30)] w_41) (J_25 [(vs_23.getD 0 undef)] w_41))) X)) (fun J_23 =>
  RunV P (bin BinOp.eql 3 false true x21_21 (Value.int IntKind.i64 0)) w_22 (fun x23_58 w_59 =>
  Share (fun vs_60 w_61 =>
  ∀ σ_60 : Env, Share (fun vs_62 w_63 =>
  ∀ σ_62 : Env, Share (fun vs_64 w_65 =>
  ∀ σ_64 : Env, Share (fun vs_66 w_67 =>
  ∀ σ_66 : Env, Guard x23_58 true (Pick (vs_64.getD 0 undef) (Value.bool true) (vs_66.getD 0 undef) fun x36_68 =>
  Pick x23_58 x36_68 (Value.bool false) fun x37_69 =>
  Cond x37_69 (J_23 [(Value.int IntKind.i64 12)] w_67) (J_23 [x21_21] w_67)) (Pick x23_58 undef (Value.bool false) fun x37_70 =>
  Cond x37_70 (J_23 [(Value.int IntKind.i64 12)] w_67) (J_23 [x21_21] w_67))) (fun J_66 =>
  Guard (vs_64.getD 0 undef) false (RunV P (bin BinOp.gtr 35 false true x19_17 (Value.int IntKind.u64 65536)) w_65 (fun x35_71 w_72 =>
  J_66 [x35_71] w_72) X) (J_66 [undef] w_65))) (fun J_64 =>
  Guard x23_58 true (Pick (vs_60.getD 0 undef) (Value.bool true) (vs_62.getD 0 undef) fun x32_73 =>
  J_64 [x32_73] w_63) (J_64 [undef] w_63))) (fun J_62 =>
  Guard (vs_60.getD 0 undef) false (RunV P (convert 3 35 a1) w_61 (fun x30_74 w_75 =>
  RunV P (bin BinOp.gtr 35 false false x19_17 x30_74) w_75 (fun x31_76 w_77 =>
  J_62 [x31_76] w_77) X) X) (J_62 [undef] w_61))) (fun J_60 =>
  Guard x23_58 true (RunV P (bin BinOp.lss 3 false true a1 (Value.int IntKind.i64 0)) w_59 (fun x26_78 w_79 =>
  J_60 [x26_78] w_79) X) (J_60 [undef] w_59))) X)) X) X) X) X) X) X) X)) X) X) X) X
theorem sluiceref07_Reader_Bytes_call {a0 a1 : Value} {w : World} {K : Value → World → Prop} {X : XPost} (h : Sh.sluiceref07_Reader_Bytes Try.prog a0 a1 w K X) : FCall Try.prog Fn.sluiceref07_Reader_Bytes #[a0, a1] w K X :=
  call_of_sh (n := 65) (ts := [4]) (args := [a0, a1]) h (.seq .nil (.seq .nil (.seq .nil (.join [7] [7, 22, 23, 24, 25, 26, 27, 28, 29, 30, 31, 32, 33, 34, 35, 36, 37] (.seq (.ops [(3, none), (3, some ([27], [25, 26, 27])), (4, some ([31], [28, 29, 30, 31])), (2, some ([33], [32, 33])), (2, some ([35], [34, 35])), (1, none), (1, none)]) .nil) (.join [7] [7, 38, 39, 40, 41, 42, 43, 44, 45, 46, 47, 48, 49, 50, 51] (.seq (.ops [(3, none), (10, none), (1, none)]) .nil) .nil))))) mixed Try.func42 rfl Try.ntmps42 (Nat.le_of_ble_eq_true rfl) (res1 (P := Try.prog) (fn := Try.f42) rfl) (fun _ => by kernel_rfl) (by kernel_rfl) (by kernel_rfl)

/-- (*sluice/sluiceref07.Reader).End -/
def Sh.sluiceref07_Reader_End (P : Program) (a0 : Value) (w : World) (K : Value → World → Prop) (X : XPost) : Prop :=
  Share (fun vs_1 w_2 =>
  ∀ σ_1 : Env, Cond (vs_1.getD 0 undef) (RunV P (nilc a0) w_2 (fun x16_3 w_4 =>
  RunV P (Instr.fieldAt 75 x16_3 2) w_4 (fun x17_5 w_6 =>
  RunU P (Instr.storeAt 3 x17_5 (Value.int IntKind.i64 32)) w_6 (fun w_7 =>
  K (Value.tuple #[]) w_7) X) X) X) (K (Value.tuple #[]) w_2)) (fun J_1 =>
  RunV P (nilc a0) w (fun x3_8 w_9 =>
  RunV P (Instr.fieldAt 75 x3_8 2) w_9 (fun x4_10 w_11 =>
  RunV P (Instr.loadAt 3 x4_10) w_11 (fun x5_12 w_13 =>
  RunV P (bin BinOp.eql 3 false true x5_12 (Value.int IntKind.i64 0)) w_13 (fun x6_14 w_15 =>
  Guard x6_14 true (RunV P (nilc a0) w_15 (fun x9_16 w_17 =>
  RunV P (Instr.fieldAt 75 x9_16 0) w_17 (fun x10_18 w_19 =>
  RunV P (Instr.loadAt 27 x10_18) w_19 (fun x11_20 w_21 =>
  RunV P (Builtin.len_ #[27] 3 #[x11_20]) w_21 (fun x12_22 w_23 =>
  RunV P (bin BinOp.gtr 3 false true x12_22 (Value.int IntKind.i64 0)) w_23 (fun x13_24 w_25 =>
  Pick x6_14 x13_24 (Value.bool false) fun x14_26 =>
  J_1 [x14_26] w_25) X) X) X) X) X) (Pick x6_14 undef (Value.bool false) fun x14_27 =>
  J_1 [x14_27] w_15)) X) X) X) X)
theorem sluiceref07_Reader_End_call {a0 : Value} {w : World} {K : Value → World → Prop} {X : XPost} (h : Sh.sluiceref07_Reader_End Try.prog a0 w K X) : FCall Try.prog Fn.sluiceref07_Reader_End #[a0] w K X :=
  call_of_sh (n := 18) (ts := []) (args := [a0]) h (.join [14] [2, 3, 4, 5, 6, 7, 8, 9, 10, 11, 12, 13, 14] (.ops [(6, none), (6, none), (1, none)]) .nil) mixed Try.func43 rfl Try.ntmps43 (Nat.le_of_ble_eq_true rfl) (res0 (P := Try.prog) (fn := Try.f43) rfl) (fun _ => by kernel_rfl) (by kernel_rfl) (by kernel_rfl)

/-- sluice/sluicelaw07.cut -/
def Sh.sluicelaw07_cut (P : Program) (a0 : Value) (w : World) (K : Value → World → Prop) (X : XPost) : Prop :=
  RunV P (Builtin.len_ #[27] 3 #[a0]) w (fun x4_1 w_2 =>
  RunV P (bin BinOp.gtr 3 false true x4_1 (Value.int IntKind.i64 65536)) w_2 (fun x5_3 w_4 =>
  Cond x5_3 (RunV P (Instr.sliceAt 27 a0 none (some (Value.int IntKind.i64 65536)) none) w_4 (fun x7_5 w_6 =>
  K x7_5 w_6) X) (K a0 w_4)) X) X
theorem sluicelaw07_cut_call {a0 : Value} {w : World} {K : Value → World → Prop} {X : XPost} (h : Sh.sluicelaw07_cut Try.prog a0 w K X) : FCall Try.prog Fn.sluicelaw07_cut #[a0] w K X :=
  call_of_sh (n := 9) (ts := [2]) (args := [a0]) h .nil mixed Try.func44 rfl Try.ntmps44 (Nat.le_of_ble_eq_true rfl) (res1 (P := Try.prog) (fn := Try.f44) rfl) (fun _ => by kernel_rfl) (by kernel_rfl) (by kernel_rfl)

/-- (*sluice/wire.Reader).off -/
def Sh.wire_Reader_off (P : Program) (a0 : Value) (w : World) (K : Value → World → Prop) (X : XPost) : Prop :=
  RunV P (bin BinOp.eql 44 false true a0 (Value.pointer none)) w (fun x4_3 w_4 =>
  Guard x4_3 false (RunV P (nilc a0) w_4 (fun x7_5 w_6 =>
  RunV P (Instr.fieldAt 73 x7_5 0) w_6 (fun x8_7 w_8 =>
  FCall P Fn.wire_status_failed #[x8_7] w_8 (fun x9_9 w_10 =>
  Pick x4_3 (Value.bool true) x9_9 fun x10_11 =>
  K x10_11 w_10) X) X) X) (Pick x4_3 (Value.bool true) undef fun x10_12 =>
  K x10_12 w_4)) X
theorem wire_Reader_off_call {a0 : Value} {w : World} {K : Value → World → Prop} {X : XPost} (h : Sh.wire_Reader_off Try.prog a0 w K X) : FCall Try.prog Fn.wire_Reader_off #[a0] w K X :=
  call_of_sh (n := 11) (ts := [2]) (args := [a0]) h (.seq .nil (.seq (.ops [(3, none), (4, none), (2, none)]) .nil)) mixed Try.func45 rfl Try.ntmps45 (Nat.le_of_ble_eq_true rfl) (res1 (P := Try.prog) (fn := Try.f45) rfl) (fun _ => by kernel_rfl) (by kernel_rfl) (by kernel_rfl)

/-- (*sluice/wire.status).fail -/
def Sh.wire_status_fail (P : Program) (a0 a1 : Value) (w : World) (K : Value → World → Prop) (X : XPost) : Prop :=
  RunV P (nilc a0) w (fun x5_1 w_2 =>
  RunV P (Instr.fieldAt 68 x5_1 0) w_2 (fun x6_3 w_4 =>
  RunV P (Instr.loadAt 40 x6_3) w_4 (fun x7_5 w_6 =>
  RunV P (bin BinOp.eql 40 false true x7_5 (Value.int IntKind.i64 0)) w_6 (fun x8_7 w_8 =>
  Cond x8_7 (RunV P (nilc a0) w_8 (fun x11_9 w_10 =>
  RunV P (Instr.fieldAt 68 x11_9 0) w_10 (fun x12_11 w_12 =>
  RunU P (Instr.storeAt 40 x12_11 a1) w_12 (fun w_13 =>
  K (Value.tuple #[]) w_13) X) X) X) (K (Value.tuple #[]) w_8)) X) X) X) X
theorem wire_status_fail_call {a0 a1 : Value} {w : World} {K : Value → World → Prop} {X : XPost} (h : Sh.wire_status_fail Try.prog a0 a1 w K X) : FCall Try.prog Fn.wire_status_fail #[a0, a1] w K X :=
  call_of_sh (n := 13) (ts := []) (args := [a0, a1]) h .nil mixed Try.func46 rfl Try.ntmps46 (Nat.le_of_ble_eq_true rfl) (res0 (P := Try.prog) (fn := Try.f46) rfl) (fun _ => by kernel_rfl) (by kernel_rfl) (by kernel_rfl)

/-- (*sluice/wire.Writer).off -/
def Sh.wire_Writer_off (P : Program) (a0 : Value) (w : World) (K : Value → World → Prop) (X : XPost) : Prop :=
  RunV P (bin BinOp.eql 24 false true a0 (Value.pointer none)) w (fun x4_3 w_4 =>
  Guard x4_3 false (RunV P (nilc a0) w_4 (fun x7_5 w_6 =>
  RunV P (Instr.fieldAt 70 x7_5 0) w_6 (fun x8_7 w_8 =>
  FCall P Fn.wire_status_failed #[x8_7] w_8 (fun x9_9 w_10 =>
  Pick x4_3 (Value.bool true) x9_9 fun x10_11 =>
  K x10_11 w_10) X) X) X) (Pick x4_3 (Value.bool true) undef fun x10_12 =>
  K x10_12 w_4)) X
theorem wire_Writer_off_call {a0 : Value} {w : World} {K : Value → World → Prop} {X : XPost} (h : Sh.wire_Writer_off Try.prog a0 w K X) : FCall Try.prog Fn.wire_Writer_off #[a0] w K X :=
  call_of_sh (n := 11) (ts := [2]) (args := [a0]) h (.seq .nil (.seq (.ops [(3, none), (4, none), (2, none)]) .nil)) mixed Try.func47 rfl Try.ntmps47 (Nat.le_of_ble_eq_true rfl) (res1 (P := Try.prog) (fn := Try.f47) rfl) (fun _ => by kernel_rfl) (by kernel_rfl) (by kernel_rfl)

/-- (*sluice/wire.Reader).number -/
def Sh.wire_Reader_number (P : Program) (a0 : Value) (w : World) (K : Value → World → Prop) (X : XPost) : Prop :=
  Share (fun vs_1 w_2 =>
  ∀ σ_1 : Env, K (Value.tuple #[(Value.int IntKind.u64 0), (Value.int IntKind.i64 0), (Value.int IntKind.i64 30)]) w_2) (fun J_1 =>
  ∃ S : World → Prop, S (World.drew w) ∧ TakeP P (nilc a0) fun x9_3 =>
  TakeP P (Instr.fieldAt 73 x9_3 1) fun x10_4 =>
  TakeP P (nilc a0) fun x13_5 =>
  TakeP P (Instr.fieldAt 73 x13_5 2) fun x14_6 =>
  Take P (Instr.loadAt 27 x10_4) S fun x11_7 =>
  RunV P (Instr.loadAt 3 x14_6) (World.drew w) (fun x15_8 w_9 =>
  Keep S w_9 (fun S_10 =>
  TakeP P (Instr.sliceAt 27 x11_7 (some x15_8) none none) fun x16_11 =>
  TakeP P (Builtin.len_ #[27] 3 #[x16_11]) fun x17_12 =>
  FLoop (fun vs_13 w_14 k_15 =>
  ∀ σ_13 : Env, RunV P (bin BinOp.lss 3 false false (vs_13.getD 1 undef) x17_12) w_14 (fun x19_16 w_17 =>
  Cond x19_16 (RunV P (Instr.indexAt 27 x16_11 (vs_13.getD 1 undef)) w_17 (fun x21_18 w_19 =>
  RunV P (Instr.loadAt 5 x21_18) w_19 (fun x22_20 w_21 =>
  Share (fun vs_22 w_23 =>
  ∀ σ_22 : Env, Cond (vs_22.getD 0 undef) (K (Value.tuple #[(Value.int IntKind.u64 0), (Value.int IntKind.i64 0), (Value.int IntKind.i64 31)]) w_23) (RunV P (bin BinOp.and 5 false true x22_20 (Value.int IntKind.u8 127)) w_23 (fun x39_24 w_25 =>
  RunV P (convert 5 35 x39_24) w_25 (fun x40_26 w_27 =>
  RunV P (bin BinOp.mul 3 true false (Value.int IntKind.i64 7) (vs_13.getD 1 undef)) w_27 (fun x42_28 w_29 =>
  RunV P (bin BinOp.shl 35 false false x40_26 x42_28) w_29 (fun x43_30 w_31 =>
  RunV P (bin BinOp.or 35 false false (vs_13.getD 0 undef) x43_30) w_31 (fun x44_32 w_33 =>
  RunV P (bin BinOp.lss 5 false true x22_20 (Value.int IntKind.u8 128)) w_33 (fun x46_34 w_35 =>
  Cond x46_34 (RunV P (bin BinOp.add 3 false true (vs_13.getD 1 undef) (Value.int IntKind.i64 1)) w_35 (fun x49_36 w_37 =>
  K (Value.tuple #[x44_32, x49_36, (Value.int IntKind.i64 0)]) w_37) X) (RunV P (bin BinOp.add 3 false true (vs_13.getD 1 undef) (Value.int IntKind.i64 1)) w_35 (fun x50_38 w_39 =>
  k_15 [x44_32, x50_38] w_39) X)) X) X) X) X) X) X)) (fun J_22 =>
  RunV P (bin BinOp.gtr 3 false true (vs_13.getD 1 undef) (Value.int IntKind.i64 0)) w_21 (fun x24_40 w_41 =>
  Share (fun vs_42 w_43 =>
  ∀ σ_42 : Env, Pick x24_40 (vs_42.getD 0 undef) (Value.bool false) fun x28_44 =>
  Share (fun vs_45 w_46 =>
  ∀ σ_45 : Env, Share (fun vs_47 w_48 =>
  ∀ σ_47 : Env, Guard x28_44 false (Pick (vs_45.getD 0 undef) (vs_47.getD 0 undef) (Value.bool false) fun x35_49 =>
  Pick x28_44 (Value.bool true) x35_49 fun x36_50 =>
  J_22 [x36_50] w_48) (Pick x28_44 (Value.bool true) undef fun x36_51 =>
  J_22 [x36_51] w_48)) (fun J_47 =>
  Guard (vs_45.getD 0 undef) true (RunV P (bin BinOp.neq 5 false true x22_20 (Value.int IntKind.u8 1)) w_46 (fun x34_52 w_53 =>
  J_47 [x34_52] w_53) X) (J_47 [undef] w_46))) (fun J_45 =>
  Guard x28_44 false (RunV P (bin BinOp.eql 3 false true (vs_13.getD 1 undef) (Value.int IntKind.i64 9)) w_43 (fun x31_54 w_55 =>
  J_45 [x31_54] w_55) X) (J_45 [undef] w_43))) (fun J_42 =>
  Guard x24_40 true (RunV P (bin BinOp.eql 5 false true x22_20 (Value.int IntKind.u8 0)) w_41 (fun x27_56 w_57 =>
  J_42 [x27_56] w_57) X) (J_42 [undef] w_41))) X)) X) X) (J_1 [] w_17)) X) [(Value.int IntKind.u64 0), (Value.int IntKind.i64 0)] w_9)) (fun _ _ =>
  False))
theorem wire_Reader_number_call {a0 : Value} {w : World} {K : Value → World → Prop} {X : XPost} (h : Sh.wire_Reader_number Try.prog a0 w K X) : FCall Try.prog Fn.wire_Reader_number #[a0] w K X :=
  call_of_sh (n := 51) (ts := [2, 3, 4]) (args := [a0]) h (.seq .nil (.seq .nil (.join [] [2, 3, 4, 5, 6, 7, 8, 9, 10, 11, 12, 13, 14, 15, 16, 17, 18, 19, 20, 21, 22, 23, 24, 25, 26, 27, 28, 29, 30, 31, 32, 33, 34, 35, 36, 37, 38, 39, 40, 41, 42, 43, 44, 45, 46, 47, 48, 49, 50] (.seq (.draw [(0, 0), (0, 1), (0, 2), (0, 4), (0, 5), (0, 6), (0, 10), (1, 3), (2, 7), (0, 8), (0, 9)] []) (.one (.loop [5, 18] [2, 3, 4, 5, 6, 7, 18, 19, 20, 21, 22, 23, 24, 25, 26, 27, 28, 29, 30, 31, 32, 33, 34, 35, 36, 37, 38, 39, 40, 41, 42, 43, 44, 45, 46, 47, 48, 49, 50] (.seq .nil (.seq .nil (.seq (.one (.seq .nil (.seq (.join [36] [23, 24, 25, 26, 27, 28, 29, 30, 31, 32, 33, 34, 35, 36] (.ops [(3, none), (2, some ([27], [26, 27])), (2, none), (3, some ([32], [30, 31, 32])), (2, some ([34], [33, 34])), (1, none), (1, none)]) .nil) .nil))) .nil)))))) .nil))) mixed Try.func48 rfl Try.ntmps48 (Nat.le_of_ble_eq_true rfl) (res3 (P := Try.prog) (fn := Try.f48) rfl) (fun _ => by kernel_rfl) (by kernel_rfl) (by kernel_rfl)

/-- (*sluice/sluiceref07.Writer).put -/
def Sh.sluiceref07_Writer_put (P : Program) (a0 a1 : Value) (w : World) (K : Value → World → Prop) (X : XPost) : Prop :=
  RunV P (nilc a0) w (fun x5_1 w_2 =>
  RunV P (Instr.fieldAt 29 x5_1 1) w_2 (fun x6_3 w_4 =>
  RunV P (Instr.loadAt 3 x6_3) w_4 (fun x7_5 w_6 =>
  RunV P (bin BinOp.eql 3 false true x7_5 (Value.int IntKind.i64 0)) w_6 (fun x8_7 w_8 =>
  Cond x8_7 (RunV P (nilc a0) w_8 (fun x11_9 w_10 =>
  RunV P (Instr.fieldAt 29 x11_9 0) w_10 (fun x12_11 w_12 =>
  RunV P (Instr.loadAt 27 x12_11) w_12 (fun x13_13 w_14 =>
  RunV P (Builtin.append_ #[27, 27] 27 #[x13_13, a1]) w_14 (fun x15_15 w_16 =>
  RunV P (nilc a0) w_16 (fun x16_17 w_18 =>
  RunV P (Instr.fieldAt 29 x16_17 0) w_18 (fun x17_19 w_20 =>
  RunU P (Instr.storeAt 27 x17_19 x15_15) w_20 (fun w_21 =>
  K (Value.tuple #[]) w_21) X) X) X) X) X) X) X) (K (Value.tuple #[]) w_8)) X) X) X) X
theorem sluiceref07_Writer_put_call {a0 a1 : Value} {w : World} {K : Value → World → Prop} {X : XPost} (h : Sh.sluiceref07_Writer_put Try.prog a0 a1 w K X) : FCall Try.prog Fn.sluiceref07_Writer_put #[a0, a1] w K X :=
  call_of_sh (n := 18) (ts := []) (args := [a0, a1]) h .nil mixed Try.func49 rfl Try.ntmps49 (Nat.le_of_ble_eq_true rfl) (res0 (P := Try.prog) (fn := Try.f49) rfl) (fun _ => by kernel_rfl) (by kernel_rfl) (by kernel_rfl)

/-- sluice/sluiceref07.Form -/
def Sh.sluiceref07_Form (P : Program) (a0 : Value) (w : World) (K : Value → World → Prop) (X : XPost) : Prop :=
  Share (fun vs_1 w_2 =>
  ∀ σ_1 : Env, RunV P (convert 35 5 (vs_1.getD 0 undef)) w_2 (fun x17_3 w_4 =>
  RunV P (Instr.buildSlice 27 1 #[(0, x17_3)]) w_4 (fun x18_5 w_6 =>
  RunV P (Builtin.append_ #[27, 27] 27 #[(vs_1.getD 1 undef), x18_5]) w_6 (fun x19_7 w_8 =>
  K x19_7 w_8) X) X) X) (fun J_1 =>
  FLoop (fun vs_9 w_10 k_11 =>
  ∀ σ_9 : Env, RunV P (bin BinOp.geq 35 false true (vs_9.getD 0 undef) (Value.int IntKind.u64 128)) w_10 (fun x5_12 w_13 =>
  Cond x5_12 (RunV P (bin BinOp.rem 35 false true (vs_9.getD 0 undef) (Value.int IntKind.u64 128)) w_13 (fun x8_14 w_15 =>
  RunV P (bin BinOp.add 35 false true x8_14 (Value.int IntKind.u64 128)) w_15 (fun x9_16 w_17 =>
  RunV P (convert 35 5 x9_16) w_17 (fun x10_18 w_19 =>
  RunV P (Instr.buildSlice 27 1 #[(0, x10_18)]) w_19 (fun x11_20 w_21 =>
  RunV P (Builtin.append_ #[27, 27] 27 #[(vs_9.getD 1 undef), x11_20]) w_21 (fun x12_22 w_23 =>
  RunV P (bin BinOp.quo 35 false true (vs_9.getD 0 undef) (Value.int IntKind.u64 128)) w_23 (fun x14_24 w_25 =>
  k_11 [x14_24, x12_22] w_25) X) X) X) X) X) X) (J_1 [(vs_9.getD 0 undef), (vs_9.getD 1 undef)] w_13)) X) [a0, (Value.slice none 0 0)] w)
theorem sluiceref07_Form_call {a0 : Value} {w : World} {K : Value → World → Prop} {X : XPost} (h : Sh.sluiceref07_Form Try.prog a0 w K X) : FCall Try.prog Fn.sluiceref07_Form #[a0] w K X :=
  call_of_sh (n := 20) (ts := [2]) (args := [a0]) h (.seq .nil (.seq .nil (.join [0, 3] [0, 3, 4, 5, 6, 7, 8, 9, 10, 11, 12, 13, 14] (.one (.loop [0, 3] [0, 3, 4, 5, 6, 7, 8, 9, 10, 11, 12, 13, 14] .nil)) .nil))) mixed Try.func50 rfl Try.ntmps50 (Nat.le_of_ble_eq_true rfl) (res1 (P := Try.prog) (fn := Try.f50) rfl) (fun _ => by kernel_rfl) (by kernel_rfl) (by kernel_rfl)

/-- sluice/sluiceref07.Whole -/
def Sh.sluiceref07_Whole (P : Program) (a0 : Value) (w : World) (K : Value → World → Prop) (X : XPost) : Prop :=
  RunV P (bin BinOp.geq 2 false true a0 (Value.int IntKind.i64 0)) w (fun x4_1 w_2 =>
  Cond x4_1 (RunV P (convert 2 35 a0) w_2 (fun x6_3 w_4 =>
  RunV P (bin BinOp.mul 35 true false (Value.int IntKind.u64 2) x6_3) w_4 (fun x7_5 w_6 =>
  K x7_5 w_6) X) X) (RunV P (bin BinOp.add 2 false true a0 (Value.int IntKind.i64 1)) w_2 (fun x9_7 w_8 =>
  RunV P (Op.unary UnOp.neg x9_7) w_8 (fun x10_9 w_10 =>
  RunV P (convert 2 35 x10_9) w_10 (fun x11_11 w_12 =>
  RunV P (bin BinOp.mul 35 true false (Value.int IntKind.u64 2) x11_11) w_12 (fun x12_13 w_14 =>
  RunV P (bin BinOp.add 35 false true x12_13 (Value.int IntKind.u64 1)) w_14 (fun x13_15 w_16 =>
  K x13_15 w_16) X) X) X) X) X)) X
theorem sluiceref07_Whole_call {a0 : Value} {w : World} {K : Value → World → Prop} {X : XPost} (h : Sh.sluiceref07_Whole Try.prog a0 w K X) : FCall Try.prog Fn.sluiceref07_Whole #[a0] w K X :=
  call_of_sh (n := 14) (ts := [2]) (args := [a0]) h .nil mixed Try.func51 rfl Try.ntmps51 (Nat.le_of_ble_eq_true rfl) (res1 (P := Try.prog) (fn := Try.f51) rfl) (fun _ => by kernel_rfl) (by kernel_rfl) (by kernel_rfl)

/-- sluice/sluiceref07.number -/
def Sh.sluiceref07_number (P : Program) (a0 a1 : Value) (w : World) (K : Value → World → Prop) (X : XPost) : Prop :=
  Share (fun vs_1 w_2 =>
  ∀ σ_1 : Env, K (Value.tuple #[(Value.int IntKind.u64 0), (Value.int IntKind.i64 0), (Value.int IntKind.i64 31)]) w_2) (fun J_1 =>
  FLoop (fun vs_3 w_4 k_5 =>
  ∀ σ_3 : Env, RunV P (bin BinOp.lss 3 false true (vs_3.getD 2 undef) (Value.int IntKind.i64 10)) w_4 (fun x11_6 w_7 =>
  Cond x11_6 (RunV P (Builtin.len_ #[27] 3 #[a0]) w_7 (fun x16_8 w_9 =>
  RunV P (bin BinOp.geq 3 false false (vs_3.getD 2 undef) x16_8) w_9 (fun x17_10 w_11 =>
  Cond x17_10 (K (Value.tuple #[(Value.int IntKind.u64 0), (Value.int IntKind.i64 0), (Value.int IntKind.i64 30)]) w_11) (Share (fun vs_12 w_13 =>
  ∀ σ_12 : Env, Cond (vs_12.getD 0 undef) (K (Value.tuple #[(Value.int IntKind.u64 0), (Value.int IntKind.i64 0), (Value.int IntKind.i64 31)]) w_13) (RunV P (Instr.indexAt 27 a0 (vs_3.getD 2 undef)) w_13 (fun x42_14 w_15 =>
  RunV P (Instr.loadAt 5 x42_14) w_15 (fun x43_16 w_17 =>
  RunV P (bin BinOp.rem 5 false true x43_16 (Value.int IntKind.u8 128)) w_17 (fun x44_18 w_19 =>
  RunV P (convert 5 35 x44_18) w_19 (fun x45_20 w_21 =>
  RunV P (bin BinOp.mul 35 false false (vs_3.getD 1 undef) x45_20) w_21 (fun x46_22 w_23 =>
  RunV P (bin BinOp.add 35 false false (vs_3.getD 0 undef) x46_22) w_23 (fun x47_24 w_25 =>
  RunV P (bin BinOp.mul 35 false true (vs_3.getD 1 undef) (Value.int IntKind.u64 128)) w_25 (fun x49_26 w_27 =>
  RunV P (Instr.indexAt 27 a0 (vs_3.getD 2 undef)) w_27 (fun x52_28 w_29 =>
  RunV P (Instr.loadAt 5 x52_28) w_29 (fun x53_30 w_31 =>
  RunV P (bin BinOp.lss 5 false true x53_30 (Value.int IntKind.u8 128)) w_31 (fun x54_32 w_33 =>
  Cond x54_32 (RunV P (bin BinOp.gtr 35 false false x47_24 a1) w_33 (fun x57_34 w_35 =>
  Cond x57_34 (K (Value.tuple #[(Value.int IntKind.u64 0), (Value.int IntKind.i64 0), (Value.int IntKind.i64 12)]) w_35) (RunV P (bin BinOp.add 3 false true (vs_3.getD 2 undef) (Value.int IntKind.i64 1)) w_35 (fun x60_36 w_37 =>
  K (Value.tuple #[x47_24, x60_36, (Value.int IntKind.i64 0)]) w_37) X)) X) (RunV P (bin BinOp.add 3 false true (vs_3.getD 2 undef) (Value.int IntKind.i64 1)) w_33 (fun x13_38 w_39 =>
  k_5 [x47_24, x49_26, x13_38] w_39) X)) X) X) X) X) X) X) X) X) X) X)) (fun J_12 =>
  RunV P (bin BinOp.gtr 3 false true (vs_3.getD 2 undef) (Value.int IntKind.i64 0)) w_11 (fun x19_40 w_41 =>
  Share (fun vs_42 w_43 =>
  ∀ σ_42 : Env, Pick x19_40 (vs_42.getD 0 undef) (Value.bool false) fun x26_44 =>
  Share (fun vs_45 w_46 =>
  ∀ σ_45 : Env, Share (fun vs_47 w_48 =>
  ∀ σ_47 : Env, Guard x26_44 false (Pick (vs_45.getD 0 undef) (vs_47.getD 0 undef) (Value.bool false) fun x36_49 =>
  Pick x26_44 (Value.bool true) x36_49 fun x37_50 =>
  J_12 [x37_50] w_48) (Pick x26_44 (Value.bool true) undef fun x37_51 =>
  J_12 [x37_51] w_48)) (fun J_47 =>
  Guard (vs_45.getD 0 undef) true (RunV P (Instr.indexAt 27 a0 (vs_3.getD 2 undef)) w_46 (fun x33_52 w_53 =>
  RunV P (Instr.loadAt 5 x33_52) w_53 (fun x34_54 w_55 =>
  RunV P (bin BinOp.gtr 5 false true x34_54 (Value.int IntKind.u8 1)) w_55 (fun x35_56 w_57 =>
  J_47 [x35_56] w_57) X) X) X) (J_47 [undef] w_46))) (fun J_45 =>
  Guard x26_44 false (RunV P (bin BinOp.eql 3 false true (vs_3.getD 2 undef) (Value.int IntKind.i64 9)) w_43 (fun x29_58 w_59 =>
  J_45 [x29_58] w_59) X) (J_45 [undef] w_43))) (fun J_42 =>
  Guard x19_40 true (RunV P (Instr.indexAt 27 a0 (vs_3.getD 2 undef)) w_41 (fun x23_60 w_61 =>
  RunV P (Instr.loadAt 5 x23_60) w_61 (fun x24_62 w_63 =>
  RunV P (bin BinOp.eql 5 false true x24_62 (Value.int IntKind.u8 0)) w_63 (fun x25_64 w_65 =>
  J_42 [x25_64] w_65) X) X) X) (J_42 [undef] w_41))) X))) X) X) (J_1 [] w_7)) X) [(Value.int IntKind.u64 0), (Value.int IntKind.u64 1), (Value.int IntKind.i64 0)] w)
theorem sluiceref07_number_call {a0 a1 : Value} {w : World} {K : Value → World → Prop} {X : XPost} (h : Sh.sluiceref07_number Try.prog a0 a1 w K X) : FCall Try.prog Fn.sluiceref07_number #[a0, a1] w K X :=
  call_of_sh (n := 61) (ts := [4, 5, 6]) (args := [a0, a1]) h (.seq .nil (.seq .nil (.seq .nil (.join [] [4, 5, 6, 7, 8, 9, 10, 11, 12, 13, 14, 15, 16, 17, 18, 19, 20, 21, 22, 23, 24, 25, 26, 27, 28, 29, 30, 31, 32, 33, 34, 35, 36, 37, 38, 39, 40, 41, 42, 43, 44, 45, 46, 47, 48, 49, 50, 51, 52, 53, 54, 55, 56, 57, 58, 59, 60] (.seq .nil (.one (.loop [7, 8, 9] [4, 5, 6, 7, 8, 9, 10, 11, 12, 13, 14, 15, 16, 17, 18, 19, 20, 21, 22, 23, 24, 25, 26, 27, 28, 29, 30, 31, 32, 33, 34, 35, 36, 37, 38, 39, 40, 41, 42, 43, 44, 45, 46, 47, 48, 49, 50, 51, 52, 53, 54, 55, 56, 57, 58, 59, 60] (.seq .nil (.seq (.one (.seq .nil (.seq (.join [37] [18, 19, 20, 21, 22, 23, 24, 25, 26, 27, 28, 29, 30, 31, 32, 33, 34, 35, 36, 37] (.ops [(3, none), (5, some ([25], [21, 22, 23, 24, 25])), (2, none), (3, some ([30], [28, 29, 30])), (5, some ([35], [31, 32, 33, 34, 35])), (1, none), (1, none)]) .nil) .nil))) .nil))))) .nil)))) mixed Try.func52 rfl Try.ntmps52 (Nat.le_of_ble_eq_true rfl) (res3 (P := Try.prog) (fn := Try.f52) rfl) (fun _ => by kernel_rfl) (by kernel_rfl) (by kernel_rfl)

/-- (*sluice/sluiceref07.Reader).take -/
def Sh.sluiceref07_Reader_take (P : Program) (a0 a1 : Value) (w : World) (K : Value → World → Prop) (X : XPost) : Prop :=
  RunV P (Instr.buildSlice 27 0 #[]) w (fun x6_1 w_2 =>
  RunV P (nilc a0) w_2 (fun x8_3 w_4 =>
  RunV P (Instr.fieldAt 75 x8_3 0) w_4 (fun x9_5 w_6 =>
  RunV P (Instr.loadAt 27 x9_5) w_6 (fun x10_7 w_8 =>
  RunV P (Instr.sliceAt 27 x10_7 none (some a1) none) w_8 (fun x12_9 w_10 =>
  RunV P (Builtin.append_ #[27, 27] 27 #[x6_1, x12_9]) w_10 (fun x13_11 w_12 =>
  RunV P (nilc a0) w_12 (fun x16_13 w_14 =>
  RunV P (Instr.fieldAt 75 x16_13 0) w_14 (fun x17_15 w_16 =>
  RunV P (Instr.loadAt 27 x17_15) w_16 (fun x18_17 w_18 =>
  RunV P (Instr.sliceAt 27 x18_17 (some a1) none none) w_18 (fun x20_19 w_20 =>
  RunV P (nilc a0) w_20 (fun x21_21 w_22 =>
  RunV P (Instr.fieldAt 75 x21_21 0) w_22 (fun x22_23 w_24 =>
  RunU P (Instr.storeAt 27 x22_23 x20_19) w_24 (fun w_25 =>
  RunV P (nilc a0) w_25 (fun x25_26 w_27 =>
  RunV P (Instr.fieldAt 75 x25_26 1) w_27 (fun x26_28 w_29 =>
  RunV P (Instr.loadAt 3 x26_28) w_29 (fun x27_30 w_31 =>
  RunV P (bin BinOp.add 3 false false x27_30 a1) w_31 (fun x29_32 w_33 =>
  RunV P (nilc a0) w_33 (fun x30_34 w_35 =>
  RunV P (Instr.fieldAt 75 x30_34 1) w_35 (fun x31_36 w_37 =>
  RunU P (Instr.storeAt 3 x31_36 x29_32) w_37 (fun w_38 =>
  K x13_11 w_38) X) X) X) X) X) X) X) X) X) X) X) X) X) X) X) X) X) X) X) X
theorem sluiceref07_Reader_take_call {a0 a1 : Value} {w : World} {K : Value → World → Prop} {X : XPost} (h : Sh.sluiceref07_Reader_take Try.prog a0 a1 w K X) : FCall Try.prog Fn.sluiceref07_Reader_take #[a0, a1] w K X :=
  call_of_sh (n := 33) (ts := [4]) (args := [a0, a1]) h .nil mixed Try.func53 rfl Try.ntmps53 (Nat.le_of_ble_eq_true rfl) (res1 (P := Try.prog) (fn := Try.f53) rfl) (fun _ => by kernel_rfl) (by kernel_rfl) (by kernel_rfl)

/-- sluice/sluiceref07.back -/
def Sh.sluiceref07_back (P : Program) (a0 : Value) (w : World) (K : Value → World → Prop) (X : XPost) : Prop :=
  RunV P (bin BinOp.rem 35 false true a0 (Value.int IntKind.u64 2)) w (fun x4_1 w_2 =>
  RunV P (bin BinOp.eql 35 false true x4_1 (Value.int IntKind.u64 0)) w_2 (fun x5_3 w_4 =>
  Cond x5_3 (RunV P (bin BinOp.quo 35 false true a0 (Value.int IntKind.u64 2)) w_4 (fun x7_5 w_6 =>
  RunV P (convert 35 2 x7_5) w_6 (fun x8_7 w_8 =>
  K x8_7 w_8) X) X) (RunV P (bin BinOp.quo 35 false true a0 (Value.int IntKind.u64 2)) w_4 (fun x10_9 w_10 =>
  RunV P (convert 35 2 x10_9) w_10 (fun x11_11 w_12 =>
  RunV P (Op.unary UnOp.neg x11_11) w_12 (fun x12_13 w_14 =>
  RunV P (bin BinOp.sub 2 false true x12_13 (Value.int IntKind.i64 1)) w_14 (fun x13_15 w_16 =>
  K x13_15 w_16) X) X) X) X)) X) X
theorem sluiceref07_back_call {a0 : Value} {w : World} {K : Value → World → Prop} {X : XPost} (h : Sh.sluiceref07_back Try.prog a0 w K X) : FCall Try.prog Fn.sluiceref07_back #[a0] w K X :=
  call_of_sh (n := 14) (ts := [2]) (args := [a0]) h .nil mixed Try.func54 rfl Try.ntmps54 (Nat.le_of_ble_eq_true rfl) (res1 (P := Try.prog) (fn := Try.f54) rfl) (fun _ => by kernel_rfl) (by kernel_rfl) (by kernel_rfl)

/-- (*sluice/wire.status).failed -/
def Sh.wire_status_failed (P : Program) (a0 : Value) (w : World) (K : Value → World → Prop) (X : XPost) : Prop :=
  RunV P (nilc a0) w (fun x4_1 w_2 =>
  RunV P (Instr.fieldAt 68 x4_1 0) w_2 (fun x5_3 w_4 =>
  RunV P (Instr.loadAt 40 x5_3) w_4 (fun x6_5 w_6 =>
  RunV P (bin BinOp.neq 40 false true x6_5 (Value.int IntKind.i64 0)) w_6 (fun x7_7 w_8 =>
  K x7_7 w_8) X) X) X) X
theorem wire_status_failed_call {a0 : Value} {w : World} {K : Value → World → Prop} {X : XPost} (h : Sh.wire_status_failed Try.prog a0 w K X) : FCall Try.prog Fn.wire_status_failed #[a0] w K X :=
  call_of_sh (n := 8) (ts := [2]) (args := [a0]) h .nil mixed Try.func55 rfl Try.ntmps55 (Nat.le_of_ble_eq_true rfl) (res1 (P := Try.prog) (fn := Try.f55) rfl) (fun _ => by kernel_rfl) (by kernel_rfl) (by kernel_rfl)
end Go.Proofs.Ytpfbpjoknlcbkaa
