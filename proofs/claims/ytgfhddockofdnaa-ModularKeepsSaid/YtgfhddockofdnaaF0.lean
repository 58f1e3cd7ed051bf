/- Facts on types of the seat Ytgfhddockofdnaa. -/
import Derived.Test.YtgfhddockofdnaaE17
import Derived.Test.YtgfhddockofdnaaProg
set_option linter.unusedVariables false
set_option linter.unusedSimpArgs false
namespace Go.Eng
open Go.Proofs
theorem szT_0 : szT Go.Proofs.Try.prog 0 = some 1 := by kernel_rfl
theorem byT_0 : byT Go.Proofs.Try.prog 0 = some 0 := by kernel_rfl
theorem agT_0 : agT Go.Proofs.Try.prog 0 = some false := by kernel_rfl
theorem knT_0 : knT Go.Proofs.Try.prog 0 = some 4 := by kernel_rfl
theorem szT_2 : szT Go.Proofs.Try.prog 2 = some 1 := by kernel_rfl
theorem byT_2 : byT Go.Proofs.Try.prog 2 = some 8 := by kernel_rfl
theorem agT_2 : agT Go.Proofs.Try.prog 2 = some false := by kernel_rfl
theorem knT_2 : knT Go.Proofs.Try.prog 2 = some 1 := by kernel_rfl
theorem kdT_2 : kdT Go.Proofs.Try.prog 2 = some IntKind.i64 := by kernel_rfl
theorem zrT_2 : zrT Go.Proofs.Try.prog 2 = some (AV.int IntKind.i64 0) := by kernel_rfl
theorem szT_3 : szT Go.Proofs.Try.prog 3 = some 1 := by kernel_rfl
theorem byT_3 : byT Go.Proofs.Try.prog 3 = some 8 := by kernel_rfl
theorem agT_3 : agT Go.Proofs.Try.prog 3 = some false := by kernel_rfl
theorem knT_3 : knT Go.Proofs.Try.prog 3 = some 1 := by kernel_rfl
theorem kdT_3 : kdT Go.Proofs.Try.prog 3 = some IntKind.i64 := by kernel_rfl
theorem zrT_3 : zrT Go.Proofs.Try.prog 3 = some (AV.int IntKind.i64 0) := by kernel_rfl
theorem szT_4 : szT Go.Proofs.Try.prog 4 = some 1 := by kernel_rfl
theorem byT_4 : byT Go.Proofs.Try.prog 4 = some 1 := by kernel_rfl
theorem agT_4 : agT Go.Proofs.Try.prog 4 = some false := by kernel_rfl
theorem knT_4 : knT Go.Proofs.Try.prog 4 = some 0 := by kernel_rfl
theorem zrT_4 : zrT Go.Proofs.Try.prog 4 = some (AV.bool false) := by kernel_rfl
theorem szT_5 : szT Go.Proofs.Try.prog 5 = some 1 := by kernel_rfl
theorem byT_5 : byT Go.Proofs.Try.prog 5 = some 1 := by kernel_rfl
theorem agT_5 : agT Go.Proofs.Try.prog 5 = some false := by kernel_rfl
theorem knT_5 : knT Go.Proofs.Try.prog 5 = some 1 := by kernel_rfl
theorem kdT_5 : kdT Go.Proofs.Try.prog 5 = some IntKind.u8 := by kernel_rfl
theorem zrT_5 : zrT Go.Proofs.Try.prog 5 = some (AV.int IntKind.u8 0) := by kernel_rfl
theorem szT_22 : szT Go.Proofs.Try.prog 22 = some 1 := by kernel_rfl
theorem byT_22 : byT Go.Proofs.Try.prog 22 = some 24 := by kernel_rfl
theorem agT_22 : agT Go.Proofs.Try.prog 22 = some false := by kernel_rfl
theorem elT_22 : elT Go.Proofs.Try.prog 22 = some 46 := by kernel_rfl
theorem knT_22 : knT Go.Proofs.Try.prog 22 = some 3 := by kernel_rfl
theorem zrT_22 : zrT Go.Proofs.Try.prog 22 = some AV.nils := by kernel_rfl
theorem szT_23 : szT Go.Proofs.Try.prog 23 = some 1 := by kernel_rfl
theorem byT_23 : byT Go.Proofs.Try.prog 23 = some 24 := by kernel_rfl
theorem agT_23 : agT Go.Proofs.Try.prog 23 = some false := by kernel_rfl
theorem elT_23 : elT Go.Proofs.Try.prog 23 = some 84 := by kernel_rfl
theorem knT_23 : knT Go.Proofs.Try.prog 23 = some 3 := by kernel_rfl
theorem zrT_23 : zrT Go.Proofs.Try.prog 23 = some AV.nils := by kernel_rfl
theorem szT_24 : szT Go.Proofs.Try.prog 24 = some 3 := by kernel_rfl
theorem byT_24 : byT Go.Proofs.Try.prog 24 = some 32 := by kernel_rfl
theorem agT_24 : agT Go.Proofs.Try.prog 24 = some true := by kernel_rfl
theorem knT_24 : knT Go.Proofs.Try.prog 24 = some 4 := by kernel_rfl
theorem zrT_24 : zrT Go.Proofs.Try.prog 24 = some (AV.agg [AV.int IntKind.u8 0, AV.int IntKind.u8 0, AV.nils]) := by kernel_rfl
theorem szT_25 : szT Go.Proofs.Try.prog 25 = some 3 := by kernel_rfl
theorem byT_25 : byT Go.Proofs.Try.prog 25 = some 32 := by kernel_rfl
theorem agT_25 : agT Go.Proofs.Try.prog 25 = some true := by kernel_rfl
theorem knT_25 : knT Go.Proofs.Try.prog 25 = some 4 := by kernel_rfl
theorem zrT_25 : zrT Go.Proofs.Try.prog 25 = some (AV.agg [AV.int IntKind.u8 0, AV.int IntKind.u8 0, AV.nils]) := by kernel_rfl
theorem szT_30 : szT Go.Proofs.Try.prog 30 = some 1 := by kernel_rfl
theorem byT_30 : byT Go.Proofs.Try.prog 30 = some 8 := by kernel_rfl
theorem agT_30 : agT Go.Proofs.Try.prog 30 = some false := by kernel_rfl
theorem knT_30 : knT Go.Proofs.Try.prog 30 = some 1 := by kernel_rfl
theorem kdT_30 : kdT Go.Proofs.Try.prog 30 = some IntKind.i64 := by kernel_rfl
theorem zrT_30 : zrT Go.Proofs.Try.prog 30 = some (AV.int IntKind.i64 0) := by kernel_rfl
theorem szT_35 : szT Go.Proofs.Try.prog 35 = some 1 := by kernel_rfl
theorem byT_35 : byT Go.Proofs.Try.prog 35 = some 2 := by kernel_rfl
theorem agT_35 : agT Go.Proofs.Try.prog 35 = some false := by kernel_rfl
theorem knT_35 : knT Go.Proofs.Try.prog 35 = some 1 := by kernel_rfl
theorem kdT_35 : kdT Go.Proofs.Try.prog 35 = some IntKind.u16 := by kernel_rfl
theorem zrT_35 : zrT Go.Proofs.Try.prog 35 = some (AV.int IntKind.u16 0) := by kernel_rfl
theorem szT_38 : szT Go.Proofs.Try.prog 38 = some 1 := by kernel_rfl
theorem byT_38 : byT Go.Proofs.Try.prog 38 = some 24 := by kernel_rfl
theorem agT_38 : agT Go.Proofs.Try.prog 38 = some false := by kernel_rfl
theorem elT_38 : elT Go.Proofs.Try.prog 38 = some 3 := by kernel_rfl
theorem knT_38 : knT Go.Proofs.Try.prog 38 = some 3 := by kernel_rfl
theorem zrT_38 : zrT Go.Proofs.Try.prog 38 = some AV.nils := by kernel_rfl
theorem szT_46 : szT Go.Proofs.Try.prog 46 = some 1 := by kernel_rfl
theorem byT_46 : byT Go.Proofs.Try.prog 46 = some 24 := by kernel_rfl
theorem agT_46 : agT Go.Proofs.Try.prog 46 = some false := by kernel_rfl
theorem elT_46 : elT Go.Proofs.Try.prog 46 = some 2 := by kernel_rfl
theorem knT_46 : knT Go.Proofs.Try.prog 46 = some 3 := by kernel_rfl
theorem zrT_46 : zrT Go.Proofs.Try.prog 46 = some AV.nils := by kernel_rfl
theorem szT_57 : szT Go.Proofs.Try.prog 57 = some 1 := by kernel_rfl
theorem byT_57 : byT Go.Proofs.Try.prog 57 = some 8 := by kernel_rfl
theorem agT_57 : agT Go.Proofs.Try.prog 57 = some false := by kernel_rfl
theorem knT_57 : knT Go.Proofs.Try.prog 57 = some 4 := by kernel_rfl
theorem zrT_57 : zrT Go.Proofs.Try.prog 57 = some AV.nilp := by kernel_rfl
theorem szT_58 : szT Go.Proofs.Try.prog 58 = some 2 := by kernel_rfl
theorem byT_58 : byT Go.Proofs.Try.prog 58 = some 32 := by kernel_rfl
theorem agT_58 : agT Go.Proofs.Try.prog 58 = some true := by kernel_rfl
theorem knT_58 : knT Go.Proofs.Try.prog 58 = some 4 := by kernel_rfl
theorem zrT_58 : zrT Go.Proofs.Try.prog 58 = some (AV.agg [AV.nils, AV.int IntKind.i64 0]) := by kernel_rfl
theorem szT_59 : szT Go.Proofs.Try.prog 59 = some 2 := by kernel_rfl
theorem byT_59 : byT Go.Proofs.Try.prog 59 = some 32 := by kernel_rfl
theorem agT_59 : agT Go.Proofs.Try.prog 59 = some true := by kernel_rfl
theorem knT_59 : knT Go.Proofs.Try.prog 59 = some 4 := by kernel_rfl
theorem zrT_59 : zrT Go.Proofs.Try.prog 59 = some (AV.agg [AV.nils, AV.int IntKind.i64 0]) := by kernel_rfl
theorem szT_61 : szT Go.Proofs.Try.prog 61 = some 1 := by kernel_rfl
theorem byT_61 : byT Go.Proofs.Try.prog 61 = some 24 := by kernel_rfl
theorem agT_61 : agT Go.Proofs.Try.prog 61 = some false := by kernel_rfl
theorem elT_61 : elT Go.Proofs.Try.prog 61 = some 4 := by kernel_rfl
theorem knT_61 : knT Go.Proofs.Try.prog 61 = some 3 := by kernel_rfl
theorem zrT_61 : zrT Go.Proofs.Try.prog 61 = some AV.nils := by kernel_rfl
theorem szT_70 : szT Go.Proofs.Try.prog 70 = some 1 := by kernel_rfl
theorem byT_70 : byT Go.Proofs.Try.prog 70 = some 24 := by kernel_rfl
theorem agT_70 : agT Go.Proofs.Try.prog 70 = some false := by kernel_rfl
theorem elT_70 : elT Go.Proofs.Try.prog 70 = some 74 := by kernel_rfl
theorem knT_70 : knT Go.Proofs.Try.prog 70 = some 3 := by kernel_rfl
theorem zrT_70 : zrT Go.Proofs.Try.prog 70 = some AV.nils := by kernel_rfl
theorem szT_74 : szT Go.Proofs.Try.prog 74 = some 1 := by kernel_rfl
theorem byT_74 : byT Go.Proofs.Try.prog 74 = some 24 := by kernel_rfl
theorem agT_74 : agT Go.Proofs.Try.prog 74 = some false := by kernel_rfl
theorem elT_74 : elT Go.Proofs.Try.prog 74 = some 77 := by kernel_rfl
theorem knT_74 : knT Go.Proofs.Try.prog 74 = some 3 := by kernel_rfl
theorem zrT_74 : zrT Go.Proofs.Try.prog 74 = some AV.nils := by kernel_rfl
theorem szT_75 : szT Go.Proofs.Try.prog 75 = some 1 := by kernel_rfl
theorem byT_75 : byT Go.Proofs.Try.prog 75 = some 24 := by kernel_rfl
theorem agT_75 : agT Go.Proofs.Try.prog 75 = some false := by kernel_rfl
theorem elT_75 : elT Go.Proofs.Try.prog 75 = some 95 := by kernel_rfl
theorem knT_75 : knT Go.Proofs.Try.prog 75 = some 3 := by kernel_rfl
theorem zrT_75 : zrT Go.Proofs.Try.prog 75 = some AV.nils := by kernel_rfl
theorem szT_76 : szT Go.Proofs.Try.prog 76 = some 2 := by kernel_rfl
theorem byT_76 : byT Go.Proofs.Try.prog 76 = some 32 := by kernel_rfl
theorem agT_76 : agT Go.Proofs.Try.prog 76 = some true := by kernel_rfl
theorem knT_76 : knT Go.Proofs.Try.prog 76 = some 4 := by kernel_rfl
theorem zrT_76 : zrT Go.Proofs.Try.prog 76 = some (AV.agg [AV.bool false, AV.nils]) := by kernel_rfl
theorem szT_77 : szT Go.Proofs.Try.prog 77 = some 2 := by kernel_rfl
theorem byT_77 : byT Go.Proofs.Try.prog 77 = some 32 := by kernel_rfl
theorem agT_77 : agT Go.Proofs.Try.prog 77 = some true := by kernel_rfl
theorem knT_77 : knT Go.Proofs.Try.prog 77 = some 4 := by kernel_rfl
theorem zrT_77 : zrT Go.Proofs.Try.prog 77 = some (AV.agg [AV.bool false, AV.nils]) := by kernel_rfl
theorem szT_84 : szT Go.Proofs.Try.prog 84 = some 1 := by kernel_rfl
theorem byT_84 : byT Go.Proofs.Try.prog 84 = some 1 := by kernel_rfl
theorem agT_84 : agT Go.Proofs.Try.prog 84 = some false := by kernel_rfl
theorem knT_84 : knT Go.Proofs.Try.prog 84 = some 1 := by kernel_rfl
theorem kdT_84 : kdT Go.Proofs.Try.prog 84 = some IntKind.i8 := by kernel_rfl
theorem zrT_84 : zrT Go.Proofs.Try.prog 84 = some (AV.int IntKind.i8 0) := by kernel_rfl
theorem szT_95 : szT Go.Proofs.Try.prog 95 = some 1 := by kernel_rfl
theorem byT_95 : byT Go.Proofs.Try.prog 95 = some 4 := by kernel_rfl
theorem agT_95 : agT Go.Proofs.Try.prog 95 = some false := by kernel_rfl
theorem knT_95 : knT Go.Proofs.Try.prog 95 = some 1 := by kernel_rfl
theorem kdT_95 : kdT Go.Proofs.Try.prog 95 = some IntKind.u32 := by kernel_rfl
theorem zrT_95 : zrT Go.Proofs.Try.prog 95 = some (AV.int IntKind.u32 0) := by kernel_rfl
theorem szT_96 : szT Go.Proofs.Try.prog 96 = some 1 := by kernel_rfl
theorem byT_96 : byT Go.Proofs.Try.prog 96 = some 8 := by kernel_rfl
theorem agT_96 : agT Go.Proofs.Try.prog 96 = some false := by kernel_rfl
theorem knT_96 : knT Go.Proofs.Try.prog 96 = some 1 := by kernel_rfl
theorem kdT_96 : kdT Go.Proofs.Try.prog 96 = some IntKind.u64 := by kernel_rfl
theorem zrT_96 : zrT Go.Proofs.Try.prog 96 = some (AV.int IntKind.u64 0) := by kernel_rfl
theorem szT_97 : szT Go.Proofs.Try.prog 97 = some 1 := by kernel_rfl
theorem byT_97 : byT Go.Proofs.Try.prog 97 = some 8 := by kernel_rfl
theorem agT_97 : agT Go.Proofs.Try.prog 97 = some false := by kernel_rfl
theorem knT_97 : knT Go.Proofs.Try.prog 97 = some 1 := by kernel_rfl
theorem kdT_97 : kdT Go.Proofs.Try.prog 97 = some IntKind.u64 := by kernel_rfl
theorem zrT_97 : zrT Go.Proofs.Try.prog 97 = some (AV.int IntKind.u64 0) := by kernel_rfl
theorem und_0 : (Go.Proofs.Try.prog.underlying 0).isSome = true := by kernel_rfl
theorem und_2 : (Go.Proofs.Try.prog.underlying 2).isSome = true := by kernel_rfl
theorem und_3 : (Go.Proofs.Try.prog.underlying 3).isSome = true := by kernel_rfl
theorem und_4 : (Go.Proofs.Try.prog.underlying 4).isSome = true := by kernel_rfl
theorem und_5 : (Go.Proofs.Try.prog.underlying 5).isSome = true := by kernel_rfl
theorem und_22 : (Go.Proofs.Try.prog.underlying 22).isSome = true := by kernel_rfl
theorem und_23 : (Go.Proofs.Try.prog.underlying 23).isSome = true := by kernel_rfl
theorem und_24 : (Go.Proofs.Try.prog.underlying 24).isSome = true := by kernel_rfl
theorem und_25 : (Go.Proofs.Try.prog.underlying 25).isSome = true := by kernel_rfl
theorem und_30 : (Go.Proofs.Try.prog.underlying 30).isSome = true := by kernel_rfl
theorem und_35 : (Go.Proofs.Try.prog.underlying 35).isSome = true := by kernel_rfl
theorem und_38 : (Go.Proofs.Try.prog.underlying 38).isSome = true := by kernel_rfl
theorem und_46 : (Go.Proofs.Try.prog.underlying 46).isSome = true := by kernel_rfl
theorem und_57 : (Go.Proofs.Try.prog.underlying 57).isSome = true := by kernel_rfl
theorem und_58 : (Go.Proofs.Try.prog.underlying 58).isSome = true := by kernel_rfl
theorem und_59 : (Go.Proofs.Try.prog.underlying 59).isSome = true := by kernel_rfl
theorem und_61 : (Go.Proofs.Try.prog.underlying 61).isSome = true := by kernel_rfl
theorem und_70 : (Go.Proofs.Try.prog.underlying 70).isSome = true := by kernel_rfl
theorem und_74 : (Go.Proofs.Try.prog.underlying 74).isSome = true := by kernel_rfl
theorem und_75 : (Go.Proofs.Try.prog.underlying 75).isSome = true := by kernel_rfl
theorem und_76 : (Go.Proofs.Try.prog.underlying 76).isSome = true := by kernel_rfl
theorem und_77 : (Go.Proofs.Try.prog.underlying 77).isSome = true := by kernel_rfl
theorem und_84 : (Go.Proofs.Try.prog.underlying 84).isSome = true := by kernel_rfl
theorem und_95 : (Go.Proofs.Try.prog.underlying 95).isSome = true := by kernel_rfl
theorem und_96 : (Go.Proofs.Try.prog.underlying 96).isSome = true := by kernel_rfl
theorem und_97 : (Go.Proofs.Try.prog.underlying 97).isSome = true := by kernel_rfl
theorem mixed : Go.Proofs.Try.prog.follows .mixedOrders = true := by kernel_rfl
theorem okF_15 : okF Go.Proofs.Try.prog 15 = true := by kernel_rfl
theorem okF_42 : okF Go.Proofs.Try.prog 42 = true := by kernel_rfl
theorem okF_48 : okF Go.Proofs.Try.prog 48 = true := by kernel_rfl
theorem okF_43 : okF Go.Proofs.Try.prog 43 = true := by kernel_rfl
theorem okF_47 : okF Go.Proofs.Try.prog 47 = true := by kernel_rfl
theorem okF_58 : okF Go.Proofs.Try.prog 58 = true := by kernel_rfl
theorem okF_59 : okF Go.Proofs.Try.prog 59 = true := by kernel_rfl
theorem okF_25 : okF Go.Proofs.Try.prog 25 = true := by kernel_rfl
theorem okF_19 : okF Go.Proofs.Try.prog 19 = true := by kernel_rfl
theorem okF_21 : okF Go.Proofs.Try.prog 21 = true := by kernel_rfl
theorem okF_45 : okF Go.Proofs.Try.prog 45 = true := by kernel_rfl
theorem okF_46 : okF Go.Proofs.Try.prog 46 = true := by kernel_rfl
theorem okF_49 : okF Go.Proofs.Try.prog 49 = true := by kernel_rfl
theorem okF_50 : okF Go.Proofs.Try.prog 50 = true := by kernel_rfl
theorem okF_23 : okF Go.Proofs.Try.prog 23 = true := by kernel_rfl
theorem okF_16 : okF Go.Proofs.Try.prog 16 = true := by kernel_rfl
theorem okF_40 : okF Go.Proofs.Try.prog 40 = true := by kernel_rfl
theorem okF_17 : okF Go.Proofs.Try.prog 17 = true := by kernel_rfl
theorem okF_41 : okF Go.Proofs.Try.prog 41 = true := by kernel_rfl
theorem okF_18 : okF Go.Proofs.Try.prog 18 = true := by kernel_rfl
theorem okF_36 : okF Go.Proofs.Try.prog 36 = true := by kernel_rfl
theorem okF_54 : okF Go.Proofs.Try.prog 54 = true := by kernel_rfl
theorem okF_83 : okF Go.Proofs.Try.prog 83 = true := by kernel_rfl
theorem okF_70 : okF Go.Proofs.Try.prog 70 = true := by kernel_rfl
theorem okF_44 : okF Go.Proofs.Try.prog 44 = true := by kernel_rfl
theorem okF_60 : okF Go.Proofs.Try.prog 60 = true := by kernel_rfl
theorem okF_61 : okF Go.Proofs.Try.prog 61 = true := by kernel_rfl
theorem okF_26 : okF Go.Proofs.Try.prog 26 = true := by kernel_rfl
theorem okF_20 : okF Go.Proofs.Try.prog 20 = true := by kernel_rfl
theorem okF_3 : okF Go.Proofs.Try.prog 3 = true := by kernel_rfl
theorem okF_22 : okF Go.Proofs.Try.prog 22 = true := by kernel_rfl
theorem okF_89 : okF Go.Proofs.Try.prog 89 = true := by kernel_rfl
theorem okF_81 : okF Go.Proofs.Try.prog 81 = true := by kernel_rfl
theorem okF_82 : okF Go.Proofs.Try.prog 82 = true := by kernel_rfl
theorem okF_57 : okF Go.Proofs.Try.prog 57 = true := by kernel_rfl
theorem okF_90 : okF Go.Proofs.Try.prog 90 = true := by kernel_rfl
theorem okF_79 : okF Go.Proofs.Try.prog 79 = true := by kernel_rfl
theorem okF_86 : okF Go.Proofs.Try.prog 86 = true := by kernel_rfl
theorem okF_77 : okF Go.Proofs.Try.prog 77 = true := by kernel_rfl
theorem okF_95 : okF Go.Proofs.Try.prog 95 = true := by kernel_rfl
theorem okF_96 : okF Go.Proofs.Try.prog 96 = true := by kernel_rfl
theorem okF_97 : okF Go.Proofs.Try.prog 97 = true := by kernel_rfl
theorem okF_93 : okF Go.Proofs.Try.prog 93 = true := by kernel_rfl
theorem okF_88 : okF Go.Proofs.Try.prog 88 = true := by kernel_rfl
theorem okF_98 : okF Go.Proofs.Try.prog 98 = true := by kernel_rfl
theorem okF_94 : okF Go.Proofs.Try.prog 94 = true := by kernel_rfl
theorem okF_91 : okF Go.Proofs.Try.prog 91 = true := by kernel_rfl
theorem okF_80 : okF Go.Proofs.Try.prog 80 = true := by kernel_rfl
theorem okF_55 : okF Go.Proofs.Try.prog 55 = true := by kernel_rfl
theorem okF_62 : okF Go.Proofs.Try.prog 62 = true := by kernel_rfl
theorem okF_63 : okF Go.Proofs.Try.prog 63 = true := by kernel_rfl
theorem okF_73 : okF Go.Proofs.Try.prog 73 = true := by kernel_rfl
theorem okF_78 : okF Go.Proofs.Try.prog 78 = true := by kernel_rfl
theorem okF_53 : okF Go.Proofs.Try.prog 53 = true := by kernel_rfl
theorem okF_56 : okF Go.Proofs.Try.prog 56 = true := by kernel_rfl
theorem okF_92 : okF Go.Proofs.Try.prog 92 = true := by kernel_rfl
theorem okF_85 : okF Go.Proofs.Try.prog 85 = true := by kernel_rfl
theorem okF_87 : okF Go.Proofs.Try.prog 87 = true := by kernel_rfl
theorem okF_74 : okF Go.Proofs.Try.prog 74 = true := by kernel_rfl
theorem okF_64 : okF Go.Proofs.Try.prog 64 = true := by kernel_rfl
theorem okF_31 : okF Go.Proofs.Try.prog 31 = true := by kernel_rfl
theorem okF_71 : okF Go.Proofs.Try.prog 71 = true := by kernel_rfl
theorem okF_51 : okF Go.Proofs.Try.prog 51 = true := by kernel_rfl
theorem okF_84 : okF Go.Proofs.Try.prog 84 = true := by kernel_rfl
theorem okF_72 : okF Go.Proofs.Try.prog 72 = true := by kernel_rfl
theorem okF_75 : okF Go.Proofs.Try.prog 75 = true := by kernel_rfl
theorem okF_76 : okF Go.Proofs.Try.prog 76 = true := by kernel_rfl
theorem okF_52 : okF Go.Proofs.Try.prog 52 = true := by kernel_rfl
theorem okF_24 : okF Go.Proofs.Try.prog 24 = true := by kernel_rfl
theorem okF_4 : okF Go.Proofs.Try.prog 4 = true := by kernel_rfl
theorem okF_27 : okF Go.Proofs.Try.prog 27 = true := by kernel_rfl
theorem okF_5 : okF Go.Proofs.Try.prog 5 = true := by kernel_rfl
theorem okF_28 : okF Go.Proofs.Try.prog 28 = true := by kernel_rfl
theorem okF_29 : okF Go.Proofs.Try.prog 29 = true := by kernel_rfl
theorem okF_6 : okF Go.Proofs.Try.prog 6 = true := by kernel_rfl
theorem okF_30 : okF Go.Proofs.Try.prog 30 = true := by kernel_rfl
theorem okF_7 : okF Go.Proofs.Try.prog 7 = true := by kernel_rfl
theorem okF_65 : okF Go.Proofs.Try.prog 65 = true := by kernel_rfl
theorem okF_32 : okF Go.Proofs.Try.prog 32 = true := by kernel_rfl
theorem okF_66 : okF Go.Proofs.Try.prog 66 = true := by kernel_rfl
theorem okF_33 : okF Go.Proofs.Try.prog 33 = true := by kernel_rfl
theorem okF_8 : okF Go.Proofs.Try.prog 8 = true := by kernel_rfl
theorem okF_34 : okF Go.Proofs.Try.prog 34 = true := by kernel_rfl
theorem okF_67 : okF Go.Proofs.Try.prog 67 = true := by kernel_rfl
theorem okF_35 : okF Go.Proofs.Try.prog 35 = true := by kernel_rfl
theorem okF_9 : okF Go.Proofs.Try.prog 9 = true := by kernel_rfl
theorem okF_10 : okF Go.Proofs.Try.prog 10 = true := by kernel_rfl
theorem okF_37 : okF Go.Proofs.Try.prog 37 = true := by kernel_rfl
theorem okF_11 : okF Go.Proofs.Try.prog 11 = true := by kernel_rfl
theorem okF_68 : okF Go.Proofs.Try.prog 68 = true := by kernel_rfl
theorem okF_38 : okF Go.Proofs.Try.prog 38 = true := by kernel_rfl
theorem okF_39 : okF Go.Proofs.Try.prog 39 = true := by kernel_rfl
theorem okF_12 : okF Go.Proofs.Try.prog 12 = true := by kernel_rfl
theorem okF_13 : okF Go.Proofs.Try.prog 13 = true := by kernel_rfl
theorem okF_14 : okF Go.Proofs.Try.prog 14 = true := by kernel_rfl
end Go.Eng
