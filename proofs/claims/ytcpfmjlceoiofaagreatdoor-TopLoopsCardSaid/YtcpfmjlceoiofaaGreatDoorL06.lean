/-
  facts on types and functions, written by a program (gen_ty.py) off the translation
-/
import Derived.Test.YtcpfmjlceoiofaaGreatDoorL03
import Derived.Test.YtcpfmjlceoiofaaGreatDoorProg
import Derived.KernelRfl
import Derived.Shelf.Abstract
set_option linter.unusedSimpArgs false
set_option linter.unusedVariables false
set_option linter.unusedSectionVars false
namespace Go.Proofs.YtcpfmjlceoiofaaGreatDoor
open Go.RowKit Go.Shelf
instance mixed : Mixed Tryz.prog := ⟨by kernel_rfl⟩
instance ty1 : Ty Tryz.prog 1 1 false := ⟨by kernel_rfl, by kernel_rfl⟩
instance tz1 : TyZ Tryz.prog 1 [.nilFunc] := ⟨by kernel_rfl⟩
instance tby1 : TyBy Tryz.prog 1 8 := ⟨by kernel_rfl⟩
instance ty2 : Ty Tryz.prog 2 1 false := ⟨by kernel_rfl, by kernel_rfl⟩
instance tz2 : TyZ Tryz.prog 2 [.int .i64 0] := ⟨by kernel_rfl⟩
instance tby2 : TyBy Tryz.prog 2 8 := ⟨by kernel_rfl⟩
instance tin2 : TyInt Tryz.prog 2 .i64 := ⟨by kernel_rfl⟩
instance ty3 : Ty Tryz.prog 3 1 false := ⟨by kernel_rfl, by kernel_rfl⟩
instance tz3 : TyZ Tryz.prog 3 [.int .i64 0] := ⟨by kernel_rfl⟩
instance tby3 : TyBy Tryz.prog 3 8 := ⟨by kernel_rfl⟩
instance tin3 : TyInt Tryz.prog 3 .i64 := ⟨by kernel_rfl⟩
instance ty4 : Ty Tryz.prog 4 1 false := ⟨by kernel_rfl, by kernel_rfl⟩
instance tz4 : TyZ Tryz.prog 4 [.bool false] := ⟨by kernel_rfl⟩
instance tby4 : TyBy Tryz.prog 4 1 := ⟨by kernel_rfl⟩
instance tbo4 : TyBool Tryz.prog 4 := ⟨by kernel_rfl⟩
instance ty5 : Ty Tryz.prog 5 1 false := ⟨by kernel_rfl, by kernel_rfl⟩
instance tz5 : TyZ Tryz.prog 5 [.int .u8 0] := ⟨by kernel_rfl⟩
instance tby5 : TyBy Tryz.prog 5 1 := ⟨by kernel_rfl⟩
instance tin5 : TyInt Tryz.prog 5 .u8 := ⟨by kernel_rfl⟩
instance ty6 : Ty Tryz.prog 6 1 false := ⟨by kernel_rfl, by kernel_rfl⟩
instance tz6 : TyZ Tryz.prog 6 [.int .u8 0] := ⟨by kernel_rfl⟩
instance tby6 : TyBy Tryz.prog 6 1 := ⟨by kernel_rfl⟩
instance tin6 : TyInt Tryz.prog 6 .u8 := ⟨by kernel_rfl⟩
instance ty7 : Ty Tryz.prog 7 4 true := ⟨by kernel_rfl, by kernel_rfl⟩
instance tz7 : TyZ Tryz.prog 7 [.int .i64 0, .int .i64 0, .bool false, .int .u8 0] := ⟨by kernel_rfl⟩
instance tby7 : TyBy Tryz.prog 7 24 := ⟨by kernel_rfl⟩
instance tss7 : TyS Tryz.prog 7 [(0, 1), (1, 1), (2, 1), (3, 1)] := ⟨by kernel_rfl, by kernel_rfl⟩
instance tf7_0 : TyFld Tryz.prog 7 0 0 := ⟨fun _ _ => by kernel_rfl⟩
instance tp7_0 : TyPart Tryz.prog 7 0 0 1 false := ⟨fun _ _ => by kernel_rfl⟩
instance tf7_1 : TyFld Tryz.prog 7 1 1 := ⟨fun _ _ => by kernel_rfl⟩
instance tp7_1 : TyPart Tryz.prog 7 1 1 1 false := ⟨fun _ _ => by kernel_rfl⟩
instance tf7_2 : TyFld Tryz.prog 7 2 2 := ⟨fun _ _ => by kernel_rfl⟩
instance tp7_2 : TyPart Tryz.prog 7 2 2 1 false := ⟨fun _ _ => by kernel_rfl⟩
instance tf7_3 : TyFld Tryz.prog 7 3 3 := ⟨fun _ _ => by kernel_rfl⟩
instance tp7_3 : TyPart Tryz.prog 7 3 3 1 false := ⟨fun _ _ => by kernel_rfl⟩
instance ty8 : Ty Tryz.prog 8 4 true := ⟨by kernel_rfl, by kernel_rfl⟩
instance tz8 : TyZ Tryz.prog 8 [.int .i64 0, .int .i64 0, .bool false, .int .u8 0] := ⟨by kernel_rfl⟩
instance tby8 : TyBy Tryz.prog 8 24 := ⟨by kernel_rfl⟩
instance tss8 : TyS Tryz.prog 8 [(0, 1), (1, 1), (2, 1), (3, 1)] := ⟨by kernel_rfl, by kernel_rfl⟩
instance tf8_0 : TyFld Tryz.prog 8 0 0 := ⟨fun _ _ => by kernel_rfl⟩
instance tp8_0 : TyPart Tryz.prog 8 0 0 1 false := ⟨fun _ _ => by kernel_rfl⟩
instance tf8_1 : TyFld Tryz.prog 8 1 1 := ⟨fun _ _ => by kernel_rfl⟩
instance tp8_1 : TyPart Tryz.prog 8 1 1 1 false := ⟨fun _ _ => by kernel_rfl⟩
instance tf8_2 : TyFld Tryz.prog 8 2 2 := ⟨fun _ _ => by kernel_rfl⟩
instance tp8_2 : TyPart Tryz.prog 8 2 2 1 false := ⟨fun _ _ => by kernel_rfl⟩
instance tf8_3 : TyFld Tryz.prog 8 3 3 := ⟨fun _ _ => by kernel_rfl⟩
instance tp8_3 : TyPart Tryz.prog 8 3 3 1 false := ⟨fun _ _ => by kernel_rfl⟩
instance ty9 : Ty Tryz.prog 9 1 false := ⟨by kernel_rfl, by kernel_rfl⟩
instance tz9 : TyZ Tryz.prog 9 [.string ⟨#[]⟩] := ⟨by kernel_rfl⟩
instance tby9 : TyBy Tryz.prog 9 16 := ⟨by kernel_rfl⟩
instance tst9 : TyStr Tryz.prog 9 := ⟨by kernel_rfl⟩
instance ty10 : Ty Tryz.prog 10 1 false := ⟨by kernel_rfl, by kernel_rfl⟩
instance tz10 : TyZ Tryz.prog 10 [.string ⟨#[]⟩] := ⟨by kernel_rfl⟩
instance tby10 : TyBy Tryz.prog 10 16 := ⟨by kernel_rfl⟩
instance tst10 : TyStr Tryz.prog 10 := ⟨by kernel_rfl⟩
instance ty11 : Ty Tryz.prog 11 1 false := ⟨by kernel_rfl, by kernel_rfl⟩
instance tz11 : TyZ Tryz.prog 11 [.string ⟨#[]⟩] := ⟨by kernel_rfl⟩
instance tby11 : TyBy Tryz.prog 11 16 := ⟨by kernel_rfl⟩
instance tst11 : TyStr Tryz.prog 11 := ⟨by kernel_rfl⟩
instance ty12 : Ty Tryz.prog 12 1 false := ⟨by kernel_rfl, by kernel_rfl⟩
instance tz12 : TyZ Tryz.prog 12 [.int .u64 0] := ⟨by kernel_rfl⟩
instance tby12 : TyBy Tryz.prog 12 8 := ⟨by kernel_rfl⟩
instance tin12 : TyInt Tryz.prog 12 .u64 := ⟨by kernel_rfl⟩
instance ty13 : Ty Tryz.prog 13 2 true := ⟨by kernel_rfl, by kernel_rfl⟩
instance tz13 : TyZ Tryz.prog 13 [.string ⟨#[]⟩, .int .u64 0] := ⟨by kernel_rfl⟩
instance tby13 : TyBy Tryz.prog 13 24 := ⟨by kernel_rfl⟩
instance tss13 : TyS Tryz.prog 13 [(0, 1), (1, 1)] := ⟨by kernel_rfl, by kernel_rfl⟩
instance tf13_0 : TyFld Tryz.prog 13 0 0 := ⟨fun _ _ => by kernel_rfl⟩
instance tp13_0 : TyPart Tryz.prog 13 0 0 1 false := ⟨fun _ _ => by kernel_rfl⟩
instance tf13_1 : TyFld Tryz.prog 13 1 1 := ⟨fun _ _ => by kernel_rfl⟩
instance tp13_1 : TyPart Tryz.prog 13 1 1 1 false := ⟨fun _ _ => by kernel_rfl⟩
instance ty14 : Ty Tryz.prog 14 2 true := ⟨by kernel_rfl, by kernel_rfl⟩
instance tz14 : TyZ Tryz.prog 14 [.string ⟨#[]⟩, .int .u64 0] := ⟨by kernel_rfl⟩
instance tby14 : TyBy Tryz.prog 14 24 := ⟨by kernel_rfl⟩
instance tss14 : TyS Tryz.prog 14 [(0, 1), (1, 1)] := ⟨by kernel_rfl, by kernel_rfl⟩
instance tf14_0 : TyFld Tryz.prog 14 0 0 := ⟨fun _ _ => by kernel_rfl⟩
instance tp14_0 : TyPart Tryz.prog 14 0 0 1 false := ⟨fun _ _ => by kernel_rfl⟩
instance tf14_1 : TyFld Tryz.prog 14 1 1 := ⟨fun _ _ => by kernel_rfl⟩
instance tp14_1 : TyPart Tryz.prog 14 1 1 1 false := ⟨fun _ _ => by kernel_rfl⟩
instance ty15 : Ty Tryz.prog 15 1 false := ⟨by kernel_rfl, by kernel_rfl⟩
instance tz15 : TyZ Tryz.prog 15 [.pointer none] := ⟨by kernel_rfl⟩
instance tby15 : TyBy Tryz.prog 15 8 := ⟨by kernel_rfl⟩
instance tpt15 : TyPtr Tryz.prog 15 635 := ⟨by kernel_rfl⟩
instance ty16 : Ty Tryz.prog 16 1 false := ⟨by kernel_rfl, by kernel_rfl⟩
instance tz16 : TyZ Tryz.prog 16 [.pointer none] := ⟨by kernel_rfl⟩
instance tby16 : TyBy Tryz.prog 16 8 := ⟨by kernel_rfl⟩
instance tpt16 : TyPtr Tryz.prog 16 638 := ⟨by kernel_rfl⟩
instance ty17 : Ty Tryz.prog 17 1 false := ⟨by kernel_rfl, by kernel_rfl⟩
instance tz17 : TyZ Tryz.prog 17 [.pointer none] := ⟨by kernel_rfl⟩
instance tby17 : TyBy Tryz.prog 17 8 := ⟨by kernel_rfl⟩
instance tpt17 : TyPtr Tryz.prog 17 645 := ⟨by kernel_rfl⟩
instance ty18 : Ty Tryz.prog 18 1 true := ⟨by kernel_rfl, by kernel_rfl⟩
instance tz18 : TyZ Tryz.prog 18 [.pointer none] := ⟨by kernel_rfl⟩
instance tby18 : TyBy Tryz.prog 18 8 := ⟨by kernel_rfl⟩
instance tss18 : TyS Tryz.prog 18 [(0, 1)] := ⟨by kernel_rfl, by kernel_rfl⟩
instance tf18_0 : TyFld Tryz.prog 18 0 0 := ⟨fun _ _ => by kernel_rfl⟩
instance tp18_0 : TyPart Tryz.prog 18 0 0 1 false := ⟨fun _ _ => by kernel_rfl⟩
instance ty19 : Ty Tryz.prog 19 1 true := ⟨by kernel_rfl, by kernel_rfl⟩
instance tz19 : TyZ Tryz.prog 19 [.pointer none] := ⟨by kernel_rfl⟩
instance tby19 : TyBy Tryz.prog 19 8 := ⟨by kernel_rfl⟩
instance tss19 : TyS Tryz.prog 19 [(0, 1)] := ⟨by kernel_rfl, by kernel_rfl⟩
instance tf19_0 : TyFld Tryz.prog 19 0 0 := ⟨fun _ _ => by kernel_rfl⟩
instance tp19_0 : TyPart Tryz.prog 19 0 0 1 false := ⟨fun _ _ => by kernel_rfl⟩
instance ty20 : Ty Tryz.prog 20 1 false := ⟨by kernel_rfl, by kernel_rfl⟩
instance tz20 : TyZ Tryz.prog 20 [.nilIface] := ⟨by kernel_rfl⟩
instance tby20 : TyBy Tryz.prog 20 16 := ⟨by kernel_rfl⟩
instance ty21 : Ty Tryz.prog 21 1 false := ⟨by kernel_rfl, by kernel_rfl⟩
instance tz21 : TyZ Tryz.prog 21 [.int .i32 0] := ⟨by kernel_rfl⟩
instance tby21 : TyBy Tryz.prog 21 4 := ⟨by kernel_rfl⟩
instance tin21 : TyInt Tryz.prog 21 .i32 := ⟨by kernel_rfl⟩
instance ty22 : Ty Tryz.prog 22 1 false := ⟨by kernel_rfl, by kernel_rfl⟩
instance tz22 : TyZ Tryz.prog 22 [.slice none 0 0] := ⟨by kernel_rfl⟩
instance tby22 : TyBy Tryz.prog 22 24 := ⟨by kernel_rfl⟩
instance tsl22 : TySl Tryz.prog 22 3 1 := ⟨by kernel_rfl, by kernel_rfl⟩
instance ty23 : Ty Tryz.prog 23 1 false := ⟨by kernel_rfl, by kernel_rfl⟩
instance tz23 : TyZ Tryz.prog 23 [.slice none 0 0] := ⟨by kernel_rfl⟩
instance tby23 : TyBy Tryz.prog 23 24 := ⟨by kernel_rfl⟩
instance tsl23 : TySl Tryz.prog 23 4 1 := ⟨by kernel_rfl, by kernel_rfl⟩
instance ty24 : Ty Tryz.prog 24 1 false := ⟨by kernel_rfl, by kernel_rfl⟩
instance tz24 : TyZ Tryz.prog 24 [.nilFunc] := ⟨by kernel_rfl⟩
instance tby24 : TyBy Tryz.prog 24 8 := ⟨by kernel_rfl⟩
instance ty25 : Ty Tryz.prog 25 1 false := ⟨by kernel_rfl, by kernel_rfl⟩
instance tz25 : TyZ Tryz.prog 25 [.pointer none] := ⟨by kernel_rfl⟩
instance tby25 : TyBy Tryz.prog 25 8 := ⟨by kernel_rfl⟩
instance tpt25 : TyPtr Tryz.prog 25 67 := ⟨by kernel_rfl⟩
instance ty27 : Ty Tryz.prog 27 1 false := ⟨by kernel_rfl, by kernel_rfl⟩
instance tz27 : TyZ Tryz.prog 27 [.nilFunc] := ⟨by kernel_rfl⟩
instance tby27 : TyBy Tryz.prog 27 8 := ⟨by kernel_rfl⟩
instance ty28 : Ty Tryz.prog 28 1 false := ⟨by kernel_rfl, by kernel_rfl⟩
instance tz28 : TyZ Tryz.prog 28 [.nilFunc] := ⟨by kernel_rfl⟩
instance tby28 : TyBy Tryz.prog 28 8 := ⟨by kernel_rfl⟩
instance ty29 : Ty Tryz.prog 29 1 false := ⟨by kernel_rfl, by kernel_rfl⟩
instance tz29 : TyZ Tryz.prog 29 [.int .i64 0] := ⟨by kernel_rfl⟩
instance tby29 : TyBy Tryz.prog 29 8 := ⟨by kernel_rfl⟩
instance tin29 : TyInt Tryz.prog 29 .i64 := ⟨by kernel_rfl⟩
instance ty30 : Ty Tryz.prog 30 5 true := ⟨by kernel_rfl, by kernel_rfl⟩
instance tz30 : TyZ Tryz.prog 30 [.int .i64 0, .int .i64 0, .int .i64 0, .string ⟨#[]⟩, .bool false] := ⟨by kernel_rfl⟩
instance tby30 : TyBy Tryz.prog 30 48 := ⟨by kernel_rfl⟩
instance tss30 : TyS Tryz.prog 30 [(0, 1), (1, 1), (2, 1), (3, 1), (4, 1)] := ⟨by kernel_rfl, by kernel_rfl⟩
instance tf30_0 : TyFld Tryz.prog 30 0 0 := ⟨fun _ _ => by kernel_rfl⟩
instance tp30_0 : TyPart Tryz.prog 30 0 0 1 false := ⟨fun _ _ => by kernel_rfl⟩
instance tf30_1 : TyFld Tryz.prog 30 1 1 := ⟨fun _ _ => by kernel_rfl⟩
instance tp30_1 : TyPart Tryz.prog 30 1 1 1 false := ⟨fun _ _ => by kernel_rfl⟩
instance tf30_2 : TyFld Tryz.prog 30 2 2 := ⟨fun _ _ => by kernel_rfl⟩
instance tp30_2 : TyPart Tryz.prog 30 2 2 1 false := ⟨fun _ _ => by kernel_rfl⟩
instance tf30_3 : TyFld Tryz.prog 30 3 3 := ⟨fun _ _ => by kernel_rfl⟩
instance tp30_3 : TyPart Tryz.prog 30 3 3 1 false := ⟨fun _ _ => by kernel_rfl⟩
instance tf30_4 : TyFld Tryz.prog 30 4 4 := ⟨fun _ _ => by kernel_rfl⟩
instance tp30_4 : TyPart Tryz.prog 30 4 4 1 false := ⟨fun _ _ => by kernel_rfl⟩
instance ty31 : Ty Tryz.prog 31 5 true := ⟨by kernel_rfl, by kernel_rfl⟩
instance tz31 : TyZ Tryz.prog 31 [.int .i64 0, .int .i64 0, .int .i64 0, .string ⟨#[]⟩, .bool false] := ⟨by kernel_rfl⟩
instance tby31 : TyBy Tryz.prog 31 48 := ⟨by kernel_rfl⟩
instance tss31 : TyS Tryz.prog 31 [(0, 1), (1, 1), (2, 1), (3, 1), (4, 1)] := ⟨by kernel_rfl, by kernel_rfl⟩
instance tf31_0 : TyFld Tryz.prog 31 0 0 := ⟨fun _ _ => by kernel_rfl⟩
instance tp31_0 : TyPart Tryz.prog 31 0 0 1 false := ⟨fun _ _ => by kernel_rfl⟩
instance tf31_1 : TyFld Tryz.prog 31 1 1 := ⟨fun _ _ => by kernel_rfl⟩
instance tp31_1 : TyPart Tryz.prog 31 1 1 1 false := ⟨fun _ _ => by kernel_rfl⟩
instance tf31_2 : TyFld Tryz.prog 31 2 2 := ⟨fun _ _ => by kernel_rfl⟩
instance tp31_2 : TyPart Tryz.prog 31 2 2 1 false := ⟨fun _ _ => by kernel_rfl⟩
instance tf31_3 : TyFld Tryz.prog 31 3 3 := ⟨fun _ _ => by kernel_rfl⟩
instance tp31_3 : TyPart Tryz.prog 31 3 3 1 false := ⟨fun _ _ => by kernel_rfl⟩
instance tf31_4 : TyFld Tryz.prog 31 4 4 := ⟨fun _ _ => by kernel_rfl⟩
instance tp31_4 : TyPart Tryz.prog 31 4 4 1 false := ⟨fun _ _ => by kernel_rfl⟩
instance tes31 : TyEqS Tryz.prog 31 [.int .i64, .int .i64, .int .i64, .str, .bool] := ⟨by kernel_rfl, by kernel_rfl, by kernel_rfl, by kernel_rfl⟩
instance ty32 : Ty Tryz.prog 32 1 false := ⟨by kernel_rfl, by kernel_rfl⟩
instance tz32 : TyZ Tryz.prog 32 [.nilFunc] := ⟨by kernel_rfl⟩
instance tby32 : TyBy Tryz.prog 32 8 := ⟨by kernel_rfl⟩
instance ty33 : Ty Tryz.prog 33 7 true := ⟨by kernel_rfl, by kernel_rfl⟩
instance tz33 : TyZ Tryz.prog 33 [.int .i64 0, .int .i64 0, .int .i64 0, .int .i64 0, .int .i64 0, .int .i64 0, .string ⟨#[]⟩] := ⟨by kernel_rfl⟩
instance tby33 : TyBy Tryz.prog 33 64 := ⟨by kernel_rfl⟩
instance tss33 : TyS Tryz.prog 33 [(0, 1), (1, 1), (2, 1), (3, 1), (4, 1), (5, 1), (6, 1)] := ⟨by kernel_rfl, by kernel_rfl⟩
instance tf33_0 : TyFld Tryz.prog 33 0 0 := ⟨fun _ _ => by kernel_rfl⟩
instance tp33_0 : TyPart Tryz.prog 33 0 0 1 false := ⟨fun _ _ => by kernel_rfl⟩
instance tf33_1 : TyFld Tryz.prog 33 1 1 := ⟨fun _ _ => by kernel_rfl⟩
instance tp33_1 : TyPart Tryz.prog 33 1 1 1 false := ⟨fun _ _ => by kernel_rfl⟩
instance tf33_2 : TyFld Tryz.prog 33 2 2 := ⟨fun _ _ => by kernel_rfl⟩
instance tp33_2 : TyPart Tryz.prog 33 2 2 1 false := ⟨fun _ _ => by kernel_rfl⟩
instance tf33_3 : TyFld Tryz.prog 33 3 3 := ⟨fun _ _ => by kernel_rfl⟩
instance tp33_3 : TyPart Tryz.prog 33 3 3 1 false := ⟨fun _ _ => by kernel_rfl⟩
instance tf33_4 : TyFld Tryz.prog 33 4 4 := ⟨fun _ _ => by kernel_rfl⟩
instance tp33_4 : TyPart Tryz.prog 33 4 4 1 false := ⟨fun _ _ => by kernel_rfl⟩
instance tf33_5 : TyFld Tryz.prog 33 5 5 := ⟨fun _ _ => by kernel_rfl⟩
instance tp33_5 : TyPart Tryz.prog 33 5 5 1 false := ⟨fun _ _ => by kernel_rfl⟩
instance tf33_6 : TyFld Tryz.prog 33 6 6 := ⟨fun _ _ => by kernel_rfl⟩
instance tp33_6 : TyPart Tryz.prog 33 6 6 1 false := ⟨fun _ _ => by kernel_rfl⟩
instance ty34 : Ty Tryz.prog 34 7 true := ⟨by kernel_rfl, by kernel_rfl⟩
instance tz34 : TyZ Tryz.prog 34 [.int .i64 0, .int .i64 0, .int .i64 0, .int .i64 0, .int .i64 0, .int .i64 0, .string ⟨#[]⟩] := ⟨by kernel_rfl⟩
instance tby34 : TyBy Tryz.prog 34 64 := ⟨by kernel_rfl⟩
instance tss34 : TyS Tryz.prog 34 [(0, 1), (1, 1), (2, 1), (3, 1), (4, 1), (5, 1), (6, 1)] := ⟨by kernel_rfl, by kernel_rfl⟩
instance tf34_0 : TyFld Tryz.prog 34 0 0 := ⟨fun _ _ => by kernel_rfl⟩
instance tp34_0 : TyPart Tryz.prog 34 0 0 1 false := ⟨fun _ _ => by kernel_rfl⟩
instance tf34_1 : TyFld Tryz.prog 34 1 1 := ⟨fun _ _ => by kernel_rfl⟩
instance tp34_1 : TyPart Tryz.prog 34 1 1 1 false := ⟨fun _ _ => by kernel_rfl⟩
instance tf34_2 : TyFld Tryz.prog 34 2 2 := ⟨fun _ _ => by kernel_rfl⟩
instance tp34_2 : TyPart Tryz.prog 34 2 2 1 false := ⟨fun _ _ => by kernel_rfl⟩
instance tf34_3 : TyFld Tryz.prog 34 3 3 := ⟨fun _ _ => by kernel_rfl⟩
instance tp34_3 : TyPart Tryz.prog 34 3 3 1 false := ⟨fun _ _ => by kernel_rfl⟩
instance tf34_4 : TyFld Tryz.prog 34 4 4 := ⟨fun _ _ => by kernel_rfl⟩
instance tp34_4 : TyPart Tryz.prog 34 4 4 1 false := ⟨fun _ _ => by kernel_rfl⟩
instance tf34_5 : TyFld Tryz.prog 34 5 5 := ⟨fun _ _ => by kernel_rfl⟩
instance tp34_5 : TyPart Tryz.prog 34 5 5 1 false := ⟨fun _ _ => by kernel_rfl⟩
instance tf34_6 : TyFld Tryz.prog 34 6 6 := ⟨fun _ _ => by kernel_rfl⟩
instance tp34_6 : TyPart Tryz.prog 34 6 6 1 false := ⟨fun _ _ => by kernel_rfl⟩
instance tes34 : TyEqS Tryz.prog 34 [.int .i64, .int .i64, .int .i64, .int .i64, .int .i64, .int .i64, .str] := ⟨by kernel_rfl, by kernel_rfl, by kernel_rfl, by kernel_rfl⟩
instance ty35 : Ty Tryz.prog 35 1 false := ⟨by kernel_rfl, by kernel_rfl⟩
instance tz35 : TyZ Tryz.prog 35 [.nilFunc] := ⟨by kernel_rfl⟩
instance tby35 : TyBy Tryz.prog 35 8 := ⟨by kernel_rfl⟩
instance ty36 : Ty Tryz.prog 36 1 false := ⟨by kernel_rfl, by kernel_rfl⟩
instance tz36 : TyZ Tryz.prog 36 [.nilFunc] := ⟨by kernel_rfl⟩
instance tby36 : TyBy Tryz.prog 36 8 := ⟨by kernel_rfl⟩
instance ty37 : Ty Tryz.prog 37 1 false := ⟨by kernel_rfl, by kernel_rfl⟩
instance tz37 : TyZ Tryz.prog 37 [.slice none 0 0] := ⟨by kernel_rfl⟩
instance tby37 : TyBy Tryz.prog 37 24 := ⟨by kernel_rfl⟩
instance tsl37 : TySl Tryz.prog 37 42 8 := ⟨by kernel_rfl, by kernel_rfl⟩
instance ty39 : Ty Tryz.prog 39 1 false := ⟨by kernel_rfl, by kernel_rfl⟩
instance tz39 : TyZ Tryz.prog 39 [.nilFunc] := ⟨by kernel_rfl⟩
instance tby39 : TyBy Tryz.prog 39 8 := ⟨by kernel_rfl⟩
instance ty40 : Ty Tryz.prog 40 1 false := ⟨by kernel_rfl, by kernel_rfl⟩
instance tz40 : TyZ Tryz.prog 40 [.nilFunc] := ⟨by kernel_rfl⟩
instance tby40 : TyBy Tryz.prog 40 8 := ⟨by kernel_rfl⟩
instance ty41 : Ty Tryz.prog 41 8 true := ⟨by kernel_rfl, by kernel_rfl⟩
instance tz41 : TyZ Tryz.prog 41 [.int .i64 0, .int .i64 0, .int .i64 0, .int .i64 0, .int .i64 0, .int .i64 0, .int .i64 0, .string ⟨#[]⟩] := ⟨by kernel_rfl⟩
instance tby41 : TyBy Tryz.prog 41 72 := ⟨by kernel_rfl⟩
instance tss41 : TyS Tryz.prog 41 [(0, 1), (1, 7)] := ⟨by kernel_rfl, by kernel_rfl⟩
instance tf41_0 : TyFld Tryz.prog 41 0 0 := ⟨fun _ _ => by kernel_rfl⟩
instance tp41_0 : TyPart Tryz.prog 41 0 0 1 false := ⟨fun _ _ => by kernel_rfl⟩
instance tf41_1 : TyFld Tryz.prog 41 1 1 := ⟨fun _ _ => by kernel_rfl⟩
instance tp41_1 : TyPart Tryz.prog 41 1 1 7 true := ⟨fun _ _ => by kernel_rfl⟩
instance ty42 : Ty Tryz.prog 42 8 true := ⟨by kernel_rfl, by kernel_rfl⟩
instance tz42 : TyZ Tryz.prog 42 [.int .i64 0, .int .i64 0, .int .i64 0, .int .i64 0, .int .i64 0, .int .i64 0, .int .i64 0, .string ⟨#[]⟩] := ⟨by kernel_rfl⟩
instance tby42 : TyBy Tryz.prog 42 72 := ⟨by kernel_rfl⟩
instance tss42 : TyS Tryz.prog 42 [(0, 1), (1, 7)] := ⟨by kernel_rfl, by kernel_rfl⟩
instance tf42_0 : TyFld Tryz.prog 42 0 0 := ⟨fun _ _ => by kernel_rfl⟩
instance tp42_0 : TyPart Tryz.prog 42 0 0 1 false := ⟨fun _ _ => by kernel_rfl⟩
instance tf42_1 : TyFld Tryz.prog 42 1 1 := ⟨fun _ _ => by kernel_rfl⟩
instance tp42_1 : TyPart Tryz.prog 42 1 1 7 true := ⟨fun _ _ => by kernel_rfl⟩
instance ty43 : Ty Tryz.prog 43 1 false := ⟨by kernel_rfl, by kernel_rfl⟩
instance tz43 : TyZ Tryz.prog 43 [.nilFunc] := ⟨by kernel_rfl⟩
instance tby43 : TyBy Tryz.prog 43 8 := ⟨by kernel_rfl⟩
instance ty44 : Ty Tryz.prog 44 1 false := ⟨by kernel_rfl, by kernel_rfl⟩
instance tz44 : TyZ Tryz.prog 44 [.nilFunc] := ⟨by kernel_rfl⟩
instance tby44 : TyBy Tryz.prog 44 8 := ⟨by kernel_rfl⟩
instance ty45 : Ty Tryz.prog 45 2 true := ⟨by kernel_rfl, by kernel_rfl⟩
instance tz45 : TyZ Tryz.prog 45 [.int .i64 0, .int .i64 0] := ⟨by kernel_rfl⟩
instance tby45 : TyBy Tryz.prog 45 16 := ⟨by kernel_rfl⟩
instance tss45 : TyS Tryz.prog 45 [(0, 1), (1, 1)] := ⟨by kernel_rfl, by kernel_rfl⟩
instance tf45_0 : TyFld Tryz.prog 45 0 0 := ⟨fun _ _ => by kernel_rfl⟩
instance tp45_0 : TyPart Tryz.prog 45 0 0 1 false := ⟨fun _ _ => by kernel_rfl⟩
instance tf45_1 : TyFld Tryz.prog 45 1 1 := ⟨fun _ _ => by kernel_rfl⟩
instance tp45_1 : TyPart Tryz.prog 45 1 1 1 false := ⟨fun _ _ => by kernel_rfl⟩
instance ty46 : Ty Tryz.prog 46 2 true := ⟨by kernel_rfl, by kernel_rfl⟩
instance tz46 : TyZ Tryz.prog 46 [.int .i64 0, .int .i64 0] := ⟨by kernel_rfl⟩
instance tby46 : TyBy Tryz.prog 46 16 := ⟨by kernel_rfl⟩
instance tss46 : TyS Tryz.prog 46 [(0, 1), (1, 1)] := ⟨by kernel_rfl, by kernel_rfl⟩
instance tf46_0 : TyFld Tryz.prog 46 0 0 := ⟨fun _ _ => by kernel_rfl⟩
instance tp46_0 : TyPart Tryz.prog 46 0 0 1 false := ⟨fun _ _ => by kernel_rfl⟩
instance tf46_1 : TyFld Tryz.prog 46 1 1 := ⟨fun _ _ => by kernel_rfl⟩
instance tp46_1 : TyPart Tryz.prog 46 1 1 1 false := ⟨fun _ _ => by kernel_rfl⟩
instance tes46 : TyEqS Tryz.prog 46 [.int .i64, .int .i64] := ⟨by kernel_rfl, by kernel_rfl, by kernel_rfl, by kernel_rfl⟩
instance ty47 : Ty Tryz.prog 47 8 true := ⟨by kernel_rfl, by kernel_rfl⟩
instance tz47 : TyZ Tryz.prog 47 [.int .i64 0, .int .i64 0, .int .i64 0, .int .i64 0, .int .i64 0, .string ⟨#[]⟩, .int .i64 0, .bool false] := ⟨by kernel_rfl⟩
instance tby47 : TyBy Tryz.prog 47 72 := ⟨by kernel_rfl⟩
instance tss47 : TyS Tryz.prog 47 [(0, 1), (1, 1), (2, 1), (3, 2), (5, 1), (6, 1), (7, 1)] := ⟨by kernel_rfl, by kernel_rfl⟩
instance tf47_0 : TyFld Tryz.prog 47 0 0 := ⟨fun _ _ => by kernel_rfl⟩
instance tp47_0 : TyPart Tryz.prog 47 0 0 1 false := ⟨fun _ _ => by kernel_rfl⟩
instance tf47_1 : TyFld Tryz.prog 47 1 1 := ⟨fun _ _ => by kernel_rfl⟩
instance tp47_1 : TyPart Tryz.prog 47 1 1 1 false := ⟨fun _ _ => by kernel_rfl⟩
instance tf47_2 : TyFld Tryz.prog 47 2 2 := ⟨fun _ _ => by kernel_rfl⟩
instance tp47_2 : TyPart Tryz.prog 47 2 2 1 false := ⟨fun _ _ => by kernel_rfl⟩
instance tf47_3 : TyFld Tryz.prog 47 3 3 := ⟨fun _ _ => by kernel_rfl⟩
instance tp47_3 : TyPart Tryz.prog 47 3 3 2 true := ⟨fun _ _ => by kernel_rfl⟩
instance tf47_4 : TyFld Tryz.prog 47 4 5 := ⟨fun _ _ => by kernel_rfl⟩
instance tp47_4 : TyPart Tryz.prog 47 4 5 1 false := ⟨fun _ _ => by kernel_rfl⟩
instance tf47_5 : TyFld Tryz.prog 47 5 6 := ⟨fun _ _ => by kernel_rfl⟩
instance tp47_5 : TyPart Tryz.prog 47 5 6 1 false := ⟨fun _ _ => by kernel_rfl⟩
instance tf47_6 : TyFld Tryz.prog 47 6 7 := ⟨fun _ _ => by kernel_rfl⟩
instance tp47_6 : TyPart Tryz.prog 47 6 7 1 false := ⟨fun _ _ => by kernel_rfl⟩
instance ty48 : Ty Tryz.prog 48 8 true := ⟨by kernel_rfl, by kernel_rfl⟩
instance tz48 : TyZ Tryz.prog 48 [.int .i64 0, .int .i64 0, .int .i64 0, .int .i64 0, .int .i64 0, .string ⟨#[]⟩, .int .i64 0, .bool false] := ⟨by kernel_rfl⟩
instance tby48 : TyBy Tryz.prog 48 72 := ⟨by kernel_rfl⟩
instance tss48 : TyS Tryz.prog 48 [(0, 1), (1, 1), (2, 1), (3, 2), (5, 1), (6, 1), (7, 1)] := ⟨by kernel_rfl, by kernel_rfl⟩
instance tf48_0 : TyFld Tryz.prog 48 0 0 := ⟨fun _ _ => by kernel_rfl⟩
instance tp48_0 : TyPart Tryz.prog 48 0 0 1 false := ⟨fun _ _ => by kernel_rfl⟩
instance tf48_1 : TyFld Tryz.prog 48 1 1 := ⟨fun _ _ => by kernel_rfl⟩
instance tp48_1 : TyPart Tryz.prog 48 1 1 1 false := ⟨fun _ _ => by kernel_rfl⟩
instance tf48_2 : TyFld Tryz.prog 48 2 2 := ⟨fun _ _ => by kernel_rfl⟩
instance tp48_2 : TyPart Tryz.prog 48 2 2 1 false := ⟨fun _ _ => by kernel_rfl⟩
instance tf48_3 : TyFld Tryz.prog 48 3 3 := ⟨fun _ _ => by kernel_rfl⟩
instance tp48_3 : TyPart Tryz.prog 48 3 3 2 true := ⟨fun _ _ => by kernel_rfl⟩
instance tf48_4 : TyFld Tryz.prog 48 4 5 := ⟨fun _ _ => by kernel_rfl⟩
instance tp48_4 : TyPart Tryz.prog 48 4 5 1 false := ⟨fun _ _ => by kernel_rfl⟩
instance tf48_5 : TyFld Tryz.prog 48 5 6 := ⟨fun _ _ => by kernel_rfl⟩
instance tp48_5 : TyPart Tryz.prog 48 5 6 1 false := ⟨fun _ _ => by kernel_rfl⟩
instance tf48_6 : TyFld Tryz.prog 48 6 7 := ⟨fun _ _ => by kernel_rfl⟩
instance tp48_6 : TyPart Tryz.prog 48 6 7 1 false := ⟨fun _ _ => by kernel_rfl⟩
instance ty50 : Ty Tryz.prog 50 1 false := ⟨by kernel_rfl, by kernel_rfl⟩
instance tz50 : TyZ Tryz.prog 50 [.nilFunc] := ⟨by kernel_rfl⟩
instance tby50 : TyBy Tryz.prog 50 8 := ⟨by kernel_rfl⟩
instance ty51 : Ty Tryz.prog 51 1 false := ⟨by kernel_rfl, by kernel_rfl⟩
instance tz51 : TyZ Tryz.prog 51 [.nilFunc] := ⟨by kernel_rfl⟩
instance tby51 : TyBy Tryz.prog 51 8 := ⟨by kernel_rfl⟩
instance ty52 : Ty Tryz.prog 52 1 false := ⟨by kernel_rfl, by kernel_rfl⟩
instance tz52 : TyZ Tryz.prog 52 [.slice none 0 0] := ⟨by kernel_rfl⟩
instance tby52 : TyBy Tryz.prog 52 24 := ⟨by kernel_rfl⟩
instance tsl52 : TySl Tryz.prog 52 9 1 := ⟨by kernel_rfl, by kernel_rfl⟩
instance ty54 : Ty Tryz.prog 54 1 false := ⟨by kernel_rfl, by kernel_rfl⟩
instance tz54 : TyZ Tryz.prog 54 [.nilFunc] := ⟨by kernel_rfl⟩
instance tby54 : TyBy Tryz.prog 54 8 := ⟨by kernel_rfl⟩
instance ty55 : Ty Tryz.prog 55 1 false := ⟨by kernel_rfl, by kernel_rfl⟩
instance tz55 : TyZ Tryz.prog 55 [.nilFunc] := ⟨by kernel_rfl⟩
instance tby55 : TyBy Tryz.prog 55 8 := ⟨by kernel_rfl⟩
instance ty56 : Ty Tryz.prog 56 1 false := ⟨by kernel_rfl, by kernel_rfl⟩
instance tz56 : TyZ Tryz.prog 56 [.nilFunc] := ⟨by kernel_rfl⟩
instance tby56 : TyBy Tryz.prog 56 8 := ⟨by kernel_rfl⟩
instance ty57 : Ty Tryz.prog 57 1 false := ⟨by kernel_rfl, by kernel_rfl⟩
instance tz57 : TyZ Tryz.prog 57 [.nilFunc] := ⟨by kernel_rfl⟩
instance tby57 : TyBy Tryz.prog 57 8 := ⟨by kernel_rfl⟩
instance ty58 : Ty Tryz.prog 58 1 false := ⟨by kernel_rfl, by kernel_rfl⟩
instance tz58 : TyZ Tryz.prog 58 [.pointer none] := ⟨by kernel_rfl⟩
instance tby58 : TyBy Tryz.prog 58 8 := ⟨by kernel_rfl⟩
instance tpt58 : TyPtr Tryz.prog 58 140 := ⟨by kernel_rfl⟩
instance ty59 : Ty Tryz.prog 59 1 false := ⟨by kernel_rfl, by kernel_rfl⟩
instance tz59 : TyZ Tryz.prog 59 [.pointer none] := ⟨by kernel_rfl⟩
instance tby59 : TyBy Tryz.prog 59 8 := ⟨by kernel_rfl⟩
instance tpt59 : TyPtr Tryz.prog 59 137 := ⟨by kernel_rfl⟩
instance ty60 : Ty Tryz.prog 60 1 false := ⟨by kernel_rfl, by kernel_rfl⟩
instance tz60 : TyZ Tryz.prog 60 [.pointer none] := ⟨by kernel_rfl⟩
instance tby60 : TyBy Tryz.prog 60 8 := ⟨by kernel_rfl⟩
instance tpt60 : TyPtr Tryz.prog 60 158 := ⟨by kernel_rfl⟩
instance ty61 : Ty Tryz.prog 61 1 false := ⟨by kernel_rfl, by kernel_rfl⟩
instance tz61 : TyZ Tryz.prog 61 [.pointer none] := ⟨by kernel_rfl⟩
instance tby61 : TyBy Tryz.prog 61 8 := ⟨by kernel_rfl⟩
instance tpt61 : TyPtr Tryz.prog 61 165 := ⟨by kernel_rfl⟩
instance ty62 : Ty Tryz.prog 62 1 false := ⟨by kernel_rfl, by kernel_rfl⟩
instance tz62 : TyZ Tryz.prog 62 [.pointer none] := ⟨by kernel_rfl⟩
instance tby62 : TyBy Tryz.prog 62 8 := ⟨by kernel_rfl⟩
instance tpt62 : TyPtr Tryz.prog 62 173 := ⟨by kernel_rfl⟩
instance ty63 : Ty Tryz.prog 63 1 false := ⟨by kernel_rfl, by kernel_rfl⟩
instance tz63 : TyZ Tryz.prog 63 [.pointer none] := ⟨by kernel_rfl⟩
instance tby63 : TyBy Tryz.prog 63 8 := ⟨by kernel_rfl⟩
instance tpt63 : TyPtr Tryz.prog 63 179 := ⟨by kernel_rfl⟩
instance ty64 : Ty Tryz.prog 64 1 false := ⟨by kernel_rfl, by kernel_rfl⟩
instance tz64 : TyZ Tryz.prog 64 [.pointer none] := ⟨by kernel_rfl⟩
instance tby64 : TyBy Tryz.prog 64 8 := ⟨by kernel_rfl⟩
instance tpt64 : TyPtr Tryz.prog 64 185 := ⟨by kernel_rfl⟩
instance ty65 : Ty Tryz.prog 65 1 false := ⟨by kernel_rfl, by kernel_rfl⟩
instance tz65 : TyZ Tryz.prog 65 [.map none] := ⟨by kernel_rfl⟩
instance tby65 : TyBy Tryz.prog 65 8 := ⟨by kernel_rfl⟩
instance ty66 : Ty Tryz.prog 66 9 true := ⟨by kernel_rfl, by kernel_rfl⟩
instance tz66 : TyZ Tryz.prog 66 [.pointer none, .pointer none, .pointer none, .pointer none, .pointer none, .pointer none, .pointer none, .map none, .slice none 0 0] := ⟨by kernel_rfl⟩
instance tby66 : TyBy Tryz.prog 66 88 := ⟨by kernel_rfl⟩
instance tss66 : TyS Tryz.prog 66 [(0, 1), (1, 1), (2, 1), (3, 1), (4, 1), (5, 1), (6, 1), (7, 1), (8, 1)] := ⟨by kernel_rfl, by kernel_rfl⟩
instance tf66_0 : TyFld Tryz.prog 66 0 0 := ⟨fun _ _ => by kernel_rfl⟩
instance tp66_0 : TyPart Tryz.prog 66 0 0 1 false := ⟨fun _ _ => by kernel_rfl⟩
instance tf66_1 : TyFld Tryz.prog 66 1 1 := ⟨fun _ _ => by kernel_rfl⟩
instance tp66_1 : TyPart Tryz.prog 66 1 1 1 false := ⟨fun _ _ => by kernel_rfl⟩
instance tf66_2 : TyFld Tryz.prog 66 2 2 := ⟨fun _ _ => by kernel_rfl⟩
instance tp66_2 : TyPart Tryz.prog 66 2 2 1 false := ⟨fun _ _ => by kernel_rfl⟩
instance tf66_3 : TyFld Tryz.prog 66 3 3 := ⟨fun _ _ => by kernel_rfl⟩
instance tp66_3 : TyPart Tryz.prog 66 3 3 1 false := ⟨fun _ _ => by kernel_rfl⟩
instance tf66_4 : TyFld Tryz.prog 66 4 4 := ⟨fun _ _ => by kernel_rfl⟩
instance tp66_4 : TyPart Tryz.prog 66 4 4 1 false := ⟨fun _ _ => by kernel_rfl⟩
instance tf66_5 : TyFld Tryz.prog 66 5 5 := ⟨fun _ _ => by kernel_rfl⟩
instance tp66_5 : TyPart Tryz.prog 66 5 5 1 false := ⟨fun _ _ => by kernel_rfl⟩
instance tf66_6 : TyFld Tryz.prog 66 6 6 := ⟨fun _ _ => by kernel_rfl⟩
instance tp66_6 : TyPart Tryz.prog 66 6 6 1 false := ⟨fun _ _ => by kernel_rfl⟩
instance tf66_7 : TyFld Tryz.prog 66 7 7 := ⟨fun _ _ => by kernel_rfl⟩
instance tp66_7 : TyPart Tryz.prog 66 7 7 1 false := ⟨fun _ _ => by kernel_rfl⟩
instance tf66_8 : TyFld Tryz.prog 66 8 8 := ⟨fun _ _ => by kernel_rfl⟩
instance tp66_8 : TyPart Tryz.prog 66 8 8 1 false := ⟨fun _ _ => by kernel_rfl⟩
instance ty67 : Ty Tryz.prog 67 9 true := ⟨by kernel_rfl, by kernel_rfl⟩
instance tz67 : TyZ Tryz.prog 67 [.pointer none, .pointer none, .pointer none, .pointer none, .pointer none, .pointer none, .pointer none, .map none, .slice none 0 0] := ⟨by kernel_rfl⟩
instance tby67 : TyBy Tryz.prog 67 88 := ⟨by kernel_rfl⟩
instance tss67 : TyS Tryz.prog 67 [(0, 1), (1, 1), (2, 1), (3, 1), (4, 1), (5, 1), (6, 1), (7, 1), (8, 1)] := ⟨by kernel_rfl, by kernel_rfl⟩
instance tf67_0 : TyFld Tryz.prog 67 0 0 := ⟨fun _ _ => by kernel_rfl⟩
instance tp67_0 : TyPart Tryz.prog 67 0 0 1 false := ⟨fun _ _ => by kernel_rfl⟩
instance tf67_1 : TyFld Tryz.prog 67 1 1 := ⟨fun _ _ => by kernel_rfl⟩
instance tp67_1 : TyPart Tryz.prog 67 1 1 1 false := ⟨fun _ _ => by kernel_rfl⟩
instance tf67_2 : TyFld Tryz.prog 67 2 2 := ⟨fun _ _ => by kernel_rfl⟩
instance tp67_2 : TyPart Tryz.prog 67 2 2 1 false := ⟨fun _ _ => by kernel_rfl⟩
instance tf67_3 : TyFld Tryz.prog 67 3 3 := ⟨fun _ _ => by kernel_rfl⟩
instance tp67_3 : TyPart Tryz.prog 67 3 3 1 false := ⟨fun _ _ => by kernel_rfl⟩
instance tf67_4 : TyFld Tryz.prog 67 4 4 := ⟨fun _ _ => by kernel_rfl⟩
instance tp67_4 : TyPart Tryz.prog 67 4 4 1 false := ⟨fun _ _ => by kernel_rfl⟩
instance tf67_5 : TyFld Tryz.prog 67 5 5 := ⟨fun _ _ => by kernel_rfl⟩
instance tp67_5 : TyPart Tryz.prog 67 5 5 1 false := ⟨fun _ _ => by kernel_rfl⟩
instance tf67_6 : TyFld Tryz.prog 67 6 6 := ⟨fun _ _ => by kernel_rfl⟩
instance tp67_6 : TyPart Tryz.prog 67 6 6 1 false := ⟨fun _ _ => by kernel_rfl⟩
instance tf67_7 : TyFld Tryz.prog 67 7 7 := ⟨fun _ _ => by kernel_rfl⟩
instance tp67_7 : TyPart Tryz.prog 67 7 7 1 false := ⟨fun _ _ => by kernel_rfl⟩
instance tf67_8 : TyFld Tryz.prog 67 8 8 := ⟨fun _ _ => by kernel_rfl⟩
instance tp67_8 : TyPart Tryz.prog 67 8 8 1 false := ⟨fun _ _ => by kernel_rfl⟩
instance ty68 : Ty Tryz.prog 68 1 false := ⟨by kernel_rfl, by kernel_rfl⟩
instance tz68 : TyZ Tryz.prog 68 [.nilFunc] := ⟨by kernel_rfl⟩
instance tby68 : TyBy Tryz.prog 68 8 := ⟨by kernel_rfl⟩
instance ty69 : Ty Tryz.prog 69 1 false := ⟨by kernel_rfl, by kernel_rfl⟩
instance tz69 : TyZ Tryz.prog 69 [.pointer none] := ⟨by kernel_rfl⟩
instance tby69 : TyBy Tryz.prog 69 8 := ⟨by kernel_rfl⟩
instance tpt69 : TyPtr Tryz.prog 69 81 := ⟨by kernel_rfl⟩
instance ty70 : Ty Tryz.prog 70 1 false := ⟨by kernel_rfl, by kernel_rfl⟩
instance tz70 : TyZ Tryz.prog 70 [.nilFunc] := ⟨by kernel_rfl⟩
instance tby70 : TyBy Tryz.prog 70 8 := ⟨by kernel_rfl⟩
instance ty71 : Ty Tryz.prog 71 1 false := ⟨by kernel_rfl, by kernel_rfl⟩
instance tz71 : TyZ Tryz.prog 71 [.nilFunc] := ⟨by kernel_rfl⟩
instance tby71 : TyBy Tryz.prog 71 8 := ⟨by kernel_rfl⟩
instance ty72 : Ty Tryz.prog 72 1 false := ⟨by kernel_rfl, by kernel_rfl⟩
instance tz72 : TyZ Tryz.prog 72 [.nilIface] := ⟨by kernel_rfl⟩
instance tby72 : TyBy Tryz.prog 72 16 := ⟨by kernel_rfl⟩
instance ty73 : Ty Tryz.prog 73 1 false := ⟨by kernel_rfl, by kernel_rfl⟩
instance tz73 : TyZ Tryz.prog 73 [.nilIface] := ⟨by kernel_rfl⟩
instance tby73 : TyBy Tryz.prog 73 16 := ⟨by kernel_rfl⟩
instance ty74 : Ty Tryz.prog 74 1 false := ⟨by kernel_rfl, by kernel_rfl⟩
instance tz74 : TyZ Tryz.prog 74 [.nilFunc] := ⟨by kernel_rfl⟩
instance tby74 : TyBy Tryz.prog 74 8 := ⟨by kernel_rfl⟩
instance ty76 : Ty Tryz.prog 76 1 false := ⟨by kernel_rfl, by kernel_rfl⟩
instance tz76 : TyZ Tryz.prog 76 [.nilFunc] := ⟨by kernel_rfl⟩
instance tby76 : TyBy Tryz.prog 76 8 := ⟨by kernel_rfl⟩
instance ty77 : Ty Tryz.prog 77 1 false := ⟨by kernel_rfl, by kernel_rfl⟩
instance tz77 : TyZ Tryz.prog 77 [.map none] := ⟨by kernel_rfl⟩
instance tby77 : TyBy Tryz.prog 77 8 := ⟨by kernel_rfl⟩
instance ty78 : Ty Tryz.prog 78 1 false := ⟨by kernel_rfl, by kernel_rfl⟩
instance tz78 : TyZ Tryz.prog 78 [.nilFunc] := ⟨by kernel_rfl⟩
instance tby78 : TyBy Tryz.prog 78 8 := ⟨by kernel_rfl⟩
instance ty79 : Ty Tryz.prog 79 1 false := ⟨by kernel_rfl, by kernel_rfl⟩
instance tz79 : TyZ Tryz.prog 79 [.pointer none] := ⟨by kernel_rfl⟩
instance tby79 : TyBy Tryz.prog 79 8 := ⟨by kernel_rfl⟩
instance tpt79 : TyPtr Tryz.prog 79 88 := ⟨by kernel_rfl⟩
instance ty80 : Ty Tryz.prog 80 13 true := ⟨by kernel_rfl, by kernel_rfl⟩
instance tz80 : TyZ Tryz.prog 80 [.pointer none, .pointer none, .int .i64 0, .int .i64 0, .int .i64 0, .int .i64 0, .int .i64 0, .int .i64 0, .int .i64 0, .int .i64 0, .int .i64 0, .string ⟨#[]⟩, .string ⟨#[]⟩] := ⟨by kernel_rfl⟩
instance tby80 : TyBy Tryz.prog 80 120 := ⟨by kernel_rfl⟩
instance tss80 : TyS Tryz.prog 80 [(0, 1), (1, 1), (2, 1), (3, 2), (5, 7), (12, 1)] := ⟨by kernel_rfl, by kernel_rfl⟩
instance tf80_0 : TyFld Tryz.prog 80 0 0 := ⟨fun _ _ => by kernel_rfl⟩
instance tp80_0 : TyPart Tryz.prog 80 0 0 1 false := ⟨fun _ _ => by kernel_rfl⟩
instance tf80_1 : TyFld Tryz.prog 80 1 1 := ⟨fun _ _ => by kernel_rfl⟩
instance tp80_1 : TyPart Tryz.prog 80 1 1 1 false := ⟨fun _ _ => by kernel_rfl⟩
instance tf80_2 : TyFld Tryz.prog 80 2 2 := ⟨fun _ _ => by kernel_rfl⟩
instance tp80_2 : TyPart Tryz.prog 80 2 2 1 false := ⟨fun _ _ => by kernel_rfl⟩
instance tf80_3 : TyFld Tryz.prog 80 3 3 := ⟨fun _ _ => by kernel_rfl⟩
instance tp80_3 : TyPart Tryz.prog 80 3 3 2 true := ⟨fun _ _ => by kernel_rfl⟩
instance tf80_4 : TyFld Tryz.prog 80 4 5 := ⟨fun _ _ => by kernel_rfl⟩
instance tp80_4 : TyPart Tryz.prog 80 4 5 7 true := ⟨fun _ _ => by kernel_rfl⟩
instance tf80_5 : TyFld Tryz.prog 80 5 12 := ⟨fun _ _ => by kernel_rfl⟩
instance tp80_5 : TyPart Tryz.prog 80 5 12 1 false := ⟨fun _ _ => by kernel_rfl⟩
instance ty81 : Ty Tryz.prog 81 13 true := ⟨by kernel_rfl, by kernel_rfl⟩
instance tz81 : TyZ Tryz.prog 81 [.pointer none, .pointer none, .int .i64 0, .int .i64 0, .int .i64 0, .int .i64 0, .int .i64 0, .int .i64 0, .int .i64 0, .int .i64 0, .int .i64 0, .string ⟨#[]⟩, .string ⟨#[]⟩] := ⟨by kernel_rfl⟩
instance tby81 : TyBy Tryz.prog 81 120 := ⟨by kernel_rfl⟩
instance tss81 : TyS Tryz.prog 81 [(0, 1), (1, 1), (2, 1), (3, 2), (5, 7), (12, 1)] := ⟨by kernel_rfl, by kernel_rfl⟩
instance tf81_0 : TyFld Tryz.prog 81 0 0 := ⟨fun _ _ => by kernel_rfl⟩
instance tp81_0 : TyPart Tryz.prog 81 0 0 1 false := ⟨fun _ _ => by kernel_rfl⟩
instance tf81_1 : TyFld Tryz.prog 81 1 1 := ⟨fun _ _ => by kernel_rfl⟩
instance tp81_1 : TyPart Tryz.prog 81 1 1 1 false := ⟨fun _ _ => by kernel_rfl⟩
instance tf81_2 : TyFld Tryz.prog 81 2 2 := ⟨fun _ _ => by kernel_rfl⟩
instance tp81_2 : TyPart Tryz.prog 81 2 2 1 false := ⟨fun _ _ => by kernel_rfl⟩
instance tf81_3 : TyFld Tryz.prog 81 3 3 := ⟨fun _ _ => by kernel_rfl⟩
instance tp81_3 : TyPart Tryz.prog 81 3 3 2 true := ⟨fun _ _ => by kernel_rfl⟩
instance tf81_4 : TyFld Tryz.prog 81 4 5 := ⟨fun _ _ => by kernel_rfl⟩
instance tp81_4 : TyPart Tryz.prog 81 4 5 7 true := ⟨fun _ _ => by kernel_rfl⟩
instance tf81_5 : TyFld Tryz.prog 81 5 12 := ⟨fun _ _ => by kernel_rfl⟩
instance tp81_5 : TyPart Tryz.prog 81 5 12 1 false := ⟨fun _ _ => by kernel_rfl⟩
instance ty82 : Ty Tryz.prog 82 1 false := ⟨by kernel_rfl, by kernel_rfl⟩
instance tz82 : TyZ Tryz.prog 82 [.slice none 0 0] := ⟨by kernel_rfl⟩
instance tby82 : TyBy Tryz.prog 82 24 := ⟨by kernel_rfl⟩
instance tsl82 : TySl Tryz.prog 82 439 3 := ⟨by kernel_rfl, by kernel_rfl⟩
instance ty83 : Ty Tryz.prog 83 5 true := ⟨by kernel_rfl, by kernel_rfl⟩
instance tz83 : TyZ Tryz.prog 83 [.int .i64 0, .int .i64 0, .int .i64 0, .int .i64 0, .slice none 0 0] := ⟨by kernel_rfl⟩
instance tby83 : TyBy Tryz.prog 83 56 := ⟨by kernel_rfl⟩
instance tss83 : TyS Tryz.prog 83 [(0, 1), (1, 1), (2, 1), (3, 1), (4, 1)] := ⟨by kernel_rfl, by kernel_rfl⟩
instance tf83_0 : TyFld Tryz.prog 83 0 0 := ⟨fun _ _ => by kernel_rfl⟩
instance tp83_0 : TyPart Tryz.prog 83 0 0 1 false := ⟨fun _ _ => by kernel_rfl⟩
instance tf83_1 : TyFld Tryz.prog 83 1 1 := ⟨fun _ _ => by kernel_rfl⟩
instance tp83_1 : TyPart Tryz.prog 83 1 1 1 false := ⟨fun _ _ => by kernel_rfl⟩
instance tf83_2 : TyFld Tryz.prog 83 2 2 := ⟨fun _ _ => by kernel_rfl⟩
instance tp83_2 : TyPart Tryz.prog 83 2 2 1 false := ⟨fun _ _ => by kernel_rfl⟩
instance tf83_3 : TyFld Tryz.prog 83 3 3 := ⟨fun _ _ => by kernel_rfl⟩
instance tp83_3 : TyPart Tryz.prog 83 3 3 1 false := ⟨fun _ _ => by kernel_rfl⟩
instance tf83_4 : TyFld Tryz.prog 83 4 4 := ⟨fun _ _ => by kernel_rfl⟩
instance tp83_4 : TyPart Tryz.prog 83 4 4 1 false := ⟨fun _ _ => by kernel_rfl⟩
instance ty84 : Ty Tryz.prog 84 5 true := ⟨by kernel_rfl, by kernel_rfl⟩
instance tz84 : TyZ Tryz.prog 84 [.int .i64 0, .int .i64 0, .int .i64 0, .int .i64 0, .slice none 0 0] := ⟨by kernel_rfl⟩
instance tby84 : TyBy Tryz.prog 84 56 := ⟨by kernel_rfl⟩
instance tss84 : TyS Tryz.prog 84 [(0, 1), (1, 1), (2, 1), (3, 1), (4, 1)] := ⟨by kernel_rfl, by kernel_rfl⟩
instance tf84_0 : TyFld Tryz.prog 84 0 0 := ⟨fun _ _ => by kernel_rfl⟩
instance tp84_0 : TyPart Tryz.prog 84 0 0 1 false := ⟨fun _ _ => by kernel_rfl⟩
instance tf84_1 : TyFld Tryz.prog 84 1 1 := ⟨fun _ _ => by kernel_rfl⟩
instance tp84_1 : TyPart Tryz.prog 84 1 1 1 false := ⟨fun _ _ => by kernel_rfl⟩
instance tf84_2 : TyFld Tryz.prog 84 2 2 := ⟨fun _ _ => by kernel_rfl⟩
instance tp84_2 : TyPart Tryz.prog 84 2 2 1 false := ⟨fun _ _ => by kernel_rfl⟩
instance tf84_3 : TyFld Tryz.prog 84 3 3 := ⟨fun _ _ => by kernel_rfl⟩
instance tp84_3 : TyPart Tryz.prog 84 3 3 1 false := ⟨fun _ _ => by kernel_rfl⟩
instance tf84_4 : TyFld Tryz.prog 84 4 4 := ⟨fun _ _ => by kernel_rfl⟩
instance tp84_4 : TyPart Tryz.prog 84 4 4 1 false := ⟨fun _ _ => by kernel_rfl⟩
instance ty85 : Ty Tryz.prog 85 1 false := ⟨by kernel_rfl, by kernel_rfl⟩
instance tz85 : TyZ Tryz.prog 85 [.map none] := ⟨by kernel_rfl⟩
instance tby85 : TyBy Tryz.prog 85 8 := ⟨by kernel_rfl⟩
instance ty86 : Ty Tryz.prog 86 1 false := ⟨by kernel_rfl, by kernel_rfl⟩
instance tz86 : TyZ Tryz.prog 86 [.slice none 0 0] := ⟨by kernel_rfl⟩
instance tby86 : TyBy Tryz.prog 86 24 := ⟨by kernel_rfl⟩
instance tsl86 : TySl Tryz.prog 86 487 3 := ⟨by kernel_rfl, by kernel_rfl⟩
instance ty87 : Ty Tryz.prog 87 20 true := ⟨by kernel_rfl, by kernel_rfl⟩
instance tz87 : TyZ Tryz.prog 87 [.int .i64 0, .int .i64 0, .int .i64 0, .int .i64 0, .slice none 0 0, .map none, .slice none 0 0, .int .i64 0, .int .i64 0, .int .i64 0, .string ⟨#[]⟩, .bool false, .int .i64 0, .int .i64 0, .int .i64 0, .int .i64 0, .int .i64 0, .int .i64 0, .string ⟨#[]⟩, .string ⟨#[]⟩] := ⟨by kernel_rfl⟩
instance tby87 : TyBy Tryz.prog 87 216 := ⟨by kernel_rfl⟩
instance tss87 : TyS Tryz.prog 87 [(0, 5), (5, 1), (6, 1), (7, 5), (12, 7), (19, 1)] := ⟨by kernel_rfl, by kernel_rfl⟩
instance tf87_0 : TyFld Tryz.prog 87 0 0 := ⟨fun _ _ => by kernel_rfl⟩
instance tp87_0 : TyPart Tryz.prog 87 0 0 5 true := ⟨fun _ _ => by kernel_rfl⟩
instance tf87_1 : TyFld Tryz.prog 87 1 5 := ⟨fun _ _ => by kernel_rfl⟩
instance tp87_1 : TyPart Tryz.prog 87 1 5 1 false := ⟨fun _ _ => by kernel_rfl⟩
instance tf87_2 : TyFld Tryz.prog 87 2 6 := ⟨fun _ _ => by kernel_rfl⟩
instance tp87_2 : TyPart Tryz.prog 87 2 6 1 false := ⟨fun _ _ => by kernel_rfl⟩
instance tf87_3 : TyFld Tryz.prog 87 3 7 := ⟨fun _ _ => by kernel_rfl⟩
instance tp87_3 : TyPart Tryz.prog 87 3 7 5 true := ⟨fun _ _ => by kernel_rfl⟩
instance tf87_4 : TyFld Tryz.prog 87 4 12 := ⟨fun _ _ => by kernel_rfl⟩
instance tp87_4 : TyPart Tryz.prog 87 4 12 7 true := ⟨fun _ _ => by kernel_rfl⟩
instance tf87_5 : TyFld Tryz.prog 87 5 19 := ⟨fun _ _ => by kernel_rfl⟩
instance tp87_5 : TyPart Tryz.prog 87 5 19 1 false := ⟨fun _ _ => by kernel_rfl⟩
instance ty88 : Ty Tryz.prog 88 20 true := ⟨by kernel_rfl, by kernel_rfl⟩
instance tz88 : TyZ Tryz.prog 88 [.int .i64 0, .int .i64 0, .int .i64 0, .int .i64 0, .slice none 0 0, .map none, .slice none 0 0, .int .i64 0, .int .i64 0, .int .i64 0, .string ⟨#[]⟩, .bool false, .int .i64 0, .int .i64 0, .int .i64 0, .int .i64 0, .int .i64 0, .int .i64 0, .string ⟨#[]⟩, .string ⟨#[]⟩] := ⟨by kernel_rfl⟩
instance tby88 : TyBy Tryz.prog 88 216 := ⟨by kernel_rfl⟩
instance tss88 : TyS Tryz.prog 88 [(0, 5), (5, 1), (6, 1), (7, 5), (12, 7), (19, 1)] := ⟨by kernel_rfl, by kernel_rfl⟩
instance tf88_0 : TyFld Tryz.prog 88 0 0 := ⟨fun _ _ => by kernel_rfl⟩
instance tp88_0 : TyPart Tryz.prog 88 0 0 5 true := ⟨fun _ _ => by kernel_rfl⟩
instance tf88_1 : TyFld Tryz.prog 88 1 5 := ⟨fun _ _ => by kernel_rfl⟩
instance tp88_1 : TyPart Tryz.prog 88 1 5 1 false := ⟨fun _ _ => by kernel_rfl⟩
instance tf88_2 : TyFld Tryz.prog 88 2 6 := ⟨fun _ _ => by kernel_rfl⟩
instance tp88_2 : TyPart Tryz.prog 88 2 6 1 false := ⟨fun _ _ => by kernel_rfl⟩
instance tf88_3 : TyFld Tryz.prog 88 3 7 := ⟨fun _ _ => by kernel_rfl⟩
instance tp88_3 : TyPart Tryz.prog 88 3 7 5 true := ⟨fun _ _ => by kernel_rfl⟩
instance tf88_4 : TyFld Tryz.prog 88 4 12 := ⟨fun _ _ => by kernel_rfl⟩
instance tp88_4 : TyPart Tryz.prog 88 4 12 7 true := ⟨fun _ _ => by kernel_rfl⟩
instance tf88_5 : TyFld Tryz.prog 88 5 19 := ⟨fun _ _ => by kernel_rfl⟩
instance tp88_5 : TyPart Tryz.prog 88 5 19 1 false := ⟨fun _ _ => by kernel_rfl⟩
instance ty89 : Ty Tryz.prog 89 1 false := ⟨by kernel_rfl, by kernel_rfl⟩
instance tz89 : TyZ Tryz.prog 89 [.nilFunc] := ⟨by kernel_rfl⟩
instance tby89 : TyBy Tryz.prog 89 8 := ⟨by kernel_rfl⟩
instance ty90 : Ty Tryz.prog 90 1 false := ⟨by kernel_rfl, by kernel_rfl⟩
instance tz90 : TyZ Tryz.prog 90 [.nilFunc] := ⟨by kernel_rfl⟩
instance tby90 : TyBy Tryz.prog 90 8 := ⟨by kernel_rfl⟩
instance ty92 : Ty Tryz.prog 92 1 false := ⟨by kernel_rfl, by kernel_rfl⟩
instance tz92 : TyZ Tryz.prog 92 [.nilFunc] := ⟨by kernel_rfl⟩
instance tby92 : TyBy Tryz.prog 92 8 := ⟨by kernel_rfl⟩
instance ty94 : Ty Tryz.prog 94 1 false := ⟨by kernel_rfl, by kernel_rfl⟩
instance tz94 : TyZ Tryz.prog 94 [.nilFunc] := ⟨by kernel_rfl⟩
instance tby94 : TyBy Tryz.prog 94 8 := ⟨by kernel_rfl⟩
instance ty95 : Ty Tryz.prog 95 1 false := ⟨by kernel_rfl, by kernel_rfl⟩
instance tz95 : TyZ Tryz.prog 95 [.nilFunc] := ⟨by kernel_rfl⟩
instance tby95 : TyBy Tryz.prog 95 8 := ⟨by kernel_rfl⟩
instance ty96 : Ty Tryz.prog 96 1 false := ⟨by kernel_rfl, by kernel_rfl⟩
instance tz96 : TyZ Tryz.prog 96 [.nilFunc] := ⟨by kernel_rfl⟩
instance tby96 : TyBy Tryz.prog 96 8 := ⟨by kernel_rfl⟩
instance ty97 : Ty Tryz.prog 97 1 false := ⟨by kernel_rfl, by kernel_rfl⟩
instance tz97 : TyZ Tryz.prog 97 [.nilFunc] := ⟨by kernel_rfl⟩
instance tby97 : TyBy Tryz.prog 97 8 := ⟨by kernel_rfl⟩
instance ty98 : Ty Tryz.prog 98 1 false := ⟨by kernel_rfl, by kernel_rfl⟩
instance tz98 : TyZ Tryz.prog 98 [.pointer none] := ⟨by kernel_rfl⟩
instance tby98 : TyBy Tryz.prog 98 8 := ⟨by kernel_rfl⟩
instance tpt98 : TyPtr Tryz.prog 98 384 := ⟨by kernel_rfl⟩
instance ty99 : Ty Tryz.prog 99 1 false := ⟨by kernel_rfl, by kernel_rfl⟩
instance tz99 : TyZ Tryz.prog 99 [.nilFunc] := ⟨by kernel_rfl⟩
instance tby99 : TyBy Tryz.prog 99 8 := ⟨by kernel_rfl⟩
instance ty100 : Ty Tryz.prog 100 1 false := ⟨by kernel_rfl, by kernel_rfl⟩
instance tz100 : TyZ Tryz.prog 100 [.nilFunc] := ⟨by kernel_rfl⟩
instance tby100 : TyBy Tryz.prog 100 8 := ⟨by kernel_rfl⟩
instance ty101 : Ty Tryz.prog 101 1 false := ⟨by kernel_rfl, by kernel_rfl⟩
instance tz101 : TyZ Tryz.prog 101 [.slice none 0 0] := ⟨by kernel_rfl⟩
instance tby101 : TyBy Tryz.prog 101 24 := ⟨by kernel_rfl⟩
instance tsl101 : TySl Tryz.prog 101 272 2 := ⟨by kernel_rfl, by kernel_rfl⟩
instance ty102 : Ty Tryz.prog 102 1 false := ⟨by kernel_rfl, by kernel_rfl⟩
instance tz102 : TyZ Tryz.prog 102 [.nilFunc] := ⟨by kernel_rfl⟩
instance tby102 : TyBy Tryz.prog 102 8 := ⟨by kernel_rfl⟩
instance ty103 : Ty Tryz.prog 103 3 true := ⟨by kernel_rfl, by kernel_rfl⟩
instance tz103 : TyZ Tryz.prog 103 [.slice none 0 0, .int .i64 0, .bool false] := ⟨by kernel_rfl⟩
instance tby103 : TyBy Tryz.prog 103 40 := ⟨by kernel_rfl⟩
instance tss103 : TyS Tryz.prog 103 [(0, 1), (1, 1), (2, 1)] := ⟨by kernel_rfl, by kernel_rfl⟩
instance tf103_0 : TyFld Tryz.prog 103 0 0 := ⟨fun _ _ => by kernel_rfl⟩
instance tp103_0 : TyPart Tryz.prog 103 0 0 1 false := ⟨fun _ _ => by kernel_rfl⟩
instance tf103_1 : TyFld Tryz.prog 103 1 1 := ⟨fun _ _ => by kernel_rfl⟩
instance tp103_1 : TyPart Tryz.prog 103 1 1 1 false := ⟨fun _ _ => by kernel_rfl⟩
instance tf103_2 : TyFld Tryz.prog 103 2 2 := ⟨fun _ _ => by kernel_rfl⟩
instance tp103_2 : TyPart Tryz.prog 103 2 2 1 false := ⟨fun _ _ => by kernel_rfl⟩
instance ty104 : Ty Tryz.prog 104 3 true := ⟨by kernel_rfl, by kernel_rfl⟩
instance tz104 : TyZ Tryz.prog 104 [.slice none 0 0, .int .i64 0, .bool false] := ⟨by kernel_rfl⟩
instance tby104 : TyBy Tryz.prog 104 40 := ⟨by kernel_rfl⟩
instance tss104 : TyS Tryz.prog 104 [(0, 1), (1, 1), (2, 1)] := ⟨by kernel_rfl, by kernel_rfl⟩
instance tf104_0 : TyFld Tryz.prog 104 0 0 := ⟨fun _ _ => by kernel_rfl⟩
instance tp104_0 : TyPart Tryz.prog 104 0 0 1 false := ⟨fun _ _ => by kernel_rfl⟩
instance tf104_1 : TyFld Tryz.prog 104 1 1 := ⟨fun _ _ => by kernel_rfl⟩
instance tp104_1 : TyPart Tryz.prog 104 1 1 1 false := ⟨fun _ _ => by kernel_rfl⟩
instance tf104_2 : TyFld Tryz.prog 104 2 2 := ⟨fun _ _ => by kernel_rfl⟩
instance tp104_2 : TyPart Tryz.prog 104 2 2 1 false := ⟨fun _ _ => by kernel_rfl⟩
instance ty105 : Ty Tryz.prog 105 1 false := ⟨by kernel_rfl, by kernel_rfl⟩
instance tz105 : TyZ Tryz.prog 105 [.nilFunc] := ⟨by kernel_rfl⟩
instance tby105 : TyBy Tryz.prog 105 8 := ⟨by kernel_rfl⟩
instance ty106 : Ty Tryz.prog 106 1 false := ⟨by kernel_rfl, by kernel_rfl⟩
instance tz106 : TyZ Tryz.prog 106 [.slice none 0 0] := ⟨by kernel_rfl⟩
instance tby106 : TyBy Tryz.prog 106 24 := ⟨by kernel_rfl⟩
instance tbs106 : TyBytes Tryz.prog 106 5 := ⟨by kernel_rfl, by kernel_rfl⟩
instance tsl106 : TySl Tryz.prog 106 5 1 := ⟨by kernel_rfl, by kernel_rfl⟩
instance ty108 : Ty Tryz.prog 108 1 false := ⟨by kernel_rfl, by kernel_rfl⟩
instance tz108 : TyZ Tryz.prog 108 [.nilFunc] := ⟨by kernel_rfl⟩
instance tby108 : TyBy Tryz.prog 108 8 := ⟨by kernel_rfl⟩
instance ty109 : Ty Tryz.prog 109 1 false := ⟨by kernel_rfl, by kernel_rfl⟩
instance tz109 : TyZ Tryz.prog 109 [.nilFunc] := ⟨by kernel_rfl⟩
instance tby109 : TyBy Tryz.prog 109 8 := ⟨by kernel_rfl⟩
instance ty110 : Ty Tryz.prog 110 1 false := ⟨by kernel_rfl, by kernel_rfl⟩
instance tz110 : TyZ Tryz.prog 110 [.nilFunc] := ⟨by kernel_rfl⟩
instance tby110 : TyBy Tryz.prog 110 8 := ⟨by kernel_rfl⟩
instance ty111 : Ty Tryz.prog 111 1 false := ⟨by kernel_rfl, by kernel_rfl⟩
instance tz111 : TyZ Tryz.prog 111 [.nilFunc] := ⟨by kernel_rfl⟩
instance tby111 : TyBy Tryz.prog 111 8 := ⟨by kernel_rfl⟩
instance ty112 : Ty Tryz.prog 112 1 false := ⟨by kernel_rfl, by kernel_rfl⟩
instance tz112 : TyZ Tryz.prog 112 [.nilFunc] := ⟨by kernel_rfl⟩
instance tby112 : TyBy Tryz.prog 112 8 := ⟨by kernel_rfl⟩
instance ty113 : Ty Tryz.prog 113 1 false := ⟨by kernel_rfl, by kernel_rfl⟩
instance tz113 : TyZ Tryz.prog 113 [.pointer none] := ⟨by kernel_rfl⟩
instance tby113 : TyBy Tryz.prog 113 8 := ⟨by kernel_rfl⟩
instance tpt113 : TyPtr Tryz.prog 113 48 := ⟨by kernel_rfl⟩
instance ty115 : Ty Tryz.prog 115 1 false := ⟨by kernel_rfl, by kernel_rfl⟩
instance tz115 : TyZ Tryz.prog 115 [.nilFunc] := ⟨by kernel_rfl⟩
instance tby115 : TyBy Tryz.prog 115 8 := ⟨by kernel_rfl⟩
instance ty116 : Ty Tryz.prog 116 1 false := ⟨by kernel_rfl, by kernel_rfl⟩
instance tz116 : TyZ Tryz.prog 116 [.nilFunc] := ⟨by kernel_rfl⟩
instance tby116 : TyBy Tryz.prog 116 8 := ⟨by kernel_rfl⟩
instance ty117 : Ty Tryz.prog 117 1 false := ⟨by kernel_rfl, by kernel_rfl⟩
instance tz117 : TyZ Tryz.prog 117 [.nilFunc] := ⟨by kernel_rfl⟩
instance tby117 : TyBy Tryz.prog 117 8 := ⟨by kernel_rfl⟩
instance ty118 : Ty Tryz.prog 118 1 false := ⟨by kernel_rfl, by kernel_rfl⟩
instance tz118 : TyZ Tryz.prog 118 [.pointer none] := ⟨by kernel_rfl⟩
instance tby118 : TyBy Tryz.prog 118 8 := ⟨by kernel_rfl⟩
instance tpt118 : TyPtr Tryz.prog 118 122 := ⟨by kernel_rfl⟩
instance ty119 : Ty Tryz.prog 119 1 false := ⟨by kernel_rfl, by kernel_rfl⟩
instance tz119 : TyZ Tryz.prog 119 [.nilFunc] := ⟨by kernel_rfl⟩
instance tby119 : TyBy Tryz.prog 119 8 := ⟨by kernel_rfl⟩
instance ty120 : Ty Tryz.prog 120 1 false := ⟨by kernel_rfl, by kernel_rfl⟩
instance tz120 : TyZ Tryz.prog 120 [.pointer none] := ⟨by kernel_rfl⟩
instance tby120 : TyBy Tryz.prog 120 8 := ⟨by kernel_rfl⟩
instance tpt120 : TyPtr Tryz.prog 120 118 := ⟨by kernel_rfl⟩
instance ty121 : Ty Tryz.prog 121 2 true := ⟨by kernel_rfl, by kernel_rfl⟩
instance tz121 : TyZ Tryz.prog 121 [.int .i64 0, .bool false] := ⟨by kernel_rfl⟩
instance tby121 : TyBy Tryz.prog 121 16 := ⟨by kernel_rfl⟩
instance tss121 : TyS Tryz.prog 121 [(0, 1), (1, 1)] := ⟨by kernel_rfl, by kernel_rfl⟩
instance tf121_0 : TyFld Tryz.prog 121 0 0 := ⟨fun _ _ => by kernel_rfl⟩
instance tp121_0 : TyPart Tryz.prog 121 0 0 1 false := ⟨fun _ _ => by kernel_rfl⟩
instance tf121_1 : TyFld Tryz.prog 121 1 1 := ⟨fun _ _ => by kernel_rfl⟩
instance tp121_1 : TyPart Tryz.prog 121 1 1 1 false := ⟨fun _ _ => by kernel_rfl⟩
instance ty122 : Ty Tryz.prog 122 2 true := ⟨by kernel_rfl, by kernel_rfl⟩
instance tz122 : TyZ Tryz.prog 122 [.int .i64 0, .bool false] := ⟨by kernel_rfl⟩
instance tby122 : TyBy Tryz.prog 122 16 := ⟨by kernel_rfl⟩
instance tss122 : TyS Tryz.prog 122 [(0, 1), (1, 1)] := ⟨by kernel_rfl, by kernel_rfl⟩
instance tf122_0 : TyFld Tryz.prog 122 0 0 := ⟨fun _ _ => by kernel_rfl⟩
instance tp122_0 : TyPart Tryz.prog 122 0 0 1 false := ⟨fun _ _ => by kernel_rfl⟩
instance tf122_1 : TyFld Tryz.prog 122 1 1 := ⟨fun _ _ => by kernel_rfl⟩
instance tp122_1 : TyPart Tryz.prog 122 1 1 1 false := ⟨fun _ _ => by kernel_rfl⟩
instance tes122 : TyEqS Tryz.prog 122 [.int .i64, .bool] := ⟨by kernel_rfl, by kernel_rfl, by kernel_rfl, by kernel_rfl⟩
instance ty124 : Ty Tryz.prog 124 1 false := ⟨by kernel_rfl, by kernel_rfl⟩
instance tz124 : TyZ Tryz.prog 124 [.nilFunc] := ⟨by kernel_rfl⟩
instance tby124 : TyBy Tryz.prog 124 8 := ⟨by kernel_rfl⟩
instance ty125 : Ty Tryz.prog 125 1 false := ⟨by kernel_rfl, by kernel_rfl⟩
instance tz125 : TyZ Tryz.prog 125 [.nilFunc] := ⟨by kernel_rfl⟩
instance tby125 : TyBy Tryz.prog 125 8 := ⟨by kernel_rfl⟩
instance ty127 : Ty Tryz.prog 127 1 false := ⟨by kernel_rfl, by kernel_rfl⟩
instance tz127 : TyZ Tryz.prog 127 [.nilFunc] := ⟨by kernel_rfl⟩
instance tby127 : TyBy Tryz.prog 127 8 := ⟨by kernel_rfl⟩
instance ty128 : Ty Tryz.prog 128 1 false := ⟨by kernel_rfl, by kernel_rfl⟩
instance tz128 : TyZ Tryz.prog 128 [.nilFunc] := ⟨by kernel_rfl⟩
instance tby128 : TyBy Tryz.prog 128 8 := ⟨by kernel_rfl⟩
instance ty129 : Ty Tryz.prog 129 1 false := ⟨by kernel_rfl, by kernel_rfl⟩
instance tz129 : TyZ Tryz.prog 129 [.nilFunc] := ⟨by kernel_rfl⟩
instance tby129 : TyBy Tryz.prog 129 8 := ⟨by kernel_rfl⟩
instance ty130 : Ty Tryz.prog 130 1 false := ⟨by kernel_rfl, by kernel_rfl⟩
instance tz130 : TyZ Tryz.prog 130 [.nilFunc] := ⟨by kernel_rfl⟩
instance tby130 : TyBy Tryz.prog 130 8 := ⟨by kernel_rfl⟩
instance ty131 : Ty Tryz.prog 131 1 false := ⟨by kernel_rfl, by kernel_rfl⟩
instance tz131 : TyZ Tryz.prog 131 [.nilFunc] := ⟨by kernel_rfl⟩
instance tby131 : TyBy Tryz.prog 131 8 := ⟨by kernel_rfl⟩
instance ty132 : Ty Tryz.prog 132 1 false := ⟨by kernel_rfl, by kernel_rfl⟩
instance tz132 : TyZ Tryz.prog 132 [.nilFunc] := ⟨by kernel_rfl⟩
instance tby132 : TyBy Tryz.prog 132 8 := ⟨by kernel_rfl⟩
instance ty133 : Ty Tryz.prog 133 1 false := ⟨by kernel_rfl, by kernel_rfl⟩
instance tz133 : TyZ Tryz.prog 133 [.nilFunc] := ⟨by kernel_rfl⟩
instance tby133 : TyBy Tryz.prog 133 8 := ⟨by kernel_rfl⟩
instance ty134 : Ty Tryz.prog 134 1 false := ⟨by kernel_rfl, by kernel_rfl⟩
instance tz134 : TyZ Tryz.prog 134 [.nilFunc] := ⟨by kernel_rfl⟩
instance tby134 : TyBy Tryz.prog 134 8 := ⟨by kernel_rfl⟩
instance ty135 : Ty Tryz.prog 135 1 false := ⟨by kernel_rfl, by kernel_rfl⟩
instance tz135 : TyZ Tryz.prog 135 [.map none] := ⟨by kernel_rfl⟩
instance tby135 : TyBy Tryz.prog 135 8 := ⟨by kernel_rfl⟩
instance ty136 : Ty Tryz.prog 136 2 true := ⟨by kernel_rfl, by kernel_rfl⟩
instance tz136 : TyZ Tryz.prog 136 [.map none, .int .i64 0] := ⟨by kernel_rfl⟩
instance tby136 : TyBy Tryz.prog 136 16 := ⟨by kernel_rfl⟩
instance tss136 : TyS Tryz.prog 136 [(0, 1), (1, 1)] := ⟨by kernel_rfl, by kernel_rfl⟩
instance tf136_0 : TyFld Tryz.prog 136 0 0 := ⟨fun _ _ => by kernel_rfl⟩
instance tp136_0 : TyPart Tryz.prog 136 0 0 1 false := ⟨fun _ _ => by kernel_rfl⟩
instance tf136_1 : TyFld Tryz.prog 136 1 1 := ⟨fun _ _ => by kernel_rfl⟩
instance tp136_1 : TyPart Tryz.prog 136 1 1 1 false := ⟨fun _ _ => by kernel_rfl⟩
instance ty137 : Ty Tryz.prog 137 2 true := ⟨by kernel_rfl, by kernel_rfl⟩
instance tz137 : TyZ Tryz.prog 137 [.map none, .int .i64 0] := ⟨by kernel_rfl⟩
instance tby137 : TyBy Tryz.prog 137 16 := ⟨by kernel_rfl⟩
instance tss137 : TyS Tryz.prog 137 [(0, 1), (1, 1)] := ⟨by kernel_rfl, by kernel_rfl⟩
instance tf137_0 : TyFld Tryz.prog 137 0 0 := ⟨fun _ _ => by kernel_rfl⟩
instance tp137_0 : TyPart Tryz.prog 137 0 0 1 false := ⟨fun _ _ => by kernel_rfl⟩
instance tf137_1 : TyFld Tryz.prog 137 1 1 := ⟨fun _ _ => by kernel_rfl⟩
instance tp137_1 : TyPart Tryz.prog 137 1 1 1 false := ⟨fun _ _ => by kernel_rfl⟩
instance ty138 : Ty Tryz.prog 138 1 false := ⟨by kernel_rfl, by kernel_rfl⟩
instance tz138 : TyZ Tryz.prog 138 [.slice none 0 0] := ⟨by kernel_rfl⟩
instance tby138 : TyBy Tryz.prog 138 24 := ⟨by kernel_rfl⟩
instance tsl138 : TySl Tryz.prog 138 193 65 := ⟨by kernel_rfl, by kernel_rfl⟩
instance ty139 : Ty Tryz.prog 139 1 true := ⟨by kernel_rfl, by kernel_rfl⟩
instance tz139 : TyZ Tryz.prog 139 [.slice none 0 0] := ⟨by kernel_rfl⟩
instance tby139 : TyBy Tryz.prog 139 24 := ⟨by kernel_rfl⟩
instance tss139 : TyS Tryz.prog 139 [(0, 1)] := ⟨by kernel_rfl, by kernel_rfl⟩
instance tf139_0 : TyFld Tryz.prog 139 0 0 := ⟨fun _ _ => by kernel_rfl⟩
instance tp139_0 : TyPart Tryz.prog 139 0 0 1 false := ⟨fun _ _ => by kernel_rfl⟩
instance ty140 : Ty Tryz.prog 140 1 true := ⟨by kernel_rfl, by kernel_rfl⟩
instance tz140 : TyZ Tryz.prog 140 [.slice none 0 0] := ⟨by kernel_rfl⟩
instance tby140 : TyBy Tryz.prog 140 24 := ⟨by kernel_rfl⟩
instance tss140 : TyS Tryz.prog 140 [(0, 1)] := ⟨by kernel_rfl, by kernel_rfl⟩
instance tf140_0 : TyFld Tryz.prog 140 0 0 := ⟨fun _ _ => by kernel_rfl⟩
instance tp140_0 : TyPart Tryz.prog 140 0 0 1 false := ⟨fun _ _ => by kernel_rfl⟩
instance ty141 : Ty Tryz.prog 141 1 false := ⟨by kernel_rfl, by kernel_rfl⟩
instance tz141 : TyZ Tryz.prog 141 [.pointer none] := ⟨by kernel_rfl⟩
instance tby141 : TyBy Tryz.prog 141 8 := ⟨by kernel_rfl⟩
instance tpt141 : TyPtr Tryz.prog 141 148 := ⟨by kernel_rfl⟩
instance ty143 : Ty Tryz.prog 143 1 false := ⟨by kernel_rfl, by kernel_rfl⟩
instance tz143 : TyZ Tryz.prog 143 [.nilFunc] := ⟨by kernel_rfl⟩
instance tby143 : TyBy Tryz.prog 143 8 := ⟨by kernel_rfl⟩
instance ty144 : Ty Tryz.prog 144 1 false := ⟨by kernel_rfl, by kernel_rfl⟩
instance tz144 : TyZ Tryz.prog 144 [.nilFunc] := ⟨by kernel_rfl⟩
instance tby144 : TyBy Tryz.prog 144 8 := ⟨by kernel_rfl⟩
instance ty145 : Ty Tryz.prog 145 1 false := ⟨by kernel_rfl, by kernel_rfl⟩
instance tz145 : TyZ Tryz.prog 145 [.pointer none] := ⟨by kernel_rfl⟩
instance tby145 : TyBy Tryz.prog 145 8 := ⟨by kernel_rfl⟩
instance tpt145 : TyPtr Tryz.prog 145 29 := ⟨by kernel_rfl⟩
instance ty146 : Ty Tryz.prog 146 1 false := ⟨by kernel_rfl, by kernel_rfl⟩
instance tz146 : TyZ Tryz.prog 146 [.slice none 0 0] := ⟨by kernel_rfl⟩
instance tby146 : TyBy Tryz.prog 146 24 := ⟨by kernel_rfl⟩
instance tsl146 : TySl Tryz.prog 146 1 1 := ⟨by kernel_rfl, by kernel_rfl⟩
instance ty147 : Ty Tryz.prog 147 3 true := ⟨by kernel_rfl, by kernel_rfl⟩
instance tz147 : TyZ Tryz.prog 147 [.pointer none, .int .i64 0, .slice none 0 0] := ⟨by kernel_rfl⟩
instance tby147 : TyBy Tryz.prog 147 40 := ⟨by kernel_rfl⟩
instance tss147 : TyS Tryz.prog 147 [(0, 1), (1, 1), (2, 1)] := ⟨by kernel_rfl, by kernel_rfl⟩
instance tf147_0 : TyFld Tryz.prog 147 0 0 := ⟨fun _ _ => by kernel_rfl⟩
instance tp147_0 : TyPart Tryz.prog 147 0 0 1 false := ⟨fun _ _ => by kernel_rfl⟩
instance tf147_1 : TyFld Tryz.prog 147 1 1 := ⟨fun _ _ => by kernel_rfl⟩
instance tp147_1 : TyPart Tryz.prog 147 1 1 1 false := ⟨fun _ _ => by kernel_rfl⟩
instance tf147_2 : TyFld Tryz.prog 147 2 2 := ⟨fun _ _ => by kernel_rfl⟩
instance tp147_2 : TyPart Tryz.prog 147 2 2 1 false := ⟨fun _ _ => by kernel_rfl⟩
instance ty148 : Ty Tryz.prog 148 3 true := ⟨by kernel_rfl, by kernel_rfl⟩
instance tz148 : TyZ Tryz.prog 148 [.pointer none, .int .i64 0, .slice none 0 0] := ⟨by kernel_rfl⟩
instance tby148 : TyBy Tryz.prog 148 40 := ⟨by kernel_rfl⟩
instance tss148 : TyS Tryz.prog 148 [(0, 1), (1, 1), (2, 1)] := ⟨by kernel_rfl, by kernel_rfl⟩
instance tf148_0 : TyFld Tryz.prog 148 0 0 := ⟨fun _ _ => by kernel_rfl⟩
instance tp148_0 : TyPart Tryz.prog 148 0 0 1 false := ⟨fun _ _ => by kernel_rfl⟩
instance tf148_1 : TyFld Tryz.prog 148 1 1 := ⟨fun _ _ => by kernel_rfl⟩
instance tp148_1 : TyPart Tryz.prog 148 1 1 1 false := ⟨fun _ _ => by kernel_rfl⟩
instance tf148_2 : TyFld Tryz.prog 148 2 2 := ⟨fun _ _ => by kernel_rfl⟩
instance tp148_2 : TyPart Tryz.prog 148 2 2 1 false := ⟨fun _ _ => by kernel_rfl⟩
instance ty149 : Ty Tryz.prog 149 1 false := ⟨by kernel_rfl, by kernel_rfl⟩
instance tz149 : TyZ Tryz.prog 149 [.nilFunc] := ⟨by kernel_rfl⟩
instance tby149 : TyBy Tryz.prog 149 8 := ⟨by kernel_rfl⟩
instance ty150 : Ty Tryz.prog 150 2 true := ⟨by kernel_rfl, by kernel_rfl⟩
instance tz150 : TyZ Tryz.prog 150 [.string ⟨#[]⟩, .int .i64 0] := ⟨by kernel_rfl⟩
instance tby150 : TyBy Tryz.prog 150 24 := ⟨by kernel_rfl⟩
instance tss150 : TyS Tryz.prog 150 [(0, 1), (1, 1)] := ⟨by kernel_rfl, by kernel_rfl⟩
instance tf150_0 : TyFld Tryz.prog 150 0 0 := ⟨fun _ _ => by kernel_rfl⟩
instance tp150_0 : TyPart Tryz.prog 150 0 0 1 false := ⟨fun _ _ => by kernel_rfl⟩
instance tf150_1 : TyFld Tryz.prog 150 1 1 := ⟨fun _ _ => by kernel_rfl⟩
instance tp150_1 : TyPart Tryz.prog 150 1 1 1 false := ⟨fun _ _ => by kernel_rfl⟩
instance ty151 : Ty Tryz.prog 151 1 false := ⟨by kernel_rfl, by kernel_rfl⟩
instance tz151 : TyZ Tryz.prog 151 [.slice none 0 0] := ⟨by kernel_rfl⟩
instance tby151 : TyBy Tryz.prog 151 24 := ⟨by kernel_rfl⟩
instance tsl151 : TySl Tryz.prog 151 150 2 := ⟨by kernel_rfl, by kernel_rfl⟩
instance ty152 : Ty Tryz.prog 152 1 false := ⟨by kernel_rfl, by kernel_rfl⟩
instance tz152 : TyZ Tryz.prog 152 [.nilFunc] := ⟨by kernel_rfl⟩
instance tby152 : TyBy Tryz.prog 152 8 := ⟨by kernel_rfl⟩
instance ty153 : Ty Tryz.prog 153 1 false := ⟨by kernel_rfl, by kernel_rfl⟩
instance tz153 : TyZ Tryz.prog 153 [.nilFunc] := ⟨by kernel_rfl⟩
instance tby153 : TyBy Tryz.prog 153 8 := ⟨by kernel_rfl⟩
instance ty154 : Ty Tryz.prog 154 1 false := ⟨by kernel_rfl, by kernel_rfl⟩
instance tz154 : TyZ Tryz.prog 154 [.nilFunc] := ⟨by kernel_rfl⟩
instance tby154 : TyBy Tryz.prog 154 8 := ⟨by kernel_rfl⟩
instance ty155 : Ty Tryz.prog 155 1 false := ⟨by kernel_rfl, by kernel_rfl⟩
instance tz155 : TyZ Tryz.prog 155 [.nilFunc] := ⟨by kernel_rfl⟩
instance tby155 : TyBy Tryz.prog 155 8 := ⟨by kernel_rfl⟩
instance ty156 : Ty Tryz.prog 156 1 false := ⟨by kernel_rfl, by kernel_rfl⟩
instance tz156 : TyZ Tryz.prog 156 [.map none] := ⟨by kernel_rfl⟩
instance tby156 : TyBy Tryz.prog 156 8 := ⟨by kernel_rfl⟩
instance ty157 : Ty Tryz.prog 157 2 true := ⟨by kernel_rfl, by kernel_rfl⟩
instance tz157 : TyZ Tryz.prog 157 [.map none, .int .i64 0] := ⟨by kernel_rfl⟩
instance tby157 : TyBy Tryz.prog 157 16 := ⟨by kernel_rfl⟩
instance tss157 : TyS Tryz.prog 157 [(0, 1), (1, 1)] := ⟨by kernel_rfl, by kernel_rfl⟩
instance tf157_0 : TyFld Tryz.prog 157 0 0 := ⟨fun _ _ => by kernel_rfl⟩
instance tp157_0 : TyPart Tryz.prog 157 0 0 1 false := ⟨fun _ _ => by kernel_rfl⟩
instance tf157_1 : TyFld Tryz.prog 157 1 1 := ⟨fun _ _ => by kernel_rfl⟩
instance tp157_1 : TyPart Tryz.prog 157 1 1 1 false := ⟨fun _ _ => by kernel_rfl⟩
instance ty158 : Ty Tryz.prog 158 2 true := ⟨by kernel_rfl, by kernel_rfl⟩
instance tz158 : TyZ Tryz.prog 158 [.map none, .int .i64 0] := ⟨by kernel_rfl⟩
instance tby158 : TyBy Tryz.prog 158 16 := ⟨by kernel_rfl⟩
instance tss158 : TyS Tryz.prog 158 [(0, 1), (1, 1)] := ⟨by kernel_rfl, by kernel_rfl⟩
instance tf158_0 : TyFld Tryz.prog 158 0 0 := ⟨fun _ _ => by kernel_rfl⟩
instance tp158_0 : TyPart Tryz.prog 158 0 0 1 false := ⟨fun _ _ => by kernel_rfl⟩
instance tf158_1 : TyFld Tryz.prog 158 1 1 := ⟨fun _ _ => by kernel_rfl⟩
instance tp158_1 : TyPart Tryz.prog 158 1 1 1 false := ⟨fun _ _ => by kernel_rfl⟩
instance ty159 : Ty Tryz.prog 159 1 true := ⟨by kernel_rfl, by kernel_rfl⟩
instance tz159 : TyZ Tryz.prog 159 [.int .i64 0] := ⟨by kernel_rfl⟩
instance tby159 : TyBy Tryz.prog 159 8 := ⟨by kernel_rfl⟩
end Go.Proofs.YtcpfmjlceoiofaaGreatDoor
