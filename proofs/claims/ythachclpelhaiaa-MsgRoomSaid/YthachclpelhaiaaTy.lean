/- facts on types and functions, written by a program (gen_ty.py) off the translation -/
import Derived.Test.YthachclpelhaiaaE10
import Derived.Test.YthachclpelhaiaaProg
import Derived.KernelRfl
import Derived.Shelf.Abstract
namespace Go.Proofs.Ythachclpelhaiaa
open Go.RowKit Go.Shelf
instance mixed : Mixed Try.prog := ⟨by kernel_rfl⟩
instance ty1 : Ty Try.prog 1 1 false := ⟨by kernel_rfl, by kernel_rfl⟩
instance tz1 : TyZ Try.prog 1 [.nilFunc] := ⟨by kernel_rfl⟩
instance tby1 : TyBy Try.prog 1 8 := ⟨by kernel_rfl⟩
instance ty2 : Ty Try.prog 2 1 false := ⟨by kernel_rfl, by kernel_rfl⟩
instance tz2 : TyZ Try.prog 2 [.int .i64 0] := ⟨by kernel_rfl⟩
instance tby2 : TyBy Try.prog 2 8 := ⟨by kernel_rfl⟩
instance tin2 : TyInt Try.prog 2 .i64 := ⟨by kernel_rfl⟩
instance ty3 : Ty Try.prog 3 1 false := ⟨by kernel_rfl, by kernel_rfl⟩
instance tz3 : TyZ Try.prog 3 [.int .i64 0] := ⟨by kernel_rfl⟩
instance tby3 : TyBy Try.prog 3 8 := ⟨by kernel_rfl⟩
instance tin3 : TyInt Try.prog 3 .i64 := ⟨by kernel_rfl⟩
instance ty4 : Ty Try.prog 4 1 false := ⟨by kernel_rfl, by kernel_rfl⟩
instance tz4 : TyZ Try.prog 4 [.bool false] := ⟨by kernel_rfl⟩
instance tby4 : TyBy Try.prog 4 1 := ⟨by kernel_rfl⟩
instance tbo4 : TyBool Try.prog 4 := ⟨by kernel_rfl⟩
instance ty5 : Ty Try.prog 5 1 false := ⟨by kernel_rfl, by kernel_rfl⟩
instance tz5 : TyZ Try.prog 5 [.int .u8 0] := ⟨by kernel_rfl⟩
instance tby5 : TyBy Try.prog 5 1 := ⟨by kernel_rfl⟩
instance tin5 : TyInt Try.prog 5 .u8 := ⟨by kernel_rfl⟩
instance ty6 : Ty Try.prog 6 1 false := ⟨by kernel_rfl, by kernel_rfl⟩
instance tz6 : TyZ Try.prog 6 [.int .u8 0] := ⟨by kernel_rfl⟩
instance tby6 : TyBy Try.prog 6 1 := ⟨by kernel_rfl⟩
instance tin6 : TyInt Try.prog 6 .u8 := ⟨by kernel_rfl⟩
instance ty7 : Ty Try.prog 7 4 true := ⟨by kernel_rfl, by kernel_rfl⟩
instance tz7 : TyZ Try.prog 7 [.int .i64 0, .int .i64 0, .bool false, .int .u8 0] := ⟨by kernel_rfl⟩
instance tby7 : TyBy Try.prog 7 24 := ⟨by kernel_rfl⟩
instance tss7 : TyS Try.prog 7 [(0, 1), (1, 1), (2, 1), (3, 1)] := ⟨by kernel_rfl, by kernel_rfl⟩
instance tf7_0 : TyFld Try.prog 7 0 0 := ⟨fun _ _ => by kernel_rfl⟩
instance tp7_0 : TyPart Try.prog 7 0 0 1 false := ⟨fun _ _ => by kernel_rfl⟩
instance tf7_1 : TyFld Try.prog 7 1 1 := ⟨fun _ _ => by kernel_rfl⟩
instance tp7_1 : TyPart Try.prog 7 1 1 1 false := ⟨fun _ _ => by kernel_rfl⟩
instance tf7_2 : TyFld Try.prog 7 2 2 := ⟨fun _ _ => by kernel_rfl⟩
instance tp7_2 : TyPart Try.prog 7 2 2 1 false := ⟨fun _ _ => by kernel_rfl⟩
instance tf7_3 : TyFld Try.prog 7 3 3 := ⟨fun _ _ => by kernel_rfl⟩
instance tp7_3 : TyPart Try.prog 7 3 3 1 false := ⟨fun _ _ => by kernel_rfl⟩
instance ty8 : Ty Try.prog 8 4 true := ⟨by kernel_rfl, by kernel_rfl⟩
instance tz8 : TyZ Try.prog 8 [.int .i64 0, .int .i64 0, .bool false, .int .u8 0] := ⟨by kernel_rfl⟩
instance tby8 : TyBy Try.prog 8 24 := ⟨by kernel_rfl⟩
instance tss8 : TyS Try.prog 8 [(0, 1), (1, 1), (2, 1), (3, 1)] := ⟨by kernel_rfl, by kernel_rfl⟩
instance tf8_0 : TyFld Try.prog 8 0 0 := ⟨fun _ _ => by kernel_rfl⟩
instance tp8_0 : TyPart Try.prog 8 0 0 1 false := ⟨fun _ _ => by kernel_rfl⟩
instance tf8_1 : TyFld Try.prog 8 1 1 := ⟨fun _ _ => by kernel_rfl⟩
instance tp8_1 : TyPart Try.prog 8 1 1 1 false := ⟨fun _ _ => by kernel_rfl⟩
instance tf8_2 : TyFld Try.prog 8 2 2 := ⟨fun _ _ => by kernel_rfl⟩
instance tp8_2 : TyPart Try.prog 8 2 2 1 false := ⟨fun _ _ => by kernel_rfl⟩
instance tf8_3 : TyFld Try.prog 8 3 3 := ⟨fun _ _ => by kernel_rfl⟩
instance tp8_3 : TyPart Try.prog 8 3 3 1 false := ⟨fun _ _ => by kernel_rfl⟩
instance ty9 : Ty Try.prog 9 1 false := ⟨by kernel_rfl, by kernel_rfl⟩
instance tz9 : TyZ Try.prog 9 [.string ⟨#[]⟩] := ⟨by kernel_rfl⟩
instance tby9 : TyBy Try.prog 9 16 := ⟨by kernel_rfl⟩
instance tst9 : TyStr Try.prog 9 := ⟨by kernel_rfl⟩
instance ty10 : Ty Try.prog 10 1 false := ⟨by kernel_rfl, by kernel_rfl⟩
instance tz10 : TyZ Try.prog 10 [.string ⟨#[]⟩] := ⟨by kernel_rfl⟩
instance tby10 : TyBy Try.prog 10 16 := ⟨by kernel_rfl⟩
instance tst10 : TyStr Try.prog 10 := ⟨by kernel_rfl⟩
instance ty11 : Ty Try.prog 11 1 false := ⟨by kernel_rfl, by kernel_rfl⟩
instance tz11 : TyZ Try.prog 11 [.string ⟨#[]⟩] := ⟨by kernel_rfl⟩
instance tby11 : TyBy Try.prog 11 16 := ⟨by kernel_rfl⟩
instance tst11 : TyStr Try.prog 11 := ⟨by kernel_rfl⟩
instance ty12 : Ty Try.prog 12 1 false := ⟨by kernel_rfl, by kernel_rfl⟩
instance tz12 : TyZ Try.prog 12 [.int .u64 0] := ⟨by kernel_rfl⟩
instance tby12 : TyBy Try.prog 12 8 := ⟨by kernel_rfl⟩
instance tin12 : TyInt Try.prog 12 .u64 := ⟨by kernel_rfl⟩
instance ty13 : Ty Try.prog 13 2 true := ⟨by kernel_rfl, by kernel_rfl⟩
instance tz13 : TyZ Try.prog 13 [.string ⟨#[]⟩, .int .u64 0] := ⟨by kernel_rfl⟩
instance tby13 : TyBy Try.prog 13 24 := ⟨by kernel_rfl⟩
instance tss13 : TyS Try.prog 13 [(0, 1), (1, 1)] := ⟨by kernel_rfl, by kernel_rfl⟩
instance tf13_0 : TyFld Try.prog 13 0 0 := ⟨fun _ _ => by kernel_rfl⟩
instance tp13_0 : TyPart Try.prog 13 0 0 1 false := ⟨fun _ _ => by kernel_rfl⟩
instance tf13_1 : TyFld Try.prog 13 1 1 := ⟨fun _ _ => by kernel_rfl⟩
instance tp13_1 : TyPart Try.prog 13 1 1 1 false := ⟨fun _ _ => by kernel_rfl⟩
instance ty14 : Ty Try.prog 14 2 true := ⟨by kernel_rfl, by kernel_rfl⟩
instance tz14 : TyZ Try.prog 14 [.string ⟨#[]⟩, .int .u64 0] := ⟨by kernel_rfl⟩
instance tby14 : TyBy Try.prog 14 24 := ⟨by kernel_rfl⟩
instance tss14 : TyS Try.prog 14 [(0, 1), (1, 1)] := ⟨by kernel_rfl, by kernel_rfl⟩
instance tf14_0 : TyFld Try.prog 14 0 0 := ⟨fun _ _ => by kernel_rfl⟩
instance tp14_0 : TyPart Try.prog 14 0 0 1 false := ⟨fun _ _ => by kernel_rfl⟩
instance tf14_1 : TyFld Try.prog 14 1 1 := ⟨fun _ _ => by kernel_rfl⟩
instance tp14_1 : TyPart Try.prog 14 1 1 1 false := ⟨fun _ _ => by kernel_rfl⟩
instance ty15 : Ty Try.prog 15 1 false := ⟨by kernel_rfl, by kernel_rfl⟩
instance tz15 : TyZ Try.prog 15 [.pointer none] := ⟨by kernel_rfl⟩
instance tby15 : TyBy Try.prog 15 8 := ⟨by kernel_rfl⟩
instance tpt15 : TyPtr Try.prog 15 57 := ⟨by kernel_rfl⟩
instance ty16 : Ty Try.prog 16 1 false := ⟨by kernel_rfl, by kernel_rfl⟩
instance tz16 : TyZ Try.prog 16 [.pointer none] := ⟨by kernel_rfl⟩
instance tby16 : TyBy Try.prog 16 8 := ⟨by kernel_rfl⟩
instance tpt16 : TyPtr Try.prog 16 60 := ⟨by kernel_rfl⟩
instance ty17 : Ty Try.prog 17 1 false := ⟨by kernel_rfl, by kernel_rfl⟩
instance tz17 : TyZ Try.prog 17 [.pointer none] := ⟨by kernel_rfl⟩
instance tby17 : TyBy Try.prog 17 8 := ⟨by kernel_rfl⟩
instance tpt17 : TyPtr Try.prog 17 70 := ⟨by kernel_rfl⟩
instance ty18 : Ty Try.prog 18 1 true := ⟨by kernel_rfl, by kernel_rfl⟩
instance tz18 : TyZ Try.prog 18 [.pointer none] := ⟨by kernel_rfl⟩
instance tby18 : TyBy Try.prog 18 8 := ⟨by kernel_rfl⟩
instance tss18 : TyS Try.prog 18 [(0, 1)] := ⟨by kernel_rfl, by kernel_rfl⟩
instance tf18_0 : TyFld Try.prog 18 0 0 := ⟨fun _ _ => by kernel_rfl⟩
instance tp18_0 : TyPart Try.prog 18 0 0 1 false := ⟨fun _ _ => by kernel_rfl⟩
instance ty19 : Ty Try.prog 19 1 true := ⟨by kernel_rfl, by kernel_rfl⟩
instance tz19 : TyZ Try.prog 19 [.pointer none] := ⟨by kernel_rfl⟩
instance tby19 : TyBy Try.prog 19 8 := ⟨by kernel_rfl⟩
instance tss19 : TyS Try.prog 19 [(0, 1)] := ⟨by kernel_rfl, by kernel_rfl⟩
instance tf19_0 : TyFld Try.prog 19 0 0 := ⟨fun _ _ => by kernel_rfl⟩
instance tp19_0 : TyPart Try.prog 19 0 0 1 false := ⟨fun _ _ => by kernel_rfl⟩
instance ty20 : Ty Try.prog 20 1 false := ⟨by kernel_rfl, by kernel_rfl⟩
instance tz20 : TyZ Try.prog 20 [.nilIface] := ⟨by kernel_rfl⟩
instance tby20 : TyBy Try.prog 20 16 := ⟨by kernel_rfl⟩
instance ty21 : Ty Try.prog 21 1 false := ⟨by kernel_rfl, by kernel_rfl⟩
instance tz21 : TyZ Try.prog 21 [.int .i32 0] := ⟨by kernel_rfl⟩
instance tby21 : TyBy Try.prog 21 4 := ⟨by kernel_rfl⟩
instance tin21 : TyInt Try.prog 21 .i32 := ⟨by kernel_rfl⟩
instance ty22 : Ty Try.prog 22 1 false := ⟨by kernel_rfl, by kernel_rfl⟩
instance tz22 : TyZ Try.prog 22 [.slice none 0 0] := ⟨by kernel_rfl⟩
instance tby22 : TyBy Try.prog 22 24 := ⟨by kernel_rfl⟩
instance tsl22 : TySl Try.prog 22 29 2 := ⟨by kernel_rfl, by kernel_rfl⟩
instance ty23 : Ty Try.prog 23 1 false := ⟨by kernel_rfl, by kernel_rfl⟩
instance tz23 : TyZ Try.prog 23 [.nilFunc] := ⟨by kernel_rfl⟩
instance tby23 : TyBy Try.prog 23 8 := ⟨by kernel_rfl⟩
instance ty24 : Ty Try.prog 24 1 false := ⟨by kernel_rfl, by kernel_rfl⟩
instance tz24 : TyZ Try.prog 24 [.nilFunc] := ⟨by kernel_rfl⟩
instance tby24 : TyBy Try.prog 24 8 := ⟨by kernel_rfl⟩
instance ty25 : Ty Try.prog 25 1 false := ⟨by kernel_rfl, by kernel_rfl⟩
instance tz25 : TyZ Try.prog 25 [.int .i64 0] := ⟨by kernel_rfl⟩
instance tby25 : TyBy Try.prog 25 8 := ⟨by kernel_rfl⟩
instance tin25 : TyInt Try.prog 25 .i64 := ⟨by kernel_rfl⟩
instance ty27 : Ty Try.prog 27 1 false := ⟨by kernel_rfl, by kernel_rfl⟩
instance tz27 : TyZ Try.prog 27 [.nilFunc] := ⟨by kernel_rfl⟩
instance tby27 : TyBy Try.prog 27 8 := ⟨by kernel_rfl⟩
instance ty28 : Ty Try.prog 28 2 true := ⟨by kernel_rfl, by kernel_rfl⟩
instance tz28 : TyZ Try.prog 28 [.int .i64 0, .string ⟨#[]⟩] := ⟨by kernel_rfl⟩
instance tby28 : TyBy Try.prog 28 24 := ⟨by kernel_rfl⟩
instance tss28 : TyS Try.prog 28 [(0, 1), (1, 1)] := ⟨by kernel_rfl, by kernel_rfl⟩
instance tf28_0 : TyFld Try.prog 28 0 0 := ⟨fun _ _ => by kernel_rfl⟩
instance tp28_0 : TyPart Try.prog 28 0 0 1 false := ⟨fun _ _ => by kernel_rfl⟩
instance tf28_1 : TyFld Try.prog 28 1 1 := ⟨fun _ _ => by kernel_rfl⟩
instance tp28_1 : TyPart Try.prog 28 1 1 1 false := ⟨fun _ _ => by kernel_rfl⟩
instance ty29 : Ty Try.prog 29 2 true := ⟨by kernel_rfl, by kernel_rfl⟩
instance tz29 : TyZ Try.prog 29 [.int .i64 0, .string ⟨#[]⟩] := ⟨by kernel_rfl⟩
instance tby29 : TyBy Try.prog 29 24 := ⟨by kernel_rfl⟩
instance tss29 : TyS Try.prog 29 [(0, 1), (1, 1)] := ⟨by kernel_rfl, by kernel_rfl⟩
instance tf29_0 : TyFld Try.prog 29 0 0 := ⟨fun _ _ => by kernel_rfl⟩
instance tp29_0 : TyPart Try.prog 29 0 0 1 false := ⟨fun _ _ => by kernel_rfl⟩
instance tf29_1 : TyFld Try.prog 29 1 1 := ⟨fun _ _ => by kernel_rfl⟩
instance tp29_1 : TyPart Try.prog 29 1 1 1 false := ⟨fun _ _ => by kernel_rfl⟩
instance tes29 : TyEqS Try.prog 29 [.int .i64, .str] := ⟨by kernel_rfl, by kernel_rfl, by kernel_rfl, by kernel_rfl⟩
instance ty31 : Ty Try.prog 31 1 false := ⟨by kernel_rfl, by kernel_rfl⟩
instance tz31 : TyZ Try.prog 31 [.nilFunc] := ⟨by kernel_rfl⟩
instance tby31 : TyBy Try.prog 31 8 := ⟨by kernel_rfl⟩
instance ty32 : Ty Try.prog 32 1 false := ⟨by kernel_rfl, by kernel_rfl⟩
instance tz32 : TyZ Try.prog 32 [.nilFunc] := ⟨by kernel_rfl⟩
instance tby32 : TyBy Try.prog 32 8 := ⟨by kernel_rfl⟩
instance ty33 : Ty Try.prog 33 1 false := ⟨by kernel_rfl, by kernel_rfl⟩
instance tz33 : TyZ Try.prog 33 [.nilFunc] := ⟨by kernel_rfl⟩
instance tby33 : TyBy Try.prog 33 8 := ⟨by kernel_rfl⟩
instance ty34 : Ty Try.prog 34 1 false := ⟨by kernel_rfl, by kernel_rfl⟩
instance tz34 : TyZ Try.prog 34 [.nilFunc] := ⟨by kernel_rfl⟩
instance tby34 : TyBy Try.prog 34 8 := ⟨by kernel_rfl⟩
instance ty35 : Ty Try.prog 35 1 false := ⟨by kernel_rfl, by kernel_rfl⟩
instance tz35 : TyZ Try.prog 35 [.nilFunc] := ⟨by kernel_rfl⟩
instance tby35 : TyBy Try.prog 35 8 := ⟨by kernel_rfl⟩
instance ty36 : Ty Try.prog 36 1 false := ⟨by kernel_rfl, by kernel_rfl⟩
instance tz36 : TyZ Try.prog 36 [.nilFunc] := ⟨by kernel_rfl⟩
instance tby36 : TyBy Try.prog 36 8 := ⟨by kernel_rfl⟩
instance ty37 : Ty Try.prog 37 1 false := ⟨by kernel_rfl, by kernel_rfl⟩
instance tz37 : TyZ Try.prog 37 [.slice none 0 0] := ⟨by kernel_rfl⟩
instance tby37 : TyBy Try.prog 37 24 := ⟨by kernel_rfl⟩
instance tbs37 : TyBytes Try.prog 37 5 := ⟨by kernel_rfl, by kernel_rfl⟩
instance tsl37 : TySl Try.prog 37 5 1 := ⟨by kernel_rfl, by kernel_rfl⟩
instance ty38 : Ty Try.prog 38 1 false := ⟨by kernel_rfl, by kernel_rfl⟩
instance tz38 : TyZ Try.prog 38 [.nilFunc] := ⟨by kernel_rfl⟩
instance tby38 : TyBy Try.prog 38 8 := ⟨by kernel_rfl⟩
instance ty39 : Ty Try.prog 39 1 false := ⟨by kernel_rfl, by kernel_rfl⟩
instance tz39 : TyZ Try.prog 39 [.nilFunc] := ⟨by kernel_rfl⟩
instance tby39 : TyBy Try.prog 39 8 := ⟨by kernel_rfl⟩
instance ty40 : Ty Try.prog 40 1 false := ⟨by kernel_rfl, by kernel_rfl⟩
instance tz40 : TyZ Try.prog 40 [.nilFunc] := ⟨by kernel_rfl⟩
instance tby40 : TyBy Try.prog 40 8 := ⟨by kernel_rfl⟩
instance ty41 : Ty Try.prog 41 1 false := ⟨by kernel_rfl, by kernel_rfl⟩
instance tz41 : TyZ Try.prog 41 [.nilFunc] := ⟨by kernel_rfl⟩
instance tby41 : TyBy Try.prog 41 8 := ⟨by kernel_rfl⟩
instance ty42 : Ty Try.prog 42 1 false := ⟨by kernel_rfl, by kernel_rfl⟩
instance tz42 : TyZ Try.prog 42 [.nilFunc] := ⟨by kernel_rfl⟩
instance tby42 : TyBy Try.prog 42 8 := ⟨by kernel_rfl⟩
instance ty43 : Ty Try.prog 43 1 false := ⟨by kernel_rfl, by kernel_rfl⟩
instance tz43 : TyZ Try.prog 43 [.nilFunc] := ⟨by kernel_rfl⟩
instance tby43 : TyBy Try.prog 43 8 := ⟨by kernel_rfl⟩
instance ty45 : Ty Try.prog 45 1 false := ⟨by kernel_rfl, by kernel_rfl⟩
instance tz45 : TyZ Try.prog 45 [.nilFunc] := ⟨by kernel_rfl⟩
instance tby45 : TyBy Try.prog 45 8 := ⟨by kernel_rfl⟩
instance ty46 : Ty Try.prog 46 1 false := ⟨by kernel_rfl, by kernel_rfl⟩
instance tz46 : TyZ Try.prog 46 [.slice none 0 0] := ⟨by kernel_rfl⟩
instance tby46 : TyBy Try.prog 46 24 := ⟨by kernel_rfl⟩
instance tsl46 : TySl Try.prog 46 9 1 := ⟨by kernel_rfl, by kernel_rfl⟩
instance ty47 : Ty Try.prog 47 1 false := ⟨by kernel_rfl, by kernel_rfl⟩
instance tz47 : TyZ Try.prog 47 [.nilFunc] := ⟨by kernel_rfl⟩
instance tby47 : TyBy Try.prog 47 8 := ⟨by kernel_rfl⟩
instance ty48 : Ty Try.prog 48 1 false := ⟨by kernel_rfl, by kernel_rfl⟩
instance tz48 : TyZ Try.prog 48 [.nilFunc] := ⟨by kernel_rfl⟩
instance tby48 : TyBy Try.prog 48 8 := ⟨by kernel_rfl⟩
instance ty49 : Ty Try.prog 49 1 false := ⟨by kernel_rfl, by kernel_rfl⟩
instance tz49 : TyZ Try.prog 49 [.nilFunc] := ⟨by kernel_rfl⟩
instance tby49 : TyBy Try.prog 49 8 := ⟨by kernel_rfl⟩
instance ty50 : Ty Try.prog 50 1 false := ⟨by kernel_rfl, by kernel_rfl⟩
instance tz50 : TyZ Try.prog 50 [.nilFunc] := ⟨by kernel_rfl⟩
instance tby50 : TyBy Try.prog 50 8 := ⟨by kernel_rfl⟩
instance ty51 : Ty Try.prog 51 1 false := ⟨by kernel_rfl, by kernel_rfl⟩
instance tz51 : TyZ Try.prog 51 [.nilFunc] := ⟨by kernel_rfl⟩
instance tby51 : TyBy Try.prog 51 8 := ⟨by kernel_rfl⟩
instance ty52 : Ty Try.prog 52 1 false := ⟨by kernel_rfl, by kernel_rfl⟩
instance tz52 : TyZ Try.prog 52 [.nilFunc] := ⟨by kernel_rfl⟩
instance tby52 : TyBy Try.prog 52 8 := ⟨by kernel_rfl⟩
instance ty53 : Ty Try.prog 53 1 false := ⟨by kernel_rfl, by kernel_rfl⟩
instance tz53 : TyZ Try.prog 53 [.nilFunc] := ⟨by kernel_rfl⟩
instance tby53 : TyBy Try.prog 53 8 := ⟨by kernel_rfl⟩
instance ty54 : Ty Try.prog 54 1 false := ⟨by kernel_rfl, by kernel_rfl⟩
instance tz54 : TyZ Try.prog 54 [.nilFunc] := ⟨by kernel_rfl⟩
instance tby54 : TyBy Try.prog 54 8 := ⟨by kernel_rfl⟩
instance ty55 : Ty Try.prog 55 1 false := ⟨by kernel_rfl, by kernel_rfl⟩
instance tz55 : TyZ Try.prog 55 [.nilFunc] := ⟨by kernel_rfl⟩
instance tby55 : TyBy Try.prog 55 8 := ⟨by kernel_rfl⟩
instance ty56 : Ty Try.prog 56 4 true := ⟨by kernel_rfl, by kernel_rfl⟩
instance tz56 : TyZ Try.prog 56 [.pointer none, .pointer none, .pointer none, .string ⟨#[]⟩] := ⟨by kernel_rfl⟩
instance tby56 : TyBy Try.prog 56 40 := ⟨by kernel_rfl⟩
instance tss56 : TyS Try.prog 56 [(0, 1), (1, 1), (2, 1), (3, 1)] := ⟨by kernel_rfl, by kernel_rfl⟩
instance tf56_0 : TyFld Try.prog 56 0 0 := ⟨fun _ _ => by kernel_rfl⟩
instance tp56_0 : TyPart Try.prog 56 0 0 1 false := ⟨fun _ _ => by kernel_rfl⟩
instance tf56_1 : TyFld Try.prog 56 1 1 := ⟨fun _ _ => by kernel_rfl⟩
instance tp56_1 : TyPart Try.prog 56 1 1 1 false := ⟨fun _ _ => by kernel_rfl⟩
instance tf56_2 : TyFld Try.prog 56 2 2 := ⟨fun _ _ => by kernel_rfl⟩
instance tp56_2 : TyPart Try.prog 56 2 2 1 false := ⟨fun _ _ => by kernel_rfl⟩
instance tf56_3 : TyFld Try.prog 56 3 3 := ⟨fun _ _ => by kernel_rfl⟩
instance tp56_3 : TyPart Try.prog 56 3 3 1 false := ⟨fun _ _ => by kernel_rfl⟩
instance ty57 : Ty Try.prog 57 4 true := ⟨by kernel_rfl, by kernel_rfl⟩
instance tz57 : TyZ Try.prog 57 [.pointer none, .pointer none, .pointer none, .string ⟨#[]⟩] := ⟨by kernel_rfl⟩
instance tby57 : TyBy Try.prog 57 40 := ⟨by kernel_rfl⟩
instance tss57 : TyS Try.prog 57 [(0, 1), (1, 1), (2, 1), (3, 1)] := ⟨by kernel_rfl, by kernel_rfl⟩
instance tf57_0 : TyFld Try.prog 57 0 0 := ⟨fun _ _ => by kernel_rfl⟩
instance tp57_0 : TyPart Try.prog 57 0 0 1 false := ⟨fun _ _ => by kernel_rfl⟩
instance tf57_1 : TyFld Try.prog 57 1 1 := ⟨fun _ _ => by kernel_rfl⟩
instance tp57_1 : TyPart Try.prog 57 1 1 1 false := ⟨fun _ _ => by kernel_rfl⟩
instance tf57_2 : TyFld Try.prog 57 2 2 := ⟨fun _ _ => by kernel_rfl⟩
instance tp57_2 : TyPart Try.prog 57 2 2 1 false := ⟨fun _ _ => by kernel_rfl⟩
instance tf57_3 : TyFld Try.prog 57 3 3 := ⟨fun _ _ => by kernel_rfl⟩
instance tp57_3 : TyPart Try.prog 57 3 3 1 false := ⟨fun _ _ => by kernel_rfl⟩
instance ty58 : Ty Try.prog 58 0 true := ⟨by kernel_rfl, by kernel_rfl⟩
instance tz58 : TyZ Try.prog 58 [] := ⟨by kernel_rfl⟩
instance tby58 : TyBy Try.prog 58 0 := ⟨by kernel_rfl⟩
instance tar58 : TyArr Try.prog 58 0 16 1 := ⟨by kernel_rfl, by kernel_rfl⟩
instance ty59 : Ty Try.prog 59 0 true := ⟨by kernel_rfl, by kernel_rfl⟩
instance tz59 : TyZ Try.prog 59 [] := ⟨by kernel_rfl⟩
instance tby59 : TyBy Try.prog 59 0 := ⟨by kernel_rfl⟩
instance tss59 : TyS Try.prog 59 [(0, 0)] := ⟨by kernel_rfl, by kernel_rfl⟩
instance ty60 : Ty Try.prog 60 0 true := ⟨by kernel_rfl, by kernel_rfl⟩
instance tz60 : TyZ Try.prog 60 [] := ⟨by kernel_rfl⟩
instance tby60 : TyBy Try.prog 60 0 := ⟨by kernel_rfl⟩
instance tss60 : TyS Try.prog 60 [(0, 0)] := ⟨by kernel_rfl, by kernel_rfl⟩
instance ty61 : Ty Try.prog 61 1 false := ⟨by kernel_rfl, by kernel_rfl⟩
instance tz61 : TyZ Try.prog 61 [.nilFunc] := ⟨by kernel_rfl⟩
instance tby61 : TyBy Try.prog 61 8 := ⟨by kernel_rfl⟩
instance ty62 : Ty Try.prog 62 1 false := ⟨by kernel_rfl, by kernel_rfl⟩
instance tz62 : TyZ Try.prog 62 [.int .u32 0] := ⟨by kernel_rfl⟩
instance tby62 : TyBy Try.prog 62 4 := ⟨by kernel_rfl⟩
instance tin62 : TyInt Try.prog 62 .u32 := ⟨by kernel_rfl⟩
instance ty63 : Ty Try.prog 63 1 false := ⟨by kernel_rfl, by kernel_rfl⟩
instance tz63 : TyZ Try.prog 63 [.int .u8 0] := ⟨by kernel_rfl⟩
instance tby63 : TyBy Try.prog 63 1 := ⟨by kernel_rfl⟩
instance tin63 : TyInt Try.prog 63 .u8 := ⟨by kernel_rfl⟩
instance ty64 : Ty Try.prog 64 1 false := ⟨by kernel_rfl, by kernel_rfl⟩
instance tz64 : TyZ Try.prog 64 [.int .u8 0] := ⟨by kernel_rfl⟩
instance tby64 : TyBy Try.prog 64 1 := ⟨by kernel_rfl⟩
instance tin64 : TyInt Try.prog 64 .u8 := ⟨by kernel_rfl⟩
instance ty65 : Ty Try.prog 65 1 false := ⟨by kernel_rfl, by kernel_rfl⟩
instance tz65 : TyZ Try.prog 65 [.nilFunc] := ⟨by kernel_rfl⟩
instance tby65 : TyBy Try.prog 65 8 := ⟨by kernel_rfl⟩
instance ty66 : Ty Try.prog 66 1 false := ⟨by kernel_rfl, by kernel_rfl⟩
instance tz66 : TyZ Try.prog 66 [.pointer none] := ⟨by kernel_rfl⟩
instance tby66 : TyBy Try.prog 66 8 := ⟨by kernel_rfl⟩
instance tpt66 : TyPtr Try.prog 66 5 := ⟨by kernel_rfl⟩
instance ty67 : Ty Try.prog 67 1 false := ⟨by kernel_rfl, by kernel_rfl⟩
instance tz67 : TyZ Try.prog 67 [.int .i32 0] := ⟨by kernel_rfl⟩
instance tby67 : TyBy Try.prog 67 4 := ⟨by kernel_rfl⟩
instance tin67 : TyInt Try.prog 67 .i32 := ⟨by kernel_rfl⟩
instance ty68 : Ty Try.prog 68 1 false := ⟨by kernel_rfl, by kernel_rfl⟩
instance tz68 : TyZ Try.prog 68 [.int .i32 0] := ⟨by kernel_rfl⟩
instance tby68 : TyBy Try.prog 68 4 := ⟨by kernel_rfl⟩
instance tin68 : TyInt Try.prog 68 .i32 := ⟨by kernel_rfl⟩
instance ty69 : Ty Try.prog 69 11 true := ⟨by kernel_rfl, by kernel_rfl⟩
instance tz69 : TyZ Try.prog 69 [.int .u64 0, .int .u64 0, .int .u32 0, .int .u8 0, .int .u8 0, .int .u8 0, .int .u8 0, .nilFunc, .pointer none, .int .i32 0, .int .i32 0] := ⟨by kernel_rfl⟩
instance tby69 : TyBy Try.prog 69 48 := ⟨by kernel_rfl⟩
instance tss69 : TyS Try.prog 69 [(0, 1), (1, 1), (2, 1), (3, 1), (4, 1), (5, 1), (6, 1), (7, 1), (8, 1), (9, 1), (10, 1)] := ⟨by kernel_rfl, by kernel_rfl⟩
instance tf69_0 : TyFld Try.prog 69 0 0 := ⟨fun _ _ => by kernel_rfl⟩
instance tp69_0 : TyPart Try.prog 69 0 0 1 false := ⟨fun _ _ => by kernel_rfl⟩
instance tf69_1 : TyFld Try.prog 69 1 1 := ⟨fun _ _ => by kernel_rfl⟩
instance tp69_1 : TyPart Try.prog 69 1 1 1 false := ⟨fun _ _ => by kernel_rfl⟩
instance tf69_2 : TyFld Try.prog 69 2 2 := ⟨fun _ _ => by kernel_rfl⟩
instance tp69_2 : TyPart Try.prog 69 2 2 1 false := ⟨fun _ _ => by kernel_rfl⟩
instance tf69_3 : TyFld Try.prog 69 3 3 := ⟨fun _ _ => by kernel_rfl⟩
instance tp69_3 : TyPart Try.prog 69 3 3 1 false := ⟨fun _ _ => by kernel_rfl⟩
instance tf69_4 : TyFld Try.prog 69 4 4 := ⟨fun _ _ => by kernel_rfl⟩
instance tp69_4 : TyPart Try.prog 69 4 4 1 false := ⟨fun _ _ => by kernel_rfl⟩
instance tf69_5 : TyFld Try.prog 69 5 5 := ⟨fun _ _ => by kernel_rfl⟩
instance tp69_5 : TyPart Try.prog 69 5 5 1 false := ⟨fun _ _ => by kernel_rfl⟩
instance tf69_6 : TyFld Try.prog 69 6 6 := ⟨fun _ _ => by kernel_rfl⟩
instance tp69_6 : TyPart Try.prog 69 6 6 1 false := ⟨fun _ _ => by kernel_rfl⟩
instance tf69_7 : TyFld Try.prog 69 7 7 := ⟨fun _ _ => by kernel_rfl⟩
instance tp69_7 : TyPart Try.prog 69 7 7 1 false := ⟨fun _ _ => by kernel_rfl⟩
instance tf69_8 : TyFld Try.prog 69 8 8 := ⟨fun _ _ => by kernel_rfl⟩
instance tp69_8 : TyPart Try.prog 69 8 8 1 false := ⟨fun _ _ => by kernel_rfl⟩
instance tf69_9 : TyFld Try.prog 69 9 9 := ⟨fun _ _ => by kernel_rfl⟩
instance tp69_9 : TyPart Try.prog 69 9 9 1 false := ⟨fun _ _ => by kernel_rfl⟩
instance tf69_10 : TyFld Try.prog 69 10 10 := ⟨fun _ _ => by kernel_rfl⟩
instance tp69_10 : TyPart Try.prog 69 10 10 1 false := ⟨fun _ _ => by kernel_rfl⟩
instance ty70 : Ty Try.prog 70 11 true := ⟨by kernel_rfl, by kernel_rfl⟩
instance tz70 : TyZ Try.prog 70 [.int .u64 0, .int .u64 0, .int .u32 0, .int .u8 0, .int .u8 0, .int .u8 0, .int .u8 0, .nilFunc, .pointer none, .int .i32 0, .int .i32 0] := ⟨by kernel_rfl⟩
instance tby70 : TyBy Try.prog 70 48 := ⟨by kernel_rfl⟩
instance tss70 : TyS Try.prog 70 [(0, 1), (1, 1), (2, 1), (3, 1), (4, 1), (5, 1), (6, 1), (7, 1), (8, 1), (9, 1), (10, 1)] := ⟨by kernel_rfl, by kernel_rfl⟩
instance tf70_0 : TyFld Try.prog 70 0 0 := ⟨fun _ _ => by kernel_rfl⟩
instance tp70_0 : TyPart Try.prog 70 0 0 1 false := ⟨fun _ _ => by kernel_rfl⟩
instance tf70_1 : TyFld Try.prog 70 1 1 := ⟨fun _ _ => by kernel_rfl⟩
instance tp70_1 : TyPart Try.prog 70 1 1 1 false := ⟨fun _ _ => by kernel_rfl⟩
instance tf70_2 : TyFld Try.prog 70 2 2 := ⟨fun _ _ => by kernel_rfl⟩
instance tp70_2 : TyPart Try.prog 70 2 2 1 false := ⟨fun _ _ => by kernel_rfl⟩
instance tf70_3 : TyFld Try.prog 70 3 3 := ⟨fun _ _ => by kernel_rfl⟩
instance tp70_3 : TyPart Try.prog 70 3 3 1 false := ⟨fun _ _ => by kernel_rfl⟩
instance tf70_4 : TyFld Try.prog 70 4 4 := ⟨fun _ _ => by kernel_rfl⟩
instance tp70_4 : TyPart Try.prog 70 4 4 1 false := ⟨fun _ _ => by kernel_rfl⟩
instance tf70_5 : TyFld Try.prog 70 5 5 := ⟨fun _ _ => by kernel_rfl⟩
instance tp70_5 : TyPart Try.prog 70 5 5 1 false := ⟨fun _ _ => by kernel_rfl⟩
instance tf70_6 : TyFld Try.prog 70 6 6 := ⟨fun _ _ => by kernel_rfl⟩
instance tp70_6 : TyPart Try.prog 70 6 6 1 false := ⟨fun _ _ => by kernel_rfl⟩
instance tf70_7 : TyFld Try.prog 70 7 7 := ⟨fun _ _ => by kernel_rfl⟩
instance tp70_7 : TyPart Try.prog 70 7 7 1 false := ⟨fun _ _ => by kernel_rfl⟩
instance tf70_8 : TyFld Try.prog 70 8 8 := ⟨fun _ _ => by kernel_rfl⟩
instance tp70_8 : TyPart Try.prog 70 8 8 1 false := ⟨fun _ _ => by kernel_rfl⟩
instance tf70_9 : TyFld Try.prog 70 9 9 := ⟨fun _ _ => by kernel_rfl⟩
instance tp70_9 : TyPart Try.prog 70 9 9 1 false := ⟨fun _ _ => by kernel_rfl⟩
instance tf70_10 : TyFld Try.prog 70 10 10 := ⟨fun _ _ => by kernel_rfl⟩
instance tp70_10 : TyPart Try.prog 70 10 10 1 false := ⟨fun _ _ => by kernel_rfl⟩
instance ty71 : Ty Try.prog 71 1 false := ⟨by kernel_rfl, by kernel_rfl⟩
instance tz71 : TyZ Try.prog 71 [.pointer none] := ⟨by kernel_rfl⟩
instance tby71 : TyBy Try.prog 71 8 := ⟨by kernel_rfl⟩
instance fok3 : FnOk Try.prog 3 := ⟨fun a w => enters_of Try.func3 (by kernel_rfl) rfl a w⟩
instance fok4 : FnOk Try.prog 4 := ⟨fun a w => enters_of Try.func4 (by kernel_rfl) rfl a w⟩
instance fok5 : FnOk Try.prog 5 := ⟨fun a w => enters_of Try.func5 (by kernel_rfl) rfl a w⟩
instance fok6 : FnOk Try.prog 6 := ⟨fun a w => enters_of Try.func6 (by kernel_rfl) rfl a w⟩
instance fok7 : FnOk Try.prog 7 := ⟨fun a w => enters_of Try.func7 (by kernel_rfl) rfl a w⟩
instance fok8 : FnOk Try.prog 8 := ⟨fun a w => enters_of Try.func8 (by kernel_rfl) rfl a w⟩
instance fok9 : FnOk Try.prog 9 := ⟨fun a w => enters_of Try.func9 (by kernel_rfl) rfl a w⟩
instance fok10 : FnOk Try.prog 10 := ⟨fun a w => enters_of Try.func10 (by kernel_rfl) rfl a w⟩
instance fok11 : FnOk Try.prog 11 := ⟨fun a w => enters_of Try.func11 (by kernel_rfl) rfl a w⟩
instance fok12 : FnOk Try.prog 12 := ⟨fun a w => enters_of Try.func12 (by kernel_rfl) rfl a w⟩
instance fok13 : FnOk Try.prog 13 := ⟨fun a w => enters_of Try.func13 (by kernel_rfl) rfl a w⟩
instance fok14 : FnOk Try.prog 14 := ⟨fun a w => enters_of Try.func14 (by kernel_rfl) rfl a w⟩
instance fok15 : FnOk Try.prog 15 := ⟨fun a w => enters_of Try.func15 (by kernel_rfl) rfl a w⟩
instance fok16 : FnOk Try.prog 16 := ⟨fun a w => enters_of Try.func16 (by kernel_rfl) rfl a w⟩
instance fok17 : FnOk Try.prog 17 := ⟨fun a w => enters_of Try.func17 (by kernel_rfl) rfl a w⟩
instance fok18 : FnOk Try.prog 18 := ⟨fun a w => enters_of Try.func18 (by kernel_rfl) rfl a w⟩
instance fok19 : FnOk Try.prog 19 := ⟨fun a w => enters_of Try.func19 (by kernel_rfl) rfl a w⟩
instance fok20 : FnOk Try.prog 20 := ⟨fun a w => enters_of Try.func20 (by kernel_rfl) rfl a w⟩
instance fok21 : FnOk Try.prog 21 := ⟨fun a w => enters_of Try.func21 (by kernel_rfl) rfl a w⟩
instance fok22 : FnOk Try.prog 22 := ⟨fun a w => enters_of Try.func22 (by kernel_rfl) rfl a w⟩
instance fok23 : FnOk Try.prog 23 := ⟨fun a w => enters_of Try.func23 (by kernel_rfl) rfl a w⟩
instance fok24 : FnOk Try.prog 24 := ⟨fun a w => enters_of Try.func24 (by kernel_rfl) rfl a w⟩
instance fok25 : FnOk Try.prog 25 := ⟨fun a w => enters_of Try.func25 (by kernel_rfl) rfl a w⟩
instance fok26 : FnOk Try.prog 26 := ⟨fun a w => enters_of Try.func26 (by kernel_rfl) rfl a w⟩
instance fok27 : FnOk Try.prog 27 := ⟨fun a w => enters_of Try.func27 (by kernel_rfl) rfl a w⟩
instance fok28 : FnOk Try.prog 28 := ⟨fun a w => enters_of Try.func28 (by kernel_rfl) rfl a w⟩
instance fok29 : FnOk Try.prog 29 := ⟨fun a w => enters_of Try.func29 (by kernel_rfl) rfl a w⟩
instance fok30 : FnOk Try.prog 30 := ⟨fun a w => enters_of Try.func30 (by kernel_rfl) rfl a w⟩
instance fok31 : FnOk Try.prog 31 := ⟨fun a w => enters_of Try.func31 (by kernel_rfl) rfl a w⟩
instance fok32 : FnOk Try.prog 32 := ⟨fun a w => enters_of Try.func32 (by kernel_rfl) rfl a w⟩
instance fok33 : FnOk Try.prog 33 := ⟨fun a w => enters_of Try.func33 (by kernel_rfl) rfl a w⟩
instance fok34 : FnOk Try.prog 34 := ⟨fun a w => enters_of Try.func34 (by kernel_rfl) rfl a w⟩
instance fok35 : FnOk Try.prog 35 := ⟨fun a w => enters_of Try.func35 (by kernel_rfl) rfl a w⟩
instance fok36 : FnOk Try.prog 36 := ⟨fun a w => enters_of Try.func36 (by kernel_rfl) rfl a w⟩
instance fok37 : FnOk Try.prog 37 := ⟨fun a w => enters_of Try.func37 (by kernel_rfl) rfl a w⟩
end Go.Proofs.Ythachclpelhaiaa
