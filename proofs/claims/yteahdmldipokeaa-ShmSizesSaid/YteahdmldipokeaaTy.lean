/- facts on types and functions, written by a program (gen_ty.py) off the translation -/
import Derived.Test.YteahdmldipokeaaE10
import Derived.Test.YteahdmldipokeaaProg
import Derived.KernelRfl
import Derived.Shelf.Abstract
namespace Go.Proofs.Yteahdmldipokeaa
open Go.RowKit Go.Shelf
instance mixed : Mixed Try.prog := ⟨by kernel_rfl⟩
instance ty1 : Ty Try.prog 1 1 false := ⟨by kernel_rfl, by kernel_rfl⟩
instance tz1 : TyZ Try.prog 1 [.nilFunc] := ⟨by kernel_rfl⟩
instance tby1 : TyBy Try.prog 1 8 := ⟨by kernel_rfl⟩
instance ty2 : Ty Try.prog 2 1 false := ⟨by kernel_rfl, by kernel_rfl⟩
instance tz2 : TyZ Try.prog 2 [.int .i64 0] := ⟨by kernel_rfl⟩
instance tby2 : TyBy Try.prog 2 8 := ⟨by kernel_rfl⟩
instance tin2 : TyInt Try.prog 2 .i64 := ⟨by kernel_rfl⟩
instance ty3 : Ty Try.prog 3 1 false := ⟨by kernel_rfl, by kernel_rfl⟩
instance tz3 : TyZ Try.prog 3 [.int .i64 0] := ⟨by kernel_rfl⟩
instance tby3 : TyBy Try.prog 3 8 := ⟨by kernel_rfl⟩
instance tin3 : TyInt Try.prog 3 .i64 := ⟨by kernel_rfl⟩
instance ty4 : Ty Try.prog 4 1 false := ⟨by kernel_rfl, by kernel_rfl⟩
instance tz4 : TyZ Try.prog 4 [.bool false] := ⟨by kernel_rfl⟩
instance tby4 : TyBy Try.prog 4 1 := ⟨by kernel_rfl⟩
instance tbo4 : TyBool Try.prog 4 := ⟨by kernel_rfl⟩
instance ty5 : Ty Try.prog 5 1 false := ⟨by kernel_rfl, by kernel_rfl⟩
instance tz5 : TyZ Try.prog 5 [.int .u8 0] := ⟨by kernel_rfl⟩
instance tby5 : TyBy Try.prog 5 1 := ⟨by kernel_rfl⟩
instance tin5 : TyInt Try.prog 5 .u8 := ⟨by kernel_rfl⟩
instance ty6 : Ty Try.prog 6 1 false := ⟨by kernel_rfl, by kernel_rfl⟩
instance tz6 : TyZ Try.prog 6 [.int .u8 0] := ⟨by kernel_rfl⟩
instance tby6 : TyBy Try.prog 6 1 := ⟨by kernel_rfl⟩
instance tin6 : TyInt Try.prog 6 .u8 := ⟨by kernel_rfl⟩
instance ty7 : Ty Try.prog 7 4 true := ⟨by kernel_rfl, by kernel_rfl⟩
instance tz7 : TyZ Try.prog 7 [.int .i64 0, .int .i64 0, .bool false, .int .u8 0] := ⟨by kernel_rfl⟩
instance tby7 : TyBy Try.prog 7 24 := ⟨by kernel_rfl⟩
instance tss7 : TyS Try.prog 7 [(0, 1), (1, 1), (2, 1), (3, 1)] := ⟨by kernel_rfl, by kernel_rfl⟩
instance tf7_0 : TyFld Try.prog 7 0 0 := ⟨fun _ _ => by kernel_rfl⟩
instance tp7_0 : TyPart Try.prog 7 0 0 1 false := ⟨fun _ _ => by kernel_rfl⟩
instance tf7_1 : TyFld Try.prog 7 1 1 := ⟨fun _ _ => by kernel_rfl⟩
instance tp7_1 : TyPart Try.prog 7 1 1 1 false := ⟨fun _ _ => by kernel_rfl⟩
instance tf7_2 : TyFld Try.prog 7 2 2 := ⟨fun _ _ => by kernel_rfl⟩
instance tp7_2 : TyPart Try.prog 7 2 2 1 false := ⟨fun _ _ => by kernel_rfl⟩
instance tf7_3 : TyFld Try.prog 7 3 3 := ⟨fun _ _ => by kernel_rfl⟩
instance tp7_3 : TyPart Try.prog 7 3 3 1 false := ⟨fun _ _ => by kernel_rfl⟩
instance ty8 : Ty Try.prog 8 4 true := ⟨by kernel_rfl, by kernel_rfl⟩
instance tz8 : TyZ Try.prog 8 [.int .i64 0, .int .i64 0, .bool false, .int .u8 0] := ⟨by kernel_rfl⟩
instance tby8 : TyBy Try.prog 8 24 := ⟨by kernel_rfl⟩
instance tss8 : TyS Try.prog 8 [(0, 1), (1, 1), (2, 1), (3, 1)] := ⟨by kernel_rfl, by kernel_rfl⟩
instance tf8_0 : TyFld Try.prog 8 0 0 := ⟨fun _ _ => by kernel_rfl⟩
instance tp8_0 : TyPart Try.prog 8 0 0 1 false := ⟨fun _ _ => by kernel_rfl⟩
instance tf8_1 : TyFld Try.prog 8 1 1 := ⟨fun _ _ => by kernel_rfl⟩
instance tp8_1 : TyPart Try.prog 8 1 1 1 false := ⟨fun _ _ => by kernel_rfl⟩
instance tf8_2 : TyFld Try.prog 8 2 2 := ⟨fun _ _ => by kernel_rfl⟩
instance tp8_2 : TyPart Try.prog 8 2 2 1 false := ⟨fun _ _ => by kernel_rfl⟩
instance tf8_3 : TyFld Try.prog 8 3 3 := ⟨fun _ _ => by kernel_rfl⟩
instance tp8_3 : TyPart Try.prog 8 3 3 1 false := ⟨fun _ _ => by kernel_rfl⟩
instance ty9 : Ty Try.prog 9 1 false := ⟨by kernel_rfl, by kernel_rfl⟩
instance tz9 : TyZ Try.prog 9 [.string ⟨#[]⟩] := ⟨by kernel_rfl⟩
instance tby9 : TyBy Try.prog 9 16 := ⟨by kernel_rfl⟩
instance tst9 : TyStr Try.prog 9 := ⟨by kernel_rfl⟩
instance ty10 : Ty Try.prog 10 1 false := ⟨by kernel_rfl, by kernel_rfl⟩
instance tz10 : TyZ Try.prog 10 [.string ⟨#[]⟩] := ⟨by kernel_rfl⟩
instance tby10 : TyBy Try.prog 10 16 := ⟨by kernel_rfl⟩
instance tst10 : TyStr Try.prog 10 := ⟨by kernel_rfl⟩
instance ty11 : Ty Try.prog 11 1 false := ⟨by kernel_rfl, by kernel_rfl⟩
instance tz11 : TyZ Try.prog 11 [.string ⟨#[]⟩] := ⟨by kernel_rfl⟩
instance tby11 : TyBy Try.prog 11 16 := ⟨by kernel_rfl⟩
instance tst11 : TyStr Try.prog 11 := ⟨by kernel_rfl⟩
instance ty12 : Ty Try.prog 12 1 false := ⟨by kernel_rfl, by kernel_rfl⟩
instance tz12 : TyZ Try.prog 12 [.int .u64 0] := ⟨by kernel_rfl⟩
instance tby12 : TyBy Try.prog 12 8 := ⟨by kernel_rfl⟩
instance tin12 : TyInt Try.prog 12 .u64 := ⟨by kernel_rfl⟩
instance ty13 : Ty Try.prog 13 2 true := ⟨by kernel_rfl, by kernel_rfl⟩
instance tz13 : TyZ Try.prog 13 [.string ⟨#[]⟩, .int .u64 0] := ⟨by kernel_rfl⟩
instance tby13 : TyBy Try.prog 13 24 := ⟨by kernel_rfl⟩
instance tss13 : TyS Try.prog 13 [(0, 1), (1, 1)] := ⟨by kernel_rfl, by kernel_rfl⟩
instance tf13_0 : TyFld Try.prog 13 0 0 := ⟨fun _ _ => by kernel_rfl⟩
instance tp13_0 : TyPart Try.prog 13 0 0 1 false := ⟨fun _ _ => by kernel_rfl⟩
instance tf13_1 : TyFld Try.prog 13 1 1 := ⟨fun _ _ => by kernel_rfl⟩
instance tp13_1 : TyPart Try.prog 13 1 1 1 false := ⟨fun _ _ => by kernel_rfl⟩
instance ty14 : Ty Try.prog 14 2 true := ⟨by kernel_rfl, by kernel_rfl⟩
instance tz14 : TyZ Try.prog 14 [.string ⟨#[]⟩, .int .u64 0] := ⟨by kernel_rfl⟩
instance tby14 : TyBy Try.prog 14 24 := ⟨by kernel_rfl⟩
instance tss14 : TyS Try.prog 14 [(0, 1), (1, 1)] := ⟨by kernel_rfl, by kernel_rfl⟩
instance tf14_0 : TyFld Try.prog 14 0 0 := ⟨fun _ _ => by kernel_rfl⟩
instance tp14_0 : TyPart Try.prog 14 0 0 1 false := ⟨fun _ _ => by kernel_rfl⟩
instance tf14_1 : TyFld Try.prog 14 1 1 := ⟨fun _ _ => by kernel_rfl⟩
instance tp14_1 : TyPart Try.prog 14 1 1 1 false := ⟨fun _ _ => by kernel_rfl⟩
instance ty15 : Ty Try.prog 15 1 false := ⟨by kernel_rfl, by kernel_rfl⟩
instance tz15 : TyZ Try.prog 15 [.pointer none] := ⟨by kernel_rfl⟩
instance tby15 : TyBy Try.prog 15 8 := ⟨by kernel_rfl⟩
instance tpt15 : TyPtr Try.prog 15 94 := ⟨by kernel_rfl⟩
instance ty16 : Ty Try.prog 16 1 false := ⟨by kernel_rfl, by kernel_rfl⟩
instance tz16 : TyZ Try.prog 16 [.pointer none] := ⟨by kernel_rfl⟩
instance tby16 : TyBy Try.prog 16 8 := ⟨by kernel_rfl⟩
instance tpt16 : TyPtr Try.prog 16 97 := ⟨by kernel_rfl⟩
instance ty17 : Ty Try.prog 17 1 false := ⟨by kernel_rfl, by kernel_rfl⟩
instance tz17 : TyZ Try.prog 17 [.pointer none] := ⟨by kernel_rfl⟩
instance tby17 : TyBy Try.prog 17 8 := ⟨by kernel_rfl⟩
instance tpt17 : TyPtr Try.prog 17 106 := ⟨by kernel_rfl⟩
instance ty18 : Ty Try.prog 18 1 true := ⟨by kernel_rfl, by kernel_rfl⟩
instance tz18 : TyZ Try.prog 18 [.pointer none] := ⟨by kernel_rfl⟩
instance tby18 : TyBy Try.prog 18 8 := ⟨by kernel_rfl⟩
instance tss18 : TyS Try.prog 18 [(0, 1)] := ⟨by kernel_rfl, by kernel_rfl⟩
instance tf18_0 : TyFld Try.prog 18 0 0 := ⟨fun _ _ => by kernel_rfl⟩
instance tp18_0 : TyPart Try.prog 18 0 0 1 false := ⟨fun _ _ => by kernel_rfl⟩
instance ty19 : Ty Try.prog 19 1 true := ⟨by kernel_rfl, by kernel_rfl⟩
instance tz19 : TyZ Try.prog 19 [.pointer none] := ⟨by kernel_rfl⟩
instance tby19 : TyBy Try.prog 19 8 := ⟨by kernel_rfl⟩
instance tss19 : TyS Try.prog 19 [(0, 1)] := ⟨by kernel_rfl, by kernel_rfl⟩
instance tf19_0 : TyFld Try.prog 19 0 0 := ⟨fun _ _ => by kernel_rfl⟩
instance tp19_0 : TyPart Try.prog 19 0 0 1 false := ⟨fun _ _ => by kernel_rfl⟩
instance ty20 : Ty Try.prog 20 1 false := ⟨by kernel_rfl, by kernel_rfl⟩
instance tz20 : TyZ Try.prog 20 [.nilIface] := ⟨by kernel_rfl⟩
instance tby20 : TyBy Try.prog 20 16 := ⟨by kernel_rfl⟩
instance ty21 : Ty Try.prog 21 1 false := ⟨by kernel_rfl, by kernel_rfl⟩
instance tz21 : TyZ Try.prog 21 [.int .i32 0] := ⟨by kernel_rfl⟩
instance tby21 : TyBy Try.prog 21 4 := ⟨by kernel_rfl⟩
instance tin21 : TyInt Try.prog 21 .i32 := ⟨by kernel_rfl⟩
instance ty22 : Ty Try.prog 22 1 false := ⟨by kernel_rfl, by kernel_rfl⟩
instance tz22 : TyZ Try.prog 22 [.nilFunc] := ⟨by kernel_rfl⟩
instance tby22 : TyBy Try.prog 22 8 := ⟨by kernel_rfl⟩
instance ty23 : Ty Try.prog 23 1 false := ⟨by kernel_rfl, by kernel_rfl⟩
instance tz23 : TyZ Try.prog 23 [.pointer none] := ⟨by kernel_rfl⟩
instance tby23 : TyBy Try.prog 23 8 := ⟨by kernel_rfl⟩
instance tpt23 : TyPtr Try.prog 23 57 := ⟨by kernel_rfl⟩
instance ty24 : Ty Try.prog 24 1 false := ⟨by kernel_rfl, by kernel_rfl⟩
instance tz24 : TyZ Try.prog 24 [.int .i64 0] := ⟨by kernel_rfl⟩
instance tby24 : TyBy Try.prog 24 8 := ⟨by kernel_rfl⟩
instance tin24 : TyInt Try.prog 24 .i64 := ⟨by kernel_rfl⟩
instance ty26 : Ty Try.prog 26 1 false := ⟨by kernel_rfl, by kernel_rfl⟩
instance tz26 : TyZ Try.prog 26 [.nilFunc] := ⟨by kernel_rfl⟩
instance tby26 : TyBy Try.prog 26 8 := ⟨by kernel_rfl⟩
instance ty27 : Ty Try.prog 27 1 false := ⟨by kernel_rfl, by kernel_rfl⟩
instance tz27 : TyZ Try.prog 27 [.slice none 0 0] := ⟨by kernel_rfl⟩
instance tby27 : TyBy Try.prog 27 24 := ⟨by kernel_rfl⟩
instance tsl27 : TySl Try.prog 27 3 1 := ⟨by kernel_rfl, by kernel_rfl⟩
instance ty28 : Ty Try.prog 28 3 true := ⟨by kernel_rfl, by kernel_rfl⟩
instance tz28 : TyZ Try.prog 28 [.slice none 0 0, .int .i64 0, .bool false] := ⟨by kernel_rfl⟩
instance tby28 : TyBy Try.prog 28 40 := ⟨by kernel_rfl⟩
instance tss28 : TyS Try.prog 28 [(0, 1), (1, 1), (2, 1)] := ⟨by kernel_rfl, by kernel_rfl⟩
instance tf28_0 : TyFld Try.prog 28 0 0 := ⟨fun _ _ => by kernel_rfl⟩
instance tp28_0 : TyPart Try.prog 28 0 0 1 false := ⟨fun _ _ => by kernel_rfl⟩
instance tf28_1 : TyFld Try.prog 28 1 1 := ⟨fun _ _ => by kernel_rfl⟩
instance tp28_1 : TyPart Try.prog 28 1 1 1 false := ⟨fun _ _ => by kernel_rfl⟩
instance tf28_2 : TyFld Try.prog 28 2 2 := ⟨fun _ _ => by kernel_rfl⟩
instance tp28_2 : TyPart Try.prog 28 2 2 1 false := ⟨fun _ _ => by kernel_rfl⟩
instance ty29 : Ty Try.prog 29 3 true := ⟨by kernel_rfl, by kernel_rfl⟩
instance tz29 : TyZ Try.prog 29 [.slice none 0 0, .int .i64 0, .bool false] := ⟨by kernel_rfl⟩
instance tby29 : TyBy Try.prog 29 40 := ⟨by kernel_rfl⟩
instance tss29 : TyS Try.prog 29 [(0, 1), (1, 1), (2, 1)] := ⟨by kernel_rfl, by kernel_rfl⟩
instance tf29_0 : TyFld Try.prog 29 0 0 := ⟨fun _ _ => by kernel_rfl⟩
instance tp29_0 : TyPart Try.prog 29 0 0 1 false := ⟨fun _ _ => by kernel_rfl⟩
instance tf29_1 : TyFld Try.prog 29 1 1 := ⟨fun _ _ => by kernel_rfl⟩
instance tp29_1 : TyPart Try.prog 29 1 1 1 false := ⟨fun _ _ => by kernel_rfl⟩
instance tf29_2 : TyFld Try.prog 29 2 2 := ⟨fun _ _ => by kernel_rfl⟩
instance tp29_2 : TyPart Try.prog 29 2 2 1 false := ⟨fun _ _ => by kernel_rfl⟩
instance ty31 : Ty Try.prog 31 1 false := ⟨by kernel_rfl, by kernel_rfl⟩
instance tz31 : TyZ Try.prog 31 [.nilFunc] := ⟨by kernel_rfl⟩
instance tby31 : TyBy Try.prog 31 8 := ⟨by kernel_rfl⟩
instance ty32 : Ty Try.prog 32 1 false := ⟨by kernel_rfl, by kernel_rfl⟩
instance tz32 : TyZ Try.prog 32 [.nilFunc] := ⟨by kernel_rfl⟩
instance tby32 : TyBy Try.prog 32 8 := ⟨by kernel_rfl⟩
instance ty33 : Ty Try.prog 33 1 false := ⟨by kernel_rfl, by kernel_rfl⟩
instance tz33 : TyZ Try.prog 33 [.nilFunc] := ⟨by kernel_rfl⟩
instance tby33 : TyBy Try.prog 33 8 := ⟨by kernel_rfl⟩
instance ty35 : Ty Try.prog 35 1 false := ⟨by kernel_rfl, by kernel_rfl⟩
instance tz35 : TyZ Try.prog 35 [.nilFunc] := ⟨by kernel_rfl⟩
instance tby35 : TyBy Try.prog 35 8 := ⟨by kernel_rfl⟩
instance ty36 : Ty Try.prog 36 1 false := ⟨by kernel_rfl, by kernel_rfl⟩
instance tz36 : TyZ Try.prog 36 [.nilFunc] := ⟨by kernel_rfl⟩
instance tby36 : TyBy Try.prog 36 8 := ⟨by kernel_rfl⟩
instance ty38 : Ty Try.prog 38 1 false := ⟨by kernel_rfl, by kernel_rfl⟩
instance tz38 : TyZ Try.prog 38 [.nilFunc] := ⟨by kernel_rfl⟩
instance tby38 : TyBy Try.prog 38 8 := ⟨by kernel_rfl⟩
instance ty39 : Ty Try.prog 39 1 false := ⟨by kernel_rfl, by kernel_rfl⟩
instance tz39 : TyZ Try.prog 39 [.nilFunc] := ⟨by kernel_rfl⟩
instance tby39 : TyBy Try.prog 39 8 := ⟨by kernel_rfl⟩
instance ty40 : Ty Try.prog 40 1 false := ⟨by kernel_rfl, by kernel_rfl⟩
instance tz40 : TyZ Try.prog 40 [.nilFunc] := ⟨by kernel_rfl⟩
instance tby40 : TyBy Try.prog 40 8 := ⟨by kernel_rfl⟩
instance ty41 : Ty Try.prog 41 1 false := ⟨by kernel_rfl, by kernel_rfl⟩
instance tz41 : TyZ Try.prog 41 [.nilFunc] := ⟨by kernel_rfl⟩
instance tby41 : TyBy Try.prog 41 8 := ⟨by kernel_rfl⟩
instance ty42 : Ty Try.prog 42 1 false := ⟨by kernel_rfl, by kernel_rfl⟩
instance tz42 : TyZ Try.prog 42 [.slice none 0 0] := ⟨by kernel_rfl⟩
instance tby42 : TyBy Try.prog 42 24 := ⟨by kernel_rfl⟩
instance tsl42 : TySl Try.prog 42 49 3 := ⟨by kernel_rfl, by kernel_rfl⟩
instance ty43 : Ty Try.prog 43 1 false := ⟨by kernel_rfl, by kernel_rfl⟩
instance tz43 : TyZ Try.prog 43 [.pointer none] := ⟨by kernel_rfl⟩
instance tby43 : TyBy Try.prog 43 8 := ⟨by kernel_rfl⟩
instance tpt43 : TyPtr Try.prog 43 80 := ⟨by kernel_rfl⟩
instance ty45 : Ty Try.prog 45 1 false := ⟨by kernel_rfl, by kernel_rfl⟩
instance tz45 : TyZ Try.prog 45 [.nilFunc] := ⟨by kernel_rfl⟩
instance tby45 : TyBy Try.prog 45 8 := ⟨by kernel_rfl⟩
instance ty46 : Ty Try.prog 46 18 true := ⟨by kernel_rfl, by kernel_rfl⟩
instance tz46 : TyZ Try.prog 46 [.slice none 0 0, .int .i64 0, .bool false, .slice none 0 0, .int .i64 0, .bool false, .slice none 0 0, .int .i64 0, .bool false, .slice none 0 0, .int .i64 0, .bool false, .slice none 0 0, .int .i64 0, .bool false, .slice none 0 0, .int .i64 0, .bool false] := ⟨by kernel_rfl⟩
instance tby46 : TyBy Try.prog 46 240 := ⟨by kernel_rfl⟩
instance tar46 : TyArr Try.prog 46 6 29 3 := ⟨by kernel_rfl, by kernel_rfl⟩
instance ty47 : Ty Try.prog 47 1 false := ⟨by kernel_rfl, by kernel_rfl⟩
instance tz47 : TyZ Try.prog 47 [.int .u64 0] := ⟨by kernel_rfl⟩
instance tby47 : TyBy Try.prog 47 8 := ⟨by kernel_rfl⟩
instance tin47 : TyInt Try.prog 47 .u64 := ⟨by kernel_rfl⟩
instance ty48 : Ty Try.prog 48 3 true := ⟨by kernel_rfl, by kernel_rfl⟩
instance tz48 : TyZ Try.prog 48 [.int .i64 0, .int .i64 0, .int .i64 0] := ⟨by kernel_rfl⟩
instance tby48 : TyBy Try.prog 48 24 := ⟨by kernel_rfl⟩
instance tss48 : TyS Try.prog 48 [(0, 1), (1, 1), (2, 1)] := ⟨by kernel_rfl, by kernel_rfl⟩
instance tf48_0 : TyFld Try.prog 48 0 0 := ⟨fun _ _ => by kernel_rfl⟩
instance tp48_0 : TyPart Try.prog 48 0 0 1 false := ⟨fun _ _ => by kernel_rfl⟩
instance tf48_1 : TyFld Try.prog 48 1 1 := ⟨fun _ _ => by kernel_rfl⟩
instance tp48_1 : TyPart Try.prog 48 1 1 1 false := ⟨fun _ _ => by kernel_rfl⟩
instance tf48_2 : TyFld Try.prog 48 2 2 := ⟨fun _ _ => by kernel_rfl⟩
instance tp48_2 : TyPart Try.prog 48 2 2 1 false := ⟨fun _ _ => by kernel_rfl⟩
instance ty49 : Ty Try.prog 49 3 true := ⟨by kernel_rfl, by kernel_rfl⟩
instance tz49 : TyZ Try.prog 49 [.int .i64 0, .int .i64 0, .int .i64 0] := ⟨by kernel_rfl⟩
instance tby49 : TyBy Try.prog 49 24 := ⟨by kernel_rfl⟩
instance tss49 : TyS Try.prog 49 [(0, 1), (1, 1), (2, 1)] := ⟨by kernel_rfl, by kernel_rfl⟩
instance tf49_0 : TyFld Try.prog 49 0 0 := ⟨fun _ _ => by kernel_rfl⟩
instance tp49_0 : TyPart Try.prog 49 0 0 1 false := ⟨fun _ _ => by kernel_rfl⟩
instance tf49_1 : TyFld Try.prog 49 1 1 := ⟨fun _ _ => by kernel_rfl⟩
instance tp49_1 : TyPart Try.prog 49 1 1 1 false := ⟨fun _ _ => by kernel_rfl⟩
instance tf49_2 : TyFld Try.prog 49 2 2 := ⟨fun _ _ => by kernel_rfl⟩
instance tp49_2 : TyPart Try.prog 49 2 2 1 false := ⟨fun _ _ => by kernel_rfl⟩
instance tes49 : TyEqS Try.prog 49 [.int .i64, .int .i64, .int .i64] := ⟨by kernel_rfl, by kernel_rfl, by kernel_rfl, by kernel_rfl⟩
instance ty50 : Ty Try.prog 50 1 false := ⟨by kernel_rfl, by kernel_rfl⟩
instance tz50 : TyZ Try.prog 50 [.nilFunc] := ⟨by kernel_rfl⟩
instance tby50 : TyBy Try.prog 50 8 := ⟨by kernel_rfl⟩
instance ty51 : Ty Try.prog 51 1 false := ⟨by kernel_rfl, by kernel_rfl⟩
instance tz51 : TyZ Try.prog 51 [.nilFunc] := ⟨by kernel_rfl⟩
instance tby51 : TyBy Try.prog 51 8 := ⟨by kernel_rfl⟩
instance ty52 : Ty Try.prog 52 1 false := ⟨by kernel_rfl, by kernel_rfl⟩
instance tz52 : TyZ Try.prog 52 [.nilFunc] := ⟨by kernel_rfl⟩
instance tby52 : TyBy Try.prog 52 8 := ⟨by kernel_rfl⟩
instance ty53 : Ty Try.prog 53 1 false := ⟨by kernel_rfl, by kernel_rfl⟩
instance tz53 : TyZ Try.prog 53 [.nilFunc] := ⟨by kernel_rfl⟩
instance tby53 : TyBy Try.prog 53 8 := ⟨by kernel_rfl⟩
instance ty54 : Ty Try.prog 54 1 false := ⟨by kernel_rfl, by kernel_rfl⟩
instance tz54 : TyZ Try.prog 54 [.nilFunc] := ⟨by kernel_rfl⟩
instance tby54 : TyBy Try.prog 54 8 := ⟨by kernel_rfl⟩
instance ty55 : Ty Try.prog 55 1 false := ⟨by kernel_rfl, by kernel_rfl⟩
instance tz55 : TyZ Try.prog 55 [.slice none 0 0] := ⟨by kernel_rfl⟩
instance tby55 : TyBy Try.prog 55 24 := ⟨by kernel_rfl⟩
instance tsl55 : TySl Try.prog 55 76 65 := ⟨by kernel_rfl, by kernel_rfl⟩
instance ty56 : Ty Try.prog 56 1 true := ⟨by kernel_rfl, by kernel_rfl⟩
instance tz56 : TyZ Try.prog 56 [.slice none 0 0] := ⟨by kernel_rfl⟩
instance tby56 : TyBy Try.prog 56 24 := ⟨by kernel_rfl⟩
instance tss56 : TyS Try.prog 56 [(0, 1)] := ⟨by kernel_rfl, by kernel_rfl⟩
instance tf56_0 : TyFld Try.prog 56 0 0 := ⟨fun _ _ => by kernel_rfl⟩
instance tp56_0 : TyPart Try.prog 56 0 0 1 false := ⟨fun _ _ => by kernel_rfl⟩
instance ty57 : Ty Try.prog 57 1 true := ⟨by kernel_rfl, by kernel_rfl⟩
instance tz57 : TyZ Try.prog 57 [.slice none 0 0] := ⟨by kernel_rfl⟩
instance tby57 : TyBy Try.prog 57 24 := ⟨by kernel_rfl⟩
instance tss57 : TyS Try.prog 57 [(0, 1)] := ⟨by kernel_rfl, by kernel_rfl⟩
instance tf57_0 : TyFld Try.prog 57 0 0 := ⟨fun _ _ => by kernel_rfl⟩
instance tp57_0 : TyPart Try.prog 57 0 0 1 false := ⟨fun _ _ => by kernel_rfl⟩
instance ty58 : Ty Try.prog 58 1 false := ⟨by kernel_rfl, by kernel_rfl⟩
instance tz58 : TyZ Try.prog 58 [.nilFunc] := ⟨by kernel_rfl⟩
instance tby58 : TyBy Try.prog 58 8 := ⟨by kernel_rfl⟩
instance ty59 : Ty Try.prog 59 1 false := ⟨by kernel_rfl, by kernel_rfl⟩
instance tz59 : TyZ Try.prog 59 [.nilFunc] := ⟨by kernel_rfl⟩
instance tby59 : TyBy Try.prog 59 8 := ⟨by kernel_rfl⟩
instance ty60 : Ty Try.prog 60 1 false := ⟨by kernel_rfl, by kernel_rfl⟩
instance tz60 : TyZ Try.prog 60 [.nilFunc] := ⟨by kernel_rfl⟩
instance tby60 : TyBy Try.prog 60 8 := ⟨by kernel_rfl⟩
instance ty61 : Ty Try.prog 61 1 false := ⟨by kernel_rfl, by kernel_rfl⟩
instance tz61 : TyZ Try.prog 61 [.nilFunc] := ⟨by kernel_rfl⟩
instance tby61 : TyBy Try.prog 61 8 := ⟨by kernel_rfl⟩
instance ty62 : Ty Try.prog 62 1 false := ⟨by kernel_rfl, by kernel_rfl⟩
instance tz62 : TyZ Try.prog 62 [.nilFunc] := ⟨by kernel_rfl⟩
instance tby62 : TyBy Try.prog 62 8 := ⟨by kernel_rfl⟩
instance ty63 : Ty Try.prog 63 1 false := ⟨by kernel_rfl, by kernel_rfl⟩
instance tz63 : TyZ Try.prog 63 [.nilFunc] := ⟨by kernel_rfl⟩
instance tby63 : TyBy Try.prog 63 8 := ⟨by kernel_rfl⟩
instance ty64 : Ty Try.prog 64 1 false := ⟨by kernel_rfl, by kernel_rfl⟩
instance tz64 : TyZ Try.prog 64 [.nilFunc] := ⟨by kernel_rfl⟩
instance tby64 : TyBy Try.prog 64 8 := ⟨by kernel_rfl⟩
instance ty65 : Ty Try.prog 65 1 false := ⟨by kernel_rfl, by kernel_rfl⟩
instance tz65 : TyZ Try.prog 65 [.pointer none] := ⟨by kernel_rfl⟩
instance tby65 : TyBy Try.prog 65 8 := ⟨by kernel_rfl⟩
instance tpt65 : TyPtr Try.prog 65 69 := ⟨by kernel_rfl⟩
instance ty67 : Ty Try.prog 67 1 false := ⟨by kernel_rfl, by kernel_rfl⟩
instance tz67 : TyZ Try.prog 67 [.nilFunc] := ⟨by kernel_rfl⟩
instance tby67 : TyBy Try.prog 67 8 := ⟨by kernel_rfl⟩
instance ty68 : Ty Try.prog 68 4 true := ⟨by kernel_rfl, by kernel_rfl⟩
instance tz68 : TyZ Try.prog 68 [.slice none 0 0, .int .i64 0, .bool false, .pointer none] := ⟨by kernel_rfl⟩
instance tby68 : TyBy Try.prog 68 48 := ⟨by kernel_rfl⟩
instance tss68 : TyS Try.prog 68 [(0, 3), (3, 1)] := ⟨by kernel_rfl, by kernel_rfl⟩
instance tf68_0 : TyFld Try.prog 68 0 0 := ⟨fun _ _ => by kernel_rfl⟩
instance tp68_0 : TyPart Try.prog 68 0 0 3 true := ⟨fun _ _ => by kernel_rfl⟩
instance tf68_1 : TyFld Try.prog 68 1 3 := ⟨fun _ _ => by kernel_rfl⟩
instance tp68_1 : TyPart Try.prog 68 1 3 1 false := ⟨fun _ _ => by kernel_rfl⟩
instance ty69 : Ty Try.prog 69 4 true := ⟨by kernel_rfl, by kernel_rfl⟩
instance tz69 : TyZ Try.prog 69 [.slice none 0 0, .int .i64 0, .bool false, .pointer none] := ⟨by kernel_rfl⟩
instance tby69 : TyBy Try.prog 69 48 := ⟨by kernel_rfl⟩
instance tss69 : TyS Try.prog 69 [(0, 3), (3, 1)] := ⟨by kernel_rfl, by kernel_rfl⟩
instance tf69_0 : TyFld Try.prog 69 0 0 := ⟨fun _ _ => by kernel_rfl⟩
instance tp69_0 : TyPart Try.prog 69 0 0 3 true := ⟨fun _ _ => by kernel_rfl⟩
instance tf69_1 : TyFld Try.prog 69 1 3 := ⟨fun _ _ => by kernel_rfl⟩
instance tp69_1 : TyPart Try.prog 69 1 3 1 false := ⟨fun _ _ => by kernel_rfl⟩
instance ty70 : Ty Try.prog 70 1 false := ⟨by kernel_rfl, by kernel_rfl⟩
instance tz70 : TyZ Try.prog 70 [.pointer none] := ⟨by kernel_rfl⟩
instance tby70 : TyBy Try.prog 70 8 := ⟨by kernel_rfl⟩
instance tpt70 : TyPtr Try.prog 70 76 := ⟨by kernel_rfl⟩
instance ty71 : Ty Try.prog 71 1 true := ⟨by kernel_rfl, by kernel_rfl⟩
instance tz71 : TyZ Try.prog 71 [.int .i64 0] := ⟨by kernel_rfl⟩
instance tby71 : TyBy Try.prog 71 8 := ⟨by kernel_rfl⟩
instance tss71 : TyS Try.prog 71 [(0, 1)] := ⟨by kernel_rfl, by kernel_rfl⟩
instance tf71_0 : TyFld Try.prog 71 0 0 := ⟨fun _ _ => by kernel_rfl⟩
instance tp71_0 : TyPart Try.prog 71 0 0 1 false := ⟨fun _ _ => by kernel_rfl⟩
instance ty72 : Ty Try.prog 72 1 true := ⟨by kernel_rfl, by kernel_rfl⟩
instance tz72 : TyZ Try.prog 72 [.int .i64 0] := ⟨by kernel_rfl⟩
instance tby72 : TyBy Try.prog 72 8 := ⟨by kernel_rfl⟩
instance tss72 : TyS Try.prog 72 [(0, 1)] := ⟨by kernel_rfl, by kernel_rfl⟩
instance tf72_0 : TyFld Try.prog 72 0 0 := ⟨fun _ _ => by kernel_rfl⟩
instance tp72_0 : TyPart Try.prog 72 0 0 1 false := ⟨fun _ _ => by kernel_rfl⟩
instance tes72 : TyEqS Try.prog 72 [.int .i64] := ⟨by kernel_rfl, by kernel_rfl, by kernel_rfl, by kernel_rfl⟩
instance ty73 : Ty Try.prog 73 64 true := ⟨by kernel_rfl, by kernel_rfl⟩
instance tz73 : TyZ Try.prog 73 [.int .u8 0, .int .u8 0, .int .u8 0, .int .u8 0, .int .u8 0, .int .u8 0, .int .u8 0, .int .u8 0, .int .u8 0, .int .u8 0, .int .u8 0, .int .u8 0, .int .u8 0, .int .u8 0, .int .u8 0, .int .u8 0, .int .u8 0, .int .u8 0, .int .u8 0, .int .u8 0, .int .u8 0, .int .u8 0, .int .u8 0, .int .u8 0, .int .u8 0, .int .u8 0, .int .u8 0, .int .u8 0, .int .u8 0, .int .u8 0, .int .u8 0, .int .u8 0, .int .u8 0, .int .u8 0, .int .u8 0, .int .u8 0, .int .u8 0, .int .u8 0, .int .u8 0, .int .u8 0, .int .u8 0, .int .u8 0, .int .u8 0, .int .u8 0, .int .u8 0, .int .u8 0, .int .u8 0, .int .u8 0, .int .u8 0, .int .u8 0, .int .u8 0, .int .u8 0, .int .u8 0, .int .u8 0, .int .u8 0, .int .u8 0, .int .u8 0, .int .u8 0, .int .u8 0, .int .u8 0, .int .u8 0, .int .u8 0, .int .u8 0, .int .u8 0] := ⟨by kernel_rfl⟩
instance tby73 : TyBy Try.prog 73 64 := ⟨by kernel_rfl⟩
instance tar73 : TyArr Try.prog 73 64 5 1 := ⟨by kernel_rfl, by kernel_rfl⟩
instance teb73 : TyEqB Try.prog 73 64 5 := ⟨by kernel_rfl, by kernel_rfl, by kernel_rfl, by kernel_rfl⟩
instance ty74 : Ty Try.prog 74 64 true := ⟨by kernel_rfl, by kernel_rfl⟩
instance tz74 : TyZ Try.prog 74 [.int .u8 0, .int .u8 0, .int .u8 0, .int .u8 0, .int .u8 0, .int .u8 0, .int .u8 0, .int .u8 0, .int .u8 0, .int .u8 0, .int .u8 0, .int .u8 0, .int .u8 0, .int .u8 0, .int .u8 0, .int .u8 0, .int .u8 0, .int .u8 0, .int .u8 0, .int .u8 0, .int .u8 0, .int .u8 0, .int .u8 0, .int .u8 0, .int .u8 0, .int .u8 0, .int .u8 0, .int .u8 0, .int .u8 0, .int .u8 0, .int .u8 0, .int .u8 0, .int .u8 0, .int .u8 0, .int .u8 0, .int .u8 0, .int .u8 0, .int .u8 0, .int .u8 0, .int .u8 0, .int .u8 0, .int .u8 0, .int .u8 0, .int .u8 0, .int .u8 0, .int .u8 0, .int .u8 0, .int .u8 0, .int .u8 0, .int .u8 0, .int .u8 0, .int .u8 0, .int .u8 0, .int .u8 0, .int .u8 0, .int .u8 0, .int .u8 0, .int .u8 0, .int .u8 0, .int .u8 0, .int .u8 0, .int .u8 0, .int .u8 0, .int .u8 0] := ⟨by kernel_rfl⟩
instance tby74 : TyBy Try.prog 74 64 := ⟨by kernel_rfl⟩
instance tar74 : TyArr Try.prog 74 64 5 1 := ⟨by kernel_rfl, by kernel_rfl⟩
instance teb74 : TyEqB Try.prog 74 64 5 := ⟨by kernel_rfl, by kernel_rfl, by kernel_rfl, by kernel_rfl⟩
instance ty75 : Ty Try.prog 75 65 true := ⟨by kernel_rfl, by kernel_rfl⟩
instance tz75 : TyZ Try.prog 75 [.int .i64 0, .int .u8 0, .int .u8 0, .int .u8 0, .int .u8 0, .int .u8 0, .int .u8 0, .int .u8 0, .int .u8 0, .int .u8 0, .int .u8 0, .int .u8 0, .int .u8 0, .int .u8 0, .int .u8 0, .int .u8 0, .int .u8 0, .int .u8 0, .int .u8 0, .int .u8 0, .int .u8 0, .int .u8 0, .int .u8 0, .int .u8 0, .int .u8 0, .int .u8 0, .int .u8 0, .int .u8 0, .int .u8 0, .int .u8 0, .int .u8 0, .int .u8 0, .int .u8 0, .int .u8 0, .int .u8 0, .int .u8 0, .int .u8 0, .int .u8 0, .int .u8 0, .int .u8 0, .int .u8 0, .int .u8 0, .int .u8 0, .int .u8 0, .int .u8 0, .int .u8 0, .int .u8 0, .int .u8 0, .int .u8 0, .int .u8 0, .int .u8 0, .int .u8 0, .int .u8 0, .int .u8 0, .int .u8 0, .int .u8 0, .int .u8 0, .int .u8 0, .int .u8 0, .int .u8 0, .int .u8 0, .int .u8 0, .int .u8 0, .int .u8 0, .int .u8 0] := ⟨by kernel_rfl⟩
instance tby75 : TyBy Try.prog 75 72 := ⟨by kernel_rfl⟩
instance tss75 : TyS Try.prog 75 [(0, 1), (1, 64)] := ⟨by kernel_rfl, by kernel_rfl⟩
instance tf75_0 : TyFld Try.prog 75 0 0 := ⟨fun _ _ => by kernel_rfl⟩
instance tp75_0 : TyPart Try.prog 75 0 0 1 true := ⟨fun _ _ => by kernel_rfl⟩
instance tf75_1 : TyFld Try.prog 75 1 1 := ⟨fun _ _ => by kernel_rfl⟩
instance tp75_1 : TyPart Try.prog 75 1 1 64 true := ⟨fun _ _ => by kernel_rfl⟩
instance ty76 : Ty Try.prog 76 65 true := ⟨by kernel_rfl, by kernel_rfl⟩
instance tz76 : TyZ Try.prog 76 [.int .i64 0, .int .u8 0, .int .u8 0, .int .u8 0, .int .u8 0, .int .u8 0, .int .u8 0, .int .u8 0, .int .u8 0, .int .u8 0, .int .u8 0, .int .u8 0, .int .u8 0, .int .u8 0, .int .u8 0, .int .u8 0, .int .u8 0, .int .u8 0, .int .u8 0, .int .u8 0, .int .u8 0, .int .u8 0, .int .u8 0, .int .u8 0, .int .u8 0, .int .u8 0, .int .u8 0, .int .u8 0, .int .u8 0, .int .u8 0, .int .u8 0, .int .u8 0, .int .u8 0, .int .u8 0, .int .u8 0, .int .u8 0, .int .u8 0, .int .u8 0, .int .u8 0, .int .u8 0, .int .u8 0, .int .u8 0, .int .u8 0, .int .u8 0, .int .u8 0, .int .u8 0, .int .u8 0, .int .u8 0, .int .u8 0, .int .u8 0, .int .u8 0, .int .u8 0, .int .u8 0, .int .u8 0, .int .u8 0, .int .u8 0, .int .u8 0, .int .u8 0, .int .u8 0, .int .u8 0, .int .u8 0, .int .u8 0, .int .u8 0, .int .u8 0, .int .u8 0] := ⟨by kernel_rfl⟩
instance tby76 : TyBy Try.prog 76 72 := ⟨by kernel_rfl⟩
instance tss76 : TyS Try.prog 76 [(0, 1), (1, 64)] := ⟨by kernel_rfl, by kernel_rfl⟩
instance tf76_0 : TyFld Try.prog 76 0 0 := ⟨fun _ _ => by kernel_rfl⟩
instance tp76_0 : TyPart Try.prog 76 0 0 1 true := ⟨fun _ _ => by kernel_rfl⟩
instance tf76_1 : TyFld Try.prog 76 1 1 := ⟨fun _ _ => by kernel_rfl⟩
instance tp76_1 : TyPart Try.prog 76 1 1 64 true := ⟨fun _ _ => by kernel_rfl⟩
instance ty77 : Ty Try.prog 77 1 false := ⟨by kernel_rfl, by kernel_rfl⟩
instance tz77 : TyZ Try.prog 77 [.nilFunc] := ⟨by kernel_rfl⟩
instance tby77 : TyBy Try.prog 77 8 := ⟨by kernel_rfl⟩
instance ty78 : Ty Try.prog 78 1 false := ⟨by kernel_rfl, by kernel_rfl⟩
instance tz78 : TyZ Try.prog 78 [.slice none 0 0] := ⟨by kernel_rfl⟩
instance tby78 : TyBy Try.prog 78 24 := ⟨by kernel_rfl⟩
instance tsl78 : TySl Try.prog 78 9 1 := ⟨by kernel_rfl, by kernel_rfl⟩
instance ty79 : Ty Try.prog 79 2 true := ⟨by kernel_rfl, by kernel_rfl⟩
instance tz79 : TyZ Try.prog 79 [.slice none 0 0, .slice none 0 0] := ⟨by kernel_rfl⟩
instance tby79 : TyBy Try.prog 79 48 := ⟨by kernel_rfl⟩
instance tss79 : TyS Try.prog 79 [(0, 1), (1, 1)] := ⟨by kernel_rfl, by kernel_rfl⟩
instance tf79_0 : TyFld Try.prog 79 0 0 := ⟨fun _ _ => by kernel_rfl⟩
instance tp79_0 : TyPart Try.prog 79 0 0 1 false := ⟨fun _ _ => by kernel_rfl⟩
instance tf79_1 : TyFld Try.prog 79 1 1 := ⟨fun _ _ => by kernel_rfl⟩
instance tp79_1 : TyPart Try.prog 79 1 1 1 false := ⟨fun _ _ => by kernel_rfl⟩
instance ty80 : Ty Try.prog 80 2 true := ⟨by kernel_rfl, by kernel_rfl⟩
instance tz80 : TyZ Try.prog 80 [.slice none 0 0, .slice none 0 0] := ⟨by kernel_rfl⟩
instance tby80 : TyBy Try.prog 80 48 := ⟨by kernel_rfl⟩
instance tss80 : TyS Try.prog 80 [(0, 1), (1, 1)] := ⟨by kernel_rfl, by kernel_rfl⟩
instance tf80_0 : TyFld Try.prog 80 0 0 := ⟨fun _ _ => by kernel_rfl⟩
instance tp80_0 : TyPart Try.prog 80 0 0 1 false := ⟨fun _ _ => by kernel_rfl⟩
instance tf80_1 : TyFld Try.prog 80 1 1 := ⟨fun _ _ => by kernel_rfl⟩
instance tp80_1 : TyPart Try.prog 80 1 1 1 false := ⟨fun _ _ => by kernel_rfl⟩
instance ty81 : Ty Try.prog 81 1 false := ⟨by kernel_rfl, by kernel_rfl⟩
instance tz81 : TyZ Try.prog 81 [.slice none 0 0] := ⟨by kernel_rfl⟩
instance tby81 : TyBy Try.prog 81 24 := ⟨by kernel_rfl⟩
instance tbs81 : TyBytes Try.prog 81 5 := ⟨by kernel_rfl, by kernel_rfl⟩
instance tsl81 : TySl Try.prog 81 5 1 := ⟨by kernel_rfl, by kernel_rfl⟩
instance ty82 : Ty Try.prog 82 1 false := ⟨by kernel_rfl, by kernel_rfl⟩
instance tz82 : TyZ Try.prog 82 [.nilFunc] := ⟨by kernel_rfl⟩
instance tby82 : TyBy Try.prog 82 8 := ⟨by kernel_rfl⟩
instance ty84 : Ty Try.prog 84 1 false := ⟨by kernel_rfl, by kernel_rfl⟩
instance tz84 : TyZ Try.prog 84 [.nilFunc] := ⟨by kernel_rfl⟩
instance tby84 : TyBy Try.prog 84 8 := ⟨by kernel_rfl⟩
instance ty86 : Ty Try.prog 86 1 false := ⟨by kernel_rfl, by kernel_rfl⟩
instance tz86 : TyZ Try.prog 86 [.nilFunc] := ⟨by kernel_rfl⟩
instance tby86 : TyBy Try.prog 86 8 := ⟨by kernel_rfl⟩
instance ty87 : Ty Try.prog 87 1 false := ⟨by kernel_rfl, by kernel_rfl⟩
instance tz87 : TyZ Try.prog 87 [.nilFunc] := ⟨by kernel_rfl⟩
instance tby87 : TyBy Try.prog 87 8 := ⟨by kernel_rfl⟩
instance ty88 : Ty Try.prog 88 1 false := ⟨by kernel_rfl, by kernel_rfl⟩
instance tz88 : TyZ Try.prog 88 [.nilFunc] := ⟨by kernel_rfl⟩
instance tby88 : TyBy Try.prog 88 8 := ⟨by kernel_rfl⟩
instance ty89 : Ty Try.prog 89 1 false := ⟨by kernel_rfl, by kernel_rfl⟩
instance tz89 : TyZ Try.prog 89 [.nilFunc] := ⟨by kernel_rfl⟩
instance tby89 : TyBy Try.prog 89 8 := ⟨by kernel_rfl⟩
instance ty90 : Ty Try.prog 90 1 false := ⟨by kernel_rfl, by kernel_rfl⟩
instance tz90 : TyZ Try.prog 90 [.nilFunc] := ⟨by kernel_rfl⟩
instance tby90 : TyBy Try.prog 90 8 := ⟨by kernel_rfl⟩
instance ty91 : Ty Try.prog 91 1 false := ⟨by kernel_rfl, by kernel_rfl⟩
instance tz91 : TyZ Try.prog 91 [.pointer none] := ⟨by kernel_rfl⟩
instance tby91 : TyBy Try.prog 91 8 := ⟨by kernel_rfl⟩
instance tpt91 : TyPtr Try.prog 91 72 := ⟨by kernel_rfl⟩
instance ty92 : Ty Try.prog 92 1 false := ⟨by kernel_rfl, by kernel_rfl⟩
instance tz92 : TyZ Try.prog 92 [.nilFunc] := ⟨by kernel_rfl⟩
instance tby92 : TyBy Try.prog 92 8 := ⟨by kernel_rfl⟩
instance ty93 : Ty Try.prog 93 4 true := ⟨by kernel_rfl, by kernel_rfl⟩
instance tz93 : TyZ Try.prog 93 [.pointer none, .pointer none, .pointer none, .string ⟨#[]⟩] := ⟨by kernel_rfl⟩
instance tby93 : TyBy Try.prog 93 40 := ⟨by kernel_rfl⟩
instance tss93 : TyS Try.prog 93 [(0, 1), (1, 1), (2, 1), (3, 1)] := ⟨by kernel_rfl, by kernel_rfl⟩
instance tf93_0 : TyFld Try.prog 93 0 0 := ⟨fun _ _ => by kernel_rfl⟩
instance tp93_0 : TyPart Try.prog 93 0 0 1 false := ⟨fun _ _ => by kernel_rfl⟩
instance tf93_1 : TyFld Try.prog 93 1 1 := ⟨fun _ _ => by kernel_rfl⟩
instance tp93_1 : TyPart Try.prog 93 1 1 1 false := ⟨fun _ _ => by kernel_rfl⟩
instance tf93_2 : TyFld Try.prog 93 2 2 := ⟨fun _ _ => by kernel_rfl⟩
instance tp93_2 : TyPart Try.prog 93 2 2 1 false := ⟨fun _ _ => by kernel_rfl⟩
instance tf93_3 : TyFld Try.prog 93 3 3 := ⟨fun _ _ => by kernel_rfl⟩
instance tp93_3 : TyPart Try.prog 93 3 3 1 false := ⟨fun _ _ => by kernel_rfl⟩
instance ty94 : Ty Try.prog 94 4 true := ⟨by kernel_rfl, by kernel_rfl⟩
instance tz94 : TyZ Try.prog 94 [.pointer none, .pointer none, .pointer none, .string ⟨#[]⟩] := ⟨by kernel_rfl⟩
instance tby94 : TyBy Try.prog 94 40 := ⟨by kernel_rfl⟩
instance tss94 : TyS Try.prog 94 [(0, 1), (1, 1), (2, 1), (3, 1)] := ⟨by kernel_rfl, by kernel_rfl⟩
instance tf94_0 : TyFld Try.prog 94 0 0 := ⟨fun _ _ => by kernel_rfl⟩
instance tp94_0 : TyPart Try.prog 94 0 0 1 false := ⟨fun _ _ => by kernel_rfl⟩
instance tf94_1 : TyFld Try.prog 94 1 1 := ⟨fun _ _ => by kernel_rfl⟩
instance tp94_1 : TyPart Try.prog 94 1 1 1 false := ⟨fun _ _ => by kernel_rfl⟩
instance tf94_2 : TyFld Try.prog 94 2 2 := ⟨fun _ _ => by kernel_rfl⟩
instance tp94_2 : TyPart Try.prog 94 2 2 1 false := ⟨fun _ _ => by kernel_rfl⟩
instance tf94_3 : TyFld Try.prog 94 3 3 := ⟨fun _ _ => by kernel_rfl⟩
instance tp94_3 : TyPart Try.prog 94 3 3 1 false := ⟨fun _ _ => by kernel_rfl⟩
instance ty95 : Ty Try.prog 95 0 true := ⟨by kernel_rfl, by kernel_rfl⟩
instance tz95 : TyZ Try.prog 95 [] := ⟨by kernel_rfl⟩
instance tby95 : TyBy Try.prog 95 0 := ⟨by kernel_rfl⟩
instance tar95 : TyArr Try.prog 95 0 16 1 := ⟨by kernel_rfl, by kernel_rfl⟩
instance ty96 : Ty Try.prog 96 0 true := ⟨by kernel_rfl, by kernel_rfl⟩
instance tz96 : TyZ Try.prog 96 [] := ⟨by kernel_rfl⟩
instance tby96 : TyBy Try.prog 96 0 := ⟨by kernel_rfl⟩
instance tss96 : TyS Try.prog 96 [(0, 0)] := ⟨by kernel_rfl, by kernel_rfl⟩
instance ty97 : Ty Try.prog 97 0 true := ⟨by kernel_rfl, by kernel_rfl⟩
instance tz97 : TyZ Try.prog 97 [] := ⟨by kernel_rfl⟩
instance tby97 : TyBy Try.prog 97 0 := ⟨by kernel_rfl⟩
instance tss97 : TyS Try.prog 97 [(0, 0)] := ⟨by kernel_rfl, by kernel_rfl⟩
instance ty98 : Ty Try.prog 98 1 false := ⟨by kernel_rfl, by kernel_rfl⟩
instance tz98 : TyZ Try.prog 98 [.int .u32 0] := ⟨by kernel_rfl⟩
instance tby98 : TyBy Try.prog 98 4 := ⟨by kernel_rfl⟩
instance tin98 : TyInt Try.prog 98 .u32 := ⟨by kernel_rfl⟩
instance ty99 : Ty Try.prog 99 1 false := ⟨by kernel_rfl, by kernel_rfl⟩
instance tz99 : TyZ Try.prog 99 [.int .u8 0] := ⟨by kernel_rfl⟩
instance tby99 : TyBy Try.prog 99 1 := ⟨by kernel_rfl⟩
instance tin99 : TyInt Try.prog 99 .u8 := ⟨by kernel_rfl⟩
instance ty100 : Ty Try.prog 100 1 false := ⟨by kernel_rfl, by kernel_rfl⟩
instance tz100 : TyZ Try.prog 100 [.int .u8 0] := ⟨by kernel_rfl⟩
instance tby100 : TyBy Try.prog 100 1 := ⟨by kernel_rfl⟩
instance tin100 : TyInt Try.prog 100 .u8 := ⟨by kernel_rfl⟩
instance ty101 : Ty Try.prog 101 1 false := ⟨by kernel_rfl, by kernel_rfl⟩
instance tz101 : TyZ Try.prog 101 [.nilFunc] := ⟨by kernel_rfl⟩
instance tby101 : TyBy Try.prog 101 8 := ⟨by kernel_rfl⟩
instance ty102 : Ty Try.prog 102 1 false := ⟨by kernel_rfl, by kernel_rfl⟩
instance tz102 : TyZ Try.prog 102 [.pointer none] := ⟨by kernel_rfl⟩
instance tby102 : TyBy Try.prog 102 8 := ⟨by kernel_rfl⟩
instance tpt102 : TyPtr Try.prog 102 5 := ⟨by kernel_rfl⟩
instance ty103 : Ty Try.prog 103 1 false := ⟨by kernel_rfl, by kernel_rfl⟩
instance tz103 : TyZ Try.prog 103 [.int .i32 0] := ⟨by kernel_rfl⟩
instance tby103 : TyBy Try.prog 103 4 := ⟨by kernel_rfl⟩
instance tin103 : TyInt Try.prog 103 .i32 := ⟨by kernel_rfl⟩
instance ty104 : Ty Try.prog 104 1 false := ⟨by kernel_rfl, by kernel_rfl⟩
instance tz104 : TyZ Try.prog 104 [.int .i32 0] := ⟨by kernel_rfl⟩
instance tby104 : TyBy Try.prog 104 4 := ⟨by kernel_rfl⟩
instance tin104 : TyInt Try.prog 104 .i32 := ⟨by kernel_rfl⟩
instance ty105 : Ty Try.prog 105 11 true := ⟨by kernel_rfl, by kernel_rfl⟩
instance tz105 : TyZ Try.prog 105 [.int .u64 0, .int .u64 0, .int .u32 0, .int .u8 0, .int .u8 0, .int .u8 0, .int .u8 0, .nilFunc, .pointer none, .int .i32 0, .int .i32 0] := ⟨by kernel_rfl⟩
instance tby105 : TyBy Try.prog 105 48 := ⟨by kernel_rfl⟩
instance tss105 : TyS Try.prog 105 [(0, 1), (1, 1), (2, 1), (3, 1), (4, 1), (5, 1), (6, 1), (7, 1), (8, 1), (9, 1), (10, 1)] := ⟨by kernel_rfl, by kernel_rfl⟩
instance tf105_0 : TyFld Try.prog 105 0 0 := ⟨fun _ _ => by kernel_rfl⟩
instance tp105_0 : TyPart Try.prog 105 0 0 1 false := ⟨fun _ _ => by kernel_rfl⟩
instance tf105_1 : TyFld Try.prog 105 1 1 := ⟨fun _ _ => by kernel_rfl⟩
instance tp105_1 : TyPart Try.prog 105 1 1 1 false := ⟨fun _ _ => by kernel_rfl⟩
instance tf105_2 : TyFld Try.prog 105 2 2 := ⟨fun _ _ => by kernel_rfl⟩
instance tp105_2 : TyPart Try.prog 105 2 2 1 false := ⟨fun _ _ => by kernel_rfl⟩
instance tf105_3 : TyFld Try.prog 105 3 3 := ⟨fun _ _ => by kernel_rfl⟩
instance tp105_3 : TyPart Try.prog 105 3 3 1 false := ⟨fun _ _ => by kernel_rfl⟩
instance tf105_4 : TyFld Try.prog 105 4 4 := ⟨fun _ _ => by kernel_rfl⟩
instance tp105_4 : TyPart Try.prog 105 4 4 1 false := ⟨fun _ _ => by kernel_rfl⟩
instance tf105_5 : TyFld Try.prog 105 5 5 := ⟨fun _ _ => by kernel_rfl⟩
instance tp105_5 : TyPart Try.prog 105 5 5 1 false := ⟨fun _ _ => by kernel_rfl⟩
instance tf105_6 : TyFld Try.prog 105 6 6 := ⟨fun _ _ => by kernel_rfl⟩
instance tp105_6 : TyPart Try.prog 105 6 6 1 false := ⟨fun _ _ => by kernel_rfl⟩
instance tf105_7 : TyFld Try.prog 105 7 7 := ⟨fun _ _ => by kernel_rfl⟩
instance tp105_7 : TyPart Try.prog 105 7 7 1 false := ⟨fun _ _ => by kernel_rfl⟩
instance tf105_8 : TyFld Try.prog 105 8 8 := ⟨fun _ _ => by kernel_rfl⟩
instance tp105_8 : TyPart Try.prog 105 8 8 1 false := ⟨fun _ _ => by kernel_rfl⟩
instance tf105_9 : TyFld Try.prog 105 9 9 := ⟨fun _ _ => by kernel_rfl⟩
instance tp105_9 : TyPart Try.prog 105 9 9 1 false := ⟨fun _ _ => by kernel_rfl⟩
instance tf105_10 : TyFld Try.prog 105 10 10 := ⟨fun _ _ => by kernel_rfl⟩
instance tp105_10 : TyPart Try.prog 105 10 10 1 false := ⟨fun _ _ => by kernel_rfl⟩
instance ty106 : Ty Try.prog 106 11 true := ⟨by kernel_rfl, by kernel_rfl⟩
instance tz106 : TyZ Try.prog 106 [.int .u64 0, .int .u64 0, .int .u32 0, .int .u8 0, .int .u8 0, .int .u8 0, .int .u8 0, .nilFunc, .pointer none, .int .i32 0, .int .i32 0] := ⟨by kernel_rfl⟩
instance tby106 : TyBy Try.prog 106 48 := ⟨by kernel_rfl⟩
instance tss106 : TyS Try.prog 106 [(0, 1), (1, 1), (2, 1), (3, 1), (4, 1), (5, 1), (6, 1), (7, 1), (8, 1), (9, 1), (10, 1)] := ⟨by kernel_rfl, by kernel_rfl⟩
instance tf106_0 : TyFld Try.prog 106 0 0 := ⟨fun _ _ => by kernel_rfl⟩
instance tp106_0 : TyPart Try.prog 106 0 0 1 false := ⟨fun _ _ => by kernel_rfl⟩
instance tf106_1 : TyFld Try.prog 106 1 1 := ⟨fun _ _ => by kernel_rfl⟩
instance tp106_1 : TyPart Try.prog 106 1 1 1 false := ⟨fun _ _ => by kernel_rfl⟩
instance tf106_2 : TyFld Try.prog 106 2 2 := ⟨fun _ _ => by kernel_rfl⟩
instance tp106_2 : TyPart Try.prog 106 2 2 1 false := ⟨fun _ _ => by kernel_rfl⟩
instance tf106_3 : TyFld Try.prog 106 3 3 := ⟨fun _ _ => by kernel_rfl⟩
instance tp106_3 : TyPart Try.prog 106 3 3 1 false := ⟨fun _ _ => by kernel_rfl⟩
instance tf106_4 : TyFld Try.prog 106 4 4 := ⟨fun _ _ => by kernel_rfl⟩
instance tp106_4 : TyPart Try.prog 106 4 4 1 false := ⟨fun _ _ => by kernel_rfl⟩
instance tf106_5 : TyFld Try.prog 106 5 5 := ⟨fun _ _ => by kernel_rfl⟩
instance tp106_5 : TyPart Try.prog 106 5 5 1 false := ⟨fun _ _ => by kernel_rfl⟩
instance tf106_6 : TyFld Try.prog 106 6 6 := ⟨fun _ _ => by kernel_rfl⟩
instance tp106_6 : TyPart Try.prog 106 6 6 1 false := ⟨fun _ _ => by kernel_rfl⟩
instance tf106_7 : TyFld Try.prog 106 7 7 := ⟨fun _ _ => by kernel_rfl⟩
instance tp106_7 : TyPart Try.prog 106 7 7 1 false := ⟨fun _ _ => by kernel_rfl⟩
instance tf106_8 : TyFld Try.prog 106 8 8 := ⟨fun _ _ => by kernel_rfl⟩
instance tp106_8 : TyPart Try.prog 106 8 8 1 false := ⟨fun _ _ => by kernel_rfl⟩
instance tf106_9 : TyFld Try.prog 106 9 9 := ⟨fun _ _ => by kernel_rfl⟩
instance tp106_9 : TyPart Try.prog 106 9 9 1 false := ⟨fun _ _ => by kernel_rfl⟩
instance tf106_10 : TyFld Try.prog 106 10 10 := ⟨fun _ _ => by kernel_rfl⟩
instance tp106_10 : TyPart Try.prog 106 10 10 1 false := ⟨fun _ _ => by kernel_rfl⟩
instance ty107 : Ty Try.prog 107 1 false := ⟨by kernel_rfl, by kernel_rfl⟩
instance tz107 : TyZ Try.prog 107 [.pointer none] := ⟨by kernel_rfl⟩
instance tby107 : TyBy Try.prog 107 8 := ⟨by kernel_rfl⟩
instance fok3 : FnOk Try.prog 3 := ⟨fun a w => enters_of Try.func3 (by kernel_rfl) rfl a w⟩
instance fok4 : FnOk Try.prog 4 := ⟨fun a w => enters_of Try.func4 (by kernel_rfl) rfl a w⟩
instance fok5 : FnOk Try.prog 5 := ⟨fun a w => enters_of Try.func5 (by kernel_rfl) rfl a w⟩
instance fok6 : FnOk Try.prog 6 := ⟨fun a w => enters_of Try.func6 (by kernel_rfl) rfl a w⟩
instance fok7 : FnOk Try.prog 7 := ⟨fun a w => enters_of Try.func7 (by kernel_rfl) rfl a w⟩
instance fok8 : FnOk Try.prog 8 := ⟨fun a w => enters_of Try.func8 (by kernel_rfl) rfl a w⟩
instance fok9 : FnOk Try.prog 9 := ⟨fun a w => enters_of Try.func9 (by kernel_rfl) rfl a w⟩
instance fok10 : FnOk Try.prog 10 := ⟨fun a w => enters_of Try.func10 (by kernel_rfl) rfl a w⟩
instance fok11 : FnOk Try.prog 11 := ⟨fun a w => enters_of Try.func11 (by kernel_rfl) rfl a w⟩
instance fok12 : FnOk Try.prog 12 := ⟨fun a w => enters_of Try.func12 (by kernel_rfl) rfl a w⟩
instance fok13 : FnOk Try.prog 13 := ⟨fun a w => enters_of Try.func13 (by kernel_rfl) rfl a w⟩
instance fok14 : FnOk Try.prog 14 := ⟨fun a w => enters_of Try.func14 (by kernel_rfl) rfl a w⟩
instance fok15 : FnOk Try.prog 15 := ⟨fun a w => enters_of Try.func15 (by kernel_rfl) rfl a w⟩
instance fok16 : FnOk Try.prog 16 := ⟨fun a w => enters_of Try.func16 (by kernel_rfl) rfl a w⟩
instance fok17 : FnOk Try.prog 17 := ⟨fun a w => enters_of Try.func17 (by kernel_rfl) rfl a w⟩
instance fok18 : FnOk Try.prog 18 := ⟨fun a w => enters_of Try.func18 (by kernel_rfl) rfl a w⟩
instance fok19 : FnOk Try.prog 19 := ⟨fun a w => enters_of Try.func19 (by kernel_rfl) rfl a w⟩
instance fok20 : FnOk Try.prog 20 := ⟨fun a w => enters_of Try.func20 (by kernel_rfl) rfl a w⟩
instance fok21 : FnOk Try.prog 21 := ⟨fun a w => enters_of Try.func21 (by kernel_rfl) rfl a w⟩
instance fok22 : FnOk Try.prog 22 := ⟨fun a w => enters_of Try.func22 (by kernel_rfl) rfl a w⟩
instance fok23 : FnOk Try.prog 23 := ⟨fun a w => enters_of Try.func23 (by kernel_rfl) rfl a w⟩
instance fok24 : FnOk Try.prog 24 := ⟨fun a w => enters_of Try.func24 (by kernel_rfl) rfl a w⟩
instance fok25 : FnOk Try.prog 25 := ⟨fun a w => enters_of Try.func25 (by kernel_rfl) rfl a w⟩
instance fok26 : FnOk Try.prog 26 := ⟨fun a w => enters_of Try.func26 (by kernel_rfl) rfl a w⟩
instance fok27 : FnOk Try.prog 27 := ⟨fun a w => enters_of Try.func27 (by kernel_rfl) rfl a w⟩
instance fok28 : FnOk Try.prog 28 := ⟨fun a w => enters_of Try.func28 (by kernel_rfl) rfl a w⟩
instance fok29 : FnOk Try.prog 29 := ⟨fun a w => enters_of Try.func29 (by kernel_rfl) rfl a w⟩
instance fok30 : FnOk Try.prog 30 := ⟨fun a w => enters_of Try.func30 (by kernel_rfl) rfl a w⟩
instance fok31 : FnOk Try.prog 31 := ⟨fun a w => enters_of Try.func31 (by kernel_rfl) rfl a w⟩
instance fok32 : FnOk Try.prog 32 := ⟨fun a w => enters_of Try.func32 (by kernel_rfl) rfl a w⟩
instance fok33 : FnOk Try.prog 33 := ⟨fun a w => enters_of Try.func33 (by kernel_rfl) rfl a w⟩
instance fok34 : FnOk Try.prog 34 := ⟨fun a w => enters_of Try.func34 (by kernel_rfl) rfl a w⟩
instance fok35 : FnOk Try.prog 35 := ⟨fun a w => enters_of Try.func35 (by kernel_rfl) rfl a w⟩
instance fok36 : FnOk Try.prog 36 := ⟨fun a w => enters_of Try.func36 (by kernel_rfl) rfl a w⟩
instance fok37 : FnOk Try.prog 37 := ⟨fun a w => enters_of Try.func37 (by kernel_rfl) rfl a w⟩
instance fok38 : FnOk Try.prog 38 := ⟨fun a w => enters_of Try.func38 (by kernel_rfl) rfl a w⟩
instance fok39 : FnOk Try.prog 39 := ⟨fun a w => enters_of Try.func39 (by kernel_rfl) rfl a w⟩
instance fok40 : FnOk Try.prog 40 := ⟨fun a w => enters_of Try.func40 (by kernel_rfl) rfl a w⟩
instance fok41 : FnOk Try.prog 41 := ⟨fun a w => enters_of Try.func41 (by kernel_rfl) rfl a w⟩
instance fok42 : FnOk Try.prog 42 := ⟨fun a w => enters_of Try.func42 (by kernel_rfl) rfl a w⟩
instance fok43 : FnOk Try.prog 43 := ⟨fun a w => enters_of Try.func43 (by kernel_rfl) rfl a w⟩
instance fok44 : FnOk Try.prog 44 := ⟨fun a w => enters_of Try.func44 (by kernel_rfl) rfl a w⟩
instance fok45 : FnOk Try.prog 45 := ⟨fun a w => enters_of Try.func45 (by kernel_rfl) rfl a w⟩
instance fok46 : FnOk Try.prog 46 := ⟨fun a w => enters_of Try.func46 (by kernel_rfl) rfl a w⟩
end Go.Proofs.Yteahdmldipokeaa
