/-
  Joined texts; each begins with its own sentence.
-/
import Derived.Test.YtcpfmjlceoiofaaGreatDoorN03
import Derived.Test.YtcpfmjlceoiofaaGreatDoorProg
import Derived.KernelRfl
import Derived.Shelf.Abstract
import Derived.Test.YtcpfmjlceoiofaaGreatDoorN04
import Derived.Lib.Builder
import Derived.Lib.UnsafeStr
import Derived.Laws.Externs
import Derived.Lib.AppendStr
set_option linter.unusedSimpArgs false
set_option linter.unusedVariables false
set_option linter.unusedSectionVars false
/- facts on types and functions, written by a program (gen_ty.py) off the translation -/
namespace Go.Proofs.YtcpfmjlceoiofaaGreatDoor
open Go.RowKit Go.Shelf
instance tf160_0 : TyFld Tryz.prog 160 0 0 := ⟨fun _ _ => by kernel_rfl⟩
instance tz165 : TyZ Tryz.prog 165 [.int .i64 0, .pointer none, .bool false, .int .i64 0, .pointer none, .bool false, .int .i64 0, .pointer none, .bool false, .int .i64 0, .pointer none, .bool false, .int .i64 0, .pointer none, .bool false, .int .i64 0, .pointer none, .bool false, .int .i64 0, .pointer none, .bool false, .int .i64 0, .pointer none, .bool false] := ⟨by kernel_rfl⟩
instance tss165 : TyS Tryz.prog 165 [(0, 24)] := ⟨by kernel_rfl, by kernel_rfl⟩
instance ty169 : Ty Tryz.prog 169 5 true := ⟨by kernel_rfl, by kernel_rfl⟩
instance tz169 : TyZ Tryz.prog 169 [.int .i64 0, .int .i64 0, .int .i64 0, .int .i64 0, .int .i64 0] := ⟨by kernel_rfl⟩
instance tss169 : TyS Tryz.prog 169 [(0, 1), (1, 1), (2, 1), (3, 1), (4, 1)] := ⟨by kernel_rfl, by kernel_rfl⟩
instance tf169_0 : TyFld Tryz.prog 169 0 0 := ⟨fun _ _ => by kernel_rfl⟩
instance tf169_1 : TyFld Tryz.prog 169 1 1 := ⟨fun _ _ => by kernel_rfl⟩
instance tf169_2 : TyFld Tryz.prog 169 2 2 := ⟨fun _ _ => by kernel_rfl⟩
instance tf169_3 : TyFld Tryz.prog 169 3 3 := ⟨fun _ _ => by kernel_rfl⟩
instance tf169_4 : TyFld Tryz.prog 169 4 4 := ⟨fun _ _ => by kernel_rfl⟩
instance tz173 : TyZ Tryz.prog 173 [.pointer none] := ⟨by kernel_rfl⟩
instance tss173 : TyS Tryz.prog 173 [(0, 1)] := ⟨by kernel_rfl, by kernel_rfl⟩
instance ty174 : Ty Tryz.prog 174 1 false := ⟨by kernel_rfl, by kernel_rfl⟩
instance tpt174 : TyPtr Tryz.prog 174 321 := ⟨by kernel_rfl⟩
instance ty177 : Ty Tryz.prog 177 7 true := ⟨by kernel_rfl, by kernel_rfl⟩
instance tz177 : TyZ Tryz.prog 177 [.int .i64 0, .int .i64 0, .int .i64 0, .int .i64 0, .int .i64 0, .int .i64 0, .slice none 0 0] := ⟨by kernel_rfl⟩
instance tss177 : TyS Tryz.prog 177 [(0, 5), (5, 1), (6, 1)] := ⟨by kernel_rfl, by kernel_rfl⟩
instance tf177_0 : TyFld Tryz.prog 177 0 0 := ⟨fun _ _ => by kernel_rfl⟩
instance tf177_2 : TyFld Tryz.prog 177 2 6 := ⟨fun _ _ => by kernel_rfl⟩
instance tz179 : TyZ Tryz.prog 179 [.pointer none] := ⟨by kernel_rfl⟩
instance tss179 : TyS Tryz.prog 179 [(0, 1)] := ⟨by kernel_rfl, by kernel_rfl⟩
instance tf179_0 : TyFld Tryz.prog 179 0 0 := ⟨fun _ _ => by kernel_rfl⟩
instance tz185 : TyZ Tryz.prog 185 [.pointer none] := ⟨by kernel_rfl⟩
instance tss185 : TyS Tryz.prog 185 [(0, 1)] := ⟨by kernel_rfl, by kernel_rfl⟩
instance tf189_0 : TyFld Tryz.prog 189 0 0 := ⟨fun _ _ => by kernel_rfl⟩
instance ty191 : Ty Tryz.prog 191 64 true := ⟨by kernel_rfl, by kernel_rfl⟩
instance tz191 : TyZ Tryz.prog 191 [.int .u8 0, .int .u8 0, .int .u8 0, .int .u8 0, .int .u8 0, .int .u8 0, .int .u8 0, .int .u8 0, .int .u8 0, .int .u8 0, .int .u8 0, .int .u8 0, .int .u8 0, .int .u8 0, .int .u8 0, .int .u8 0, .int .u8 0, .int .u8 0, .int .u8 0, .int .u8 0, .int .u8 0, .int .u8 0, .int .u8 0, .int .u8 0, .int .u8 0, .int .u8 0, .int .u8 0, .int .u8 0, .int .u8 0, .int .u8 0, .int .u8 0, .int .u8 0, .int .u8 0, .int .u8 0, .int .u8 0, .int .u8 0, .int .u8 0, .int .u8 0, .int .u8 0, .int .u8 0, .int .u8 0, .int .u8 0, .int .u8 0, .int .u8 0, .int .u8 0, .int .u8 0, .int .u8 0, .int .u8 0, .int .u8 0, .int .u8 0, .int .u8 0, .int .u8 0, .int .u8 0, .int .u8 0, .int .u8 0, .int .u8 0, .int .u8 0, .int .u8 0, .int .u8 0, .int .u8 0, .int .u8 0, .int .u8 0, .int .u8 0, .int .u8 0] := ⟨by kernel_rfl⟩
instance tar191 : TyArr Tryz.prog 191 64 5 1 := ⟨by kernel_rfl, by kernel_rfl⟩
instance teb191 : TyEqB Tryz.prog 191 64 5 := ⟨by kernel_rfl, by kernel_rfl, by kernel_rfl, by kernel_rfl⟩
instance tz193 : TyZ Tryz.prog 193 [.int .i64 0, .int .u8 0, .int .u8 0, .int .u8 0, .int .u8 0, .int .u8 0, .int .u8 0, .int .u8 0, .int .u8 0, .int .u8 0, .int .u8 0, .int .u8 0, .int .u8 0, .int .u8 0, .int .u8 0, .int .u8 0, .int .u8 0, .int .u8 0, .int .u8 0, .int .u8 0, .int .u8 0, .int .u8 0, .int .u8 0, .int .u8 0, .int .u8 0, .int .u8 0, .int .u8 0, .int .u8 0, .int .u8 0, .int .u8 0, .int .u8 0, .int .u8 0, .int .u8 0, .int .u8 0, .int .u8 0, .int .u8 0, .int .u8 0, .int .u8 0, .int .u8 0, .int .u8 0, .int .u8 0, .int .u8 0, .int .u8 0, .int .u8 0, .int .u8 0, .int .u8 0, .int .u8 0, .int .u8 0, .int .u8 0, .int .u8 0, .int .u8 0, .int .u8 0, .int .u8 0, .int .u8 0, .int .u8 0, .int .u8 0, .int .u8 0, .int .u8 0, .int .u8 0, .int .u8 0, .int .u8 0, .int .u8 0, .int .u8 0, .int .u8 0, .int .u8 0] := ⟨by kernel_rfl⟩
instance tby193 : TyBy Tryz.prog 193 72 := ⟨by kernel_rfl⟩
instance tf193_0 : TyFld Tryz.prog 193 0 0 := ⟨fun _ _ => by kernel_rfl⟩
instance tf193_1 : TyFld Tryz.prog 193 1 1 := ⟨fun _ _ => by kernel_rfl⟩
instance tsl211 : TySl Tryz.prog 211 29 1 := ⟨by kernel_rfl, by kernel_rfl⟩
instance ty215 : Ty Tryz.prog 215 3 true := ⟨by kernel_rfl, by kernel_rfl⟩
instance tz215 : TyZ Tryz.prog 215 [.int .i64 0, .int .i64 0, .int .i64 0] := ⟨by kernel_rfl⟩
instance tss215 : TyS Tryz.prog 215 [(0, 1), (1, 1), (2, 1)] := ⟨by kernel_rfl, by kernel_rfl⟩
instance tf215_0 : TyFld Tryz.prog 215 0 0 := ⟨fun _ _ => by kernel_rfl⟩
instance tf215_1 : TyFld Tryz.prog 215 1 1 := ⟨fun _ _ => by kernel_rfl⟩
instance tf215_2 : TyFld Tryz.prog 215 2 2 := ⟨fun _ _ => by kernel_rfl⟩
instance tes215 : TyEqS Tryz.prog 215 [.int .i64, .int .i64, .int .i64] := ⟨by kernel_rfl, by kernel_rfl, by kernel_rfl, by kernel_rfl⟩
instance ty217 : Ty Tryz.prog 217 1 false := ⟨by kernel_rfl, by kernel_rfl⟩
instance ty272 : Ty Tryz.prog 272 2 true := ⟨by kernel_rfl, by kernel_rfl⟩
instance tz272 : TyZ Tryz.prog 272 [.int .i64 0, .string ⟨#[]⟩] := ⟨by kernel_rfl⟩
instance tby272 : TyBy Tryz.prog 272 24 := ⟨by kernel_rfl⟩
instance tss272 : TyS Tryz.prog 272 [(0, 1), (1, 1)] := ⟨by kernel_rfl, by kernel_rfl⟩
instance tf272_0 : TyFld Tryz.prog 272 0 0 := ⟨fun _ _ => by kernel_rfl⟩
instance tf272_1 : TyFld Tryz.prog 272 1 1 := ⟨fun _ _ => by kernel_rfl⟩
instance tes272 : TyEqS Tryz.prog 272 [.int .i64, .str] := ⟨by kernel_rfl, by kernel_rfl, by kernel_rfl, by kernel_rfl⟩
instance tz316 : TyZ Tryz.prog 316 [.int .i64 0, .int .i64 0, .int .i64 0, .int .i64 0, .int .i64 0, .int .i64 0, .int .i64 0, .slice none 0 0, .bool false, .int .i64 0, .int .i64 0, .int .i64 0, .int .i64 0, .int .i64 0, .int .i64 0, .int .i64 0, .slice none 0 0, .bool false, .int .i64 0, .int .i64 0, .int .i64 0, .int .i64 0, .int .i64 0, .int .i64 0, .int .i64 0, .slice none 0 0, .bool false, .int .i64 0, .int .i64 0, .int .i64 0, .int .i64 0, .int .i64 0, .int .i64 0, .int .i64 0, .slice none 0 0, .bool false, .int .i64 0, .int .i64 0, .int .i64 0, .int .i64 0, .int .i64 0, .int .i64 0, .int .i64 0, .slice none 0 0, .bool false, .int .i64 0, .int .i64 0, .int .i64 0, .int .i64 0, .int .i64 0, .int .i64 0, .int .i64 0, .slice none 0 0, .bool false, .int .i64 0, .int .i64 0, .int .i64 0, .int .i64 0, .int .i64 0, .int .i64 0, .int .i64 0, .slice none 0 0, .bool false, .int .i64 0, .int .i64 0, .int .i64 0, .int .i64 0, .int .i64 0, .int .i64 0, .int .i64 0, .slice none 0 0, .bool false] := ⟨by kernel_rfl⟩
instance tss316 : TyS Tryz.prog 316 [(0, 72)] := ⟨by kernel_rfl, by kernel_rfl⟩
instance tf318_0 : TyFld Tryz.prog 318 0 0 := ⟨fun _ _ => by kernel_rfl⟩
instance tf318_1 : TyFld Tryz.prog 318 1 1 := ⟨fun _ _ => by kernel_rfl⟩
instance tf318_2 : TyFld Tryz.prog 318 2 8 := ⟨fun _ _ => by kernel_rfl⟩
instance tar319 : TyArr Tryz.prog 319 8 318 9 := ⟨by kernel_rfl, by kernel_rfl⟩
instance tz321 : TyZ Tryz.prog 321 [.int .i64 0, .int .i64 0, .int .i64 0, .int .i64 0, .int .i64 0, .int .i64 0, .int .i64 0, .slice none 0 0, .bool false, .int .i64 0, .int .i64 0, .int .i64 0, .int .i64 0, .int .i64 0, .int .i64 0, .int .i64 0, .slice none 0 0, .bool false, .int .i64 0, .int .i64 0, .int .i64 0, .int .i64 0, .int .i64 0, .int .i64 0, .int .i64 0, .slice none 0 0, .bool false, .int .i64 0, .int .i64 0, .int .i64 0, .int .i64 0, .int .i64 0, .int .i64 0, .int .i64 0, .slice none 0 0, .bool false, .int .i64 0, .int .i64 0, .int .i64 0, .int .i64 0, .int .i64 0, .int .i64 0, .int .i64 0, .slice none 0 0, .bool false, .int .i64 0, .int .i64 0, .int .i64 0, .int .i64 0, .int .i64 0, .int .i64 0, .int .i64 0, .slice none 0 0, .bool false, .int .i64 0, .int .i64 0, .int .i64 0, .int .i64 0, .int .i64 0, .int .i64 0, .int .i64 0, .slice none 0 0, .bool false, .int .i64 0, .int .i64 0, .int .i64 0, .int .i64 0, .int .i64 0, .int .i64 0, .int .i64 0, .slice none 0 0, .bool false] := ⟨by kernel_rfl⟩
instance tss321 : TyS Tryz.prog 321 [(0, 72)] := ⟨by kernel_rfl, by kernel_rfl⟩
instance tf321_0 : TyFld Tryz.prog 321 0 0 := ⟨fun _ _ => by kernel_rfl⟩
instance tz326 : TyZ Tryz.prog 326 [.int .i64 0, .int .i64 0, .int .i64 0, .int .i64 0, .int .i64 0, .int .i64 0, .int .i64 0, .slice none 0 0, .int .i64 0, .bool false, .bool false, .int .i64 0, .int .i64 0, .int .i64 0, .int .i64 0, .int .i64 0, .int .i64 0, .int .i64 0, .slice none 0 0, .int .i64 0, .bool false, .bool false, .int .i64 0, .int .i64 0, .int .i64 0, .int .i64 0, .int .i64 0, .int .i64 0, .int .i64 0, .slice none 0 0, .int .i64 0, .bool false, .bool false, .int .i64 0, .int .i64 0, .int .i64 0, .int .i64 0, .int .i64 0, .int .i64 0, .int .i64 0, .slice none 0 0, .int .i64 0, .bool false, .bool false, .int .i64 0, .int .i64 0, .int .i64 0, .int .i64 0, .int .i64 0, .int .i64 0, .int .i64 0, .slice none 0 0, .int .i64 0, .bool false, .bool false, .int .i64 0, .int .i64 0, .int .i64 0, .int .i64 0, .int .i64 0, .int .i64 0, .int .i64 0, .slice none 0 0, .int .i64 0, .bool false, .bool false, .int .i64 0, .int .i64 0, .int .i64 0, .int .i64 0, .int .i64 0, .int .i64 0, .int .i64 0, .slice none 0 0, .int .i64 0, .bool false, .bool false, .int .i64 0, .int .i64 0, .int .i64 0, .int .i64 0, .int .i64 0, .int .i64 0, .int .i64 0, .slice none 0 0, .int .i64 0, .bool false, .bool false] := ⟨by kernel_rfl⟩
instance tss326 : TyS Tryz.prog 326 [(0, 88)] := ⟨by kernel_rfl, by kernel_rfl⟩
instance ty341 : Ty Tryz.prog 341 1 false := ⟨by kernel_rfl, by kernel_rfl⟩
instance tpt341 : TyPtr Tryz.prog 341 345 := ⟨by kernel_rfl⟩
end Go.Proofs.YtcpfmjlceoiofaaGreatDoor

/- facts on types and functions, written by a program (gen_ty.py) off the translation -/
namespace Go.Proofs.YtcpfmjlceoiofaaGreatDoor
open Go.RowKit Go.Shelf
instance ty362 : Ty Tryz.prog 362 1 false := ⟨by kernel_rfl, by kernel_rfl⟩
instance ty439 : Ty Tryz.prog 439 3 true := ⟨by kernel_rfl, by kernel_rfl⟩
instance tz439 : TyZ Tryz.prog 439 [.int .i64 0, .int .i64 0, .bool false] := ⟨by kernel_rfl⟩
instance tby439 : TyBy Tryz.prog 439 24 := ⟨by kernel_rfl⟩
instance ty464 : Ty Tryz.prog 464 2 true := ⟨by kernel_rfl, by kernel_rfl⟩
instance tz464 : TyZ Tryz.prog 464 [.int .i64 0, .int .i64 0] := ⟨by kernel_rfl⟩
instance tss464 : TyS Tryz.prog 464 [(0, 1), (1, 1)] := ⟨by kernel_rfl, by kernel_rfl⟩
instance tf464_0 : TyFld Tryz.prog 464 0 0 := ⟨fun _ _ => by kernel_rfl⟩
instance tf464_1 : TyFld Tryz.prog 464 1 1 := ⟨fun _ _ => by kernel_rfl⟩
instance tp464_1 : TyPart Tryz.prog 464 1 1 1 false := ⟨fun _ _ => by kernel_rfl⟩
instance tes464 : TyEqS Tryz.prog 464 [.int .i64, .int .i64] := ⟨by kernel_rfl, by kernel_rfl, by kernel_rfl, by kernel_rfl⟩
instance ty469 : Ty Tryz.prog 469 2 true := ⟨by kernel_rfl, by kernel_rfl⟩
instance tz469 : TyZ Tryz.prog 469 [.int .i64 0, .int .i64 0] := ⟨by kernel_rfl⟩
instance tss469 : TyS Tryz.prog 469 [(0, 1), (1, 1)] := ⟨by kernel_rfl, by kernel_rfl⟩
instance tf469_0 : TyFld Tryz.prog 469 0 0 := ⟨fun _ _ => by kernel_rfl⟩
instance tf469_1 : TyFld Tryz.prog 469 1 1 := ⟨fun _ _ => by kernel_rfl⟩
instance tz480 : TyZ Tryz.prog 480 [.pointer none, .pointer none, .pointer none, .pointer none, .pointer none, .pointer none, .pointer none, .pointer none] := ⟨by kernel_rfl⟩
instance tar480 : TyArr Tryz.prog 480 8 341 1 := ⟨by kernel_rfl, by kernel_rfl⟩
instance ty536 : Ty Tryz.prog 536 1 false := ⟨by kernel_rfl, by kernel_rfl⟩
end Go.Proofs.YtcpfmjlceoiofaaGreatDoor

/- facts on types and functions, written by a program (gen_ty.py) off the translation -/
namespace Go.Proofs.YtcpfmjlceoiofaaGreatDoor
open Go.RowKit Go.Shelf
instance fok8 : FnOk Tryz.prog 8 := ⟨fun a w => enters_of Tryz.func8 (by kernel_rfl) rfl a w⟩
instance fok9 : FnOk Tryz.prog 9 := ⟨fun a w => enters_of Tryz.func9 (by kernel_rfl) rfl a w⟩
instance fok11 : FnOk Tryz.prog 11 := ⟨fun a w => enters_of Tryz.func11 (by kernel_rfl) rfl a w⟩
instance fok12 : FnOk Tryz.prog 12 := ⟨fun a w => enters_of Tryz.func12 (by kernel_rfl) rfl a w⟩
instance fok13 : FnOk Tryz.prog 13 := ⟨fun a w => enters_of Tryz.func13 (by kernel_rfl) rfl a w⟩
instance fok14 : FnOk Tryz.prog 14 := ⟨fun a w => enters_of Tryz.func14 (by kernel_rfl) rfl a w⟩
instance fok17 : FnOk Tryz.prog 17 := ⟨fun a w => enters_of Tryz.func17 (by kernel_rfl) rfl a w⟩
instance fok19 : FnOk Tryz.prog 19 := ⟨fun a w => enters_of Tryz.func19 (by kernel_rfl) rfl a w⟩
instance fok21 : FnOk Tryz.prog 21 := ⟨fun a w => enters_of Tryz.func21 (by kernel_rfl) rfl a w⟩
instance fok22 : FnOk Tryz.prog 22 := ⟨fun a w => enters_of Tryz.func22 (by kernel_rfl) rfl a w⟩
instance fok23 : FnOk Tryz.prog 23 := ⟨fun a w => enters_of Tryz.func23 (by kernel_rfl) rfl a w⟩
instance fok24 : FnOk Tryz.prog 24 := ⟨fun a w => enters_of Tryz.func24 (by kernel_rfl) rfl a w⟩
instance fok25 : FnOk Tryz.prog 25 := ⟨fun a w => enters_of Tryz.func25 (by kernel_rfl) rfl a w⟩
instance fok26 : FnOk Tryz.prog 26 := ⟨fun a w => enters_of Tryz.func26 (by kernel_rfl) rfl a w⟩
instance fok27 : FnOk Tryz.prog 27 := ⟨fun a w => enters_of Tryz.func27 (by kernel_rfl) rfl a w⟩
instance fok28 : FnOk Tryz.prog 28 := ⟨fun a w => enters_of Tryz.func28 (by kernel_rfl) rfl a w⟩
instance fok29 : FnOk Tryz.prog 29 := ⟨fun a w => enters_of Tryz.func29 (by kernel_rfl) rfl a w⟩
instance fok30 : FnOk Tryz.prog 30 := ⟨fun a w => enters_of Tryz.func30 (by kernel_rfl) rfl a w⟩
instance fok31 : FnOk Tryz.prog 31 := ⟨fun a w => enters_of Tryz.func31 (by kernel_rfl) rfl a w⟩
instance fok32 : FnOk Tryz.prog 32 := ⟨fun a w => enters_of Tryz.func32 (by kernel_rfl) rfl a w⟩
instance fok33 : FnOk Tryz.prog 33 := ⟨fun a w => enters_of Tryz.func33 (by kernel_rfl) rfl a w⟩
instance fok34 : FnOk Tryz.prog 34 := ⟨fun a w => enters_of Tryz.func34 (by kernel_rfl) rfl a w⟩
instance fok35 : FnOk Tryz.prog 35 := ⟨fun a w => enters_of Tryz.func35 (by kernel_rfl) rfl a w⟩
instance fok36 : FnOk Tryz.prog 36 := ⟨fun a w => enters_of Tryz.func36 (by kernel_rfl) rfl a w⟩
instance fok37 : FnOk Tryz.prog 37 := ⟨fun a w => enters_of Tryz.func37 (by kernel_rfl) rfl a w⟩
instance fok38 : FnOk Tryz.prog 38 := ⟨fun a w => enters_of Tryz.func38 (by kernel_rfl) rfl a w⟩
instance fok39 : FnOk Tryz.prog 39 := ⟨fun a w => enters_of Tryz.func39 (by kernel_rfl) rfl a w⟩
instance fok40 : FnOk Tryz.prog 40 := ⟨fun a w => enters_of Tryz.func40 (by kernel_rfl) rfl a w⟩
instance fok41 : FnOk Tryz.prog 41 := ⟨fun a w => enters_of Tryz.func41 (by kernel_rfl) rfl a w⟩
instance fok42 : FnOk Tryz.prog 42 := ⟨fun a w => enters_of Tryz.func42 (by kernel_rfl) rfl a w⟩
instance fok43 : FnOk Tryz.prog 43 := ⟨fun a w => enters_of Tryz.func43 (by kernel_rfl) rfl a w⟩
instance fok44 : FnOk Tryz.prog 44 := ⟨fun a w => enters_of Tryz.func44 (by kernel_rfl) rfl a w⟩
instance fok45 : FnOk Tryz.prog 45 := ⟨fun a w => enters_of Tryz.func45 (by kernel_rfl) rfl a w⟩
instance fok46 : FnOk Tryz.prog 46 := ⟨fun a w => enters_of Tryz.func46 (by kernel_rfl) rfl a w⟩
instance fok48 : FnOk Tryz.prog 48 := ⟨fun a w => enters_of Tryz.func48 (by kernel_rfl) rfl a w⟩
instance fok49 : FnOk Tryz.prog 49 := ⟨fun a w => enters_of Tryz.func49 (by kernel_rfl) rfl a w⟩
instance fok50 : FnOk Tryz.prog 50 := ⟨fun a w => enters_of Tryz.func50 (by kernel_rfl) rfl a w⟩
instance fok57 : FnOk Tryz.prog 57 := ⟨fun a w => enters_of Tryz.func57 (by kernel_rfl) rfl a w⟩
instance fok58 : FnOk Tryz.prog 58 := ⟨fun a w => enters_of Tryz.func58 (by kernel_rfl) rfl a w⟩
instance fok67 : FnOk Tryz.prog 67 := ⟨fun a w => enters_of Tryz.func67 (by kernel_rfl) rfl a w⟩
instance fok68 : FnOk Tryz.prog 68 := ⟨fun a w => enters_of Tryz.func68 (by kernel_rfl) rfl a w⟩
instance fok69 : FnOk Tryz.prog 69 := ⟨fun a w => enters_of Tryz.func69 (by kernel_rfl) rfl a w⟩
instance fok75 : FnOk Tryz.prog 75 := ⟨fun a w => enters_of Tryz.func75 (by kernel_rfl) rfl a w⟩
instance fok77 : FnOk Tryz.prog 77 := ⟨fun a w => enters_of Tryz.func77 (by kernel_rfl) rfl a w⟩
instance fok78 : FnOk Tryz.prog 78 := ⟨fun a w => enters_of Tryz.func78 (by kernel_rfl) rfl a w⟩
instance fok79 : FnOk Tryz.prog 79 := ⟨fun a w => enters_of Tryz.func79 (by kernel_rfl) rfl a w⟩
instance fok80 : FnOk Tryz.prog 80 := ⟨fun a w => enters_of Tryz.func80 (by kernel_rfl) rfl a w⟩
instance fok81 : FnOk Tryz.prog 81 := ⟨fun a w => enters_of Tryz.func81 (by kernel_rfl) rfl a w⟩
instance fok82 : FnOk Tryz.prog 82 := ⟨fun a w => enters_of Tryz.func82 (by kernel_rfl) rfl a w⟩
instance fok83 : FnOk Tryz.prog 83 := ⟨fun a w => enters_of Tryz.func83 (by kernel_rfl) rfl a w⟩
instance fok84 : FnOk Tryz.prog 84 := ⟨fun a w => enters_of Tryz.func84 (by kernel_rfl) rfl a w⟩
instance fok85 : FnOk Tryz.prog 85 := ⟨fun a w => enters_of Tryz.func85 (by kernel_rfl) rfl a w⟩
instance fok86 : FnOk Tryz.prog 86 := ⟨fun a w => enters_of Tryz.func86 (by kernel_rfl) rfl a w⟩
instance fok87 : FnOk Tryz.prog 87 := ⟨fun a w => enters_of Tryz.func87 (by kernel_rfl) rfl a w⟩
instance fok88 : FnOk Tryz.prog 88 := ⟨fun a w => enters_of Tryz.func88 (by kernel_rfl) rfl a w⟩
instance fok89 : FnOk Tryz.prog 89 := ⟨fun a w => enters_of Tryz.func89 (by kernel_rfl) rfl a w⟩
instance fok90 : FnOk Tryz.prog 90 := ⟨fun a w => enters_of Tryz.func90 (by kernel_rfl) rfl a w⟩
instance fok91 : FnOk Tryz.prog 91 := ⟨fun a w => enters_of Tryz.func91 (by kernel_rfl) rfl a w⟩
instance fok98 : FnOk Tryz.prog 98 := ⟨fun a w => enters_of Tryz.func98 (by kernel_rfl) rfl a w⟩
instance fok99 : FnOk Tryz.prog 99 := ⟨fun a w => enters_of Tryz.func99 (by kernel_rfl) rfl a w⟩
instance fok100 : FnOk Tryz.prog 100 := ⟨fun a w => enters_of Tryz.func100 (by kernel_rfl) rfl a w⟩
instance fok101 : FnOk Tryz.prog 101 := ⟨fun a w => enters_of Tryz.func101 (by kernel_rfl) rfl a w⟩
instance fok102 : FnOk Tryz.prog 102 := ⟨fun a w => enters_of Tryz.func102 (by kernel_rfl) rfl a w⟩
instance fok103 : FnOk Tryz.prog 103 := ⟨fun a w => enters_of Tryz.func103 (by kernel_rfl) rfl a w⟩
instance fok104 : FnOk Tryz.prog 104 := ⟨fun a w => enters_of Tryz.func104 (by kernel_rfl) rfl a w⟩
instance fok105 : FnOk Tryz.prog 105 := ⟨fun a w => enters_of Tryz.func105 (by kernel_rfl) rfl a w⟩
instance fok107 : FnOk Tryz.prog 107 := ⟨fun a w => enters_of Tryz.func107 (by kernel_rfl) rfl a w⟩
instance fok109 : FnOk Tryz.prog 109 := ⟨fun a w => enters_of Tryz.func109 (by kernel_rfl) rfl a w⟩
instance fok110 : FnOk Tryz.prog 110 := ⟨fun a w => enters_of Tryz.func110 (by kernel_rfl) rfl a w⟩
instance fok114 : FnOk Tryz.prog 114 := ⟨fun a w => enters_of Tryz.func114 (by kernel_rfl) rfl a w⟩
instance fok120 : FnOk Tryz.prog 120 := ⟨fun a w => enters_of Tryz.func120 (by kernel_rfl) rfl a w⟩
instance fok143 : FnOk Tryz.prog 143 := ⟨fun a w => enters_of Tryz.func143 (by kernel_rfl) rfl a w⟩
instance fok144 : FnOk Tryz.prog 144 := ⟨fun a w => enters_of Tryz.func144 (by kernel_rfl) rfl a w⟩
instance fok145 : FnOk Tryz.prog 145 := ⟨fun a w => enters_of Tryz.func145 (by kernel_rfl) rfl a w⟩
instance fok146 : FnOk Tryz.prog 146 := ⟨fun a w => enters_of Tryz.func146 (by kernel_rfl) rfl a w⟩
instance fok147 : FnOk Tryz.prog 147 := ⟨fun a w => enters_of Tryz.func147 (by kernel_rfl) rfl a w⟩
instance fok148 : FnOk Tryz.prog 148 := ⟨fun a w => enters_of Tryz.func148 (by kernel_rfl) rfl a w⟩
instance fok165 : FnOk Tryz.prog 165 := ⟨fun a w => enters_of Tryz.func165 (by kernel_rfl) rfl a w⟩
instance fok167 : FnOk Tryz.prog 167 := ⟨fun a w => enters_of Tryz.func167 (by kernel_rfl) rfl a w⟩
instance fok168 : FnOk Tryz.prog 168 := ⟨fun a w => enters_of Tryz.func168 (by kernel_rfl) rfl a w⟩
instance fok169 : FnOk Tryz.prog 169 := ⟨fun a w => enters_of Tryz.func169 (by kernel_rfl) rfl a w⟩
instance fok170 : FnOk Tryz.prog 170 := ⟨fun a w => enters_of Tryz.func170 (by kernel_rfl) rfl a w⟩
instance fok171 : FnOk Tryz.prog 171 := ⟨fun a w => enters_of Tryz.func171 (by kernel_rfl) rfl a w⟩
instance fok172 : FnOk Tryz.prog 172 := ⟨fun a w => enters_of Tryz.func172 (by kernel_rfl) rfl a w⟩
instance fok173 : FnOk Tryz.prog 173 := ⟨fun a w => enters_of Tryz.func173 (by kernel_rfl) rfl a w⟩
instance fok174 : FnOk Tryz.prog 174 := ⟨fun a w => enters_of Tryz.func174 (by kernel_rfl) rfl a w⟩
instance fok175 : FnOk Tryz.prog 175 := ⟨fun a w => enters_of Tryz.func175 (by kernel_rfl) rfl a w⟩
instance fok176 : FnOk Tryz.prog 176 := ⟨fun a w => enters_of Tryz.func176 (by kernel_rfl) rfl a w⟩
instance fok177 : FnOk Tryz.prog 177 := ⟨fun a w => enters_of Tryz.func177 (by kernel_rfl) rfl a w⟩
instance fok178 : FnOk Tryz.prog 178 := ⟨fun a w => enters_of Tryz.func178 (by kernel_rfl) rfl a w⟩
instance fok179 : FnOk Tryz.prog 179 := ⟨fun a w => enters_of Tryz.func179 (by kernel_rfl) rfl a w⟩
instance fok180 : FnOk Tryz.prog 180 := ⟨fun a w => enters_of Tryz.func180 (by kernel_rfl) rfl a w⟩
instance fok181 : FnOk Tryz.prog 181 := ⟨fun a w => enters_of Tryz.func181 (by kernel_rfl) rfl a w⟩
instance fok188 : FnOk Tryz.prog 188 := ⟨fun a w => enters_of Tryz.func188 (by kernel_rfl) rfl a w⟩
instance fok189 : FnOk Tryz.prog 189 := ⟨fun a w => enters_of Tryz.func189 (by kernel_rfl) rfl a w⟩
instance fok190 : FnOk Tryz.prog 190 := ⟨fun a w => enters_of Tryz.func190 (by kernel_rfl) rfl a w⟩
instance fok191 : FnOk Tryz.prog 191 := ⟨fun a w => enters_of Tryz.func191 (by kernel_rfl) rfl a w⟩
instance fok192 : FnOk Tryz.prog 192 := ⟨fun a w => enters_of Tryz.func192 (by kernel_rfl) rfl a w⟩
instance fok193 : FnOk Tryz.prog 193 := ⟨fun a w => enters_of Tryz.func193 (by kernel_rfl) rfl a w⟩
instance fok194 : FnOk Tryz.prog 194 := ⟨fun a w => enters_of Tryz.func194 (by kernel_rfl) rfl a w⟩
instance fok195 : FnOk Tryz.prog 195 := ⟨fun a w => enters_of Tryz.func195 (by kernel_rfl) rfl a w⟩
instance fok196 : FnOk Tryz.prog 196 := ⟨fun a w => enters_of Tryz.func196 (by kernel_rfl) rfl a w⟩
instance fok198 : FnOk Tryz.prog 198 := ⟨fun a w => enters_of Tryz.func198 (by kernel_rfl) rfl a w⟩
instance fok199 : FnOk Tryz.prog 199 := ⟨fun a w => enters_of Tryz.func199 (by kernel_rfl) rfl a w⟩
instance fok200 : FnOk Tryz.prog 200 := ⟨fun a w => enters_of Tryz.func200 (by kernel_rfl) rfl a w⟩
instance fok201 : FnOk Tryz.prog 201 := ⟨fun a w => enters_of Tryz.func201 (by kernel_rfl) rfl a w⟩
instance fok211 : FnOk Tryz.prog 211 := ⟨fun a w => enters_of Tryz.func211 (by kernel_rfl) rfl a w⟩
instance fok212 : FnOk Tryz.prog 212 := ⟨fun a w => enters_of Tryz.func212 (by kernel_rfl) rfl a w⟩
instance fok213 : FnOk Tryz.prog 213 := ⟨fun a w => enters_of Tryz.func213 (by kernel_rfl) rfl a w⟩
instance fok226 : FnOk Tryz.prog 226 := ⟨fun a w => enters_of Tryz.func226 (by kernel_rfl) rfl a w⟩
instance fok227 : FnOk Tryz.prog 227 := ⟨fun a w => enters_of Tryz.func227 (by kernel_rfl) rfl a w⟩
instance fok228 : FnOk Tryz.prog 228 := ⟨fun a w => enters_of Tryz.func228 (by kernel_rfl) rfl a w⟩
instance fok229 : FnOk Tryz.prog 229 := ⟨fun a w => enters_of Tryz.func229 (by kernel_rfl) rfl a w⟩
instance fok235 : FnOk Tryz.prog 235 := ⟨fun a w => enters_of Tryz.func235 (by kernel_rfl) rfl a w⟩
instance fok236 : FnOk Tryz.prog 236 := ⟨fun a w => enters_of Tryz.func236 (by kernel_rfl) rfl a w⟩
instance fok254 : FnOk Tryz.prog 254 := ⟨fun a w => enters_of Tryz.func254 (by kernel_rfl) rfl a w⟩
instance fok255 : FnOk Tryz.prog 255 := ⟨fun a w => enters_of Tryz.func255 (by kernel_rfl) rfl a w⟩
instance fok256 : FnOk Tryz.prog 256 := ⟨fun a w => enters_of Tryz.func256 (by kernel_rfl) rfl a w⟩
instance fok257 : FnOk Tryz.prog 257 := ⟨fun a w => enters_of Tryz.func257 (by kernel_rfl) rfl a w⟩
instance fok258 : FnOk Tryz.prog 258 := ⟨fun a w => enters_of Tryz.func258 (by kernel_rfl) rfl a w⟩
instance fok259 : FnOk Tryz.prog 259 := ⟨fun a w => enters_of Tryz.func259 (by kernel_rfl) rfl a w⟩
instance fok260 : FnOk Tryz.prog 260 := ⟨fun a w => enters_of Tryz.func260 (by kernel_rfl) rfl a w⟩
instance fok261 : FnOk Tryz.prog 261 := ⟨fun a w => enters_of Tryz.func261 (by kernel_rfl) rfl a w⟩
instance fok262 : FnOk Tryz.prog 262 := ⟨fun a w => enters_of Tryz.func262 (by kernel_rfl) rfl a w⟩
instance fok275 : FnOk Tryz.prog 275 := ⟨fun a w => enters_of Tryz.func275 (by kernel_rfl) rfl a w⟩
instance fok285 : FnOk Tryz.prog 285 := ⟨fun a w => enters_of Tryz.func285 (by kernel_rfl) rfl a w⟩
instance fok288 : FnOk Tryz.prog 288 := ⟨fun a w => enters_of Tryz.func288 (by kernel_rfl) rfl a w⟩
instance fok290 : FnOk Tryz.prog 290 := ⟨fun a w => enters_of Tryz.func290 (by kernel_rfl) rfl a w⟩
instance fok291 : FnOk Tryz.prog 291 := ⟨fun a w => enters_of Tryz.func291 (by kernel_rfl) rfl a w⟩
instance fok292 : FnOk Tryz.prog 292 := ⟨fun a w => enters_of Tryz.func292 (by kernel_rfl) rfl a w⟩
instance fok295 : FnOk Tryz.prog 295 := ⟨fun a w => enters_of Tryz.func295 (by kernel_rfl) rfl a w⟩
instance fok296 : FnOk Tryz.prog 296 := ⟨fun a w => enters_of Tryz.func296 (by kernel_rfl) rfl a w⟩
instance fok297 : FnOk Tryz.prog 297 := ⟨fun a w => enters_of Tryz.func297 (by kernel_rfl) rfl a w⟩
instance fok298 : FnOk Tryz.prog 298 := ⟨fun a w => enters_of Tryz.func298 (by kernel_rfl) rfl a w⟩
instance fok299 : FnOk Tryz.prog 299 := ⟨fun a w => enters_of Tryz.func299 (by kernel_rfl) rfl a w⟩
instance fok300 : FnOk Tryz.prog 300 := ⟨fun a w => enters_of Tryz.func300 (by kernel_rfl) rfl a w⟩
instance fok301 : FnOk Tryz.prog 301 := ⟨fun a w => enters_of Tryz.func301 (by kernel_rfl) rfl a w⟩
instance fok302 : FnOk Tryz.prog 302 := ⟨fun a w => enters_of Tryz.func302 (by kernel_rfl) rfl a w⟩
instance fok303 : FnOk Tryz.prog 303 := ⟨fun a w => enters_of Tryz.func303 (by kernel_rfl) rfl a w⟩
instance fok304 : FnOk Tryz.prog 304 := ⟨fun a w => enters_of Tryz.func304 (by kernel_rfl) rfl a w⟩
instance fok308 : FnOk Tryz.prog 308 := ⟨fun a w => enters_of Tryz.func308 (by kernel_rfl) rfl a w⟩
instance fok309 : FnOk Tryz.prog 309 := ⟨fun a w => enters_of Tryz.func309 (by kernel_rfl) rfl a w⟩
instance fok310 : FnOk Tryz.prog 310 := ⟨fun a w => enters_of Tryz.func310 (by kernel_rfl) rfl a w⟩
instance fok311 : FnOk Tryz.prog 311 := ⟨fun a w => enters_of Tryz.func311 (by kernel_rfl) rfl a w⟩
instance fok312 : FnOk Tryz.prog 312 := ⟨fun a w => enters_of Tryz.func312 (by kernel_rfl) rfl a w⟩
instance fok317 : FnOk Tryz.prog 317 := ⟨fun a w => enters_of Tryz.func317 (by kernel_rfl) rfl a w⟩
instance fok344 : FnOk Tryz.prog 344 := ⟨fun a w => enters_of Tryz.func344 (by kernel_rfl) rfl a w⟩
instance fok345 : FnOk Tryz.prog 345 := ⟨fun a w => enters_of Tryz.func345 (by kernel_rfl) rfl a w⟩
instance fok346 : FnOk Tryz.prog 346 := ⟨fun a w => enters_of Tryz.func346 (by kernel_rfl) rfl a w⟩
instance fok347 : FnOk Tryz.prog 347 := ⟨fun a w => enters_of Tryz.func347 (by kernel_rfl) rfl a w⟩
instance fok348 : FnOk Tryz.prog 348 := ⟨fun a w => enters_of Tryz.func348 (by kernel_rfl) rfl a w⟩
instance fok349 : FnOk Tryz.prog 349 := ⟨fun a w => enters_of Tryz.func349 (by kernel_rfl) rfl a w⟩
instance fok350 : FnOk Tryz.prog 350 := ⟨fun a w => enters_of Tryz.func350 (by kernel_rfl) rfl a w⟩
instance fok351 : FnOk Tryz.prog 351 := ⟨fun a w => enters_of Tryz.func351 (by kernel_rfl) rfl a w⟩
instance fok352 : FnOk Tryz.prog 352 := ⟨fun a w => enters_of Tryz.func352 (by kernel_rfl) rfl a w⟩
instance fok353 : FnOk Tryz.prog 353 := ⟨fun a w => enters_of Tryz.func353 (by kernel_rfl) rfl a w⟩
instance fok362 : FnOk Tryz.prog 362 := ⟨fun a w => enters_of Tryz.func362 (by kernel_rfl) rfl a w⟩
instance fok378 : FnOk Tryz.prog 378 := ⟨fun a w => enters_of Tryz.func378 (by kernel_rfl) rfl a w⟩
instance fok379 : FnOk Tryz.prog 379 := ⟨fun a w => enters_of Tryz.func379 (by kernel_rfl) rfl a w⟩
instance fok380 : FnOk Tryz.prog 380 := ⟨fun a w => enters_of Tryz.func380 (by kernel_rfl) rfl a w⟩
instance fok381 : FnOk Tryz.prog 381 := ⟨fun a w => enters_of Tryz.func381 (by kernel_rfl) rfl a w⟩
instance fok384 : FnOk Tryz.prog 384 := ⟨fun a w => enters_of Tryz.func384 (by kernel_rfl) rfl a w⟩
instance fok385 : FnOk Tryz.prog 385 := ⟨fun a w => enters_of Tryz.func385 (by kernel_rfl) rfl a w⟩
instance fok404 : FnOk Tryz.prog 404 := ⟨fun a w => enters_of Tryz.func404 (by kernel_rfl) rfl a w⟩
instance fok405 : FnOk Tryz.prog 405 := ⟨fun a w => enters_of Tryz.func405 (by kernel_rfl) rfl a w⟩
instance fok406 : FnOk Tryz.prog 406 := ⟨fun a w => enters_of Tryz.func406 (by kernel_rfl) rfl a w⟩
instance fok407 : FnOk Tryz.prog 407 := ⟨fun a w => enters_of Tryz.func407 (by kernel_rfl) rfl a w⟩
instance fok408 : FnOk Tryz.prog 408 := ⟨fun a w => enters_of Tryz.func408 (by kernel_rfl) rfl a w⟩
instance fok409 : FnOk Tryz.prog 409 := ⟨fun a w => enters_of Tryz.func409 (by kernel_rfl) rfl a w⟩
instance fok410 : FnOk Tryz.prog 410 := ⟨fun a w => enters_of Tryz.func410 (by kernel_rfl) rfl a w⟩
instance fok433 : FnOk Tryz.prog 433 := ⟨fun a w => enters_of Tryz.func433 (by kernel_rfl) rfl a w⟩
instance fok439 : FnOk Tryz.prog 439 := ⟨fun a w => enters_of Tryz.func439 (by kernel_rfl) rfl a w⟩
instance fok440 : FnOk Tryz.prog 440 := ⟨fun a w => enters_of Tryz.func440 (by kernel_rfl) rfl a w⟩
instance fok441 : FnOk Tryz.prog 441 := ⟨fun a w => enters_of Tryz.func441 (by kernel_rfl) rfl a w⟩
end Go.Proofs.YtcpfmjlceoiofaaGreatDoor

/- facts on types and functions, written by a program (gen_ty.py) off the translation -/

/-
  The walk's own small calculus, thirteenth part: calls on an opaque tail of the heap; strings.Builder's operations.
-/
namespace Go.Proofs.YtcpfmjlceoiofaaGreatDoor
open Go.RowKit
section rules
variable {X : Cx} {Q : PostT} {l : St} {ds : List Deferred} {H : Hp} {ops : Array Oper} {rest : List Oper}
variable {d ty : Nat} {pos : String} {after : Array Edge}
end rules
end Go.Proofs.YtcpfmjlceoiofaaGreatDoor

/-
  The walk's own small calculus, fifteenth part: range over a function that turns a block of its own between the rounds; bytes of a string appended.
-/
namespace Go.Proofs.YtcpfmjlceoiofaaGreatDoor
open Go.RowKit
/-- A PROMISE OF AN ITERATOR, with what holds at yield (I) and behind the round (J); C: what it needs of both. -/
def IterOkC (P : Program) (gf : FuncId) (cap : List Value) {σ : Type} (C : (σ → Hp → Prop) → (σ → Hp → Prop) → Prop) (ok : σ → Prop) (vals : σ → List Value) (fin : σ → Prop) (s0 : σ) : Prop :=
  ∀ (y : Nat) (I J : σ → Hp → Prop) (S : Hp → Prop), C I J →
    (∀ s H, I s H → ok s → YSpec P y (vals s) H (fun b H' => (b = true ∧ J s H') ∨ (b = false ∧ S H'))) →
    ∀ H, I s0 H → Spec P gf (.func (.yield y) #[] #[] :: cap) H (fun _ H' => (∃ s, fin s ∧ I s H') ∨ S H')
section rules
variable {X : Cx} {Q : PostT} {l : St} {ds : List Deferred} {H : Hp}
theorem W_rangeC {g : Operand} {ps : List Nat} {assign body : Code} {gf : FuncId} {cap : List Value} {σ : Type} {C : (σ → Hp → Prop) → (σ → Hp → Prop) → Prop} {ok : σ → Prop} {vals : σ → List Value} {fin : σ → Prop} {s0 : σ}
    (hro : X.ro = none) (hg : ev l g = some (.func (.func gf) #[] cap.toArray)) (T : FnOk X.P gf) (hit : IterOkC X.P gf cap C ok vals fin s0)
    (hps : ∀ s, (vals s).length = ps.length) (hpn : ∀ p ∈ ps, p < X.n)
    (I J : σ → Hp → Prop) (Sx : Code → Hp → Prop) (hC : ∀ u v, C (fun s H => ∃ Hc, I s Hc ∧ H = u :: v :: Hc) (fun s H => ∃ Hc, J s Hc ∧ H = u :: v :: Hc)) (h0 : ∃ Hc, I s0 Hc ∧ Sub Hc H)
    (hbody : ∀ y s Hc w1, I s Hc → ok s → W ⟨some y, X.P, X.n, w1, keys Hc⟩ assign
      (fun e l1 ds1 H1 => e = .normal ∧ ∀ w2, W ⟨some y, X.P, X.n, w2, keys H1⟩ body (roundQ J Sx s) l1 ds1 H1) (zips ps (vals s) l) [] Hc)
    (hdone : ∀ D s Hc, fin s → I s Hc → Q .normal l ({ target := .collected D, args := #[] } :: ds) ((D, .oth (.deferred (some []))) :: Hc))
    (hstop : ∀ D c Hc, Sx c Hc → W X c Q l ({ target := .collected D, args := #[] } :: ds) ((D, .oth (.deferred (some []))) :: Hc)) :
    W X (.rangeFunc g ps.toArray assign body) Q l ds H := by
  intro a w ha hw
  refine wpIn_rangeFunc ?_
  intro fn _
  have hfr : (fe X.ro).round = none := by rw [hro]; rfl
  rw [hfr]
  obtain ⟨rec, hrec⟩ : ∃ rec : LoopState → Option Code → Loop, rec = fun st pe => { state := st, pending := pe, fn, tmps := a.tmps, params := ps.toArray, assign, body, defers := w.heap.size } := ⟨_, rfl⟩
  obtain ⟨Hc0, hI0, hs0⟩ := h0
  have hwc := hw.sub hs0
  have hw1 := hwc.alloc (.oth (.deferred (some [])))
  have hw2 := hw1.alloc (.oth (.loop (rec .ready none)))
  have hsz : (w.alloc (.deferred (some []))).heap.size = w.heap.size + 1 := by simp
  simp only [Blk.obj] at hw1 hw2
  rw [hsz] at hw2
  obtain ⟨D, hD⟩ : ∃ D, D = w.heap.size := ⟨_, rfl⟩
  obtain ⟨y, hy⟩ : ∃ y, y = w.heap.size + 1 := ⟨_, rfl⟩
  have hrun : (Instr.enterLoop fn a.tmps ps.toArray assign body none).run X.P w = .ok (y, [{ target := .collected D, args := #[] }]) ((w.alloc (.deferred (some []))).alloc (.loop (rec .ready none))) := by
    rw [hy, hD, hrec]; exact run_enterLoop_outer _ _ _ _ _
  rw [← hy, ← hD] at hw2
  obtain ⟨W1, hW1⟩ : ∃ W1, W1 = (w.alloc (.deferred (some []))).alloc (.loop (rec .ready none)) := ⟨_, rfl⟩
  rw [← hW1] at hrun hw2
  clear hW1 hw1 hsz
  refine ⟨y, [{ target := .collected D, args := #[] }], W1, { target := .fn (.func gf) cap.toArray, args := #[.func (.yield y) #[] #[]] }, W1, gf,
    (.func (.yield y) #[] #[] :: cap).toArray, W1, hrun, ?_, fun _ _ => trivial, ?_, fun h => (by cases h), ?_⟩
  · simp only [resolve, rangeCall, ha.eval hg, Deferred.ofValue, Sem.run_pure]
    simp [Act.eval]
  · simp only [invoke]
    have e : (#[Value.func (.yield y) #[] #[]] ++ cap.toArray) = (Value.func (.yield y) #[] #[] :: cap).toArray := by simp
    rw [e]
    exact T.enter _ _
  -- the iterator, at the whole heap: the record, the block of deferred calls, the caller's own
  have hst : ∀ st pe, (rec st pe).state = st := fun st pe => by rw [hrec]
  have hpe : ∀ st pe, (rec st pe).pending = pe := fun st pe => by rw [hrec]
  have hput : ∀ st pe st' pe', ({ rec st pe with state := st', pending := pe' } : Loop) = rec st' pe' := fun st pe st' pe' => by rw [hrec]
  have hputs : ∀ st pe st', ({ rec st pe with state := st' } : Loop) = rec st' pe := fun st pe st' => by rw [hrec]
  have hround : ∀ s H, (∃ Hc, I s Hc ∧ H = (y, Blk.oth (.loop (rec .ready none))) :: (D, .oth (.deferred (some []))) :: Hc) → ok s →
      YSpec X.P y (vals s) H (fun b H' => (b = true ∧ ∃ Hc, J s Hc ∧ H' = (y, Blk.oth (.loop (rec .ready none))) :: (D, .oth (.deferred (some []))) :: Hc) ∨
        (b = false ∧ ∃ c Hc, Sx c Hc ∧ H' = (y, Blk.oth (.loop (rec .done (some c)))) :: (D, .oth (.deferred (some []))) :: Hc)) := by
    rintro s H ⟨Hc, hi, rfl⟩ hok w2 hH
    have hyl := hH.rd y _ List.mem_cons_self
    have hyc : y ∉ keys Hc := fun q => (hH.apart (A := [(y, _)]) (B := (D, _) :: Hc) (b := y) (by simp [keys]) (by simp only [keys, List.map_cons, List.mem_cons]; exact .inr q))
    have hDc : D ∉ keys Hc := fun q => (hH.drop1.apart (A := [(D, _)]) (B := Hc) (b := D) (by simp [keys]) q)
    have hyD : y ≠ D := fun q => (hH.apart (A := [(y, _)]) (B := (D, _) :: Hc) (b := y) (by simp [keys]) (by simp [keys, q]))
    have hylt := hH.lt (b := y) List.mem_cons_self
    have hDlt := hH.lt (b := D) (List.mem_cons_of_mem _ List.mem_cons_self)
    have hDl := hH.rd D _ (List.mem_cons_of_mem _ List.mem_cons_self)
    simp only [Blk.obj] at hyl hDl
    have hrec2 : (rec .ready none).params = ps.toArray ∧ (rec .ready none).tmps = a.tmps ∧ (rec .ready none).fn = fn ∧ (rec .ready none).assign = assign ∧ (rec .ready none).body = body := by rw [hrec]; simp
    have hyy := run_yield (P := X.P) (args := (vals s).toArray) hyl (by rw [hrec2.1]; simp [hps s])
    rw [hrec2.1, hrec2.2.1, hrec2.2.2.1, hrec2.2.2.2.1, hrec2.2.2.2.2] at hyy
    refine ⟨fn, _, assign, body, hyy, roundIn_of_wpIn (F := Fence.wide) trivial ?_⟩
    have hkz := kn_zips (ps := ps) (vs := vals s) ha hpn
    have htm : ((ps.toArray.zip (vals s).toArray).foldl (fun tmps (x : Nat × Value) => tmps.setIfInBounds x.1 x.2) a.tmps) = ((ps.zip (vals s)).foldl (fun t (x : Nat × Value) => t.setIfInBounds x.1 x.2) a.tmps) := by simp
    rw [htm]
    refine wpIn_mono (hbody y s Hc w2 hi hok _ w2 hkz ⟨hH.drop1.drop1, Fr.refl _ _, fun b hb => .inl hb⟩) ?_
    rintro e a1 w1 ⟨l1, ds1, H1, k1, n1, rfl, hb⟩
    have hyl1 : w1.heap[y]? = some (.loop (rec .ready none)) := (n1.fr.block y hylt hyc).trans hyl
    have hDl1 : w1.heap[D]? = some (.deferred (some [])) := (n1.fr.block D hDlt hDc).trans hDl
    have hy1 : y ∉ keys H1 := fun q => (n1.own y q).elim hyc (fun z => absurd hylt (by simp only at z; omega))
    have hD1 : D ∉ keys H1 := fun q => (n1.own D q).elim hDc (fun z => absurd hDlt (by simp only at z; omega))
    have hbr := run_beginRound (P := X.P) hyl1 (hst _ _)
    rw [hputs] at hbr
    obtain ⟨wb, hwb⟩ : ∃ wb, wb = w1.putObj y (.loop (rec .busy none)) := ⟨_, rfl⟩
    rw [← hwb] at hbr
    have hyb : wb.heap[y]? = some (.loop (rec .busy none)) := by rw [hwb]; exact World.putObj_heap_same (Array.getElem?_eq_some_iff.1 hyl1).1
    have hDb : wb.heap[D]? = some (.deferred (some [])) := by rw [hwb, World.putObj_heap_other (Ne.symm hyD)]; exact hDl1
    have hszb : wb.heap.size = w1.heap.size := by rw [hwb]; simp
    refine ⟨wb, hbr, ?_⟩
    have hHb : Has H1 wb := ⟨n1.has.nd, fun b k hm => by
      rw [hwb, World.putObj_heap_other (fun e : b = y => hy1 (by rw [← e]; exact mem_keys hm))]
      exact n1.has.rd b k hm⟩
    refine wpIn_mono (hb wb a1 wb k1 ⟨hHb, Fr.refl _ _, fun b hb => .inl hb⟩) ?_
    rintro e a3 w3 ⟨l3, ds3, H3, k3, n3, hq⟩
    have hbs : w2.heap.size ≤ wb.heap.size := by rw [hszb]; exact n1.fr.size
    have hyl3 : w3.heap[y]? = some (.loop (rec .busy none)) := (n3.fr.block y (by simp only; omega) hy1).trans hyb
    have hDl3 : w3.heap[D]? = some (.deferred (some [])) := (n3.fr.block D (by simp only; omega) hD1).trans hDb
    have hs3 : wb.heap.size ≤ w3.heap.size := n3.fr.size
    have fin4 : ∀ (jump : Option Code) (st : LoopState) (Hc' : Hp), Sub Hc' H3 → st = (if jump.isNone then .ready else .done) → ∀ (R : Bool → Hp → Prop), R jump.isNone ((y, Blk.oth (.loop (rec st jump))) :: (D, .oth (.deferred (some []))) :: Hc') →
        ∃ v w', (Instr.endRound y jump).run X.P w3 = .ok v w' ∧ Ends ((y, Blk.oth (.loop (rec .ready none))) :: (D, .oth (.deferred (some []))) :: Hc) w2 (fun v H' => ∃ b, v = .bool b ∧ R b H') (.returned v) w' := by
      intro jump st Hc' hsub hst' R hR
      have her := run_endRound (P := X.P) jump hyl3
      rw [hput, ← hst'] at her
      refine ⟨_, _, her, _, _, rfl, ⟨_, rfl, hR⟩, ?_⟩
      have hown : ∀ b, b ∈ keys Hc' → b ∈ keys Hc ∨ w2.heap.size ≤ b := fun b hb => by
        obtain ⟨R', hcut⟩ := hsub.cut
        have h3 : b ∈ keys H3 := (keys_perm hcut.perm).2 (by rw [keys_append]; exact List.mem_append_left _ hb)
        rcases n3.own b h3 with q | q
        · exact n1.own b q
        · simp only at q; right; omega
      have hy' : y ∉ keys Hc' := fun q => (hown y q).elim hyc (fun z => by omega)
      have hD' : D ∉ keys Hc' := fun q => (hown D q).elim hDc (fun z => by omega)
      have hh3 := n3.has.sub hsub
      have hylt3 := (Array.getElem?_eq_some_iff.1 hyl3).1
      refine ⟨⟨?_, ?_⟩, ⟨?_, ?_, ?_, ?_, ?_⟩, ?_⟩
      · simp only [keys, List.map_cons, List.nodup_cons, List.mem_cons, not_or]
        exact ⟨⟨hyD, hy'⟩, hD', hh3.nd⟩
      · intro b k hm
        simp only [List.mem_cons, Prod.mk.injEq] at hm
        rcases hm with ⟨rfl, rfl⟩ | ⟨rfl, rfl⟩ | hm
        · exact World.putObj_heap_same hylt3
        · rw [World.putObj_heap_other (Ne.symm hyD)]; exact hDl3
        · rw [World.putObj_heap_other (fun e : b = y => hy' (by rw [← e]; exact mem_keys hm))]; exact hh3.rd b k hm
      · exact n3.fr.os.trans (by rw [hwb]; exact n1.fr.os)
      · exact n3.fr.tape.trans (by rw [hwb]; exact n1.fr.tape)
      · exact n3.fr.output.trans (by rw [hwb]; exact n1.fr.output)
      · simp only [World.putObj_size]; omega
      · intro k hk hn
        simp only [keys, List.map_cons, List.mem_cons, not_or] at hn
        obtain ⟨a1', a2, a3'⟩ := hn
        have hk1 : k ∉ keys H1 := fun q => (n1.own k q).elim a3' (fun z => by simp only at z; omega)
        rw [World.putObj_heap_other a1', n3.fr.block k (by simp only; omega) hk1]
        simp only
        rw [hwb, World.putObj_heap_other a1']
        exact n1.fr.block k hk a3'
      · intro b hb
        simp only [keys, List.map_cons, List.mem_cons] at hb ⊢
        rcases hb with rfl | rfl | hb
        · exact .inl (.inl rfl)
        · exact .inl (.inr (.inl rfl))
        · exact (hown b hb).elim (fun q => .inl (.inr (.inr q))) .inr
    cases e with
    | normal =>
      obtain ⟨Hc', hi', hsub⟩ := hq
      exact fin4 none .ready Hc' hsub rfl _ (.inl ⟨rfl, Hc', hi', rfl⟩)
    | ret =>
      obtain ⟨Hc', hi', hsub⟩ := hq
      exact fin4 (some .ret) .done Hc' hsub rfl _ (.inr ⟨rfl, .ret, Hc', hi', rfl⟩)
    | exit i =>
      obtain ⟨Hc', hi', hsub⟩ := hq
      exact fin4 (some (.exit i)) .done Hc' hsub rfl _ (.inr ⟨rfl, .exit i, Hc', hi', rfl⟩)
    | goto t =>
      obtain ⟨Hc', hi', hsub⟩ := hq
      exact fin4 (some (.goto t)) .done Hc' hsub rfl _ (.inr ⟨rfl, .goto t, Hc', hi', rfl⟩)
    | panic c => exact hq.elim
    | outgrown => exact hq.elim
  have hspec := hit y (fun s H => ∃ Hc, I s Hc ∧ H = (y, Blk.oth (.loop (rec .ready none))) :: (D, .oth (.deferred (some []))) :: Hc) (fun s H => ∃ Hc, J s Hc ∧ H = (y, Blk.oth (.loop (rec .ready none))) :: (D, .oth (.deferred (some []))) :: Hc)
    (fun H => ∃ c Hc, Sx c Hc ∧ H = (y, Blk.oth (.loop (rec .done (some c)))) :: (D, .oth (.deferred (some []))) :: Hc)
    (hC _ _) hround _ ⟨Hc0, hI0, rfl⟩ W1 hw2.has
  have hm : CallsIn (fe X.ro) (0 - 1) X.P gf (.func (.yield y) #[] #[] :: cap).toArray W1 _ := calls_fe (ro := X.ro) hspec
  refine CallsIn.mono hm ?_
  rintro e w' ⟨v, H', rfl, hR, h1, h2, h3⟩
  have hkn : Kn X.n l ({ target := .collected D, args := #[] } :: ds) { a with defers := [{ target := .collected D, args := #[] }] ++ a.defers } := ⟨ha.size, by rw [ha.ds]; rfl, ha.get⟩
  have hnow : Now X H' w' := by
    have := Now.after (R0 := []) (by simpa using hw2) h1 h2 h3
    simpa using this
  rcases hR with ⟨s, hf, Hc, hi, rfl⟩ | ⟨c, Hc, hc, rfl⟩
  · have hl := hnow.has.rd y _ List.mem_cons_self
    simp only [Blk.obj] at hl
    have he := run_endLoop (P := X.P) hl (by rw [hst]; intro h; cases h)
    rw [hpe] at he
    refine ⟨none, _, he, _, _, _, hkn, ?_, hdone D s Hc hf hi⟩
    exact (hnow.rep (w' := w'.putObj y _) (n := .oth _) Rep.here rfl rfl rfl (by simp) (World.putObj_heap_same (Array.getElem?_eq_some_iff.1 hl).1) (fun k hk => World.putObj_heap_other hk)).right (A := [_])
  · have hl := hnow.has.rd y _ List.mem_cons_self
    simp only [Blk.obj] at hl
    have he := run_endLoop (P := X.P) hl (by rw [hst]; intro h; cases h)
    rw [hpe] at he
    refine ⟨some c, _, he, hstop D c Hc hc _ _ hkn ?_⟩
    exact (hnow.rep (w' := w'.putObj y _) (n := .oth _) Rep.here rfl rfl rfl (by simp) (World.putObj_heap_same (Array.getElem?_eq_some_iff.1 hl).1) (fun k hk => World.putObj_heap_other hk)).right (A := [_])
end rules
section rules
variable {X : Cx} {Q : PostT} {l : St} {ds : List Deferred} {H Hs R0 : Hp} {ops : Array Oper} {rest : List Oper}
variable {d ty : Nat} {pos : String} {after : Array Edge}
end rules
section three
variable {X : Cx} {l : St} {ds : List Deferred} {H Hs : Hp} {ops : Array Oper} {K : St → List Deferred → Hp → Prop} {fuel : Nat} {listed : Array Bool} {nk : List Nat}
end three
end Go.Proofs.YtcpfmjlceoiofaaGreatDoor

/-
  The walk's own small calculus, nineteenth part: what a function computes, beside other blocks.
-/
namespace Go.Proofs.YtcpfmjlceoiofaaGreatDoor
open Go.RowKit
theorem Spec.frame {P : Program} {f : FuncId} {args : List Value} {H : Hp} {R : Value → Hp → Prop} (h : Spec P f args H R) (F : Hp) : Spec P f args (H ++ F) (fun v H' => ∃ H1, R v H1 ∧ H' = H1 ++ F) := by
  unfold Spec at h ⊢
  intro w hw
  have hA := hw.left
  have hF := hw.right
  refine (h w hA).mono ?_
  rintro e w' ⟨v, H', rfl, h1, h2, h3, h4⟩
  refine ⟨v, H' ++ F, rfl, ⟨H', h1, rfl⟩, ?_, ⟨h3.os, h3.tape, h3.output, h3.size, fun k hk hn => h3.block k hk (fun q => hn (by rw [keys_append]; exact List.mem_append_left _ q))⟩, fun b hb => ?_⟩
  · have hr : Has F w' := ⟨hF.nd, fun b k hm => by
      rw [h3.block b (hF.lt hm) (fun q => hw.apart q (mem_keys hm))]
      exact hF.rd b k hm⟩
    refine h2.app hr fun b ha hb => ?_
    rcases h4 b ha with q | q
    · exact hw.apart q hb
    · exact absurd (hF.ltk hb) (by omega)
  · rw [keys_append] at hb ⊢
    rcases List.mem_append.1 hb with hb | hb
    · exact (h4 b hb).imp (fun q => List.mem_append_left _ q) id
    · exact .inl (List.mem_append_right _ hb)
theorem Spec.permR {P : Program} {f : FuncId} {args : List Value} {H : Hp} {R R' : Value → Hp → Prop} (h : Spec P f args H R) (hr : ∀ v H1, R v H1 → ∃ H', R' v H' ∧ H1.Perm H') : Spec P f args H R' := by
  unfold Spec at h ⊢
  intro w hw
  refine (h w hw).mono ?_
  rintro e w' ⟨v, H1, rfl, h1, h2, h3, h4⟩
  obtain ⟨H', h5, hp⟩ := hr v H1 h1
  exact ⟨v, H', rfl, h5, h2.perm hp, h3, fun b hb => h4 b ((keys_perm hp).2 hb)⟩
theorem Spec.frameQ {P : Program} {f : FuncId} {args : List Value} {H H2 : Hp} {Q : Value → Prop} (h : Spec P f args H fun v H' => Q v ∧ H' = H2) (F : Hp) : Spec P f args (H ++ F) fun v H' => Q v ∧ H' = H2 ++ F :=
  (h.frame F).mono fun v H' ⟨H1, ⟨h1, h2⟩, h3⟩ => ⟨h1, by rw [h3, h2]⟩
section rules
variable {X : Cx} {Q : PostT} {l : St} {ds : List Deferred} {H : Hp} {ops : Array Oper} {rest : List Oper}
variable {d ty : Nat} {pos : String} {after : Array Edge}
end rules
section cut
variable {X : Cx} {Q : PostT} {l : St} {ds : List Deferred} {H : Hp}
end cut
theorem Sub.ofPermR : ∀ {A R H : Hp}, (A ++ R).Perm H → Sub A H
  | [], _, _, _ => .nil
  | x :: A, R, H, p => by
    obtain ⟨R2, hr⟩ := pull_of_mem (p.mem_iff.1 (List.mem_cons_self))
    exact .cons hr (Sub.ofPermR (R := R) (List.Perm.cons_inv (p.trans hr.perm)))
theorem permA {A B : Hp} (h : A.Perm B := by classical exact List.perm_iff_count.2 fun x => by (simp only [List.count_append, List.count_cons, List.count_nil, Nat.add_zero, Nat.zero_add]; first | done | ac_rfl)) : A.Perm B := h
section tl
variable {X : Cx} {Q : PostT} {l : St} {ds : List Deferred} {H : Hp} {ops : Array Oper} {rest : List Oper}
theorem L_tail {T A T' : Hp} (p : T.Perm T') (k : L X ops rest Q l ds (A ++ T')) (h : Tail H T A := by repeat (first | exact Tail.nil | apply Tail.cons)) : L X ops rest Q l ds H :=
  L_perm (h.perm.trans ((List.Perm.append_right A p).trans List.perm_append_comm)) k
theorem W_tail {c : Code} {T A T' : Hp} (p : T.Perm T') (k : W X c Q l ds (A ++ T')) (h : Tail H T A := by repeat (first | exact Tail.nil | apply Tail.cons)) : W X c Q l ds H :=
  W_perm (h.perm.trans ((List.Perm.append_right A p).trans List.perm_append_comm)) k
theorem Sub.tail {H T A T' : Hp} (h : Tail H T A) (s : Sub T' T) : Sub (A ++ T') H := by
  obtain ⟨R, c⟩ := s.cut
  refine Sub.ofPermR (R := R) ?_
  refine (((h.perm.trans (List.Perm.append_right A c.perm)).trans List.perm_append_comm).trans ?_).symm
  rw [List.append_assoc]
theorem W_tailS {c : Code} {T A T' : Hp} (s : Sub T' T) (k : W X c Q l ds (A ++ T')) (h : Tail H T A := by repeat (first | exact Tail.nil | apply Tail.cons)) : W X c Q l ds H := W_weakh (Sub.tail h s) k
end tl
end Go.Proofs.YtcpfmjlceoiofaaGreatDoor

/-
  The walk's own small calculus, eighteenth part: a closure that is deferred.
-/
namespace Go.Proofs.YtcpfmjlceoiofaaGreatDoor
open Go.RowKit
/-- a function, entered as a deferred call: it leaves the mode of the frame below alone -/
def SpecD (P : Program) (f : FuncId) (args : List Value) (H : Hp) (R : Value → Hp → Prop) : Prop :=
  ∀ w u, Has H w → CallsDIn Fence.wide 0 P f args.toArray u w (fun e u' w' => u' = u ∧ Ends H w R e w')
def retD (P : Program) (fn : Func) (R : Value → Hp → Prop) : PostT
  | .normal, l, ds, H | .ret, l, ds, H => ds = [] ∧ ∃ H2 vs, ResL P l H fn.results.toList vs ∧ R (resVal vs) H2 ∧ Sub H2 H
  | _, _, _, _ => False
/-- how a frame with deferred calls leaves -/
inductive Lv (P : Program) (fn : Func) (R : Value → Hp → Prop) (l : St) : List Deferred → Hp → Prop where
  | nil {H H2 : Hp} {vs : List Value} (hr : ResL P l H fn.results.toList vs) (hR : R (resVal vs) H2) (hs : Sub H2 H) : Lv P fn R l [] H
  | mark {D : Nat} {ds : List Deferred} {H R1 : Hp} (h : Pull H (D, .oth (.deferred (some []))) R1) (k : Lv P fn R l ds R1) : Lv P fn R l ({ target := .collected D, args := #[] } :: ds) H
  | call {f : FuncId} {caps : List Value} {ds : List Deferred} {H Hf R0 : Hp} {Rf : Value → Hp → Prop} (T : FnOk P f) (hs : SpecD P f caps Hf Rf) (hc : H.Perm (Hf ++ R0)) (k : ∀ v H', Rf v H' → Lv P fn R l ds (H' ++ R0)) :
      Lv P fn R l ({ target := .fn (.func f) caps.toArray, args := #[] } :: ds) H
  | callA {f : FuncId} {vs caps : List Value} {ds : List Deferred} {H Hf R0 : Hp} {Rf : Value → Hp → Prop} (T : FnOk P f) (hs : SpecD P f (vs ++ caps) Hf Rf) (hc : H.Perm (Hf ++ R0)) (k : ∀ v H', Rf v H' → Lv P fn R l ds (H' ++ R0)) :
      Lv P fn R l ({ target := .fn (.func f) caps.toArray, args := vs.toArray } :: ds) H
  | perm {H H2 : Hp} {ds : List Deferred} (hp : H.Perm H2) (k : Lv P fn R l ds H2) : Lv P fn R l ds H
theorem lv_leave {P : Program} {fn : Func} {n : Nat} {l : St} {R : Value → Hp → Prop} {w0 : World} {K : List Nat} : ∀ {ds : List Deferred} {H : Hp} {a : Act} {w : World}, Lv P fn R l ds H → (∃ ds', Kn n l ds' a) → Now ⟨none, P, n, w0, K⟩ H w →
    LeavesInM Fence.wide 0 P fn a.tmps (fun e w' => ∃ v H', e = .returned v ∧ R v H' ∧ Has H' w' ∧ Fr K w0 w' ∧ ∀ b, b ∈ keys H' → b ∈ K ∨ w0.heap.size ≤ b) ds .returning w := by
  intro ds H a w hm
  induction hm generalizing w with
  | nil hr hR hsub =>
    rintro ⟨ds', ha⟩ hw
    have hw2 := hw.sub hsub
    exact ⟨_, hr.run ha hw.has (by simp), _, _, rfl, hR, hw2.has, hw2.fr, hw2.own⟩
  | mark hp k ih =>
    rename_i D ds H R1
    intro ha hw
    have hD := hw.has.rd _ _ (hp.perm.mem_iff.2 List.mem_cons_self)
    refine ⟨fun h => (by cases h), .inl ⟨_, _, rfl, run_takeDeferred hD, ih ha ?_⟩⟩
    have hw1 := hw.perm hp.perm
    have hlt := hw1.has.lt (List.mem_cons_self)
    refine (hw1.rep (w' := w.putObj D (.deferred none)) (n := .oth (.deferred none)) Rep.here rfl rfl rfl (by simp) (World.putObj_heap_same hlt) (fun k hk => World.putObj_heap_other hk)).right (A := [_])
  | call T hs hc k ih =>
    rename_i f caps ds H Hf R0 Rf
    intro ha hw
    have hw1 := hw.perm hc
    refine ⟨fun h => (by cases h), .inr ⟨fun h => (by cases h), .func f, caps.toArray, f, caps.toArray, rfl, ?_, fun _ _ => trivial, ?_⟩⟩
    · simp only [invoke]
      rw [show (#[] ++ caps.toArray : Array Value) = caps.toArray by simp]
      exact T.enter _ _
    · refine (hs w .returning hw1.has.left).mono ?_
      rintro e u' w' ⟨rfl, v, H', rfl, hR, h1, h2, h3⟩
      exact ih v H' hR ha (hw1.after h1 h2 h3)
  | callA T hs hc k ih =>
    rename_i f vs caps ds H Hf R0 Rf
    intro ha hw
    have hw1 := hw.perm hc
    refine ⟨fun h => (by cases h), .inr ⟨fun h => (by cases h), .func f, caps.toArray, f, (vs ++ caps).toArray, rfl, ?_, fun _ _ => trivial, ?_⟩⟩
    · simp only [invoke]
      rw [show (vs.toArray ++ caps.toArray : Array Value) = (vs ++ caps).toArray by simp]
      exact T.enter _ _
    · refine (hs w .returning hw1.has.left).mono ?_
      rintro e u' w' ⟨rfl, v, H', rfl, hR, h1, h2, h3⟩
      exact ih v H' hR ha (hw1.after h1 h2 h3)
  | perm hp k ih =>
    intro ha hw
    exact ih ha (hw.perm hp)
def retE (P : Program) (fn : Func) (R : Value → Hp → Prop) : PostT
  | .normal, l, ds, H | .ret, l, ds, H => Lv P fn R l ds H
  | _, _, _, _ => False
theorem Spec_bodyE {P : Program} {f : FuncId} {fn : Func} {c : Code} {args : List Value} {H : Hp} {R : Value → Hp → Prop} {n : Nat} (hf : P.funcs[f]? = some fn) (hb : fn.body = some c) (hn : fn.ntmps = n) (ha : Nat.ble args.length n = true)
    (h : ∀ w0, W ⟨none, P, n, w0, keys H⟩ c (retE P fn R) (argSt 0 args) [] H) : Spec P f args H R := by
  intro w hw
  refine callsIn_wide.1 (callsIn_of_wp_marks (n := 0) hf hb trivial ?_)
  have hk := kn_args (n := n) (vs := args) (by simpa using ha)
  rw [hn]
  refine wpIn_mono (h w _ w hk ⟨hw, Fr.refl _ _, fun b hb => .inl hb⟩) ?_
  rintro e a' w' ⟨l', ds', H', k, nw, q⟩
  cases e with
  | normal =>
    have := lv_leave q ⟨_, k⟩ nw
    rw [← k.ds] at this
    exact this
  | ret =>
    have := lv_leave q ⟨_, k⟩ nw
    rw [← k.ds] at this
    exact this
  | exit i => exact q.elim
  | goto t => exact q.elim
  | panic c => exact q.elim
  | outgrown => exact q.elim
section rules
variable {X : Cx} {Q : PostT} {l : St} {ds : List Deferred} {H : Hp} {ops : Array Oper} {rest : List Oper}
variable {d ty : Nat} {pos : String} {after : Array Edge}
end rules
end Go.Proofs.YtcpfmjlceoiofaaGreatDoor
