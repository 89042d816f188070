/-
  facts on types and functions, written by a program (gen_ty.py) off the translation
-/
import Derived.Test.YtcpfmjlceoiofaaGreatDoorL03
import Derived.Test.YtcpfmjlceoiofaaGreatDoorProg
import Derived.KernelRfl
import Derived.Shelf.Abstract
set_option linter.unusedSimpArgs false
set_option linter.unusedVariables false
set_option linter.unusedSectionVars false
namespace Go.Proofs.YtcpfmjlceoiofaaGreatDoor
open Go.RowKit Go.Shelf
instance tss159 : TyS Tryz.prog 159 [(0, 1)] := ⟨by kernel_rfl, by kernel_rfl⟩
instance tf159_0 : TyFld Tryz.prog 159 0 0 := ⟨fun _ _ => by kernel_rfl⟩
instance tp159_0 : TyPart Tryz.prog 159 0 0 1 false := ⟨fun _ _ => by kernel_rfl⟩
instance ty160 : Ty Tryz.prog 160 1 true := ⟨by kernel_rfl, by kernel_rfl⟩
instance tz160 : TyZ Tryz.prog 160 [.int .i64 0] := ⟨by kernel_rfl⟩
instance tby160 : TyBy Tryz.prog 160 8 := ⟨by kernel_rfl⟩
instance tss160 : TyS Tryz.prog 160 [(0, 1)] := ⟨by kernel_rfl, by kernel_rfl⟩
instance tf160_0 : TyFld Tryz.prog 160 0 0 := ⟨fun _ _ => by kernel_rfl⟩
instance tp160_0 : TyPart Tryz.prog 160 0 0 1 false := ⟨fun _ _ => by kernel_rfl⟩
instance tes160 : TyEqS Tryz.prog 160 [.int .i64] := ⟨by kernel_rfl, by kernel_rfl, by kernel_rfl, by kernel_rfl⟩
instance ty161 : Ty Tryz.prog 161 3 true := ⟨by kernel_rfl, by kernel_rfl⟩
instance tz161 : TyZ Tryz.prog 161 [.int .i64 0, .pointer none, .bool false] := ⟨by kernel_rfl⟩
instance tby161 : TyBy Tryz.prog 161 24 := ⟨by kernel_rfl⟩
instance tss161 : TyS Tryz.prog 161 [(0, 1), (1, 1), (2, 1)] := ⟨by kernel_rfl, by kernel_rfl⟩
instance tf161_0 : TyFld Tryz.prog 161 0 0 := ⟨fun _ _ => by kernel_rfl⟩
instance tp161_0 : TyPart Tryz.prog 161 0 0 1 true := ⟨fun _ _ => by kernel_rfl⟩
instance tf161_1 : TyFld Tryz.prog 161 1 1 := ⟨fun _ _ => by kernel_rfl⟩
instance tp161_1 : TyPart Tryz.prog 161 1 1 1 false := ⟨fun _ _ => by kernel_rfl⟩
instance tf161_2 : TyFld Tryz.prog 161 2 2 := ⟨fun _ _ => by kernel_rfl⟩
instance tp161_2 : TyPart Tryz.prog 161 2 2 1 false := ⟨fun _ _ => by kernel_rfl⟩
instance ty162 : Ty Tryz.prog 162 3 true := ⟨by kernel_rfl, by kernel_rfl⟩
instance tz162 : TyZ Tryz.prog 162 [.int .i64 0, .pointer none, .bool false] := ⟨by kernel_rfl⟩
instance tby162 : TyBy Tryz.prog 162 24 := ⟨by kernel_rfl⟩
instance tss162 : TyS Tryz.prog 162 [(0, 1), (1, 1), (2, 1)] := ⟨by kernel_rfl, by kernel_rfl⟩
instance tf162_0 : TyFld Tryz.prog 162 0 0 := ⟨fun _ _ => by kernel_rfl⟩
instance tp162_0 : TyPart Tryz.prog 162 0 0 1 true := ⟨fun _ _ => by kernel_rfl⟩
instance tf162_1 : TyFld Tryz.prog 162 1 1 := ⟨fun _ _ => by kernel_rfl⟩
instance tp162_1 : TyPart Tryz.prog 162 1 1 1 false := ⟨fun _ _ => by kernel_rfl⟩
instance tf162_2 : TyFld Tryz.prog 162 2 2 := ⟨fun _ _ => by kernel_rfl⟩
instance tp162_2 : TyPart Tryz.prog 162 2 2 1 false := ⟨fun _ _ => by kernel_rfl⟩
instance ty163 : Ty Tryz.prog 163 24 true := ⟨by kernel_rfl, by kernel_rfl⟩
instance tz163 : TyZ Tryz.prog 163 [.int .i64 0, .pointer none, .bool false, .int .i64 0, .pointer none, .bool false, .int .i64 0, .pointer none, .bool false, .int .i64 0, .pointer none, .bool false, .int .i64 0, .pointer none, .bool false, .int .i64 0, .pointer none, .bool false, .int .i64 0, .pointer none, .bool false, .int .i64 0, .pointer none, .bool false] := ⟨by kernel_rfl⟩
instance tby163 : TyBy Tryz.prog 163 192 := ⟨by kernel_rfl⟩
instance tar163 : TyArr Tryz.prog 163 8 162 3 := ⟨by kernel_rfl, by kernel_rfl⟩
instance ty164 : Ty Tryz.prog 164 24 true := ⟨by kernel_rfl, by kernel_rfl⟩
instance tz164 : TyZ Tryz.prog 164 [.int .i64 0, .pointer none, .bool false, .int .i64 0, .pointer none, .bool false, .int .i64 0, .pointer none, .bool false, .int .i64 0, .pointer none, .bool false, .int .i64 0, .pointer none, .bool false, .int .i64 0, .pointer none, .bool false, .int .i64 0, .pointer none, .bool false, .int .i64 0, .pointer none, .bool false] := ⟨by kernel_rfl⟩
instance tby164 : TyBy Tryz.prog 164 192 := ⟨by kernel_rfl⟩
instance tss164 : TyS Tryz.prog 164 [(0, 24)] := ⟨by kernel_rfl, by kernel_rfl⟩
instance tf164_0 : TyFld Tryz.prog 164 0 0 := ⟨fun _ _ => by kernel_rfl⟩
instance tp164_0 : TyPart Tryz.prog 164 0 0 24 true := ⟨fun _ _ => by kernel_rfl⟩
instance ty165 : Ty Tryz.prog 165 24 true := ⟨by kernel_rfl, by kernel_rfl⟩
instance tz165 : TyZ Tryz.prog 165 [.int .i64 0, .pointer none, .bool false, .int .i64 0, .pointer none, .bool false, .int .i64 0, .pointer none, .bool false, .int .i64 0, .pointer none, .bool false, .int .i64 0, .pointer none, .bool false, .int .i64 0, .pointer none, .bool false, .int .i64 0, .pointer none, .bool false, .int .i64 0, .pointer none, .bool false] := ⟨by kernel_rfl⟩
instance tby165 : TyBy Tryz.prog 165 192 := ⟨by kernel_rfl⟩
instance tss165 : TyS Tryz.prog 165 [(0, 24)] := ⟨by kernel_rfl, by kernel_rfl⟩
instance tf165_0 : TyFld Tryz.prog 165 0 0 := ⟨fun _ _ => by kernel_rfl⟩
instance tp165_0 : TyPart Tryz.prog 165 0 0 24 true := ⟨fun _ _ => by kernel_rfl⟩
instance ty166 : Ty Tryz.prog 166 1 false := ⟨by kernel_rfl, by kernel_rfl⟩
instance tz166 : TyZ Tryz.prog 166 [.pointer none] := ⟨by kernel_rfl⟩
instance tby166 : TyBy Tryz.prog 166 8 := ⟨by kernel_rfl⟩
instance tpt166 : TyPtr Tryz.prog 166 316 := ⟨by kernel_rfl⟩
instance ty167 : Ty Tryz.prog 167 1 false := ⟨by kernel_rfl, by kernel_rfl⟩
instance tz167 : TyZ Tryz.prog 167 [.nilFunc] := ⟨by kernel_rfl⟩
instance tby167 : TyBy Tryz.prog 167 8 := ⟨by kernel_rfl⟩
instance ty168 : Ty Tryz.prog 168 5 true := ⟨by kernel_rfl, by kernel_rfl⟩
instance tz168 : TyZ Tryz.prog 168 [.int .i64 0, .int .i64 0, .int .i64 0, .int .i64 0, .int .i64 0] := ⟨by kernel_rfl⟩
instance tby168 : TyBy Tryz.prog 168 40 := ⟨by kernel_rfl⟩
instance tss168 : TyS Tryz.prog 168 [(0, 1), (1, 1), (2, 1), (3, 1), (4, 1)] := ⟨by kernel_rfl, by kernel_rfl⟩
instance tf168_0 : TyFld Tryz.prog 168 0 0 := ⟨fun _ _ => by kernel_rfl⟩
instance tp168_0 : TyPart Tryz.prog 168 0 0 1 false := ⟨fun _ _ => by kernel_rfl⟩
instance tf168_1 : TyFld Tryz.prog 168 1 1 := ⟨fun _ _ => by kernel_rfl⟩
instance tp168_1 : TyPart Tryz.prog 168 1 1 1 false := ⟨fun _ _ => by kernel_rfl⟩
instance tf168_2 : TyFld Tryz.prog 168 2 2 := ⟨fun _ _ => by kernel_rfl⟩
instance tp168_2 : TyPart Tryz.prog 168 2 2 1 false := ⟨fun _ _ => by kernel_rfl⟩
instance tf168_3 : TyFld Tryz.prog 168 3 3 := ⟨fun _ _ => by kernel_rfl⟩
instance tp168_3 : TyPart Tryz.prog 168 3 3 1 false := ⟨fun _ _ => by kernel_rfl⟩
instance tf168_4 : TyFld Tryz.prog 168 4 4 := ⟨fun _ _ => by kernel_rfl⟩
instance tp168_4 : TyPart Tryz.prog 168 4 4 1 false := ⟨fun _ _ => by kernel_rfl⟩
instance ty169 : Ty Tryz.prog 169 5 true := ⟨by kernel_rfl, by kernel_rfl⟩
instance tz169 : TyZ Tryz.prog 169 [.int .i64 0, .int .i64 0, .int .i64 0, .int .i64 0, .int .i64 0] := ⟨by kernel_rfl⟩
instance tby169 : TyBy Tryz.prog 169 40 := ⟨by kernel_rfl⟩
instance tss169 : TyS Tryz.prog 169 [(0, 1), (1, 1), (2, 1), (3, 1), (4, 1)] := ⟨by kernel_rfl, by kernel_rfl⟩
instance tf169_0 : TyFld Tryz.prog 169 0 0 := ⟨fun _ _ => by kernel_rfl⟩
instance tp169_0 : TyPart Tryz.prog 169 0 0 1 false := ⟨fun _ _ => by kernel_rfl⟩
instance tf169_1 : TyFld Tryz.prog 169 1 1 := ⟨fun _ _ => by kernel_rfl⟩
instance tp169_1 : TyPart Tryz.prog 169 1 1 1 false := ⟨fun _ _ => by kernel_rfl⟩
instance tf169_2 : TyFld Tryz.prog 169 2 2 := ⟨fun _ _ => by kernel_rfl⟩
instance tp169_2 : TyPart Tryz.prog 169 2 2 1 false := ⟨fun _ _ => by kernel_rfl⟩
instance tf169_3 : TyFld Tryz.prog 169 3 3 := ⟨fun _ _ => by kernel_rfl⟩
instance tp169_3 : TyPart Tryz.prog 169 3 3 1 false := ⟨fun _ _ => by kernel_rfl⟩
instance tf169_4 : TyFld Tryz.prog 169 4 4 := ⟨fun _ _ => by kernel_rfl⟩
instance tp169_4 : TyPart Tryz.prog 169 4 4 1 false := ⟨fun _ _ => by kernel_rfl⟩
instance tes169 : TyEqS Tryz.prog 169 [.int .i64, .int .i64, .int .i64, .int .i64, .int .i64] := ⟨by kernel_rfl, by kernel_rfl, by kernel_rfl, by kernel_rfl⟩
instance ty170 : Ty Tryz.prog 170 7 true := ⟨by kernel_rfl, by kernel_rfl⟩
instance tz170 : TyZ Tryz.prog 170 [.int .i64 0, .int .i64 0, .int .i64 0, .int .i64 0, .int .i64 0, .int .i64 0, .slice none 0 0] := ⟨by kernel_rfl⟩
instance tby170 : TyBy Tryz.prog 170 72 := ⟨by kernel_rfl⟩
instance tss170 : TyS Tryz.prog 170 [(0, 5), (5, 1), (6, 1)] := ⟨by kernel_rfl, by kernel_rfl⟩
instance tf170_0 : TyFld Tryz.prog 170 0 0 := ⟨fun _ _ => by kernel_rfl⟩
instance tp170_0 : TyPart Tryz.prog 170 0 0 5 true := ⟨fun _ _ => by kernel_rfl⟩
instance tf170_1 : TyFld Tryz.prog 170 1 5 := ⟨fun _ _ => by kernel_rfl⟩
instance tp170_1 : TyPart Tryz.prog 170 1 5 1 false := ⟨fun _ _ => by kernel_rfl⟩
instance tf170_2 : TyFld Tryz.prog 170 2 6 := ⟨fun _ _ => by kernel_rfl⟩
instance tp170_2 : TyPart Tryz.prog 170 2 6 1 false := ⟨fun _ _ => by kernel_rfl⟩
instance ty171 : Ty Tryz.prog 171 7 true := ⟨by kernel_rfl, by kernel_rfl⟩
instance tz171 : TyZ Tryz.prog 171 [.int .i64 0, .int .i64 0, .int .i64 0, .int .i64 0, .int .i64 0, .int .i64 0, .slice none 0 0] := ⟨by kernel_rfl⟩
instance tby171 : TyBy Tryz.prog 171 72 := ⟨by kernel_rfl⟩
instance tss171 : TyS Tryz.prog 171 [(0, 5), (5, 1), (6, 1)] := ⟨by kernel_rfl, by kernel_rfl⟩
instance tf171_0 : TyFld Tryz.prog 171 0 0 := ⟨fun _ _ => by kernel_rfl⟩
instance tp171_0 : TyPart Tryz.prog 171 0 0 5 true := ⟨fun _ _ => by kernel_rfl⟩
instance tf171_1 : TyFld Tryz.prog 171 1 5 := ⟨fun _ _ => by kernel_rfl⟩
instance tp171_1 : TyPart Tryz.prog 171 1 5 1 false := ⟨fun _ _ => by kernel_rfl⟩
instance tf171_2 : TyFld Tryz.prog 171 2 6 := ⟨fun _ _ => by kernel_rfl⟩
instance tp171_2 : TyPart Tryz.prog 171 2 6 1 false := ⟨fun _ _ => by kernel_rfl⟩
instance ty172 : Ty Tryz.prog 172 1 true := ⟨by kernel_rfl, by kernel_rfl⟩
instance tz172 : TyZ Tryz.prog 172 [.pointer none] := ⟨by kernel_rfl⟩
instance tby172 : TyBy Tryz.prog 172 8 := ⟨by kernel_rfl⟩
instance tss172 : TyS Tryz.prog 172 [(0, 1)] := ⟨by kernel_rfl, by kernel_rfl⟩
instance tf172_0 : TyFld Tryz.prog 172 0 0 := ⟨fun _ _ => by kernel_rfl⟩
instance tp172_0 : TyPart Tryz.prog 172 0 0 1 false := ⟨fun _ _ => by kernel_rfl⟩
instance ty173 : Ty Tryz.prog 173 1 true := ⟨by kernel_rfl, by kernel_rfl⟩
instance tz173 : TyZ Tryz.prog 173 [.pointer none] := ⟨by kernel_rfl⟩
instance tby173 : TyBy Tryz.prog 173 8 := ⟨by kernel_rfl⟩
instance tss173 : TyS Tryz.prog 173 [(0, 1)] := ⟨by kernel_rfl, by kernel_rfl⟩
instance tf173_0 : TyFld Tryz.prog 173 0 0 := ⟨fun _ _ => by kernel_rfl⟩
instance tp173_0 : TyPart Tryz.prog 173 0 0 1 false := ⟨fun _ _ => by kernel_rfl⟩
instance ty174 : Ty Tryz.prog 174 1 false := ⟨by kernel_rfl, by kernel_rfl⟩
instance tz174 : TyZ Tryz.prog 174 [.pointer none] := ⟨by kernel_rfl⟩
instance tby174 : TyBy Tryz.prog 174 8 := ⟨by kernel_rfl⟩
instance tpt174 : TyPtr Tryz.prog 174 321 := ⟨by kernel_rfl⟩
instance ty175 : Ty Tryz.prog 175 1 false := ⟨by kernel_rfl, by kernel_rfl⟩
instance tz175 : TyZ Tryz.prog 175 [.nilFunc] := ⟨by kernel_rfl⟩
instance tby175 : TyBy Tryz.prog 175 8 := ⟨by kernel_rfl⟩
instance ty176 : Ty Tryz.prog 176 7 true := ⟨by kernel_rfl, by kernel_rfl⟩
instance tz176 : TyZ Tryz.prog 176 [.int .i64 0, .int .i64 0, .int .i64 0, .int .i64 0, .int .i64 0, .int .i64 0, .slice none 0 0] := ⟨by kernel_rfl⟩
instance tby176 : TyBy Tryz.prog 176 72 := ⟨by kernel_rfl⟩
instance tss176 : TyS Tryz.prog 176 [(0, 5), (5, 1), (6, 1)] := ⟨by kernel_rfl, by kernel_rfl⟩
instance tf176_0 : TyFld Tryz.prog 176 0 0 := ⟨fun _ _ => by kernel_rfl⟩
instance tp176_0 : TyPart Tryz.prog 176 0 0 5 true := ⟨fun _ _ => by kernel_rfl⟩
instance tf176_1 : TyFld Tryz.prog 176 1 5 := ⟨fun _ _ => by kernel_rfl⟩
instance tp176_1 : TyPart Tryz.prog 176 1 5 1 false := ⟨fun _ _ => by kernel_rfl⟩
instance tf176_2 : TyFld Tryz.prog 176 2 6 := ⟨fun _ _ => by kernel_rfl⟩
instance tp176_2 : TyPart Tryz.prog 176 2 6 1 false := ⟨fun _ _ => by kernel_rfl⟩
instance ty177 : Ty Tryz.prog 177 7 true := ⟨by kernel_rfl, by kernel_rfl⟩
instance tz177 : TyZ Tryz.prog 177 [.int .i64 0, .int .i64 0, .int .i64 0, .int .i64 0, .int .i64 0, .int .i64 0, .slice none 0 0] := ⟨by kernel_rfl⟩
instance tby177 : TyBy Tryz.prog 177 72 := ⟨by kernel_rfl⟩
instance tss177 : TyS Tryz.prog 177 [(0, 5), (5, 1), (6, 1)] := ⟨by kernel_rfl, by kernel_rfl⟩
instance tf177_0 : TyFld Tryz.prog 177 0 0 := ⟨fun _ _ => by kernel_rfl⟩
instance tp177_0 : TyPart Tryz.prog 177 0 0 5 true := ⟨fun _ _ => by kernel_rfl⟩
instance tf177_1 : TyFld Tryz.prog 177 1 5 := ⟨fun _ _ => by kernel_rfl⟩
instance tp177_1 : TyPart Tryz.prog 177 1 5 1 false := ⟨fun _ _ => by kernel_rfl⟩
instance tf177_2 : TyFld Tryz.prog 177 2 6 := ⟨fun _ _ => by kernel_rfl⟩
instance tp177_2 : TyPart Tryz.prog 177 2 6 1 false := ⟨fun _ _ => by kernel_rfl⟩
instance ty178 : Ty Tryz.prog 178 1 true := ⟨by kernel_rfl, by kernel_rfl⟩
instance tz178 : TyZ Tryz.prog 178 [.pointer none] := ⟨by kernel_rfl⟩
instance tby178 : TyBy Tryz.prog 178 8 := ⟨by kernel_rfl⟩
instance tss178 : TyS Tryz.prog 178 [(0, 1)] := ⟨by kernel_rfl, by kernel_rfl⟩
instance tf178_0 : TyFld Tryz.prog 178 0 0 := ⟨fun _ _ => by kernel_rfl⟩
instance tp178_0 : TyPart Tryz.prog 178 0 0 1 false := ⟨fun _ _ => by kernel_rfl⟩
instance ty179 : Ty Tryz.prog 179 1 true := ⟨by kernel_rfl, by kernel_rfl⟩
instance tz179 : TyZ Tryz.prog 179 [.pointer none] := ⟨by kernel_rfl⟩
instance tby179 : TyBy Tryz.prog 179 8 := ⟨by kernel_rfl⟩
instance tss179 : TyS Tryz.prog 179 [(0, 1)] := ⟨by kernel_rfl, by kernel_rfl⟩
instance tf179_0 : TyFld Tryz.prog 179 0 0 := ⟨fun _ _ => by kernel_rfl⟩
instance tp179_0 : TyPart Tryz.prog 179 0 0 1 false := ⟨fun _ _ => by kernel_rfl⟩
instance ty180 : Ty Tryz.prog 180 1 false := ⟨by kernel_rfl, by kernel_rfl⟩
instance tz180 : TyZ Tryz.prog 180 [.pointer none] := ⟨by kernel_rfl⟩
instance tby180 : TyBy Tryz.prog 180 8 := ⟨by kernel_rfl⟩
instance tpt180 : TyPtr Tryz.prog 180 326 := ⟨by kernel_rfl⟩
instance ty181 : Ty Tryz.prog 181 1 false := ⟨by kernel_rfl, by kernel_rfl⟩
instance tz181 : TyZ Tryz.prog 181 [.nilFunc] := ⟨by kernel_rfl⟩
instance tby181 : TyBy Tryz.prog 181 8 := ⟨by kernel_rfl⟩
instance ty182 : Ty Tryz.prog 182 9 true := ⟨by kernel_rfl, by kernel_rfl⟩
instance tz182 : TyZ Tryz.prog 182 [.int .i64 0, .int .i64 0, .int .i64 0, .int .i64 0, .int .i64 0, .int .i64 0, .slice none 0 0, .int .i64 0, .bool false] := ⟨by kernel_rfl⟩
instance tby182 : TyBy Tryz.prog 182 88 := ⟨by kernel_rfl⟩
instance tss182 : TyS Tryz.prog 182 [(0, 5), (5, 1), (6, 3)] := ⟨by kernel_rfl, by kernel_rfl⟩
instance tf182_0 : TyFld Tryz.prog 182 0 0 := ⟨fun _ _ => by kernel_rfl⟩
instance tp182_0 : TyPart Tryz.prog 182 0 0 5 true := ⟨fun _ _ => by kernel_rfl⟩
instance tf182_1 : TyFld Tryz.prog 182 1 5 := ⟨fun _ _ => by kernel_rfl⟩
instance tp182_1 : TyPart Tryz.prog 182 1 5 1 false := ⟨fun _ _ => by kernel_rfl⟩
instance tf182_2 : TyFld Tryz.prog 182 2 6 := ⟨fun _ _ => by kernel_rfl⟩
instance tp182_2 : TyPart Tryz.prog 182 2 6 3 true := ⟨fun _ _ => by kernel_rfl⟩
instance ty183 : Ty Tryz.prog 183 9 true := ⟨by kernel_rfl, by kernel_rfl⟩
instance tz183 : TyZ Tryz.prog 183 [.int .i64 0, .int .i64 0, .int .i64 0, .int .i64 0, .int .i64 0, .int .i64 0, .slice none 0 0, .int .i64 0, .bool false] := ⟨by kernel_rfl⟩
instance tby183 : TyBy Tryz.prog 183 88 := ⟨by kernel_rfl⟩
instance tss183 : TyS Tryz.prog 183 [(0, 5), (5, 1), (6, 3)] := ⟨by kernel_rfl, by kernel_rfl⟩
instance tf183_0 : TyFld Tryz.prog 183 0 0 := ⟨fun _ _ => by kernel_rfl⟩
instance tp183_0 : TyPart Tryz.prog 183 0 0 5 true := ⟨fun _ _ => by kernel_rfl⟩
instance tf183_1 : TyFld Tryz.prog 183 1 5 := ⟨fun _ _ => by kernel_rfl⟩
instance tp183_1 : TyPart Tryz.prog 183 1 5 1 false := ⟨fun _ _ => by kernel_rfl⟩
instance tf183_2 : TyFld Tryz.prog 183 2 6 := ⟨fun _ _ => by kernel_rfl⟩
instance tp183_2 : TyPart Tryz.prog 183 2 6 3 true := ⟨fun _ _ => by kernel_rfl⟩
instance ty184 : Ty Tryz.prog 184 1 true := ⟨by kernel_rfl, by kernel_rfl⟩
instance tz184 : TyZ Tryz.prog 184 [.pointer none] := ⟨by kernel_rfl⟩
instance tby184 : TyBy Tryz.prog 184 8 := ⟨by kernel_rfl⟩
instance tss184 : TyS Tryz.prog 184 [(0, 1)] := ⟨by kernel_rfl, by kernel_rfl⟩
instance tf184_0 : TyFld Tryz.prog 184 0 0 := ⟨fun _ _ => by kernel_rfl⟩
instance tp184_0 : TyPart Tryz.prog 184 0 0 1 false := ⟨fun _ _ => by kernel_rfl⟩
instance ty185 : Ty Tryz.prog 185 1 true := ⟨by kernel_rfl, by kernel_rfl⟩
instance tz185 : TyZ Tryz.prog 185 [.pointer none] := ⟨by kernel_rfl⟩
instance tby185 : TyBy Tryz.prog 185 8 := ⟨by kernel_rfl⟩
instance tss185 : TyS Tryz.prog 185 [(0, 1)] := ⟨by kernel_rfl, by kernel_rfl⟩
instance tf185_0 : TyFld Tryz.prog 185 0 0 := ⟨fun _ _ => by kernel_rfl⟩
instance tp185_0 : TyPart Tryz.prog 185 0 0 1 false := ⟨fun _ _ => by kernel_rfl⟩
instance ty187 : Ty Tryz.prog 187 1 false := ⟨by kernel_rfl, by kernel_rfl⟩
instance tz187 : TyZ Tryz.prog 187 [.nilFunc] := ⟨by kernel_rfl⟩
instance tby187 : TyBy Tryz.prog 187 8 := ⟨by kernel_rfl⟩
instance ty188 : Ty Tryz.prog 188 1 true := ⟨by kernel_rfl, by kernel_rfl⟩
instance tz188 : TyZ Tryz.prog 188 [.int .i64 0] := ⟨by kernel_rfl⟩
instance tby188 : TyBy Tryz.prog 188 8 := ⟨by kernel_rfl⟩
instance tss188 : TyS Tryz.prog 188 [(0, 1)] := ⟨by kernel_rfl, by kernel_rfl⟩
instance tf188_0 : TyFld Tryz.prog 188 0 0 := ⟨fun _ _ => by kernel_rfl⟩
instance tp188_0 : TyPart Tryz.prog 188 0 0 1 false := ⟨fun _ _ => by kernel_rfl⟩
instance ty189 : Ty Tryz.prog 189 1 true := ⟨by kernel_rfl, by kernel_rfl⟩
instance tz189 : TyZ Tryz.prog 189 [.int .i64 0] := ⟨by kernel_rfl⟩
instance tby189 : TyBy Tryz.prog 189 8 := ⟨by kernel_rfl⟩
instance tss189 : TyS Tryz.prog 189 [(0, 1)] := ⟨by kernel_rfl, by kernel_rfl⟩
instance tf189_0 : TyFld Tryz.prog 189 0 0 := ⟨fun _ _ => by kernel_rfl⟩
instance tp189_0 : TyPart Tryz.prog 189 0 0 1 false := ⟨fun _ _ => by kernel_rfl⟩
instance tes189 : TyEqS Tryz.prog 189 [.int .i64] := ⟨by kernel_rfl, by kernel_rfl, by kernel_rfl, by kernel_rfl⟩
instance ty190 : Ty Tryz.prog 190 64 true := ⟨by kernel_rfl, by kernel_rfl⟩
instance tz190 : TyZ Tryz.prog 190 [.int .u8 0, .int .u8 0, .int .u8 0, .int .u8 0, .int .u8 0, .int .u8 0, .int .u8 0, .int .u8 0, .int .u8 0, .int .u8 0, .int .u8 0, .int .u8 0, .int .u8 0, .int .u8 0, .int .u8 0, .int .u8 0, .int .u8 0, .int .u8 0, .int .u8 0, .int .u8 0, .int .u8 0, .int .u8 0, .int .u8 0, .int .u8 0, .int .u8 0, .int .u8 0, .int .u8 0, .int .u8 0, .int .u8 0, .int .u8 0, .int .u8 0, .int .u8 0, .int .u8 0, .int .u8 0, .int .u8 0, .int .u8 0, .int .u8 0, .int .u8 0, .int .u8 0, .int .u8 0, .int .u8 0, .int .u8 0, .int .u8 0, .int .u8 0, .int .u8 0, .int .u8 0, .int .u8 0, .int .u8 0, .int .u8 0, .int .u8 0, .int .u8 0, .int .u8 0, .int .u8 0, .int .u8 0, .int .u8 0, .int .u8 0, .int .u8 0, .int .u8 0, .int .u8 0, .int .u8 0, .int .u8 0, .int .u8 0, .int .u8 0, .int .u8 0] := ⟨by kernel_rfl⟩
instance tby190 : TyBy Tryz.prog 190 64 := ⟨by kernel_rfl⟩
instance tar190 : TyArr Tryz.prog 190 64 5 1 := ⟨by kernel_rfl, by kernel_rfl⟩
instance teb190 : TyEqB Tryz.prog 190 64 5 := ⟨by kernel_rfl, by kernel_rfl, by kernel_rfl, by kernel_rfl⟩
instance ty191 : Ty Tryz.prog 191 64 true := ⟨by kernel_rfl, by kernel_rfl⟩
instance tz191 : TyZ Tryz.prog 191 [.int .u8 0, .int .u8 0, .int .u8 0, .int .u8 0, .int .u8 0, .int .u8 0, .int .u8 0, .int .u8 0, .int .u8 0, .int .u8 0, .int .u8 0, .int .u8 0, .int .u8 0, .int .u8 0, .int .u8 0, .int .u8 0, .int .u8 0, .int .u8 0, .int .u8 0, .int .u8 0, .int .u8 0, .int .u8 0, .int .u8 0, .int .u8 0, .int .u8 0, .int .u8 0, .int .u8 0, .int .u8 0, .int .u8 0, .int .u8 0, .int .u8 0, .int .u8 0, .int .u8 0, .int .u8 0, .int .u8 0, .int .u8 0, .int .u8 0, .int .u8 0, .int .u8 0, .int .u8 0, .int .u8 0, .int .u8 0, .int .u8 0, .int .u8 0, .int .u8 0, .int .u8 0, .int .u8 0, .int .u8 0, .int .u8 0, .int .u8 0, .int .u8 0, .int .u8 0, .int .u8 0, .int .u8 0, .int .u8 0, .int .u8 0, .int .u8 0, .int .u8 0, .int .u8 0, .int .u8 0, .int .u8 0, .int .u8 0, .int .u8 0, .int .u8 0] := ⟨by kernel_rfl⟩
instance tby191 : TyBy Tryz.prog 191 64 := ⟨by kernel_rfl⟩
instance tar191 : TyArr Tryz.prog 191 64 5 1 := ⟨by kernel_rfl, by kernel_rfl⟩
instance teb191 : TyEqB Tryz.prog 191 64 5 := ⟨by kernel_rfl, by kernel_rfl, by kernel_rfl, by kernel_rfl⟩
instance ty192 : Ty Tryz.prog 192 65 true := ⟨by kernel_rfl, by kernel_rfl⟩
instance tz192 : TyZ Tryz.prog 192 [.int .i64 0, .int .u8 0, .int .u8 0, .int .u8 0, .int .u8 0, .int .u8 0, .int .u8 0, .int .u8 0, .int .u8 0, .int .u8 0, .int .u8 0, .int .u8 0, .int .u8 0, .int .u8 0, .int .u8 0, .int .u8 0, .int .u8 0, .int .u8 0, .int .u8 0, .int .u8 0, .int .u8 0, .int .u8 0, .int .u8 0, .int .u8 0, .int .u8 0, .int .u8 0, .int .u8 0, .int .u8 0, .int .u8 0, .int .u8 0, .int .u8 0, .int .u8 0, .int .u8 0, .int .u8 0, .int .u8 0, .int .u8 0, .int .u8 0, .int .u8 0, .int .u8 0, .int .u8 0, .int .u8 0, .int .u8 0, .int .u8 0, .int .u8 0, .int .u8 0, .int .u8 0, .int .u8 0, .int .u8 0, .int .u8 0, .int .u8 0, .int .u8 0, .int .u8 0, .int .u8 0, .int .u8 0, .int .u8 0, .int .u8 0, .int .u8 0, .int .u8 0, .int .u8 0, .int .u8 0, .int .u8 0, .int .u8 0, .int .u8 0, .int .u8 0, .int .u8 0] := ⟨by kernel_rfl⟩
instance tby192 : TyBy Tryz.prog 192 72 := ⟨by kernel_rfl⟩
instance tss192 : TyS Tryz.prog 192 [(0, 1), (1, 64)] := ⟨by kernel_rfl, by kernel_rfl⟩
instance tf192_0 : TyFld Tryz.prog 192 0 0 := ⟨fun _ _ => by kernel_rfl⟩
instance tp192_0 : TyPart Tryz.prog 192 0 0 1 true := ⟨fun _ _ => by kernel_rfl⟩
instance tf192_1 : TyFld Tryz.prog 192 1 1 := ⟨fun _ _ => by kernel_rfl⟩
instance tp192_1 : TyPart Tryz.prog 192 1 1 64 true := ⟨fun _ _ => by kernel_rfl⟩
instance ty193 : Ty Tryz.prog 193 65 true := ⟨by kernel_rfl, by kernel_rfl⟩
instance tz193 : TyZ Tryz.prog 193 [.int .i64 0, .int .u8 0, .int .u8 0, .int .u8 0, .int .u8 0, .int .u8 0, .int .u8 0, .int .u8 0, .int .u8 0, .int .u8 0, .int .u8 0, .int .u8 0, .int .u8 0, .int .u8 0, .int .u8 0, .int .u8 0, .int .u8 0, .int .u8 0, .int .u8 0, .int .u8 0, .int .u8 0, .int .u8 0, .int .u8 0, .int .u8 0, .int .u8 0, .int .u8 0, .int .u8 0, .int .u8 0, .int .u8 0, .int .u8 0, .int .u8 0, .int .u8 0, .int .u8 0, .int .u8 0, .int .u8 0, .int .u8 0, .int .u8 0, .int .u8 0, .int .u8 0, .int .u8 0, .int .u8 0, .int .u8 0, .int .u8 0, .int .u8 0, .int .u8 0, .int .u8 0, .int .u8 0, .int .u8 0, .int .u8 0, .int .u8 0, .int .u8 0, .int .u8 0, .int .u8 0, .int .u8 0, .int .u8 0, .int .u8 0, .int .u8 0, .int .u8 0, .int .u8 0, .int .u8 0, .int .u8 0, .int .u8 0, .int .u8 0, .int .u8 0, .int .u8 0] := ⟨by kernel_rfl⟩
instance tby193 : TyBy Tryz.prog 193 72 := ⟨by kernel_rfl⟩
instance tss193 : TyS Tryz.prog 193 [(0, 1), (1, 64)] := ⟨by kernel_rfl, by kernel_rfl⟩
instance tf193_0 : TyFld Tryz.prog 193 0 0 := ⟨fun _ _ => by kernel_rfl⟩
instance tp193_0 : TyPart Tryz.prog 193 0 0 1 true := ⟨fun _ _ => by kernel_rfl⟩
instance tf193_1 : TyFld Tryz.prog 193 1 1 := ⟨fun _ _ => by kernel_rfl⟩
instance tp193_1 : TyPart Tryz.prog 193 1 1 64 true := ⟨fun _ _ => by kernel_rfl⟩
instance ty195 : Ty Tryz.prog 195 1 false := ⟨by kernel_rfl, by kernel_rfl⟩
instance tz195 : TyZ Tryz.prog 195 [.pointer none] := ⟨by kernel_rfl⟩
instance tby195 : TyBy Tryz.prog 195 8 := ⟨by kernel_rfl⟩
instance ty196 : Ty Tryz.prog 196 1 false := ⟨by kernel_rfl, by kernel_rfl⟩
instance tz196 : TyZ Tryz.prog 196 [.int .u64 0] := ⟨by kernel_rfl⟩
instance tby196 : TyBy Tryz.prog 196 8 := ⟨by kernel_rfl⟩
instance tin196 : TyInt Tryz.prog 196 .u64 := ⟨by kernel_rfl⟩
instance ty197 : Ty Tryz.prog 197 3 true := ⟨by kernel_rfl, by kernel_rfl⟩
instance tz197 : TyZ Tryz.prog 197 [.pointer none, .pointer none, .int .u64 0] := ⟨by kernel_rfl⟩
instance tby197 : TyBy Tryz.prog 197 24 := ⟨by kernel_rfl⟩
instance tss197 : TyS Tryz.prog 197 [(0, 1), (1, 1), (2, 1)] := ⟨by kernel_rfl, by kernel_rfl⟩
instance tf197_0 : TyFld Tryz.prog 197 0 0 := ⟨fun _ _ => by kernel_rfl⟩
instance tp197_0 : TyPart Tryz.prog 197 0 0 1 false := ⟨fun _ _ => by kernel_rfl⟩
instance tf197_1 : TyFld Tryz.prog 197 1 1 := ⟨fun _ _ => by kernel_rfl⟩
instance tp197_1 : TyPart Tryz.prog 197 1 1 1 false := ⟨fun _ _ => by kernel_rfl⟩
instance tf197_2 : TyFld Tryz.prog 197 2 2 := ⟨fun _ _ => by kernel_rfl⟩
instance tp197_2 : TyPart Tryz.prog 197 2 2 1 false := ⟨fun _ _ => by kernel_rfl⟩
instance ty198 : Ty Tryz.prog 198 3 true := ⟨by kernel_rfl, by kernel_rfl⟩
instance tz198 : TyZ Tryz.prog 198 [.pointer none, .pointer none, .int .u64 0] := ⟨by kernel_rfl⟩
instance tby198 : TyBy Tryz.prog 198 24 := ⟨by kernel_rfl⟩
instance tss198 : TyS Tryz.prog 198 [(0, 1), (1, 1), (2, 1)] := ⟨by kernel_rfl, by kernel_rfl⟩
instance tf198_0 : TyFld Tryz.prog 198 0 0 := ⟨fun _ _ => by kernel_rfl⟩
instance tp198_0 : TyPart Tryz.prog 198 0 0 1 false := ⟨fun _ _ => by kernel_rfl⟩
instance tf198_1 : TyFld Tryz.prog 198 1 1 := ⟨fun _ _ => by kernel_rfl⟩
instance tp198_1 : TyPart Tryz.prog 198 1 1 1 false := ⟨fun _ _ => by kernel_rfl⟩
instance tf198_2 : TyFld Tryz.prog 198 2 2 := ⟨fun _ _ => by kernel_rfl⟩
instance tp198_2 : TyPart Tryz.prog 198 2 2 1 false := ⟨fun _ _ => by kernel_rfl⟩
instance ty199 : Ty Tryz.prog 199 1 false := ⟨by kernel_rfl, by kernel_rfl⟩
instance tz199 : TyZ Tryz.prog 199 [.nilFunc] := ⟨by kernel_rfl⟩
instance tby199 : TyBy Tryz.prog 199 8 := ⟨by kernel_rfl⟩
instance ty200 : Ty Tryz.prog 200 1 false := ⟨by kernel_rfl, by kernel_rfl⟩
instance tz200 : TyZ Tryz.prog 200 [.nilIface] := ⟨by kernel_rfl⟩
instance tby200 : TyBy Tryz.prog 200 16 := ⟨by kernel_rfl⟩
instance ty201 : Ty Tryz.prog 201 1 false := ⟨by kernel_rfl, by kernel_rfl⟩
instance tz201 : TyZ Tryz.prog 201 [.nilIface] := ⟨by kernel_rfl⟩
instance tby201 : TyBy Tryz.prog 201 16 := ⟨by kernel_rfl⟩
instance ty202 : Ty Tryz.prog 202 1 false := ⟨by kernel_rfl, by kernel_rfl⟩
instance tz202 : TyZ Tryz.prog 202 [.nilFunc] := ⟨by kernel_rfl⟩
instance tby202 : TyBy Tryz.prog 202 8 := ⟨by kernel_rfl⟩
instance ty203 : Ty Tryz.prog 203 1 false := ⟨by kernel_rfl, by kernel_rfl⟩
instance tz203 : TyZ Tryz.prog 203 [.int .u8 0] := ⟨by kernel_rfl⟩
instance tby203 : TyBy Tryz.prog 203 1 := ⟨by kernel_rfl⟩
instance tin203 : TyInt Tryz.prog 203 .u8 := ⟨by kernel_rfl⟩
instance ty204 : Ty Tryz.prog 204 1 false := ⟨by kernel_rfl, by kernel_rfl⟩
instance tz204 : TyZ Tryz.prog 204 [.nilFunc] := ⟨by kernel_rfl⟩
instance tby204 : TyBy Tryz.prog 204 8 := ⟨by kernel_rfl⟩
instance ty205 : Ty Tryz.prog 205 1 false := ⟨by kernel_rfl, by kernel_rfl⟩
instance tz205 : TyZ Tryz.prog 205 [.nilFunc] := ⟨by kernel_rfl⟩
instance tby205 : TyBy Tryz.prog 205 8 := ⟨by kernel_rfl⟩
instance ty206 : Ty Tryz.prog 206 1 false := ⟨by kernel_rfl, by kernel_rfl⟩
instance tz206 : TyZ Tryz.prog 206 [.nilFunc] := ⟨by kernel_rfl⟩
instance tby206 : TyBy Tryz.prog 206 8 := ⟨by kernel_rfl⟩
instance ty207 : Ty Tryz.prog 207 2 true := ⟨by kernel_rfl, by kernel_rfl⟩
instance tz207 : TyZ Tryz.prog 207 [.int .i64 0, .int .i64 0] := ⟨by kernel_rfl⟩
instance tby207 : TyBy Tryz.prog 207 16 := ⟨by kernel_rfl⟩
instance tss207 : TyS Tryz.prog 207 [(0, 1), (1, 1)] := ⟨by kernel_rfl, by kernel_rfl⟩
instance tf207_0 : TyFld Tryz.prog 207 0 0 := ⟨fun _ _ => by kernel_rfl⟩
instance tp207_0 : TyPart Tryz.prog 207 0 0 1 false := ⟨fun _ _ => by kernel_rfl⟩
instance tf207_1 : TyFld Tryz.prog 207 1 1 := ⟨fun _ _ => by kernel_rfl⟩
instance tp207_1 : TyPart Tryz.prog 207 1 1 1 false := ⟨fun _ _ => by kernel_rfl⟩
instance ty208 : Ty Tryz.prog 208 2 true := ⟨by kernel_rfl, by kernel_rfl⟩
instance tz208 : TyZ Tryz.prog 208 [.int .i64 0, .int .i64 0] := ⟨by kernel_rfl⟩
instance tby208 : TyBy Tryz.prog 208 16 := ⟨by kernel_rfl⟩
instance tss208 : TyS Tryz.prog 208 [(0, 1), (1, 1)] := ⟨by kernel_rfl, by kernel_rfl⟩
instance tf208_0 : TyFld Tryz.prog 208 0 0 := ⟨fun _ _ => by kernel_rfl⟩
instance tp208_0 : TyPart Tryz.prog 208 0 0 1 false := ⟨fun _ _ => by kernel_rfl⟩
instance tf208_1 : TyFld Tryz.prog 208 1 1 := ⟨fun _ _ => by kernel_rfl⟩
instance tp208_1 : TyPart Tryz.prog 208 1 1 1 false := ⟨fun _ _ => by kernel_rfl⟩
instance tes208 : TyEqS Tryz.prog 208 [.int .i64, .int .i64] := ⟨by kernel_rfl, by kernel_rfl, by kernel_rfl, by kernel_rfl⟩
instance ty210 : Ty Tryz.prog 210 1 false := ⟨by kernel_rfl, by kernel_rfl⟩
instance tz210 : TyZ Tryz.prog 210 [.nilFunc] := ⟨by kernel_rfl⟩
instance tby210 : TyBy Tryz.prog 210 8 := ⟨by kernel_rfl⟩
instance ty211 : Ty Tryz.prog 211 1 false := ⟨by kernel_rfl, by kernel_rfl⟩
instance tz211 : TyZ Tryz.prog 211 [.slice none 0 0] := ⟨by kernel_rfl⟩
instance tby211 : TyBy Tryz.prog 211 24 := ⟨by kernel_rfl⟩
instance tsl211 : TySl Tryz.prog 211 29 1 := ⟨by kernel_rfl, by kernel_rfl⟩
instance ty212 : Ty Tryz.prog 212 1 false := ⟨by kernel_rfl, by kernel_rfl⟩
instance tz212 : TyZ Tryz.prog 212 [.nilFunc] := ⟨by kernel_rfl⟩
instance tby212 : TyBy Tryz.prog 212 8 := ⟨by kernel_rfl⟩
instance ty213 : Ty Tryz.prog 213 1 false := ⟨by kernel_rfl, by kernel_rfl⟩
instance tz213 : TyZ Tryz.prog 213 [.nilFunc] := ⟨by kernel_rfl⟩
instance tby213 : TyBy Tryz.prog 213 8 := ⟨by kernel_rfl⟩
instance ty214 : Ty Tryz.prog 214 3 true := ⟨by kernel_rfl, by kernel_rfl⟩
instance tz214 : TyZ Tryz.prog 214 [.int .i64 0, .int .i64 0, .int .i64 0] := ⟨by kernel_rfl⟩
instance tby214 : TyBy Tryz.prog 214 24 := ⟨by kernel_rfl⟩
instance tss214 : TyS Tryz.prog 214 [(0, 1), (1, 1), (2, 1)] := ⟨by kernel_rfl, by kernel_rfl⟩
instance tf214_0 : TyFld Tryz.prog 214 0 0 := ⟨fun _ _ => by kernel_rfl⟩
instance tp214_0 : TyPart Tryz.prog 214 0 0 1 false := ⟨fun _ _ => by kernel_rfl⟩
instance tf214_1 : TyFld Tryz.prog 214 1 1 := ⟨fun _ _ => by kernel_rfl⟩
instance tp214_1 : TyPart Tryz.prog 214 1 1 1 false := ⟨fun _ _ => by kernel_rfl⟩
instance tf214_2 : TyFld Tryz.prog 214 2 2 := ⟨fun _ _ => by kernel_rfl⟩
instance tp214_2 : TyPart Tryz.prog 214 2 2 1 false := ⟨fun _ _ => by kernel_rfl⟩
instance ty215 : Ty Tryz.prog 215 3 true := ⟨by kernel_rfl, by kernel_rfl⟩
instance tz215 : TyZ Tryz.prog 215 [.int .i64 0, .int .i64 0, .int .i64 0] := ⟨by kernel_rfl⟩
instance tby215 : TyBy Tryz.prog 215 24 := ⟨by kernel_rfl⟩
instance tss215 : TyS Tryz.prog 215 [(0, 1), (1, 1), (2, 1)] := ⟨by kernel_rfl, by kernel_rfl⟩
instance tf215_0 : TyFld Tryz.prog 215 0 0 := ⟨fun _ _ => by kernel_rfl⟩
instance tp215_0 : TyPart Tryz.prog 215 0 0 1 false := ⟨fun _ _ => by kernel_rfl⟩
instance tf215_1 : TyFld Tryz.prog 215 1 1 := ⟨fun _ _ => by kernel_rfl⟩
instance tp215_1 : TyPart Tryz.prog 215 1 1 1 false := ⟨fun _ _ => by kernel_rfl⟩
instance tf215_2 : TyFld Tryz.prog 215 2 2 := ⟨fun _ _ => by kernel_rfl⟩
instance tp215_2 : TyPart Tryz.prog 215 2 2 1 false := ⟨fun _ _ => by kernel_rfl⟩
instance tes215 : TyEqS Tryz.prog 215 [.int .i64, .int .i64, .int .i64] := ⟨by kernel_rfl, by kernel_rfl, by kernel_rfl, by kernel_rfl⟩
instance ty216 : Ty Tryz.prog 216 1 false := ⟨by kernel_rfl, by kernel_rfl⟩
instance tz216 : TyZ Tryz.prog 216 [.nilFunc] := ⟨by kernel_rfl⟩
instance tby216 : TyBy Tryz.prog 216 8 := ⟨by kernel_rfl⟩
instance ty217 : Ty Tryz.prog 217 1 false := ⟨by kernel_rfl, by kernel_rfl⟩
instance tz217 : TyZ Tryz.prog 217 [.nilFunc] := ⟨by kernel_rfl⟩
instance tby217 : TyBy Tryz.prog 217 8 := ⟨by kernel_rfl⟩
instance ty218 : Ty Tryz.prog 218 1 false := ⟨by kernel_rfl, by kernel_rfl⟩
instance tz218 : TyZ Tryz.prog 218 [.nilFunc] := ⟨by kernel_rfl⟩
instance tby218 : TyBy Tryz.prog 218 8 := ⟨by kernel_rfl⟩
instance ty219 : Ty Tryz.prog 219 1 false := ⟨by kernel_rfl, by kernel_rfl⟩
instance tz219 : TyZ Tryz.prog 219 [.nilFunc] := ⟨by kernel_rfl⟩
instance tby219 : TyBy Tryz.prog 219 8 := ⟨by kernel_rfl⟩
instance ty220 : Ty Tryz.prog 220 1 false := ⟨by kernel_rfl, by kernel_rfl⟩
instance tz220 : TyZ Tryz.prog 220 [.nilFunc] := ⟨by kernel_rfl⟩
instance tby220 : TyBy Tryz.prog 220 8 := ⟨by kernel_rfl⟩
instance ty222 : Ty Tryz.prog 222 1 false := ⟨by kernel_rfl, by kernel_rfl⟩
instance tz222 : TyZ Tryz.prog 222 [.nilFunc] := ⟨by kernel_rfl⟩
instance tby222 : TyBy Tryz.prog 222 8 := ⟨by kernel_rfl⟩
instance ty223 : Ty Tryz.prog 223 1 false := ⟨by kernel_rfl, by kernel_rfl⟩
instance tz223 : TyZ Tryz.prog 223 [.nilFunc] := ⟨by kernel_rfl⟩
instance tby223 : TyBy Tryz.prog 223 8 := ⟨by kernel_rfl⟩
instance ty224 : Ty Tryz.prog 224 1 false := ⟨by kernel_rfl, by kernel_rfl⟩
instance tz224 : TyZ Tryz.prog 224 [.nilFunc] := ⟨by kernel_rfl⟩
instance tby224 : TyBy Tryz.prog 224 8 := ⟨by kernel_rfl⟩
instance ty225 : Ty Tryz.prog 225 1 false := ⟨by kernel_rfl, by kernel_rfl⟩
instance tz225 : TyZ Tryz.prog 225 [.nilFunc] := ⟨by kernel_rfl⟩
instance tby225 : TyBy Tryz.prog 225 8 := ⟨by kernel_rfl⟩
instance ty226 : Ty Tryz.prog 226 1 false := ⟨by kernel_rfl, by kernel_rfl⟩
instance tz226 : TyZ Tryz.prog 226 [.nilFunc] := ⟨by kernel_rfl⟩
instance tby226 : TyBy Tryz.prog 226 8 := ⟨by kernel_rfl⟩
instance ty227 : Ty Tryz.prog 227 1 false := ⟨by kernel_rfl, by kernel_rfl⟩
instance tz227 : TyZ Tryz.prog 227 [.nilFunc] := ⟨by kernel_rfl⟩
instance tby227 : TyBy Tryz.prog 227 8 := ⟨by kernel_rfl⟩
instance ty228 : Ty Tryz.prog 228 1 false := ⟨by kernel_rfl, by kernel_rfl⟩
instance tz228 : TyZ Tryz.prog 228 [.nilFunc] := ⟨by kernel_rfl⟩
instance tby228 : TyBy Tryz.prog 228 8 := ⟨by kernel_rfl⟩
instance ty229 : Ty Tryz.prog 229 1 false := ⟨by kernel_rfl, by kernel_rfl⟩
instance tz229 : TyZ Tryz.prog 229 [.nilFunc] := ⟨by kernel_rfl⟩
instance tby229 : TyBy Tryz.prog 229 8 := ⟨by kernel_rfl⟩
instance ty231 : Ty Tryz.prog 231 1 false := ⟨by kernel_rfl, by kernel_rfl⟩
instance tz231 : TyZ Tryz.prog 231 [.nilFunc] := ⟨by kernel_rfl⟩
instance tby231 : TyBy Tryz.prog 231 8 := ⟨by kernel_rfl⟩
instance ty232 : Ty Tryz.prog 232 1 false := ⟨by kernel_rfl, by kernel_rfl⟩
instance tz232 : TyZ Tryz.prog 232 [.nilFunc] := ⟨by kernel_rfl⟩
instance tby232 : TyBy Tryz.prog 232 8 := ⟨by kernel_rfl⟩
instance ty233 : Ty Tryz.prog 233 1 false := ⟨by kernel_rfl, by kernel_rfl⟩
instance tz233 : TyZ Tryz.prog 233 [.nilFunc] := ⟨by kernel_rfl⟩
instance tby233 : TyBy Tryz.prog 233 8 := ⟨by kernel_rfl⟩
instance ty234 : Ty Tryz.prog 234 1 false := ⟨by kernel_rfl, by kernel_rfl⟩
instance tz234 : TyZ Tryz.prog 234 [.nilFunc] := ⟨by kernel_rfl⟩
instance tby234 : TyBy Tryz.prog 234 8 := ⟨by kernel_rfl⟩
instance ty236 : Ty Tryz.prog 236 1 false := ⟨by kernel_rfl, by kernel_rfl⟩
instance tz236 : TyZ Tryz.prog 236 [.nilFunc] := ⟨by kernel_rfl⟩
instance tby236 : TyBy Tryz.prog 236 8 := ⟨by kernel_rfl⟩
instance ty237 : Ty Tryz.prog 237 1 false := ⟨by kernel_rfl, by kernel_rfl⟩
instance tz237 : TyZ Tryz.prog 237 [.nilFunc] := ⟨by kernel_rfl⟩
instance tby237 : TyBy Tryz.prog 237 8 := ⟨by kernel_rfl⟩
instance ty238 : Ty Tryz.prog 238 1 false := ⟨by kernel_rfl, by kernel_rfl⟩
instance tz238 : TyZ Tryz.prog 238 [.nilFunc] := ⟨by kernel_rfl⟩
instance tby238 : TyBy Tryz.prog 238 8 := ⟨by kernel_rfl⟩
instance ty239 : Ty Tryz.prog 239 1 false := ⟨by kernel_rfl, by kernel_rfl⟩
instance tz239 : TyZ Tryz.prog 239 [.nilFunc] := ⟨by kernel_rfl⟩
instance tby239 : TyBy Tryz.prog 239 8 := ⟨by kernel_rfl⟩
instance ty240 : Ty Tryz.prog 240 1 false := ⟨by kernel_rfl, by kernel_rfl⟩
instance tz240 : TyZ Tryz.prog 240 [.nilFunc] := ⟨by kernel_rfl⟩
instance tby240 : TyBy Tryz.prog 240 8 := ⟨by kernel_rfl⟩
instance ty242 : Ty Tryz.prog 242 1 false := ⟨by kernel_rfl, by kernel_rfl⟩
instance tz242 : TyZ Tryz.prog 242 [.nilFunc] := ⟨by kernel_rfl⟩
instance tby242 : TyBy Tryz.prog 242 8 := ⟨by kernel_rfl⟩
instance ty243 : Ty Tryz.prog 243 1 false := ⟨by kernel_rfl, by kernel_rfl⟩
instance tz243 : TyZ Tryz.prog 243 [.nilFunc] := ⟨by kernel_rfl⟩
instance tby243 : TyBy Tryz.prog 243 8 := ⟨by kernel_rfl⟩
instance ty244 : Ty Tryz.prog 244 1 false := ⟨by kernel_rfl, by kernel_rfl⟩
instance tz244 : TyZ Tryz.prog 244 [.nilFunc] := ⟨by kernel_rfl⟩
instance tby244 : TyBy Tryz.prog 244 8 := ⟨by kernel_rfl⟩
instance ty245 : Ty Tryz.prog 245 1 false := ⟨by kernel_rfl, by kernel_rfl⟩
instance tz245 : TyZ Tryz.prog 245 [.nilFunc] := ⟨by kernel_rfl⟩
instance tby245 : TyBy Tryz.prog 245 8 := ⟨by kernel_rfl⟩
instance ty246 : Ty Tryz.prog 246 1 false := ⟨by kernel_rfl, by kernel_rfl⟩
instance tz246 : TyZ Tryz.prog 246 [.nilFunc] := ⟨by kernel_rfl⟩
instance tby246 : TyBy Tryz.prog 246 8 := ⟨by kernel_rfl⟩
instance ty248 : Ty Tryz.prog 248 1 false := ⟨by kernel_rfl, by kernel_rfl⟩
instance tz248 : TyZ Tryz.prog 248 [.nilFunc] := ⟨by kernel_rfl⟩
instance tby248 : TyBy Tryz.prog 248 8 := ⟨by kernel_rfl⟩
instance ty250 : Ty Tryz.prog 250 1 false := ⟨by kernel_rfl, by kernel_rfl⟩
instance tz250 : TyZ Tryz.prog 250 [.nilFunc] := ⟨by kernel_rfl⟩
instance tby250 : TyBy Tryz.prog 250 8 := ⟨by kernel_rfl⟩
instance ty251 : Ty Tryz.prog 251 1 false := ⟨by kernel_rfl, by kernel_rfl⟩
instance tz251 : TyZ Tryz.prog 251 [.slice none 0 0] := ⟨by kernel_rfl⟩
instance tby251 : TyBy Tryz.prog 251 24 := ⟨by kernel_rfl⟩
instance tsl251 : TySl Tryz.prog 251 256 3 := ⟨by kernel_rfl, by kernel_rfl⟩
instance ty253 : Ty Tryz.prog 253 1 false := ⟨by kernel_rfl, by kernel_rfl⟩
instance tz253 : TyZ Tryz.prog 253 [.nilFunc] := ⟨by kernel_rfl⟩
instance tby253 : TyBy Tryz.prog 253 8 := ⟨by kernel_rfl⟩
instance ty254 : Ty Tryz.prog 254 1 false := ⟨by kernel_rfl, by kernel_rfl⟩
instance tz254 : TyZ Tryz.prog 254 [.nilFunc] := ⟨by kernel_rfl⟩
instance tby254 : TyBy Tryz.prog 254 8 := ⟨by kernel_rfl⟩
instance ty255 : Ty Tryz.prog 255 3 true := ⟨by kernel_rfl, by kernel_rfl⟩
instance tz255 : TyZ Tryz.prog 255 [.int .i64 0, .int .i64 0, .int .i64 0] := ⟨by kernel_rfl⟩
instance tby255 : TyBy Tryz.prog 255 24 := ⟨by kernel_rfl⟩
instance tss255 : TyS Tryz.prog 255 [(0, 1), (1, 1), (2, 1)] := ⟨by kernel_rfl, by kernel_rfl⟩
instance tf255_0 : TyFld Tryz.prog 255 0 0 := ⟨fun _ _ => by kernel_rfl⟩
instance tp255_0 : TyPart Tryz.prog 255 0 0 1 false := ⟨fun _ _ => by kernel_rfl⟩
instance tf255_1 : TyFld Tryz.prog 255 1 1 := ⟨fun _ _ => by kernel_rfl⟩
instance tp255_1 : TyPart Tryz.prog 255 1 1 1 false := ⟨fun _ _ => by kernel_rfl⟩
instance tf255_2 : TyFld Tryz.prog 255 2 2 := ⟨fun _ _ => by kernel_rfl⟩
instance tp255_2 : TyPart Tryz.prog 255 2 2 1 false := ⟨fun _ _ => by kernel_rfl⟩
instance ty256 : Ty Tryz.prog 256 3 true := ⟨by kernel_rfl, by kernel_rfl⟩
instance tz256 : TyZ Tryz.prog 256 [.int .i64 0, .int .i64 0, .int .i64 0] := ⟨by kernel_rfl⟩
instance tby256 : TyBy Tryz.prog 256 24 := ⟨by kernel_rfl⟩
instance tss256 : TyS Tryz.prog 256 [(0, 1), (1, 1), (2, 1)] := ⟨by kernel_rfl, by kernel_rfl⟩
instance tf256_0 : TyFld Tryz.prog 256 0 0 := ⟨fun _ _ => by kernel_rfl⟩
instance tp256_0 : TyPart Tryz.prog 256 0 0 1 false := ⟨fun _ _ => by kernel_rfl⟩
instance tf256_1 : TyFld Tryz.prog 256 1 1 := ⟨fun _ _ => by kernel_rfl⟩
instance tp256_1 : TyPart Tryz.prog 256 1 1 1 false := ⟨fun _ _ => by kernel_rfl⟩
instance tf256_2 : TyFld Tryz.prog 256 2 2 := ⟨fun _ _ => by kernel_rfl⟩
instance tp256_2 : TyPart Tryz.prog 256 2 2 1 false := ⟨fun _ _ => by kernel_rfl⟩
instance tes256 : TyEqS Tryz.prog 256 [.int .i64, .int .i64, .int .i64] := ⟨by kernel_rfl, by kernel_rfl, by kernel_rfl, by kernel_rfl⟩
instance ty257 : Ty Tryz.prog 257 1 false := ⟨by kernel_rfl, by kernel_rfl⟩
instance tz257 : TyZ Tryz.prog 257 [.nilFunc] := ⟨by kernel_rfl⟩
instance tby257 : TyBy Tryz.prog 257 8 := ⟨by kernel_rfl⟩
instance ty258 : Ty Tryz.prog 258 1 false := ⟨by kernel_rfl, by kernel_rfl⟩
instance tz258 : TyZ Tryz.prog 258 [.nilFunc] := ⟨by kernel_rfl⟩
instance tby258 : TyBy Tryz.prog 258 8 := ⟨by kernel_rfl⟩
instance ty260 : Ty Tryz.prog 260 1 false := ⟨by kernel_rfl, by kernel_rfl⟩
instance tz260 : TyZ Tryz.prog 260 [.nilFunc] := ⟨by kernel_rfl⟩
instance tby260 : TyBy Tryz.prog 260 8 := ⟨by kernel_rfl⟩
instance ty262 : Ty Tryz.prog 262 1 false := ⟨by kernel_rfl, by kernel_rfl⟩
instance tz262 : TyZ Tryz.prog 262 [.nilFunc] := ⟨by kernel_rfl⟩
instance tby262 : TyBy Tryz.prog 262 8 := ⟨by kernel_rfl⟩
instance ty263 : Ty Tryz.prog 263 1 false := ⟨by kernel_rfl, by kernel_rfl⟩
instance tz263 : TyZ Tryz.prog 263 [.nilFunc] := ⟨by kernel_rfl⟩
instance tby263 : TyBy Tryz.prog 263 8 := ⟨by kernel_rfl⟩
instance ty264 : Ty Tryz.prog 264 1 false := ⟨by kernel_rfl, by kernel_rfl⟩
instance tz264 : TyZ Tryz.prog 264 [.nilFunc] := ⟨by kernel_rfl⟩
instance tby264 : TyBy Tryz.prog 264 8 := ⟨by kernel_rfl⟩
instance ty265 : Ty Tryz.prog 265 1 false := ⟨by kernel_rfl, by kernel_rfl⟩
instance tz265 : TyZ Tryz.prog 265 [.nilFunc] := ⟨by kernel_rfl⟩
instance tby265 : TyBy Tryz.prog 265 8 := ⟨by kernel_rfl⟩
instance ty266 : Ty Tryz.prog 266 1 false := ⟨by kernel_rfl, by kernel_rfl⟩
instance tz266 : TyZ Tryz.prog 266 [.nilFunc] := ⟨by kernel_rfl⟩
instance tby266 : TyBy Tryz.prog 266 8 := ⟨by kernel_rfl⟩
instance ty267 : Ty Tryz.prog 267 1 false := ⟨by kernel_rfl, by kernel_rfl⟩
instance tz267 : TyZ Tryz.prog 267 [.nilFunc] := ⟨by kernel_rfl⟩
instance tby267 : TyBy Tryz.prog 267 8 := ⟨by kernel_rfl⟩
instance ty269 : Ty Tryz.prog 269 1 false := ⟨by kernel_rfl, by kernel_rfl⟩
instance tz269 : TyZ Tryz.prog 269 [.nilFunc] := ⟨by kernel_rfl⟩
instance tby269 : TyBy Tryz.prog 269 8 := ⟨by kernel_rfl⟩
instance ty270 : Ty Tryz.prog 270 1 false := ⟨by kernel_rfl, by kernel_rfl⟩
instance tz270 : TyZ Tryz.prog 270 [.nilFunc] := ⟨by kernel_rfl⟩
instance tby270 : TyBy Tryz.prog 270 8 := ⟨by kernel_rfl⟩
instance ty271 : Ty Tryz.prog 271 2 true := ⟨by kernel_rfl, by kernel_rfl⟩
instance tz271 : TyZ Tryz.prog 271 [.int .i64 0, .string ⟨#[]⟩] := ⟨by kernel_rfl⟩
instance tby271 : TyBy Tryz.prog 271 24 := ⟨by kernel_rfl⟩
instance tss271 : TyS Tryz.prog 271 [(0, 1), (1, 1)] := ⟨by kernel_rfl, by kernel_rfl⟩
instance tf271_0 : TyFld Tryz.prog 271 0 0 := ⟨fun _ _ => by kernel_rfl⟩
instance tp271_0 : TyPart Tryz.prog 271 0 0 1 false := ⟨fun _ _ => by kernel_rfl⟩
instance tf271_1 : TyFld Tryz.prog 271 1 1 := ⟨fun _ _ => by kernel_rfl⟩
instance tp271_1 : TyPart Tryz.prog 271 1 1 1 false := ⟨fun _ _ => by kernel_rfl⟩
instance ty272 : Ty Tryz.prog 272 2 true := ⟨by kernel_rfl, by kernel_rfl⟩
instance tz272 : TyZ Tryz.prog 272 [.int .i64 0, .string ⟨#[]⟩] := ⟨by kernel_rfl⟩
instance tby272 : TyBy Tryz.prog 272 24 := ⟨by kernel_rfl⟩
instance tss272 : TyS Tryz.prog 272 [(0, 1), (1, 1)] := ⟨by kernel_rfl, by kernel_rfl⟩
instance tf272_0 : TyFld Tryz.prog 272 0 0 := ⟨fun _ _ => by kernel_rfl⟩
instance tp272_0 : TyPart Tryz.prog 272 0 0 1 false := ⟨fun _ _ => by kernel_rfl⟩
instance tf272_1 : TyFld Tryz.prog 272 1 1 := ⟨fun _ _ => by kernel_rfl⟩
instance tp272_1 : TyPart Tryz.prog 272 1 1 1 false := ⟨fun _ _ => by kernel_rfl⟩
instance tes272 : TyEqS Tryz.prog 272 [.int .i64, .str] := ⟨by kernel_rfl, by kernel_rfl, by kernel_rfl, by kernel_rfl⟩
instance ty273 : Ty Tryz.prog 273 1 false := ⟨by kernel_rfl, by kernel_rfl⟩
instance tz273 : TyZ Tryz.prog 273 [.nilFunc] := ⟨by kernel_rfl⟩
instance tby273 : TyBy Tryz.prog 273 8 := ⟨by kernel_rfl⟩
instance ty275 : Ty Tryz.prog 275 1 false := ⟨by kernel_rfl, by kernel_rfl⟩
instance tz275 : TyZ Tryz.prog 275 [.nilFunc] := ⟨by kernel_rfl⟩
instance tby275 : TyBy Tryz.prog 275 8 := ⟨by kernel_rfl⟩
instance ty276 : Ty Tryz.prog 276 1 false := ⟨by kernel_rfl, by kernel_rfl⟩
instance tz276 : TyZ Tryz.prog 276 [.nilFunc] := ⟨by kernel_rfl⟩
instance tby276 : TyBy Tryz.prog 276 8 := ⟨by kernel_rfl⟩
instance ty277 : Ty Tryz.prog 277 1 false := ⟨by kernel_rfl, by kernel_rfl⟩
instance tz277 : TyZ Tryz.prog 277 [.nilFunc] := ⟨by kernel_rfl⟩
instance tby277 : TyBy Tryz.prog 277 8 := ⟨by kernel_rfl⟩
instance ty278 : Ty Tryz.prog 278 1 false := ⟨by kernel_rfl, by kernel_rfl⟩
instance tz278 : TyZ Tryz.prog 278 [.nilFunc] := ⟨by kernel_rfl⟩
instance tby278 : TyBy Tryz.prog 278 8 := ⟨by kernel_rfl⟩
instance ty279 : Ty Tryz.prog 279 1 false := ⟨by kernel_rfl, by kernel_rfl⟩
instance tz279 : TyZ Tryz.prog 279 [.nilFunc] := ⟨by kernel_rfl⟩
instance tby279 : TyBy Tryz.prog 279 8 := ⟨by kernel_rfl⟩
instance ty281 : Ty Tryz.prog 281 1 false := ⟨by kernel_rfl, by kernel_rfl⟩
instance tz281 : TyZ Tryz.prog 281 [.nilFunc] := ⟨by kernel_rfl⟩
instance tby281 : TyBy Tryz.prog 281 8 := ⟨by kernel_rfl⟩
instance ty282 : Ty Tryz.prog 282 1 false := ⟨by kernel_rfl, by kernel_rfl⟩
instance tz282 : TyZ Tryz.prog 282 [.nilFunc] := ⟨by kernel_rfl⟩
instance tby282 : TyBy Tryz.prog 282 8 := ⟨by kernel_rfl⟩
instance ty283 : Ty Tryz.prog 283 1 false := ⟨by kernel_rfl, by kernel_rfl⟩
instance tz283 : TyZ Tryz.prog 283 [.nilFunc] := ⟨by kernel_rfl⟩
instance tby283 : TyBy Tryz.prog 283 8 := ⟨by kernel_rfl⟩
instance ty284 : Ty Tryz.prog 284 1 false := ⟨by kernel_rfl, by kernel_rfl⟩
instance tz284 : TyZ Tryz.prog 284 [.nilFunc] := ⟨by kernel_rfl⟩
instance tby284 : TyBy Tryz.prog 284 8 := ⟨by kernel_rfl⟩
instance ty285 : Ty Tryz.prog 285 1 false := ⟨by kernel_rfl, by kernel_rfl⟩
instance tz285 : TyZ Tryz.prog 285 [.nilFunc] := ⟨by kernel_rfl⟩
instance tby285 : TyBy Tryz.prog 285 8 := ⟨by kernel_rfl⟩
instance ty287 : Ty Tryz.prog 287 1 false := ⟨by kernel_rfl, by kernel_rfl⟩
instance tz287 : TyZ Tryz.prog 287 [.nilFunc] := ⟨by kernel_rfl⟩
instance tby287 : TyBy Tryz.prog 287 8 := ⟨by kernel_rfl⟩
instance ty288 : Ty Tryz.prog 288 1 false := ⟨by kernel_rfl, by kernel_rfl⟩
instance tz288 : TyZ Tryz.prog 288 [.nilFunc] := ⟨by kernel_rfl⟩
instance tby288 : TyBy Tryz.prog 288 8 := ⟨by kernel_rfl⟩
instance ty290 : Ty Tryz.prog 290 1 false := ⟨by kernel_rfl, by kernel_rfl⟩
instance tz290 : TyZ Tryz.prog 290 [.nilFunc] := ⟨by kernel_rfl⟩
instance tby290 : TyBy Tryz.prog 290 8 := ⟨by kernel_rfl⟩
instance ty291 : Ty Tryz.prog 291 1 false := ⟨by kernel_rfl, by kernel_rfl⟩
instance tz291 : TyZ Tryz.prog 291 [.nilFunc] := ⟨by kernel_rfl⟩
instance tby291 : TyBy Tryz.prog 291 8 := ⟨by kernel_rfl⟩
instance ty292 : Ty Tryz.prog 292 1 false := ⟨by kernel_rfl, by kernel_rfl⟩
instance tz292 : TyZ Tryz.prog 292 [.nilFunc] := ⟨by kernel_rfl⟩
instance tby292 : TyBy Tryz.prog 292 8 := ⟨by kernel_rfl⟩
instance ty294 : Ty Tryz.prog 294 1 false := ⟨by kernel_rfl, by kernel_rfl⟩
instance tz294 : TyZ Tryz.prog 294 [.nilFunc] := ⟨by kernel_rfl⟩
instance tby294 : TyBy Tryz.prog 294 8 := ⟨by kernel_rfl⟩
instance ty295 : Ty Tryz.prog 295 1 false := ⟨by kernel_rfl, by kernel_rfl⟩
instance tz295 : TyZ Tryz.prog 295 [.nilFunc] := ⟨by kernel_rfl⟩
instance tby295 : TyBy Tryz.prog 295 8 := ⟨by kernel_rfl⟩
instance ty296 : Ty Tryz.prog 296 1 false := ⟨by kernel_rfl, by kernel_rfl⟩
instance tz296 : TyZ Tryz.prog 296 [.nilFunc] := ⟨by kernel_rfl⟩
instance tby296 : TyBy Tryz.prog 296 8 := ⟨by kernel_rfl⟩
instance ty297 : Ty Tryz.prog 297 1 false := ⟨by kernel_rfl, by kernel_rfl⟩
instance tz297 : TyZ Tryz.prog 297 [.nilFunc] := ⟨by kernel_rfl⟩
instance tby297 : TyBy Tryz.prog 297 8 := ⟨by kernel_rfl⟩
instance ty298 : Ty Tryz.prog 298 1 false := ⟨by kernel_rfl, by kernel_rfl⟩
instance tz298 : TyZ Tryz.prog 298 [.nilFunc] := ⟨by kernel_rfl⟩
instance tby298 : TyBy Tryz.prog 298 8 := ⟨by kernel_rfl⟩
instance ty299 : Ty Tryz.prog 299 1 false := ⟨by kernel_rfl, by kernel_rfl⟩
instance tz299 : TyZ Tryz.prog 299 [.nilFunc] := ⟨by kernel_rfl⟩
instance tby299 : TyBy Tryz.prog 299 8 := ⟨by kernel_rfl⟩
instance ty300 : Ty Tryz.prog 300 1 false := ⟨by kernel_rfl, by kernel_rfl⟩
instance tz300 : TyZ Tryz.prog 300 [.nilFunc] := ⟨by kernel_rfl⟩
instance tby300 : TyBy Tryz.prog 300 8 := ⟨by kernel_rfl⟩
instance ty301 : Ty Tryz.prog 301 1 false := ⟨by kernel_rfl, by kernel_rfl⟩
instance tz301 : TyZ Tryz.prog 301 [.nilFunc] := ⟨by kernel_rfl⟩
instance tby301 : TyBy Tryz.prog 301 8 := ⟨by kernel_rfl⟩
instance ty302 : Ty Tryz.prog 302 1 false := ⟨by kernel_rfl, by kernel_rfl⟩
instance tz302 : TyZ Tryz.prog 302 [.nilFunc] := ⟨by kernel_rfl⟩
instance tby302 : TyBy Tryz.prog 302 8 := ⟨by kernel_rfl⟩
instance ty303 : Ty Tryz.prog 303 1 false := ⟨by kernel_rfl, by kernel_rfl⟩
instance tz303 : TyZ Tryz.prog 303 [.nilFunc] := ⟨by kernel_rfl⟩
instance tby303 : TyBy Tryz.prog 303 8 := ⟨by kernel_rfl⟩
instance ty304 : Ty Tryz.prog 304 1 false := ⟨by kernel_rfl, by kernel_rfl⟩
instance tz304 : TyZ Tryz.prog 304 [.nilFunc] := ⟨by kernel_rfl⟩
instance tby304 : TyBy Tryz.prog 304 8 := ⟨by kernel_rfl⟩
instance ty305 : Ty Tryz.prog 305 1 false := ⟨by kernel_rfl, by kernel_rfl⟩
instance tz305 : TyZ Tryz.prog 305 [.nilFunc] := ⟨by kernel_rfl⟩
instance tby305 : TyBy Tryz.prog 305 8 := ⟨by kernel_rfl⟩
instance ty306 : Ty Tryz.prog 306 1 false := ⟨by kernel_rfl, by kernel_rfl⟩
instance tz306 : TyZ Tryz.prog 306 [.nilFunc] := ⟨by kernel_rfl⟩
instance tby306 : TyBy Tryz.prog 306 8 := ⟨by kernel_rfl⟩
instance ty307 : Ty Tryz.prog 307 1 false := ⟨by kernel_rfl, by kernel_rfl⟩
instance tz307 : TyZ Tryz.prog 307 [.nilFunc] := ⟨by kernel_rfl⟩
instance tby307 : TyBy Tryz.prog 307 8 := ⟨by kernel_rfl⟩
instance ty308 : Ty Tryz.prog 308 1 false := ⟨by kernel_rfl, by kernel_rfl⟩
instance tz308 : TyZ Tryz.prog 308 [.nilFunc] := ⟨by kernel_rfl⟩
instance tby308 : TyBy Tryz.prog 308 8 := ⟨by kernel_rfl⟩
instance ty309 : Ty Tryz.prog 309 1 false := ⟨by kernel_rfl, by kernel_rfl⟩
instance tz309 : TyZ Tryz.prog 309 [.nilFunc] := ⟨by kernel_rfl⟩
instance tby309 : TyBy Tryz.prog 309 8 := ⟨by kernel_rfl⟩
instance ty310 : Ty Tryz.prog 310 1 false := ⟨by kernel_rfl, by kernel_rfl⟩
instance tz310 : TyZ Tryz.prog 310 [.nilFunc] := ⟨by kernel_rfl⟩
instance tby310 : TyBy Tryz.prog 310 8 := ⟨by kernel_rfl⟩
instance ty311 : Ty Tryz.prog 311 1 false := ⟨by kernel_rfl, by kernel_rfl⟩
instance tz311 : TyZ Tryz.prog 311 [.nilFunc] := ⟨by kernel_rfl⟩
instance tby311 : TyBy Tryz.prog 311 8 := ⟨by kernel_rfl⟩
instance ty312 : Ty Tryz.prog 312 9 true := ⟨by kernel_rfl, by kernel_rfl⟩
instance tz312 : TyZ Tryz.prog 312 [.int .i64 0, .int .i64 0, .int .i64 0, .int .i64 0, .int .i64 0, .int .i64 0, .int .i64 0, .slice none 0 0, .bool false] := ⟨by kernel_rfl⟩
instance tby312 : TyBy Tryz.prog 312 88 := ⟨by kernel_rfl⟩
instance tss312 : TyS Tryz.prog 312 [(0, 1), (1, 7), (8, 1)] := ⟨by kernel_rfl, by kernel_rfl⟩
instance tf312_0 : TyFld Tryz.prog 312 0 0 := ⟨fun _ _ => by kernel_rfl⟩
instance tp312_0 : TyPart Tryz.prog 312 0 0 1 true := ⟨fun _ _ => by kernel_rfl⟩
instance tf312_1 : TyFld Tryz.prog 312 1 1 := ⟨fun _ _ => by kernel_rfl⟩
instance tp312_1 : TyPart Tryz.prog 312 1 1 7 true := ⟨fun _ _ => by kernel_rfl⟩
instance tf312_2 : TyFld Tryz.prog 312 2 8 := ⟨fun _ _ => by kernel_rfl⟩
instance tp312_2 : TyPart Tryz.prog 312 2 8 1 false := ⟨fun _ _ => by kernel_rfl⟩
instance ty313 : Ty Tryz.prog 313 9 true := ⟨by kernel_rfl, by kernel_rfl⟩
instance tz313 : TyZ Tryz.prog 313 [.int .i64 0, .int .i64 0, .int .i64 0, .int .i64 0, .int .i64 0, .int .i64 0, .int .i64 0, .slice none 0 0, .bool false] := ⟨by kernel_rfl⟩
instance tby313 : TyBy Tryz.prog 313 88 := ⟨by kernel_rfl⟩
instance tss313 : TyS Tryz.prog 313 [(0, 1), (1, 7), (8, 1)] := ⟨by kernel_rfl, by kernel_rfl⟩
instance tf313_0 : TyFld Tryz.prog 313 0 0 := ⟨fun _ _ => by kernel_rfl⟩
instance tp313_0 : TyPart Tryz.prog 313 0 0 1 true := ⟨fun _ _ => by kernel_rfl⟩
instance tf313_1 : TyFld Tryz.prog 313 1 1 := ⟨fun _ _ => by kernel_rfl⟩
instance tp313_1 : TyPart Tryz.prog 313 1 1 7 true := ⟨fun _ _ => by kernel_rfl⟩
instance tf313_2 : TyFld Tryz.prog 313 2 8 := ⟨fun _ _ => by kernel_rfl⟩
instance tp313_2 : TyPart Tryz.prog 313 2 8 1 false := ⟨fun _ _ => by kernel_rfl⟩
instance ty314 : Ty Tryz.prog 314 72 true := ⟨by kernel_rfl, by kernel_rfl⟩
instance tz314 : TyZ Tryz.prog 314 [.int .i64 0, .int .i64 0, .int .i64 0, .int .i64 0, .int .i64 0, .int .i64 0, .int .i64 0, .slice none 0 0, .bool false, .int .i64 0, .int .i64 0, .int .i64 0, .int .i64 0, .int .i64 0, .int .i64 0, .int .i64 0, .slice none 0 0, .bool false, .int .i64 0, .int .i64 0, .int .i64 0, .int .i64 0, .int .i64 0, .int .i64 0, .int .i64 0, .slice none 0 0, .bool false, .int .i64 0, .int .i64 0, .int .i64 0, .int .i64 0, .int .i64 0, .int .i64 0, .int .i64 0, .slice none 0 0, .bool false, .int .i64 0, .int .i64 0, .int .i64 0, .int .i64 0, .int .i64 0, .int .i64 0, .int .i64 0, .slice none 0 0, .bool false, .int .i64 0, .int .i64 0, .int .i64 0, .int .i64 0, .int .i64 0, .int .i64 0, .int .i64 0, .slice none 0 0, .bool false, .int .i64 0, .int .i64 0, .int .i64 0, .int .i64 0, .int .i64 0, .int .i64 0, .int .i64 0, .slice none 0 0, .bool false, .int .i64 0, .int .i64 0, .int .i64 0, .int .i64 0, .int .i64 0, .int .i64 0, .int .i64 0, .slice none 0 0, .bool false] := ⟨by kernel_rfl⟩
instance tby314 : TyBy Tryz.prog 314 704 := ⟨by kernel_rfl⟩
instance tar314 : TyArr Tryz.prog 314 8 313 9 := ⟨by kernel_rfl, by kernel_rfl⟩
instance ty315 : Ty Tryz.prog 315 72 true := ⟨by kernel_rfl, by kernel_rfl⟩
instance tz315 : TyZ Tryz.prog 315 [.int .i64 0, .int .i64 0, .int .i64 0, .int .i64 0, .int .i64 0, .int .i64 0, .int .i64 0, .slice none 0 0, .bool false, .int .i64 0, .int .i64 0, .int .i64 0, .int .i64 0, .int .i64 0, .int .i64 0, .int .i64 0, .slice none 0 0, .bool false, .int .i64 0, .int .i64 0, .int .i64 0, .int .i64 0, .int .i64 0, .int .i64 0, .int .i64 0, .slice none 0 0, .bool false, .int .i64 0, .int .i64 0, .int .i64 0, .int .i64 0, .int .i64 0, .int .i64 0, .int .i64 0, .slice none 0 0, .bool false, .int .i64 0, .int .i64 0, .int .i64 0, .int .i64 0, .int .i64 0, .int .i64 0, .int .i64 0, .slice none 0 0, .bool false, .int .i64 0, .int .i64 0, .int .i64 0, .int .i64 0, .int .i64 0, .int .i64 0, .int .i64 0, .slice none 0 0, .bool false, .int .i64 0, .int .i64 0, .int .i64 0, .int .i64 0, .int .i64 0, .int .i64 0, .int .i64 0, .slice none 0 0, .bool false, .int .i64 0, .int .i64 0, .int .i64 0, .int .i64 0, .int .i64 0, .int .i64 0, .int .i64 0, .slice none 0 0, .bool false] := ⟨by kernel_rfl⟩
instance tby315 : TyBy Tryz.prog 315 704 := ⟨by kernel_rfl⟩
instance tss315 : TyS Tryz.prog 315 [(0, 72)] := ⟨by kernel_rfl, by kernel_rfl⟩
instance tf315_0 : TyFld Tryz.prog 315 0 0 := ⟨fun _ _ => by kernel_rfl⟩
instance tp315_0 : TyPart Tryz.prog 315 0 0 72 true := ⟨fun _ _ => by kernel_rfl⟩
instance ty316 : Ty Tryz.prog 316 72 true := ⟨by kernel_rfl, by kernel_rfl⟩
instance tz316 : TyZ Tryz.prog 316 [.int .i64 0, .int .i64 0, .int .i64 0, .int .i64 0, .int .i64 0, .int .i64 0, .int .i64 0, .slice none 0 0, .bool false, .int .i64 0, .int .i64 0, .int .i64 0, .int .i64 0, .int .i64 0, .int .i64 0, .int .i64 0, .slice none 0 0, .bool false, .int .i64 0, .int .i64 0, .int .i64 0, .int .i64 0, .int .i64 0, .int .i64 0, .int .i64 0, .slice none 0 0, .bool false, .int .i64 0, .int .i64 0, .int .i64 0, .int .i64 0, .int .i64 0, .int .i64 0, .int .i64 0, .slice none 0 0, .bool false, .int .i64 0, .int .i64 0, .int .i64 0, .int .i64 0, .int .i64 0, .int .i64 0, .int .i64 0, .slice none 0 0, .bool false, .int .i64 0, .int .i64 0, .int .i64 0, .int .i64 0, .int .i64 0, .int .i64 0, .int .i64 0, .slice none 0 0, .bool false, .int .i64 0, .int .i64 0, .int .i64 0, .int .i64 0, .int .i64 0, .int .i64 0, .int .i64 0, .slice none 0 0, .bool false, .int .i64 0, .int .i64 0, .int .i64 0, .int .i64 0, .int .i64 0, .int .i64 0, .int .i64 0, .slice none 0 0, .bool false] := ⟨by kernel_rfl⟩
instance tby316 : TyBy Tryz.prog 316 704 := ⟨by kernel_rfl⟩
instance tss316 : TyS Tryz.prog 316 [(0, 72)] := ⟨by kernel_rfl, by kernel_rfl⟩
instance tf316_0 : TyFld Tryz.prog 316 0 0 := ⟨fun _ _ => by kernel_rfl⟩
instance tp316_0 : TyPart Tryz.prog 316 0 0 72 true := ⟨fun _ _ => by kernel_rfl⟩
instance ty317 : Ty Tryz.prog 317 9 true := ⟨by kernel_rfl, by kernel_rfl⟩
instance tz317 : TyZ Tryz.prog 317 [.int .i64 0, .int .i64 0, .int .i64 0, .int .i64 0, .int .i64 0, .int .i64 0, .int .i64 0, .slice none 0 0, .bool false] := ⟨by kernel_rfl⟩
instance tby317 : TyBy Tryz.prog 317 88 := ⟨by kernel_rfl⟩
instance tss317 : TyS Tryz.prog 317 [(0, 1), (1, 7), (8, 1)] := ⟨by kernel_rfl, by kernel_rfl⟩
instance tf317_0 : TyFld Tryz.prog 317 0 0 := ⟨fun _ _ => by kernel_rfl⟩
instance tp317_0 : TyPart Tryz.prog 317 0 0 1 true := ⟨fun _ _ => by kernel_rfl⟩
instance tf317_1 : TyFld Tryz.prog 317 1 1 := ⟨fun _ _ => by kernel_rfl⟩
instance tp317_1 : TyPart Tryz.prog 317 1 1 7 true := ⟨fun _ _ => by kernel_rfl⟩
instance tf317_2 : TyFld Tryz.prog 317 2 8 := ⟨fun _ _ => by kernel_rfl⟩
instance tp317_2 : TyPart Tryz.prog 317 2 8 1 false := ⟨fun _ _ => by kernel_rfl⟩
instance ty318 : Ty Tryz.prog 318 9 true := ⟨by kernel_rfl, by kernel_rfl⟩
instance tz318 : TyZ Tryz.prog 318 [.int .i64 0, .int .i64 0, .int .i64 0, .int .i64 0, .int .i64 0, .int .i64 0, .int .i64 0, .slice none 0 0, .bool false] := ⟨by kernel_rfl⟩
instance tby318 : TyBy Tryz.prog 318 88 := ⟨by kernel_rfl⟩
instance tss318 : TyS Tryz.prog 318 [(0, 1), (1, 7), (8, 1)] := ⟨by kernel_rfl, by kernel_rfl⟩
instance tf318_0 : TyFld Tryz.prog 318 0 0 := ⟨fun _ _ => by kernel_rfl⟩
instance tp318_0 : TyPart Tryz.prog 318 0 0 1 true := ⟨fun _ _ => by kernel_rfl⟩
instance tf318_1 : TyFld Tryz.prog 318 1 1 := ⟨fun _ _ => by kernel_rfl⟩
instance tp318_1 : TyPart Tryz.prog 318 1 1 7 true := ⟨fun _ _ => by kernel_rfl⟩
instance tf318_2 : TyFld Tryz.prog 318 2 8 := ⟨fun _ _ => by kernel_rfl⟩
instance tp318_2 : TyPart Tryz.prog 318 2 8 1 false := ⟨fun _ _ => by kernel_rfl⟩
instance ty319 : Ty Tryz.prog 319 72 true := ⟨by kernel_rfl, by kernel_rfl⟩
instance tz319 : TyZ Tryz.prog 319 [.int .i64 0, .int .i64 0, .int .i64 0, .int .i64 0, .int .i64 0, .int .i64 0, .int .i64 0, .slice none 0 0, .bool false, .int .i64 0, .int .i64 0, .int .i64 0, .int .i64 0, .int .i64 0, .int .i64 0, .int .i64 0, .slice none 0 0, .bool false, .int .i64 0, .int .i64 0, .int .i64 0, .int .i64 0, .int .i64 0, .int .i64 0, .int .i64 0, .slice none 0 0, .bool false, .int .i64 0, .int .i64 0, .int .i64 0, .int .i64 0, .int .i64 0, .int .i64 0, .int .i64 0, .slice none 0 0, .bool false, .int .i64 0, .int .i64 0, .int .i64 0, .int .i64 0, .int .i64 0, .int .i64 0, .int .i64 0, .slice none 0 0, .bool false, .int .i64 0, .int .i64 0, .int .i64 0, .int .i64 0, .int .i64 0, .int .i64 0, .int .i64 0, .slice none 0 0, .bool false, .int .i64 0, .int .i64 0, .int .i64 0, .int .i64 0, .int .i64 0, .int .i64 0, .int .i64 0, .slice none 0 0, .bool false, .int .i64 0, .int .i64 0, .int .i64 0, .int .i64 0, .int .i64 0, .int .i64 0, .int .i64 0, .slice none 0 0, .bool false] := ⟨by kernel_rfl⟩
instance tby319 : TyBy Tryz.prog 319 704 := ⟨by kernel_rfl⟩
instance tar319 : TyArr Tryz.prog 319 8 318 9 := ⟨by kernel_rfl, by kernel_rfl⟩
instance ty320 : Ty Tryz.prog 320 72 true := ⟨by kernel_rfl, by kernel_rfl⟩
instance tz320 : TyZ Tryz.prog 320 [.int .i64 0, .int .i64 0, .int .i64 0, .int .i64 0, .int .i64 0, .int .i64 0, .int .i64 0, .slice none 0 0, .bool false, .int .i64 0, .int .i64 0, .int .i64 0, .int .i64 0, .int .i64 0, .int .i64 0, .int .i64 0, .slice none 0 0, .bool false, .int .i64 0, .int .i64 0, .int .i64 0, .int .i64 0, .int .i64 0, .int .i64 0, .int .i64 0, .slice none 0 0, .bool false, .int .i64 0, .int .i64 0, .int .i64 0, .int .i64 0, .int .i64 0, .int .i64 0, .int .i64 0, .slice none 0 0, .bool false, .int .i64 0, .int .i64 0, .int .i64 0, .int .i64 0, .int .i64 0, .int .i64 0, .int .i64 0, .slice none 0 0, .bool false, .int .i64 0, .int .i64 0, .int .i64 0, .int .i64 0, .int .i64 0, .int .i64 0, .int .i64 0, .slice none 0 0, .bool false, .int .i64 0, .int .i64 0, .int .i64 0, .int .i64 0, .int .i64 0, .int .i64 0, .int .i64 0, .slice none 0 0, .bool false, .int .i64 0, .int .i64 0, .int .i64 0, .int .i64 0, .int .i64 0, .int .i64 0, .int .i64 0, .slice none 0 0, .bool false] := ⟨by kernel_rfl⟩
instance tby320 : TyBy Tryz.prog 320 704 := ⟨by kernel_rfl⟩
instance tss320 : TyS Tryz.prog 320 [(0, 72)] := ⟨by kernel_rfl, by kernel_rfl⟩
instance tf320_0 : TyFld Tryz.prog 320 0 0 := ⟨fun _ _ => by kernel_rfl⟩
instance tp320_0 : TyPart Tryz.prog 320 0 0 72 true := ⟨fun _ _ => by kernel_rfl⟩
instance ty321 : Ty Tryz.prog 321 72 true := ⟨by kernel_rfl, by kernel_rfl⟩
instance tz321 : TyZ Tryz.prog 321 [.int .i64 0, .int .i64 0, .int .i64 0, .int .i64 0, .int .i64 0, .int .i64 0, .int .i64 0, .slice none 0 0, .bool false, .int .i64 0, .int .i64 0, .int .i64 0, .int .i64 0, .int .i64 0, .int .i64 0, .int .i64 0, .slice none 0 0, .bool false, .int .i64 0, .int .i64 0, .int .i64 0, .int .i64 0, .int .i64 0, .int .i64 0, .int .i64 0, .slice none 0 0, .bool false, .int .i64 0, .int .i64 0, .int .i64 0, .int .i64 0, .int .i64 0, .int .i64 0, .int .i64 0, .slice none 0 0, .bool false, .int .i64 0, .int .i64 0, .int .i64 0, .int .i64 0, .int .i64 0, .int .i64 0, .int .i64 0, .slice none 0 0, .bool false, .int .i64 0, .int .i64 0, .int .i64 0, .int .i64 0, .int .i64 0, .int .i64 0, .int .i64 0, .slice none 0 0, .bool false, .int .i64 0, .int .i64 0, .int .i64 0, .int .i64 0, .int .i64 0, .int .i64 0, .int .i64 0, .slice none 0 0, .bool false, .int .i64 0, .int .i64 0, .int .i64 0, .int .i64 0, .int .i64 0, .int .i64 0, .int .i64 0, .slice none 0 0, .bool false] := ⟨by kernel_rfl⟩
instance tby321 : TyBy Tryz.prog 321 704 := ⟨by kernel_rfl⟩
instance tss321 : TyS Tryz.prog 321 [(0, 72)] := ⟨by kernel_rfl, by kernel_rfl⟩
instance tf321_0 : TyFld Tryz.prog 321 0 0 := ⟨fun _ _ => by kernel_rfl⟩
instance tp321_0 : TyPart Tryz.prog 321 0 0 72 true := ⟨fun _ _ => by kernel_rfl⟩
instance ty322 : Ty Tryz.prog 322 11 true := ⟨by kernel_rfl, by kernel_rfl⟩
instance tz322 : TyZ Tryz.prog 322 [.int .i64 0, .int .i64 0, .int .i64 0, .int .i64 0, .int .i64 0, .int .i64 0, .int .i64 0, .slice none 0 0, .int .i64 0, .bool false, .bool false] := ⟨by kernel_rfl⟩
instance tby322 : TyBy Tryz.prog 322 104 := ⟨by kernel_rfl⟩
instance tss322 : TyS Tryz.prog 322 [(0, 1), (1, 9), (10, 1)] := ⟨by kernel_rfl, by kernel_rfl⟩
instance tf322_0 : TyFld Tryz.prog 322 0 0 := ⟨fun _ _ => by kernel_rfl⟩
instance tp322_0 : TyPart Tryz.prog 322 0 0 1 true := ⟨fun _ _ => by kernel_rfl⟩
instance tf322_1 : TyFld Tryz.prog 322 1 1 := ⟨fun _ _ => by kernel_rfl⟩
instance tp322_1 : TyPart Tryz.prog 322 1 1 9 true := ⟨fun _ _ => by kernel_rfl⟩
instance tf322_2 : TyFld Tryz.prog 322 2 10 := ⟨fun _ _ => by kernel_rfl⟩
instance tp322_2 : TyPart Tryz.prog 322 2 10 1 false := ⟨fun _ _ => by kernel_rfl⟩
instance ty323 : Ty Tryz.prog 323 11 true := ⟨by kernel_rfl, by kernel_rfl⟩
instance tz323 : TyZ Tryz.prog 323 [.int .i64 0, .int .i64 0, .int .i64 0, .int .i64 0, .int .i64 0, .int .i64 0, .int .i64 0, .slice none 0 0, .int .i64 0, .bool false, .bool false] := ⟨by kernel_rfl⟩
instance tby323 : TyBy Tryz.prog 323 104 := ⟨by kernel_rfl⟩
instance tss323 : TyS Tryz.prog 323 [(0, 1), (1, 9), (10, 1)] := ⟨by kernel_rfl, by kernel_rfl⟩
instance tf323_0 : TyFld Tryz.prog 323 0 0 := ⟨fun _ _ => by kernel_rfl⟩
instance tp323_0 : TyPart Tryz.prog 323 0 0 1 true := ⟨fun _ _ => by kernel_rfl⟩
instance tf323_1 : TyFld Tryz.prog 323 1 1 := ⟨fun _ _ => by kernel_rfl⟩
instance tp323_1 : TyPart Tryz.prog 323 1 1 9 true := ⟨fun _ _ => by kernel_rfl⟩
instance tf323_2 : TyFld Tryz.prog 323 2 10 := ⟨fun _ _ => by kernel_rfl⟩
instance tp323_2 : TyPart Tryz.prog 323 2 10 1 false := ⟨fun _ _ => by kernel_rfl⟩
instance ty324 : Ty Tryz.prog 324 88 true := ⟨by kernel_rfl, by kernel_rfl⟩
instance tz324 : TyZ Tryz.prog 324 [.int .i64 0, .int .i64 0, .int .i64 0, .int .i64 0, .int .i64 0, .int .i64 0, .int .i64 0, .slice none 0 0, .int .i64 0, .bool false, .bool false, .int .i64 0, .int .i64 0, .int .i64 0, .int .i64 0, .int .i64 0, .int .i64 0, .int .i64 0, .slice none 0 0, .int .i64 0, .bool false, .bool false, .int .i64 0, .int .i64 0, .int .i64 0, .int .i64 0, .int .i64 0, .int .i64 0, .int .i64 0, .slice none 0 0, .int .i64 0, .bool false, .bool false, .int .i64 0, .int .i64 0, .int .i64 0, .int .i64 0, .int .i64 0, .int .i64 0, .int .i64 0, .slice none 0 0, .int .i64 0, .bool false, .bool false, .int .i64 0, .int .i64 0, .int .i64 0, .int .i64 0, .int .i64 0, .int .i64 0, .int .i64 0, .slice none 0 0, .int .i64 0, .bool false, .bool false, .int .i64 0, .int .i64 0, .int .i64 0, .int .i64 0, .int .i64 0, .int .i64 0, .int .i64 0, .slice none 0 0, .int .i64 0, .bool false, .bool false, .int .i64 0, .int .i64 0, .int .i64 0, .int .i64 0, .int .i64 0, .int .i64 0, .int .i64 0, .slice none 0 0, .int .i64 0, .bool false, .bool false, .int .i64 0, .int .i64 0, .int .i64 0, .int .i64 0, .int .i64 0, .int .i64 0, .int .i64 0, .slice none 0 0, .int .i64 0, .bool false, .bool false] := ⟨by kernel_rfl⟩
instance tby324 : TyBy Tryz.prog 324 832 := ⟨by kernel_rfl⟩
instance tar324 : TyArr Tryz.prog 324 8 323 11 := ⟨by kernel_rfl, by kernel_rfl⟩
instance ty325 : Ty Tryz.prog 325 88 true := ⟨by kernel_rfl, by kernel_rfl⟩
instance tz325 : TyZ Tryz.prog 325 [.int .i64 0, .int .i64 0, .int .i64 0, .int .i64 0, .int .i64 0, .int .i64 0, .int .i64 0, .slice none 0 0, .int .i64 0, .bool false, .bool false, .int .i64 0, .int .i64 0, .int .i64 0, .int .i64 0, .int .i64 0, .int .i64 0, .int .i64 0, .slice none 0 0, .int .i64 0, .bool false, .bool false, .int .i64 0, .int .i64 0, .int .i64 0, .int .i64 0, .int .i64 0, .int .i64 0, .int .i64 0, .slice none 0 0, .int .i64 0, .bool false, .bool false, .int .i64 0, .int .i64 0, .int .i64 0, .int .i64 0, .int .i64 0, .int .i64 0, .int .i64 0, .slice none 0 0, .int .i64 0, .bool false, .bool false, .int .i64 0, .int .i64 0, .int .i64 0, .int .i64 0, .int .i64 0, .int .i64 0, .int .i64 0, .slice none 0 0, .int .i64 0, .bool false, .bool false, .int .i64 0, .int .i64 0, .int .i64 0, .int .i64 0, .int .i64 0, .int .i64 0, .int .i64 0, .slice none 0 0, .int .i64 0, .bool false, .bool false, .int .i64 0, .int .i64 0, .int .i64 0, .int .i64 0, .int .i64 0, .int .i64 0, .int .i64 0, .slice none 0 0, .int .i64 0, .bool false, .bool false, .int .i64 0, .int .i64 0, .int .i64 0, .int .i64 0, .int .i64 0, .int .i64 0, .int .i64 0, .slice none 0 0, .int .i64 0, .bool false, .bool false] := ⟨by kernel_rfl⟩
instance tby325 : TyBy Tryz.prog 325 832 := ⟨by kernel_rfl⟩
instance tss325 : TyS Tryz.prog 325 [(0, 88)] := ⟨by kernel_rfl, by kernel_rfl⟩
instance tf325_0 : TyFld Tryz.prog 325 0 0 := ⟨fun _ _ => by kernel_rfl⟩
instance tp325_0 : TyPart Tryz.prog 325 0 0 88 true := ⟨fun _ _ => by kernel_rfl⟩
instance ty326 : Ty Tryz.prog 326 88 true := ⟨by kernel_rfl, by kernel_rfl⟩
instance tz326 : TyZ Tryz.prog 326 [.int .i64 0, .int .i64 0, .int .i64 0, .int .i64 0, .int .i64 0, .int .i64 0, .int .i64 0, .slice none 0 0, .int .i64 0, .bool false, .bool false, .int .i64 0, .int .i64 0, .int .i64 0, .int .i64 0, .int .i64 0, .int .i64 0, .int .i64 0, .slice none 0 0, .int .i64 0, .bool false, .bool false, .int .i64 0, .int .i64 0, .int .i64 0, .int .i64 0, .int .i64 0, .int .i64 0, .int .i64 0, .slice none 0 0, .int .i64 0, .bool false, .bool false, .int .i64 0, .int .i64 0, .int .i64 0, .int .i64 0, .int .i64 0, .int .i64 0, .int .i64 0, .slice none 0 0, .int .i64 0, .bool false, .bool false, .int .i64 0, .int .i64 0, .int .i64 0, .int .i64 0, .int .i64 0, .int .i64 0, .int .i64 0, .slice none 0 0, .int .i64 0, .bool false, .bool false, .int .i64 0, .int .i64 0, .int .i64 0, .int .i64 0, .int .i64 0, .int .i64 0, .int .i64 0, .slice none 0 0, .int .i64 0, .bool false, .bool false, .int .i64 0, .int .i64 0, .int .i64 0, .int .i64 0, .int .i64 0, .int .i64 0, .int .i64 0, .slice none 0 0, .int .i64 0, .bool false, .bool false, .int .i64 0, .int .i64 0, .int .i64 0, .int .i64 0, .int .i64 0, .int .i64 0, .int .i64 0, .slice none 0 0, .int .i64 0, .bool false, .bool false] := ⟨by kernel_rfl⟩
instance tby326 : TyBy Tryz.prog 326 832 := ⟨by kernel_rfl⟩
instance tss326 : TyS Tryz.prog 326 [(0, 88)] := ⟨by kernel_rfl, by kernel_rfl⟩
instance tf326_0 : TyFld Tryz.prog 326 0 0 := ⟨fun _ _ => by kernel_rfl⟩
instance tp326_0 : TyPart Tryz.prog 326 0 0 88 true := ⟨fun _ _ => by kernel_rfl⟩
instance ty327 : Ty Tryz.prog 327 1 false := ⟨by kernel_rfl, by kernel_rfl⟩
instance tz327 : TyZ Tryz.prog 327 [.pointer none] := ⟨by kernel_rfl⟩
instance tby327 : TyBy Tryz.prog 327 8 := ⟨by kernel_rfl⟩
instance tpt327 : TyPtr Tryz.prog 327 189 := ⟨by kernel_rfl⟩
instance ty328 : Ty Tryz.prog 328 1 true := ⟨by kernel_rfl, by kernel_rfl⟩
instance tz328 : TyZ Tryz.prog 328 [.pointer none] := ⟨by kernel_rfl⟩
instance tby328 : TyBy Tryz.prog 328 8 := ⟨by kernel_rfl⟩
instance tss328 : TyS Tryz.prog 328 [(0, 1)] := ⟨by kernel_rfl, by kernel_rfl⟩
instance tf328_0 : TyFld Tryz.prog 328 0 0 := ⟨fun _ _ => by kernel_rfl⟩
instance tp328_0 : TyPart Tryz.prog 328 0 0 1 false := ⟨fun _ _ => by kernel_rfl⟩
instance ty329 : Ty Tryz.prog 329 1 true := ⟨by kernel_rfl, by kernel_rfl⟩
instance tz329 : TyZ Tryz.prog 329 [.pointer none] := ⟨by kernel_rfl⟩
instance tby329 : TyBy Tryz.prog 329 8 := ⟨by kernel_rfl⟩
instance tss329 : TyS Tryz.prog 329 [(0, 1)] := ⟨by kernel_rfl, by kernel_rfl⟩
instance tf329_0 : TyFld Tryz.prog 329 0 0 := ⟨fun _ _ => by kernel_rfl⟩
instance tp329_0 : TyPart Tryz.prog 329 0 0 1 false := ⟨fun _ _ => by kernel_rfl⟩
instance ty330 : Ty Tryz.prog 330 1 false := ⟨by kernel_rfl, by kernel_rfl⟩
instance tz330 : TyZ Tryz.prog 330 [.pointer none] := ⟨by kernel_rfl⟩
instance tby330 : TyBy Tryz.prog 330 8 := ⟨by kernel_rfl⟩
instance tpt330 : TyPtr Tryz.prog 330 650 := ⟨by kernel_rfl⟩
instance ty331 : Ty Tryz.prog 331 1 false := ⟨by kernel_rfl, by kernel_rfl⟩
instance tz331 : TyZ Tryz.prog 331 [.nilFunc] := ⟨by kernel_rfl⟩
instance tby331 : TyBy Tryz.prog 331 8 := ⟨by kernel_rfl⟩
instance ty332 : Ty Tryz.prog 332 1 false := ⟨by kernel_rfl, by kernel_rfl⟩
instance tz332 : TyZ Tryz.prog 332 [.nilFunc] := ⟨by kernel_rfl⟩
instance tby332 : TyBy Tryz.prog 332 8 := ⟨by kernel_rfl⟩
instance ty333 : Ty Tryz.prog 333 1 false := ⟨by kernel_rfl, by kernel_rfl⟩
instance tz333 : TyZ Tryz.prog 333 [.nilFunc] := ⟨by kernel_rfl⟩
instance tby333 : TyBy Tryz.prog 333 8 := ⟨by kernel_rfl⟩
instance ty334 : Ty Tryz.prog 334 1 false := ⟨by kernel_rfl, by kernel_rfl⟩
instance tz334 : TyZ Tryz.prog 334 [.nilIface] := ⟨by kernel_rfl⟩
instance tby334 : TyBy Tryz.prog 334 16 := ⟨by kernel_rfl⟩
instance ty336 : Ty Tryz.prog 336 1 false := ⟨by kernel_rfl, by kernel_rfl⟩
instance tz336 : TyZ Tryz.prog 336 [.nilFunc] := ⟨by kernel_rfl⟩
instance tby336 : TyBy Tryz.prog 336 8 := ⟨by kernel_rfl⟩
instance ty337 : Ty Tryz.prog 337 1 false := ⟨by kernel_rfl, by kernel_rfl⟩
instance tz337 : TyZ Tryz.prog 337 [.nilIface] := ⟨by kernel_rfl⟩
instance tby337 : TyBy Tryz.prog 337 16 := ⟨by kernel_rfl⟩
instance ty338 : Ty Tryz.prog 338 1 false := ⟨by kernel_rfl, by kernel_rfl⟩
instance tz338 : TyZ Tryz.prog 338 [.nilIface] := ⟨by kernel_rfl⟩
instance tby338 : TyBy Tryz.prog 338 16 := ⟨by kernel_rfl⟩
instance ty339 : Ty Tryz.prog 339 1 false := ⟨by kernel_rfl, by kernel_rfl⟩
instance tz339 : TyZ Tryz.prog 339 [.slice none 0 0] := ⟨by kernel_rfl⟩
instance tby339 : TyBy Tryz.prog 339 24 := ⟨by kernel_rfl⟩
instance tsl339 : TySl Tryz.prog 339 73 1 := ⟨by kernel_rfl, by kernel_rfl⟩
instance ty340 : Ty Tryz.prog 340 1 false := ⟨by kernel_rfl, by kernel_rfl⟩
instance tz340 : TyZ Tryz.prog 340 [.nilFunc] := ⟨by kernel_rfl⟩
instance tby340 : TyBy Tryz.prog 340 8 := ⟨by kernel_rfl⟩
instance ty341 : Ty Tryz.prog 341 1 false := ⟨by kernel_rfl, by kernel_rfl⟩
instance tz341 : TyZ Tryz.prog 341 [.pointer none] := ⟨by kernel_rfl⟩
instance tby341 : TyBy Tryz.prog 341 8 := ⟨by kernel_rfl⟩
instance tpt341 : TyPtr Tryz.prog 341 345 := ⟨by kernel_rfl⟩
instance ty343 : Ty Tryz.prog 343 1 false := ⟨by kernel_rfl, by kernel_rfl⟩
instance tz343 : TyZ Tryz.prog 343 [.nilFunc] := ⟨by kernel_rfl⟩
instance tby343 : TyBy Tryz.prog 343 8 := ⟨by kernel_rfl⟩
instance ty344 : Ty Tryz.prog 344 3 true := ⟨by kernel_rfl, by kernel_rfl⟩
instance tz344 : TyZ Tryz.prog 344 [.int .i64 0, .int .i64 0, .int .i64 0] := ⟨by kernel_rfl⟩
instance tby344 : TyBy Tryz.prog 344 24 := ⟨by kernel_rfl⟩
instance tss344 : TyS Tryz.prog 344 [(0, 2), (2, 1)] := ⟨by kernel_rfl, by kernel_rfl⟩
instance tf344_0 : TyFld Tryz.prog 344 0 0 := ⟨fun _ _ => by kernel_rfl⟩
instance tp344_0 : TyPart Tryz.prog 344 0 0 2 true := ⟨fun _ _ => by kernel_rfl⟩
instance tf344_1 : TyFld Tryz.prog 344 1 2 := ⟨fun _ _ => by kernel_rfl⟩
instance tp344_1 : TyPart Tryz.prog 344 1 2 1 false := ⟨fun _ _ => by kernel_rfl⟩
instance ty345 : Ty Tryz.prog 345 3 true := ⟨by kernel_rfl, by kernel_rfl⟩
instance tz345 : TyZ Tryz.prog 345 [.int .i64 0, .int .i64 0, .int .i64 0] := ⟨by kernel_rfl⟩
instance tby345 : TyBy Tryz.prog 345 24 := ⟨by kernel_rfl⟩
instance tss345 : TyS Tryz.prog 345 [(0, 2), (2, 1)] := ⟨by kernel_rfl, by kernel_rfl⟩
instance tf345_0 : TyFld Tryz.prog 345 0 0 := ⟨fun _ _ => by kernel_rfl⟩
instance tp345_0 : TyPart Tryz.prog 345 0 0 2 true := ⟨fun _ _ => by kernel_rfl⟩
instance tf345_1 : TyFld Tryz.prog 345 1 2 := ⟨fun _ _ => by kernel_rfl⟩
instance tp345_1 : TyPart Tryz.prog 345 1 2 1 false := ⟨fun _ _ => by kernel_rfl⟩
instance ty346 : Ty Tryz.prog 346 1 false := ⟨by kernel_rfl, by kernel_rfl⟩
instance tz346 : TyZ Tryz.prog 346 [.nilFunc] := ⟨by kernel_rfl⟩
instance tby346 : TyBy Tryz.prog 346 8 := ⟨by kernel_rfl⟩
instance ty347 : Ty Tryz.prog 347 1 false := ⟨by kernel_rfl, by kernel_rfl⟩
instance tz347 : TyZ Tryz.prog 347 [.pointer none] := ⟨by kernel_rfl⟩
instance tby347 : TyBy Tryz.prog 347 8 := ⟨by kernel_rfl⟩
instance tpt347 : TyPtr Tryz.prog 347 162 := ⟨by kernel_rfl⟩
instance ty348 : Ty Tryz.prog 348 1 false := ⟨by kernel_rfl, by kernel_rfl⟩
instance tz348 : TyZ Tryz.prog 348 [.nilFunc] := ⟨by kernel_rfl⟩
instance tby348 : TyBy Tryz.prog 348 8 := ⟨by kernel_rfl⟩
instance ty349 : Ty Tryz.prog 349 1 false := ⟨by kernel_rfl, by kernel_rfl⟩
instance tz349 : TyZ Tryz.prog 349 [.nilFunc] := ⟨by kernel_rfl⟩
instance tby349 : TyBy Tryz.prog 349 8 := ⟨by kernel_rfl⟩
instance ty350 : Ty Tryz.prog 350 1 false := ⟨by kernel_rfl, by kernel_rfl⟩
instance tz350 : TyZ Tryz.prog 350 [.pointer none] := ⟨by kernel_rfl⟩
instance tby350 : TyBy Tryz.prog 350 8 := ⟨by kernel_rfl⟩
instance tpt350 : TyPtr Tryz.prog 350 193 := ⟨by kernel_rfl⟩
instance ty352 : Ty Tryz.prog 352 1 false := ⟨by kernel_rfl, by kernel_rfl⟩
instance tz352 : TyZ Tryz.prog 352 [.nilFunc] := ⟨by kernel_rfl⟩
end Go.Proofs.YtcpfmjlceoiofaaGreatDoor
