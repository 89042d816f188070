/-
  facts on types and functions, written by a program (gen_ty.py) off the translation
-/
import Derived.Test.YtcpfmjlceoiofaaGreatDoorL03
import Derived.Test.YtcpfmjlceoiofaaGreatDoorProg
import Derived.KernelRfl
import Derived.Shelf.Abstract
set_option linter.unusedSimpArgs false
set_option linter.unusedVariables false
set_option linter.unusedSectionVars false
namespace Go.Proofs.YtcpfmjlceoiofaaGreatDoor
open Go.RowKit Go.Shelf
instance tby352 : TyBy Tryz.prog 352 8 := ⟨by kernel_rfl⟩
instance ty353 : Ty Tryz.prog 353 1 false := ⟨by kernel_rfl, by kernel_rfl⟩
instance tz353 : TyZ Tryz.prog 353 [.nilFunc] := ⟨by kernel_rfl⟩
instance tby353 : TyBy Tryz.prog 353 8 := ⟨by kernel_rfl⟩
instance ty354 : Ty Tryz.prog 354 1 false := ⟨by kernel_rfl, by kernel_rfl⟩
instance tz354 : TyZ Tryz.prog 354 [.nilFunc] := ⟨by kernel_rfl⟩
instance tby354 : TyBy Tryz.prog 354 8 := ⟨by kernel_rfl⟩
instance ty355 : Ty Tryz.prog 355 1 false := ⟨by kernel_rfl, by kernel_rfl⟩
instance tz355 : TyZ Tryz.prog 355 [.nilFunc] := ⟨by kernel_rfl⟩
instance tby355 : TyBy Tryz.prog 355 8 := ⟨by kernel_rfl⟩
instance ty356 : Ty Tryz.prog 356 1 false := ⟨by kernel_rfl, by kernel_rfl⟩
instance tz356 : TyZ Tryz.prog 356 [.nilFunc] := ⟨by kernel_rfl⟩
instance tby356 : TyBy Tryz.prog 356 8 := ⟨by kernel_rfl⟩
instance ty357 : Ty Tryz.prog 357 1 false := ⟨by kernel_rfl, by kernel_rfl⟩
instance tz357 : TyZ Tryz.prog 357 [.nilFunc] := ⟨by kernel_rfl⟩
instance tby357 : TyBy Tryz.prog 357 8 := ⟨by kernel_rfl⟩
instance ty358 : Ty Tryz.prog 358 1 false := ⟨by kernel_rfl, by kernel_rfl⟩
instance tz358 : TyZ Tryz.prog 358 [.nilFunc] := ⟨by kernel_rfl⟩
instance tby358 : TyBy Tryz.prog 358 8 := ⟨by kernel_rfl⟩
instance ty359 : Ty Tryz.prog 359 1 false := ⟨by kernel_rfl, by kernel_rfl⟩
instance tz359 : TyZ Tryz.prog 359 [.nilFunc] := ⟨by kernel_rfl⟩
instance tby359 : TyBy Tryz.prog 359 8 := ⟨by kernel_rfl⟩
instance ty360 : Ty Tryz.prog 360 1 false := ⟨by kernel_rfl, by kernel_rfl⟩
instance tz360 : TyZ Tryz.prog 360 [.nilFunc] := ⟨by kernel_rfl⟩
instance tby360 : TyBy Tryz.prog 360 8 := ⟨by kernel_rfl⟩
instance ty361 : Ty Tryz.prog 361 1 false := ⟨by kernel_rfl, by kernel_rfl⟩
instance tz361 : TyZ Tryz.prog 361 [.nilFunc] := ⟨by kernel_rfl⟩
instance tby361 : TyBy Tryz.prog 361 8 := ⟨by kernel_rfl⟩
instance ty362 : Ty Tryz.prog 362 1 false := ⟨by kernel_rfl, by kernel_rfl⟩
instance tz362 : TyZ Tryz.prog 362 [.pointer none] := ⟨by kernel_rfl⟩
instance tby362 : TyBy Tryz.prog 362 8 := ⟨by kernel_rfl⟩
instance tpt362 : TyPtr Tryz.prog 362 480 := ⟨by kernel_rfl⟩
instance ty363 : Ty Tryz.prog 363 1 false := ⟨by kernel_rfl, by kernel_rfl⟩
instance tz363 : TyZ Tryz.prog 363 [.nilFunc] := ⟨by kernel_rfl⟩
instance tby363 : TyBy Tryz.prog 363 8 := ⟨by kernel_rfl⟩
instance ty364 : Ty Tryz.prog 364 1 false := ⟨by kernel_rfl, by kernel_rfl⟩
instance tz364 : TyZ Tryz.prog 364 [.nilFunc] := ⟨by kernel_rfl⟩
instance tby364 : TyBy Tryz.prog 364 8 := ⟨by kernel_rfl⟩
instance ty365 : Ty Tryz.prog 365 1 false := ⟨by kernel_rfl, by kernel_rfl⟩
instance tz365 : TyZ Tryz.prog 365 [.nilFunc] := ⟨by kernel_rfl⟩
instance tby365 : TyBy Tryz.prog 365 8 := ⟨by kernel_rfl⟩
instance ty366 : Ty Tryz.prog 366 1 false := ⟨by kernel_rfl, by kernel_rfl⟩
instance tz366 : TyZ Tryz.prog 366 [.nilFunc] := ⟨by kernel_rfl⟩
instance tby366 : TyBy Tryz.prog 366 8 := ⟨by kernel_rfl⟩
instance ty367 : Ty Tryz.prog 367 1 false := ⟨by kernel_rfl, by kernel_rfl⟩
instance tz367 : TyZ Tryz.prog 367 [.nilFunc] := ⟨by kernel_rfl⟩
instance tby367 : TyBy Tryz.prog 367 8 := ⟨by kernel_rfl⟩
instance ty368 : Ty Tryz.prog 368 1 false := ⟨by kernel_rfl, by kernel_rfl⟩
instance tz368 : TyZ Tryz.prog 368 [.nilFunc] := ⟨by kernel_rfl⟩
instance tby368 : TyBy Tryz.prog 368 8 := ⟨by kernel_rfl⟩
instance ty369 : Ty Tryz.prog 369 1 false := ⟨by kernel_rfl, by kernel_rfl⟩
instance tz369 : TyZ Tryz.prog 369 [.nilFunc] := ⟨by kernel_rfl⟩
instance tby369 : TyBy Tryz.prog 369 8 := ⟨by kernel_rfl⟩
instance ty370 : Ty Tryz.prog 370 1 false := ⟨by kernel_rfl, by kernel_rfl⟩
instance tz370 : TyZ Tryz.prog 370 [.nilFunc] := ⟨by kernel_rfl⟩
instance tby370 : TyBy Tryz.prog 370 8 := ⟨by kernel_rfl⟩
instance ty371 : Ty Tryz.prog 371 1 false := ⟨by kernel_rfl, by kernel_rfl⟩
instance tz371 : TyZ Tryz.prog 371 [.nilFunc] := ⟨by kernel_rfl⟩
instance tby371 : TyBy Tryz.prog 371 8 := ⟨by kernel_rfl⟩
instance ty372 : Ty Tryz.prog 372 1 false := ⟨by kernel_rfl, by kernel_rfl⟩
instance tz372 : TyZ Tryz.prog 372 [.slice none 0 0] := ⟨by kernel_rfl⟩
instance tby372 : TyBy Tryz.prog 372 24 := ⟨by kernel_rfl⟩
instance tsl372 : TySl Tryz.prog 372 208 2 := ⟨by kernel_rfl, by kernel_rfl⟩
instance ty373 : Ty Tryz.prog 373 1 false := ⟨by kernel_rfl, by kernel_rfl⟩
instance tz373 : TyZ Tryz.prog 373 [.nilFunc] := ⟨by kernel_rfl⟩
instance tby373 : TyBy Tryz.prog 373 8 := ⟨by kernel_rfl⟩
instance ty374 : Ty Tryz.prog 374 1 false := ⟨by kernel_rfl, by kernel_rfl⟩
instance tz374 : TyZ Tryz.prog 374 [.nilFunc] := ⟨by kernel_rfl⟩
instance tby374 : TyBy Tryz.prog 374 8 := ⟨by kernel_rfl⟩
instance ty375 : Ty Tryz.prog 375 1 false := ⟨by kernel_rfl, by kernel_rfl⟩
instance tz375 : TyZ Tryz.prog 375 [.nilFunc] := ⟨by kernel_rfl⟩
instance tby375 : TyBy Tryz.prog 375 8 := ⟨by kernel_rfl⟩
instance ty376 : Ty Tryz.prog 376 1 false := ⟨by kernel_rfl, by kernel_rfl⟩
instance tz376 : TyZ Tryz.prog 376 [.nilFunc] := ⟨by kernel_rfl⟩
instance tby376 : TyBy Tryz.prog 376 8 := ⟨by kernel_rfl⟩
instance ty377 : Ty Tryz.prog 377 1 false := ⟨by kernel_rfl, by kernel_rfl⟩
instance tz377 : TyZ Tryz.prog 377 [.nilFunc] := ⟨by kernel_rfl⟩
instance tby377 : TyBy Tryz.prog 377 8 := ⟨by kernel_rfl⟩
instance ty378 : Ty Tryz.prog 378 1 false := ⟨by kernel_rfl, by kernel_rfl⟩
instance tz378 : TyZ Tryz.prog 378 [.nilFunc] := ⟨by kernel_rfl⟩
instance tby378 : TyBy Tryz.prog 378 8 := ⟨by kernel_rfl⟩
instance ty379 : Ty Tryz.prog 379 1 false := ⟨by kernel_rfl, by kernel_rfl⟩
instance tz379 : TyZ Tryz.prog 379 [.pointer none] := ⟨by kernel_rfl⟩
instance tby379 : TyBy Tryz.prog 379 8 := ⟨by kernel_rfl⟩
instance tpt379 : TyPtr Tryz.prog 379 492 := ⟨by kernel_rfl⟩
instance ty381 : Ty Tryz.prog 381 1 false := ⟨by kernel_rfl, by kernel_rfl⟩
instance tz381 : TyZ Tryz.prog 381 [.nilFunc] := ⟨by kernel_rfl⟩
instance tby381 : TyBy Tryz.prog 381 8 := ⟨by kernel_rfl⟩
instance ty382 : Ty Tryz.prog 382 3 true := ⟨by kernel_rfl, by kernel_rfl⟩
instance tz382 : TyZ Tryz.prog 382 [.int .i64 0, .int .i64 0, .int .i64 0] := ⟨by kernel_rfl⟩
instance tby382 : TyBy Tryz.prog 382 24 := ⟨by kernel_rfl⟩
instance tar382 : TyArr Tryz.prog 382 3 3 1 := ⟨by kernel_rfl, by kernel_rfl⟩
instance ty383 : Ty Tryz.prog 383 4 true := ⟨by kernel_rfl, by kernel_rfl⟩
instance tz383 : TyZ Tryz.prog 383 [.pointer none, .int .i64 0, .int .i64 0, .int .i64 0] := ⟨by kernel_rfl⟩
instance tby383 : TyBy Tryz.prog 383 32 := ⟨by kernel_rfl⟩
instance tss383 : TyS Tryz.prog 383 [(0, 1), (1, 3)] := ⟨by kernel_rfl, by kernel_rfl⟩
instance tf383_0 : TyFld Tryz.prog 383 0 0 := ⟨fun _ _ => by kernel_rfl⟩
instance tp383_0 : TyPart Tryz.prog 383 0 0 1 false := ⟨fun _ _ => by kernel_rfl⟩
instance tf383_1 : TyFld Tryz.prog 383 1 1 := ⟨fun _ _ => by kernel_rfl⟩
instance tp383_1 : TyPart Tryz.prog 383 1 1 3 true := ⟨fun _ _ => by kernel_rfl⟩
instance ty384 : Ty Tryz.prog 384 4 true := ⟨by kernel_rfl, by kernel_rfl⟩
instance tz384 : TyZ Tryz.prog 384 [.pointer none, .int .i64 0, .int .i64 0, .int .i64 0] := ⟨by kernel_rfl⟩
instance tby384 : TyBy Tryz.prog 384 32 := ⟨by kernel_rfl⟩
instance tss384 : TyS Tryz.prog 384 [(0, 1), (1, 3)] := ⟨by kernel_rfl, by kernel_rfl⟩
instance tf384_0 : TyFld Tryz.prog 384 0 0 := ⟨fun _ _ => by kernel_rfl⟩
instance tp384_0 : TyPart Tryz.prog 384 0 0 1 false := ⟨fun _ _ => by kernel_rfl⟩
instance tf384_1 : TyFld Tryz.prog 384 1 1 := ⟨fun _ _ => by kernel_rfl⟩
instance tp384_1 : TyPart Tryz.prog 384 1 1 3 true := ⟨fun _ _ => by kernel_rfl⟩
instance ty385 : Ty Tryz.prog 385 1 false := ⟨by kernel_rfl, by kernel_rfl⟩
instance tz385 : TyZ Tryz.prog 385 [.nilFunc] := ⟨by kernel_rfl⟩
instance tby385 : TyBy Tryz.prog 385 8 := ⟨by kernel_rfl⟩
instance ty387 : Ty Tryz.prog 387 1 false := ⟨by kernel_rfl, by kernel_rfl⟩
instance tz387 : TyZ Tryz.prog 387 [.nilFunc] := ⟨by kernel_rfl⟩
instance tby387 : TyBy Tryz.prog 387 8 := ⟨by kernel_rfl⟩
instance ty389 : Ty Tryz.prog 389 1 false := ⟨by kernel_rfl, by kernel_rfl⟩
instance tz389 : TyZ Tryz.prog 389 [.nilFunc] := ⟨by kernel_rfl⟩
instance tby389 : TyBy Tryz.prog 389 8 := ⟨by kernel_rfl⟩
instance ty390 : Ty Tryz.prog 390 1 false := ⟨by kernel_rfl, by kernel_rfl⟩
instance tz390 : TyZ Tryz.prog 390 [.nilFunc] := ⟨by kernel_rfl⟩
instance tby390 : TyBy Tryz.prog 390 8 := ⟨by kernel_rfl⟩
instance ty391 : Ty Tryz.prog 391 1 false := ⟨by kernel_rfl, by kernel_rfl⟩
instance tz391 : TyZ Tryz.prog 391 [.nilFunc] := ⟨by kernel_rfl⟩
instance tby391 : TyBy Tryz.prog 391 8 := ⟨by kernel_rfl⟩
instance ty392 : Ty Tryz.prog 392 1 false := ⟨by kernel_rfl, by kernel_rfl⟩
instance tz392 : TyZ Tryz.prog 392 [.nilFunc] := ⟨by kernel_rfl⟩
instance tby392 : TyBy Tryz.prog 392 8 := ⟨by kernel_rfl⟩
instance ty393 : Ty Tryz.prog 393 1 false := ⟨by kernel_rfl, by kernel_rfl⟩
instance tz393 : TyZ Tryz.prog 393 [.nilFunc] := ⟨by kernel_rfl⟩
instance tby393 : TyBy Tryz.prog 393 8 := ⟨by kernel_rfl⟩
instance ty394 : Ty Tryz.prog 394 1 false := ⟨by kernel_rfl, by kernel_rfl⟩
instance tz394 : TyZ Tryz.prog 394 [.nilFunc] := ⟨by kernel_rfl⟩
instance tby394 : TyBy Tryz.prog 394 8 := ⟨by kernel_rfl⟩
instance ty396 : Ty Tryz.prog 396 1 false := ⟨by kernel_rfl, by kernel_rfl⟩
instance tz396 : TyZ Tryz.prog 396 [.nilFunc] := ⟨by kernel_rfl⟩
instance tby396 : TyBy Tryz.prog 396 8 := ⟨by kernel_rfl⟩
instance ty397 : Ty Tryz.prog 397 1 false := ⟨by kernel_rfl, by kernel_rfl⟩
instance tz397 : TyZ Tryz.prog 397 [.nilFunc] := ⟨by kernel_rfl⟩
instance tby397 : TyBy Tryz.prog 397 8 := ⟨by kernel_rfl⟩
instance ty398 : Ty Tryz.prog 398 1 false := ⟨by kernel_rfl, by kernel_rfl⟩
instance tz398 : TyZ Tryz.prog 398 [.nilFunc] := ⟨by kernel_rfl⟩
instance tby398 : TyBy Tryz.prog 398 8 := ⟨by kernel_rfl⟩
instance ty399 : Ty Tryz.prog 399 1 false := ⟨by kernel_rfl, by kernel_rfl⟩
instance tz399 : TyZ Tryz.prog 399 [.nilFunc] := ⟨by kernel_rfl⟩
instance tby399 : TyBy Tryz.prog 399 8 := ⟨by kernel_rfl⟩
instance ty400 : Ty Tryz.prog 400 1 false := ⟨by kernel_rfl, by kernel_rfl⟩
instance tz400 : TyZ Tryz.prog 400 [.nilFunc] := ⟨by kernel_rfl⟩
instance tby400 : TyBy Tryz.prog 400 8 := ⟨by kernel_rfl⟩
instance ty401 : Ty Tryz.prog 401 1 false := ⟨by kernel_rfl, by kernel_rfl⟩
instance tz401 : TyZ Tryz.prog 401 [.nilFunc] := ⟨by kernel_rfl⟩
instance tby401 : TyBy Tryz.prog 401 8 := ⟨by kernel_rfl⟩
instance ty402 : Ty Tryz.prog 402 1 false := ⟨by kernel_rfl, by kernel_rfl⟩
instance tz402 : TyZ Tryz.prog 402 [.nilFunc] := ⟨by kernel_rfl⟩
instance tby402 : TyBy Tryz.prog 402 8 := ⟨by kernel_rfl⟩
instance ty403 : Ty Tryz.prog 403 1 false := ⟨by kernel_rfl, by kernel_rfl⟩
instance tz403 : TyZ Tryz.prog 403 [.nilFunc] := ⟨by kernel_rfl⟩
instance tby403 : TyBy Tryz.prog 403 8 := ⟨by kernel_rfl⟩
instance ty404 : Ty Tryz.prog 404 1 false := ⟨by kernel_rfl, by kernel_rfl⟩
instance tz404 : TyZ Tryz.prog 404 [.map none] := ⟨by kernel_rfl⟩
instance tby404 : TyBy Tryz.prog 404 8 := ⟨by kernel_rfl⟩
instance ty405 : Ty Tryz.prog 405 1 false := ⟨by kernel_rfl, by kernel_rfl⟩
instance tz405 : TyZ Tryz.prog 405 [.nilFunc] := ⟨by kernel_rfl⟩
instance tby405 : TyBy Tryz.prog 405 8 := ⟨by kernel_rfl⟩
instance ty406 : Ty Tryz.prog 406 2 true := ⟨by kernel_rfl, by kernel_rfl⟩
instance tz406 : TyZ Tryz.prog 406 [.int .i64 0, .int .i64 0] := ⟨by kernel_rfl⟩
instance tby406 : TyBy Tryz.prog 406 16 := ⟨by kernel_rfl⟩
instance tss406 : TyS Tryz.prog 406 [(0, 1), (1, 1)] := ⟨by kernel_rfl, by kernel_rfl⟩
instance tf406_0 : TyFld Tryz.prog 406 0 0 := ⟨fun _ _ => by kernel_rfl⟩
instance tp406_0 : TyPart Tryz.prog 406 0 0 1 false := ⟨fun _ _ => by kernel_rfl⟩
instance tf406_1 : TyFld Tryz.prog 406 1 1 := ⟨fun _ _ => by kernel_rfl⟩
instance tp406_1 : TyPart Tryz.prog 406 1 1 1 false := ⟨fun _ _ => by kernel_rfl⟩
instance ty407 : Ty Tryz.prog 407 2 true := ⟨by kernel_rfl, by kernel_rfl⟩
instance tz407 : TyZ Tryz.prog 407 [.int .i64 0, .int .i64 0] := ⟨by kernel_rfl⟩
instance tby407 : TyBy Tryz.prog 407 16 := ⟨by kernel_rfl⟩
instance tss407 : TyS Tryz.prog 407 [(0, 1), (1, 1)] := ⟨by kernel_rfl, by kernel_rfl⟩
instance tf407_0 : TyFld Tryz.prog 407 0 0 := ⟨fun _ _ => by kernel_rfl⟩
instance tp407_0 : TyPart Tryz.prog 407 0 0 1 false := ⟨fun _ _ => by kernel_rfl⟩
instance tf407_1 : TyFld Tryz.prog 407 1 1 := ⟨fun _ _ => by kernel_rfl⟩
instance tp407_1 : TyPart Tryz.prog 407 1 1 1 false := ⟨fun _ _ => by kernel_rfl⟩
instance tes407 : TyEqS Tryz.prog 407 [.int .i64, .int .i64] := ⟨by kernel_rfl, by kernel_rfl, by kernel_rfl, by kernel_rfl⟩
instance ty408 : Ty Tryz.prog 408 1 false := ⟨by kernel_rfl, by kernel_rfl⟩
instance tz408 : TyZ Tryz.prog 408 [.nilFunc] := ⟨by kernel_rfl⟩
instance tby408 : TyBy Tryz.prog 408 8 := ⟨by kernel_rfl⟩
instance ty409 : Ty Tryz.prog 409 1 false := ⟨by kernel_rfl, by kernel_rfl⟩
instance tz409 : TyZ Tryz.prog 409 [.nilFunc] := ⟨by kernel_rfl⟩
instance tby409 : TyBy Tryz.prog 409 8 := ⟨by kernel_rfl⟩
instance ty410 : Ty Tryz.prog 410 1 false := ⟨by kernel_rfl, by kernel_rfl⟩
instance tz410 : TyZ Tryz.prog 410 [.nilFunc] := ⟨by kernel_rfl⟩
instance tby410 : TyBy Tryz.prog 410 8 := ⟨by kernel_rfl⟩
instance ty412 : Ty Tryz.prog 412 1 false := ⟨by kernel_rfl, by kernel_rfl⟩
instance tz412 : TyZ Tryz.prog 412 [.nilFunc] := ⟨by kernel_rfl⟩
instance tby412 : TyBy Tryz.prog 412 8 := ⟨by kernel_rfl⟩
instance ty413 : Ty Tryz.prog 413 1 false := ⟨by kernel_rfl, by kernel_rfl⟩
instance tz413 : TyZ Tryz.prog 413 [.nilFunc] := ⟨by kernel_rfl⟩
instance tby413 : TyBy Tryz.prog 413 8 := ⟨by kernel_rfl⟩
instance ty415 : Ty Tryz.prog 415 1 false := ⟨by kernel_rfl, by kernel_rfl⟩
instance tz415 : TyZ Tryz.prog 415 [.nilFunc] := ⟨by kernel_rfl⟩
instance tby415 : TyBy Tryz.prog 415 8 := ⟨by kernel_rfl⟩
instance ty416 : Ty Tryz.prog 416 1 false := ⟨by kernel_rfl, by kernel_rfl⟩
instance tz416 : TyZ Tryz.prog 416 [.nilFunc] := ⟨by kernel_rfl⟩
instance tby416 : TyBy Tryz.prog 416 8 := ⟨by kernel_rfl⟩
instance ty418 : Ty Tryz.prog 418 1 false := ⟨by kernel_rfl, by kernel_rfl⟩
instance tz418 : TyZ Tryz.prog 418 [.nilFunc] := ⟨by kernel_rfl⟩
instance tby418 : TyBy Tryz.prog 418 8 := ⟨by kernel_rfl⟩
instance ty419 : Ty Tryz.prog 419 1 false := ⟨by kernel_rfl, by kernel_rfl⟩
instance tz419 : TyZ Tryz.prog 419 [.nilFunc] := ⟨by kernel_rfl⟩
instance tby419 : TyBy Tryz.prog 419 8 := ⟨by kernel_rfl⟩
instance ty420 : Ty Tryz.prog 420 1 false := ⟨by kernel_rfl, by kernel_rfl⟩
instance tz420 : TyZ Tryz.prog 420 [.nilFunc] := ⟨by kernel_rfl⟩
instance tby420 : TyBy Tryz.prog 420 8 := ⟨by kernel_rfl⟩
instance ty421 : Ty Tryz.prog 421 1 false := ⟨by kernel_rfl, by kernel_rfl⟩
instance tz421 : TyZ Tryz.prog 421 [.nilFunc] := ⟨by kernel_rfl⟩
instance tby421 : TyBy Tryz.prog 421 8 := ⟨by kernel_rfl⟩
instance ty422 : Ty Tryz.prog 422 1 false := ⟨by kernel_rfl, by kernel_rfl⟩
instance tz422 : TyZ Tryz.prog 422 [.nilFunc] := ⟨by kernel_rfl⟩
instance tby422 : TyBy Tryz.prog 422 8 := ⟨by kernel_rfl⟩
instance ty423 : Ty Tryz.prog 423 1 false := ⟨by kernel_rfl, by kernel_rfl⟩
instance tz423 : TyZ Tryz.prog 423 [.nilFunc] := ⟨by kernel_rfl⟩
instance tby423 : TyBy Tryz.prog 423 8 := ⟨by kernel_rfl⟩
instance ty424 : Ty Tryz.prog 424 1 false := ⟨by kernel_rfl, by kernel_rfl⟩
instance tz424 : TyZ Tryz.prog 424 [.nilFunc] := ⟨by kernel_rfl⟩
instance tby424 : TyBy Tryz.prog 424 8 := ⟨by kernel_rfl⟩
instance ty426 : Ty Tryz.prog 426 1 false := ⟨by kernel_rfl, by kernel_rfl⟩
instance tz426 : TyZ Tryz.prog 426 [.nilFunc] := ⟨by kernel_rfl⟩
instance tby426 : TyBy Tryz.prog 426 8 := ⟨by kernel_rfl⟩
instance ty428 : Ty Tryz.prog 428 1 false := ⟨by kernel_rfl, by kernel_rfl⟩
instance tz428 : TyZ Tryz.prog 428 [.nilFunc] := ⟨by kernel_rfl⟩
instance tby428 : TyBy Tryz.prog 428 8 := ⟨by kernel_rfl⟩
instance ty429 : Ty Tryz.prog 429 1 false := ⟨by kernel_rfl, by kernel_rfl⟩
instance tz429 : TyZ Tryz.prog 429 [.nilFunc] := ⟨by kernel_rfl⟩
instance tby429 : TyBy Tryz.prog 429 8 := ⟨by kernel_rfl⟩
instance ty430 : Ty Tryz.prog 430 1 false := ⟨by kernel_rfl, by kernel_rfl⟩
instance tz430 : TyZ Tryz.prog 430 [.nilFunc] := ⟨by kernel_rfl⟩
instance tby430 : TyBy Tryz.prog 430 8 := ⟨by kernel_rfl⟩
instance ty431 : Ty Tryz.prog 431 1 false := ⟨by kernel_rfl, by kernel_rfl⟩
instance tz431 : TyZ Tryz.prog 431 [.nilFunc] := ⟨by kernel_rfl⟩
instance tby431 : TyBy Tryz.prog 431 8 := ⟨by kernel_rfl⟩
instance ty432 : Ty Tryz.prog 432 1 false := ⟨by kernel_rfl, by kernel_rfl⟩
instance tz432 : TyZ Tryz.prog 432 [.nilFunc] := ⟨by kernel_rfl⟩
instance tby432 : TyBy Tryz.prog 432 8 := ⟨by kernel_rfl⟩
instance ty433 : Ty Tryz.prog 433 1 false := ⟨by kernel_rfl, by kernel_rfl⟩
instance tz433 : TyZ Tryz.prog 433 [.nilFunc] := ⟨by kernel_rfl⟩
instance tby433 : TyBy Tryz.prog 433 8 := ⟨by kernel_rfl⟩
instance ty434 : Ty Tryz.prog 434 1 false := ⟨by kernel_rfl, by kernel_rfl⟩
instance tz434 : TyZ Tryz.prog 434 [.nilFunc] := ⟨by kernel_rfl⟩
instance tby434 : TyBy Tryz.prog 434 8 := ⟨by kernel_rfl⟩
instance ty436 : Ty Tryz.prog 436 1 false := ⟨by kernel_rfl, by kernel_rfl⟩
instance tz436 : TyZ Tryz.prog 436 [.nilFunc] := ⟨by kernel_rfl⟩
instance tby436 : TyBy Tryz.prog 436 8 := ⟨by kernel_rfl⟩
instance ty437 : Ty Tryz.prog 437 1 false := ⟨by kernel_rfl, by kernel_rfl⟩
instance tz437 : TyZ Tryz.prog 437 [.nilFunc] := ⟨by kernel_rfl⟩
instance tby437 : TyBy Tryz.prog 437 8 := ⟨by kernel_rfl⟩
instance ty438 : Ty Tryz.prog 438 3 true := ⟨by kernel_rfl, by kernel_rfl⟩
instance tz438 : TyZ Tryz.prog 438 [.int .i64 0, .int .i64 0, .bool false] := ⟨by kernel_rfl⟩
instance tby438 : TyBy Tryz.prog 438 24 := ⟨by kernel_rfl⟩
instance tss438 : TyS Tryz.prog 438 [(0, 1), (1, 1), (2, 1)] := ⟨by kernel_rfl, by kernel_rfl⟩
instance tf438_0 : TyFld Tryz.prog 438 0 0 := ⟨fun _ _ => by kernel_rfl⟩
instance tp438_0 : TyPart Tryz.prog 438 0 0 1 false := ⟨fun _ _ => by kernel_rfl⟩
instance tf438_1 : TyFld Tryz.prog 438 1 1 := ⟨fun _ _ => by kernel_rfl⟩
instance tp438_1 : TyPart Tryz.prog 438 1 1 1 false := ⟨fun _ _ => by kernel_rfl⟩
instance tf438_2 : TyFld Tryz.prog 438 2 2 := ⟨fun _ _ => by kernel_rfl⟩
instance tp438_2 : TyPart Tryz.prog 438 2 2 1 false := ⟨fun _ _ => by kernel_rfl⟩
instance ty439 : Ty Tryz.prog 439 3 true := ⟨by kernel_rfl, by kernel_rfl⟩
instance tz439 : TyZ Tryz.prog 439 [.int .i64 0, .int .i64 0, .bool false] := ⟨by kernel_rfl⟩
instance tby439 : TyBy Tryz.prog 439 24 := ⟨by kernel_rfl⟩
instance tss439 : TyS Tryz.prog 439 [(0, 1), (1, 1), (2, 1)] := ⟨by kernel_rfl, by kernel_rfl⟩
instance tf439_0 : TyFld Tryz.prog 439 0 0 := ⟨fun _ _ => by kernel_rfl⟩
instance tp439_0 : TyPart Tryz.prog 439 0 0 1 false := ⟨fun _ _ => by kernel_rfl⟩
instance tf439_1 : TyFld Tryz.prog 439 1 1 := ⟨fun _ _ => by kernel_rfl⟩
instance tp439_1 : TyPart Tryz.prog 439 1 1 1 false := ⟨fun _ _ => by kernel_rfl⟩
instance tf439_2 : TyFld Tryz.prog 439 2 2 := ⟨fun _ _ => by kernel_rfl⟩
instance tp439_2 : TyPart Tryz.prog 439 2 2 1 false := ⟨fun _ _ => by kernel_rfl⟩
instance tes439 : TyEqS Tryz.prog 439 [.int .i64, .int .i64, .bool] := ⟨by kernel_rfl, by kernel_rfl, by kernel_rfl, by kernel_rfl⟩
instance ty440 : Ty Tryz.prog 440 1 false := ⟨by kernel_rfl, by kernel_rfl⟩
instance tz440 : TyZ Tryz.prog 440 [.nilFunc] := ⟨by kernel_rfl⟩
instance tby440 : TyBy Tryz.prog 440 8 := ⟨by kernel_rfl⟩
instance ty441 : Ty Tryz.prog 441 1 false := ⟨by kernel_rfl, by kernel_rfl⟩
instance tz441 : TyZ Tryz.prog 441 [.nilFunc] := ⟨by kernel_rfl⟩
instance tby441 : TyBy Tryz.prog 441 8 := ⟨by kernel_rfl⟩
instance ty442 : Ty Tryz.prog 442 1 false := ⟨by kernel_rfl, by kernel_rfl⟩
instance tz442 : TyZ Tryz.prog 442 [.nilFunc] := ⟨by kernel_rfl⟩
instance tby442 : TyBy Tryz.prog 442 8 := ⟨by kernel_rfl⟩
instance ty443 : Ty Tryz.prog 443 1 false := ⟨by kernel_rfl, by kernel_rfl⟩
instance tz443 : TyZ Tryz.prog 443 [.nilFunc] := ⟨by kernel_rfl⟩
instance tby443 : TyBy Tryz.prog 443 8 := ⟨by kernel_rfl⟩
instance ty444 : Ty Tryz.prog 444 1 false := ⟨by kernel_rfl, by kernel_rfl⟩
instance tz444 : TyZ Tryz.prog 444 [.nilFunc] := ⟨by kernel_rfl⟩
instance tby444 : TyBy Tryz.prog 444 8 := ⟨by kernel_rfl⟩
instance ty445 : Ty Tryz.prog 445 1 false := ⟨by kernel_rfl, by kernel_rfl⟩
instance tz445 : TyZ Tryz.prog 445 [.nilFunc] := ⟨by kernel_rfl⟩
instance tby445 : TyBy Tryz.prog 445 8 := ⟨by kernel_rfl⟩
instance ty446 : Ty Tryz.prog 446 1 false := ⟨by kernel_rfl, by kernel_rfl⟩
instance tz446 : TyZ Tryz.prog 446 [.nilFunc] := ⟨by kernel_rfl⟩
instance tby446 : TyBy Tryz.prog 446 8 := ⟨by kernel_rfl⟩
instance ty447 : Ty Tryz.prog 447 1 false := ⟨by kernel_rfl, by kernel_rfl⟩
instance tz447 : TyZ Tryz.prog 447 [.pointer none] := ⟨by kernel_rfl⟩
instance tby447 : TyBy Tryz.prog 447 8 := ⟨by kernel_rfl⟩
instance tpt447 : TyPtr Tryz.prog 447 451 := ⟨by kernel_rfl⟩
instance ty449 : Ty Tryz.prog 449 1 false := ⟨by kernel_rfl, by kernel_rfl⟩
instance tz449 : TyZ Tryz.prog 449 [.nilFunc] := ⟨by kernel_rfl⟩
instance tby449 : TyBy Tryz.prog 449 8 := ⟨by kernel_rfl⟩
instance ty450 : Ty Tryz.prog 450 4 true := ⟨by kernel_rfl, by kernel_rfl⟩
instance tz450 : TyZ Tryz.prog 450 [.slice none 0 0, .int .i64 0, .bool false, .pointer none] := ⟨by kernel_rfl⟩
instance tby450 : TyBy Tryz.prog 450 48 := ⟨by kernel_rfl⟩
instance tss450 : TyS Tryz.prog 450 [(0, 3), (3, 1)] := ⟨by kernel_rfl, by kernel_rfl⟩
instance tf450_0 : TyFld Tryz.prog 450 0 0 := ⟨fun _ _ => by kernel_rfl⟩
instance tp450_0 : TyPart Tryz.prog 450 0 0 3 true := ⟨fun _ _ => by kernel_rfl⟩
instance tf450_1 : TyFld Tryz.prog 450 1 3 := ⟨fun _ _ => by kernel_rfl⟩
instance tp450_1 : TyPart Tryz.prog 450 1 3 1 false := ⟨fun _ _ => by kernel_rfl⟩
instance ty451 : Ty Tryz.prog 451 4 true := ⟨by kernel_rfl, by kernel_rfl⟩
instance tz451 : TyZ Tryz.prog 451 [.slice none 0 0, .int .i64 0, .bool false, .pointer none] := ⟨by kernel_rfl⟩
instance tby451 : TyBy Tryz.prog 451 48 := ⟨by kernel_rfl⟩
instance tss451 : TyS Tryz.prog 451 [(0, 3), (3, 1)] := ⟨by kernel_rfl, by kernel_rfl⟩
instance tf451_0 : TyFld Tryz.prog 451 0 0 := ⟨fun _ _ => by kernel_rfl⟩
instance tp451_0 : TyPart Tryz.prog 451 0 0 3 true := ⟨fun _ _ => by kernel_rfl⟩
instance tf451_1 : TyFld Tryz.prog 451 1 3 := ⟨fun _ _ => by kernel_rfl⟩
instance tp451_1 : TyPart Tryz.prog 451 1 3 1 false := ⟨fun _ _ => by kernel_rfl⟩
instance ty452 : Ty Tryz.prog 452 1 false := ⟨by kernel_rfl, by kernel_rfl⟩
instance tz452 : TyZ Tryz.prog 452 [.nilFunc] := ⟨by kernel_rfl⟩
instance tby452 : TyBy Tryz.prog 452 8 := ⟨by kernel_rfl⟩
instance ty453 : Ty Tryz.prog 453 1 false := ⟨by kernel_rfl, by kernel_rfl⟩
instance tz453 : TyZ Tryz.prog 453 [.nilFunc] := ⟨by kernel_rfl⟩
instance tby453 : TyBy Tryz.prog 453 8 := ⟨by kernel_rfl⟩
instance ty454 : Ty Tryz.prog 454 1 false := ⟨by kernel_rfl, by kernel_rfl⟩
instance tz454 : TyZ Tryz.prog 454 [.nilFunc] := ⟨by kernel_rfl⟩
instance tby454 : TyBy Tryz.prog 454 8 := ⟨by kernel_rfl⟩
instance ty455 : Ty Tryz.prog 455 1 false := ⟨by kernel_rfl, by kernel_rfl⟩
instance tz455 : TyZ Tryz.prog 455 [.nilFunc] := ⟨by kernel_rfl⟩
instance tby455 : TyBy Tryz.prog 455 8 := ⟨by kernel_rfl⟩
instance ty456 : Ty Tryz.prog 456 1 false := ⟨by kernel_rfl, by kernel_rfl⟩
instance tz456 : TyZ Tryz.prog 456 [.nilFunc] := ⟨by kernel_rfl⟩
instance tby456 : TyBy Tryz.prog 456 8 := ⟨by kernel_rfl⟩
instance ty457 : Ty Tryz.prog 457 1 false := ⟨by kernel_rfl, by kernel_rfl⟩
instance tz457 : TyZ Tryz.prog 457 [.int .u64 0] := ⟨by kernel_rfl⟩
instance tby457 : TyBy Tryz.prog 457 8 := ⟨by kernel_rfl⟩
instance tin457 : TyInt Tryz.prog 457 .u64 := ⟨by kernel_rfl⟩
instance ty458 : Ty Tryz.prog 458 1 false := ⟨by kernel_rfl, by kernel_rfl⟩
instance tz458 : TyZ Tryz.prog 458 [.nilFunc] := ⟨by kernel_rfl⟩
instance tby458 : TyBy Tryz.prog 458 8 := ⟨by kernel_rfl⟩
instance ty459 : Ty Tryz.prog 459 1 false := ⟨by kernel_rfl, by kernel_rfl⟩
instance tz459 : TyZ Tryz.prog 459 [.nilFunc] := ⟨by kernel_rfl⟩
instance tby459 : TyBy Tryz.prog 459 8 := ⟨by kernel_rfl⟩
instance ty460 : Ty Tryz.prog 460 1 false := ⟨by kernel_rfl, by kernel_rfl⟩
instance tz460 : TyZ Tryz.prog 460 [.nilFunc] := ⟨by kernel_rfl⟩
instance tby460 : TyBy Tryz.prog 460 8 := ⟨by kernel_rfl⟩
instance ty461 : Ty Tryz.prog 461 1 false := ⟨by kernel_rfl, by kernel_rfl⟩
instance tz461 : TyZ Tryz.prog 461 [.nilFunc] := ⟨by kernel_rfl⟩
instance tby461 : TyBy Tryz.prog 461 8 := ⟨by kernel_rfl⟩
instance ty462 : Ty Tryz.prog 462 1 false := ⟨by kernel_rfl, by kernel_rfl⟩
instance tz462 : TyZ Tryz.prog 462 [.nilFunc] := ⟨by kernel_rfl⟩
instance tby462 : TyBy Tryz.prog 462 8 := ⟨by kernel_rfl⟩
instance ty463 : Ty Tryz.prog 463 2 true := ⟨by kernel_rfl, by kernel_rfl⟩
instance tz463 : TyZ Tryz.prog 463 [.int .i64 0, .int .i64 0] := ⟨by kernel_rfl⟩
instance tby463 : TyBy Tryz.prog 463 16 := ⟨by kernel_rfl⟩
instance tss463 : TyS Tryz.prog 463 [(0, 1), (1, 1)] := ⟨by kernel_rfl, by kernel_rfl⟩
instance tf463_0 : TyFld Tryz.prog 463 0 0 := ⟨fun _ _ => by kernel_rfl⟩
instance tp463_0 : TyPart Tryz.prog 463 0 0 1 false := ⟨fun _ _ => by kernel_rfl⟩
instance tf463_1 : TyFld Tryz.prog 463 1 1 := ⟨fun _ _ => by kernel_rfl⟩
instance tp463_1 : TyPart Tryz.prog 463 1 1 1 false := ⟨fun _ _ => by kernel_rfl⟩
instance ty464 : Ty Tryz.prog 464 2 true := ⟨by kernel_rfl, by kernel_rfl⟩
instance tz464 : TyZ Tryz.prog 464 [.int .i64 0, .int .i64 0] := ⟨by kernel_rfl⟩
instance tby464 : TyBy Tryz.prog 464 16 := ⟨by kernel_rfl⟩
instance tss464 : TyS Tryz.prog 464 [(0, 1), (1, 1)] := ⟨by kernel_rfl, by kernel_rfl⟩
instance tf464_0 : TyFld Tryz.prog 464 0 0 := ⟨fun _ _ => by kernel_rfl⟩
instance tp464_0 : TyPart Tryz.prog 464 0 0 1 false := ⟨fun _ _ => by kernel_rfl⟩
instance tf464_1 : TyFld Tryz.prog 464 1 1 := ⟨fun _ _ => by kernel_rfl⟩
instance tp464_1 : TyPart Tryz.prog 464 1 1 1 false := ⟨fun _ _ => by kernel_rfl⟩
instance tes464 : TyEqS Tryz.prog 464 [.int .i64, .int .i64] := ⟨by kernel_rfl, by kernel_rfl, by kernel_rfl, by kernel_rfl⟩
instance ty465 : Ty Tryz.prog 465 1 false := ⟨by kernel_rfl, by kernel_rfl⟩
instance tz465 : TyZ Tryz.prog 465 [.nilFunc] := ⟨by kernel_rfl⟩
instance tby465 : TyBy Tryz.prog 465 8 := ⟨by kernel_rfl⟩
instance ty466 : Ty Tryz.prog 466 1 false := ⟨by kernel_rfl, by kernel_rfl⟩
instance tz466 : TyZ Tryz.prog 466 [.nilFunc] := ⟨by kernel_rfl⟩
instance tby466 : TyBy Tryz.prog 466 8 := ⟨by kernel_rfl⟩
instance ty468 : Ty Tryz.prog 468 2 true := ⟨by kernel_rfl, by kernel_rfl⟩
instance tz468 : TyZ Tryz.prog 468 [.int .i64 0, .int .i64 0] := ⟨by kernel_rfl⟩
instance tby468 : TyBy Tryz.prog 468 16 := ⟨by kernel_rfl⟩
instance tss468 : TyS Tryz.prog 468 [(0, 1), (1, 1)] := ⟨by kernel_rfl, by kernel_rfl⟩
instance tf468_0 : TyFld Tryz.prog 468 0 0 := ⟨fun _ _ => by kernel_rfl⟩
instance tp468_0 : TyPart Tryz.prog 468 0 0 1 false := ⟨fun _ _ => by kernel_rfl⟩
instance tf468_1 : TyFld Tryz.prog 468 1 1 := ⟨fun _ _ => by kernel_rfl⟩
instance tp468_1 : TyPart Tryz.prog 468 1 1 1 false := ⟨fun _ _ => by kernel_rfl⟩
instance ty469 : Ty Tryz.prog 469 2 true := ⟨by kernel_rfl, by kernel_rfl⟩
instance tz469 : TyZ Tryz.prog 469 [.int .i64 0, .int .i64 0] := ⟨by kernel_rfl⟩
instance tby469 : TyBy Tryz.prog 469 16 := ⟨by kernel_rfl⟩
instance tss469 : TyS Tryz.prog 469 [(0, 1), (1, 1)] := ⟨by kernel_rfl, by kernel_rfl⟩
instance tf469_0 : TyFld Tryz.prog 469 0 0 := ⟨fun _ _ => by kernel_rfl⟩
instance tp469_0 : TyPart Tryz.prog 469 0 0 1 false := ⟨fun _ _ => by kernel_rfl⟩
instance tf469_1 : TyFld Tryz.prog 469 1 1 := ⟨fun _ _ => by kernel_rfl⟩
instance tp469_1 : TyPart Tryz.prog 469 1 1 1 false := ⟨fun _ _ => by kernel_rfl⟩
instance tes469 : TyEqS Tryz.prog 469 [.int .i64, .int .i64] := ⟨by kernel_rfl, by kernel_rfl, by kernel_rfl, by kernel_rfl⟩
instance ty470 : Ty Tryz.prog 470 1 false := ⟨by kernel_rfl, by kernel_rfl⟩
instance tz470 : TyZ Tryz.prog 470 [.nilFunc] := ⟨by kernel_rfl⟩
instance tby470 : TyBy Tryz.prog 470 8 := ⟨by kernel_rfl⟩
instance ty471 : Ty Tryz.prog 471 1 false := ⟨by kernel_rfl, by kernel_rfl⟩
instance tz471 : TyZ Tryz.prog 471 [.nilFunc] := ⟨by kernel_rfl⟩
instance tby471 : TyBy Tryz.prog 471 8 := ⟨by kernel_rfl⟩
instance ty472 : Ty Tryz.prog 472 1 false := ⟨by kernel_rfl, by kernel_rfl⟩
instance tz472 : TyZ Tryz.prog 472 [.pointer none] := ⟨by kernel_rfl⟩
instance tby472 : TyBy Tryz.prog 472 8 := ⟨by kernel_rfl⟩
instance tpt472 : TyPtr Tryz.prog 472 474 := ⟨by kernel_rfl⟩
instance ty473 : Ty Tryz.prog 473 2 true := ⟨by kernel_rfl, by kernel_rfl⟩
instance tz473 : TyZ Tryz.prog 473 [.pointer none, .slice none 0 0] := ⟨by kernel_rfl⟩
instance tby473 : TyBy Tryz.prog 473 32 := ⟨by kernel_rfl⟩
instance tss473 : TyS Tryz.prog 473 [(0, 1), (1, 1)] := ⟨by kernel_rfl, by kernel_rfl⟩
instance tf473_0 : TyFld Tryz.prog 473 0 0 := ⟨fun _ _ => by kernel_rfl⟩
instance tp473_0 : TyPart Tryz.prog 473 0 0 1 false := ⟨fun _ _ => by kernel_rfl⟩
instance tf473_1 : TyFld Tryz.prog 473 1 1 := ⟨fun _ _ => by kernel_rfl⟩
instance tp473_1 : TyPart Tryz.prog 473 1 1 1 false := ⟨fun _ _ => by kernel_rfl⟩
instance ty474 : Ty Tryz.prog 474 2 true := ⟨by kernel_rfl, by kernel_rfl⟩
instance tz474 : TyZ Tryz.prog 474 [.pointer none, .slice none 0 0] := ⟨by kernel_rfl⟩
instance tby474 : TyBy Tryz.prog 474 32 := ⟨by kernel_rfl⟩
instance tss474 : TyS Tryz.prog 474 [(0, 1), (1, 1)] := ⟨by kernel_rfl, by kernel_rfl⟩
instance tf474_0 : TyFld Tryz.prog 474 0 0 := ⟨fun _ _ => by kernel_rfl⟩
instance tp474_0 : TyPart Tryz.prog 474 0 0 1 false := ⟨fun _ _ => by kernel_rfl⟩
instance tf474_1 : TyFld Tryz.prog 474 1 1 := ⟨fun _ _ => by kernel_rfl⟩
instance tp474_1 : TyPart Tryz.prog 474 1 1 1 false := ⟨fun _ _ => by kernel_rfl⟩
instance ty476 : Ty Tryz.prog 476 1 false := ⟨by kernel_rfl, by kernel_rfl⟩
instance tz476 : TyZ Tryz.prog 476 [.nilFunc] := ⟨by kernel_rfl⟩
instance tby476 : TyBy Tryz.prog 476 8 := ⟨by kernel_rfl⟩
instance ty477 : Ty Tryz.prog 477 1 false := ⟨by kernel_rfl, by kernel_rfl⟩
instance tz477 : TyZ Tryz.prog 477 [.nilFunc] := ⟨by kernel_rfl⟩
instance tby477 : TyBy Tryz.prog 477 8 := ⟨by kernel_rfl⟩
instance ty478 : Ty Tryz.prog 478 1 false := ⟨by kernel_rfl, by kernel_rfl⟩
instance tz478 : TyZ Tryz.prog 478 [.nilFunc] := ⟨by kernel_rfl⟩
instance tby478 : TyBy Tryz.prog 478 8 := ⟨by kernel_rfl⟩
instance ty479 : Ty Tryz.prog 479 8 true := ⟨by kernel_rfl, by kernel_rfl⟩
instance tz479 : TyZ Tryz.prog 479 [.pointer none, .pointer none, .pointer none, .pointer none, .pointer none, .pointer none, .pointer none, .pointer none] := ⟨by kernel_rfl⟩
instance tby479 : TyBy Tryz.prog 479 64 := ⟨by kernel_rfl⟩
instance tar479 : TyArr Tryz.prog 479 8 341 1 := ⟨by kernel_rfl, by kernel_rfl⟩
instance ty480 : Ty Tryz.prog 480 8 true := ⟨by kernel_rfl, by kernel_rfl⟩
instance tz480 : TyZ Tryz.prog 480 [.pointer none, .pointer none, .pointer none, .pointer none, .pointer none, .pointer none, .pointer none, .pointer none] := ⟨by kernel_rfl⟩
instance tby480 : TyBy Tryz.prog 480 64 := ⟨by kernel_rfl⟩
instance tar480 : TyArr Tryz.prog 480 8 341 1 := ⟨by kernel_rfl, by kernel_rfl⟩
instance ty481 : Ty Tryz.prog 481 1 false := ⟨by kernel_rfl, by kernel_rfl⟩
instance tz481 : TyZ Tryz.prog 481 [.nilFunc] := ⟨by kernel_rfl⟩
instance tby481 : TyBy Tryz.prog 481 8 := ⟨by kernel_rfl⟩
instance ty482 : Ty Tryz.prog 482 1 false := ⟨by kernel_rfl, by kernel_rfl⟩
instance tz482 : TyZ Tryz.prog 482 [.nilFunc] := ⟨by kernel_rfl⟩
instance tby482 : TyBy Tryz.prog 482 8 := ⟨by kernel_rfl⟩
instance ty483 : Ty Tryz.prog 483 1 false := ⟨by kernel_rfl, by kernel_rfl⟩
instance tz483 : TyZ Tryz.prog 483 [.nilFunc] := ⟨by kernel_rfl⟩
instance tby483 : TyBy Tryz.prog 483 8 := ⟨by kernel_rfl⟩
instance ty484 : Ty Tryz.prog 484 1 false := ⟨by kernel_rfl, by kernel_rfl⟩
instance tz484 : TyZ Tryz.prog 484 [.nilFunc] := ⟨by kernel_rfl⟩
instance tby484 : TyBy Tryz.prog 484 8 := ⟨by kernel_rfl⟩
instance ty485 : Ty Tryz.prog 485 1 false := ⟨by kernel_rfl, by kernel_rfl⟩
instance tz485 : TyZ Tryz.prog 485 [.nilFunc] := ⟨by kernel_rfl⟩
instance tby485 : TyBy Tryz.prog 485 8 := ⟨by kernel_rfl⟩
instance ty486 : Ty Tryz.prog 486 3 true := ⟨by kernel_rfl, by kernel_rfl⟩
instance tz486 : TyZ Tryz.prog 486 [.int .i64 0, .int .i64 0, .int .i64 0] := ⟨by kernel_rfl⟩
instance tby486 : TyBy Tryz.prog 486 24 := ⟨by kernel_rfl⟩
instance tss486 : TyS Tryz.prog 486 [(0, 1), (1, 1), (2, 1)] := ⟨by kernel_rfl, by kernel_rfl⟩
instance tf486_0 : TyFld Tryz.prog 486 0 0 := ⟨fun _ _ => by kernel_rfl⟩
instance tp486_0 : TyPart Tryz.prog 486 0 0 1 false := ⟨fun _ _ => by kernel_rfl⟩
instance tf486_1 : TyFld Tryz.prog 486 1 1 := ⟨fun _ _ => by kernel_rfl⟩
instance tp486_1 : TyPart Tryz.prog 486 1 1 1 false := ⟨fun _ _ => by kernel_rfl⟩
instance tf486_2 : TyFld Tryz.prog 486 2 2 := ⟨fun _ _ => by kernel_rfl⟩
instance tp486_2 : TyPart Tryz.prog 486 2 2 1 false := ⟨fun _ _ => by kernel_rfl⟩
instance ty487 : Ty Tryz.prog 487 3 true := ⟨by kernel_rfl, by kernel_rfl⟩
instance tz487 : TyZ Tryz.prog 487 [.int .i64 0, .int .i64 0, .int .i64 0] := ⟨by kernel_rfl⟩
instance tby487 : TyBy Tryz.prog 487 24 := ⟨by kernel_rfl⟩
instance tss487 : TyS Tryz.prog 487 [(0, 1), (1, 1), (2, 1)] := ⟨by kernel_rfl, by kernel_rfl⟩
instance tf487_0 : TyFld Tryz.prog 487 0 0 := ⟨fun _ _ => by kernel_rfl⟩
instance tp487_0 : TyPart Tryz.prog 487 0 0 1 false := ⟨fun _ _ => by kernel_rfl⟩
instance tf487_1 : TyFld Tryz.prog 487 1 1 := ⟨fun _ _ => by kernel_rfl⟩
instance tp487_1 : TyPart Tryz.prog 487 1 1 1 false := ⟨fun _ _ => by kernel_rfl⟩
instance tf487_2 : TyFld Tryz.prog 487 2 2 := ⟨fun _ _ => by kernel_rfl⟩
instance tp487_2 : TyPart Tryz.prog 487 2 2 1 false := ⟨fun _ _ => by kernel_rfl⟩
instance tes487 : TyEqS Tryz.prog 487 [.int .i64, .int .i64, .int .i64] := ⟨by kernel_rfl, by kernel_rfl, by kernel_rfl, by kernel_rfl⟩
instance ty488 : Ty Tryz.prog 488 1 false := ⟨by kernel_rfl, by kernel_rfl⟩
instance tz488 : TyZ Tryz.prog 488 [.nilFunc] := ⟨by kernel_rfl⟩
instance tby488 : TyBy Tryz.prog 488 8 := ⟨by kernel_rfl⟩
instance ty489 : Ty Tryz.prog 489 2 true := ⟨by kernel_rfl, by kernel_rfl⟩
instance tz489 : TyZ Tryz.prog 489 [.int .i64 0, .int .i64 0] := ⟨by kernel_rfl⟩
instance tby489 : TyBy Tryz.prog 489 16 := ⟨by kernel_rfl⟩
instance tss489 : TyS Tryz.prog 489 [(0, 1), (1, 1)] := ⟨by kernel_rfl, by kernel_rfl⟩
instance tf489_0 : TyFld Tryz.prog 489 0 0 := ⟨fun _ _ => by kernel_rfl⟩
instance tp489_0 : TyPart Tryz.prog 489 0 0 1 false := ⟨fun _ _ => by kernel_rfl⟩
instance tf489_1 : TyFld Tryz.prog 489 1 1 := ⟨fun _ _ => by kernel_rfl⟩
instance tp489_1 : TyPart Tryz.prog 489 1 1 1 false := ⟨fun _ _ => by kernel_rfl⟩
instance ty490 : Ty Tryz.prog 490 2 true := ⟨by kernel_rfl, by kernel_rfl⟩
instance tz490 : TyZ Tryz.prog 490 [.int .i64 0, .int .i64 0] := ⟨by kernel_rfl⟩
instance tby490 : TyBy Tryz.prog 490 16 := ⟨by kernel_rfl⟩
instance tss490 : TyS Tryz.prog 490 [(0, 1), (1, 1)] := ⟨by kernel_rfl, by kernel_rfl⟩
instance tf490_0 : TyFld Tryz.prog 490 0 0 := ⟨fun _ _ => by kernel_rfl⟩
instance tp490_0 : TyPart Tryz.prog 490 0 0 1 false := ⟨fun _ _ => by kernel_rfl⟩
instance tf490_1 : TyFld Tryz.prog 490 1 1 := ⟨fun _ _ => by kernel_rfl⟩
instance tp490_1 : TyPart Tryz.prog 490 1 1 1 false := ⟨fun _ _ => by kernel_rfl⟩
instance tes490 : TyEqS Tryz.prog 490 [.int .i64, .int .i64] := ⟨by kernel_rfl, by kernel_rfl, by kernel_rfl, by kernel_rfl⟩
instance ty491 : Ty Tryz.prog 491 67 true := ⟨by kernel_rfl, by kernel_rfl⟩
instance tz491 : TyZ Tryz.prog 491 [.int .u8 0, .int .u8 0, .int .u8 0, .int .u8 0, .int .u8 0, .int .u8 0, .int .u8 0, .int .u8 0, .int .u8 0, .int .u8 0, .int .u8 0, .int .u8 0, .int .u8 0, .int .u8 0, .int .u8 0, .int .u8 0, .int .u8 0, .int .u8 0, .int .u8 0, .int .u8 0, .int .u8 0, .int .u8 0, .int .u8 0, .int .u8 0, .int .u8 0, .int .u8 0, .int .u8 0, .int .u8 0, .int .u8 0, .int .u8 0, .int .u8 0, .int .u8 0, .int .u8 0, .int .u8 0, .int .u8 0, .int .u8 0, .int .u8 0, .int .u8 0, .int .u8 0, .int .u8 0, .int .u8 0, .int .u8 0, .int .u8 0, .int .u8 0, .int .u8 0, .int .u8 0, .int .u8 0, .int .u8 0, .int .u8 0, .int .u8 0, .int .u8 0, .int .u8 0, .int .u8 0, .int .u8 0, .int .u8 0, .int .u8 0, .int .u8 0, .int .u8 0, .int .u8 0, .int .u8 0, .int .u8 0, .int .u8 0, .int .u8 0, .int .u8 0, .int .i64 0, .int .i64 0, .int .i64 0] := ⟨by kernel_rfl⟩
instance tby491 : TyBy Tryz.prog 491 88 := ⟨by kernel_rfl⟩
instance tss491 : TyS Tryz.prog 491 [(0, 64), (64, 1), (65, 2)] := ⟨by kernel_rfl, by kernel_rfl⟩
instance tf491_0 : TyFld Tryz.prog 491 0 0 := ⟨fun _ _ => by kernel_rfl⟩
instance tp491_0 : TyPart Tryz.prog 491 0 0 64 true := ⟨fun _ _ => by kernel_rfl⟩
instance tf491_1 : TyFld Tryz.prog 491 1 64 := ⟨fun _ _ => by kernel_rfl⟩
instance tp491_1 : TyPart Tryz.prog 491 1 64 1 false := ⟨fun _ _ => by kernel_rfl⟩
instance tf491_2 : TyFld Tryz.prog 491 2 65 := ⟨fun _ _ => by kernel_rfl⟩
instance tp491_2 : TyPart Tryz.prog 491 2 65 2 true := ⟨fun _ _ => by kernel_rfl⟩
instance ty492 : Ty Tryz.prog 492 67 true := ⟨by kernel_rfl, by kernel_rfl⟩
instance tz492 : TyZ Tryz.prog 492 [.int .u8 0, .int .u8 0, .int .u8 0, .int .u8 0, .int .u8 0, .int .u8 0, .int .u8 0, .int .u8 0, .int .u8 0, .int .u8 0, .int .u8 0, .int .u8 0, .int .u8 0, .int .u8 0, .int .u8 0, .int .u8 0, .int .u8 0, .int .u8 0, .int .u8 0, .int .u8 0, .int .u8 0, .int .u8 0, .int .u8 0, .int .u8 0, .int .u8 0, .int .u8 0, .int .u8 0, .int .u8 0, .int .u8 0, .int .u8 0, .int .u8 0, .int .u8 0, .int .u8 0, .int .u8 0, .int .u8 0, .int .u8 0, .int .u8 0, .int .u8 0, .int .u8 0, .int .u8 0, .int .u8 0, .int .u8 0, .int .u8 0, .int .u8 0, .int .u8 0, .int .u8 0, .int .u8 0, .int .u8 0, .int .u8 0, .int .u8 0, .int .u8 0, .int .u8 0, .int .u8 0, .int .u8 0, .int .u8 0, .int .u8 0, .int .u8 0, .int .u8 0, .int .u8 0, .int .u8 0, .int .u8 0, .int .u8 0, .int .u8 0, .int .u8 0, .int .i64 0, .int .i64 0, .int .i64 0] := ⟨by kernel_rfl⟩
instance tby492 : TyBy Tryz.prog 492 88 := ⟨by kernel_rfl⟩
instance tss492 : TyS Tryz.prog 492 [(0, 64), (64, 1), (65, 2)] := ⟨by kernel_rfl, by kernel_rfl⟩
instance tf492_0 : TyFld Tryz.prog 492 0 0 := ⟨fun _ _ => by kernel_rfl⟩
instance tp492_0 : TyPart Tryz.prog 492 0 0 64 true := ⟨fun _ _ => by kernel_rfl⟩
instance tf492_1 : TyFld Tryz.prog 492 1 64 := ⟨fun _ _ => by kernel_rfl⟩
instance tp492_1 : TyPart Tryz.prog 492 1 64 1 false := ⟨fun _ _ => by kernel_rfl⟩
instance tf492_2 : TyFld Tryz.prog 492 2 65 := ⟨fun _ _ => by kernel_rfl⟩
instance tp492_2 : TyPart Tryz.prog 492 2 65 2 true := ⟨fun _ _ => by kernel_rfl⟩
instance ty493 : Ty Tryz.prog 493 1 false := ⟨by kernel_rfl, by kernel_rfl⟩
instance tz493 : TyZ Tryz.prog 493 [.pointer none] := ⟨by kernel_rfl⟩
instance tby493 : TyBy Tryz.prog 493 8 := ⟨by kernel_rfl⟩
instance tpt493 : TyPtr Tryz.prog 493 160 := ⟨by kernel_rfl⟩
instance ty494 : Ty Tryz.prog 494 1 false := ⟨by kernel_rfl, by kernel_rfl⟩
instance tz494 : TyZ Tryz.prog 494 [.nilFunc] := ⟨by kernel_rfl⟩
instance tby494 : TyBy Tryz.prog 494 8 := ⟨by kernel_rfl⟩
instance ty495 : Ty Tryz.prog 495 1 false := ⟨by kernel_rfl, by kernel_rfl⟩
instance tz495 : TyZ Tryz.prog 495 [.nilFunc] := ⟨by kernel_rfl⟩
instance tby495 : TyBy Tryz.prog 495 8 := ⟨by kernel_rfl⟩
instance ty496 : Ty Tryz.prog 496 1 false := ⟨by kernel_rfl, by kernel_rfl⟩
instance tz496 : TyZ Tryz.prog 496 [.nilFunc] := ⟨by kernel_rfl⟩
instance tby496 : TyBy Tryz.prog 496 8 := ⟨by kernel_rfl⟩
instance ty497 : Ty Tryz.prog 497 1 false := ⟨by kernel_rfl, by kernel_rfl⟩
instance tz497 : TyZ Tryz.prog 497 [.nilFunc] := ⟨by kernel_rfl⟩
instance tby497 : TyBy Tryz.prog 497 8 := ⟨by kernel_rfl⟩
instance ty498 : Ty Tryz.prog 498 1 false := ⟨by kernel_rfl, by kernel_rfl⟩
instance tz498 : TyZ Tryz.prog 498 [.nilFunc] := ⟨by kernel_rfl⟩
instance tby498 : TyBy Tryz.prog 498 8 := ⟨by kernel_rfl⟩
instance ty499 : Ty Tryz.prog 499 1 false := ⟨by kernel_rfl, by kernel_rfl⟩
instance tz499 : TyZ Tryz.prog 499 [.nilFunc] := ⟨by kernel_rfl⟩
instance tby499 : TyBy Tryz.prog 499 8 := ⟨by kernel_rfl⟩
instance ty500 : Ty Tryz.prog 500 1 false := ⟨by kernel_rfl, by kernel_rfl⟩
instance tz500 : TyZ Tryz.prog 500 [.nilFunc] := ⟨by kernel_rfl⟩
instance tby500 : TyBy Tryz.prog 500 8 := ⟨by kernel_rfl⟩
instance ty501 : Ty Tryz.prog 501 1 false := ⟨by kernel_rfl, by kernel_rfl⟩
instance tz501 : TyZ Tryz.prog 501 [.nilFunc] := ⟨by kernel_rfl⟩
instance tby501 : TyBy Tryz.prog 501 8 := ⟨by kernel_rfl⟩
instance ty502 : Ty Tryz.prog 502 1 false := ⟨by kernel_rfl, by kernel_rfl⟩
instance tz502 : TyZ Tryz.prog 502 [.nilFunc] := ⟨by kernel_rfl⟩
instance tby502 : TyBy Tryz.prog 502 8 := ⟨by kernel_rfl⟩
instance ty503 : Ty Tryz.prog 503 1 false := ⟨by kernel_rfl, by kernel_rfl⟩
instance tz503 : TyZ Tryz.prog 503 [.nilFunc] := ⟨by kernel_rfl⟩
instance tby503 : TyBy Tryz.prog 503 8 := ⟨by kernel_rfl⟩
instance ty504 : Ty Tryz.prog 504 1 false := ⟨by kernel_rfl, by kernel_rfl⟩
instance tz504 : TyZ Tryz.prog 504 [.nilFunc] := ⟨by kernel_rfl⟩
instance tby504 : TyBy Tryz.prog 504 8 := ⟨by kernel_rfl⟩
instance ty505 : Ty Tryz.prog 505 1 false := ⟨by kernel_rfl, by kernel_rfl⟩
instance tz505 : TyZ Tryz.prog 505 [.nilFunc] := ⟨by kernel_rfl⟩
instance tby505 : TyBy Tryz.prog 505 8 := ⟨by kernel_rfl⟩
instance ty506 : Ty Tryz.prog 506 1 false := ⟨by kernel_rfl, by kernel_rfl⟩
instance tz506 : TyZ Tryz.prog 506 [.nilFunc] := ⟨by kernel_rfl⟩
instance tby506 : TyBy Tryz.prog 506 8 := ⟨by kernel_rfl⟩
instance ty507 : Ty Tryz.prog 507 1 false := ⟨by kernel_rfl, by kernel_rfl⟩
instance tz507 : TyZ Tryz.prog 507 [.pointer none] := ⟨by kernel_rfl⟩
instance tby507 : TyBy Tryz.prog 507 8 := ⟨by kernel_rfl⟩
instance tpt507 : TyPtr Tryz.prog 507 313 := ⟨by kernel_rfl⟩
instance ty508 : Ty Tryz.prog 508 1 false := ⟨by kernel_rfl, by kernel_rfl⟩
instance tz508 : TyZ Tryz.prog 508 [.int .i16 0] := ⟨by kernel_rfl⟩
instance tby508 : TyBy Tryz.prog 508 2 := ⟨by kernel_rfl⟩
instance tin508 : TyInt Tryz.prog 508 .i16 := ⟨by kernel_rfl⟩
instance ty509 : Ty Tryz.prog 509 1 false := ⟨by kernel_rfl, by kernel_rfl⟩
instance tz509 : TyZ Tryz.prog 509 [.int .u16 0] := ⟨by kernel_rfl⟩
instance tby509 : TyBy Tryz.prog 509 2 := ⟨by kernel_rfl⟩
instance tin509 : TyInt Tryz.prog 509 .u16 := ⟨by kernel_rfl⟩
instance ty510 : Ty Tryz.prog 510 1 true := ⟨by kernel_rfl, by kernel_rfl⟩
instance tz510 : TyZ Tryz.prog 510 [.int .i64 0] := ⟨by kernel_rfl⟩
instance tby510 : TyBy Tryz.prog 510 8 := ⟨by kernel_rfl⟩
instance tss510 : TyS Tryz.prog 510 [(0, 1)] := ⟨by kernel_rfl, by kernel_rfl⟩
instance tf510_0 : TyFld Tryz.prog 510 0 0 := ⟨fun _ _ => by kernel_rfl⟩
instance tp510_0 : TyPart Tryz.prog 510 0 0 1 false := ⟨fun _ _ => by kernel_rfl⟩
instance ty511 : Ty Tryz.prog 511 1 true := ⟨by kernel_rfl, by kernel_rfl⟩
instance tz511 : TyZ Tryz.prog 511 [.int .i64 0] := ⟨by kernel_rfl⟩
instance tby511 : TyBy Tryz.prog 511 8 := ⟨by kernel_rfl⟩
instance tss511 : TyS Tryz.prog 511 [(0, 1)] := ⟨by kernel_rfl, by kernel_rfl⟩
instance tf511_0 : TyFld Tryz.prog 511 0 0 := ⟨fun _ _ => by kernel_rfl⟩
instance tp511_0 : TyPart Tryz.prog 511 0 0 1 false := ⟨fun _ _ => by kernel_rfl⟩
instance tes511 : TyEqS Tryz.prog 511 [.int .i64] := ⟨by kernel_rfl, by kernel_rfl, by kernel_rfl, by kernel_rfl⟩
instance ty512 : Ty Tryz.prog 512 1 false := ⟨by kernel_rfl, by kernel_rfl⟩
instance tz512 : TyZ Tryz.prog 512 [.pointer none] := ⟨by kernel_rfl⟩
instance tby512 : TyBy Tryz.prog 512 8 := ⟨by kernel_rfl⟩
instance tpt512 : TyPtr Tryz.prog 512 511 := ⟨by kernel_rfl⟩
instance ty513 : Ty Tryz.prog 513 1 false := ⟨by kernel_rfl, by kernel_rfl⟩
instance tz513 : TyZ Tryz.prog 513 [.nilFunc] := ⟨by kernel_rfl⟩
instance tby513 : TyBy Tryz.prog 513 8 := ⟨by kernel_rfl⟩
instance ty514 : Ty Tryz.prog 514 1 false := ⟨by kernel_rfl, by kernel_rfl⟩
instance tz514 : TyZ Tryz.prog 514 [.nilFunc] := ⟨by kernel_rfl⟩
instance tby514 : TyBy Tryz.prog 514 8 := ⟨by kernel_rfl⟩
instance ty515 : Ty Tryz.prog 515 1 false := ⟨by kernel_rfl, by kernel_rfl⟩
instance tz515 : TyZ Tryz.prog 515 [.nilFunc] := ⟨by kernel_rfl⟩
instance tby515 : TyBy Tryz.prog 515 8 := ⟨by kernel_rfl⟩
instance ty516 : Ty Tryz.prog 516 1 false := ⟨by kernel_rfl, by kernel_rfl⟩
instance tz516 : TyZ Tryz.prog 516 [.nilFunc] := ⟨by kernel_rfl⟩
instance tby516 : TyBy Tryz.prog 516 8 := ⟨by kernel_rfl⟩
instance ty517 : Ty Tryz.prog 517 1 false := ⟨by kernel_rfl, by kernel_rfl⟩
instance tz517 : TyZ Tryz.prog 517 [.slice none 0 0] := ⟨by kernel_rfl⟩
instance tby517 : TyBy Tryz.prog 517 24 := ⟨by kernel_rfl⟩
instance tsl517 : TySl Tryz.prog 517 407 2 := ⟨by kernel_rfl, by kernel_rfl⟩
instance ty518 : Ty Tryz.prog 518 1 false := ⟨by kernel_rfl, by kernel_rfl⟩
instance tz518 : TyZ Tryz.prog 518 [.nilFunc] := ⟨by kernel_rfl⟩
instance tby518 : TyBy Tryz.prog 518 8 := ⟨by kernel_rfl⟩
instance ty519 : Ty Tryz.prog 519 1 false := ⟨by kernel_rfl, by kernel_rfl⟩
instance tz519 : TyZ Tryz.prog 519 [.nilFunc] := ⟨by kernel_rfl⟩
instance tby519 : TyBy Tryz.prog 519 8 := ⟨by kernel_rfl⟩
instance ty520 : Ty Tryz.prog 520 1 false := ⟨by kernel_rfl, by kernel_rfl⟩
instance tz520 : TyZ Tryz.prog 520 [.nilFunc] := ⟨by kernel_rfl⟩
instance tby520 : TyBy Tryz.prog 520 8 := ⟨by kernel_rfl⟩
instance ty521 : Ty Tryz.prog 521 1 false := ⟨by kernel_rfl, by kernel_rfl⟩
instance tz521 : TyZ Tryz.prog 521 [.nilFunc] := ⟨by kernel_rfl⟩
instance tby521 : TyBy Tryz.prog 521 8 := ⟨by kernel_rfl⟩
instance ty522 : Ty Tryz.prog 522 1 false := ⟨by kernel_rfl, by kernel_rfl⟩
instance tz522 : TyZ Tryz.prog 522 [.nilFunc] := ⟨by kernel_rfl⟩
instance tby522 : TyBy Tryz.prog 522 8 := ⟨by kernel_rfl⟩
instance ty523 : Ty Tryz.prog 523 1 false := ⟨by kernel_rfl, by kernel_rfl⟩
instance tz523 : TyZ Tryz.prog 523 [.nilFunc] := ⟨by kernel_rfl⟩
instance tby523 : TyBy Tryz.prog 523 8 := ⟨by kernel_rfl⟩
instance ty524 : Ty Tryz.prog 524 1 false := ⟨by kernel_rfl, by kernel_rfl⟩
instance tz524 : TyZ Tryz.prog 524 [.nilFunc] := ⟨by kernel_rfl⟩
instance tby524 : TyBy Tryz.prog 524 8 := ⟨by kernel_rfl⟩
instance ty525 : Ty Tryz.prog 525 1 false := ⟨by kernel_rfl, by kernel_rfl⟩
instance tz525 : TyZ Tryz.prog 525 [.nilFunc] := ⟨by kernel_rfl⟩
instance tby525 : TyBy Tryz.prog 525 8 := ⟨by kernel_rfl⟩
instance ty526 : Ty Tryz.prog 526 1 false := ⟨by kernel_rfl, by kernel_rfl⟩
instance tz526 : TyZ Tryz.prog 526 [.nilFunc] := ⟨by kernel_rfl⟩
instance tby526 : TyBy Tryz.prog 526 8 := ⟨by kernel_rfl⟩
instance ty527 : Ty Tryz.prog 527 1 false := ⟨by kernel_rfl, by kernel_rfl⟩
instance tz527 : TyZ Tryz.prog 527 [.nilFunc] := ⟨by kernel_rfl⟩
instance tby527 : TyBy Tryz.prog 527 8 := ⟨by kernel_rfl⟩
instance ty528 : Ty Tryz.prog 528 1 false := ⟨by kernel_rfl, by kernel_rfl⟩
instance tz528 : TyZ Tryz.prog 528 [.nilFunc] := ⟨by kernel_rfl⟩
instance tby528 : TyBy Tryz.prog 528 8 := ⟨by kernel_rfl⟩
instance ty529 : Ty Tryz.prog 529 1 false := ⟨by kernel_rfl, by kernel_rfl⟩
instance tz529 : TyZ Tryz.prog 529 [.nilFunc] := ⟨by kernel_rfl⟩
instance tby529 : TyBy Tryz.prog 529 8 := ⟨by kernel_rfl⟩
instance ty530 : Ty Tryz.prog 530 1 false := ⟨by kernel_rfl, by kernel_rfl⟩
instance tz530 : TyZ Tryz.prog 530 [.nilFunc] := ⟨by kernel_rfl⟩
instance tby530 : TyBy Tryz.prog 530 8 := ⟨by kernel_rfl⟩
instance ty531 : Ty Tryz.prog 531 1 false := ⟨by kernel_rfl, by kernel_rfl⟩
instance tz531 : TyZ Tryz.prog 531 [.pointer none] := ⟨by kernel_rfl⟩
instance tby531 : TyBy Tryz.prog 531 8 := ⟨by kernel_rfl⟩
instance tpt531 : TyPtr Tryz.prog 531 318 := ⟨by kernel_rfl⟩
instance ty532 : Ty Tryz.prog 532 1 false := ⟨by kernel_rfl, by kernel_rfl⟩
instance tz532 : TyZ Tryz.prog 532 [.nilFunc] := ⟨by kernel_rfl⟩
instance tby532 : TyBy Tryz.prog 532 8 := ⟨by kernel_rfl⟩
instance ty533 : Ty Tryz.prog 533 1 false := ⟨by kernel_rfl, by kernel_rfl⟩
instance tz533 : TyZ Tryz.prog 533 [.nilFunc] := ⟨by kernel_rfl⟩
instance tby533 : TyBy Tryz.prog 533 8 := ⟨by kernel_rfl⟩
instance ty534 : Ty Tryz.prog 534 1 false := ⟨by kernel_rfl, by kernel_rfl⟩
instance tz534 : TyZ Tryz.prog 534 [.nilFunc] := ⟨by kernel_rfl⟩
instance tby534 : TyBy Tryz.prog 534 8 := ⟨by kernel_rfl⟩
instance ty535 : Ty Tryz.prog 535 1 false := ⟨by kernel_rfl, by kernel_rfl⟩
instance tz535 : TyZ Tryz.prog 535 [.nilFunc] := ⟨by kernel_rfl⟩
instance tby535 : TyBy Tryz.prog 535 8 := ⟨by kernel_rfl⟩
instance ty536 : Ty Tryz.prog 536 1 false := ⟨by kernel_rfl, by kernel_rfl⟩
instance tz536 : TyZ Tryz.prog 536 [.nilFunc] := ⟨by kernel_rfl⟩
instance tby536 : TyBy Tryz.prog 536 8 := ⟨by kernel_rfl⟩
instance ty537 : Ty Tryz.prog 537 1 false := ⟨by kernel_rfl, by kernel_rfl⟩
instance tz537 : TyZ Tryz.prog 537 [.nilFunc] := ⟨by kernel_rfl⟩
instance tby537 : TyBy Tryz.prog 537 8 := ⟨by kernel_rfl⟩
instance ty538 : Ty Tryz.prog 538 1 false := ⟨by kernel_rfl, by kernel_rfl⟩
instance tz538 : TyZ Tryz.prog 538 [.nilFunc] := ⟨by kernel_rfl⟩
instance tby538 : TyBy Tryz.prog 538 8 := ⟨by kernel_rfl⟩
instance ty539 : Ty Tryz.prog 539 1 false := ⟨by kernel_rfl, by kernel_rfl⟩
instance tz539 : TyZ Tryz.prog 539 [.nilFunc] := ⟨by kernel_rfl⟩
instance tby539 : TyBy Tryz.prog 539 8 := ⟨by kernel_rfl⟩
instance ty540 : Ty Tryz.prog 540 1 false := ⟨by kernel_rfl, by kernel_rfl⟩
instance tz540 : TyZ Tryz.prog 540 [.nilFunc] := ⟨by kernel_rfl⟩
instance tby540 : TyBy Tryz.prog 540 8 := ⟨by kernel_rfl⟩
instance ty541 : Ty Tryz.prog 541 1 false := ⟨by kernel_rfl, by kernel_rfl⟩
instance tz541 : TyZ Tryz.prog 541 [.nilFunc] := ⟨by kernel_rfl⟩
instance tby541 : TyBy Tryz.prog 541 8 := ⟨by kernel_rfl⟩
instance ty542 : Ty Tryz.prog 542 1 false := ⟨by kernel_rfl, by kernel_rfl⟩
instance tz542 : TyZ Tryz.prog 542 [.nilFunc] := ⟨by kernel_rfl⟩
instance tby542 : TyBy Tryz.prog 542 8 := ⟨by kernel_rfl⟩
instance ty543 : Ty Tryz.prog 543 1 false := ⟨by kernel_rfl, by kernel_rfl⟩
instance tz543 : TyZ Tryz.prog 543 [.nilFunc] := ⟨by kernel_rfl⟩
instance tby543 : TyBy Tryz.prog 543 8 := ⟨by kernel_rfl⟩
instance ty544 : Ty Tryz.prog 544 1 false := ⟨by kernel_rfl, by kernel_rfl⟩
instance tz544 : TyZ Tryz.prog 544 [.nilFunc] := ⟨by kernel_rfl⟩
instance tby544 : TyBy Tryz.prog 544 8 := ⟨by kernel_rfl⟩
instance ty545 : Ty Tryz.prog 545 1 false := ⟨by kernel_rfl, by kernel_rfl⟩
instance tz545 : TyZ Tryz.prog 545 [.nilFunc] := ⟨by kernel_rfl⟩
instance tby545 : TyBy Tryz.prog 545 8 := ⟨by kernel_rfl⟩
instance ty546 : Ty Tryz.prog 546 1 false := ⟨by kernel_rfl, by kernel_rfl⟩
instance tz546 : TyZ Tryz.prog 546 [.pointer none] := ⟨by kernel_rfl⟩
instance tby546 : TyBy Tryz.prog 546 8 := ⟨by kernel_rfl⟩
instance tpt546 : TyPtr Tryz.prog 546 323 := ⟨by kernel_rfl⟩
instance ty547 : Ty Tryz.prog 547 1 false := ⟨by kernel_rfl, by kernel_rfl⟩
instance tz547 : TyZ Tryz.prog 547 [.nilFunc] := ⟨by kernel_rfl⟩
instance tby547 : TyBy Tryz.prog 547 8 := ⟨by kernel_rfl⟩
instance ty549 : Ty Tryz.prog 549 1 false := ⟨by kernel_rfl, by kernel_rfl⟩
instance tz549 : TyZ Tryz.prog 549 [.nilFunc] := ⟨by kernel_rfl⟩
instance tby549 : TyBy Tryz.prog 549 8 := ⟨by kernel_rfl⟩
instance ty550 : Ty Tryz.prog 550 1 false := ⟨by kernel_rfl, by kernel_rfl⟩
instance tz550 : TyZ Tryz.prog 550 [.nilFunc] := ⟨by kernel_rfl⟩
instance tby550 : TyBy Tryz.prog 550 8 := ⟨by kernel_rfl⟩
instance ty551 : Ty Tryz.prog 551 1 false := ⟨by kernel_rfl, by kernel_rfl⟩
instance tz551 : TyZ Tryz.prog 551 [.nilFunc] := ⟨by kernel_rfl⟩
instance tby551 : TyBy Tryz.prog 551 8 := ⟨by kernel_rfl⟩
instance ty552 : Ty Tryz.prog 552 24 true := ⟨by kernel_rfl, by kernel_rfl⟩
instance tz552 : TyZ Tryz.prog 552 [.int .u8 0, .int .u8 0, .int .u8 0, .int .u8 0, .int .u8 0, .int .u8 0, .int .u8 0, .int .u8 0, .int .u8 0, .int .u8 0, .int .u8 0, .int .u8 0, .int .u8 0, .int .u8 0, .int .u8 0, .int .u8 0, .int .u8 0, .int .u8 0, .int .u8 0, .int .u8 0, .int .u8 0, .int .u8 0, .int .u8 0, .int .u8 0] := ⟨by kernel_rfl⟩
instance tby552 : TyBy Tryz.prog 552 24 := ⟨by kernel_rfl⟩
instance tar552 : TyArr Tryz.prog 552 24 5 1 := ⟨by kernel_rfl, by kernel_rfl⟩
instance teb552 : TyEqB Tryz.prog 552 24 5 := ⟨by kernel_rfl, by kernel_rfl, by kernel_rfl, by kernel_rfl⟩
instance ty553 : Ty Tryz.prog 553 1 false := ⟨by kernel_rfl, by kernel_rfl⟩
instance tz553 : TyZ Tryz.prog 553 [.int .u64 0] := ⟨by kernel_rfl⟩
instance tby553 : TyBy Tryz.prog 553 8 := ⟨by kernel_rfl⟩
instance tin553 : TyInt Tryz.prog 553 .u64 := ⟨by kernel_rfl⟩
instance ty554 : Ty Tryz.prog 554 1 false := ⟨by kernel_rfl, by kernel_rfl⟩
instance tz554 : TyZ Tryz.prog 554 [.nilFunc] := ⟨by kernel_rfl⟩
instance tby554 : TyBy Tryz.prog 554 8 := ⟨by kernel_rfl⟩
instance ty555 : Ty Tryz.prog 555 1 false := ⟨by kernel_rfl, by kernel_rfl⟩
instance tz555 : TyZ Tryz.prog 555 [.nilFunc] := ⟨by kernel_rfl⟩
instance tby555 : TyBy Tryz.prog 555 8 := ⟨by kernel_rfl⟩
instance ty557 : Ty Tryz.prog 557 1 false := ⟨by kernel_rfl, by kernel_rfl⟩
instance tz557 : TyZ Tryz.prog 557 [.nilFunc] := ⟨by kernel_rfl⟩
instance tby557 : TyBy Tryz.prog 557 8 := ⟨by kernel_rfl⟩
instance ty558 : Ty Tryz.prog 558 1 false := ⟨by kernel_rfl, by kernel_rfl⟩
instance tz558 : TyZ Tryz.prog 558 [.nilFunc] := ⟨by kernel_rfl⟩
instance tby558 : TyBy Tryz.prog 558 8 := ⟨by kernel_rfl⟩
instance ty559 : Ty Tryz.prog 559 1 false := ⟨by kernel_rfl, by kernel_rfl⟩
instance tz559 : TyZ Tryz.prog 559 [.int .i64 0] := ⟨by kernel_rfl⟩
instance tby559 : TyBy Tryz.prog 559 8 := ⟨by kernel_rfl⟩
instance tin559 : TyInt Tryz.prog 559 .i64 := ⟨by kernel_rfl⟩
instance ty561 : Ty Tryz.prog 561 1 false := ⟨by kernel_rfl, by kernel_rfl⟩
instance tz561 : TyZ Tryz.prog 561 [.nilFunc] := ⟨by kernel_rfl⟩
instance tby561 : TyBy Tryz.prog 561 8 := ⟨by kernel_rfl⟩
instance ty562 : Ty Tryz.prog 562 1 false := ⟨by kernel_rfl, by kernel_rfl⟩
instance tz562 : TyZ Tryz.prog 562 [.nilFunc] := ⟨by kernel_rfl⟩
instance tby562 : TyBy Tryz.prog 562 8 := ⟨by kernel_rfl⟩
instance ty563 : Ty Tryz.prog 563 1 false := ⟨by kernel_rfl, by kernel_rfl⟩
instance tz563 : TyZ Tryz.prog 563 [.nilFunc] := ⟨by kernel_rfl⟩
instance tby563 : TyBy Tryz.prog 563 8 := ⟨by kernel_rfl⟩
instance ty564 : Ty Tryz.prog 564 1 false := ⟨by kernel_rfl, by kernel_rfl⟩
instance tz564 : TyZ Tryz.prog 564 [.nilFunc] := ⟨by kernel_rfl⟩
instance tby564 : TyBy Tryz.prog 564 8 := ⟨by kernel_rfl⟩
instance ty565 : Ty Tryz.prog 565 1 false := ⟨by kernel_rfl, by kernel_rfl⟩
instance tz565 : TyZ Tryz.prog 565 [.nilFunc] := ⟨by kernel_rfl⟩
instance tby565 : TyBy Tryz.prog 565 8 := ⟨by kernel_rfl⟩
instance ty566 : Ty Tryz.prog 566 1 false := ⟨by kernel_rfl, by kernel_rfl⟩
instance tz566 : TyZ Tryz.prog 566 [.int .u32 0] := ⟨by kernel_rfl⟩
instance tby566 : TyBy Tryz.prog 566 4 := ⟨by kernel_rfl⟩
instance tin566 : TyInt Tryz.prog 566 .u32 := ⟨by kernel_rfl⟩
instance ty567 : Ty Tryz.prog 567 1 false := ⟨by kernel_rfl, by kernel_rfl⟩
instance tz567 : TyZ Tryz.prog 567 [.nilFunc] := ⟨by kernel_rfl⟩
instance tby567 : TyBy Tryz.prog 567 8 := ⟨by kernel_rfl⟩
instance ty568 : Ty Tryz.prog 568 1 false := ⟨by kernel_rfl, by kernel_rfl⟩
instance tz568 : TyZ Tryz.prog 568 [.nilFunc] := ⟨by kernel_rfl⟩
instance tby568 : TyBy Tryz.prog 568 8 := ⟨by kernel_rfl⟩
instance ty569 : Ty Tryz.prog 569 1 false := ⟨by kernel_rfl, by kernel_rfl⟩
instance tz569 : TyZ Tryz.prog 569 [.pointer none] := ⟨by kernel_rfl⟩
instance tby569 : TyBy Tryz.prog 569 8 := ⟨by kernel_rfl⟩
instance tpt569 : TyPtr Tryz.prog 569 5 := ⟨by kernel_rfl⟩
instance ty570 : Ty Tryz.prog 570 1 false := ⟨by kernel_rfl, by kernel_rfl⟩
instance tz570 : TyZ Tryz.prog 570 [.nilFunc] := ⟨by kernel_rfl⟩
instance tby570 : TyBy Tryz.prog 570 8 := ⟨by kernel_rfl⟩
instance ty571 : Ty Tryz.prog 571 1 false := ⟨by kernel_rfl, by kernel_rfl⟩
instance tz571 : TyZ Tryz.prog 571 [.nilFunc] := ⟨by kernel_rfl⟩
instance tby571 : TyBy Tryz.prog 571 8 := ⟨by kernel_rfl⟩
instance ty572 : Ty Tryz.prog 572 1 false := ⟨by kernel_rfl, by kernel_rfl⟩
instance tz572 : TyZ Tryz.prog 572 [.nilFunc] := ⟨by kernel_rfl⟩
instance tby572 : TyBy Tryz.prog 572 8 := ⟨by kernel_rfl⟩
instance ty573 : Ty Tryz.prog 573 1 false := ⟨by kernel_rfl, by kernel_rfl⟩
instance tz573 : TyZ Tryz.prog 573 [.nilFunc] := ⟨by kernel_rfl⟩
instance tby573 : TyBy Tryz.prog 573 8 := ⟨by kernel_rfl⟩
instance ty574 : Ty Tryz.prog 574 1 false := ⟨by kernel_rfl, by kernel_rfl⟩
instance tz574 : TyZ Tryz.prog 574 [.nilFunc] := ⟨by kernel_rfl⟩
instance tby574 : TyBy Tryz.prog 574 8 := ⟨by kernel_rfl⟩
instance ty575 : Ty Tryz.prog 575 1 false := ⟨by kernel_rfl, by kernel_rfl⟩
instance tz575 : TyZ Tryz.prog 575 [.nilFunc] := ⟨by kernel_rfl⟩
instance tby575 : TyBy Tryz.prog 575 8 := ⟨by kernel_rfl⟩
instance ty576 : Ty Tryz.prog 576 1 false := ⟨by kernel_rfl, by kernel_rfl⟩
instance tz576 : TyZ Tryz.prog 576 [.nilFunc] := ⟨by kernel_rfl⟩
instance tby576 : TyBy Tryz.prog 576 8 := ⟨by kernel_rfl⟩
instance ty577 : Ty Tryz.prog 577 1 false := ⟨by kernel_rfl, by kernel_rfl⟩
instance tz577 : TyZ Tryz.prog 577 [.nilFunc] := ⟨by kernel_rfl⟩
instance tby577 : TyBy Tryz.prog 577 8 := ⟨by kernel_rfl⟩
instance ty578 : Ty Tryz.prog 578 1 false := ⟨by kernel_rfl, by kernel_rfl⟩
instance tz578 : TyZ Tryz.prog 578 [.nilFunc] := ⟨by kernel_rfl⟩
instance tby578 : TyBy Tryz.prog 578 8 := ⟨by kernel_rfl⟩
instance ty579 : Ty Tryz.prog 579 1 false := ⟨by kernel_rfl, by kernel_rfl⟩
instance tz579 : TyZ Tryz.prog 579 [.nilFunc] := ⟨by kernel_rfl⟩
instance tby579 : TyBy Tryz.prog 579 8 := ⟨by kernel_rfl⟩
instance ty580 : Ty Tryz.prog 580 1 false := ⟨by kernel_rfl, by kernel_rfl⟩
instance tz580 : TyZ Tryz.prog 580 [.nilFunc] := ⟨by kernel_rfl⟩
instance tby580 : TyBy Tryz.prog 580 8 := ⟨by kernel_rfl⟩
instance ty581 : Ty Tryz.prog 581 1 false := ⟨by kernel_rfl, by kernel_rfl⟩
instance tz581 : TyZ Tryz.prog 581 [.nilFunc] := ⟨by kernel_rfl⟩
instance tby581 : TyBy Tryz.prog 581 8 := ⟨by kernel_rfl⟩
instance ty582 : Ty Tryz.prog 582 1 false := ⟨by kernel_rfl, by kernel_rfl⟩
instance tz582 : TyZ Tryz.prog 582 [.nilFunc] := ⟨by kernel_rfl⟩
instance tby582 : TyBy Tryz.prog 582 8 := ⟨by kernel_rfl⟩
instance ty583 : Ty Tryz.prog 583 1 false := ⟨by kernel_rfl, by kernel_rfl⟩
instance tz583 : TyZ Tryz.prog 583 [.nilFunc] := ⟨by kernel_rfl⟩
instance tby583 : TyBy Tryz.prog 583 8 := ⟨by kernel_rfl⟩
instance ty584 : Ty Tryz.prog 584 1 false := ⟨by kernel_rfl, by kernel_rfl⟩
instance tz584 : TyZ Tryz.prog 584 [.nilFunc] := ⟨by kernel_rfl⟩
instance tby584 : TyBy Tryz.prog 584 8 := ⟨by kernel_rfl⟩
instance ty585 : Ty Tryz.prog 585 1 false := ⟨by kernel_rfl, by kernel_rfl⟩
instance tz585 : TyZ Tryz.prog 585 [.nilFunc] := ⟨by kernel_rfl⟩
instance tby585 : TyBy Tryz.prog 585 8 := ⟨by kernel_rfl⟩
instance ty586 : Ty Tryz.prog 586 1 false := ⟨by kernel_rfl, by kernel_rfl⟩
instance tz586 : TyZ Tryz.prog 586 [.nilFunc] := ⟨by kernel_rfl⟩
instance tby586 : TyBy Tryz.prog 586 8 := ⟨by kernel_rfl⟩
instance ty587 : Ty Tryz.prog 587 1 false := ⟨by kernel_rfl, by kernel_rfl⟩
instance tz587 : TyZ Tryz.prog 587 [.nilFunc] := ⟨by kernel_rfl⟩
end Go.Proofs.YtcpfmjlceoiofaaGreatDoor
