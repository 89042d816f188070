/-
  facts on types and functions, written by a program (gen_ty.py) off the translation
-/
import Derived.Test.YtcpfmjlceoiofaaGreatDoorL03
import Derived.Test.YtcpfmjlceoiofaaGreatDoorProg
import Derived.KernelRfl
import Derived.Shelf.Abstract
set_option linter.unusedSimpArgs false
set_option linter.unusedVariables false
set_option linter.unusedSectionVars false
namespace Go.Proofs.YtcpfmjlceoiofaaGreatDoor
open Go.RowKit Go.Shelf
instance tby587 : TyBy Tryz.prog 587 8 := ⟨by kernel_rfl⟩
instance ty588 : Ty Tryz.prog 588 1 false := ⟨by kernel_rfl, by kernel_rfl⟩
instance tz588 : TyZ Tryz.prog 588 [.nilFunc] := ⟨by kernel_rfl⟩
instance tby588 : TyBy Tryz.prog 588 8 := ⟨by kernel_rfl⟩
instance ty589 : Ty Tryz.prog 589 1 false := ⟨by kernel_rfl, by kernel_rfl⟩
instance tz589 : TyZ Tryz.prog 589 [.nilFunc] := ⟨by kernel_rfl⟩
instance tby589 : TyBy Tryz.prog 589 8 := ⟨by kernel_rfl⟩
instance ty590 : Ty Tryz.prog 590 1 false := ⟨by kernel_rfl, by kernel_rfl⟩
instance tz590 : TyZ Tryz.prog 590 [.nilFunc] := ⟨by kernel_rfl⟩
instance tby590 : TyBy Tryz.prog 590 8 := ⟨by kernel_rfl⟩
instance ty591 : Ty Tryz.prog 591 1 false := ⟨by kernel_rfl, by kernel_rfl⟩
instance tz591 : TyZ Tryz.prog 591 [.nilFunc] := ⟨by kernel_rfl⟩
instance tby591 : TyBy Tryz.prog 591 8 := ⟨by kernel_rfl⟩
instance ty592 : Ty Tryz.prog 592 1 false := ⟨by kernel_rfl, by kernel_rfl⟩
instance tz592 : TyZ Tryz.prog 592 [.nilFunc] := ⟨by kernel_rfl⟩
instance tby592 : TyBy Tryz.prog 592 8 := ⟨by kernel_rfl⟩
instance ty593 : Ty Tryz.prog 593 1 false := ⟨by kernel_rfl, by kernel_rfl⟩
instance tz593 : TyZ Tryz.prog 593 [.nilFunc] := ⟨by kernel_rfl⟩
instance tby593 : TyBy Tryz.prog 593 8 := ⟨by kernel_rfl⟩
instance ty594 : Ty Tryz.prog 594 1 false := ⟨by kernel_rfl, by kernel_rfl⟩
instance tz594 : TyZ Tryz.prog 594 [.nilFunc] := ⟨by kernel_rfl⟩
instance tby594 : TyBy Tryz.prog 594 8 := ⟨by kernel_rfl⟩
instance ty595 : Ty Tryz.prog 595 1 false := ⟨by kernel_rfl, by kernel_rfl⟩
instance tz595 : TyZ Tryz.prog 595 [.nilFunc] := ⟨by kernel_rfl⟩
instance tby595 : TyBy Tryz.prog 595 8 := ⟨by kernel_rfl⟩
instance ty596 : Ty Tryz.prog 596 1 false := ⟨by kernel_rfl, by kernel_rfl⟩
instance tz596 : TyZ Tryz.prog 596 [.nilFunc] := ⟨by kernel_rfl⟩
instance tby596 : TyBy Tryz.prog 596 8 := ⟨by kernel_rfl⟩
instance ty597 : Ty Tryz.prog 597 1 false := ⟨by kernel_rfl, by kernel_rfl⟩
instance tz597 : TyZ Tryz.prog 597 [.nilFunc] := ⟨by kernel_rfl⟩
instance tby597 : TyBy Tryz.prog 597 8 := ⟨by kernel_rfl⟩
instance ty598 : Ty Tryz.prog 598 1 false := ⟨by kernel_rfl, by kernel_rfl⟩
instance tz598 : TyZ Tryz.prog 598 [.nilFunc] := ⟨by kernel_rfl⟩
instance tby598 : TyBy Tryz.prog 598 8 := ⟨by kernel_rfl⟩
instance ty599 : Ty Tryz.prog 599 1 false := ⟨by kernel_rfl, by kernel_rfl⟩
instance tz599 : TyZ Tryz.prog 599 [.nilFunc] := ⟨by kernel_rfl⟩
instance tby599 : TyBy Tryz.prog 599 8 := ⟨by kernel_rfl⟩
instance ty600 : Ty Tryz.prog 600 20 true := ⟨by kernel_rfl, by kernel_rfl⟩
instance tz600 : TyZ Tryz.prog 600 [.int .u64 0, .int .u64 0, .int .u64 0, .int .u64 0, .int .u64 0, .int .u64 0, .int .u64 0, .int .u64 0, .int .u64 0, .int .u64 0, .int .u64 0, .int .u64 0, .int .u64 0, .int .u64 0, .int .u64 0, .int .u64 0, .int .u64 0, .int .u64 0, .int .u64 0, .int .u64 0] := ⟨by kernel_rfl⟩
instance tby600 : TyBy Tryz.prog 600 160 := ⟨by kernel_rfl⟩
instance tar600 : TyArr Tryz.prog 600 20 553 1 := ⟨by kernel_rfl, by kernel_rfl⟩
instance ty601 : Ty Tryz.prog 601 65 true := ⟨by kernel_rfl, by kernel_rfl⟩
instance tz601 : TyZ Tryz.prog 601 [.int .u8 0, .int .u8 0, .int .u8 0, .int .u8 0, .int .u8 0, .int .u8 0, .int .u8 0, .int .u8 0, .int .u8 0, .int .u8 0, .int .u8 0, .int .u8 0, .int .u8 0, .int .u8 0, .int .u8 0, .int .u8 0, .int .u8 0, .int .u8 0, .int .u8 0, .int .u8 0, .int .u8 0, .int .u8 0, .int .u8 0, .int .u8 0, .int .u8 0, .int .u8 0, .int .u8 0, .int .u8 0, .int .u8 0, .int .u8 0, .int .u8 0, .int .u8 0, .int .u8 0, .int .u8 0, .int .u8 0, .int .u8 0, .int .u8 0, .int .u8 0, .int .u8 0, .int .u8 0, .int .u8 0, .int .u8 0, .int .u8 0, .int .u8 0, .int .u8 0, .int .u8 0, .int .u8 0, .int .u8 0, .int .u8 0, .int .u8 0, .int .u8 0, .int .u8 0, .int .u8 0, .int .u8 0, .int .u8 0, .int .u8 0, .int .u8 0, .int .u8 0, .int .u8 0, .int .u8 0, .int .u8 0, .int .u8 0, .int .u8 0, .int .u8 0, .int .u8 0] := ⟨by kernel_rfl⟩
instance tby601 : TyBy Tryz.prog 601 65 := ⟨by kernel_rfl⟩
instance tar601 : TyArr Tryz.prog 601 65 5 1 := ⟨by kernel_rfl, by kernel_rfl⟩
instance teb601 : TyEqB Tryz.prog 601 65 5 := ⟨by kernel_rfl, by kernel_rfl, by kernel_rfl, by kernel_rfl⟩
instance ty602 : Ty Tryz.prog 602 1 false := ⟨by kernel_rfl, by kernel_rfl⟩
instance tz602 : TyZ Tryz.prog 602 [.int .u64 0] := ⟨by kernel_rfl⟩
instance tby602 : TyBy Tryz.prog 602 8 := ⟨by kernel_rfl⟩
instance tin602 : TyInt Tryz.prog 602 .u64 := ⟨by kernel_rfl⟩
instance ty603 : Ty Tryz.prog 603 1 false := ⟨by kernel_rfl, by kernel_rfl⟩
instance tz603 : TyZ Tryz.prog 603 [.nilFunc] := ⟨by kernel_rfl⟩
instance tby603 : TyBy Tryz.prog 603 8 := ⟨by kernel_rfl⟩
instance ty604 : Ty Tryz.prog 604 1 false := ⟨by kernel_rfl, by kernel_rfl⟩
instance tz604 : TyZ Tryz.prog 604 [.nilFunc] := ⟨by kernel_rfl⟩
instance tby604 : TyBy Tryz.prog 604 8 := ⟨by kernel_rfl⟩
instance ty605 : Ty Tryz.prog 605 1 false := ⟨by kernel_rfl, by kernel_rfl⟩
instance tz605 : TyZ Tryz.prog 605 [.nilFunc] := ⟨by kernel_rfl⟩
instance tby605 : TyBy Tryz.prog 605 8 := ⟨by kernel_rfl⟩
instance ty606 : Ty Tryz.prog 606 1 false := ⟨by kernel_rfl, by kernel_rfl⟩
instance tz606 : TyZ Tryz.prog 606 [.pointer none] := ⟨by kernel_rfl⟩
instance tby606 : TyBy Tryz.prog 606 8 := ⟨by kernel_rfl⟩
instance tpt606 : TyPtr Tryz.prog 606 3 := ⟨by kernel_rfl⟩
instance ty607 : Ty Tryz.prog 607 1 false := ⟨by kernel_rfl, by kernel_rfl⟩
instance tz607 : TyZ Tryz.prog 607 [.nilFunc] := ⟨by kernel_rfl⟩
instance tby607 : TyBy Tryz.prog 607 8 := ⟨by kernel_rfl⟩
instance ty608 : Ty Tryz.prog 608 1 false := ⟨by kernel_rfl, by kernel_rfl⟩
instance tz608 : TyZ Tryz.prog 608 [.nilFunc] := ⟨by kernel_rfl⟩
instance tby608 : TyBy Tryz.prog 608 8 := ⟨by kernel_rfl⟩
instance ty609 : Ty Tryz.prog 609 1 false := ⟨by kernel_rfl, by kernel_rfl⟩
instance tz609 : TyZ Tryz.prog 609 [.nilFunc] := ⟨by kernel_rfl⟩
instance tby609 : TyBy Tryz.prog 609 8 := ⟨by kernel_rfl⟩
instance ty610 : Ty Tryz.prog 610 1 false := ⟨by kernel_rfl, by kernel_rfl⟩
instance tz610 : TyZ Tryz.prog 610 [.nilIface] := ⟨by kernel_rfl⟩
instance tby610 : TyBy Tryz.prog 610 16 := ⟨by kernel_rfl⟩
instance ty612 : Ty Tryz.prog 612 1 false := ⟨by kernel_rfl, by kernel_rfl⟩
instance tz612 : TyZ Tryz.prog 612 [.nilFunc] := ⟨by kernel_rfl⟩
instance tby612 : TyBy Tryz.prog 612 8 := ⟨by kernel_rfl⟩
instance ty613 : Ty Tryz.prog 613 1 false := ⟨by kernel_rfl, by kernel_rfl⟩
instance tz613 : TyZ Tryz.prog 613 [.nilFunc] := ⟨by kernel_rfl⟩
instance tby613 : TyBy Tryz.prog 613 8 := ⟨by kernel_rfl⟩
instance ty614 : Ty Tryz.prog 614 1 false := ⟨by kernel_rfl, by kernel_rfl⟩
instance tz614 : TyZ Tryz.prog 614 [.nilFunc] := ⟨by kernel_rfl⟩
instance tby614 : TyBy Tryz.prog 614 8 := ⟨by kernel_rfl⟩
instance ty615 : Ty Tryz.prog 615 1 false := ⟨by kernel_rfl, by kernel_rfl⟩
instance tz615 : TyZ Tryz.prog 615 [.nilFunc] := ⟨by kernel_rfl⟩
instance tby615 : TyBy Tryz.prog 615 8 := ⟨by kernel_rfl⟩
instance ty616 : Ty Tryz.prog 616 1 false := ⟨by kernel_rfl, by kernel_rfl⟩
instance tz616 : TyZ Tryz.prog 616 [.nilFunc] := ⟨by kernel_rfl⟩
instance tby616 : TyBy Tryz.prog 616 8 := ⟨by kernel_rfl⟩
instance ty617 : Ty Tryz.prog 617 1 false := ⟨by kernel_rfl, by kernel_rfl⟩
instance tz617 : TyZ Tryz.prog 617 [.nilFunc] := ⟨by kernel_rfl⟩
instance tby617 : TyBy Tryz.prog 617 8 := ⟨by kernel_rfl⟩
instance ty618 : Ty Tryz.prog 618 1 false := ⟨by kernel_rfl, by kernel_rfl⟩
instance tz618 : TyZ Tryz.prog 618 [.pointer none] := ⟨by kernel_rfl⟩
instance tby618 : TyBy Tryz.prog 618 8 := ⟨by kernel_rfl⟩
instance tpt618 : TyPtr Tryz.prog 618 602 := ⟨by kernel_rfl⟩
instance ty620 : Ty Tryz.prog 620 1 false := ⟨by kernel_rfl, by kernel_rfl⟩
instance tz620 : TyZ Tryz.prog 620 [.nilFunc] := ⟨by kernel_rfl⟩
instance tby620 : TyBy Tryz.prog 620 8 := ⟨by kernel_rfl⟩
instance ty621 : Ty Tryz.prog 621 1 false := ⟨by kernel_rfl, by kernel_rfl⟩
instance tz621 : TyZ Tryz.prog 621 [.nilFunc] := ⟨by kernel_rfl⟩
instance tby621 : TyBy Tryz.prog 621 8 := ⟨by kernel_rfl⟩
instance ty622 : Ty Tryz.prog 622 1 false := ⟨by kernel_rfl, by kernel_rfl⟩
instance tz622 : TyZ Tryz.prog 622 [.nilFunc] := ⟨by kernel_rfl⟩
instance tby622 : TyBy Tryz.prog 622 8 := ⟨by kernel_rfl⟩
instance ty623 : Ty Tryz.prog 623 1 false := ⟨by kernel_rfl, by kernel_rfl⟩
instance tz623 : TyZ Tryz.prog 623 [.nilFunc] := ⟨by kernel_rfl⟩
instance tby623 : TyBy Tryz.prog 623 8 := ⟨by kernel_rfl⟩
instance ty624 : Ty Tryz.prog 624 32 true := ⟨by kernel_rfl, by kernel_rfl⟩
instance tz624 : TyZ Tryz.prog 624 [.int .u8 0, .int .u8 0, .int .u8 0, .int .u8 0, .int .u8 0, .int .u8 0, .int .u8 0, .int .u8 0, .int .u8 0, .int .u8 0, .int .u8 0, .int .u8 0, .int .u8 0, .int .u8 0, .int .u8 0, .int .u8 0, .int .u8 0, .int .u8 0, .int .u8 0, .int .u8 0, .int .u8 0, .int .u8 0, .int .u8 0, .int .u8 0, .int .u8 0, .int .u8 0, .int .u8 0, .int .u8 0, .int .u8 0, .int .u8 0, .int .u8 0, .int .u8 0] := ⟨by kernel_rfl⟩
instance tby624 : TyBy Tryz.prog 624 32 := ⟨by kernel_rfl⟩
instance tar624 : TyArr Tryz.prog 624 32 5 1 := ⟨by kernel_rfl, by kernel_rfl⟩
instance teb624 : TyEqB Tryz.prog 624 32 5 := ⟨by kernel_rfl, by kernel_rfl, by kernel_rfl, by kernel_rfl⟩
instance ty625 : Ty Tryz.prog 625 1 false := ⟨by kernel_rfl, by kernel_rfl⟩
instance tz625 : TyZ Tryz.prog 625 [.nilFunc] := ⟨by kernel_rfl⟩
instance tby625 : TyBy Tryz.prog 625 8 := ⟨by kernel_rfl⟩
instance ty626 : Ty Tryz.prog 626 1 false := ⟨by kernel_rfl, by kernel_rfl⟩
instance tz626 : TyZ Tryz.prog 626 [.nilFunc] := ⟨by kernel_rfl⟩
instance tby626 : TyBy Tryz.prog 626 8 := ⟨by kernel_rfl⟩
instance ty627 : Ty Tryz.prog 627 1 false := ⟨by kernel_rfl, by kernel_rfl⟩
instance tz627 : TyZ Tryz.prog 627 [.nilFunc] := ⟨by kernel_rfl⟩
instance tby627 : TyBy Tryz.prog 627 8 := ⟨by kernel_rfl⟩
instance ty628 : Ty Tryz.prog 628 1 false := ⟨by kernel_rfl, by kernel_rfl⟩
instance tz628 : TyZ Tryz.prog 628 [.nilFunc] := ⟨by kernel_rfl⟩
instance tby628 : TyBy Tryz.prog 628 8 := ⟨by kernel_rfl⟩
instance ty629 : Ty Tryz.prog 629 1 false := ⟨by kernel_rfl, by kernel_rfl⟩
instance tz629 : TyZ Tryz.prog 629 [.nilFunc] := ⟨by kernel_rfl⟩
instance tby629 : TyBy Tryz.prog 629 8 := ⟨by kernel_rfl⟩
instance ty630 : Ty Tryz.prog 630 1 false := ⟨by kernel_rfl, by kernel_rfl⟩
instance tz630 : TyZ Tryz.prog 630 [.nilFunc] := ⟨by kernel_rfl⟩
instance tby630 : TyBy Tryz.prog 630 8 := ⟨by kernel_rfl⟩
instance ty631 : Ty Tryz.prog 631 1 false := ⟨by kernel_rfl, by kernel_rfl⟩
instance tz631 : TyZ Tryz.prog 631 [.nilFunc] := ⟨by kernel_rfl⟩
instance tby631 : TyBy Tryz.prog 631 8 := ⟨by kernel_rfl⟩
instance ty632 : Ty Tryz.prog 632 1 false := ⟨by kernel_rfl, by kernel_rfl⟩
instance tz632 : TyZ Tryz.prog 632 [.nilFunc] := ⟨by kernel_rfl⟩
instance tby632 : TyBy Tryz.prog 632 8 := ⟨by kernel_rfl⟩
instance ty633 : Ty Tryz.prog 633 1 false := ⟨by kernel_rfl, by kernel_rfl⟩
instance tz633 : TyZ Tryz.prog 633 [.pointer none] := ⟨by kernel_rfl⟩
instance tby633 : TyBy Tryz.prog 633 8 := ⟨by kernel_rfl⟩
instance tpt633 : TyPtr Tryz.prog 633 652 := ⟨by kernel_rfl⟩
instance ty634 : Ty Tryz.prog 634 4 true := ⟨by kernel_rfl, by kernel_rfl⟩
instance tz634 : TyZ Tryz.prog 634 [.pointer none, .pointer none, .pointer none, .string ⟨#[]⟩] := ⟨by kernel_rfl⟩
instance tby634 : TyBy Tryz.prog 634 40 := ⟨by kernel_rfl⟩
instance tss634 : TyS Tryz.prog 634 [(0, 1), (1, 1), (2, 1), (3, 1)] := ⟨by kernel_rfl, by kernel_rfl⟩
instance tf634_0 : TyFld Tryz.prog 634 0 0 := ⟨fun _ _ => by kernel_rfl⟩
instance tp634_0 : TyPart Tryz.prog 634 0 0 1 false := ⟨fun _ _ => by kernel_rfl⟩
instance tf634_1 : TyFld Tryz.prog 634 1 1 := ⟨fun _ _ => by kernel_rfl⟩
instance tp634_1 : TyPart Tryz.prog 634 1 1 1 false := ⟨fun _ _ => by kernel_rfl⟩
instance tf634_2 : TyFld Tryz.prog 634 2 2 := ⟨fun _ _ => by kernel_rfl⟩
instance tp634_2 : TyPart Tryz.prog 634 2 2 1 false := ⟨fun _ _ => by kernel_rfl⟩
instance tf634_3 : TyFld Tryz.prog 634 3 3 := ⟨fun _ _ => by kernel_rfl⟩
instance tp634_3 : TyPart Tryz.prog 634 3 3 1 false := ⟨fun _ _ => by kernel_rfl⟩
instance ty635 : Ty Tryz.prog 635 4 true := ⟨by kernel_rfl, by kernel_rfl⟩
instance tz635 : TyZ Tryz.prog 635 [.pointer none, .pointer none, .pointer none, .string ⟨#[]⟩] := ⟨by kernel_rfl⟩
instance tby635 : TyBy Tryz.prog 635 40 := ⟨by kernel_rfl⟩
instance tss635 : TyS Tryz.prog 635 [(0, 1), (1, 1), (2, 1), (3, 1)] := ⟨by kernel_rfl, by kernel_rfl⟩
instance tf635_0 : TyFld Tryz.prog 635 0 0 := ⟨fun _ _ => by kernel_rfl⟩
instance tp635_0 : TyPart Tryz.prog 635 0 0 1 false := ⟨fun _ _ => by kernel_rfl⟩
instance tf635_1 : TyFld Tryz.prog 635 1 1 := ⟨fun _ _ => by kernel_rfl⟩
instance tp635_1 : TyPart Tryz.prog 635 1 1 1 false := ⟨fun _ _ => by kernel_rfl⟩
instance tf635_2 : TyFld Tryz.prog 635 2 2 := ⟨fun _ _ => by kernel_rfl⟩
instance tp635_2 : TyPart Tryz.prog 635 2 2 1 false := ⟨fun _ _ => by kernel_rfl⟩
instance tf635_3 : TyFld Tryz.prog 635 3 3 := ⟨fun _ _ => by kernel_rfl⟩
instance tp635_3 : TyPart Tryz.prog 635 3 3 1 false := ⟨fun _ _ => by kernel_rfl⟩
instance ty636 : Ty Tryz.prog 636 0 true := ⟨by kernel_rfl, by kernel_rfl⟩
instance tz636 : TyZ Tryz.prog 636 [] := ⟨by kernel_rfl⟩
instance tby636 : TyBy Tryz.prog 636 0 := ⟨by kernel_rfl⟩
instance tar636 : TyArr Tryz.prog 636 0 16 1 := ⟨by kernel_rfl, by kernel_rfl⟩
instance ty637 : Ty Tryz.prog 637 0 true := ⟨by kernel_rfl, by kernel_rfl⟩
instance tz637 : TyZ Tryz.prog 637 [] := ⟨by kernel_rfl⟩
instance tby637 : TyBy Tryz.prog 637 0 := ⟨by kernel_rfl⟩
instance tss637 : TyS Tryz.prog 637 [(0, 0)] := ⟨by kernel_rfl, by kernel_rfl⟩
instance ty638 : Ty Tryz.prog 638 0 true := ⟨by kernel_rfl, by kernel_rfl⟩
instance tz638 : TyZ Tryz.prog 638 [] := ⟨by kernel_rfl⟩
instance tby638 : TyBy Tryz.prog 638 0 := ⟨by kernel_rfl⟩
instance tss638 : TyS Tryz.prog 638 [(0, 0)] := ⟨by kernel_rfl, by kernel_rfl⟩
instance ty639 : Ty Tryz.prog 639 1 false := ⟨by kernel_rfl, by kernel_rfl⟩
instance tz639 : TyZ Tryz.prog 639 [.nilFunc] := ⟨by kernel_rfl⟩
instance tby639 : TyBy Tryz.prog 639 8 := ⟨by kernel_rfl⟩
instance ty640 : Ty Tryz.prog 640 1 false := ⟨by kernel_rfl, by kernel_rfl⟩
instance tz640 : TyZ Tryz.prog 640 [.int .u8 0] := ⟨by kernel_rfl⟩
instance tby640 : TyBy Tryz.prog 640 1 := ⟨by kernel_rfl⟩
instance tin640 : TyInt Tryz.prog 640 .u8 := ⟨by kernel_rfl⟩
instance ty641 : Ty Tryz.prog 641 1 false := ⟨by kernel_rfl, by kernel_rfl⟩
instance tz641 : TyZ Tryz.prog 641 [.nilFunc] := ⟨by kernel_rfl⟩
instance tby641 : TyBy Tryz.prog 641 8 := ⟨by kernel_rfl⟩
instance ty642 : Ty Tryz.prog 642 1 false := ⟨by kernel_rfl, by kernel_rfl⟩
instance tz642 : TyZ Tryz.prog 642 [.int .i32 0] := ⟨by kernel_rfl⟩
instance tby642 : TyBy Tryz.prog 642 4 := ⟨by kernel_rfl⟩
instance tin642 : TyInt Tryz.prog 642 .i32 := ⟨by kernel_rfl⟩
instance ty643 : Ty Tryz.prog 643 1 false := ⟨by kernel_rfl, by kernel_rfl⟩
instance tz643 : TyZ Tryz.prog 643 [.int .i32 0] := ⟨by kernel_rfl⟩
instance tby643 : TyBy Tryz.prog 643 4 := ⟨by kernel_rfl⟩
instance tin643 : TyInt Tryz.prog 643 .i32 := ⟨by kernel_rfl⟩
instance ty644 : Ty Tryz.prog 644 11 true := ⟨by kernel_rfl, by kernel_rfl⟩
instance tz644 : TyZ Tryz.prog 644 [.int .u64 0, .int .u64 0, .int .u32 0, .int .u8 0, .int .u8 0, .int .u8 0, .int .u8 0, .nilFunc, .pointer none, .int .i32 0, .int .i32 0] := ⟨by kernel_rfl⟩
instance tby644 : TyBy Tryz.prog 644 48 := ⟨by kernel_rfl⟩
instance tss644 : TyS Tryz.prog 644 [(0, 1), (1, 1), (2, 1), (3, 1), (4, 1), (5, 1), (6, 1), (7, 1), (8, 1), (9, 1), (10, 1)] := ⟨by kernel_rfl, by kernel_rfl⟩
instance tf644_0 : TyFld Tryz.prog 644 0 0 := ⟨fun _ _ => by kernel_rfl⟩
instance tp644_0 : TyPart Tryz.prog 644 0 0 1 false := ⟨fun _ _ => by kernel_rfl⟩
instance tf644_1 : TyFld Tryz.prog 644 1 1 := ⟨fun _ _ => by kernel_rfl⟩
instance tp644_1 : TyPart Tryz.prog 644 1 1 1 false := ⟨fun _ _ => by kernel_rfl⟩
instance tf644_2 : TyFld Tryz.prog 644 2 2 := ⟨fun _ _ => by kernel_rfl⟩
instance tp644_2 : TyPart Tryz.prog 644 2 2 1 false := ⟨fun _ _ => by kernel_rfl⟩
instance tf644_3 : TyFld Tryz.prog 644 3 3 := ⟨fun _ _ => by kernel_rfl⟩
instance tp644_3 : TyPart Tryz.prog 644 3 3 1 false := ⟨fun _ _ => by kernel_rfl⟩
instance tf644_4 : TyFld Tryz.prog 644 4 4 := ⟨fun _ _ => by kernel_rfl⟩
instance tp644_4 : TyPart Tryz.prog 644 4 4 1 false := ⟨fun _ _ => by kernel_rfl⟩
instance tf644_5 : TyFld Tryz.prog 644 5 5 := ⟨fun _ _ => by kernel_rfl⟩
instance tp644_5 : TyPart Tryz.prog 644 5 5 1 false := ⟨fun _ _ => by kernel_rfl⟩
instance tf644_6 : TyFld Tryz.prog 644 6 6 := ⟨fun _ _ => by kernel_rfl⟩
instance tp644_6 : TyPart Tryz.prog 644 6 6 1 false := ⟨fun _ _ => by kernel_rfl⟩
instance tf644_7 : TyFld Tryz.prog 644 7 7 := ⟨fun _ _ => by kernel_rfl⟩
instance tp644_7 : TyPart Tryz.prog 644 7 7 1 false := ⟨fun _ _ => by kernel_rfl⟩
instance tf644_8 : TyFld Tryz.prog 644 8 8 := ⟨fun _ _ => by kernel_rfl⟩
instance tp644_8 : TyPart Tryz.prog 644 8 8 1 false := ⟨fun _ _ => by kernel_rfl⟩
instance tf644_9 : TyFld Tryz.prog 644 9 9 := ⟨fun _ _ => by kernel_rfl⟩
instance tp644_9 : TyPart Tryz.prog 644 9 9 1 false := ⟨fun _ _ => by kernel_rfl⟩
instance tf644_10 : TyFld Tryz.prog 644 10 10 := ⟨fun _ _ => by kernel_rfl⟩
instance tp644_10 : TyPart Tryz.prog 644 10 10 1 false := ⟨fun _ _ => by kernel_rfl⟩
instance ty645 : Ty Tryz.prog 645 11 true := ⟨by kernel_rfl, by kernel_rfl⟩
instance tz645 : TyZ Tryz.prog 645 [.int .u64 0, .int .u64 0, .int .u32 0, .int .u8 0, .int .u8 0, .int .u8 0, .int .u8 0, .nilFunc, .pointer none, .int .i32 0, .int .i32 0] := ⟨by kernel_rfl⟩
instance tby645 : TyBy Tryz.prog 645 48 := ⟨by kernel_rfl⟩
instance tss645 : TyS Tryz.prog 645 [(0, 1), (1, 1), (2, 1), (3, 1), (4, 1), (5, 1), (6, 1), (7, 1), (8, 1), (9, 1), (10, 1)] := ⟨by kernel_rfl, by kernel_rfl⟩
instance tf645_0 : TyFld Tryz.prog 645 0 0 := ⟨fun _ _ => by kernel_rfl⟩
instance tp645_0 : TyPart Tryz.prog 645 0 0 1 false := ⟨fun _ _ => by kernel_rfl⟩
instance tf645_1 : TyFld Tryz.prog 645 1 1 := ⟨fun _ _ => by kernel_rfl⟩
instance tp645_1 : TyPart Tryz.prog 645 1 1 1 false := ⟨fun _ _ => by kernel_rfl⟩
instance tf645_2 : TyFld Tryz.prog 645 2 2 := ⟨fun _ _ => by kernel_rfl⟩
instance tp645_2 : TyPart Tryz.prog 645 2 2 1 false := ⟨fun _ _ => by kernel_rfl⟩
instance tf645_3 : TyFld Tryz.prog 645 3 3 := ⟨fun _ _ => by kernel_rfl⟩
instance tp645_3 : TyPart Tryz.prog 645 3 3 1 false := ⟨fun _ _ => by kernel_rfl⟩
instance tf645_4 : TyFld Tryz.prog 645 4 4 := ⟨fun _ _ => by kernel_rfl⟩
instance tp645_4 : TyPart Tryz.prog 645 4 4 1 false := ⟨fun _ _ => by kernel_rfl⟩
instance tf645_5 : TyFld Tryz.prog 645 5 5 := ⟨fun _ _ => by kernel_rfl⟩
instance tp645_5 : TyPart Tryz.prog 645 5 5 1 false := ⟨fun _ _ => by kernel_rfl⟩
instance tf645_6 : TyFld Tryz.prog 645 6 6 := ⟨fun _ _ => by kernel_rfl⟩
instance tp645_6 : TyPart Tryz.prog 645 6 6 1 false := ⟨fun _ _ => by kernel_rfl⟩
instance tf645_7 : TyFld Tryz.prog 645 7 7 := ⟨fun _ _ => by kernel_rfl⟩
instance tp645_7 : TyPart Tryz.prog 645 7 7 1 false := ⟨fun _ _ => by kernel_rfl⟩
instance tf645_8 : TyFld Tryz.prog 645 8 8 := ⟨fun _ _ => by kernel_rfl⟩
instance tp645_8 : TyPart Tryz.prog 645 8 8 1 false := ⟨fun _ _ => by kernel_rfl⟩
instance tf645_9 : TyFld Tryz.prog 645 9 9 := ⟨fun _ _ => by kernel_rfl⟩
instance tp645_9 : TyPart Tryz.prog 645 9 9 1 false := ⟨fun _ _ => by kernel_rfl⟩
instance tf645_10 : TyFld Tryz.prog 645 10 10 := ⟨fun _ _ => by kernel_rfl⟩
instance tp645_10 : TyPart Tryz.prog 645 10 10 1 false := ⟨fun _ _ => by kernel_rfl⟩
instance ty646 : Ty Tryz.prog 646 1 false := ⟨by kernel_rfl, by kernel_rfl⟩
instance tz646 : TyZ Tryz.prog 646 [.nilFunc] := ⟨by kernel_rfl⟩
instance tby646 : TyBy Tryz.prog 646 8 := ⟨by kernel_rfl⟩
instance ty647 : Ty Tryz.prog 647 1 false := ⟨by kernel_rfl, by kernel_rfl⟩
instance tz647 : TyZ Tryz.prog 647 [.nilFunc] := ⟨by kernel_rfl⟩
instance tby647 : TyBy Tryz.prog 647 8 := ⟨by kernel_rfl⟩
instance ty648 : Ty Tryz.prog 648 1 false := ⟨by kernel_rfl, by kernel_rfl⟩
instance tz648 : TyZ Tryz.prog 648 [.nilFunc] := ⟨by kernel_rfl⟩
instance tby648 : TyBy Tryz.prog 648 8 := ⟨by kernel_rfl⟩
instance ty649 : Ty Tryz.prog 649 2 true := ⟨by kernel_rfl, by kernel_rfl⟩
instance tz649 : TyZ Tryz.prog 649 [.string ⟨#[]⟩, .int .u8 0] := ⟨by kernel_rfl⟩
instance tby649 : TyBy Tryz.prog 649 24 := ⟨by kernel_rfl⟩
instance tss649 : TyS Tryz.prog 649 [(0, 1), (1, 1)] := ⟨by kernel_rfl, by kernel_rfl⟩
instance tf649_0 : TyFld Tryz.prog 649 0 0 := ⟨fun _ _ => by kernel_rfl⟩
instance tp649_0 : TyPart Tryz.prog 649 0 0 1 false := ⟨fun _ _ => by kernel_rfl⟩
instance tf649_1 : TyFld Tryz.prog 649 1 1 := ⟨fun _ _ => by kernel_rfl⟩
instance tp649_1 : TyPart Tryz.prog 649 1 1 1 false := ⟨fun _ _ => by kernel_rfl⟩
instance ty650 : Ty Tryz.prog 650 2 true := ⟨by kernel_rfl, by kernel_rfl⟩
instance tz650 : TyZ Tryz.prog 650 [.string ⟨#[]⟩, .int .u8 0] := ⟨by kernel_rfl⟩
instance tby650 : TyBy Tryz.prog 650 24 := ⟨by kernel_rfl⟩
instance tss650 : TyS Tryz.prog 650 [(0, 1), (1, 1)] := ⟨by kernel_rfl, by kernel_rfl⟩
instance tf650_0 : TyFld Tryz.prog 650 0 0 := ⟨fun _ _ => by kernel_rfl⟩
instance tp650_0 : TyPart Tryz.prog 650 0 0 1 false := ⟨fun _ _ => by kernel_rfl⟩
instance tf650_1 : TyFld Tryz.prog 650 1 1 := ⟨fun _ _ => by kernel_rfl⟩
instance tp650_1 : TyPart Tryz.prog 650 1 1 1 false := ⟨fun _ _ => by kernel_rfl⟩
instance ty651 : Ty Tryz.prog 651 1 true := ⟨by kernel_rfl, by kernel_rfl⟩
instance tz651 : TyZ Tryz.prog 651 [.string ⟨#[]⟩] := ⟨by kernel_rfl⟩
instance tby651 : TyBy Tryz.prog 651 16 := ⟨by kernel_rfl⟩
instance tss651 : TyS Tryz.prog 651 [(0, 1)] := ⟨by kernel_rfl, by kernel_rfl⟩
instance tf651_0 : TyFld Tryz.prog 651 0 0 := ⟨fun _ _ => by kernel_rfl⟩
instance tp651_0 : TyPart Tryz.prog 651 0 0 1 false := ⟨fun _ _ => by kernel_rfl⟩
instance ty652 : Ty Tryz.prog 652 1 true := ⟨by kernel_rfl, by kernel_rfl⟩
instance tz652 : TyZ Tryz.prog 652 [.string ⟨#[]⟩] := ⟨by kernel_rfl⟩
instance tby652 : TyBy Tryz.prog 652 16 := ⟨by kernel_rfl⟩
instance tss652 : TyS Tryz.prog 652 [(0, 1)] := ⟨by kernel_rfl, by kernel_rfl⟩
instance tf652_0 : TyFld Tryz.prog 652 0 0 := ⟨fun _ _ => by kernel_rfl⟩
instance tp652_0 : TyPart Tryz.prog 652 0 0 1 false := ⟨fun _ _ => by kernel_rfl⟩
instance ty653 : Ty Tryz.prog 653 1 false := ⟨by kernel_rfl, by kernel_rfl⟩
instance tz653 : TyZ Tryz.prog 653 [.pointer none] := ⟨by kernel_rfl⟩
instance tby653 : TyBy Tryz.prog 653 8 := ⟨by kernel_rfl⟩
instance tpt653 : TyPtr Tryz.prog 653 656 := ⟨by kernel_rfl⟩
instance ty654 : Ty Tryz.prog 654 1 false := ⟨by kernel_rfl, by kernel_rfl⟩
instance tz654 : TyZ Tryz.prog 654 [.nilFunc] := ⟨by kernel_rfl⟩
instance tby654 : TyBy Tryz.prog 654 8 := ⟨by kernel_rfl⟩
instance ty655 : Ty Tryz.prog 655 5 true := ⟨by kernel_rfl, by kernel_rfl⟩
instance tz655 : TyZ Tryz.prog 655 [.int .i32 0, .int .u16 0, .int .u16 0, .int .u32 0, .int .u32 0] := ⟨by kernel_rfl⟩
instance tby655 : TyBy Tryz.prog 655 16 := ⟨by kernel_rfl⟩
instance tss655 : TyS Tryz.prog 655 [(0, 1), (1, 1), (2, 1), (3, 1), (4, 1)] := ⟨by kernel_rfl, by kernel_rfl⟩
instance tf655_0 : TyFld Tryz.prog 655 0 0 := ⟨fun _ _ => by kernel_rfl⟩
instance tp655_0 : TyPart Tryz.prog 655 0 0 1 false := ⟨fun _ _ => by kernel_rfl⟩
instance tf655_1 : TyFld Tryz.prog 655 1 1 := ⟨fun _ _ => by kernel_rfl⟩
instance tp655_1 : TyPart Tryz.prog 655 1 1 1 false := ⟨fun _ _ => by kernel_rfl⟩
instance tf655_2 : TyFld Tryz.prog 655 2 2 := ⟨fun _ _ => by kernel_rfl⟩
instance tp655_2 : TyPart Tryz.prog 655 2 2 1 false := ⟨fun _ _ => by kernel_rfl⟩
instance tf655_3 : TyFld Tryz.prog 655 3 3 := ⟨fun _ _ => by kernel_rfl⟩
instance tp655_3 : TyPart Tryz.prog 655 3 3 1 false := ⟨fun _ _ => by kernel_rfl⟩
instance tf655_4 : TyFld Tryz.prog 655 4 4 := ⟨fun _ _ => by kernel_rfl⟩
instance tp655_4 : TyPart Tryz.prog 655 4 4 1 false := ⟨fun _ _ => by kernel_rfl⟩
instance ty656 : Ty Tryz.prog 656 5 true := ⟨by kernel_rfl, by kernel_rfl⟩
instance tz656 : TyZ Tryz.prog 656 [.int .i32 0, .int .u16 0, .int .u16 0, .int .u32 0, .int .u32 0] := ⟨by kernel_rfl⟩
instance tby656 : TyBy Tryz.prog 656 16 := ⟨by kernel_rfl⟩
instance tss656 : TyS Tryz.prog 656 [(0, 1), (1, 1), (2, 1), (3, 1), (4, 1)] := ⟨by kernel_rfl, by kernel_rfl⟩
instance tf656_0 : TyFld Tryz.prog 656 0 0 := ⟨fun _ _ => by kernel_rfl⟩
instance tp656_0 : TyPart Tryz.prog 656 0 0 1 false := ⟨fun _ _ => by kernel_rfl⟩
instance tf656_1 : TyFld Tryz.prog 656 1 1 := ⟨fun _ _ => by kernel_rfl⟩
instance tp656_1 : TyPart Tryz.prog 656 1 1 1 false := ⟨fun _ _ => by kernel_rfl⟩
instance tf656_2 : TyFld Tryz.prog 656 2 2 := ⟨fun _ _ => by kernel_rfl⟩
instance tp656_2 : TyPart Tryz.prog 656 2 2 1 false := ⟨fun _ _ => by kernel_rfl⟩
instance tf656_3 : TyFld Tryz.prog 656 3 3 := ⟨fun _ _ => by kernel_rfl⟩
instance tp656_3 : TyPart Tryz.prog 656 3 3 1 false := ⟨fun _ _ => by kernel_rfl⟩
instance tf656_4 : TyFld Tryz.prog 656 4 4 := ⟨fun _ _ => by kernel_rfl⟩
instance tp656_4 : TyPart Tryz.prog 656 4 4 1 false := ⟨fun _ _ => by kernel_rfl⟩
instance ty657 : Ty Tryz.prog 657 1 false := ⟨by kernel_rfl, by kernel_rfl⟩
instance tz657 : TyZ Tryz.prog 657 [.slice none 0 0] := ⟨by kernel_rfl⟩
instance tby657 : TyBy Tryz.prog 657 24 := ⟨by kernel_rfl⟩
instance tsl657 : TySl Tryz.prog 657 660 4 := ⟨by kernel_rfl, by kernel_rfl⟩
instance ty658 : Ty Tryz.prog 658 1 false := ⟨by kernel_rfl, by kernel_rfl⟩
instance tz658 : TyZ Tryz.prog 658 [.int .i32 0] := ⟨by kernel_rfl⟩
instance tby658 : TyBy Tryz.prog 658 4 := ⟨by kernel_rfl⟩
instance tin658 : TyInt Tryz.prog 658 .i32 := ⟨by kernel_rfl⟩
instance ty659 : Ty Tryz.prog 659 4 true := ⟨by kernel_rfl, by kernel_rfl⟩
instance tz659 : TyZ Tryz.prog 659 [.int .i32 0, .int .i32 0, .int .i32 0, .int .i32 0] := ⟨by kernel_rfl⟩
instance tby659 : TyBy Tryz.prog 659 16 := ⟨by kernel_rfl⟩
instance tss659 : TyS Tryz.prog 659 [(0, 1), (1, 1), (2, 1), (3, 1)] := ⟨by kernel_rfl, by kernel_rfl⟩
instance tf659_0 : TyFld Tryz.prog 659 0 0 := ⟨fun _ _ => by kernel_rfl⟩
instance tp659_0 : TyPart Tryz.prog 659 0 0 1 false := ⟨fun _ _ => by kernel_rfl⟩
instance tf659_1 : TyFld Tryz.prog 659 1 1 := ⟨fun _ _ => by kernel_rfl⟩
instance tp659_1 : TyPart Tryz.prog 659 1 1 1 false := ⟨fun _ _ => by kernel_rfl⟩
instance tf659_2 : TyFld Tryz.prog 659 2 2 := ⟨fun _ _ => by kernel_rfl⟩
instance tp659_2 : TyPart Tryz.prog 659 2 2 1 false := ⟨fun _ _ => by kernel_rfl⟩
instance tf659_3 : TyFld Tryz.prog 659 3 3 := ⟨fun _ _ => by kernel_rfl⟩
instance tp659_3 : TyPart Tryz.prog 659 3 3 1 false := ⟨fun _ _ => by kernel_rfl⟩
instance ty660 : Ty Tryz.prog 660 4 true := ⟨by kernel_rfl, by kernel_rfl⟩
instance tz660 : TyZ Tryz.prog 660 [.int .i32 0, .int .i32 0, .int .i32 0, .int .i32 0] := ⟨by kernel_rfl⟩
instance tby660 : TyBy Tryz.prog 660 16 := ⟨by kernel_rfl⟩
instance tss660 : TyS Tryz.prog 660 [(0, 1), (1, 1), (2, 1), (3, 1)] := ⟨by kernel_rfl, by kernel_rfl⟩
instance tf660_0 : TyFld Tryz.prog 660 0 0 := ⟨fun _ _ => by kernel_rfl⟩
instance tp660_0 : TyPart Tryz.prog 660 0 0 1 false := ⟨fun _ _ => by kernel_rfl⟩
instance tf660_1 : TyFld Tryz.prog 660 1 1 := ⟨fun _ _ => by kernel_rfl⟩
instance tp660_1 : TyPart Tryz.prog 660 1 1 1 false := ⟨fun _ _ => by kernel_rfl⟩
instance tf660_2 : TyFld Tryz.prog 660 2 2 := ⟨fun _ _ => by kernel_rfl⟩
instance tp660_2 : TyPart Tryz.prog 660 2 2 1 false := ⟨fun _ _ => by kernel_rfl⟩
instance tf660_3 : TyFld Tryz.prog 660 3 3 := ⟨fun _ _ => by kernel_rfl⟩
instance tp660_3 : TyPart Tryz.prog 660 3 3 1 false := ⟨fun _ _ => by kernel_rfl⟩
instance ty661 : Ty Tryz.prog 661 1 false := ⟨by kernel_rfl, by kernel_rfl⟩
instance tz661 : TyZ Tryz.prog 661 [.pointer none] := ⟨by kernel_rfl⟩
instance tby661 : TyBy Tryz.prog 661 8 := ⟨by kernel_rfl⟩
instance tpt661 : TyPtr Tryz.prog 661 73 := ⟨by kernel_rfl⟩
instance ty662 : Ty Tryz.prog 662 1 false := ⟨by kernel_rfl, by kernel_rfl⟩
instance tz662 : TyZ Tryz.prog 662 [.nilFunc] := ⟨by kernel_rfl⟩
instance tby662 : TyBy Tryz.prog 662 8 := ⟨by kernel_rfl⟩
instance fok3 : FnOk Tryz.prog 3 := ⟨fun a w => enters_of Tryz.func3 (by kernel_rfl) rfl a w⟩
instance fok4 : FnOk Tryz.prog 4 := ⟨fun a w => enters_of Tryz.func4 (by kernel_rfl) rfl a w⟩
instance fok5 : FnOk Tryz.prog 5 := ⟨fun a w => enters_of Tryz.func5 (by kernel_rfl) rfl a w⟩
instance fok6 : FnOk Tryz.prog 6 := ⟨fun a w => enters_of Tryz.func6 (by kernel_rfl) rfl a w⟩
instance fok7 : FnOk Tryz.prog 7 := ⟨fun a w => enters_of Tryz.func7 (by kernel_rfl) rfl a w⟩
instance fok8 : FnOk Tryz.prog 8 := ⟨fun a w => enters_of Tryz.func8 (by kernel_rfl) rfl a w⟩
instance fok9 : FnOk Tryz.prog 9 := ⟨fun a w => enters_of Tryz.func9 (by kernel_rfl) rfl a w⟩
instance fok10 : FnOk Tryz.prog 10 := ⟨fun a w => enters_of Tryz.func10 (by kernel_rfl) rfl a w⟩
instance fok11 : FnOk Tryz.prog 11 := ⟨fun a w => enters_of Tryz.func11 (by kernel_rfl) rfl a w⟩
instance fok12 : FnOk Tryz.prog 12 := ⟨fun a w => enters_of Tryz.func12 (by kernel_rfl) rfl a w⟩
instance fok13 : FnOk Tryz.prog 13 := ⟨fun a w => enters_of Tryz.func13 (by kernel_rfl) rfl a w⟩
instance fok14 : FnOk Tryz.prog 14 := ⟨fun a w => enters_of Tryz.func14 (by kernel_rfl) rfl a w⟩
instance fok15 : FnOk Tryz.prog 15 := ⟨fun a w => enters_of Tryz.func15 (by kernel_rfl) rfl a w⟩
instance fok16 : FnOk Tryz.prog 16 := ⟨fun a w => enters_of Tryz.func16 (by kernel_rfl) rfl a w⟩
instance fok17 : FnOk Tryz.prog 17 := ⟨fun a w => enters_of Tryz.func17 (by kernel_rfl) rfl a w⟩
instance fok18 : FnOk Tryz.prog 18 := ⟨fun a w => enters_of Tryz.func18 (by kernel_rfl) rfl a w⟩
instance fok19 : FnOk Tryz.prog 19 := ⟨fun a w => enters_of Tryz.func19 (by kernel_rfl) rfl a w⟩
instance fok20 : FnOk Tryz.prog 20 := ⟨fun a w => enters_of Tryz.func20 (by kernel_rfl) rfl a w⟩
instance fok21 : FnOk Tryz.prog 21 := ⟨fun a w => enters_of Tryz.func21 (by kernel_rfl) rfl a w⟩
instance fok22 : FnOk Tryz.prog 22 := ⟨fun a w => enters_of Tryz.func22 (by kernel_rfl) rfl a w⟩
instance fok23 : FnOk Tryz.prog 23 := ⟨fun a w => enters_of Tryz.func23 (by kernel_rfl) rfl a w⟩
instance fok24 : FnOk Tryz.prog 24 := ⟨fun a w => enters_of Tryz.func24 (by kernel_rfl) rfl a w⟩
instance fok25 : FnOk Tryz.prog 25 := ⟨fun a w => enters_of Tryz.func25 (by kernel_rfl) rfl a w⟩
instance fok26 : FnOk Tryz.prog 26 := ⟨fun a w => enters_of Tryz.func26 (by kernel_rfl) rfl a w⟩
instance fok27 : FnOk Tryz.prog 27 := ⟨fun a w => enters_of Tryz.func27 (by kernel_rfl) rfl a w⟩
instance fok28 : FnOk Tryz.prog 28 := ⟨fun a w => enters_of Tryz.func28 (by kernel_rfl) rfl a w⟩
instance fok29 : FnOk Tryz.prog 29 := ⟨fun a w => enters_of Tryz.func29 (by kernel_rfl) rfl a w⟩
instance fok30 : FnOk Tryz.prog 30 := ⟨fun a w => enters_of Tryz.func30 (by kernel_rfl) rfl a w⟩
instance fok31 : FnOk Tryz.prog 31 := ⟨fun a w => enters_of Tryz.func31 (by kernel_rfl) rfl a w⟩
instance fok32 : FnOk Tryz.prog 32 := ⟨fun a w => enters_of Tryz.func32 (by kernel_rfl) rfl a w⟩
instance fok33 : FnOk Tryz.prog 33 := ⟨fun a w => enters_of Tryz.func33 (by kernel_rfl) rfl a w⟩
instance fok34 : FnOk Tryz.prog 34 := ⟨fun a w => enters_of Tryz.func34 (by kernel_rfl) rfl a w⟩
instance fok35 : FnOk Tryz.prog 35 := ⟨fun a w => enters_of Tryz.func35 (by kernel_rfl) rfl a w⟩
instance fok36 : FnOk Tryz.prog 36 := ⟨fun a w => enters_of Tryz.func36 (by kernel_rfl) rfl a w⟩
instance fok37 : FnOk Tryz.prog 37 := ⟨fun a w => enters_of Tryz.func37 (by kernel_rfl) rfl a w⟩
instance fok38 : FnOk Tryz.prog 38 := ⟨fun a w => enters_of Tryz.func38 (by kernel_rfl) rfl a w⟩
instance fok39 : FnOk Tryz.prog 39 := ⟨fun a w => enters_of Tryz.func39 (by kernel_rfl) rfl a w⟩
instance fok40 : FnOk Tryz.prog 40 := ⟨fun a w => enters_of Tryz.func40 (by kernel_rfl) rfl a w⟩
instance fok41 : FnOk Tryz.prog 41 := ⟨fun a w => enters_of Tryz.func41 (by kernel_rfl) rfl a w⟩
instance fok42 : FnOk Tryz.prog 42 := ⟨fun a w => enters_of Tryz.func42 (by kernel_rfl) rfl a w⟩
instance fok43 : FnOk Tryz.prog 43 := ⟨fun a w => enters_of Tryz.func43 (by kernel_rfl) rfl a w⟩
instance fok44 : FnOk Tryz.prog 44 := ⟨fun a w => enters_of Tryz.func44 (by kernel_rfl) rfl a w⟩
instance fok45 : FnOk Tryz.prog 45 := ⟨fun a w => enters_of Tryz.func45 (by kernel_rfl) rfl a w⟩
instance fok46 : FnOk Tryz.prog 46 := ⟨fun a w => enters_of Tryz.func46 (by kernel_rfl) rfl a w⟩
instance fok47 : FnOk Tryz.prog 47 := ⟨fun a w => enters_of Tryz.func47 (by kernel_rfl) rfl a w⟩
instance fok48 : FnOk Tryz.prog 48 := ⟨fun a w => enters_of Tryz.func48 (by kernel_rfl) rfl a w⟩
instance fok49 : FnOk Tryz.prog 49 := ⟨fun a w => enters_of Tryz.func49 (by kernel_rfl) rfl a w⟩
instance fok50 : FnOk Tryz.prog 50 := ⟨fun a w => enters_of Tryz.func50 (by kernel_rfl) rfl a w⟩
instance fok51 : FnOk Tryz.prog 51 := ⟨fun a w => enters_of Tryz.func51 (by kernel_rfl) rfl a w⟩
instance fok52 : FnOk Tryz.prog 52 := ⟨fun a w => enters_of Tryz.func52 (by kernel_rfl) rfl a w⟩
instance fok53 : FnOk Tryz.prog 53 := ⟨fun a w => enters_of Tryz.func53 (by kernel_rfl) rfl a w⟩
instance fok54 : FnOk Tryz.prog 54 := ⟨fun a w => enters_of Tryz.func54 (by kernel_rfl) rfl a w⟩
instance fok55 : FnOk Tryz.prog 55 := ⟨fun a w => enters_of Tryz.func55 (by kernel_rfl) rfl a w⟩
instance fok56 : FnOk Tryz.prog 56 := ⟨fun a w => enters_of Tryz.func56 (by kernel_rfl) rfl a w⟩
instance fok57 : FnOk Tryz.prog 57 := ⟨fun a w => enters_of Tryz.func57 (by kernel_rfl) rfl a w⟩
instance fok58 : FnOk Tryz.prog 58 := ⟨fun a w => enters_of Tryz.func58 (by kernel_rfl) rfl a w⟩
instance fok59 : FnOk Tryz.prog 59 := ⟨fun a w => enters_of Tryz.func59 (by kernel_rfl) rfl a w⟩
instance fok60 : FnOk Tryz.prog 60 := ⟨fun a w => enters_of Tryz.func60 (by kernel_rfl) rfl a w⟩
instance fok61 : FnOk Tryz.prog 61 := ⟨fun a w => enters_of Tryz.func61 (by kernel_rfl) rfl a w⟩
instance fok62 : FnOk Tryz.prog 62 := ⟨fun a w => enters_of Tryz.func62 (by kernel_rfl) rfl a w⟩
instance fok63 : FnOk Tryz.prog 63 := ⟨fun a w => enters_of Tryz.func63 (by kernel_rfl) rfl a w⟩
instance fok64 : FnOk Tryz.prog 64 := ⟨fun a w => enters_of Tryz.func64 (by kernel_rfl) rfl a w⟩
instance fok65 : FnOk Tryz.prog 65 := ⟨fun a w => enters_of Tryz.func65 (by kernel_rfl) rfl a w⟩
instance fok66 : FnOk Tryz.prog 66 := ⟨fun a w => enters_of Tryz.func66 (by kernel_rfl) rfl a w⟩
instance fok67 : FnOk Tryz.prog 67 := ⟨fun a w => enters_of Tryz.func67 (by kernel_rfl) rfl a w⟩
instance fok68 : FnOk Tryz.prog 68 := ⟨fun a w => enters_of Tryz.func68 (by kernel_rfl) rfl a w⟩
instance fok69 : FnOk Tryz.prog 69 := ⟨fun a w => enters_of Tryz.func69 (by kernel_rfl) rfl a w⟩
instance fok70 : FnOk Tryz.prog 70 := ⟨fun a w => enters_of Tryz.func70 (by kernel_rfl) rfl a w⟩
instance fok71 : FnOk Tryz.prog 71 := ⟨fun a w => enters_of Tryz.func71 (by kernel_rfl) rfl a w⟩
instance fok72 : FnOk Tryz.prog 72 := ⟨fun a w => enters_of Tryz.func72 (by kernel_rfl) rfl a w⟩
instance fok73 : FnOk Tryz.prog 73 := ⟨fun a w => enters_of Tryz.func73 (by kernel_rfl) rfl a w⟩
instance fok74 : FnOk Tryz.prog 74 := ⟨fun a w => enters_of Tryz.func74 (by kernel_rfl) rfl a w⟩
instance fok75 : FnOk Tryz.prog 75 := ⟨fun a w => enters_of Tryz.func75 (by kernel_rfl) rfl a w⟩
instance fok76 : FnOk Tryz.prog 76 := ⟨fun a w => enters_of Tryz.func76 (by kernel_rfl) rfl a w⟩
instance fok77 : FnOk Tryz.prog 77 := ⟨fun a w => enters_of Tryz.func77 (by kernel_rfl) rfl a w⟩
instance fok78 : FnOk Tryz.prog 78 := ⟨fun a w => enters_of Tryz.func78 (by kernel_rfl) rfl a w⟩
instance fok79 : FnOk Tryz.prog 79 := ⟨fun a w => enters_of Tryz.func79 (by kernel_rfl) rfl a w⟩
instance fok80 : FnOk Tryz.prog 80 := ⟨fun a w => enters_of Tryz.func80 (by kernel_rfl) rfl a w⟩
instance fok81 : FnOk Tryz.prog 81 := ⟨fun a w => enters_of Tryz.func81 (by kernel_rfl) rfl a w⟩
instance fok82 : FnOk Tryz.prog 82 := ⟨fun a w => enters_of Tryz.func82 (by kernel_rfl) rfl a w⟩
instance fok83 : FnOk Tryz.prog 83 := ⟨fun a w => enters_of Tryz.func83 (by kernel_rfl) rfl a w⟩
instance fok84 : FnOk Tryz.prog 84 := ⟨fun a w => enters_of Tryz.func84 (by kernel_rfl) rfl a w⟩
instance fok85 : FnOk Tryz.prog 85 := ⟨fun a w => enters_of Tryz.func85 (by kernel_rfl) rfl a w⟩
instance fok86 : FnOk Tryz.prog 86 := ⟨fun a w => enters_of Tryz.func86 (by kernel_rfl) rfl a w⟩
instance fok87 : FnOk Tryz.prog 87 := ⟨fun a w => enters_of Tryz.func87 (by kernel_rfl) rfl a w⟩
instance fok88 : FnOk Tryz.prog 88 := ⟨fun a w => enters_of Tryz.func88 (by kernel_rfl) rfl a w⟩
instance fok89 : FnOk Tryz.prog 89 := ⟨fun a w => enters_of Tryz.func89 (by kernel_rfl) rfl a w⟩
instance fok90 : FnOk Tryz.prog 90 := ⟨fun a w => enters_of Tryz.func90 (by kernel_rfl) rfl a w⟩
instance fok91 : FnOk Tryz.prog 91 := ⟨fun a w => enters_of Tryz.func91 (by kernel_rfl) rfl a w⟩
instance fok95 : FnOk Tryz.prog 95 := ⟨fun a w => enters_of Tryz.func95 (by kernel_rfl) rfl a w⟩
instance fok96 : FnOk Tryz.prog 96 := ⟨fun a w => enters_of Tryz.func96 (by kernel_rfl) rfl a w⟩
instance fok97 : FnOk Tryz.prog 97 := ⟨fun a w => enters_of Tryz.func97 (by kernel_rfl) rfl a w⟩
instance fok98 : FnOk Tryz.prog 98 := ⟨fun a w => enters_of Tryz.func98 (by kernel_rfl) rfl a w⟩
instance fok99 : FnOk Tryz.prog 99 := ⟨fun a w => enters_of Tryz.func99 (by kernel_rfl) rfl a w⟩
instance fok100 : FnOk Tryz.prog 100 := ⟨fun a w => enters_of Tryz.func100 (by kernel_rfl) rfl a w⟩
instance fok101 : FnOk Tryz.prog 101 := ⟨fun a w => enters_of Tryz.func101 (by kernel_rfl) rfl a w⟩
instance fok102 : FnOk Tryz.prog 102 := ⟨fun a w => enters_of Tryz.func102 (by kernel_rfl) rfl a w⟩
instance fok103 : FnOk Tryz.prog 103 := ⟨fun a w => enters_of Tryz.func103 (by kernel_rfl) rfl a w⟩
instance fok104 : FnOk Tryz.prog 104 := ⟨fun a w => enters_of Tryz.func104 (by kernel_rfl) rfl a w⟩
instance fok105 : FnOk Tryz.prog 105 := ⟨fun a w => enters_of Tryz.func105 (by kernel_rfl) rfl a w⟩
instance fok106 : FnOk Tryz.prog 106 := ⟨fun a w => enters_of Tryz.func106 (by kernel_rfl) rfl a w⟩
instance fok107 : FnOk Tryz.prog 107 := ⟨fun a w => enters_of Tryz.func107 (by kernel_rfl) rfl a w⟩
instance fok108 : FnOk Tryz.prog 108 := ⟨fun a w => enters_of Tryz.func108 (by kernel_rfl) rfl a w⟩
instance fok109 : FnOk Tryz.prog 109 := ⟨fun a w => enters_of Tryz.func109 (by kernel_rfl) rfl a w⟩
instance fok110 : FnOk Tryz.prog 110 := ⟨fun a w => enters_of Tryz.func110 (by kernel_rfl) rfl a w⟩
instance fok111 : FnOk Tryz.prog 111 := ⟨fun a w => enters_of Tryz.func111 (by kernel_rfl) rfl a w⟩
instance fok112 : FnOk Tryz.prog 112 := ⟨fun a w => enters_of Tryz.func112 (by kernel_rfl) rfl a w⟩
instance fok113 : FnOk Tryz.prog 113 := ⟨fun a w => enters_of Tryz.func113 (by kernel_rfl) rfl a w⟩
instance fok114 : FnOk Tryz.prog 114 := ⟨fun a w => enters_of Tryz.func114 (by kernel_rfl) rfl a w⟩
instance fok115 : FnOk Tryz.prog 115 := ⟨fun a w => enters_of Tryz.func115 (by kernel_rfl) rfl a w⟩
instance fok116 : FnOk Tryz.prog 116 := ⟨fun a w => enters_of Tryz.func116 (by kernel_rfl) rfl a w⟩
instance fok117 : FnOk Tryz.prog 117 := ⟨fun a w => enters_of Tryz.func117 (by kernel_rfl) rfl a w⟩
instance fok118 : FnOk Tryz.prog 118 := ⟨fun a w => enters_of Tryz.func118 (by kernel_rfl) rfl a w⟩
instance fok119 : FnOk Tryz.prog 119 := ⟨fun a w => enters_of Tryz.func119 (by kernel_rfl) rfl a w⟩
instance fok120 : FnOk Tryz.prog 120 := ⟨fun a w => enters_of Tryz.func120 (by kernel_rfl) rfl a w⟩
instance fok121 : FnOk Tryz.prog 121 := ⟨fun a w => enters_of Tryz.func121 (by kernel_rfl) rfl a w⟩
instance fok122 : FnOk Tryz.prog 122 := ⟨fun a w => enters_of Tryz.func122 (by kernel_rfl) rfl a w⟩
instance fok123 : FnOk Tryz.prog 123 := ⟨fun a w => enters_of Tryz.func123 (by kernel_rfl) rfl a w⟩
instance fok124 : FnOk Tryz.prog 124 := ⟨fun a w => enters_of Tryz.func124 (by kernel_rfl) rfl a w⟩
instance fok125 : FnOk Tryz.prog 125 := ⟨fun a w => enters_of Tryz.func125 (by kernel_rfl) rfl a w⟩
instance fok126 : FnOk Tryz.prog 126 := ⟨fun a w => enters_of Tryz.func126 (by kernel_rfl) rfl a w⟩
instance fok127 : FnOk Tryz.prog 127 := ⟨fun a w => enters_of Tryz.func127 (by kernel_rfl) rfl a w⟩
instance fok128 : FnOk Tryz.prog 128 := ⟨fun a w => enters_of Tryz.func128 (by kernel_rfl) rfl a w⟩
instance fok129 : FnOk Tryz.prog 129 := ⟨fun a w => enters_of Tryz.func129 (by kernel_rfl) rfl a w⟩
instance fok130 : FnOk Tryz.prog 130 := ⟨fun a w => enters_of Tryz.func130 (by kernel_rfl) rfl a w⟩
instance fok131 : FnOk Tryz.prog 131 := ⟨fun a w => enters_of Tryz.func131 (by kernel_rfl) rfl a w⟩
instance fok132 : FnOk Tryz.prog 132 := ⟨fun a w => enters_of Tryz.func132 (by kernel_rfl) rfl a w⟩
instance fok133 : FnOk Tryz.prog 133 := ⟨fun a w => enters_of Tryz.func133 (by kernel_rfl) rfl a w⟩
instance fok134 : FnOk Tryz.prog 134 := ⟨fun a w => enters_of Tryz.func134 (by kernel_rfl) rfl a w⟩
instance fok135 : FnOk Tryz.prog 135 := ⟨fun a w => enters_of Tryz.func135 (by kernel_rfl) rfl a w⟩
instance fok136 : FnOk Tryz.prog 136 := ⟨fun a w => enters_of Tryz.func136 (by kernel_rfl) rfl a w⟩
instance fok137 : FnOk Tryz.prog 137 := ⟨fun a w => enters_of Tryz.func137 (by kernel_rfl) rfl a w⟩
instance fok138 : FnOk Tryz.prog 138 := ⟨fun a w => enters_of Tryz.func138 (by kernel_rfl) rfl a w⟩
instance fok139 : FnOk Tryz.prog 139 := ⟨fun a w => enters_of Tryz.func139 (by kernel_rfl) rfl a w⟩
instance fok140 : FnOk Tryz.prog 140 := ⟨fun a w => enters_of Tryz.func140 (by kernel_rfl) rfl a w⟩
instance fok141 : FnOk Tryz.prog 141 := ⟨fun a w => enters_of Tryz.func141 (by kernel_rfl) rfl a w⟩
instance fok142 : FnOk Tryz.prog 142 := ⟨fun a w => enters_of Tryz.func142 (by kernel_rfl) rfl a w⟩
instance fok143 : FnOk Tryz.prog 143 := ⟨fun a w => enters_of Tryz.func143 (by kernel_rfl) rfl a w⟩
instance fok144 : FnOk Tryz.prog 144 := ⟨fun a w => enters_of Tryz.func144 (by kernel_rfl) rfl a w⟩
instance fok145 : FnOk Tryz.prog 145 := ⟨fun a w => enters_of Tryz.func145 (by kernel_rfl) rfl a w⟩
instance fok146 : FnOk Tryz.prog 146 := ⟨fun a w => enters_of Tryz.func146 (by kernel_rfl) rfl a w⟩
instance fok147 : FnOk Tryz.prog 147 := ⟨fun a w => enters_of Tryz.func147 (by kernel_rfl) rfl a w⟩
instance fok148 : FnOk Tryz.prog 148 := ⟨fun a w => enters_of Tryz.func148 (by kernel_rfl) rfl a w⟩
instance fok149 : FnOk Tryz.prog 149 := ⟨fun a w => enters_of Tryz.func149 (by kernel_rfl) rfl a w⟩
instance fok150 : FnOk Tryz.prog 150 := ⟨fun a w => enters_of Tryz.func150 (by kernel_rfl) rfl a w⟩
instance fok151 : FnOk Tryz.prog 151 := ⟨fun a w => enters_of Tryz.func151 (by kernel_rfl) rfl a w⟩
instance fok152 : FnOk Tryz.prog 152 := ⟨fun a w => enters_of Tryz.func152 (by kernel_rfl) rfl a w⟩
instance fok153 : FnOk Tryz.prog 153 := ⟨fun a w => enters_of Tryz.func153 (by kernel_rfl) rfl a w⟩
instance fok154 : FnOk Tryz.prog 154 := ⟨fun a w => enters_of Tryz.func154 (by kernel_rfl) rfl a w⟩
instance fok155 : FnOk Tryz.prog 155 := ⟨fun a w => enters_of Tryz.func155 (by kernel_rfl) rfl a w⟩
instance fok156 : FnOk Tryz.prog 156 := ⟨fun a w => enters_of Tryz.func156 (by kernel_rfl) rfl a w⟩
instance fok157 : FnOk Tryz.prog 157 := ⟨fun a w => enters_of Tryz.func157 (by kernel_rfl) rfl a w⟩
instance fok158 : FnOk Tryz.prog 158 := ⟨fun a w => enters_of Tryz.func158 (by kernel_rfl) rfl a w⟩
instance fok159 : FnOk Tryz.prog 159 := ⟨fun a w => enters_of Tryz.func159 (by kernel_rfl) rfl a w⟩
instance fok160 : FnOk Tryz.prog 160 := ⟨fun a w => enters_of Tryz.func160 (by kernel_rfl) rfl a w⟩
instance fok161 : FnOk Tryz.prog 161 := ⟨fun a w => enters_of Tryz.func161 (by kernel_rfl) rfl a w⟩
instance fok162 : FnOk Tryz.prog 162 := ⟨fun a w => enters_of Tryz.func162 (by kernel_rfl) rfl a w⟩
instance fok163 : FnOk Tryz.prog 163 := ⟨fun a w => enters_of Tryz.func163 (by kernel_rfl) rfl a w⟩
instance fok164 : FnOk Tryz.prog 164 := ⟨fun a w => enters_of Tryz.func164 (by kernel_rfl) rfl a w⟩
instance fok165 : FnOk Tryz.prog 165 := ⟨fun a w => enters_of Tryz.func165 (by kernel_rfl) rfl a w⟩
instance fok167 : FnOk Tryz.prog 167 := ⟨fun a w => enters_of Tryz.func167 (by kernel_rfl) rfl a w⟩
instance fok168 : FnOk Tryz.prog 168 := ⟨fun a w => enters_of Tryz.func168 (by kernel_rfl) rfl a w⟩
instance fok169 : FnOk Tryz.prog 169 := ⟨fun a w => enters_of Tryz.func169 (by kernel_rfl) rfl a w⟩
instance fok170 : FnOk Tryz.prog 170 := ⟨fun a w => enters_of Tryz.func170 (by kernel_rfl) rfl a w⟩
instance fok171 : FnOk Tryz.prog 171 := ⟨fun a w => enters_of Tryz.func171 (by kernel_rfl) rfl a w⟩
instance fok172 : FnOk Tryz.prog 172 := ⟨fun a w => enters_of Tryz.func172 (by kernel_rfl) rfl a w⟩
instance fok173 : FnOk Tryz.prog 173 := ⟨fun a w => enters_of Tryz.func173 (by kernel_rfl) rfl a w⟩
instance fok174 : FnOk Tryz.prog 174 := ⟨fun a w => enters_of Tryz.func174 (by kernel_rfl) rfl a w⟩
instance fok175 : FnOk Tryz.prog 175 := ⟨fun a w => enters_of Tryz.func175 (by kernel_rfl) rfl a w⟩
instance fok176 : FnOk Tryz.prog 176 := ⟨fun a w => enters_of Tryz.func176 (by kernel_rfl) rfl a w⟩
instance fok177 : FnOk Tryz.prog 177 := ⟨fun a w => enters_of Tryz.func177 (by kernel_rfl) rfl a w⟩
instance fok178 : FnOk Tryz.prog 178 := ⟨fun a w => enters_of Tryz.func178 (by kernel_rfl) rfl a w⟩
instance fok179 : FnOk Tryz.prog 179 := ⟨fun a w => enters_of Tryz.func179 (by kernel_rfl) rfl a w⟩
instance fok180 : FnOk Tryz.prog 180 := ⟨fun a w => enters_of Tryz.func180 (by kernel_rfl) rfl a w⟩
instance fok181 : FnOk Tryz.prog 181 := ⟨fun a w => enters_of Tryz.func181 (by kernel_rfl) rfl a w⟩
instance fok185 : FnOk Tryz.prog 185 := ⟨fun a w => enters_of Tryz.func185 (by kernel_rfl) rfl a w⟩
instance fok186 : FnOk Tryz.prog 186 := ⟨fun a w => enters_of Tryz.func186 (by kernel_rfl) rfl a w⟩
instance fok187 : FnOk Tryz.prog 187 := ⟨fun a w => enters_of Tryz.func187 (by kernel_rfl) rfl a w⟩
instance fok188 : FnOk Tryz.prog 188 := ⟨fun a w => enters_of Tryz.func188 (by kernel_rfl) rfl a w⟩
instance fok189 : FnOk Tryz.prog 189 := ⟨fun a w => enters_of Tryz.func189 (by kernel_rfl) rfl a w⟩
instance fok190 : FnOk Tryz.prog 190 := ⟨fun a w => enters_of Tryz.func190 (by kernel_rfl) rfl a w⟩
instance fok191 : FnOk Tryz.prog 191 := ⟨fun a w => enters_of Tryz.func191 (by kernel_rfl) rfl a w⟩
instance fok192 : FnOk Tryz.prog 192 := ⟨fun a w => enters_of Tryz.func192 (by kernel_rfl) rfl a w⟩
instance fok193 : FnOk Tryz.prog 193 := ⟨fun a w => enters_of Tryz.func193 (by kernel_rfl) rfl a w⟩
instance fok194 : FnOk Tryz.prog 194 := ⟨fun a w => enters_of Tryz.func194 (by kernel_rfl) rfl a w⟩
instance fok195 : FnOk Tryz.prog 195 := ⟨fun a w => enters_of Tryz.func195 (by kernel_rfl) rfl a w⟩
instance fok196 : FnOk Tryz.prog 196 := ⟨fun a w => enters_of Tryz.func196 (by kernel_rfl) rfl a w⟩
instance fok197 : FnOk Tryz.prog 197 := ⟨fun a w => enters_of Tryz.func197 (by kernel_rfl) rfl a w⟩
instance fok198 : FnOk Tryz.prog 198 := ⟨fun a w => enters_of Tryz.func198 (by kernel_rfl) rfl a w⟩
instance fok199 : FnOk Tryz.prog 199 := ⟨fun a w => enters_of Tryz.func199 (by kernel_rfl) rfl a w⟩
instance fok200 : FnOk Tryz.prog 200 := ⟨fun a w => enters_of Tryz.func200 (by kernel_rfl) rfl a w⟩
instance fok201 : FnOk Tryz.prog 201 := ⟨fun a w => enters_of Tryz.func201 (by kernel_rfl) rfl a w⟩
instance fok202 : FnOk Tryz.prog 202 := ⟨fun a w => enters_of Tryz.func202 (by kernel_rfl) rfl a w⟩
instance fok203 : FnOk Tryz.prog 203 := ⟨fun a w => enters_of Tryz.func203 (by kernel_rfl) rfl a w⟩
instance fok205 : FnOk Tryz.prog 205 := ⟨fun a w => enters_of Tryz.func205 (by kernel_rfl) rfl a w⟩
instance fok206 : FnOk Tryz.prog 206 := ⟨fun a w => enters_of Tryz.func206 (by kernel_rfl) rfl a w⟩
instance fok207 : FnOk Tryz.prog 207 := ⟨fun a w => enters_of Tryz.func207 (by kernel_rfl) rfl a w⟩
instance fok208 : FnOk Tryz.prog 208 := ⟨fun a w => enters_of Tryz.func208 (by kernel_rfl) rfl a w⟩
instance fok209 : FnOk Tryz.prog 209 := ⟨fun a w => enters_of Tryz.func209 (by kernel_rfl) rfl a w⟩
instance fok210 : FnOk Tryz.prog 210 := ⟨fun a w => enters_of Tryz.func210 (by kernel_rfl) rfl a w⟩
instance fok211 : FnOk Tryz.prog 211 := ⟨fun a w => enters_of Tryz.func211 (by kernel_rfl) rfl a w⟩
instance fok212 : FnOk Tryz.prog 212 := ⟨fun a w => enters_of Tryz.func212 (by kernel_rfl) rfl a w⟩
instance fok213 : FnOk Tryz.prog 213 := ⟨fun a w => enters_of Tryz.func213 (by kernel_rfl) rfl a w⟩
instance fok214 : FnOk Tryz.prog 214 := ⟨fun a w => enters_of Tryz.func214 (by kernel_rfl) rfl a w⟩
instance fok215 : FnOk Tryz.prog 215 := ⟨fun a w => enters_of Tryz.func215 (by kernel_rfl) rfl a w⟩
instance fok216 : FnOk Tryz.prog 216 := ⟨fun a w => enters_of Tryz.func216 (by kernel_rfl) rfl a w⟩
instance fok217 : FnOk Tryz.prog 217 := ⟨fun a w => enters_of Tryz.func217 (by kernel_rfl) rfl a w⟩
instance fok218 : FnOk Tryz.prog 218 := ⟨fun a w => enters_of Tryz.func218 (by kernel_rfl) rfl a w⟩
instance fok219 : FnOk Tryz.prog 219 := ⟨fun a w => enters_of Tryz.func219 (by kernel_rfl) rfl a w⟩
instance fok220 : FnOk Tryz.prog 220 := ⟨fun a w => enters_of Tryz.func220 (by kernel_rfl) rfl a w⟩
instance fok221 : FnOk Tryz.prog 221 := ⟨fun a w => enters_of Tryz.func221 (by kernel_rfl) rfl a w⟩
instance fok222 : FnOk Tryz.prog 222 := ⟨fun a w => enters_of Tryz.func222 (by kernel_rfl) rfl a w⟩
instance fok223 : FnOk Tryz.prog 223 := ⟨fun a w => enters_of Tryz.func223 (by kernel_rfl) rfl a w⟩
instance fok224 : FnOk Tryz.prog 224 := ⟨fun a w => enters_of Tryz.func224 (by kernel_rfl) rfl a w⟩
instance fok225 : FnOk Tryz.prog 225 := ⟨fun a w => enters_of Tryz.func225 (by kernel_rfl) rfl a w⟩
instance fok226 : FnOk Tryz.prog 226 := ⟨fun a w => enters_of Tryz.func226 (by kernel_rfl) rfl a w⟩
instance fok227 : FnOk Tryz.prog 227 := ⟨fun a w => enters_of Tryz.func227 (by kernel_rfl) rfl a w⟩
instance fok228 : FnOk Tryz.prog 228 := ⟨fun a w => enters_of Tryz.func228 (by kernel_rfl) rfl a w⟩
instance fok229 : FnOk Tryz.prog 229 := ⟨fun a w => enters_of Tryz.func229 (by kernel_rfl) rfl a w⟩
instance fok230 : FnOk Tryz.prog 230 := ⟨fun a w => enters_of Tryz.func230 (by kernel_rfl) rfl a w⟩
instance fok231 : FnOk Tryz.prog 231 := ⟨fun a w => enters_of Tryz.func231 (by kernel_rfl) rfl a w⟩
instance fok232 : FnOk Tryz.prog 232 := ⟨fun a w => enters_of Tryz.func232 (by kernel_rfl) rfl a w⟩
instance fok233 : FnOk Tryz.prog 233 := ⟨fun a w => enters_of Tryz.func233 (by kernel_rfl) rfl a w⟩
instance fok234 : FnOk Tryz.prog 234 := ⟨fun a w => enters_of Tryz.func234 (by kernel_rfl) rfl a w⟩
instance fok235 : FnOk Tryz.prog 235 := ⟨fun a w => enters_of Tryz.func235 (by kernel_rfl) rfl a w⟩
instance fok236 : FnOk Tryz.prog 236 := ⟨fun a w => enters_of Tryz.func236 (by kernel_rfl) rfl a w⟩
instance fok237 : FnOk Tryz.prog 237 := ⟨fun a w => enters_of Tryz.func237 (by kernel_rfl) rfl a w⟩
instance fok238 : FnOk Tryz.prog 238 := ⟨fun a w => enters_of Tryz.func238 (by kernel_rfl) rfl a w⟩
instance fok239 : FnOk Tryz.prog 239 := ⟨fun a w => enters_of Tryz.func239 (by kernel_rfl) rfl a w⟩
instance fok240 : FnOk Tryz.prog 240 := ⟨fun a w => enters_of Tryz.func240 (by kernel_rfl) rfl a w⟩
instance fok241 : FnOk Tryz.prog 241 := ⟨fun a w => enters_of Tryz.func241 (by kernel_rfl) rfl a w⟩
instance fok242 : FnOk Tryz.prog 242 := ⟨fun a w => enters_of Tryz.func242 (by kernel_rfl) rfl a w⟩
instance fok243 : FnOk Tryz.prog 243 := ⟨fun a w => enters_of Tryz.func243 (by kernel_rfl) rfl a w⟩
instance fok244 : FnOk Tryz.prog 244 := ⟨fun a w => enters_of Tryz.func244 (by kernel_rfl) rfl a w⟩
instance fok245 : FnOk Tryz.prog 245 := ⟨fun a w => enters_of Tryz.func245 (by kernel_rfl) rfl a w⟩
instance fok246 : FnOk Tryz.prog 246 := ⟨fun a w => enters_of Tryz.func246 (by kernel_rfl) rfl a w⟩
instance fok247 : FnOk Tryz.prog 247 := ⟨fun a w => enters_of Tryz.func247 (by kernel_rfl) rfl a w⟩
instance fok248 : FnOk Tryz.prog 248 := ⟨fun a w => enters_of Tryz.func248 (by kernel_rfl) rfl a w⟩
instance fok249 : FnOk Tryz.prog 249 := ⟨fun a w => enters_of Tryz.func249 (by kernel_rfl) rfl a w⟩
instance fok250 : FnOk Tryz.prog 250 := ⟨fun a w => enters_of Tryz.func250 (by kernel_rfl) rfl a w⟩
instance fok251 : FnOk Tryz.prog 251 := ⟨fun a w => enters_of Tryz.func251 (by kernel_rfl) rfl a w⟩
instance fok252 : FnOk Tryz.prog 252 := ⟨fun a w => enters_of Tryz.func252 (by kernel_rfl) rfl a w⟩
instance fok253 : FnOk Tryz.prog 253 := ⟨fun a w => enters_of Tryz.func253 (by kernel_rfl) rfl a w⟩
instance fok254 : FnOk Tryz.prog 254 := ⟨fun a w => enters_of Tryz.func254 (by kernel_rfl) rfl a w⟩
instance fok255 : FnOk Tryz.prog 255 := ⟨fun a w => enters_of Tryz.func255 (by kernel_rfl) rfl a w⟩
instance fok256 : FnOk Tryz.prog 256 := ⟨fun a w => enters_of Tryz.func256 (by kernel_rfl) rfl a w⟩
instance fok257 : FnOk Tryz.prog 257 := ⟨fun a w => enters_of Tryz.func257 (by kernel_rfl) rfl a w⟩
instance fok258 : FnOk Tryz.prog 258 := ⟨fun a w => enters_of Tryz.func258 (by kernel_rfl) rfl a w⟩
instance fok259 : FnOk Tryz.prog 259 := ⟨fun a w => enters_of Tryz.func259 (by kernel_rfl) rfl a w⟩
instance fok260 : FnOk Tryz.prog 260 := ⟨fun a w => enters_of Tryz.func260 (by kernel_rfl) rfl a w⟩
instance fok261 : FnOk Tryz.prog 261 := ⟨fun a w => enters_of Tryz.func261 (by kernel_rfl) rfl a w⟩
instance fok262 : FnOk Tryz.prog 262 := ⟨fun a w => enters_of Tryz.func262 (by kernel_rfl) rfl a w⟩
instance fok263 : FnOk Tryz.prog 263 := ⟨fun a w => enters_of Tryz.func263 (by kernel_rfl) rfl a w⟩
instance fok264 : FnOk Tryz.prog 264 := ⟨fun a w => enters_of Tryz.func264 (by kernel_rfl) rfl a w⟩
instance fok265 : FnOk Tryz.prog 265 := ⟨fun a w => enters_of Tryz.func265 (by kernel_rfl) rfl a w⟩
instance fok266 : FnOk Tryz.prog 266 := ⟨fun a w => enters_of Tryz.func266 (by kernel_rfl) rfl a w⟩
instance fok267 : FnOk Tryz.prog 267 := ⟨fun a w => enters_of Tryz.func267 (by kernel_rfl) rfl a w⟩
instance fok268 : FnOk Tryz.prog 268 := ⟨fun a w => enters_of Tryz.func268 (by kernel_rfl) rfl a w⟩
instance fok269 : FnOk Tryz.prog 269 := ⟨fun a w => enters_of Tryz.func269 (by kernel_rfl) rfl a w⟩
instance fok270 : FnOk Tryz.prog 270 := ⟨fun a w => enters_of Tryz.func270 (by kernel_rfl) rfl a w⟩
instance fok271 : FnOk Tryz.prog 271 := ⟨fun a w => enters_of Tryz.func271 (by kernel_rfl) rfl a w⟩
instance fok272 : FnOk Tryz.prog 272 := ⟨fun a w => enters_of Tryz.func272 (by kernel_rfl) rfl a w⟩
instance fok273 : FnOk Tryz.prog 273 := ⟨fun a w => enters_of Tryz.func273 (by kernel_rfl) rfl a w⟩
instance fok274 : FnOk Tryz.prog 274 := ⟨fun a w => enters_of Tryz.func274 (by kernel_rfl) rfl a w⟩
instance fok275 : FnOk Tryz.prog 275 := ⟨fun a w => enters_of Tryz.func275 (by kernel_rfl) rfl a w⟩
instance fok276 : FnOk Tryz.prog 276 := ⟨fun a w => enters_of Tryz.func276 (by kernel_rfl) rfl a w⟩
instance fok277 : FnOk Tryz.prog 277 := ⟨fun a w => enters_of Tryz.func277 (by kernel_rfl) rfl a w⟩
instance fok278 : FnOk Tryz.prog 278 := ⟨fun a w => enters_of Tryz.func278 (by kernel_rfl) rfl a w⟩
instance fok279 : FnOk Tryz.prog 279 := ⟨fun a w => enters_of Tryz.func279 (by kernel_rfl) rfl a w⟩
instance fok280 : FnOk Tryz.prog 280 := ⟨fun a w => enters_of Tryz.func280 (by kernel_rfl) rfl a w⟩
instance fok281 : FnOk Tryz.prog 281 := ⟨fun a w => enters_of Tryz.func281 (by kernel_rfl) rfl a w⟩
instance fok282 : FnOk Tryz.prog 282 := ⟨fun a w => enters_of Tryz.func282 (by kernel_rfl) rfl a w⟩
instance fok283 : FnOk Tryz.prog 283 := ⟨fun a w => enters_of Tryz.func283 (by kernel_rfl) rfl a w⟩
instance fok284 : FnOk Tryz.prog 284 := ⟨fun a w => enters_of Tryz.func284 (by kernel_rfl) rfl a w⟩
instance fok285 : FnOk Tryz.prog 285 := ⟨fun a w => enters_of Tryz.func285 (by kernel_rfl) rfl a w⟩
instance fok286 : FnOk Tryz.prog 286 := ⟨fun a w => enters_of Tryz.func286 (by kernel_rfl) rfl a w⟩
instance fok287 : FnOk Tryz.prog 287 := ⟨fun a w => enters_of Tryz.func287 (by kernel_rfl) rfl a w⟩
instance fok288 : FnOk Tryz.prog 288 := ⟨fun a w => enters_of Tryz.func288 (by kernel_rfl) rfl a w⟩
instance fok290 : FnOk Tryz.prog 290 := ⟨fun a w => enters_of Tryz.func290 (by kernel_rfl) rfl a w⟩
instance fok291 : FnOk Tryz.prog 291 := ⟨fun a w => enters_of Tryz.func291 (by kernel_rfl) rfl a w⟩
instance fok292 : FnOk Tryz.prog 292 := ⟨fun a w => enters_of Tryz.func292 (by kernel_rfl) rfl a w⟩
instance fok293 : FnOk Tryz.prog 293 := ⟨fun a w => enters_of Tryz.func293 (by kernel_rfl) rfl a w⟩
instance fok294 : FnOk Tryz.prog 294 := ⟨fun a w => enters_of Tryz.func294 (by kernel_rfl) rfl a w⟩
instance fok295 : FnOk Tryz.prog 295 := ⟨fun a w => enters_of Tryz.func295 (by kernel_rfl) rfl a w⟩
instance fok296 : FnOk Tryz.prog 296 := ⟨fun a w => enters_of Tryz.func296 (by kernel_rfl) rfl a w⟩
instance fok297 : FnOk Tryz.prog 297 := ⟨fun a w => enters_of Tryz.func297 (by kernel_rfl) rfl a w⟩
instance fok298 : FnOk Tryz.prog 298 := ⟨fun a w => enters_of Tryz.func298 (by kernel_rfl) rfl a w⟩
instance fok299 : FnOk Tryz.prog 299 := ⟨fun a w => enters_of Tryz.func299 (by kernel_rfl) rfl a w⟩
instance fok300 : FnOk Tryz.prog 300 := ⟨fun a w => enters_of Tryz.func300 (by kernel_rfl) rfl a w⟩
instance fok301 : FnOk Tryz.prog 301 := ⟨fun a w => enters_of Tryz.func301 (by kernel_rfl) rfl a w⟩
instance fok302 : FnOk Tryz.prog 302 := ⟨fun a w => enters_of Tryz.func302 (by kernel_rfl) rfl a w⟩
instance fok303 : FnOk Tryz.prog 303 := ⟨fun a w => enters_of Tryz.func303 (by kernel_rfl) rfl a w⟩
instance fok304 : FnOk Tryz.prog 304 := ⟨fun a w => enters_of Tryz.func304 (by kernel_rfl) rfl a w⟩
instance fok305 : FnOk Tryz.prog 305 := ⟨fun a w => enters_of Tryz.func305 (by kernel_rfl) rfl a w⟩
instance fok306 : FnOk Tryz.prog 306 := ⟨fun a w => enters_of Tryz.func306 (by kernel_rfl) rfl a w⟩
instance fok307 : FnOk Tryz.prog 307 := ⟨fun a w => enters_of Tryz.func307 (by kernel_rfl) rfl a w⟩
instance fok308 : FnOk Tryz.prog 308 := ⟨fun a w => enters_of Tryz.func308 (by kernel_rfl) rfl a w⟩
instance fok309 : FnOk Tryz.prog 309 := ⟨fun a w => enters_of Tryz.func309 (by kernel_rfl) rfl a w⟩
instance fok310 : FnOk Tryz.prog 310 := ⟨fun a w => enters_of Tryz.func310 (by kernel_rfl) rfl a w⟩
instance fok311 : FnOk Tryz.prog 311 := ⟨fun a w => enters_of Tryz.func311 (by kernel_rfl) rfl a w⟩
instance fok312 : FnOk Tryz.prog 312 := ⟨fun a w => enters_of Tryz.func312 (by kernel_rfl) rfl a w⟩
instance fok313 : FnOk Tryz.prog 313 := ⟨fun a w => enters_of Tryz.func313 (by kernel_rfl) rfl a w⟩
instance fok314 : FnOk Tryz.prog 314 := ⟨fun a w => enters_of Tryz.func314 (by kernel_rfl) rfl a w⟩
instance fok315 : FnOk Tryz.prog 315 := ⟨fun a w => enters_of Tryz.func315 (by kernel_rfl) rfl a w⟩
instance fok316 : FnOk Tryz.prog 316 := ⟨fun a w => enters_of Tryz.func316 (by kernel_rfl) rfl a w⟩
instance fok317 : FnOk Tryz.prog 317 := ⟨fun a w => enters_of Tryz.func317 (by kernel_rfl) rfl a w⟩
instance fok318 : FnOk Tryz.prog 318 := ⟨fun a w => enters_of Tryz.func318 (by kernel_rfl) rfl a w⟩
instance fok319 : FnOk Tryz.prog 319 := ⟨fun a w => enters_of Tryz.func319 (by kernel_rfl) rfl a w⟩
instance fok320 : FnOk Tryz.prog 320 := ⟨fun a w => enters_of Tryz.func320 (by kernel_rfl) rfl a w⟩
instance fok321 : FnOk Tryz.prog 321 := ⟨fun a w => enters_of Tryz.func321 (by kernel_rfl) rfl a w⟩
instance fok322 : FnOk Tryz.prog 322 := ⟨fun a w => enters_of Tryz.func322 (by kernel_rfl) rfl a w⟩
instance fok323 : FnOk Tryz.prog 323 := ⟨fun a w => enters_of Tryz.func323 (by kernel_rfl) rfl a w⟩
instance fok324 : FnOk Tryz.prog 324 := ⟨fun a w => enters_of Tryz.func324 (by kernel_rfl) rfl a w⟩
instance fok325 : FnOk Tryz.prog 325 := ⟨fun a w => enters_of Tryz.func325 (by kernel_rfl) rfl a w⟩
instance fok326 : FnOk Tryz.prog 326 := ⟨fun a w => enters_of Tryz.func326 (by kernel_rfl) rfl a w⟩
instance fok327 : FnOk Tryz.prog 327 := ⟨fun a w => enters_of Tryz.func327 (by kernel_rfl) rfl a w⟩
instance fok328 : FnOk Tryz.prog 328 := ⟨fun a w => enters_of Tryz.func328 (by kernel_rfl) rfl a w⟩
instance fok329 : FnOk Tryz.prog 329 := ⟨fun a w => enters_of Tryz.func329 (by kernel_rfl) rfl a w⟩
instance fok330 : FnOk Tryz.prog 330 := ⟨fun a w => enters_of Tryz.func330 (by kernel_rfl) rfl a w⟩
instance fok331 : FnOk Tryz.prog 331 := ⟨fun a w => enters_of Tryz.func331 (by kernel_rfl) rfl a w⟩
instance fok332 : FnOk Tryz.prog 332 := ⟨fun a w => enters_of Tryz.func332 (by kernel_rfl) rfl a w⟩
instance fok333 : FnOk Tryz.prog 333 := ⟨fun a w => enters_of Tryz.func333 (by kernel_rfl) rfl a w⟩
instance fok334 : FnOk Tryz.prog 334 := ⟨fun a w => enters_of Tryz.func334 (by kernel_rfl) rfl a w⟩
instance fok335 : FnOk Tryz.prog 335 := ⟨fun a w => enters_of Tryz.func335 (by kernel_rfl) rfl a w⟩
instance fok336 : FnOk Tryz.prog 336 := ⟨fun a w => enters_of Tryz.func336 (by kernel_rfl) rfl a w⟩
instance fok337 : FnOk Tryz.prog 337 := ⟨fun a w => enters_of Tryz.func337 (by kernel_rfl) rfl a w⟩
instance fok338 : FnOk Tryz.prog 338 := ⟨fun a w => enters_of Tryz.func338 (by kernel_rfl) rfl a w⟩
instance fok339 : FnOk Tryz.prog 339 := ⟨fun a w => enters_of Tryz.func339 (by kernel_rfl) rfl a w⟩
instance fok340 : FnOk Tryz.prog 340 := ⟨fun a w => enters_of Tryz.func340 (by kernel_rfl) rfl a w⟩
instance fok341 : FnOk Tryz.prog 341 := ⟨fun a w => enters_of Tryz.func341 (by kernel_rfl) rfl a w⟩
instance fok342 : FnOk Tryz.prog 342 := ⟨fun a w => enters_of Tryz.func342 (by kernel_rfl) rfl a w⟩
instance fok343 : FnOk Tryz.prog 343 := ⟨fun a w => enters_of Tryz.func343 (by kernel_rfl) rfl a w⟩
instance fok344 : FnOk Tryz.prog 344 := ⟨fun a w => enters_of Tryz.func344 (by kernel_rfl) rfl a w⟩
instance fok345 : FnOk Tryz.prog 345 := ⟨fun a w => enters_of Tryz.func345 (by kernel_rfl) rfl a w⟩
instance fok346 : FnOk Tryz.prog 346 := ⟨fun a w => enters_of Tryz.func346 (by kernel_rfl) rfl a w⟩
instance fok347 : FnOk Tryz.prog 347 := ⟨fun a w => enters_of Tryz.func347 (by kernel_rfl) rfl a w⟩
instance fok348 : FnOk Tryz.prog 348 := ⟨fun a w => enters_of Tryz.func348 (by kernel_rfl) rfl a w⟩
instance fok349 : FnOk Tryz.prog 349 := ⟨fun a w => enters_of Tryz.func349 (by kernel_rfl) rfl a w⟩
instance fok350 : FnOk Tryz.prog 350 := ⟨fun a w => enters_of Tryz.func350 (by kernel_rfl) rfl a w⟩
instance fok351 : FnOk Tryz.prog 351 := ⟨fun a w => enters_of Tryz.func351 (by kernel_rfl) rfl a w⟩
instance fok352 : FnOk Tryz.prog 352 := ⟨fun a w => enters_of Tryz.func352 (by kernel_rfl) rfl a w⟩
instance fok353 : FnOk Tryz.prog 353 := ⟨fun a w => enters_of Tryz.func353 (by kernel_rfl) rfl a w⟩
instance fok354 : FnOk Tryz.prog 354 := ⟨fun a w => enters_of Tryz.func354 (by kernel_rfl) rfl a w⟩
instance fok355 : FnOk Tryz.prog 355 := ⟨fun a w => enters_of Tryz.func355 (by kernel_rfl) rfl a w⟩
instance fok356 : FnOk Tryz.prog 356 := ⟨fun a w => enters_of Tryz.func356 (by kernel_rfl) rfl a w⟩
instance fok357 : FnOk Tryz.prog 357 := ⟨fun a w => enters_of Tryz.func357 (by kernel_rfl) rfl a w⟩
instance fok358 : FnOk Tryz.prog 358 := ⟨fun a w => enters_of Tryz.func358 (by kernel_rfl) rfl a w⟩
instance fok359 : FnOk Tryz.prog 359 := ⟨fun a w => enters_of Tryz.func359 (by kernel_rfl) rfl a w⟩
instance fok360 : FnOk Tryz.prog 360 := ⟨fun a w => enters_of Tryz.func360 (by kernel_rfl) rfl a w⟩
instance fok361 : FnOk Tryz.prog 361 := ⟨fun a w => enters_of Tryz.func361 (by kernel_rfl) rfl a w⟩
instance fok362 : FnOk Tryz.prog 362 := ⟨fun a w => enters_of Tryz.func362 (by kernel_rfl) rfl a w⟩
instance fok367 : FnOk Tryz.prog 367 := ⟨fun a w => enters_of Tryz.func367 (by kernel_rfl) rfl a w⟩
instance fok368 : FnOk Tryz.prog 368 := ⟨fun a w => enters_of Tryz.func368 (by kernel_rfl) rfl a w⟩
instance fok369 : FnOk Tryz.prog 369 := ⟨fun a w => enters_of Tryz.func369 (by kernel_rfl) rfl a w⟩
instance fok370 : FnOk Tryz.prog 370 := ⟨fun a w => enters_of Tryz.func370 (by kernel_rfl) rfl a w⟩
instance fok371 : FnOk Tryz.prog 371 := ⟨fun a w => enters_of Tryz.func371 (by kernel_rfl) rfl a w⟩
instance fok372 : FnOk Tryz.prog 372 := ⟨fun a w => enters_of Tryz.func372 (by kernel_rfl) rfl a w⟩
instance fok373 : FnOk Tryz.prog 373 := ⟨fun a w => enters_of Tryz.func373 (by kernel_rfl) rfl a w⟩
instance fok374 : FnOk Tryz.prog 374 := ⟨fun a w => enters_of Tryz.func374 (by kernel_rfl) rfl a w⟩
instance fok375 : FnOk Tryz.prog 375 := ⟨fun a w => enters_of Tryz.func375 (by kernel_rfl) rfl a w⟩
instance fok376 : FnOk Tryz.prog 376 := ⟨fun a w => enters_of Tryz.func376 (by kernel_rfl) rfl a w⟩
instance fok377 : FnOk Tryz.prog 377 := ⟨fun a w => enters_of Tryz.func377 (by kernel_rfl) rfl a w⟩
instance fok378 : FnOk Tryz.prog 378 := ⟨fun a w => enters_of Tryz.func378 (by kernel_rfl) rfl a w⟩
instance fok379 : FnOk Tryz.prog 379 := ⟨fun a w => enters_of Tryz.func379 (by kernel_rfl) rfl a w⟩
instance fok380 : FnOk Tryz.prog 380 := ⟨fun a w => enters_of Tryz.func380 (by kernel_rfl) rfl a w⟩
instance fok381 : FnOk Tryz.prog 381 := ⟨fun a w => enters_of Tryz.func381 (by kernel_rfl) rfl a w⟩
instance fok382 : FnOk Tryz.prog 382 := ⟨fun a w => enters_of Tryz.func382 (by kernel_rfl) rfl a w⟩
instance fok383 : FnOk Tryz.prog 383 := ⟨fun a w => enters_of Tryz.func383 (by kernel_rfl) rfl a w⟩
instance fok384 : FnOk Tryz.prog 384 := ⟨fun a w => enters_of Tryz.func384 (by kernel_rfl) rfl a w⟩
instance fok385 : FnOk Tryz.prog 385 := ⟨fun a w => enters_of Tryz.func385 (by kernel_rfl) rfl a w⟩
instance fok386 : FnOk Tryz.prog 386 := ⟨fun a w => enters_of Tryz.func386 (by kernel_rfl) rfl a w⟩
instance fok387 : FnOk Tryz.prog 387 := ⟨fun a w => enters_of Tryz.func387 (by kernel_rfl) rfl a w⟩
instance fok388 : FnOk Tryz.prog 388 := ⟨fun a w => enters_of Tryz.func388 (by kernel_rfl) rfl a w⟩
instance fok389 : FnOk Tryz.prog 389 := ⟨fun a w => enters_of Tryz.func389 (by kernel_rfl) rfl a w⟩
instance fok390 : FnOk Tryz.prog 390 := ⟨fun a w => enters_of Tryz.func390 (by kernel_rfl) rfl a w⟩
instance fok391 : FnOk Tryz.prog 391 := ⟨fun a w => enters_of Tryz.func391 (by kernel_rfl) rfl a w⟩
instance fok392 : FnOk Tryz.prog 392 := ⟨fun a w => enters_of Tryz.func392 (by kernel_rfl) rfl a w⟩
instance fok393 : FnOk Tryz.prog 393 := ⟨fun a w => enters_of Tryz.func393 (by kernel_rfl) rfl a w⟩
instance fok394 : FnOk Tryz.prog 394 := ⟨fun a w => enters_of Tryz.func394 (by kernel_rfl) rfl a w⟩
instance fok395 : FnOk Tryz.prog 395 := ⟨fun a w => enters_of Tryz.func395 (by kernel_rfl) rfl a w⟩
instance fok396 : FnOk Tryz.prog 396 := ⟨fun a w => enters_of Tryz.func396 (by kernel_rfl) rfl a w⟩
instance fok397 : FnOk Tryz.prog 397 := ⟨fun a w => enters_of Tryz.func397 (by kernel_rfl) rfl a w⟩
instance fok398 : FnOk Tryz.prog 398 := ⟨fun a w => enters_of Tryz.func398 (by kernel_rfl) rfl a w⟩
instance fok399 : FnOk Tryz.prog 399 := ⟨fun a w => enters_of Tryz.func399 (by kernel_rfl) rfl a w⟩
instance fok400 : FnOk Tryz.prog 400 := ⟨fun a w => enters_of Tryz.func400 (by kernel_rfl) rfl a w⟩
instance fok401 : FnOk Tryz.prog 401 := ⟨fun a w => enters_of Tryz.func401 (by kernel_rfl) rfl a w⟩
instance fok402 : FnOk Tryz.prog 402 := ⟨fun a w => enters_of Tryz.func402 (by kernel_rfl) rfl a w⟩
instance fok403 : FnOk Tryz.prog 403 := ⟨fun a w => enters_of Tryz.func403 (by kernel_rfl) rfl a w⟩
instance fok404 : FnOk Tryz.prog 404 := ⟨fun a w => enters_of Tryz.func404 (by kernel_rfl) rfl a w⟩
instance fok405 : FnOk Tryz.prog 405 := ⟨fun a w => enters_of Tryz.func405 (by kernel_rfl) rfl a w⟩
instance fok406 : FnOk Tryz.prog 406 := ⟨fun a w => enters_of Tryz.func406 (by kernel_rfl) rfl a w⟩
instance fok407 : FnOk Tryz.prog 407 := ⟨fun a w => enters_of Tryz.func407 (by kernel_rfl) rfl a w⟩
instance fok408 : FnOk Tryz.prog 408 := ⟨fun a w => enters_of Tryz.func408 (by kernel_rfl) rfl a w⟩
instance fok409 : FnOk Tryz.prog 409 := ⟨fun a w => enters_of Tryz.func409 (by kernel_rfl) rfl a w⟩
instance fok410 : FnOk Tryz.prog 410 := ⟨fun a w => enters_of Tryz.func410 (by kernel_rfl) rfl a w⟩
instance fok411 : FnOk Tryz.prog 411 := ⟨fun a w => enters_of Tryz.func411 (by kernel_rfl) rfl a w⟩
instance fok412 : FnOk Tryz.prog 412 := ⟨fun a w => enters_of Tryz.func412 (by kernel_rfl) rfl a w⟩
instance fok413 : FnOk Tryz.prog 413 := ⟨fun a w => enters_of Tryz.func413 (by kernel_rfl) rfl a w⟩
instance fok414 : FnOk Tryz.prog 414 := ⟨fun a w => enters_of Tryz.func414 (by kernel_rfl) rfl a w⟩
instance fok415 : FnOk Tryz.prog 415 := ⟨fun a w => enters_of Tryz.func415 (by kernel_rfl) rfl a w⟩
instance fok416 : FnOk Tryz.prog 416 := ⟨fun a w => enters_of Tryz.func416 (by kernel_rfl) rfl a w⟩
instance fok417 : FnOk Tryz.prog 417 := ⟨fun a w => enters_of Tryz.func417 (by kernel_rfl) rfl a w⟩
instance fok418 : FnOk Tryz.prog 418 := ⟨fun a w => enters_of Tryz.func418 (by kernel_rfl) rfl a w⟩
instance fok419 : FnOk Tryz.prog 419 := ⟨fun a w => enters_of Tryz.func419 (by kernel_rfl) rfl a w⟩
instance fok420 : FnOk Tryz.prog 420 := ⟨fun a w => enters_of Tryz.func420 (by kernel_rfl) rfl a w⟩
instance fok421 : FnOk Tryz.prog 421 := ⟨fun a w => enters_of Tryz.func421 (by kernel_rfl) rfl a w⟩
instance fok422 : FnOk Tryz.prog 422 := ⟨fun a w => enters_of Tryz.func422 (by kernel_rfl) rfl a w⟩
instance fok423 : FnOk Tryz.prog 423 := ⟨fun a w => enters_of Tryz.func423 (by kernel_rfl) rfl a w⟩
instance fok427 : FnOk Tryz.prog 427 := ⟨fun a w => enters_of Tryz.func427 (by kernel_rfl) rfl a w⟩
instance fok428 : FnOk Tryz.prog 428 := ⟨fun a w => enters_of Tryz.func428 (by kernel_rfl) rfl a w⟩
instance fok429 : FnOk Tryz.prog 429 := ⟨fun a w => enters_of Tryz.func429 (by kernel_rfl) rfl a w⟩
instance fok430 : FnOk Tryz.prog 430 := ⟨fun a w => enters_of Tryz.func430 (by kernel_rfl) rfl a w⟩
instance fok431 : FnOk Tryz.prog 431 := ⟨fun a w => enters_of Tryz.func431 (by kernel_rfl) rfl a w⟩
instance fok432 : FnOk Tryz.prog 432 := ⟨fun a w => enters_of Tryz.func432 (by kernel_rfl) rfl a w⟩
instance fok433 : FnOk Tryz.prog 433 := ⟨fun a w => enters_of Tryz.func433 (by kernel_rfl) rfl a w⟩
instance fok436 : FnOk Tryz.prog 436 := ⟨fun a w => enters_of Tryz.func436 (by kernel_rfl) rfl a w⟩
instance fok437 : FnOk Tryz.prog 437 := ⟨fun a w => enters_of Tryz.func437 (by kernel_rfl) rfl a w⟩
instance fok438 : FnOk Tryz.prog 438 := ⟨fun a w => enters_of Tryz.func438 (by kernel_rfl) rfl a w⟩
instance fok439 : FnOk Tryz.prog 439 := ⟨fun a w => enters_of Tryz.func439 (by kernel_rfl) rfl a w⟩
instance fok440 : FnOk Tryz.prog 440 := ⟨fun a w => enters_of Tryz.func440 (by kernel_rfl) rfl a w⟩
instance fok441 : FnOk Tryz.prog 441 := ⟨fun a w => enters_of Tryz.func441 (by kernel_rfl) rfl a w⟩
instance fok442 : FnOk Tryz.prog 442 := ⟨fun a w => enters_of Tryz.func442 (by kernel_rfl) rfl a w⟩
instance fok443 : FnOk Tryz.prog 443 := ⟨fun a w => enters_of Tryz.func443 (by kernel_rfl) rfl a w⟩
instance fok444 : FnOk Tryz.prog 444 := ⟨fun a w => enters_of Tryz.func444 (by kernel_rfl) rfl a w⟩
instance fok445 : FnOk Tryz.prog 445 := ⟨fun a w => enters_of Tryz.func445 (by kernel_rfl) rfl a w⟩
instance fok446 : FnOk Tryz.prog 446 := ⟨fun a w => enters_of Tryz.func446 (by kernel_rfl) rfl a w⟩
instance fok447 : FnOk Tryz.prog 447 := ⟨fun a w => enters_of Tryz.func447 (by kernel_rfl) rfl a w⟩
instance fok448 : FnOk Tryz.prog 448 := ⟨fun a w => enters_of Tryz.func448 (by kernel_rfl) rfl a w⟩
instance fok449 : FnOk Tryz.prog 449 := ⟨fun a w => enters_of Tryz.func449 (by kernel_rfl) rfl a w⟩
instance fok450 : FnOk Tryz.prog 450 := ⟨fun a w => enters_of Tryz.func450 (by kernel_rfl) rfl a w⟩
instance fok451 : FnOk Tryz.prog 451 := ⟨fun a w => enters_of Tryz.func451 (by kernel_rfl) rfl a w⟩
instance fok452 : FnOk Tryz.prog 452 := ⟨fun a w => enters_of Tryz.func452 (by kernel_rfl) rfl a w⟩
instance fok453 : FnOk Tryz.prog 453 := ⟨fun a w => enters_of Tryz.func453 (by kernel_rfl) rfl a w⟩
instance fok454 : FnOk Tryz.prog 454 := ⟨fun a w => enters_of Tryz.func454 (by kernel_rfl) rfl a w⟩
instance fok455 : FnOk Tryz.prog 455 := ⟨fun a w => enters_of Tryz.func455 (by kernel_rfl) rfl a w⟩
instance fok456 : FnOk Tryz.prog 456 := ⟨fun a w => enters_of Tryz.func456 (by kernel_rfl) rfl a w⟩
instance fok457 : FnOk Tryz.prog 457 := ⟨fun a w => enters_of Tryz.func457 (by kernel_rfl) rfl a w⟩
instance fok458 : FnOk Tryz.prog 458 := ⟨fun a w => enters_of Tryz.func458 (by kernel_rfl) rfl a w⟩
instance fok459 : FnOk Tryz.prog 459 := ⟨fun a w => enters_of Tryz.func459 (by kernel_rfl) rfl a w⟩
instance fok460 : FnOk Tryz.prog 460 := ⟨fun a w => enters_of Tryz.func460 (by kernel_rfl) rfl a w⟩
instance fok461 : FnOk Tryz.prog 461 := ⟨fun a w => enters_of Tryz.func461 (by kernel_rfl) rfl a w⟩
instance fok462 : FnOk Tryz.prog 462 := ⟨fun a w => enters_of Tryz.func462 (by kernel_rfl) rfl a w⟩
instance fok505 : FnOk Tryz.prog 505 := ⟨fun a w => enters_of Tryz.func505 (by kernel_rfl) rfl a w⟩
end Go.Proofs.YtcpfmjlceoiofaaGreatDoor
