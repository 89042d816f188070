/-
  TopMail: messages that are sent by one process are received by another one, which may wait for them, in their order: for every texts, whether the receiver is ahead or not, the law returns true, and its arguments read as before. The card ties what the row lists to the program's text.
-/
import Derived.Test.YtcpfmjlceoiofaaGreatDoorN45
import Derived.Test.YtcpfmjlceoiofaaGreatDoorN31
import Derived.Test.YtcpfmjlceoiofaaGreatDoorCards
import Derived.SevenTiedAt
set_option linter.unusedSimpArgs false
set_option linter.unusedVariables false
set_option linter.unusedSectionVars false
namespace Go.Proofs.YtcpfmjlceoiofaaGreatDoor.topMail
theorem c1 : Rows.topMailRow.wfByText (OpenSpec.ofChange Rows.topMailSpec) = true := by kernel_rfl
theorem c2 : Tryz.pinned.checked.prog.mainIs = some (Rows.topMailCard.stood.harness.1, Rows.topMailCard.stood.harness.2.toList) := by kernel_rfl
theorem c3 : true = Tryz.pinned.checked.prog.looks [] := by kernel_rfl
theorem c4 : Tryz.pinned.checked.prog.wantsStandIn 52 = false := by kernel_rfl
theorem c5 : Tryz.pinned.checked.prog.wantsStandIn 4 = false := by kernel_rfl
/-- where no function starts a goroutine, none that is reached does -/
theorem goes_none {P : Program} (h : P.funcs.toList.any Func.goes = false) (f : FuncId) : P.goes f = false := by
  have h1 : P.funcs.any Func.goes = false := by rw [← Array.any_toList]; exact h
  have h2 : ∀ g : Nat, (P.funcs[g]?).any Func.goes = false := fun g => by
    cases hg : P.funcs[g]? with
    | none => rfl
    | some fn =>
      have hm : fn ∈ P.funcs.toList := Array.mem_toList_iff.2 (Array.mem_of_getElem? hg)
      have := List.any_eq_false.1 h fn hm
      simpa using this
  unfold Program.goes
  rw [h1, Bool.and_false, Bool.or_false]
  exact List.any_eq_false.2 fun g _ => by rw [h2 g]; simp
theorem gonone : Tryz.prog.funcs.toList.any Func.goes = false := by kernel_rfl
theorem goesBy_none {P : Program} {c : OpenClaim} {f : FuncId} (hs : c.start = .entering) (hn : P.funcNamed c.func = some f) (h : P.goes f = false) : false = c.goesBy P := by
  unfold OpenClaim.goesBy Program.goesAt Program.goesFrom
  rw [hs, hn]
  simp [h]
theorem c6 : false = Rows.topMailRow.goesBy Tryz.pinned.checked.prog := goesBy_none (P := Tryz.prog) (f := 6) rfl named (goes_none gonone _)
theorem card : Claim7.holds Tryz.pinned (.plain (OpenSpec.ofChange Rows.topMailSpec)) Rows.topMailCard :=
  Claim7.holds_tied_plain_at .later [] tieKinds true Rows.topMailCard.stood.harness true
    over (fun _ h => by cases h) c1 (fun _ h => by cases h) topMail_row_tie rfl ⟨rfl, rfl⟩ c2 rfl
    (fun f fn hf hfn => by
      obtain rfl : f = 6 := Option.some.inj (named.symm.trans hf) |>.symm
      obtain rfl : fn = Tryz.f6 := (Option.some.inj (Tryz.func6.symm.trans hfn)).symm
      exact ⟨c3, fun j t ht => by
        rw [Tryz.params6] at ht
        have h3 : t = 52 ∨ t = 4 := by
          rcases j with _ | _ | j
          · exact .inl (by simpa using ht.symm)
          · exact .inr (by simpa using ht.symm)
          · simp at ht
        rcases h3 with rfl | rfl
        · exact c4
        · exact c5⟩)
    c6
end Go.Proofs.YtcpfmjlceoiofaaGreatDoor.topMail
namespace Go.Proofs.YtcpfmjlceoiofaaGreatDoor
/-- THE STATEMENT -/
theorem topMail_holds : Rows.TopMailCardSaid := topMail.card
#print axioms topMail_holds
end Go.Proofs.YtcpfmjlceoiofaaGreatDoor
