/-
  TopLoops: forking, ending and waiting, again and again, loses no frame: for every statuses, pages, and whether each is killed the law returns true, and its arguments read as before; the listed variables hold what the program's text lays.
-/
import Derived.Test.YtcpfmjlceoiofaaGreatDoorL46
import Derived.Test.YtcpfmjlceoiofaaGreatDoorL37
set_option linter.unusedSimpArgs false
set_option linter.unusedVariables false
set_option linter.unusedSectionVars false
namespace Go.Proofs.YtcpfmjlceoiofaaGreatDoor.topLoops
open Go.ChangeShapes Go.WideShapes Go.ChangeAt Go.RowKit
set_option linter.unusedVariables false
set_option maxRecDepth 100000 in
theorem lifted (os : Os) (started : os.Started) (H : Type) (enc : TypeId × Value → H) :
    ReturnsInHanded {} Tryz.checked os 3 .any (fun w args => (Rows.topLoopsSpec.pre enc Tryz.prog Tryz.f3 [] false w args ∧ laidMetH Tryz.prog Rows.topLoopsRow.laid w) ∧ sizedMet enc Tryz.prog Tryz.f3 (OpenSpec.ofChange Rows.topLoopsSpec) false w args) (Rows.topLoopsSpec.post enc Tryz.prog Tryz.f3 false true false false) := by
  refine returnsInHanded_of_change_and (C := Tryz.checked) (X := fun w _ => laidMetH Tryz.prog laidL w) (fun _ _ _ hh h => laidMetH.of_heap hh h) tops_own started (by kernel_rfl) Tryz.func3
    (ChangeSpec.witness_shaped (enc := enc) (C := Tryz.checked) (os := os) (X := fun w _ => laidMetH Tryz.prog laidL w) false (World.doorLaid Tryz.prog 400 os) #[.slice none 0 0, .slice none 0 0, .slice none 0 0] 8 rfl (World.shaped_of_RefB (door_s1 os _) (door_s2 os _)) (by kernel_rfl) (by kernel_rfl) (by kernel_rfl) (door_met os _)) ?_
  intro W base args ds gs before hval0 hW _ _ hL _
  have hval : ∀ (j : Nat) t v, Tryz.f3.params[j]? = some t → args[j]? = some v → Value.okWide Tryz.prog W .any base t v := hval0
  have hW2 := hW
  obtain ⟨p, q, hA0, hV, rfl, hfz, hnd⟩ := hW
  have hA : DataW.TrodAll enc Tryz.prog W 0 (fun _ => true) true Tryz.f3.params.toList args.toList ds p := hA0
  rw [Tryz.params3] at hA hval
  obtain ⟨v0, vs0, d0, ds0, p_0, q0, hargs, rfl, rfl, h0, r0⟩ := trodAll_cons hA
  obtain ⟨v1, vs1, d1, ds1, p_1, q1, rfl, rfl, rfl, h1, r1⟩ := trodAll_cons r0
  obtain ⟨v2, vs2, d2, ds2, p_2, q2, rfl, rfl, rfl, h2, r2⟩ := trodAll_cons r1
  obtain ⟨rfl, rfl, rfl⟩ := trodAll_nil r2
  obtain rfl : args = #[v0, v1, v2] := by cases args; simp_all
  obtain ⟨rfl, rfl⟩ := trodVars_none hV
  obtain ⟨p0, len0, cap0, rfl, hl0, hm0, hsl0⟩ := open_sl (ks := [.int .i64]) Tryz.underlying22 (by kernel_rfl) (by decide) (fun _ _ _ h => fit_one Tryz.underlying3 h) (hval 0 22 v0 rfl rfl) h0
  obtain ⟨p1, len1, cap1, rfl, hl1, hm1, hsl1⟩ := open_sl (ks := [.int .i64]) Tryz.underlying22 (by kernel_rfl) (by decide) (fun _ _ _ h => fit_one Tryz.underlying3 h) (hval 1 22 v1 rfl rfl) h1
  obtain ⟨p2, len2, cap2, rfl, hl2, hm2, hsl2⟩ := open_sl (ks := [.bool]) Tryz.underlying23 (by kernel_rfl) (by decide) (fun _ _ _ h => fit_one Tryz.underlying4 h) (hval 2 23 v2 rfl rfl) h2
  have walk : Calls Tryz.prog 3 #[.slice p0 len0 cap0, .slice p1 len1 cap1, .slice p2 len2 cap2] W fun e w' => e = .returned (.bool true) ∧ Fr [] W w' := by
    obtain ⟨g0, e0, k0⟩ := rdI_of hsl0
    obtain ⟨g1, e1, k1⟩ := rdI_of hsl1
    obtain ⟨g2, e2, k2⟩ := rdB_of hsl2
    obtain ⟨Bs, hB, hm⟩ := has_list W (g0 ++ (g1 ++ g2)) (fun g hg => by
      rcases List.mem_append.1 hg with hg | hg
      · exact e0 g hg
      · rcases List.mem_append.1 hg with hg | hg
        · exact e1 g hg
        · exact e2 g hg)
    exact calls_kept (loops_spec Bs p0 p1 p2 len0 cap0 len1 cap1 len2 cap2 ⟨Nat.le_trans (Nat.le_trans hl0 hm0) (by decide), Nat.le_trans (Nat.le_trans hl1 hm1) (by decide), Nat.le_trans (Nat.le_trans hl2 hm2) (by decide)⟩
      (k0 Bs fun g hg => hm g (List.mem_append_left _ hg)) (k1 Bs fun g hg => hm g (List.mem_append_right _ (List.mem_append_left _ hg))) (k2 Bs fun g hg => hm g (List.mem_append_right _ (List.mem_append_right _ hg)))) hB
  refine walk.mono fun e W' ⟨he, hg⟩ => ?_
  subst he
  exact ⟨_, rfl, post_true hW2 rfl rfl rfl Tryz.underlying4 (by kernel_rfl) (by decide +kernel) hg⟩
end Go.Proofs.YtcpfmjlceoiofaaGreatDoor.topLoops
