/-
  TopMail: messages that are sent by one process are received by another one, which may wait for them, in their order: for every texts, whether the receiver is ahead or not, the law returns true, and its arguments read as before; the listed variables hold what the program's text lays.
-/
import Derived.Test.YtcpfmjlceoiofaaGreatDoorN43
import Derived.Test.YtcpfmjlceoiofaaGreatDoorN42
set_option linter.unusedSimpArgs false
set_option linter.unusedVariables false
set_option linter.unusedSectionVars false
namespace Go.Proofs.YtcpfmjlceoiofaaGreatDoor
open Go.RowKit
theorem rdS_of {W : World} {p : Option Addr} {len : Nat} (gx : Nat × Nat × Nat) (h0 : W.heap[0]? = some (Blk.obj (gvB gx).2)) (h : SlIn W p len [.str]) : ∃ Bs : Hp, Has (gvB gx :: Bs) W ∧ RdS Bs p len := by
  have hg : Has [gvB gx] W := ⟨by simp [keys], fun b k hm => by simp at hm; obtain ⟨rfl, rfl⟩ := hm; exact h0⟩
  by_cases hl : len = 0
  · exact ⟨[], hg, fun i hi => by omega⟩
  rcases h with rfl | ⟨g, o, C, E, fr, rfl, hh, hx⟩
  · exact absurd rfl hl
  have hne : g ≠ 0 := by
    rintro rfl
    rw [h0] at hh
    obtain ⟨v, hv, s, rfl, -⟩ := hx 0 (by omega) 0 .str rfl
    have e := Option.some.inj hh
    simp only [Blk.obj, Obj.cells.injEq] at e
    obtain ⟨rfl, -, -⟩ := e
    rcases hk : o + 0 * [CK.str].length + 0 with _ | j
    · rw [hk] at hv
      simp at hv
    · rw [hk] at hv
      simp at hv
  refine ⟨[(g, .oth (.cells C E fr))], ⟨?_, ?_⟩, ?_⟩
  · simp only [keys, List.map_cons, List.map_nil, List.nodup_cons, List.mem_singleton, List.not_mem_nil, not_false_eq_true, List.nodup_nil, and_true]
    exact fun e => hne e.symm
  · intro b k hm
    rcases List.mem_cons.1 hm with hm | hm
    · obtain ⟨rfl, rfl⟩ := Prod.mk.inj hm
      exact h0
    · obtain ⟨rfl, rfl⟩ := Prod.mk.inj (List.mem_singleton.1 hm)
      exact hh
  · intro i hi
    obtain ⟨v, hv, s, rfl, -⟩ := hx i hi 0 _ rfl
    exact ⟨g, o, C, E, fr, s, rfl, List.mem_singleton.2 rfl, by simpa using hv⟩
end Go.Proofs.YtcpfmjlceoiofaaGreatDoor
namespace Go.Proofs.YtcpfmjlceoiofaaGreatDoor.topMail
open Go.ChangeShapes Go.WideShapes Go.ChangeAt Go.RowKit
set_option linter.unusedVariables false
set_option maxRecDepth 100000 in
theorem lifted (os : Os) (started : os.Started) (H : Type) (enc : TypeId × Value → H) :
    ReturnsInHanded {} Tryz.checked os 6 .any (fun w args => (Rows.topMailSpec.pre enc Tryz.prog Tryz.f6 [] false w args ∧ laidMetH Tryz.prog Rows.topMailRow.laid w) ∧ sizedMet enc Tryz.prog Tryz.f6 (OpenSpec.ofChange Rows.topMailSpec) false w args) (Rows.topMailSpec.post enc Tryz.prog Tryz.f6 false true false false) := by
  refine returnsInHanded_of_change_and (C := Tryz.checked) (X := fun w _ => laidMetH Tryz.prog laidL w) (fun _ _ _ hh h => laidMetH.of_heap hh h) tops_own started (by kernel_rfl) Tryz.func6
    (ChangeSpec.witness_shaped (enc := enc) (C := Tryz.checked) (os := os) (X := fun w _ => laidMetH Tryz.prog laidL w) false (World.doorLaid Tryz.prog 400 os) #[.slice none 0 0, .bool false] 8 rfl (World.shaped_of_RefB (door_s1 os _) (door_s2 os _)) (by kernel_rfl) (by kernel_rfl) (by kernel_rfl) (door_met os _)) ?_
  intro W base args ds gs before hval0 hW _ _ hL _
  have hval : ∀ (j : Nat) t v, Tryz.f6.params[j]? = some t → args[j]? = some v → Value.okWide Tryz.prog W .any base t v := hval0
  have hW2 := hW
  obtain ⟨p, q, hA0, hV, rfl, hfz, hnd⟩ := hW
  have hA : DataW.TrodAll enc Tryz.prog W 0 (fun _ => true) true Tryz.f6.params.toList args.toList ds p := hA0
  rw [Tryz.params6] at hA hval
  obtain ⟨v0, vs0, d0, ds0, p_0, q0, hargs, rfl, rfl, h0, r0⟩ := trodAll_cons hA
  obtain ⟨v1, vs1, d1, ds1, p_1, q1, rfl, rfl, rfl, h1, r1⟩ := trodAll_cons r0
  obtain ⟨rfl, rfl, rfl⟩ := trodAll_nil r1
  obtain rfl : args = #[v0, v1] := by cases args; simp_all
  obtain ⟨rfl, rfl⟩ := trodVars_none hV
  obtain ⟨p0, len0, cap0, rfl, hl0, hm0, hsl0⟩ := open_sl (ks := [.str]) Tryz.underlying52 (by kernel_rfl) (by decide) (fun _ _ _ h => fit_one Tryz.underlying9 h) (hval 0 52 v0 rfl rfl) h0
  obtain ⟨a1, rfl, _, _⟩ := open_bool Tryz.underlying4 (hval 1 4 v1 rfl rfl) h1
  have walk : Calls Tryz.prog 6 #[.slice p0 len0 cap0, .bool a1] W fun e w' => e = .returned (.bool true) ∧ Fr [] W w' := by
    obtain ⟨gx, hg⟩ := handle_at et_mem hL
    obtain ⟨Bs, hB, hr⟩ := rdS_of gx hg hsl0
    exact calls_kept (mail_spec gx Bs p0 len0 cap0 a1 (Nat.le_trans (Nat.le_trans hl0 hm0) (by decide)) hr) hB
  refine walk.mono fun e W' ⟨he, hg⟩ => ?_
  subst he
  exact ⟨_, rfl, post_true hW2 rfl rfl rfl Tryz.underlying4 (by kernel_rfl) (by decide +kernel) hg⟩
end Go.Proofs.YtcpfmjlceoiofaaGreatDoor.topMail
