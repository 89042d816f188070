/-
  Names and numbers of calls: names, Name, Number, of the program and of the document's answer.
-/
import Derived.Test.YtkcfckjiagjocaaCa1
import Derived.Test.YtkcfckjiagjocaaE13
namespace Go.Proofs.Ytkcfckjiagjocaa
open Go.RowKit
section rules
variable {X : Cx} {Q : PostT} {l : St} {ds : List Deferred} {H : Hp} {d ty : Nat} {pos : String} {after : Array Edge}
theorem P_buildArr {t n e : Nat} {z : List Value} {ps : List (Nat × Operand)} {vs : List (Nat × Value)} {cs : List Value} [T : TyArr X.P t n e 1] [Z : TyZ X.P t z]
    (hp : evps l ps = some vs) (h1 : all1 z.length vs = true) (hcs : fill1 z vs = cs) :
    PureOp X H l { dst := some d, op := .build t ps.toArray, type := ty, pos, after, guard := none } (.agg cs.toArray) :=
  fun ρ hρ w _ => by
    obtain ⟨u, hz1, hz2⟩ : ∃ u, (zeroValue t).run X.P w = .ok u w ∧ u.cells = z.toArray := by
      have hz := Z.zero
      cases hq : X.P.info? t with
      | none => simp [hq] at hz
      | some i =>
        cases hi : i.zero with
        | none => simp [hq, hi] at hz
        | some u => simp [hq, hi] at hz; exact ⟨u, by simp [zeroValue, typeInfo, hq, hi], hz⟩
    have hs : (sizeOf e).run X.P w = .ok 1 w := by
      have h := T.size
      cases hq : X.P.info? e with
      | none => simp [hq] at h
      | some i => simp [hq] at h; simp [sizeOf, typeInfo, hq, h]
    have hm : (ps.toArray.map fun (p : Nat × Operand) => (p.1, ρ p.2)).toList = vs := by rw [← evps_fits hp ρ hρ]; simp
    have hfill : Instr.fill (fun i => some (i * 1, 1)) z.toArray vs = some cs.toArray := by
      rw [← hcs]
      refine fill_one _ vs _ (fun p hp => ?_)
      obtain ⟨a, b⟩ := all1_spec h1 p hp
      exact ⟨by simp, a, by simpa using b⟩
    simp only [execOp, Instr.build, Sem.run_bind, hz1, Result.andThen_ok, Sem.run_pure, hz2, run_underlying T.und w, hs, hm, hfill]
end rules
open Go.RowKit
attribute [local irreducible] W L QL PureOp thenQ blockQ retQ Spec IterOk YSpec roundQ scopeQ noGoQ
attribute [local irreducible] AS ASi
set_option maxHeartbeats 6400000
def namesB : List (List UInt8) := [[], [102, 111, 114, 107], [101, 120, 101, 99], [101, 120, 105, 116], [119, 97, 105, 116], [107, 105, 108, 108], [98, 101, 99, 111, 109, 101], [103, 114, 111, 119], [108, 111, 97, 100], [115, 116, 111, 114, 101], [112, 105, 112, 101], [114, 101, 97, 100], [119, 114, 105, 116, 101], [100, 117, 112], [99, 108, 111, 115, 101], [115, 101, 109, 103, 101, 116], [115, 101, 109, 111, 112], [115, 101, 109, 99, 116, 108], [109, 115, 103, 103, 101, 116], [109, 115, 103, 115, 110, 100], [109, 115, 103, 114, 99, 118], [109, 115, 103, 99, 116, 108], [115, 104, 109, 103, 101, 116], [115, 104, 109, 97, 116], [115, 104, 109, 100, 116], [115, 104, 109, 99, 116, 108]]
def nm (n : Nat) : List UInt8 := namesB.getD n []
theorem nm_get {n : Nat} (h : n < 26) : (namesB.map str)[n]? = some (str (nm n)) := by
  have h2 : n < namesB.length := h
  simp [nm, List.getD, List.getElem?_eq_getElem h2]
theorem nm_inj {m n : Nat} (hm : m < 26) (hn : n < 26) (h : nm m = nm n) : m = n := by
  have key : ∀ m : Fin 26, ∀ n : Fin 26, nm m = nm n → m = n := by decide +kernel
  have := key ⟨m, hm⟩ ⟨n, hn⟩ h
  simpa using this
theorem nm_ne {n : Nat} (h0 : 0 < n) (h : n < 26) : nm n ≠ [] := fun e => by
  have := nm_inj (m := n) (n := 0) h (by omega) (by rw [e]; rfl)
  omega
def nameOf (no : Int) : List UInt8 := if 1 ≤ no ∧ no ≤ 25 then nm no.toNat else []
def NumP (name : List UInt8) (n : Nat) : Prop := (1 ≤ n ∧ n ≤ 25 ∧ nm n = name) ∨ (n = 0 ∧ ∀ j, 1 ≤ j → j ≤ 25 → nm j ≠ name)
theorem NumP.uniq {name : List UInt8} {m n : Nat} (h : NumP name m) (k : NumP name n) : m = n := by
  rcases h with ⟨h1, h2, h3⟩ | ⟨rfl, h⟩ <;> rcases k with ⟨k1, k2, k3⟩ | ⟨rfl, k⟩
  · exact nm_inj (by omega) (by omega) (h3.trans k3.symm)
  · exact absurd h3 (k m h1 h2)
  · exact absurd k3 (h n k1 k2)
  · rfl
theorem names_spec : Spec Try.prog 33 [] [] fun v H' => v = .agg (namesB.map str).toArray ∧ H' = [] := by
  refine Spec_body Try.func33 rfl Try.ntmps33 rfl (fun w0 => ?_)
  repeat (first | refine stepA ?_ | intro _)
  (first | (apply L_P; (· exact rfl); (· exact rfl)) | (apply QL_P; (· exact rfl))); (· (apply P_buildArr; (· exact rfl); (· exact rfl); (· exact (rfl : _ = namesB.map str))))
  repeat (first | refine stepA ?_ | intro _)
  (first | refine retA ?_ | refine retB ?_); exact ⟨_, ⟨rfl, rfl⟩, subA⟩
theorem rnames_spec : Spec Try.prog 34 [] [] fun v H' => ∃ g, v = .slice (some ⟨g, 0, none⟩) 26 26 ∧ H' = [(g, .cells (namesB.map str) 9)] := by
  refine Spec_body Try.func34 rfl Try.ntmps34 rfl (fun w0 => ?_)
  repeat (first | refine stepA ?_ | intro _)
  rename_i g
  (first | refine retA ?_ | refine retB ?_); exact ⟨_, ⟨g, rfl, rfl⟩, subA⟩
theorem name_spec (no : Int) : Spec Try.prog 17 [.int .i64 no] [] fun v H' => v = str (nameOf no) ∧ H' = [] := by
  refine Spec_body Try.func17 rfl Try.ntmps17 rfl (fun w0 => ?_)
  by_cases h : 1 ≤ no ∧ no ≤ 25
  · obtain ⟨n, rfl⟩ : ∃ n : Nat, no = (n : Int) := ⟨no.toNat, by omega⟩
    have hg := nm_get (n := n) (by omega)
    have hv : nameOf (n : Int) = nm n := by unfold nameOf; rw [if_pos h]; simp
    rw [hv]
    repeat (first | refine stepA ?_ | intro _)
    rename_i g1
    refine callA ?_; refine ⟨_, _, within1T 1 25 (n : Int) g1 _ h, _, cutA, ?_⟩
    rintro v H' ⟨rfl, rfl⟩
    repeat (first | refine stepA ?_ | intro _)
    refine callA ?_; refine ⟨_, _, names_spec, _, cutA, ?_⟩
    rintro v H' ⟨rfl, rfl⟩
    repeat (first | refine stepA ?_ | intro _)
    (first | refine retA ?_ | refine retB ?_); exact ⟨_, ⟨rfl, rfl⟩, subA⟩
  · have hv : nameOf no = [] := by unfold nameOf; rw [if_neg h]
    rw [hv]
    repeat (first | refine stepA ?_ | intro _)
    rename_i g1
    refine callA ?_; refine ⟨_, _, within1F 1 25 no g1 _ h, _, cutA, ?_⟩
    rintro v H' ⟨rfl, rfl⟩
    repeat (first | refine stepA ?_ | intro _)
    (first | refine retA ?_ | refine retB ?_); exact ⟨_, ⟨rfl, rfl⟩, subA⟩
theorem rname_spec (no : Int) : Spec Try.prog 19 [.int .i64 no] [] fun v H' => v = str (nameOf no) ∧ H' = [] := by
  refine Spec_body Try.func19 rfl Try.ntmps19 rfl (fun w0 => ?_)
  by_cases h1 : no < 1
  · have hv : nameOf no = [] := by unfold nameOf; rw [if_neg (by omega)]
    rw [hv]
    repeat (first | refine stepA ?_ | intro _)
    (first | refine retA ?_ | refine retB ?_); exact ⟨_, ⟨rfl, rfl⟩, subA⟩
  by_cases h2 : no > 25
  · have hv : nameOf no = [] := by unfold nameOf; rw [if_neg (by omega)]
    rw [hv]
    repeat (first | refine stepA ?_ | intro _)
    (first | refine retA ?_ | refine retB ?_); exact ⟨_, ⟨rfl, rfl⟩, subA⟩
  obtain ⟨n, rfl⟩ : ∃ n : Nat, no = (n : Int) := ⟨no.toNat, by omega⟩
  have hg := nm_get (n := n) (by omega)
  have hv : nameOf (n : Int) = nm n := by unfold nameOf; rw [if_pos (by omega)]; simp
  rw [hv]
  repeat (first | refine stepA ?_ | intro _)
  refine callA ?_; refine ⟨_, _, rnames_spec, _, cutA, ?_⟩
  rintro v H' ⟨g, rfl, rfl⟩
  repeat (first | refine stepA ?_ | intro _)
  (first | refine retA ?_ | refine retB ?_); exact ⟨_, ⟨rfl, rfl⟩, subA⟩
theorem number_spec (name : List UInt8) : Spec Try.prog 18 [str name] [] fun v H' => (∃ n : Nat, NumP name n ∧ v = .int .i64 (n : Int)) ∧ H' = [] := by
  refine Spec_body Try.func18 rfl Try.ntmps18 rfl (fun w0 => ?_)
  repeat (first | refine stepA ?_ | intro _)
  refine callA ?_; refine ⟨_, _, names_spec, _, cutA, ?_⟩
  rintro v H' ⟨rfl, rfl⟩
  repeat (first | refine stepA ?_ | intro _)
  refine W_loop (fun k : Nat => [(0, str name), (5, .agg (namesB.map str).toArray), (6, .int .i64 (k : Int))]) (fun _ => []) (fun k => k ≤ 26 ∧ ∀ j, 1 ≤ j → j < k → nm j ≠ name) (fun k => 26 - k) 0 ⟨by omega, fun j h1 h2 => by omega⟩ sublA subA ?_
  rintro k ⟨hk, hno⟩
  by_cases hlt : k < 26
  · have hg := nm_get hlt
    by_cases h0 : k > 0
    · by_cases he : nm k = name
      · subst he
        repeat (first | refine stepA ?_ | intro _)
        (first | refine retA ?_ | refine retB ?_); exact ⟨_, ⟨⟨k, .inl ⟨by omega, by omega, rfl⟩, rfl⟩, rfl⟩, subA⟩
      · repeat (first | refine stepA ?_ | intro _)
        exact ⟨rfl, k + 1, ⟨by omega, fun j h1 h2 => by
          by_cases hj : j = k
          · subst hj; exact he
          · exact hno j h1 (by omega)⟩, by omega, sublA, subA⟩
    · repeat (first | refine stepA ?_ | intro _)
      exact ⟨rfl, k + 1, ⟨by omega, fun j h1 h2 => by omega⟩, by omega, sublA, subA⟩
  · repeat (first | refine stepA ?_ | intro _)
    (first | refine retA ?_ | refine retB ?_); exact ⟨_, ⟨⟨0, .inr ⟨rfl, fun j h1 h2 => hno j h1 (by omega)⟩, rfl⟩, rfl⟩, subA⟩
theorem rnumber_spec (name : List UInt8) : Spec Try.prog 20 [str name] [] fun v H' => (∃ n : Nat, NumP name n ∧ v = .int .i64 (n : Int)) ∧ H' = [] := by
  refine Spec_body Try.func20 rfl Try.ntmps20 rfl (fun w0 => ?_)
  repeat (first | refine stepA ?_ | intro _)
  refine callA ?_; refine ⟨_, _, rnames_spec, _, cutA, ?_⟩
  rintro v H' ⟨g, rfl, rfl⟩
  repeat (first | refine stepA ?_ | intro _)
  refine W_loop (fun k : Nat => [(0, str name), (3, .slice (some ⟨g, 0, none⟩) 26 26), (4, .int .i64 (k : Int))]) (fun _ => [(g, .cells (namesB.map str) 9)]) (fun k => 1 ≤ k ∧ k ≤ 26 ∧ ∀ j, 1 ≤ j → j < k → nm j ≠ name) (fun k => 26 - k) 1 ⟨by omega, by omega, fun j h1 h2 => by omega⟩ sublA subA ?_
  rintro k ⟨hk1, hk, hno⟩
  by_cases hlt : k < 26
  · have hg := nm_get hlt
    by_cases he : nm k = name
    · subst he
      repeat (first | refine stepA ?_ | intro _)
      (first | refine retA ?_ | refine retB ?_); exact ⟨_, ⟨⟨k, .inl ⟨by omega, by omega, rfl⟩, rfl⟩, rfl⟩, subA⟩
    · repeat (first | refine stepA ?_ | intro _)
      exact ⟨rfl, k + 1, ⟨by omega, by omega, fun j h1 h2 => by
        by_cases hj : j = k
        · subst hj; exact he
        · exact hno j h1 (by omega)⟩, by omega, sublA, subA⟩
  · repeat (first | refine stepA ?_ | intro _)
    (first | refine retA ?_ | refine retB ?_); exact ⟨_, ⟨⟨0, .inr ⟨rfl, fun j h1 h2 => hno j h1 (by omega)⟩, rfl⟩, rfl⟩, subA⟩
end Go.Proofs.Ytkcfckjiagjocaa
