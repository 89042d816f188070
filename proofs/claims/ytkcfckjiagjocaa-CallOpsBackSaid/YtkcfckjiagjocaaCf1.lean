/-
  The head of layer 17's laws; the law CallNames: its walk.
-/
import Derived.Test.YtkcfckjiagjocaaCd2
import Derived.Test.YtkcfckjiagjocaaCe1
namespace Go.Proofs.Ytkcfckjiagjocaa
open Go.RowKit
attribute [local irreducible] W L QL PureOp thenQ blockQ retQ Spec IterOk YSpec roundQ scopeQ noGoQ
attribute [local irreducible] AS ASi
set_option maxHeartbeats 6400000
theorem take_min (s : List UInt8) (n : Nat) : (s.drop 0).take ((min (s.length : Int) (n : Int)).toNat - 0) = s.take n := by
  rw [List.drop_zero, Nat.sub_zero]
  by_cases h : s.length ≤ n
  · rw [List.take_of_length_le (by omega), List.take_of_length_le h]
  · rw [show (min (s.length : Int) (n : Int)).toNat = n by omega]
theorem cut_spec (s : List UInt8) (hs : s.length ≤ 9223372036854775807) : Spec Try.prog 10 [str s] [] fun v H' => v = str (s.take 700) ∧ H' = [] := by
  refine Spec_body Try.func10 rfl Try.ntmps10 rfl (fun w0 => ?_)
  repeat (first | refine stepA ?_ | intro _)
  (first | (apply L_P; (· exact rfl); (· exact rfl)) | (apply QL_P; (· exact rfl))); (· (apply P_slStr; (· exact evA); (· exact Bound.none); (· exact Bound.int rfl (by omega)); (· omega)))
  rw [show (700 : Int) = ((700 : Nat) : Int) from rfl, take_min]
  repeat (first | refine stepA ?_ | intro _)
  (first | refine retA ?_ | refine retB ?_); exact ⟨_, ⟨rfl, rfl⟩, subA⟩
theorem shown_spec : Spec Try.prog 9 [] [] fun v H' => v = .bool true ∧ H' = [] := by
  have hr : RightP ⟨3, 0, 258, 0, 0, 0, []⟩ := by decide
  have e1 : callB ⟨3, 0, 258, 0, 0, 0, []⟩ = [3, 0, 1, 2, 0, 0, 0, 0, 0, 0] := by decide +kernel
  have e2 : nameOf 25 = [115, 104, 109, 99, 116, 108] := by decide +kernel
  refine Spec_body Try.func9 rfl Try.ntmps9 rfl (fun w0 => ?_)
  repeat (first | refine stepA ?_ | intro _)
  refine callA ?_; refine ⟨_, _, bytes_yes ⟨3, 0, 258, 0, 0, 0, []⟩ hr, _, cutA, ?_⟩
  rintro v H' ⟨rfl, rfl⟩
  rw [e1]
  repeat (first | refine stepA ?_ | intro _)
  refine callA ?_; refine ⟨_, _, parse_no [] (by simp), _, cutA, ?_⟩
  rintro v H' ⟨rfl, rfl⟩
  repeat (first | refine stepA ?_ | intro _)
  refine callA ?_; refine ⟨_, _, name_spec 25, _, cutA, ?_⟩
  rintro v H' ⟨rfl, rfl⟩
  rw [e2]
  repeat (first | refine stepA ?_ | intro _)
  refine callA ?_; refine ⟨_, _, number_spec [102, 111, 114, 107], _, cutA, ?_⟩
  rintro v H' ⟨⟨n, hn, rfl⟩, rfl⟩
  obtain rfl : n = 1 := hn.uniq (.inl ⟨by omega, by omega, by decide +kernel⟩)
  repeat (first | refine stepA ?_ | intro _)
  (first | refine retA ?_ | refine retB ?_); exact ⟨_, ⟨rfl, rfl⟩, subA⟩
theorem callNames_spec (no : Int) (s : List UInt8) (hs : s.length ≤ 9223372036854775807) : Spec Try.prog 4 [.int .i64 no, str s] [] fun v H' => v = .bool true ∧ H' = [] := by
  refine Spec_body Try.func4 rfl Try.ntmps4 rfl (fun w0 => ?_)
  repeat (first | refine stepA ?_ | intro _)
  refine callA ?_; refine ⟨_, _, shown_spec, _, cutA, ?_⟩
  rintro v H' ⟨rfl, rfl⟩
  repeat (first | refine stepA ?_ | intro _)
  (first | (apply L_P; (· exact rfl); (· exact rfl)) | (apply QL_P; (· exact rfl))); (· (apply P_slStr; (· exact evA); (· exact Bound.none); (· exact Bound.int rfl (by omega)); (· omega)))
  rw [show (10 : Int) = ((10 : Nat) : Int) from rfl, take_min]
  generalize s.take 10 = name
  repeat (first | refine stepA ?_ | intro _)
  refine callA ?_; refine ⟨_, _, name_spec no, _, cutA, ?_⟩
  rintro v H' ⟨rfl, rfl⟩
  repeat (first | refine stepA ?_ | intro _)
  refine callA ?_; refine ⟨_, _, number_spec name, _, cutA, ?_⟩
  rintro v H' ⟨⟨m, hm, rfl⟩, rfl⟩
  repeat (first | refine stepA ?_ | intro _)
  refine callA ?_; refine ⟨_, _, rname_spec no, _, cutA, ?_⟩
  rintro v H' ⟨rfl, rfl⟩
  repeat (first | refine stepA ?_ | intro _)
  refine callA ?_; refine ⟨_, _, rnumber_spec name, _, cutA, ?_⟩
  rintro v H' ⟨⟨m2, hm2, rfl⟩, rfl⟩
  obtain rfl := hm.uniq hm2
  by_cases hr : 1 ≤ no ∧ no ≤ 25
  · obtain ⟨n, rfl⟩ : ∃ n : Nat, no = (n : Int) := ⟨no.toNat, by omega⟩
    have hv : nameOf (n : Int) = nm n := by unfold nameOf; rw [if_pos hr]; simp
    have hne : ¬ nm n = [] := nm_ne (by omega) (by omega)
    rw [hv]
    repeat (first | refine stepA ?_ | intro _)
    refine callA ?_; refine ⟨_, _, number_spec (nm n), _, cutA, ?_⟩
    rintro v H' ⟨⟨n2, hn2, rfl⟩, rfl⟩
    obtain rfl : n2 = n := hn2.uniq (.inl ⟨by omega, by omega, rfl⟩)
    rcases hm with ⟨h1, h2, h3⟩ | ⟨rfl, _⟩
    · have hv2 : nameOf (m : Int) = name := by unfold nameOf; rw [if_pos (by omega)]; simpa using h3
      repeat (first | refine stepA ?_ | intro _)
      refine callA ?_; refine ⟨_, _, name_spec (m : Int), _, cutA, ?_⟩
      rintro v H' ⟨rfl, rfl⟩
      rw [hv2]
      repeat (first | refine stepA ?_ | intro _)
      (first | refine retA ?_ | refine retB ?_); exact ⟨_, ⟨rfl, rfl⟩, subA⟩
    · repeat (first | refine stepA ?_ | intro _)
      (first | refine retA ?_ | refine retB ?_); exact ⟨_, ⟨rfl, rfl⟩, subA⟩
  · have hv : nameOf no = [] := by unfold nameOf; rw [if_neg hr]
    rw [hv]
    rcases hm with ⟨h1, h2, h3⟩ | ⟨rfl, _⟩
    · have hv2 : nameOf (m : Int) = name := by unfold nameOf; rw [if_pos (by omega)]; simpa using h3
      repeat (first | refine stepA ?_ | intro _)
      refine callA ?_; refine ⟨_, _, name_spec (m : Int), _, cutA, ?_⟩
      rintro v H' ⟨rfl, rfl⟩
      rw [hv2]
      repeat (first | refine stepA ?_ | intro _)
      (first | refine retA ?_ | refine retB ?_); exact ⟨_, ⟨rfl, rfl⟩, subA⟩
    · repeat (first | refine stepA ?_ | intro _)
      (first | refine retA ?_ | refine retB ?_); exact ⟨_, ⟨rfl, rfl⟩, subA⟩
end Go.Proofs.Ytkcfckjiagjocaa
