/-
  A call of bytes: Parse, of the program and of the document's answer.
-/
import Derived.Test.YtkcfckjiagjocaaCc1
namespace Go.Proofs.Ytkcfckjiagjocaa
open Go.RowKit
attribute [local irreducible] W L QL PureOp thenQ blockQ retQ Spec IterOk YSpec roundQ scopeQ noGoQ
attribute [local irreducible] AS ASi
set_option maxHeartbeats 6400000
abbrev ofB (a b : UInt8) : Int := (256 * (a.toNat : Int) + (b.toNat : Int) + 32768) % 65536 - 32768
theorem wrap_u16 (z : Int) : IntKind.u16.wrap z = z % 65536 := by simp [IntKind.wrap, IntKind.bits, IntKind.signed]
theorem wrap_i16 (z : Int) : IntKind.i16.wrap z = (z + 32768) % 65536 - 32768 := by
  simp only [IntKind.wrap, IntKind.bits, IntKind.signed]
  simp
  omega
theorem ofB_eq (a b : UInt8) : IntKind.i64.wrap (IntKind.i16.wrap (bits .or .u16 (IntKind.u16.wrap (IntKind.u16.wrap (a.toNat : Int) * 256)) (IntKind.u16.wrap (b.toNat : Int)))) = ofB a b := by
  have ha := a.toNat_lt
  have hb := b.toNat_lt
  have e1 : IntKind.u16.wrap (IntKind.u16.wrap (a.toNat : Int) * 256) = 256 * (a.toNat : Int) := by rw [wrap_u16, wrap_u16]; omega
  have e2 : IntKind.u16.wrap (b.toNat : Int) = (b.toNat : Int) := by rw [wrap_u16]; omega
  rw [e1, e2, bits_join .u16 16 (by decide) (fun n h0 h1 => by rw [wrap_u16]; omega) 8 _ _ (by omega) (by omega) (by omega) (by omega) (by omega) (by omega), wrap_i16, wrap_i64 (by omega)]
theorem short_spec (s : List UInt8) (a b : UInt8) (h0 : s[0]? = some a) (h1 : s[1]? = some b) : Spec Try.prog 28 [str s] [] fun v H' => v = .int .i64 (ofB a b) ∧ H' = [] := by
  have e := ofB_eq a b
  refine Spec_body Try.func28 rfl Try.ntmps28 rfl (fun w0 => ?_)
  repeat (first | refine stepA ?_ | intro _)
  (first | (apply L_P; (· exact rfl); (· exact rfl)) | (apply QL_P; (· exact rfl))); (· (apply P_or; (· exact evA); (· exact evA)))
  repeat (first | refine stepA ?_ | intro _)
  rw [e]
  repeat (first | refine stepA ?_ | intro _)
  (first | refine retA ?_ | refine retB ?_); exact ⟨_, ⟨rfl, rfl⟩, subA⟩
theorem of_spec (s : List UInt8) (a b : UInt8) (h0 : s[0]? = some a) (h1 : s[1]? = some b) : Spec Try.prog 29 [str s] [] fun v H' => v = .int .i64 (ofB a b) ∧ H' = [] := by
  have e := ofB_eq a b
  refine Spec_body Try.func29 rfl Try.ntmps29 rfl (fun w0 => ?_)
  repeat (first | refine stepA ?_ | intro _)
  (first | (apply L_P; (· exact rfl); (· exact rfl)) | (apply QL_P; (· exact rfl))); (· (apply P_or; (· exact evA); (· exact evA)))
  repeat (first | refine stepA ?_ | intro _)
  rw [e]
  repeat (first | refine stepA ?_ | intro _)
  (first | refine retA ?_ | refine retB ?_); exact ⟨_, ⟨rfl, rfl⟩, subA⟩
end Go.Proofs.Ytkcfckjiagjocaa
