/-
  The document's answer for layer 1: Read, Write.
-/
import Derived.Test.YtkhlfbmjokjhmaaRf2
namespace Go.Proofs.Ytkhlfbmjokjhmaa
open Go.RowKit
attribute [local irreducible] W L QL PureOp thenQ blockQ retQ Spec IterOk YSpec roundQ scopeQ noGoQ
attribute [local irreducible] AS ASi
set_option maxHeartbeats 1600000
section
variable (r : RefP) {M : List Frm}
theorem rread (hM : WfM M) (at_ from_ n : Int) (hn : n ≤ 9223372036854775807 ∧ -9223372036854775808 ≤ n) : Spec Try.prog 24 [r.ptr, .int .i64 at_, .int .i64 from_, .int .i64 n] (refH r M) fun v H' => v = .tuple #[str (readM M at_ from_ n).1, .int .i64 (readM M at_ from_ n).2] ∧ H' = refH r M := by
  refine Spec_body Try.func24 rfl Try.ntmps24 rfl (fun w0 => ?_)
  cases hg : getM M at_ with
  | none =>
    have e : readM M at_ from_ n = ([], 10) := by simp [readM, hg]
    rw [e]
    repeat (first | refine stepA ?_ | intro _)
    refine callA ?_; refine ⟨_, _, rused r (M := M) at_, _, cutA, ?_⟩
    rintro u H' ⟨rfl, rfl⟩
    rw [hg, Option.isSome_none]
    repeat (first | refine stepA ?_ | intro _)
    (first | refine retA ?_ | refine retB ?_); exact ⟨_, ⟨rfl, rfl⟩, subA⟩
  | some f =>
    obtain ⟨i, rfl, hi, hr⟩ := getM_some hg
    have hb := cB_get (r := r) hi
    have hil := lt_of_get hi
    have hw := (hM.get hi).1
    by_cases hc : 0 ≤ from_ ∧ 0 ≤ n ∧ from_ + n ≤ 64
    · have e : readM M (i : Int) from_ n = ((f.bytes.drop from_.toNat).take n.toNat, 0) := by simp [readM, hg, hc]
      rw [e]
      obtain ⟨a, rfl⟩ : ∃ a : Nat, from_ = a := ⟨from_.toNat, by omega⟩
      obtain ⟨c, rfl⟩ : ∃ c : Nat, n = c := ⟨n.toNat, by omega⟩
      repeat (first | refine stepA ?_ | intro _)
      refine callA ?_; refine ⟨_, _, rused r (M := M) (i : Int), _, cutA, ?_⟩
      rintro u H' ⟨rfl, rfl⟩
      rw [hg, Option.isSome_some]
      repeat (first | refine stepA ?_ | intro _)
      (first | (apply L_P; (· exact rfl); (· exact rfl)) | (apply QL_P; (· exact rfl))); (· (apply P_slStr; (· exact evA); (· exact Bound.nat rfl); (· exact Bound.of rfl (by omega : (a : Int) + (c : Int) = ((a + c : Nat) : Int))); (· omega)))
      repeat (first | refine stepA ?_ | intro _)
      (first | refine retA ?_ | refine retB ?_); exact ⟨_, ⟨by simp only [resVal, Int.toNat_natCast]; rw [show a + c - a = c by omega], rfl⟩, subA⟩
    · have e : readM M (i : Int) from_ n = ([], 2) := by simp only [readM, hg, hc, if_false]
      rw [e]
      by_cases h1 : from_ < 0
      · repeat (first | refine stepA ?_ | intro _)
        refine callA ?_; refine ⟨_, _, rused r (M := M) (i : Int), _, cutA, ?_⟩
        rintro u H' ⟨rfl, rfl⟩
        rw [hg, Option.isSome_some]
        repeat (first | refine stepA ?_ | intro _)
        (first | refine retA ?_ | refine retB ?_); exact ⟨_, ⟨rfl, rfl⟩, subA⟩
      by_cases h2 : n < 0
      · repeat (first | refine stepA ?_ | intro _)
        refine callA ?_; refine ⟨_, _, rused r (M := M) (i : Int), _, cutA, ?_⟩
        rintro u H' ⟨rfl, rfl⟩
        rw [hg, Option.isSome_some]
        repeat (first | refine stepA ?_ | intro _)
        (first | refine retA ?_ | refine retB ?_); exact ⟨_, ⟨rfl, rfl⟩, subA⟩
      by_cases h3 : from_ > 64
      · repeat (first | refine stepA ?_ | intro _)
        refine callA ?_; refine ⟨_, _, rused r (M := M) (i : Int), _, cutA, ?_⟩
        rintro u H' ⟨rfl, rfl⟩
        rw [hg, Option.isSome_some]
        repeat (first | refine stepA ?_ | intro _)
        (first | refine retA ?_ | refine retB ?_); exact ⟨_, ⟨rfl, rfl⟩, subA⟩
      · repeat (first | refine stepA ?_ | intro _)
        refine callA ?_; refine ⟨_, _, rused r (M := M) (i : Int), _, cutA, ?_⟩
        rintro u H' ⟨rfl, rfl⟩
        rw [hg, Option.isSome_some]
        repeat (first | refine stepA ?_ | intro _)
        (first | refine retA ?_ | refine retB ?_); exact ⟨_, ⟨rfl, rfl⟩, subA⟩
theorem rwrite (hM : WfM M) (at_ from_ : Int) (s : List UInt8) (hs : s.length ≤ 9223372036854775807) : Spec Try.prog 32 [r.ptr, .int .i64 at_, .int .i64 from_, str s] (refH r M) fun v H' => v = .int .i64 (writeM M at_ from_ s).1 ∧ H' = refH r (writeM M at_ from_ s).2 := by
  refine Spec_body Try.func32 rfl Try.ntmps32 rfl (fun w0 => ?_)
  cases hg : getM M at_ with
  | none =>
    have e : writeM M at_ from_ s = (10, M) := by simp [writeM, hg]
    rw [e]
    repeat (first | refine stepA ?_ | intro _)
    refine callA ?_; refine ⟨_, _, rused r (M := M) at_, _, cutA, ?_⟩
    rintro u H' ⟨rfl, rfl⟩
    rw [hg, Option.isSome_none]
    repeat (first | refine stepA ?_ | intro _)
    (first | refine retA ?_ | refine retB ?_); exact ⟨_, ⟨rfl, rfl⟩, subA⟩
  | some f =>
    obtain ⟨i, rfl, hi, hr⟩ := getM_some hg
    have hb := cB_get (r := r) hi
    have hil := lt_of_get hi
    have hw := (hM.get hi).1
    by_cases hc : 0 ≤ from_ ∧ from_ + s.length ≤ 64
    · have e : writeM M (i : Int) from_ s = (0, M.set i { f with bytes := overw f.bytes from_.toNat s }) := by simp [writeM, hg, hc]
      rw [e]
      obtain ⟨a, rfl⟩ : ∃ a : Nat, from_ = a := ⟨from_.toNat, by omega⟩
      repeat (first | refine stepA ?_ | intro _)
      refine callA ?_; refine ⟨_, _, rused r (M := M) (i : Int), _, cutA, ?_⟩
      rintro u H' ⟨rfl, rfl⟩
      rw [hg, Option.isSome_some]
      repeat (first | refine stepA ?_ | intro _)
      refine W_anyH rfl ?_
      refine AS_at 0 (by decide +kernel) ?_; refine takeA ?_
      refine AS_at 1 (by decide +kernel) ?_; refine takeA ?_
      refine AS_at 2 (by decide +kernel) ?_; refine takeA ?_
      refine AS_at 3 (by decide +kernel) ?_; refine takeA ?_
      refine AS_at 4 (by decide +kernel) ?_; refine takeA ?_
      refine AS_at 5 (by decide +kernel) ?_; refine takeA ?_
      refine AS_at 6 (by decide +kernel) ?_; refine takeA ?_
      refine AS_at 7 (by decide +kernel) ?_; refine takeA ?_
      refine AS_at 8 (by decide +kernel) ?_; refine takeA ?_
      refine AS_at 9 (by decide +kernel) ?_; refine takeA ?_
      refine AS_at 10 (by decide +kernel) ?_; refine takeA ?_
      refine AS_at 11 (by decide +kernel) ?_; refine takeA ?_
      refine AS_at 12 (by decide +kernel) ?_; refine takeA ?_
      refine AS_at 13 (by decide +kernel) ?_; refine takeA ?_
      refine AS_at 14 (by decide +kernel) ?_; refine takeA ?_
      refine AS_at 15 (by decide +kernel) ?_; refine takeA ?_
      refine AS_at 16 (by decide +kernel) ?_; refine takeA ?_
      refine AS_at 17 (by decide +kernel) ?_; refine takeA ?_
      refine AS_at 18 (by decide +kernel) ?_; refine takeA ?_
      refine AS_at 19 (by decide +kernel) ?_; refine takeA ?_
      refine AS_at 20 (by decide +kernel) ?_; refine takeA ?_
      refine AS_at 21 (by decide +kernel) ?_; refine takeA ?_
      refine AS_at 22 (by decide +kernel) ?_; refine takeA ?_
      refine AS_at 23 (by decide +kernel) ?_; refine takeA ?_
      refine AS_at 24 (by decide +kernel) ?_; refine takeA ?_
      refine AS_at 25 (by decide +kernel) ?_; refine takeA ?_
      refine AS_at 26 (by decide +kernel) ?_; refine takeA ?_
      refine AS_at 27 (by decide +kernel) ?_; refine takeA ?_
      refine AS_at 28 (by decide +kernel) ?_; refine takeA ?_
      refine AS_at 29 (by decide +kernel) ?_; refine takeA ?_
      refine AS_one 30 rfl (by decide +kernel) rfl ?_
      have hov : List.take (a - 0) (List.drop 0 f.bytes) ++ s ++ List.take (f.bytes.length - (a + s.length)) (List.drop (a + s.length) f.bytes) = overw f.bytes a s := by
        rw [List.drop_zero, Nat.sub_zero, List.take_of_length_le (l := List.drop (a + s.length) f.bytes) (by simp)]
        rfl
      rw [hov]
      apply L_store1; (· exact evA); (· exact rfl); (· exact rfl); (· exact rfl); (· exact repA); (· exact cB_set (k := f.refs) hil); (· rw [cB, List.length_append, List.length_map]; omega)
      refine L_nil ?_; refine ⟨rfl, (by first | exact KeepsH.brk (by decide +kernel) | exact KeepsH.sub subA), ?_⟩
      refine AS_done (by decide +kernel) ?_
      repeat (first | refine stepA ?_ | intro _)
      (first | refine retA ?_ | refine retB ?_)
      refine ⟨_, ⟨rfl, rfl⟩, ?_⟩
      simp only [refH, List.length_set, Int.toNat_natCast, cR_keep hi]
      exact subT
    · have e : writeM M (i : Int) from_ s = (2, M) := by simp only [writeM, hg, hc, if_false]
      rw [e]
      by_cases h1 : from_ < 0
      · repeat (first | refine stepA ?_ | intro _)
        refine callA ?_; refine ⟨_, _, rused r (M := M) (i : Int), _, cutA, ?_⟩
        rintro u H' ⟨rfl, rfl⟩
        rw [hg, Option.isSome_some]
        repeat (first | refine stepA ?_ | intro _)
        (first | refine retA ?_ | refine retB ?_); exact ⟨_, ⟨rfl, rfl⟩, subA⟩
      by_cases h3 : from_ > 64
      · repeat (first | refine stepA ?_ | intro _)
        refine callA ?_; refine ⟨_, _, rused r (M := M) (i : Int), _, cutA, ?_⟩
        rintro u H' ⟨rfl, rfl⟩
        rw [hg, Option.isSome_some]
        repeat (first | refine stepA ?_ | intro _)
        (first | refine retA ?_ | refine retB ?_); exact ⟨_, ⟨rfl, rfl⟩, subA⟩
      · repeat (first | refine stepA ?_ | intro _)
        refine callA ?_; refine ⟨_, _, rused r (M := M) (i : Int), _, cutA, ?_⟩
        rintro u H' ⟨rfl, rfl⟩
        rw [hg, Option.isSome_some]
        repeat (first | refine stepA ?_ | intro _)
        (first | refine retA ?_ | refine retB ?_); exact ⟨_, ⟨rfl, rfl⟩, subA⟩
end
end Go.Proofs.Ytkhlfbmjokjhmaa
