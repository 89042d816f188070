/-
  Calls and bytes are one to one: plain laws; Bytes, Parse at every input.
-/
import Derived.Test.YtkcfckjiagjocaaCf1
namespace Go.Proofs.Ytkcfckjiagjocaa
open Go.RowKit
attribute [local irreducible] W L QL PureOp thenQ blockQ retQ Spec IterOk YSpec roundQ scopeQ noGoQ
attribute [local irreducible] AS ASi
set_option maxHeartbeats 6400000
theorem byteOf_toNat (z : Int) : ((byteOf z).toNat : Int) = z % 256 := by rw [← byteOf_wrap, IntKind.wrap_u8]
theorem byteOf_of {z : Int} {b : UInt8} (h : z % 256 = (b.toNat : Int)) : byteOf z = b := by
  apply UInt8.toNat_inj.1
  have := byteOf_toNat z
  omega
theorem of_two {a : Int} (h : Sh a) : ofB (byteOf (a / 256)) (byteOf a) = a := by
  obtain ⟨h1, h2⟩ := h
  unfold ofB
  rw [byteOf_toNat, byteOf_toNat]
  omega
theorem two_of (a b : UInt8) : two (ofB a b) = [a, b] := by
  have ha := a.toNat_lt
  have hb := b.toNat_lt
  rw [two, byteOf_of (b := a) (by unfold ofB; omega), byteOf_of (b := b) (by unfold ofB; omega)]
theorem byteOf_nat (b : UInt8) : byteOf (b.toNat : Int) = b := by
  have hb := b.toNat_lt
  exact byteOf_of (by omega)
abbrev headB (x : CallV) : List UInt8 := [byteOf x.no, byteOf x.f, byteOf (x.a / 256), byteOf x.a, byteOf (x.b / 256), byteOf x.b, byteOf (x.c / 256), byteOf x.c, byteOf (x.d / 256), byteOf x.d]
theorem callB_head (x : CallV) : callB x = headB x ++ x.s := rfl
theorem parse_head (x : CallV) (h : RightP x) (t : List UInt8) : parseX (headB x ++ t) = { x with s := t } := by
  have e : parseX (headB x ++ t) = ⟨((byteOf x.no).toNat : Int), ((byteOf x.f).toNat : Int), ofB (byteOf (x.a / 256)) (byteOf x.a), ofB (byteOf (x.b / 256)) (byteOf x.b), ofB (byteOf (x.c / 256)) (byteOf x.c), ofB (byteOf (x.d / 256)) (byteOf x.d), t⟩ := rfl
  have h1 := h.no
  have h2 := h.f
  rw [e, of_two h.a, of_two h.b, of_two h.c, of_two h.d, byteOf_toNat, byteOf_toNat, show x.no % 256 = x.no by omega, show x.f % 256 = x.f by omega]
theorem ten_of : ∀ (s : List UInt8), 10 ≤ s.length → s = [bt s 0, bt s 1, bt s 2, bt s 3, bt s 4, bt s 5, bt s 6, bt s 7, bt s 8, bt s 9] ++ s.drop 10
  | _ :: _ :: _ :: _ :: _ :: _ :: _ :: _ :: _ :: _ :: t, _ => rfl
theorem bytes_parse (s : List UInt8) (h : 10 ≤ s.length) : callB (parseX s) = s := by
  have e : callB (parseX s) = [byteOf ((bt s 0).toNat : Int), byteOf ((bt s 1).toNat : Int)] ++ (two (ofB (bt s 2) (bt s 3)) ++ (two (ofB (bt s 4) (bt s 5)) ++ (two (ofB (bt s 6) (bt s 7)) ++ (two (ofB (bt s 8) (bt s 9)) ++ [])))) ++ s.drop 10 := rfl
  rw [e, byteOf_nat, byteOf_nat, two_of, two_of, two_of, two_of]
  exact (ten_of s h).symm
def bytesOf (x : CallV) : List UInt8 := if RightP x then callB x else []
def bytesE (x : CallV) : Int := if RightP x then 0 else 170
def parseC (s : List UInt8) : CallV := if 10 ≤ s.length ∧ RightP (parseX s) then parseX s else zC
def parseE (s : List UInt8) : Int := if 10 ≤ s.length ∧ RightP (parseX s) then 0 else 170
theorem bytes_spec (x : CallV) : Spec Try.prog 11 [.agg x.cells.toArray] [] fun v H' => v = .tuple #[str (bytesOf x), .int .i64 (bytesE x)] ∧ H' = [] := by
  by_cases h : RightP x
  · have e1 : bytesOf x = callB x := if_pos h
    have e2 : bytesE x = 0 := if_pos h
    rw [e1, e2]; exact bytes_yes x h
  · have e1 : bytesOf x = [] := if_neg h
    have e2 : bytesE x = 170 := if_neg h
    rw [e1, e2]; exact bytes_no x h
theorem rbytes_spec (x : CallV) : Spec Try.prog 12 [.agg x.cells.toArray] [] fun v H' => v = .tuple #[str (bytesOf x), .int .i64 (bytesE x)] ∧ H' = [] := by
  by_cases h : RightP x
  · have e1 : bytesOf x = callB x := if_pos h
    have e2 : bytesE x = 0 := if_pos h
    rw [e1, e2]; exact rbytes_yes x h
  · have e1 : bytesOf x = [] := if_neg h
    have e2 : bytesE x = 170 := if_neg h
    rw [e1, e2]; exact rbytes_no x h
theorem parseV_eq (s : List UInt8) (h : 10 ≤ s.length) : parseV s = .tuple #[.agg (parseC s).cells.toArray, .int .i64 (parseE s)] := by
  unfold parseV parseC parseE
  by_cases hr : RightP (parseX s)
  · rw [if_pos hr, if_pos ⟨h, hr⟩, if_pos ⟨h, hr⟩]
  · rw [if_neg hr, if_neg (fun q => hr q.2), if_neg (fun q => hr q.2)]
theorem parse_all (s : List UInt8) (hm : s.length ≤ 9223372036854775807) : Spec Try.prog 13 [str s] [] fun v H' => v = .tuple #[.agg (parseC s).cells.toArray, .int .i64 (parseE s)] ∧ H' = [] := by
  by_cases h : 10 ≤ s.length
  · rw [← parseV_eq s h]; exact parse_spec s h hm
  · have e1 : parseC s = zC := if_neg (fun q => h q.1)
    have e2 : parseE s = 170 := if_neg (fun q => h q.1)
    rw [e1, e2]; exact parse_no s (by omega)
theorem rparse_all (s : List UInt8) (hm : s.length ≤ 9223372036854775807) : Spec Try.prog 14 [str s] [] fun v H' => v = .tuple #[.agg (parseC s).cells.toArray, .int .i64 (parseE s)] ∧ H' = [] := by
  by_cases h : 10 ≤ s.length
  · rw [← parseV_eq s h]; exact rparse_spec s h hm
  · have e1 : parseC s = zC := if_neg (fun q => h q.1)
    have e2 : parseE s = 170 := if_neg (fun q => h q.1)
    rw [e1, e2]; exact rparse_no s (by omega)
theorem take700 (s : List UInt8) : (s.take 700).length ≤ 700 := by simp; omega
theorem callMakes_spec (x : CallV) (s : List UInt8) (hx : x.s.length ≤ 9223372036854775807) (hs : s.length ≤ 9223372036854775807) :
    Spec Try.prog 3 [.agg x.cells.toArray, str s] [] fun v H' => v = .bool true ∧ H' = [] := by
  have h7 := take700 s
  refine Spec_body Try.func3 rfl Try.ntmps3 rfl (fun w0 => ?_)
  repeat (first | refine stepA ?_ | intro _)
  refine callA ?_; refine ⟨_, _, shown_spec, _, cutA, ?_⟩
  rintro v H' ⟨rfl, rfl⟩
  repeat (first | refine stepA ?_ | intro _)
  refine callA ?_; refine ⟨_, _, cut_spec x.s hx, _, cutA, ?_⟩
  rintro v H' ⟨rfl, rfl⟩
  repeat (first | refine stepA ?_ | intro _)
  refine callA ?_; refine ⟨_, _, bytes_spec { x with s := x.s.take 700 }, _, cutA, ?_⟩
  rintro v H' ⟨rfl, rfl⟩
  repeat (first | refine stepA ?_ | intro _)
  refine callA ?_; refine ⟨_, _, rbytes_spec { x with s := x.s.take 700 }, _, cutA, ?_⟩
  rintro v H' ⟨rfl, rfl⟩
  repeat (first | refine stepA ?_ | intro _)
  refine callA ?_; refine ⟨_, _, cut_spec s hs, _, cutA, ?_⟩
  rintro v H' ⟨rfl, rfl⟩
  repeat (first | refine stepA ?_ | intro _)
  refine callA ?_; refine ⟨_, _, parse_all (s.take 700) (by omega), _, cutA, ?_⟩
  rintro v H' ⟨rfl, rfl⟩
  repeat (first | refine stepA ?_ | intro _)
  refine callA ?_; refine ⟨_, _, cut_spec s hs, _, cutA, ?_⟩
  rintro v H' ⟨rfl, rfl⟩
  repeat (first | refine stepA ?_ | intro _)
  refine callA ?_; refine ⟨_, _, rparse_all (s.take 700) (by omega), _, cutA, ?_⟩
  rintro v H' ⟨rfl, rfl⟩
  repeat (first | refine stepA ?_ | intro _)
  refine W_anyH rfl ?_
  refine AS_at 0 (by decide +kernel) ?_; refine takeA ?_
  refine AS_at 1 (by decide +kernel) ?_; refine takeA ?_
  refine AS_at 2 (by decide +kernel) ?_; refine takeA ?_
  refine AS_at 4 (by decide +kernel) ?_; refine takeA ?_
  refine AS_one 3 rfl (by decide +kernel) rfl ?_
  refine stepA ?_
  refine callA ?_; refine ⟨_, _, right_spec { x with s := x.s.take 700 }, _, cutA, ?_⟩
  rintro v H' ⟨rfl, rfl⟩
  refine L_nil ?_; refine ⟨rfl, (by first | exact KeepsH.brk (by decide +kernel) | exact KeepsH.sub subA), ?_⟩
  refine AS_one 5 rfl (by decide +kernel) rfl ?_
  refine stepA ?_
  refine callA ?_; refine ⟨_, _, rright_spec { x with s := x.s.take 700 }, _, cutA, ?_⟩
  rintro v H' ⟨rfl, rfl⟩
  refine L_nil ?_; refine ⟨rfl, (by first | exact KeepsH.brk (by decide +kernel) | exact KeepsH.sub subA), ?_⟩
  refine AS_at 6 (by decide +kernel) ?_; refine takeA ?_
  refine AS_at 7 (by decide +kernel) ?_; refine takeA ?_
  refine AS_at 8 (by decide +kernel) ?_; refine takeA ?_
  refine AS_at 9 (by decide +kernel) ?_; refine takeA ?_
  refine AS_at 10 (by decide +kernel) ?_; refine takeA ?_
  refine AS_at 11 (by decide +kernel) ?_; refine takeA ?_
  refine AS_at 12 (by decide +kernel) ?_; refine takeA ?_
  refine AS_at 13 (by decide +kernel) ?_; refine takeA ?_
  refine AS_at 14 (by decide +kernel) ?_; refine takeA ?_
  refine AS_at 15 (by decide +kernel) ?_; refine takeA ?_
  refine AS_at 16 (by decide +kernel) ?_; refine takeA ?_
  refine AS_at 17 (by decide +kernel) ?_; refine takeA ?_
  refine AS_at 18 (by decide +kernel) ?_; refine takeA ?_
  refine AS_at 19 (by decide +kernel) ?_; refine takeA ?_
  refine AS_at 20 (by decide +kernel) ?_; refine takeA ?_
  refine AS_one 21 rfl (by decide +kernel) rfl ?_
  refine stepA ?_
  (first | (apply L_P; (· exact rfl); (· exact rfl)) | (apply QL_P; (· exact rfl))); (· (apply P_eqS; (· exact evA); (· exact evA); (· exact callFit (parseC (s.take 700))); (· exact callFit (parseC (s.take 700))); (· exact (⟨fun _ => rfl, fun _ => rfl⟩ : true = true ↔ _))))
  refine L_nil ?_; refine ⟨rfl, (by first | exact KeepsH.brk (by decide +kernel) | exact KeepsH.sub subA), ?_⟩
  refine AS_at 22 (by decide +kernel) ?_; refine takeA ?_
  refine AS_at 23 (by decide +kernel) ?_; refine takeA ?_
  refine AS_at 24 (by decide +kernel) ?_; refine takeA ?_
  refine AS_at 25 (by decide +kernel) ?_; refine takeA ?_
  refine AS_at 26 (by decide +kernel) ?_; refine takeA ?_
  refine AS_at 27 (by decide +kernel) ?_; refine takeA ?_
  refine AS_at 28 (by decide +kernel) ?_; refine takeA ?_
  refine AS_done (by decide +kernel) ?_
  repeat (first | refine stepA ?_ | intro _)
  (first | refine retA ?_ | refine retB ?_); exact ⟨_, ⟨rfl, rfl⟩, subA⟩
end Go.Proofs.Ytkcfckjiagjocaa
