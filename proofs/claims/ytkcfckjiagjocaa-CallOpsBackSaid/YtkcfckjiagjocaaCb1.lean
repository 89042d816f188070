/-
  strings.Builder; shorts; the document's answer: two.
-/
import Derived.Test.YtkcfckjiagjocaaCa1
import Derived.Test.YtkcfckjiagjocaaE13
namespace Go.Proofs.Ytkcfckjiagjocaa
open Go.RowKit
attribute [local irreducible] W L QL PureOp thenQ blockQ retQ Spec IterOk YSpec roundQ scopeQ noGoQ
attribute [local irreducible] AS ASi
set_option maxHeartbeats 1600000
abbrev pB (b : Nat) : Value := .pointer (some ⟨b, 0, none⟩)
abbrev bld (b : Nat) (p a : Option Addr) (n cap : Nat) : Nat × Blk := (b, .cells [.pointer p, .slice a n cap] 59)
abbrev oB (a : Option Addr) (n cap : Nat) (s : List UInt8) (Hs : Hp) : Prop := Own 5 1 a n cap (bts s) Hs
theorem copyFresh (b : Nat) (v : Value) : Spec Try.prog 40 [pB b] [(b, .cells [.pointer none, v] 59)] fun u H' => u = .tuple #[] ∧ H' = [(b, .cells [pB b, v] 59)] := by
  obtain ⟨j, hj, hjs⟩ := Option.map_eq_some_iff.1 (Ty.size (P := Try.prog) (t := 59))
  refine Spec_body Try.func40 rfl Try.ntmps40 rfl (fun w0 => ?_)
  repeat (first | refine stepA ?_ | intro _)
  (first | (apply L_P; (· exact rfl); (· exact rfl)) | (apply QL_P; (· exact rfl))); (· (apply P_toUnsafe; (· exact evA); (· exact pullA); (· exact Try.underlying57); (· exact Try.underlying72); (· exact hj); (· rw [hjs]; decide); (· exact Nat.zero_lt_succ 1)))
  repeat (first | refine stepA ?_ | intro _)
  (first | (apply L_P; (· exact rfl); (· exact rfl)) | (apply QL_P; (· exact rfl))); (· (apply P_extern; (· exact rfl); (· exact rfl); (· exact (show ∀ w, (callFunc 41 [pB b].toArray).run Try.prog w = .ok (.value (pB b)) w from fun w => by rw [run_callFunc_extern Try.func41 (by kernel_rfl) (by kernel_rfl) (by kernel_rfl) (e := Extern.AbiNoEscape.same) (by kernel_rfl)]; rfl))))
  repeat (first | refine stepA ?_ | intro _)
  (first | (apply L_P; (· exact rfl); (· exact rfl)) | (apply QL_P; (· exact rfl))); (· (apply P_fromUnsafe; (· exact evA); (· exact pullA); (· exact Try.underlying72); (· exact Try.underlying57); (· exact hj); (· kernel_rfl)))
  repeat (first | refine stepA ?_ | intro _)
  (first | refine retA ?_ | refine retB ?_); exact ⟨_, ⟨rfl, rfl⟩, subA⟩
theorem copyUsed (b : Nat) (v : Value) : Spec Try.prog 40 [pB b] [(b, .cells [pB b, v] 59)] fun u H' => u = .tuple #[] ∧ H' = [(b, .cells [pB b, v] 59)] := by
  obtain ⟨j, hj, hjs⟩ := Option.map_eq_some_iff.1 (Ty.size (P := Try.prog) (t := 59))
  refine Spec_body Try.func40 rfl Try.ntmps40 rfl (fun w0 => ?_)
  repeat (first | refine stepA ?_ | intro _)
  (first | (apply L_P; (· exact rfl); (· exact rfl)) | (apply QL_P; (· exact rfl))); (· (apply P_neqPtrSame; (· exact evA); (· exact evA); (· exact Try.underlying57); (· exact hj)))
  repeat (first | refine stepA ?_ | intro _)
  (first | refine retA ?_ | refine retB ?_); exact ⟨_, ⟨rfl, rfl⟩, subA⟩
theorem copy_spec (b : Nat) (p : Option Addr) (v : Value) (hp : p = none ∨ p = some ⟨b, 0, none⟩) : Spec Try.prog 40 [pB b] [(b, .cells [.pointer p, v] 59)] fun u H' => u = .tuple #[] ∧ H' = [(b, .cells [pB b, v] 59)] := by
  rcases hp with rfl | rfl
  · exact copyFresh b v
  · exact copyUsed b v
theorem wbyte (b : Nat) (p a : Option Addr) (n cap : Nat) (s : List UInt8) (c : UInt8) (z : Int) (Hs : Hp) (hz : z = (c.toNat : Int)) (hp : p = none ∨ p = some ⟨b, 0, none⟩) (how : oB a n cap s Hs) (hn : n ≤ 100000) :
    Spec Try.prog 36 [pB b, .int .u8 z] (bld b p a n cap :: Hs) fun u H' => u = .nilIface ∧ ∃ a' cap' Hs', oB a' (n + 1) cap' (s ++ [c]) Hs' ∧ H' = bld b (some ⟨b, 0, none⟩) a' (n + 1) cap' :: Hs' := by
  subst hz
  have e : bts s ++ bts [c] = bts (s ++ [c]) := by simp [bts]
  refine Spec_body Try.func36 rfl Try.ntmps36 rfl (fun w0 => ?_)
  repeat (first | refine stepA ?_ | intro _)
  refine callA ?_; refine ⟨_, _, copy_spec b p _ hp, _, cutA, ?_⟩
  rintro u H' ⟨rfl, rfl⟩
  simp only [List.cons_append, List.nil_append]
  repeat (first | refine stepA ?_ | intro _)
  rename_i gb
  apply L_append
  · exact rfl
  · exact evA
  · exact evA
  · exact how
  · exact tailA
  · exact Lies.cells (k := 1) (news := bts [c]) pullA rfl
  · rfl
  · simp [Value.oneCell']
  · omega
  · simp only [maxLen]; omega
  · omega
  · rfl
  rintro g cap' ys h1 h2 h3
  have hl := how.len
  rw [e] at h1 ⊢
  repeat (first | refine stepA ?_ | intro _)
  (first | refine retA ?_ | refine retB ?_)
  exact ⟨_, ⟨rfl, _, _, _, Own.blk (by simp at hl ⊢; omega) h1 h2 h3, rfl⟩, subT⟩
theorem bstring (b : Nat) (p a : Option Addr) (n cap : Nat) (s : List UInt8) (Hs : Hp) (how : oB a n cap s Hs) (h0 : s ≠ []) (hn : n ≤ 100000) :
    Spec Try.prog 38 [pB b] (bld b p a n cap :: Hs) fun u H' => u = str s ∧ H' = [] := by
  have hl := how.len
  simp at hl
  rcases how.inv with ⟨_, rfl, _, _, _⟩ | ⟨g, ys, rfl, rfl, hx, hc, hnc, hm⟩
  · exact absurd (by simpa using hl) h0
  have hcap : cap ≠ 0 := by
    have : s.length ≠ 0 := by simpa using h0
    omega
  refine Spec_body Try.func38 rfl Try.ntmps38 rfl (fun w0 => ?_)
  repeat (first | refine stepA ?_ | intro _)
  refine W_any [bld b p (some ⟨g, 0, none⟩) n cap] [10] rfl ?_
  repeat refine asA ?_
  refine oneA ?_
  (first | (apply L_P; (· exact rfl); (· exact rfl)) | (apply QL_P; (· exact rfl))); (· (apply P_sliceData; (· exact evA); (· exact hcap)))
  refine L_nil ?_; refine ⟨rfl, (by first | exact KeepsH.brk (by decide +kernel) | exact KeepsH.sub subA), ?_⟩; repeat refine asA ?_
  refine oneA ?_
  apply L_unsafeString
  · exact rfl
  · exact evA
  · exact evA
  · exact pullA
  · exact Try.underlying71
  · kernel_rfl
  · rw [List.take_append_of_le_length (by omega), List.take_of_length_le (by omega)]
  · exact hl
  · exact h0
  · omega
  refine L_nil ?_; refine ⟨rfl, (by first | exact KeepsH.brk (by decide +kernel) | exact KeepsH.sub subA), ?_⟩; repeat refine asA ?_
  repeat (first | refine stepA ?_ | intro _)
  (first | refine retA ?_ | refine retB ?_); exact ⟨_, ⟨rfl, rfl⟩, subA⟩
theorem bstring_nil (b : Nat) (p : Option Addr) : Spec Try.prog 38 [pB b] [bld b p none 0 0] fun u H' => u = str [] ∧ H' = [] := by
  refine Spec_body Try.func38 rfl Try.ntmps38 rfl (fun w0 => ?_)
  repeat (first | refine stepA ?_ | intro _)
  refine W_any [bld b p none 0 0] [10] rfl ?_
  repeat refine asA ?_
  refine oneA ?_
  (first | (apply L_P; (· exact rfl); (· exact rfl)) | (apply QL_P; (· exact rfl))); (· (apply P_sliceDataNil; (· exact evA)))
  refine L_nil ?_; refine ⟨rfl, (by first | exact KeepsH.brk (by decide +kernel) | exact KeepsH.sub subA), ?_⟩; repeat refine asA ?_
  refine oneA ?_
  (first | (apply L_P; (· exact rfl); (· exact rfl)) | (apply QL_P; (· exact rfl))); (· (apply P_unsafeStringNone; (· exact evA); (· exact evA); (· rfl)))
  refine L_nil ?_; refine ⟨rfl, (by first | exact KeepsH.brk (by decide +kernel) | exact KeepsH.sub subA), ?_⟩; repeat refine asA ?_
  repeat (first | refine stepA ?_ | intro _)
  (first | refine retA ?_ | refine retB ?_); exact ⟨_, ⟨rfl, rfl⟩, subA⟩
abbrev byteOf (z : Int) : UInt8 := UInt8.ofNat (z % 256).toNat
theorem byteOf_wrap (z : Int) : IntKind.u8.wrap z = ((byteOf z).toNat : Int) := by
  rw [IntKind.wrap_u8]
  simp [UInt8.toNat_ofNat']
  omega
abbrev two (n : Int) : List UInt8 := [byteOf (n / 256), byteOf n]
def twos : List Int → List UInt8
  | [] => []
  | x :: xs => two x ++ twos xs
theorem twos_len : ∀ xs : List Int, (twos xs).length = 2 * xs.length
  | [] => rfl
  | x :: xs => by simp [twos, twos_len xs]; omega
theorem twos_snoc (x : Int) : ∀ xs : List Int, twos (xs ++ [x]) = twos xs ++ two x
  | [] => by simp [twos]
  | y :: xs => by simp [twos, twos_snoc x xs]
theorem take_next' {α : Type} {M : List α} {k : Nat} {f : α} (hk : M[k]? = some f) : M.take (k + 1) = M.take k ++ [f] := by
  obtain ⟨hl, rfl⟩ := List.getElem?_eq_some_iff.1 hk
  rw [List.take_succ_eq_append_getElem hl]
theorem shorts_spec (g n : Nat) (E : TypeId) (xs : List Int) (hl : xs.length = n) (hn : n ≤ 1000) (h0 : 0 < n) :
    Spec Try.prog 26 [.slice (some ⟨g, 0, none⟩) n n] [(g, .cells (xs.map elI) E)] fun v H' => v = str (twos xs) ∧ H' = [] := by
  refine Spec_body Try.func26 rfl Try.ntmps26 rfl (fun w0 => ?_)
  repeat (first | refine stepA ?_ | intro _)
  rename_i b
  refine W_loop (fun x : Nat × Option Addr × Option Addr × Nat × Hp => [(3, pB b), (6, .slice (some ⟨g, 0, none⟩) n n), (7, .int .i64 (n : Int)), (8, .int .i64 (x.1 : Int))]) (fun x => (g, .cells (xs.map elI) E) :: bld b x.2.1 x.2.2.1 (2 * x.1) x.2.2.2.1 :: x.2.2.2.2)
    (fun x => x.1 ≤ n ∧ (x.2.1 = none ∨ x.2.1 = some ⟨b, 0, none⟩) ∧ oB x.2.2.1 (2 * x.1) x.2.2.2.1 (twos (xs.take x.1)) x.2.2.2.2) (fun x => n - x.1) (0, none, none, 0, []) ⟨by simp only; omega, .inl rfl, Own.nil⟩ sublA subA ?_
  rintro ⟨k, p, a, cap, Hs⟩ ⟨hk, hp, how⟩
  simp only at hk hp how ⊢
  by_cases hlt : k < n
  · obtain ⟨x, hx⟩ : ∃ x, xs[k]? = some x := ⟨xs[k]'(by omega), by simp [hl, hlt]⟩
    have e1 : (xs.map elI)[k]? = some (.int .i64 x) := by simp [hx]
    repeat (first | refine stepA ?_ | intro _)
    refine callT ?_; refine ⟨_, _, wbyte b p a (2 * k) cap _ (byteOf (x / 256)) _ Hs (byteOf_wrap _) hp how (by omega), _, cutT, ?_⟩
    rintro u H' ⟨rfl, a1, cap1, Hs1, how1, rfl⟩
    simp only [List.cons_append, List.nil_append]
    repeat (first | refine stepA ?_ | intro _)
    refine callT ?_; refine ⟨_, _, wbyte b _ a1 (2 * k + 1) cap1 _ (byteOf x) _ Hs1 (byteOf_wrap _) (.inr rfl) how1 (by omega), _, cutT, ?_⟩
    rintro u H' ⟨rfl, a2, cap2, Hs2, how2, rfl⟩
    simp only [List.cons_append, List.nil_append]
    have e2 : twos (xs.take k) ++ [byteOf (x / 256)] ++ [byteOf x] = twos (xs.take (k + 1)) := by rw [take_next' hx, twos_snoc]; simp
    have e3 : 2 * k + 1 + 1 = 2 * (k + 1) := by omega
    rw [e2, e3] at how2
    rw [e3]
    repeat (first | refine stepA ?_ | intro _)
    exact ⟨rfl, (k + 1, _, a2, cap2, Hs2), ⟨by simp only; omega, .inr rfl, how2⟩, by simp only; omega, sublA, subT⟩
  · obtain rfl : k = n := by omega
    rw [List.take_of_length_le (by omega)] at how
    have hne : twos xs ≠ [] := fun h => by
      have := twos_len xs
      rw [h] at this
      simp at this
      omega
    repeat (first | refine stepA ?_ | intro _)
    refine callT ?_; refine ⟨_, _, bstring b p a _ cap _ Hs how hne (by omega), _, cutT, ?_⟩
    rintro u H' ⟨rfl, rfl⟩
    repeat (first | refine stepA ?_ | intro _)
    (first | refine retA ?_ | refine retB ?_); exact ⟨_, ⟨rfl, rfl⟩, subA⟩
theorem rtwo_spec (n : Int) : Spec Try.prog 27 [.int .i64 n] [] fun v H' => v = str (two n) ∧ H' = [] := by
  have e1 := byteOf_wrap (n / 256)
  have e2 := byteOf_wrap n
  refine Spec_body Try.func27 rfl Try.ntmps27 rfl (fun w0 => ?_)
  repeat (first | refine stepA ?_ | intro _)
  rename_i gb
  (first | (apply L_P; (· exact rfl); (· exact rfl)) | (apply QL_P; (· exact rfl))); (· (apply P_bytesStr; (· exact evA); (· exact pullA); (· exact (show _ = bts (two n) by rw [e1, e2]; rfl)); (· exact rfl)))
  repeat (first | refine stepA ?_ | intro _)
  (first | refine retA ?_ | refine retB ?_); exact ⟨_, ⟨rfl, rfl⟩, subA⟩
end Go.Proofs.Ytkcfckjiagjocaa
