/-
  Queues of string: Drop.
-/
import Derived.Test.YtkfpohhlibcliaaQu3S
namespace Go.Proofs.Ytkfpohhlibcliaa
open Go.RowKit
attribute [local irreducible] W L QL PureOp thenQ blockQ retQ Spec IterOk YSpec roundQ scopeQ noGoQ
attribute [local irreducible] AS ASi
set_option maxHeartbeats 1600000
theorem placeOfS_cases (v : AlS) : ∀ (xs : List AlS), placeOfS v xs = -1 ∨ ∃ k : Nat, placeOfS v xs = (k : Int) ∧ k < xs.length
  | [] => .inl rfl
  | x :: xs => by
    by_cases h : x = v
    · exact .inr ⟨0, by simp [placeOfS, h], by simp⟩
    · rcases placeOfS_cases v xs with h1 | ⟨k, h1, h2⟩
      · left; simp [placeOfS, h, h1]
      · right
        have hn : ¬ ((k : Int) < 0) := by omega
        refine ⟨k + 1, by simp only [placeOfS, h, if_false, h1, hn]; omega, by simp; omega⟩
theorem dropS_no (p first : Nat) (hs xs : List AlS) (v : AlS) (hq : QR hs first xs) (hv : placeOfS v xs = -1) :
    Spec Try.prog 17 [.pointer (some ⟨p, 0, none⟩), elS v] (qHS p hs first xs.length) fun u H' => u = .int .i64 70 ∧ H' = qHS p hs first xs.length := by
  refine Spec_body Try.func17 rfl Try.ntmps17 rfl (fun w0 => ?_)
  repeat (first | refine stepA ?_ | intro _)
  refine callA ?_; refine ⟨_, _, eachS p first xs.length hs, _, cutA, ?_⟩
  rintro u H' ⟨bx, rfl, rfl⟩
  repeat (first | refine stepA ?_ | intro _)
  rename_i g
  refine callA ?_; refine ⟨_, _, placeS bx p first g _ hs xs v hq, _, cutA, ?_⟩
  rintro u H' ⟨rfl, rfl⟩
  rw [hv]
  repeat (first | refine stepA ?_ | intro _)
  (first | refine retA ?_ | refine retB ?_); exact ⟨_, ⟨rfl, rfl⟩, subA⟩
theorem dropS (p first k : Nat) (hs xs : List AlS) (v : AlS) (hq : QR hs first xs) (hv : placeOfS v xs = (k : Int)) (hk : k < xs.length) :
    Spec Try.prog 17 [.pointer (some ⟨p, 0, none⟩), elS v] (qHS p hs first xs.length) fun u H' => u = .int .i64 0 ∧ ∃ hs', QR hs' first (xs.eraseIdx k) ∧ H' = qHS p hs' first (xs.eraseIdx k).length := by
  have hn := hq.n
  refine Spec_body Try.func17 rfl Try.ntmps17 rfl (fun w0 => ?_)
  repeat (first | refine stepA ?_ | intro _)
  refine callA ?_; refine ⟨_, _, eachS p first xs.length hs, _, cutA, ?_⟩
  rintro u H' ⟨bx, rfl, rfl⟩
  repeat (first | refine stepA ?_ | intro _)
  rename_i g
  refine callA ?_; refine ⟨_, _, placeS bx p first g _ hs xs v hq, _, cutA, ?_⟩
  rintro u H' ⟨rfl, rfl⟩
  rw [hv]
  repeat (first | refine stepA ?_ | intro _)
  refine W_loop (fun x : Nat × List AlS × List AlS => [(0, .pointer (some ⟨p, 0, none⟩)), (5, .int .i64 (x.1 : Int))]) (fun x => qHS p x.2.1 first xs.length)
    (fun x => x.1 < xs.length ∧ k ≤ x.1 ∧ QR x.2.1 first x.2.2 ∧ x.2.2.length = xs.length ∧ (∀ m, m < x.1 → x.2.2[m]? = (xs.eraseIdx k)[m]?) ∧ ∀ m, x.1 ≤ m → x.2.2[m]? = xs[m]?) (fun x => xs.length - x.1) (k, hs, xs)
    ⟨hk, by omega, hq, rfl, fun m hm => (List.getElem?_eraseIdx_of_lt hm).symm, fun _ _ => rfl⟩ sublA subA ?_
  rintro ⟨j, hs2, ys⟩ ⟨hj, hkj, hq2, hyl, hbef, haft⟩
  simp only at hj hkj hq2 hyl hbef haft ⊢
  have h65 := qcS_n (first := first) (n := xs.length) hq2.len
  by_cases hlt : j + 1 < xs.length
  · obtain ⟨x, hx⟩ : ∃ x, ys[j + 1]? = some x := ⟨ys[j + 1]'(by omega), by simp [hyl, hlt]⟩
    have hgx := qcS_at (first := first) (n := xs.length) (hq2.get (j + 1) x hx)
    have hq3 := hq2.set (i := j) (by omega) x
    repeat (first | refine stepA ?_ | intro _)
    refine W_anyH rfl ?_; repeat refine asA ?_
    refine oneA ?_
    refine callA ?_; refine ⟨_, _, atS p first xs.length j hs2 hq2.len hq2.f (by omega), _, cutA, ?_⟩
    rintro u H' ⟨rfl, rfl⟩
    refine L_nil ?_; refine ⟨rfl, (by first | exact KeepsH.brk (by decide +kernel) | exact KeepsH.sub subA), ?_⟩; repeat refine asA ?_
    refine oneA ?_
    refine callA ?_; refine ⟨_, _, atS p first xs.length (j + 1) hs2 hq2.len hq2.f (by omega), _, cutA, ?_⟩
    rintro u H' ⟨rfl, rfl⟩
    refine L_nil ?_; refine ⟨rfl, (by first | exact KeepsH.brk (by decide +kernel) | exact KeepsH.sub subA), ?_⟩; repeat refine asA ?_
    refine oneA ?_
    apply L_store1; (· exact evA); (· exact rfl); (· exact rfl); (· exact rfl); (· exact repA); (· exact qcS_set (by rw [hq2.len]; omega)); (· rw [qcS_len hq2.len]; omega)
    refine L_nil ?_; refine ⟨rfl, (by first | exact KeepsH.brk (by decide +kernel) | exact KeepsH.sub subA), ?_⟩; repeat refine asA ?_
    repeat (first | refine stepA ?_ | intro _)
    refine ⟨rfl, (j + 1, hs2.set ((first + j) % 64) x, ys.set j x), ⟨by simp only; omega, by simp only; omega, hq3, by simp [hyl], fun m hm => ?_, fun m hm => ?_⟩, by simp only; omega, sublA, subA⟩
    · simp only at hm ⊢
      by_cases he : j = m
      · subst he
        rw [List.getElem?_set_self (by omega), List.getElem?_eraseIdx_of_ge hkj, ← haft (j + 1) (by omega), hx]
      · rw [List.getElem?_set_ne he]
        exact hbef m (by omega)
    · simp only at hm ⊢
      rw [List.getElem?_set_ne (by omega)]
      exact haft m (by omega)
  · have hel : (xs.eraseIdx k).length = xs.length - 1 := by rw [List.length_eraseIdx, if_pos hk]
    have hys : ys = xs.eraseIdx k ++ [ys[j]'(by omega)] := by
      apply List.ext_getElem?
      intro m
      by_cases hm : m < j
      · rw [List.getElem?_append_left (by rw [hel]; omega)]
        exact hbef m hm
      · by_cases hm2 : m = j
        · subst hm2
          rw [List.getElem?_append_right (by rw [hel]; omega), hel]
          rw [show m - (xs.length - 1) = 0 by omega]
          simp
        · rw [List.getElem?_eq_none (by omega), List.getElem?_eq_none (by simp [hel]; omega)]
    rw [hys] at hq2
    have hq3 := hq2.less
    repeat (first | refine stepA ?_ | intro _)
    apply L_store1; (· exact evA); (· exact rfl); (· exact rfl); (· exact rfl); (· exact repA); (· exact qcS_setn (k := (xs.eraseIdx k).length) hq3.len (by rw [hel]; omega)); (· rw [qcS_len hq3.len]; omega)
    repeat (first | refine stepA ?_ | intro _)
    (first | refine retA ?_ | refine retB ?_); exact ⟨_, ⟨rfl, hs2, hq3, rfl⟩, subA⟩
end Go.Proofs.Ytkfpohhlibcliaa
