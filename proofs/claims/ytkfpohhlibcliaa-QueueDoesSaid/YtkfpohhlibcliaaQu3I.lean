/-
  Queues of int: the place of a thing; Drop.
-/
import Derived.Test.YtkfpohhlibcliaaQu2I
namespace Go.Proofs.Ytkfpohhlibcliaa
open Go.RowKit
attribute [local irreducible] W L QL PureOp thenQ blockQ retQ Spec IterOk YSpec roundQ scopeQ noGoQ
attribute [local irreducible] AS ASi
set_option maxHeartbeats 1600000
/-- the first place of v in xs; -1: it is nowhere -/
def placeOfI (v : AlI) : List AlI → Int
  | [] => -1
  | x :: xs => if x = v then 0 else if placeOfI v xs < 0 then -1 else placeOfI v xs + 1
theorem placeOfI_none {v : AlI} : ∀ {xs : List AlI}, (∀ (j : Nat) (x : AlI), xs[j]? = some x → x ≠ v) → placeOfI v xs = -1
  | [], _ => rfl
  | x :: xs, h => by
    have h0 := h 0 x rfl
    have ih := placeOfI_none (v := v) (xs := xs) (fun j y hj => h (j + 1) y (by simpa using hj))
    simp [placeOfI, h0, ih]
theorem placeOfI_some {v : AlI} : ∀ {xs : List AlI} {k : Nat}, xs[k]? = some v → (∀ (j : Nat) (x : AlI), j < k → xs[j]? = some x → x ≠ v) → placeOfI v xs = (k : Int)
  | [], k, h, _ => by simp at h
  | x :: xs, 0, h, _ => by simp at h; simp [placeOfI, h]
  | x :: xs, k + 1, h, hb => by
    have h0 := hb 0 x (by omega) rfl
    have ih := placeOfI_some (v := v) (xs := xs) (k := k) (by simpa using h) (fun j y hj hy => hb (j + 1) y (by omega) (by simpa using hy))
    have hn : ¬ ((k : Int) < 0) := by omega
    simp only [placeOfI, h0, if_false, ih, hn]
    omega
theorem placeI (bx p first g : Nat) (E : TypeId) (hs xs : List AlI) (v : AlI) (hq : QR hs first xs) :
    Spec Try.prog 27 [.func (.func 31) #[] #[.pointer (some ⟨bx, 0, none⟩)], .slice (some ⟨g, 0, none⟩) 1 1] (bHI bx p hs first xs.length ++ [(g, .cells [elI v] E)])
      fun u H' => u = .int .i64 (placeOfI v xs) ∧ H' = bHI bx p hs first xs.length ++ [(g, .cells [elI v] E)] := by
  have hn := hq.n
  refine Spec_body Try.func27 rfl Try.ntmps27 rfl (fun w0 => ?_)
  simp only [List.cons_append, List.nil_append]
  repeat (first | refine stepA ?_ | intro _)
  rename_i b3 b5
  have inst : FnOk Try.prog 31 := inferInstance
  refine W_range rfl (ev_of rfl (by with_reducible rfl)) inst (iterI bx p first hs xs hq) (fun _ => rfl) (by simp)
    (fun s Hc => (∀ (j : Nat) (x : AlI), j < s → xs[j]? = some x → x ≠ v) ∧ Hc = bHI bx p hs first xs.length ++ [(g, .cells [elI v] E), (b3, .cells [.slice (some ⟨g, 0, none⟩) 1 1] 41), (b5, .cells [.int .i64 (-1)] 3)])
    (fun c Hc => c = .exit 0 ∧ Hc = bHI bx p hs first xs.length ++ [(g, .cells [elI v] E), (b5, .cells [.int .i64 (placeOfI v xs)] 3)])
    ?_ ⟨_, ⟨fun j x hj => absurd hj (by omega), rfl⟩, subA⟩ ?_ ?_ ?_
  · rintro s Hc u w ⟨_, rfl⟩
    exact ⟨_, by exact cutA⟩
  · rintro y s Hc w1 ⟨hno, rfl⟩ hok
    obtain ⟨x, hx⟩ : ∃ x, xs[s]? = some x := ⟨xs[s], by simp [hok]⟩
    have hgd : xs.getD s zeI = x := by simp [List.getD, hx]
    rw [hgd]
    simp only [List.cons_append, List.nil_append]
    repeat (first | refine stepA ?_ | intro _)
    refine ⟨rfl, fun w2 => ?_⟩
    repeat (first | refine stepA ?_ | intro _)
    refine W_loop (fun k : Nat => [(5, .pointer (some ⟨b5, 0, none⟩)), (6, .int .i64 (s : Int)), (7, elI x), (13, .slice (some ⟨g, 0, none⟩) 1 1), (14, .int .i64 1), (15, .int .i64 (k : Int))])
      (fun _ => bHI bx p hs first xs.length ++ [(g, .cells [elI v] E), (b3, .cells [.slice (some ⟨g, 0, none⟩) 1 1] 41), (b5, .cells [.int .i64 (-1)] 3)]) (fun k => k ≤ 1 ∧ (k = 1 → x ≠ v)) (fun k => 1 - k) 0 ⟨by omega, fun h => by omega⟩ sublA subA ?_
    rintro k ⟨hk, hne⟩
    simp only [List.cons_append, List.nil_append]
    by_cases hk0 : k < 1
    · obtain rfl : k = 0 := by omega
      by_cases he : x = v
      · subst he
        have hp := placeOfI_some hx hno
        repeat (first | refine stepA ?_ | intro _)
        refine roundQ_e ⟨rfl, rfl⟩ ?_
        rw [hp]
        exact subA
      · repeat (first | refine stepA ?_ | intro _)
        exact ⟨rfl, 1, ⟨by omega, fun _ => he⟩, by omega, sublA, subA⟩
    · obtain rfl : k = 1 := by omega
      repeat (first | refine stepA ?_ | intro _)
      refine roundQ_n ⟨fun j y hj hy => ?_, rfl⟩ subA
      rcases Nat.lt_succ_iff_lt_or_eq.1 hj with h | rfl
      · exact hno j y h hy
      · rw [hx] at hy; cases hy; exact hne rfl
  · rintro D s Hc hfin ⟨hno, rfl⟩
    have hp := placeOfI_none (v := v) (xs := xs) (fun j x hj => hno j x (by rw [hfin]; exact (List.getElem?_eq_some_iff.1 hj).1) hj)
    rw [hp]
    simp only [List.cons_append, List.nil_append]
    repeat (first | refine stepA ?_ | intro _)
    (first | refine retA ?_ | refine retB ?_); exact ⟨_, ⟨rfl, rfl⟩, subA⟩
  · rintro D c Hc ⟨rfl, rfl⟩
    simp only [List.cons_append, List.nil_append]
    repeat (first | refine stepA ?_ | intro _)
    (first | refine retA ?_ | refine retB ?_); exact ⟨_, ⟨rfl, rfl⟩, subA⟩
end Go.Proofs.Ytkfpohhlibcliaa
