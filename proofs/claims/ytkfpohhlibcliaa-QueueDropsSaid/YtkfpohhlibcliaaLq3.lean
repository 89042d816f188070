/-
  The law QueueOrder: its walk.
-/
import Derived.Test.YtkfpohhlibcliaaLq1
namespace Go.Proofs.Ytkfpohhlibcliaa
open Go.RowKit
attribute [local irreducible] W L QL PureOp thenQ blockQ retQ Spec IterOk YSpec roundQ scopeQ noGoQ
attribute [local irreducible] AS ASi
set_option maxHeartbeats 6400000
/-- numbers in a slice that was handed in -/
def NumsAt (C : Array Value) (o : Nat) (xs : List Int) : Prop := ∀ i x, xs[i]? = some x → C.toList[o + i]? = some (.int .i64 x)
theorem nums_get {C : Array Value} {o : Nat} {xs : List Int} (h : NumsAt C o xs) {i : Nat} {x : Int} (hx : xs[i]? = some x) : C.toList[o + i * 1]? = some (.int .i64 x) := by
  rw [Nat.mul_one]; exact h i x hx
theorem drop_at {α : Type} {M : List α} {k : Nat} {x : α} (h : M[k]? = some x) : M.drop k = x :: M.drop (k + 1) := by
  obtain ⟨hl, rfl⟩ := List.getElem?_eq_some_iff.1 h
  exact List.drop_eq_getElem_cons hl
theorem part_next {α : Type} {l : List α} {i a : Nat} {x : α} (h : l[i]? = some x) (ha : a ≤ i) : (l.take i).drop a ++ [x] = (l.take (i + 1)).drop a := by
  have hl := (List.getElem?_eq_some_iff.1 h).1
  rw [take_next' h, List.drop_append_of_le_length (by simp; omega)]
theorem part_head {α : Type} {l : List α} {n a : Nat} {x : α} (h : l[a]? = some x) (ha : a < n) : (l.take n).drop a = x :: (l.take n).drop (a + 1) :=
  drop_at (by rw [List.getElem?_take, if_pos ha]; exact h)
theorem order_nil (p : Option Addr) (cap : Nat) (b : Int) : Spec Try.prog 4 [.slice p 0 cap, .int .i64 b] [] fun v H' => v = .bool true ∧ H' = [] := by
  refine Spec_body Try.func4 rfl Try.ntmps4 rfl (fun w0 => ?_)
  repeat (first | refine stepA ?_ | intro _)
  refine callA ?_; refine ⟨_, _, shown_spec, _, cutA, ?_⟩
  rintro v H' ⟨rfl, rfl⟩
  repeat (first | refine stepA ?_ | intro _)
  refine callA ?_; refine ⟨_, _, newI, _, cutA, ?_⟩
  rintro v H' ⟨p1, rfl, rfl⟩
  have q0 : QR (List.replicate 64 zeI) 0 ([] : List Int) := QR.new 0
  repeat (first | refine stepA ?_ | intro _)
  refine W_loop (fun i : Nat => [(0, .slice p 0 cap), (5, .bool true), (6, .pointer (some ⟨p1, 0, none⟩)), (7, .int .i64 0), (8, .int .i64 0)]) (fun i => qHI p1 (List.replicate 64 zeI) 0 0) (fun _ => True) (fun _ => 0) 0 trivial sublA subA ?_
  intro i _
  repeat (first | refine stepA ?_ | intro _)
  refine W_loop (fun i : Nat => [(0, .slice p 0 cap), (5, .bool true), (6, .pointer (some ⟨p1, 0, none⟩)), (7, .int .i64 0)]) (fun i => qHI p1 (List.replicate 64 zeI) 0 0) (fun _ => True) (fun _ => 0) 0 trivial sublA subA ?_
  intro i _
  repeat (first | refine stepA ?_ | intro _)
  refine callA ?_; refine ⟨_, _, lenI p1 0 0 _ q0.len, _, cutA, ?_⟩
  rintro u H' ⟨rfl, rfl⟩
  repeat (first | refine stepA ?_ | intro _)
  (first | refine retA ?_ | refine retB ?_); exact ⟨_, ⟨rfl, rfl⟩, subA⟩
theorem order_spec (g o len cap : Nat) (C : Array Value) (E : TypeId) (fr : Nat × Nat) (xs : List Int) (b : Int) (hl : xs.length = len) (hx : NumsAt C o xs) (hlen : len ≤ 9223372036854775807) :
    Spec Try.prog 4 [.slice (some ⟨g, o, none⟩) len cap, .int .i64 b] [(g, .oth (.cells C E fr))] fun v H' => v = .bool true ∧ H' = [(g, .oth (.cells C E fr))] := by
  refine Spec_body Try.func4 rfl Try.ntmps4 rfl (fun w0 => ?_)
  repeat (first | refine stepA ?_ | intro _)
  refine callA ?_; refine ⟨_, _, shown_spec, _, cutA, ?_⟩
  rintro v H' ⟨rfl, rfl⟩
  repeat (first | refine stepA ?_ | intro _)
  refine callA ?_; refine ⟨_, _, newI, _, cutA, ?_⟩
  rintro v H' ⟨p1, rfl, rfl⟩
  repeat (first | refine stepA ?_ | intro _)
  have q0 : QR (List.replicate 64 zeI) 0 ((xs.take 0).drop 0) := QR.new 0
  refine W_loop (fun x : Nat × Nat × List Int × Nat => [(0, .slice (some ⟨g, o, none⟩) len cap), (1, .int .i64 b), (5, .bool true), (6, .pointer (some ⟨p1, 0, none⟩)), (7, .int .i64 (x.2.1 : Int)), (8, .int .i64 (x.1 : Int))])
    (fun x => (g, .oth (.cells C E fr)) :: qHI p1 x.2.2.1 x.2.2.2 ((xs.take x.1).drop x.2.1).length)
    (fun x => x.1 ≤ 64 ∧ x.1 ≤ len ∧ x.2.1 ≤ x.1 ∧ QR x.2.2.1 x.2.2.2 ((xs.take x.1).drop x.2.1)) (fun x => 64 - x.1) (0, 0, List.replicate 64 zeI, 0)
    ⟨by simp only; omega, by simp only; omega, by simp only; omega, q0⟩ sublA subA ?_
  rintro ⟨i, a, hI, fI⟩ ⟨hi, hil, ha, hq⟩
  simp only at hi hil ha hq ⊢
  have hpl : ((xs.take i).drop a).length = i - a := by simp; omega
  by_cases h1 : i < len
  · by_cases h2 : i < 64
    · obtain ⟨x, hxi⟩ : ∃ x, xs[i]? = some x := ⟨xs[i]'(by omega), by simp [hl, h1]⟩
      have g0 := nums_get hx hxi
      have hnx := part_next hxi ha
      repeat (first | refine stepA ?_ | intro _)
      refine callA ?_; refine ⟨_, _, pushI_xs p1 fI hI _ x hq (by rw [hpl]; omega), _, cutA, ?_⟩
      rintro u H' ⟨rfl, hI', hq', rfl⟩
      rw [hnx] at hq' ⊢
      by_cases hb : b > 0
      · by_cases h8 : i % 8 = 7
        · obtain ⟨y, hy⟩ : ∃ y, xs[a]? = some y := ⟨_, List.getElem?_eq_getElem (show a < xs.length by omega)⟩
          have g1 := nums_get hx hy
          have hh := part_head (n := i + 1) hy (by omega)
          rw [hh] at hq' ⊢
          repeat (first | refine stepA ?_ | intro _)
          refine callA ?_; refine ⟨_, _, popI_xs p1 fI hI' _ y hq', _, cutA, ?_⟩
          rintro u H' ⟨rfl, hI2, hq2, rfl⟩
          repeat (first | refine stepA ?_ | intro _)
          exact ⟨rfl, (i + 1, a + 1, hI2, (fI + 1) % 64), ⟨by simp only; omega, by simp only; omega, by simp only; omega, hq2⟩, by simp only; omega, sublA, subA⟩
        · repeat (first | refine stepA ?_ | intro _)
          exact ⟨rfl, (i + 1, a, hI', fI), ⟨by simp only; omega, by simp only; omega, by simp only; omega, hq'⟩, by simp only; omega, sublA, subA⟩
      · repeat (first | refine stepA ?_ | intro _)
        exact ⟨rfl, (i + 1, a, hI', fI), ⟨by simp only; omega, by simp only; omega, by simp only; omega, hq'⟩, by simp only; omega, sublA, subA⟩
    · skip
      repeat (first | refine stepA ?_ | intro _)
      refine W_loop (fun x : Nat × List Int × Nat => [(0, .slice (some ⟨g, o, none⟩) len cap), (5, .bool true), (6, .pointer (some ⟨p1, 0, none⟩)), (7, .int .i64 (x.1 : Int))])
        (fun x => (g, .oth (.cells C E fr)) :: qHI p1 x.2.1 x.2.2 ((xs.take i).drop x.1).length)
        (fun x => x.1 ≤ i ∧ QR x.2.1 x.2.2 ((xs.take i).drop x.1)) (fun x => 64 - x.1) (a, hI, fI) ⟨ha, hq⟩ sublA subA ?_
      rintro ⟨a2, hI2, fI2⟩ ⟨ha2, hq2⟩
      simp only at ha2 hq2 ⊢
      by_cases hlt : a2 < i
      · obtain ⟨y, hy⟩ : ∃ y, xs[a2]? = some y := ⟨_, List.getElem?_eq_getElem (show a2 < xs.length by omega)⟩
        have g1 := nums_get hx hy
        have hh := part_head (n := i) hy hlt
        rw [hh] at hq2 ⊢
        repeat (first | refine stepA ?_ | intro _)
        refine callA ?_; refine ⟨_, _, popI_xs p1 fI2 hI2 _ y hq2, _, cutA, ?_⟩
        rintro u H' ⟨rfl, hI3, hq3, rfl⟩
        repeat (first | refine stepA ?_ | intro _)
        exact ⟨rfl, (a2 + 1, hI3, (fI2 + 1) % 64), ⟨by simp only; omega, hq3⟩, by simp only; omega, sublA, subA⟩
      · have h0 : ((xs.take i).drop a2).length = 0 := by simp; omega
        rw [h0]
        repeat (first | refine stepA ?_ | intro _)
        refine callA ?_; refine ⟨_, _, lenI p1 fI2 0 hI2 hq2.len, _, cutA, ?_⟩
        rintro u H' ⟨rfl, rfl⟩
        repeat (first | refine stepA ?_ | intro _)
        (first | refine retA ?_ | refine retB ?_); exact ⟨_, ⟨rfl, rfl⟩, subA⟩
  · skip
    repeat (first | refine stepA ?_ | intro _)
    refine W_loop (fun x : Nat × List Int × Nat => [(0, .slice (some ⟨g, o, none⟩) len cap), (5, .bool true), (6, .pointer (some ⟨p1, 0, none⟩)), (7, .int .i64 (x.1 : Int))])
      (fun x => (g, .oth (.cells C E fr)) :: qHI p1 x.2.1 x.2.2 ((xs.take i).drop x.1).length)
      (fun x => x.1 ≤ i ∧ QR x.2.1 x.2.2 ((xs.take i).drop x.1)) (fun x => 64 - x.1) (a, hI, fI) ⟨ha, hq⟩ sublA subA ?_
    rintro ⟨a2, hI2, fI2⟩ ⟨ha2, hq2⟩
    simp only at ha2 hq2 ⊢
    by_cases hlt : a2 < i
    · obtain ⟨y, hy⟩ : ∃ y, xs[a2]? = some y := ⟨_, List.getElem?_eq_getElem (show a2 < xs.length by omega)⟩
      have g1 := nums_get hx hy
      have hh := part_head (n := i) hy hlt
      rw [hh] at hq2 ⊢
      repeat (first | refine stepA ?_ | intro _)
      refine callA ?_; refine ⟨_, _, popI_xs p1 fI2 hI2 _ y hq2, _, cutA, ?_⟩
      rintro u H' ⟨rfl, hI3, hq3, rfl⟩
      repeat (first | refine stepA ?_ | intro _)
      exact ⟨rfl, (a2 + 1, hI3, (fI2 + 1) % 64), ⟨by simp only; omega, hq3⟩, by simp only; omega, sublA, subA⟩
    · have h0 : ((xs.take i).drop a2).length = 0 := by simp; omega
      rw [h0]
      repeat (first | refine stepA ?_ | intro _)
      refine callA ?_; refine ⟨_, _, lenI p1 fI2 0 hI2 hq2.len, _, cutA, ?_⟩
      rintro u H' ⟨rfl, rfl⟩
      repeat (first | refine stepA ?_ | intro _)
      (first | refine retA ?_ | refine retB ?_); exact ⟨_, ⟨rfl, rfl⟩, subA⟩
end Go.Proofs.Ytkfpohhlibcliaa
