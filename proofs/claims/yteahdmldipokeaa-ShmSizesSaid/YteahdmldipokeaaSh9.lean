/-
  Segments whose list lies in a block: what is done with them; and the head of each law.
-/
import Derived.Test.YteahdmldipokeaaSh8
namespace Go.Proofs.Yteahdmldipokeaa
open Go.RowKit
attribute [local irreducible] W L QL PureOp thenQ blockQ retQ Spec IterOk YSpec roundQ scopeQ noGoQ
attribute [local irreducible] AS ASi IterOkC retD retE
set_option maxHeartbeats 6400000
abbrev bl (g : Nat) (l : List Nat) (ys : List Value) : Nat × Blk := (g, .cells (idv l ++ ys) 3)
def OB (g cap : Nat) (l : List Nat) (ys : List Value) : Prop := oI (some ⟨g, 0, none⟩) l.length cap (idv l) [bl g l ys]
abbrev segB (g cap : Nat) (l : List Nat) (c : Int) (x : Bool) : Value := segV (some ⟨g, 0, none⟩) l.length cap c x
theorem OB.os {g cap : Nat} {l : List Nat} {ys : List Value} (h : OB g cap l ys) (hl : l ≠ []) (c : Int) (x : Bool) : oS (segB g cap l c x) ⟨l, c, x⟩ [bl g l ys] := ⟨_, cap, rfl, h, fun q => absurd q hl⟩
theorem oI.blk {a : Option Addr} {n cap : Nat} {l : List Nat} {Hs : Hp} (how : oI a n cap (idv l) Hs) (hl : l ≠ []) : ∃ g ys, a = some ⟨g, 0, none⟩ ∧ n = l.length ∧ Hs = [bl g l ys] ∧ OB g cap l ys := by
  have hlen := how.len
  rw [idv_len, Nat.mul_one] at hlen
  rcases how.inv with ⟨_, hz, _, _, _⟩ | ⟨g, ys, rfl, rfl, h1, h2, h3, h4⟩
  · exact absurd (List.eq_nil_of_length_eq_zero (by omega)) hl
  · subst hlen
    exact ⟨g, ys, rfl, rfl, rfl, how⟩
theorem oS.blk {v : Value} {s : Sg} {Hs : Hp} (h : oS v s Hs) (hl : s.l ≠ []) : ∃ g cap ys, v = segB g cap s.l s.c s.g ∧ Hs = [bl g s.l ys] ∧ OB g cap s.l ys := by
  obtain ⟨a, cap, rfl, how, _⟩ := h
  obtain ⟨g, ys, rfl, _, rfl, h⟩ := oI.blk how hl
  exact ⟨g, cap, ys, rfl, rfl, h⟩
theorem oS.emp {v : Value} {s : Sg} {Hs : Hp} (h : oS v s Hs) (hl : s.l = []) : v = segV none 0 0 s.c s.g ∧ Hs = [] := by
  obtain ⟨a, cap, rfl, how, h0⟩ := h
  obtain ⟨rfl, rfl, rfl⟩ := h0 hl
  rw [hl]
  exact ⟨rfl, rfl⟩
section
variable (m : MemP) {M : List Frm} {g cap : Nat} {l : List Nat} {ys : List Value}
theorem use_B (h : OB g cap l ys) (hl : l ≠ []) (hn : l.length ≤ 1000) (c : Int) (x : Bool) (hc : -9223372036854775808 ≤ c) (hc2 : c < 1000) :
    Spec Try.prog 13 [m.ptr, segB g cap l c x] [bl g l ys] fun u H' => ∃ g2 cap2 ys2, u = .tuple #[segB g2 cap2 l (c + 1) x, .int .i64 0] ∧ OB g2 cap2 l ys2 ∧ H' = [bl g2 l ys2, bl g l ys] := by
  refine (use_ok m _ _ ⟨l, c + 1, x⟩ _ (h.os hl c x) hn hc (by rw [useS, if_neg (by rintro (q | q); exact hl q; simp at q; omega)])).mono ?_
  rintro u H' ⟨v2, Hs2, rfl, hs, rfl⟩
  obtain ⟨g2, cap2, ys2, rfl, rfl, ho⟩ := hs.blk hl
  exact ⟨g2, cap2, ys2, rfl, ho, rfl⟩
theorem mark_keep (hM : WfM M) (h : OB g cap l ys) (hl : l ≠ []) (hn : l.length ≤ 1000) (c : Int) (hc : 0 < c) :
    Spec Try.prog 14 [m.ptr, segB g cap l c false] (memH m M ++ [bl g l ys]) fun u H' => ∃ g2 cap2 ys2, u = .tuple #[segB g2 cap2 l c true, .bool false, .int .i64 0] ∧ OB g2 cap2 l ys2 ∧ H' = memH m M ++ [bl g2 l ys2, bl g l ys] := by
  refine (mark_ok m hM _ _ ⟨l, c, true⟩ false M _ (h.os hl c false) hn (by rw [markS, if_neg (by simpa using hl), settleS, if_pos (.inr hc)])).mono ?_
  rintro u H' ⟨v2, Hs2, rfl, hs, rfl⟩
  obtain ⟨g2, cap2, ys2, rfl, rfl, ho⟩ := hs.blk hl
  exact ⟨g2, cap2, ys2, rfl, ho, rfl⟩
theorem mark_gone (hM : WfM M) (h : OB g cap l ys) (hl : l ≠ []) (hn : l.length ≤ 1000) (c : Int) (hc : c ≤ 0) :
    Spec Try.prog 14 [m.ptr, segB g cap l c false] (memH m M ++ [bl g l ys]) fun u H' => u = .tuple #[segV none 0 0 c true, .bool true, .int .i64 0] ∧ H' = memH m (freeL M l) ++ [bl g l ys] := by
  refine (mark_ok m hM _ _ ⟨[], c, true⟩ true (freeL M l) _ (h.os hl c false) hn (by rw [markS, if_neg (by simpa using hl), settleS, if_neg (by simp; omega)])).mono ?_
  rintro u H' ⟨v2, Hs2, rfl, hs, rfl⟩
  obtain ⟨rfl, rfl⟩ := hs.emp rfl
  exact ⟨rfl, rfl⟩
theorem leave_keep (hM : WfM M) (h : OB g cap l ys) (hl : l ≠ []) (hn : l.length ≤ 1000) (c : Int) (x : Bool) (hc : 0 < c) (hc2 : c ≤ 9223372036854775807) (hx : x = false ∨ 1 < c) :
    Spec Try.prog 15 [m.ptr, segB g cap l c x] (memH m M ++ [bl g l ys]) fun u H' => ∃ g2 cap2 ys2, u = .tuple #[segB g2 cap2 l (c - 1) x, .bool false, .int .i64 0] ∧ OB g2 cap2 l ys2 ∧ H' = memH m M ++ [bl g2 l ys2, bl g l ys] := by
  refine (leave_ok m hM _ _ ⟨l, c - 1, x⟩ false M _ (h.os hl c x) hn hc2 (by rw [leaveS, if_neg (by rintro (q | q); exact hl q; simp at q; omega), settleS, if_pos (hx.imp id (fun q => by simp only; omega))])).mono ?_
  rintro u H' ⟨v2, Hs2, rfl, hs, rfl⟩
  obtain ⟨g2, cap2, ys2, rfl, rfl, ho⟩ := hs.blk hl
  exact ⟨g2, cap2, ys2, rfl, ho, rfl⟩
theorem leave_gone (hM : WfM M) (h : OB g cap l ys) (hl : l ≠ []) (hn : l.length ≤ 1000) :
    Spec Try.prog 15 [m.ptr, segB g cap l 1 true] (memH m M ++ [bl g l ys]) fun u H' => u = .tuple #[segV none 0 0 0 true, .bool true, .int .i64 0] ∧ H' = memH m (freeL M l) ++ [bl g l ys] := by
  refine (leave_ok m hM _ _ ⟨[], 0, true⟩ true (freeL M l) _ (h.os hl 1 true) hn (by simp) (by rw [leaveS, if_neg (by rintro (q | q); exact hl q; simp at q), settleS, if_neg (by simp)]; rfl)).mono ?_
  rintro u H' ⟨v2, Hs2, rfl, hs, rfl⟩
  obtain ⟨rfl, rfl⟩ := hs.emp rfl
  exact ⟨rfl, rfl⟩
end
theorem pages_pos {size : Int} (h : 1 ≤ size ∧ size ≤ 512) : pagesN size = (size.toNat + 63) / 64 ∧ 0 < pagesN size := by
  have e : pagesN size = (size.toNat + 63) / 64 := by rw [pagesN, if_pos h]
  exact ⟨e, by rw [e]; omega⟩
theorem range_ne {p : Nat} (h : 0 < p) : List.range p ≠ [] := fun e => by
  have := congrArg List.length e
  simp at this; omega
/-- a segment of new frames -/
theorem shnew_new (m : MemP) (n : Nat) (hn : 1 ≤ n ∧ n ≤ 256) (size : Int) (hs : 1 ≤ size ∧ size ≤ 512) (hle : pagesN size ≤ n) :
    Spec Try.prog 11 [m.ptr, .int .i64 size] (memH m (newM n)) fun v H' => ∃ g cap ys, v = .tuple #[segB g cap (List.range (pagesN size)) 0 false, .int .i64 0] ∧ OB g cap (List.range (pagesN size)) ys ∧ H' = memH m (memN (newM n) (pagesN size)) ++ [bl g (List.range (pagesN size)) ys] := by
  obtain ⟨_, hp⟩ := pages_pos hs
  refine (shnew_spec m (newM_wf hn) (newM_zb n) size (by omega) hp).mono ?_
  rintro v H' (⟨h1, _⟩ | ⟨_, a, cap, Hs, rfl, how, rfl⟩)
  · rw [newM_left] at h1; omega
  · rw [(newM_mem n _ hle).2] at how
    obtain ⟨g, ys, rfl, h2, rfl, ho⟩ := oI.blk how (range_ne hp)
    refine ⟨g, cap, ys, ?_, ho, rfl⟩
    rw [h2, segB, List.length_range, ← h2]
theorem freeL_new (n p : Nat) (h : p ≤ n) : freeL (memN (newM n) p) (List.range p) = newM n := by
  have := freeL_memN (newM_zb n) p (by rw [newM_left]; exact h)
  rw [(newM_mem n p h).2] at this
  exact this
theorem left_new (n p : Nat) (h : p ≤ n) : leftM (memN (newM n) p) = n - p := by
  have := left_memN (newM n) p (by rw [newM_left]; exact h)
  rw [newM_left] at this
  omega
theorem shown_spec : Spec Try.prog 9 [] [] fun v H' => v = .bool true ∧ H' = [] := by
  have hM0 : WfM (newM 5) := newM_wf (by omega)
  have hM := memN_wf hM0 (pagesN 65)
  have ep : pagesN 65 = 2 := rfl
  refine Spec_body Try.func9 rfl Try.ntmps9 rfl (fun w0 => ?_)
  repeat (first | refine stepA ?_ | intro _)
  refine callA ?_; refine ⟨_, _, new_spec 5 (by omega), _, cutA, ?_⟩
  rintro v H' ⟨m, rfl, rfl⟩
  simp only [List.cons_append, List.nil_append]
  repeat (first | refine stepA ?_ | intro _)
  refine callA ?_; refine ⟨_, _, shnew_new m 5 (by omega) 65 (by omega) (by decide), _, cutA, ?_⟩
  rintro v H' ⟨g, cap, ys, rfl, ho, rfl⟩
  simp only [List.cons_append, List.nil_append]
  repeat (first | refine stepA ?_ | intro _)
  refine callA ?_; refine ⟨_, _, use_B m ho (range_ne (by decide)) (by decide) 0 false (by omega) (by omega), _, cutA, ?_⟩
  rintro v H' ⟨g2, cap2, ys2, rfl, ho2, rfl⟩
  simp only [List.cons_append, List.nil_append]
  repeat (first | refine stepA ?_ | intro _)
  refine callA ?_; refine ⟨_, _, mark_keep m hM ho2 (range_ne (by decide)) (by decide) (0 + 1) (by omega), _, cutA, ?_⟩
  rintro v H' ⟨g3, cap3, ys3, rfl, ho3, rfl⟩
  simp only [List.cons_append, List.nil_append]
  repeat (first | refine stepA ?_ | intro _)
  refine callA ?_; refine ⟨_, _, left_spec m hM, _, cutA, ?_⟩
  rintro v H' ⟨rfl, rfl⟩
  simp only [List.cons_append, List.nil_append]
  repeat (first | refine stepA ?_ | intro _)
  refine callA ?_; refine ⟨_, _, leave_gone m hM ho3 (range_ne (by decide)) (by decide), _, cutA, ?_⟩
  rintro v H' ⟨rfl, rfl⟩
  rw [freeL_new 5 _ (by decide), left_new 5 _ (by decide)]
  simp only [List.cons_append, List.nil_append]
  repeat (first | refine stepA ?_ | intro _)
  refine callA ?_; refine ⟨_, _, left_spec m hM0, _, cutA, ?_⟩
  rintro v H' ⟨rfl, rfl⟩
  rw [newM_left]
  simp only [List.cons_append, List.nil_append]
  repeat (first | refine stepA ?_ | intro _)
  (first | refine retA ?_ | refine retB ?_); exact ⟨_, ⟨rfl, rfl⟩, subA⟩
end Go.Proofs.Yteahdmldipokeaa
