/-
  Segments: ShmOwn: the law's walk.
-/
import Derived.Test.YteahdmldipokeaaSi2
namespace Go.Proofs.Yteahdmldipokeaa
open Go.RowKit
attribute [local irreducible] W L QL PureOp thenQ blockQ retQ Spec IterOk YSpec roundQ scopeQ noGoQ
attribute [local irreducible] AS ASi IterOkC retD retE
set_option maxHeartbeats 12800000
theorem same_P {ga gb ca cb p : Nat} {l : List Nat} {ya yb : List Value} (hp : l.length = p) (ha : OB ga ca l ya) (hb : OB gb cb l yb) (hl : l ≠ []) (hn : l.length ≤ 1000) :
    Spec Try.prog 17 [segP ga p ca 0 false, segP gb p cb 0 false] [bl ga l ya, bl gb l yb] fun u H' => u = .bool true ∧ H' = [bl ga l ya, bl gb l yb] := by
  subst hp
  refine (same_spec (ha.os hl 0 false) (hb.os hl 0 false) hn).mono ?_
  rintro u H' ⟨rfl, rfl⟩
  exact ⟨by simp, rfl⟩
theorem shmOwn_spec (size : Int) (hs : -9223372036854775808 ≤ size ∧ size ≤ 9223372036854775807) : Spec Try.prog 6 [.int .i64 size] [] fun v H' => v = .bool true ∧ H' = [] := by
  have hM0 : WfM (newM 20) := newM_wf (by omega)
  refine Spec_body Try.func6 rfl Try.ntmps6 rfl (fun w0 => ?_)
  repeat (first | refine stepA ?_ | intro _)
  refine callA ?_; refine ⟨_, _, shown_spec, _, cutA, ?_⟩
  rintro v H' ⟨rfl, rfl⟩
  simp only [List.cons_append, List.nil_append]
  by_cases g1 : size < 1
  · repeat (first | refine stepA ?_ | intro _)
    (first | refine retA ?_ | refine retB ?_); exact ⟨_, ⟨rfl, rfl⟩, subA⟩
  by_cases g2 : size > 512
  · repeat (first | refine stepA ?_ | intro _)
    (first | refine retA ?_ | refine retB ?_); exact ⟨_, ⟨rfl, rfl⟩, subA⟩
  have hsz : 1 ≤ size ∧ size ≤ 512 := by omega
  obtain ⟨ep, hp⟩ := pages_pos hsz
  have hle := pagesN_le size
  repeat (first | refine stepA ?_ | intro _)
  refine callA ?_; refine ⟨_, _, new_spec 20 (by omega), _, cutA, ?_⟩
  rintro v H' ⟨m, rfl, rfl⟩
  simp only [List.cons_append, List.nil_append]
  repeat (first | refine stepA ?_ | intro _)
  refine callA ?_; refine ⟨_, _, shnew_new m 20 (by omega) size hsz (by omega), _, cutA, ?_⟩
  rintro v H' ⟨g, cap, ys, rfl, ho, rfl⟩
  rw [segB_range]
  simp only [List.cons_append, List.nil_append]
  obtain ⟨p, ep2⟩ : ∃ p, p = pagesN size := ⟨_, rfl⟩
  rw [← ep2] at ho ep hp hle ⊢
  have hMp := memN_wf hM0 p
  have hlr : (List.range p).length = p := List.length_range
  have hpl : (List.range p).length ≤ 1000 := by rw [List.length_range]; omega
  have hil : (idv (List.range p)).length = p := by rw [idv_len, List.length_range]
  repeat (first | refine stepA ?_ | intro _)
  rename_i b6
  refine W_any [(b6, .cells (segC (some ⟨g, 0, none⟩) p cap 0 false) 29), bl g (List.range p) ys] [] rfl ?_
  refine AS_at 1 (by decide +kernel) ?_; refine takeA ?_
  refine AS_at 2 (by decide +kernel) ?_; refine takeA ?_
  refine AS_one 0 rfl (by decide +kernel) rfl ?_
  apply L_makeSl2C
  · exact rfl
  · exact evA
  · exact evA
  · exact (rfl : (0 : Int) = ((0 : Nat) : Int))
  · exact (rfl : (9 : Int) = ((9 : Nat) : Int))
  · decide
  · exact rfl
  · decide
  · decide
  intro gm
  refine L_nil ?_; refine ⟨rfl, (by first | exact KeepsH.brk (by decide +kernel) | exact KeepsH.sub subA | exact KeepsH.sub subT), ?_⟩
  refine AS_one 3 rfl (by decide +kernel) rfl ?_
  apply L_append
  · exact rfl
  · exact evA
  · exact evA
  · exact (Own.blk (n := 0) (cap := 9) (xs := []) (ys := (List.replicate 9 [Value.int .i64 0]).flatten) rfl (by decide) (by decide) (by decide) : Own 3 1 _ _ _ _ _)
  · exact Cut.perm cutA
  · exact Lies.cells (k := p) (news := idv (List.range p)) pullA (by rw [List.drop_zero, List.take_append_of_le_length (by omega), List.take_of_length_le (by omega)])
  · omega
  · exact idv_one _
  · exact hp
  · simp only [maxLen]; omega
  · show (0 + p) * 8 ≤ _; omega
  · rfl
  rintro gw capw yw h1 h2 h3
  rw [List.nil_append] at h1 ⊢
  rw [Nat.zero_add] at h2 ⊢
  refine L_nil ?_; refine ⟨rfl, (by first | exact KeepsH.brk (by decide +kernel) | exact KeepsH.sub subA | exact KeepsH.sub subT), ?_⟩
  refine AS_at 4 (by decide +kernel) ?_; refine takeA ?_
  refine AS_done (by decide +kernel) ?_
  have how : OB gw capw (List.range p) yw := Own.blk (by rw [hil, hlr]; omega) h1 (by rw [hlr]; exact h2) h3
  repeat (first | refine stepA ?_ | intro _)
  refine callA ?_; refine ⟨_, _, use_P m hlr ho (range_ne hp) hpl 0 false (by omega) (by omega), _, cutA, ?_⟩
  rintro v H' ⟨g2, cap2, ys2, rfl, ho2, rfl⟩
  simp only [List.cons_append, List.nil_append]
  repeat (first | refine stepA ?_ | intro _)
  rename_i b9
  refine W_loop (fun x : Nat × List Value => [(3, .bool true), (4, m.ptr), (5, .int .i64 0), (6, .pointer (some ⟨b6, 0, none⟩)), (7, .int .i64 0), (8, .slice (some ⟨gw, 0, none⟩) p capw), (10, .int .i64 0), (9, .pointer (some ⟨b9, 0, none⟩)), (11, .int .i64 (x.1 : Int))])
    (fun x => (b6, .cells (segC (some ⟨g, 0, none⟩) p cap 0 false) 29) :: bl g (List.range p) ys :: bl gw (List.range p) yw :: (b9, .cells (segC (some ⟨g2, 0, none⟩) p cap2 (0 + 1) false) 29) :: (g2, .cells x.2 3) :: (memH m (memN (newM 20) p) ++ [])) (fun x => x.1 ≤ p ∧ p ≤ x.2.length) (fun x => p - x.1) (0, idv (List.range p) ++ ys2) ⟨by simp only; omega, by simp only [List.length_append, idv_len, List.length_range]; omega⟩ sublA subA ?_
  rintro ⟨k, L⟩ ⟨hk, hL⟩
  simp only at hk hL ⊢
  simp only [List.cons_append, List.nil_append]
  by_cases hlt : k < p
  · repeat (first | refine stepA ?_ | intro _)
    apply L_store1; (· exact evA); (· exact rfl); (· exact rfl); (· exact rfl); (· exact repA); (· exact rfl); (· omega)
    repeat (first | refine stepA ?_ | intro _)
    exact ⟨rfl, (k + 1, L.set k (.int .i64 99)), ⟨by simp only; omega, by simp only [List.length_set]; omega⟩, by simp only; omega, sublA, subA⟩
  obtain rfl : p = k := by omega
  repeat (first | refine stepA ?_ | intro _)
  refine callA ?_; refine ⟨_, _, use_P m hlr ho (range_ne hp) hpl 0 false (by omega) (by omega), _, cutA, ?_⟩
  rintro v H' ⟨g3, cap3, ys3, rfl, ho3, rfl⟩
  simp only [List.cons_append, List.nil_append]
  repeat (first | refine stepA ?_ | intro _)
  rename_i b12
  refine callA ?_; refine ⟨_, _, mark_keepP m hMp hlr ho3 (range_ne hp) hpl (0 + 1) (by omega), _, cutA, ?_⟩
  rintro v H' ⟨g4, cap4, ys4, rfl, ho4, rfl⟩
  simp only [List.cons_append, List.nil_append]
  repeat (first | refine stepA ?_ | intro _)
  rename_i b14
  refine W_loop (fun x : Nat × List Value => [(3, .bool true), (4, m.ptr), (5, .int .i64 0), (6, .pointer (some ⟨b6, 0, none⟩)), (7, .int .i64 0), (8, .slice (some ⟨gw, 0, none⟩) p capw), (10, .int .i64 0), (12, .pointer (some ⟨b12, 0, none⟩)), (13, .int .i64 0), (16, .int .i64 0), (14, .pointer (some ⟨b14, 0, none⟩)), (17, .int .i64 (x.1 : Int))])
    (fun x => (b6, .cells (segC (some ⟨g, 0, none⟩) p cap 0 false) 29) :: bl g (List.range p) ys :: bl gw (List.range p) yw :: (b14, .cells (segC (some ⟨g4, 0, none⟩) p cap4 (0 + 1) true) 29) :: (g4, .cells x.2 3) :: (memH m (memN (newM 20) p) ++ [bl g3 (List.range p) ys3, (b12, .cells (segC (some ⟨g3, 0, none⟩) p cap3 (0 + 1) false) 29)])) (fun x => x.1 ≤ p ∧ p ≤ x.2.length) (fun x => p - x.1) (0, idv (List.range p) ++ ys4) ⟨by simp only; omega, by simp only [List.length_append, idv_len, List.length_range]; omega⟩ sublA subA ?_
  rintro ⟨k, L⟩ ⟨hk, hL⟩
  simp only at hk hL ⊢
  simp only [List.cons_append, List.nil_append]
  by_cases hlt : k < p
  · repeat (first | refine stepA ?_ | intro _)
    apply L_store1; (· exact evA); (· exact rfl); (· exact rfl); (· exact rfl); (· exact repA); (· exact rfl); (· omega)
    repeat (first | refine stepA ?_ | intro _)
    exact ⟨rfl, (k + 1, L.set k (.int .i64 99)), ⟨by simp only; omega, by simp only [List.length_set]; omega⟩, by simp only; omega, sublA, subA⟩
  obtain rfl : p = k := by omega
  repeat (first | refine stepA ?_ | intro _)
  refine callA ?_; refine ⟨_, _, leave_keepP m hMp hlr ho3 (range_ne hp) hpl (0 + 1) false (by omega) (by omega) (.inl rfl), _, cutA, ?_⟩
  rintro v H' ⟨g5, cap5, ys5, rfl, ho5, rfl⟩
  simp only [List.cons_append, List.nil_append]
  repeat (first | refine stepA ?_ | intro _)
  rename_i b18
  refine W_loop (fun x : Nat × List Value => [(3, .bool true), (4, m.ptr), (5, .int .i64 0), (6, .pointer (some ⟨b6, 0, none⟩)), (7, .int .i64 0), (8, .slice (some ⟨gw, 0, none⟩) p capw), (10, .int .i64 0), (12, .pointer (some ⟨b12, 0, none⟩)), (13, .int .i64 0), (16, .int .i64 0), (20, .int .i64 0), (18, .pointer (some ⟨b18, 0, none⟩)), (21, .int .i64 (x.1 : Int))])
    (fun x => (b6, .cells (segC (some ⟨g, 0, none⟩) p cap 0 false) 29) :: bl g (List.range p) ys :: bl gw (List.range p) yw :: (b18, .cells (segC (some ⟨g5, 0, none⟩) p cap5 (0 + 1 - 1) false) 29) :: (g5, .cells x.2 3) :: (memH m (memN (newM 20) p) ++ [bl g3 (List.range p) ys3, (b12, .cells (segC (some ⟨g3, 0, none⟩) p cap3 (0 + 1) false) 29)])) (fun x => x.1 ≤ p ∧ p ≤ x.2.length) (fun x => p - x.1) (0, idv (List.range p) ++ ys5) ⟨by simp only; omega, by simp only [List.length_append, idv_len, List.length_range]; omega⟩ sublA subA ?_
  rintro ⟨k, L⟩ ⟨hk, hL⟩
  simp only at hk hL ⊢
  simp only [List.cons_append, List.nil_append]
  by_cases hlt : k < p
  · repeat (first | refine stepA ?_ | intro _)
    apply L_store1; (· exact evA); (· exact rfl); (· exact rfl); (· exact rfl); (· exact repA); (· exact rfl); (· omega)
    repeat (first | refine stepA ?_ | intro _)
    exact ⟨rfl, (k + 1, L.set k (.int .i64 99)), ⟨by simp only; omega, by simp only [List.length_set]; omega⟩, by simp only; omega, sublA, subA⟩
  obtain rfl : p = k := by omega
  repeat (first | refine stepA ?_ | intro _)
  refine callA ?_; refine ⟨_, _, same_P hlr how ho (range_ne hp) hpl, _, cutA, ?_⟩
  rintro v H' ⟨rfl, rfl⟩
  simp only [List.cons_append, List.nil_append]
  repeat (first | refine stepA ?_ | intro _)
  refine callA ?_; refine ⟨_, _, same_P hlr how ho3 (range_ne hp) hpl, _, cutA, ?_⟩
  rintro v H' ⟨rfl, rfl⟩
  simp only [List.cons_append, List.nil_append]
  repeat (first | refine stepA ?_ | intro _)
  (first | refine retA ?_ | refine retB ?_); exact ⟨_, ⟨rfl, rfl⟩, subA⟩
end Go.Proofs.Yteahdmldipokeaa
