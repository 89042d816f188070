/-
  Messages of one type come out in the order in which they were sent: the law's walk.
-/
import Derived.Test.YthachclpelhaiaaMh8
namespace Go.Proofs.Ythachclpelhaiaa
open Go.RowKit
attribute [local irreducible] W L QL PureOp thenQ blockQ retQ Spec IterOk YSpec roundQ scopeQ noGoQ
attribute [local irreducible] AS ASi IterOkC
set_option maxHeartbeats 12800000
/-- what lies where in the first loop -/
structure O1 where
  i : Nat
  aq : Option Addr
  nq : Nat
  cq : Nat
  Q : List MsgV
  Hq : Hp
  as_ : Option Addr
  ns : Nat
  cs : Nat
  Hs : Hp
structure Ord1 (kind : Int) (len : Nat) (x : O1) : Prop where
  i : x.i ≤ len
  q : oM x.aq x.nq x.cq x.Q x.Hq
  s : oM x.as_ x.ns x.cs (filt kind x.Q) x.Hs
  r : RightM x.Q
  m : Small x.Q
/-- and in the second -/
structure O2 where
  j : Nat
  aq : Option Addr
  nq : Nat
  cq : Nat
  Q : List MsgV
  Hq : Hp
structure Ord2 (kind : Int) (S : List MsgV) (x : O2) : Prop where
  j : x.j ≤ S.length
  q : oM x.aq x.nq x.cq x.Q x.Hq
  s : filt kind x.Q = S.drop x.j
  r : RightM x.Q
  m : Small x.Q
theorem msgOrder_spec (v0 : Value) (H0 : Hp) (L : List MsgV) (hc : CutOf v0 H0 L) (hf : Few L) (kind : Int) :
    Spec Try.prog 3 [v0, .int .i64 kind] H0 fun v H' => v = .bool true ∧ H' = H0 := by
  have hn := hf.n
  refine Spec_body Try.func3 rfl Try.ntmps3 rfl (fun w0 => ?_)
  repeat (first | refine stepA ?_ | intro _)
  refine callA ?_; refine ⟨_, _, shown_spec, _, cutA, ?_⟩
  rintro v H' ⟨rfl, rfl⟩
  simp only [List.cons_append, List.nil_append]
  repeat (first | refine stepA ?_ | intro _)
  refine callT ?_; refine ⟨_, _, hc, _, cutT, ?_⟩
  rintro v T ⟨a, cap, rfl, hT⟩
  simp only [List.cons_append, List.nil_append]
  obtain ⟨Hl, hl, rfl⟩ := hT
  rcases hl.inv with ⟨rfl, hl0, rfl, _, rfl⟩ | ⟨g, ys, rfl, rfl, _, hcc, hcn, hcm⟩
  · rw [hl0]
    simp only [List.nil_append]
    repeat (first | refine stepA ?_ | intro _)
    refine W_loop (fun _ : Nat => [(0, .slice none 0 0), (1, .int .i64 kind), (5, .bool true), (6, .slice none 0 0), (7, .slice none 0 0), (8, .int .i64 0)]) (fun _ => H0) (fun _ => True) (fun _ => 0) 0 trivial sublA subT ?_
    intro _ _
    obtain ⟨Q, hQ⟩ : ∃ Q : List MsgV, Q = [] := ⟨_, rfl⟩
    have hsz : filt kind Q = [] := by rw [hQ]; rfl
    have hr : RightM Q := by rw [hQ]; exact rightM_nil
    have hm : Small Q := by rw [hQ]; intro k x h; simp at h
    have hq : oM none 0 0 Q [] := by rw [hQ]; exact Own.nil
    have hfn : filt kind Q = [] := hsz
    by_cases hk0 : kind < 1
    · repeat (first | refine stepA ?_ | intro _)
      (first | refine retA ?_ | refine retB ?_)
      exact ⟨_, ⟨rfl, rfl⟩, subT⟩
    have hk1 : 1 ≤ kind := by omega
    repeat (first | refine stepA ?_ | intro _)
    refine W_loop (fun _ : Nat => [(1, .int .i64 kind), (5, .bool true), (6, .slice none 0 0), (7, .slice none 0 0), (11, .int .i64 0)]) (fun _ =>   H0) (fun _ => True) (fun _ => 0) 0 trivial sublA subT ?_
    intro _ _
    repeat (first | refine stepA ?_ | intro _)
    refine callA ?_; refine ⟨_, _, receive_spec none 0 0 Q kind 40 false _ hq (by have := hr.n; omega) (by have := hr.sum; omega) hm, _, cutA, ?_⟩
    rintro v H' (⟨h1, _⟩ | ⟨h1, h2, rfl, rfl⟩ | ⟨h1, k, x, h2, hx, _⟩)
    · exact absurd ⟨hr, by decide⟩ h1
    · simp only [List.cons_append, List.nil_append]
      repeat (first | refine stepA ?_ | intro _)
      (first | refine retA ?_ | refine retB ?_)
      exact ⟨_, ⟨rfl, rfl⟩, subT⟩
    · rcases find_filt (Q := Q) hk1 with ⟨h3, _⟩ | ⟨k', x', _, _, h3⟩
      · omega
      · rw [hfn] at h3; cases h3
  · have hM := msgsAt_own L ys
    simp only [List.cons_append, List.nil_append]
    repeat (first | refine stepA ?_ | intro _)
    refine W_loop (fun x : O1 => [(0, .slice (some ⟨g, 0, none⟩) L.length cap), (1, .int .i64 kind), (5, .bool true), (6, .slice x.aq x.nq x.cq), (7, .slice x.as_ x.ns x.cs), (8, .int .i64 (x.i : Int))]) (fun x => x.Hq ++ (x.Hs ++ (g, .cells (mcells L ++ ys) 29) :: H0)) (Ord1 kind L.length) (fun x => L.length - x.i) ⟨0, none, 0, 0, [], [], none, 0, 0, []⟩ ⟨Nat.zero_le _, Own.nil, Own.nil, rightM_nil, fun k x h => by simp at h⟩ sublA subT ?_
    rintro ⟨i, aq, nq, cq, Q, Hq, as_, ns, cs, Hs⟩ ⟨hi, hq, hs_, hr, hm⟩
    simp only at hi hq hs_ hr hm ⊢
    have hlq := oM_len hq
    have hls := oM_len hs_
    have hrn := hr.n
    have hrs := hr.sum
    have hfl : (filt kind Q).length ≤ Q.length := List.length_filter_le _ _
    by_cases hlt : i < L.length
    · obtain ⟨x, hx⟩ : ∃ x, L[i]? = some x := ⟨L[i]'(by omega), by simp⟩
      have hc0 := hM.cell hx 0 (by omega)
      have hc1 := hM.cell hx 1 (by omega)
      have hcx := hM i x hx
      have hxd := hf.d i x hx
      have hxb := (hf.t i x hx).2
      rcases hq.inv with ⟨rfl, rfl, rfl, _, rfl⟩ | ⟨gq, yq, rfl, rfl, _, _, _, _⟩
      · rcases hs_.inv with ⟨rfl, rfl, rfl, _, rfl⟩ | ⟨gs, ysq, rfl, rfl, _, _, _, _⟩
        · skip
          simp only [List.cons_append, List.nil_append]
          repeat (first | refine stepA ?_ | intro _)
          refine callA ?_; refine ⟨_, _, send_spec _ _ _ Q x _ hq (by omega) (by omega) (by omega), _, cutA, ?_⟩
          rintro v H' (⟨g1, rfl, rfl⟩ | ⟨g1, g2, rfl, rfl⟩ | ⟨g1, g2, gn, cn, yn, rfl, hcn, rfl⟩)
          · simp only [List.cons_append, List.nil_append]
            repeat (first | refine stepA ?_ | intro _)
            exact ⟨rfl, ⟨i + 1, _, _, _, Q, _, _, _, _, _⟩, ⟨by simp only; omega, hq, hs_, hr, hm⟩, by simp only; omega, sublA, subT⟩
          · simp only [List.cons_append, List.nil_append]
            repeat (first | refine stepA ?_ | intro _)
            exact ⟨rfl, ⟨i + 1, _, _, _, Q, _, _, _, _, _⟩, ⟨by simp only; omega, hq, hs_, hr, hm⟩, by simp only; omega, sublA, subT⟩
          · simp only [List.cons_append, List.nil_append]
            have hq2 : mcells (Q ++ [x]) = mcells (Q ++ [x]) := rfl
            have hlq2 := mcells_len (Q ++ [x])
            rw [List.length_append, List.length_singleton, hlq] at hlq2
            by_cases hk : x.t = kind
            · repeat (first | refine stepA ?_ | intro _)
              apply L_buildSlOne
              · exact rfl
              · exact evA
              · exact rfl
              · exact rfl
              · decide
              intro gb
              apply L_append
              · exact rfl
              · exact evA
              · exact evA
              · exact hs_
              · exact Cut.perm cutA
              · exact Lies.cells (k := 2) (news := x.cells) pullA rfl
              · rfl
              · simp [Value.oneCell']
              · omega
              · simp only [maxLen]; omega
              · omega
              · rfl
              rintro gs2 cs2 ys2 r1 r2 r3
              have ea : mcells (filt kind Q) ++ x.cells = mcells (filt kind (Q ++ [x])) := by rw [filt_snoc, if_pos hk, mcells_append]; simp [mcells]
              have el : (filt kind (Q ++ [x])).length = (filt kind Q).length + 1 := by rw [filt_snoc, if_pos hk, List.length_append]; rfl
              rw [ea] at r1 ⊢
              repeat (first | refine stepA ?_ | intro _)
              exact ⟨rfl, ⟨i + 1, some ⟨gn, 0, none⟩, _, cn, Q ++ [x], [(gn, .cells (mcells (Q ++ [x]) ++ yn) 29)], some ⟨gs2, 0, none⟩, _, cs2, [(gs2, .cells (mcells (filt kind (Q ++ [x])) ++ ys2) 29)]⟩, ⟨by simp only; omega, Own.blk hlq2 hcn.1 hcn.2.1 hcn.2.2, Own.blk (by rw [mcells_len, el, hls]) r1 r2 r3, g2, small_snoc hm hxb⟩, by simp only; omega, sublA, subT⟩
            · repeat (first | refine stepA ?_ | intro _)
              exact ⟨rfl, ⟨i + 1, some ⟨gn, 0, none⟩, _, cn, Q ++ [x], [(gn, .cells (mcells (Q ++ [x]) ++ yn) 29)], _, _, _, _⟩, ⟨by simp only; omega, Own.blk hlq2 hcn.1 hcn.2.1 hcn.2.2, by rw [filt_snoc, if_neg hk, List.append_nil]; exact hs_, g2, small_snoc hm hxb⟩, by simp only; omega, sublA, subT⟩
        · skip
          simp only [List.cons_append, List.nil_append]
          repeat (first | refine stepA ?_ | intro _)
          refine callA ?_; refine ⟨_, _, send_spec _ _ _ Q x _ hq (by omega) (by omega) (by omega), _, cutA, ?_⟩
          rintro v H' (⟨g1, rfl, rfl⟩ | ⟨g1, g2, rfl, rfl⟩ | ⟨g1, g2, gn, cn, yn, rfl, hcn, rfl⟩)
          · simp only [List.cons_append, List.nil_append]
            repeat (first | refine stepA ?_ | intro _)
            exact ⟨rfl, ⟨i + 1, _, _, _, Q, _, _, _, _, _⟩, ⟨by simp only; omega, hq, hs_, hr, hm⟩, by simp only; omega, sublA, subT⟩
          · simp only [List.cons_append, List.nil_append]
            repeat (first | refine stepA ?_ | intro _)
            exact ⟨rfl, ⟨i + 1, _, _, _, Q, _, _, _, _, _⟩, ⟨by simp only; omega, hq, hs_, hr, hm⟩, by simp only; omega, sublA, subT⟩
          · simp only [List.cons_append, List.nil_append]
            have hq2 : mcells (Q ++ [x]) = mcells (Q ++ [x]) := rfl
            have hlq2 := mcells_len (Q ++ [x])
            rw [List.length_append, List.length_singleton, hlq] at hlq2
            by_cases hk : x.t = kind
            · repeat (first | refine stepA ?_ | intro _)
              apply L_buildSlOne
              · exact rfl
              · exact evA
              · exact rfl
              · exact rfl
              · decide
              intro gb
              apply L_append
              · exact rfl
              · exact evA
              · exact evA
              · exact hs_
              · exact Cut.perm cutA
              · exact Lies.cells (k := 2) (news := x.cells) pullA rfl
              · rfl
              · simp [Value.oneCell']
              · omega
              · simp only [maxLen]; omega
              · omega
              · rfl
              rintro gs2 cs2 ys2 r1 r2 r3
              have ea : mcells (filt kind Q) ++ x.cells = mcells (filt kind (Q ++ [x])) := by rw [filt_snoc, if_pos hk, mcells_append]; simp [mcells]
              have el : (filt kind (Q ++ [x])).length = (filt kind Q).length + 1 := by rw [filt_snoc, if_pos hk, List.length_append]; rfl
              rw [ea] at r1 ⊢
              repeat (first | refine stepA ?_ | intro _)
              exact ⟨rfl, ⟨i + 1, some ⟨gn, 0, none⟩, _, cn, Q ++ [x], [(gn, .cells (mcells (Q ++ [x]) ++ yn) 29)], some ⟨gs2, 0, none⟩, _, cs2, [(gs2, .cells (mcells (filt kind (Q ++ [x])) ++ ys2) 29)]⟩, ⟨by simp only; omega, Own.blk hlq2 hcn.1 hcn.2.1 hcn.2.2, Own.blk (by rw [mcells_len, el, hls]) r1 r2 r3, g2, small_snoc hm hxb⟩, by simp only; omega, sublA, subT⟩
            · repeat (first | refine stepA ?_ | intro _)
              exact ⟨rfl, ⟨i + 1, some ⟨gn, 0, none⟩, _, cn, Q ++ [x], [(gn, .cells (mcells (Q ++ [x]) ++ yn) 29)], _, _, _, _⟩, ⟨by simp only; omega, Own.blk hlq2 hcn.1 hcn.2.1 hcn.2.2, by rw [filt_snoc, if_neg hk, List.append_nil]; exact hs_, g2, small_snoc hm hxb⟩, by simp only; omega, sublA, subT⟩
      · rcases hs_.inv with ⟨rfl, rfl, rfl, _, rfl⟩ | ⟨gs, ysq, rfl, rfl, _, _, _, _⟩
        · skip
          simp only [List.cons_append, List.nil_append]
          repeat (first | refine stepA ?_ | intro _)
          refine callA ?_; refine ⟨_, _, send_spec _ _ _ Q x _ hq (by omega) (by omega) (by omega), _, cutA, ?_⟩
          rintro v H' (⟨g1, rfl, rfl⟩ | ⟨g1, g2, rfl, rfl⟩ | ⟨g1, g2, gn, cn, yn, rfl, hcn, rfl⟩)
          · simp only [List.cons_append, List.nil_append]
            repeat (first | refine stepA ?_ | intro _)
            exact ⟨rfl, ⟨i + 1, _, _, _, Q, _, _, _, _, _⟩, ⟨by simp only; omega, hq, hs_, hr, hm⟩, by simp only; omega, sublA, subT⟩
          · simp only [List.cons_append, List.nil_append]
            repeat (first | refine stepA ?_ | intro _)
            exact ⟨rfl, ⟨i + 1, _, _, _, Q, _, _, _, _, _⟩, ⟨by simp only; omega, hq, hs_, hr, hm⟩, by simp only; omega, sublA, subT⟩
          · simp only [List.cons_append, List.nil_append]
            have hq2 : mcells (Q ++ [x]) = mcells (Q ++ [x]) := rfl
            have hlq2 := mcells_len (Q ++ [x])
            rw [List.length_append, List.length_singleton, hlq] at hlq2
            by_cases hk : x.t = kind
            · repeat (first | refine stepA ?_ | intro _)
              apply L_buildSlOne
              · exact rfl
              · exact evA
              · exact rfl
              · exact rfl
              · decide
              intro gb
              apply L_append
              · exact rfl
              · exact evA
              · exact evA
              · exact hs_
              · exact Cut.perm cutA
              · exact Lies.cells (k := 2) (news := x.cells) pullA rfl
              · rfl
              · simp [Value.oneCell']
              · omega
              · simp only [maxLen]; omega
              · omega
              · rfl
              rintro gs2 cs2 ys2 r1 r2 r3
              have ea : mcells (filt kind Q) ++ x.cells = mcells (filt kind (Q ++ [x])) := by rw [filt_snoc, if_pos hk, mcells_append]; simp [mcells]
              have el : (filt kind (Q ++ [x])).length = (filt kind Q).length + 1 := by rw [filt_snoc, if_pos hk, List.length_append]; rfl
              rw [ea] at r1 ⊢
              repeat (first | refine stepA ?_ | intro _)
              exact ⟨rfl, ⟨i + 1, some ⟨gn, 0, none⟩, _, cn, Q ++ [x], [(gn, .cells (mcells (Q ++ [x]) ++ yn) 29)], some ⟨gs2, 0, none⟩, _, cs2, [(gs2, .cells (mcells (filt kind (Q ++ [x])) ++ ys2) 29)]⟩, ⟨by simp only; omega, Own.blk hlq2 hcn.1 hcn.2.1 hcn.2.2, Own.blk (by rw [mcells_len, el, hls]) r1 r2 r3, g2, small_snoc hm hxb⟩, by simp only; omega, sublA, subT⟩
            · repeat (first | refine stepA ?_ | intro _)
              exact ⟨rfl, ⟨i + 1, some ⟨gn, 0, none⟩, _, cn, Q ++ [x], [(gn, .cells (mcells (Q ++ [x]) ++ yn) 29)], _, _, _, _⟩, ⟨by simp only; omega, Own.blk hlq2 hcn.1 hcn.2.1 hcn.2.2, by rw [filt_snoc, if_neg hk, List.append_nil]; exact hs_, g2, small_snoc hm hxb⟩, by simp only; omega, sublA, subT⟩
        · skip
          simp only [List.cons_append, List.nil_append]
          repeat (first | refine stepA ?_ | intro _)
          refine callA ?_; refine ⟨_, _, send_spec _ _ _ Q x _ hq (by omega) (by omega) (by omega), _, cutA, ?_⟩
          rintro v H' (⟨g1, rfl, rfl⟩ | ⟨g1, g2, rfl, rfl⟩ | ⟨g1, g2, gn, cn, yn, rfl, hcn, rfl⟩)
          · simp only [List.cons_append, List.nil_append]
            repeat (first | refine stepA ?_ | intro _)
            exact ⟨rfl, ⟨i + 1, _, _, _, Q, _, _, _, _, _⟩, ⟨by simp only; omega, hq, hs_, hr, hm⟩, by simp only; omega, sublA, subT⟩
          · simp only [List.cons_append, List.nil_append]
            repeat (first | refine stepA ?_ | intro _)
            exact ⟨rfl, ⟨i + 1, _, _, _, Q, _, _, _, _, _⟩, ⟨by simp only; omega, hq, hs_, hr, hm⟩, by simp only; omega, sublA, subT⟩
          · simp only [List.cons_append, List.nil_append]
            have hq2 : mcells (Q ++ [x]) = mcells (Q ++ [x]) := rfl
            have hlq2 := mcells_len (Q ++ [x])
            rw [List.length_append, List.length_singleton, hlq] at hlq2
            by_cases hk : x.t = kind
            · repeat (first | refine stepA ?_ | intro _)
              apply L_buildSlOne
              · exact rfl
              · exact evA
              · exact rfl
              · exact rfl
              · decide
              intro gb
              apply L_append
              · exact rfl
              · exact evA
              · exact evA
              · exact hs_
              · exact Cut.perm cutA
              · exact Lies.cells (k := 2) (news := x.cells) pullA rfl
              · rfl
              · simp [Value.oneCell']
              · omega
              · simp only [maxLen]; omega
              · omega
              · rfl
              rintro gs2 cs2 ys2 r1 r2 r3
              have ea : mcells (filt kind Q) ++ x.cells = mcells (filt kind (Q ++ [x])) := by rw [filt_snoc, if_pos hk, mcells_append]; simp [mcells]
              have el : (filt kind (Q ++ [x])).length = (filt kind Q).length + 1 := by rw [filt_snoc, if_pos hk, List.length_append]; rfl
              rw [ea] at r1 ⊢
              repeat (first | refine stepA ?_ | intro _)
              exact ⟨rfl, ⟨i + 1, some ⟨gn, 0, none⟩, _, cn, Q ++ [x], [(gn, .cells (mcells (Q ++ [x]) ++ yn) 29)], some ⟨gs2, 0, none⟩, _, cs2, [(gs2, .cells (mcells (filt kind (Q ++ [x])) ++ ys2) 29)]⟩, ⟨by simp only; omega, Own.blk hlq2 hcn.1 hcn.2.1 hcn.2.2, Own.blk (by rw [mcells_len, el, hls]) r1 r2 r3, g2, small_snoc hm hxb⟩, by simp only; omega, sublA, subT⟩
            · repeat (first | refine stepA ?_ | intro _)
              exact ⟨rfl, ⟨i + 1, some ⟨gn, 0, none⟩, _, cn, Q ++ [x], [(gn, .cells (mcells (Q ++ [x]) ++ yn) 29)], _, _, _, _⟩, ⟨by simp only; omega, Own.blk hlq2 hcn.1 hcn.2.1 hcn.2.2, by rw [filt_snoc, if_neg hk, List.append_nil]; exact hs_, g2, small_snoc hm hxb⟩, by simp only; omega, sublA, subT⟩
    · rcases hq.inv with ⟨rfl, rfl, rfl, _, rfl⟩ | ⟨gq, yq, rfl, rfl, _, _, _, _⟩
      · rcases hs_.inv with ⟨rfl, rfl, rfl, _, rfl⟩ | ⟨gs, ysq, rfl, rfl, _, _, _, _⟩
        · have hsz : filt kind Q = [] := List.eq_nil_of_length_eq_zero hls
          simp only [List.cons_append, List.nil_append]
          have hfn : filt kind Q = [] := hsz
          by_cases hk0 : kind < 1
          · repeat (first | refine stepA ?_ | intro _)
            (first | refine retA ?_ | refine retB ?_)
            exact ⟨_, ⟨rfl, rfl⟩, subT⟩
          have hk1 : 1 ≤ kind := by omega
          repeat (first | refine stepA ?_ | intro _)
          refine W_loop (fun _ : Nat => [(1, .int .i64 kind), (5, .bool true), (6, .slice none 0 0), (7, .slice none 0 0), (11, .int .i64 0)]) (fun _ =>   H0) (fun _ => True) (fun _ => 0) 0 trivial sublA subT ?_
          intro _ _
          repeat (first | refine stepA ?_ | intro _)
          refine callA ?_; refine ⟨_, _, receive_spec none 0 0 Q kind 40 false _ hq (by have := hr.n; omega) (by have := hr.sum; omega) hm, _, cutA, ?_⟩
          rintro v H' (⟨h1, _⟩ | ⟨h1, h2, rfl, rfl⟩ | ⟨h1, k, x, h2, hx, _⟩)
          · exact absurd ⟨hr, by decide⟩ h1
          · simp only [List.cons_append, List.nil_append]
            repeat (first | refine stepA ?_ | intro _)
            (first | refine retA ?_ | refine retB ?_)
            exact ⟨_, ⟨rfl, rfl⟩, subT⟩
          · rcases find_filt (Q := Q) hk1 with ⟨h3, _⟩ | ⟨k', x', _, _, h3⟩
            · omega
            · rw [hfn] at h3; cases h3
        · obtain rfl : ns = 0 := by omega
          have hsz : filt kind Q = [] := List.eq_nil_of_length_eq_zero hls
          simp only [List.cons_append, List.nil_append]
          have hfn : filt kind Q = [] := hsz
          by_cases hk0 : kind < 1
          · repeat (first | refine stepA ?_ | intro _)
            (first | refine retA ?_ | refine retB ?_)
            exact ⟨_, ⟨rfl, rfl⟩, subT⟩
          have hk1 : 1 ≤ kind := by omega
          repeat (first | refine stepA ?_ | intro _)
          refine W_loop (fun _ : Nat => [(1, .int .i64 kind), (5, .bool true), (6, .slice none 0 0), (7, .slice (some ⟨gs, 0, none⟩) 0 cs), (11, .int .i64 0)]) (fun _ => (gs, .cells (mcells (filt kind Q) ++ ysq) 29) :: H0) (fun _ => True) (fun _ => 0) 0 trivial sublA subT ?_
          intro _ _
          repeat (first | refine stepA ?_ | intro _)
          refine callA ?_; refine ⟨_, _, receive_spec none 0 0 Q kind 40 false _ hq (by have := hr.n; omega) (by have := hr.sum; omega) hm, _, cutA, ?_⟩
          rintro v H' (⟨h1, _⟩ | ⟨h1, h2, rfl, rfl⟩ | ⟨h1, k, x, h2, hx, _⟩)
          · exact absurd ⟨hr, by decide⟩ h1
          · simp only [List.cons_append, List.nil_append]
            repeat (first | refine stepA ?_ | intro _)
            (first | refine retA ?_ | refine retB ?_)
            exact ⟨_, ⟨rfl, rfl⟩, subT⟩
          · rcases find_filt (Q := Q) hk1 with ⟨h3, _⟩ | ⟨k', x', _, _, h3⟩
            · omega
            · rw [hfn] at h3; cases h3
      · rcases hs_.inv with ⟨rfl, rfl, rfl, _, rfl⟩ | ⟨gs, ysq, rfl, rfl, _, _, _, _⟩
        · have hsz : filt kind Q = [] := List.eq_nil_of_length_eq_zero hls
          simp only [List.cons_append, List.nil_append]
          have hfn : filt kind Q = [] := hsz
          by_cases hk0 : kind < 1
          · repeat (first | refine stepA ?_ | intro _)
            (first | refine retA ?_ | refine retB ?_)
            exact ⟨_, ⟨rfl, rfl⟩, subT⟩
          have hk1 : 1 ≤ kind := by omega
          repeat (first | refine stepA ?_ | intro _)
          refine W_loop (fun _ : Nat => [(1, .int .i64 kind), (5, .bool true), (6, .slice (some ⟨gq, 0, none⟩) nq cq), (7, .slice none 0 0), (11, .int .i64 0)]) (fun _ => (gq, .cells (mcells Q ++ yq) 29) :: H0) (fun _ => True) (fun _ => 0) 0 trivial sublA subT ?_
          intro _ _
          repeat (first | refine stepA ?_ | intro _)
          refine callA ?_; refine ⟨_, _, receive_spec (some ⟨gq, 0, none⟩) nq cq Q kind 40 false _ hq (by have := hr.n; omega) (by have := hr.sum; omega) hm, _, cutA, ?_⟩
          rintro v H' (⟨h1, _⟩ | ⟨h1, h2, rfl, rfl⟩ | ⟨h1, k, x, h2, hx, _⟩)
          · exact absurd ⟨hr, by decide⟩ h1
          · simp only [List.cons_append, List.nil_append]
            repeat (first | refine stepA ?_ | intro _)
            (first | refine retA ?_ | refine retB ?_)
            exact ⟨_, ⟨rfl, rfl⟩, subT⟩
          · rcases find_filt (Q := Q) hk1 with ⟨h3, _⟩ | ⟨k', x', _, _, h3⟩
            · omega
            · rw [hfn] at h3; cases h3
        · obtain ⟨S, hS⟩ : ∃ S, S = filt kind Q := ⟨_, rfl⟩
          rw [← hS] at hls hs_ hfl ⊢
          simp only [List.cons_append, List.nil_append]
          by_cases hk0 : kind < 1
          · repeat (first | refine stepA ?_ | intro _)
            (first | refine retA ?_ | refine retB ?_)
            exact ⟨_, ⟨rfl, rfl⟩, subT⟩
          have hk1 : 1 ≤ kind := by omega
          repeat (first | refine stepA ?_ | intro _)
          refine W_loop (fun x : O2 => [(1, .int .i64 kind), (5, .bool true), (6, .slice x.aq x.nq x.cq), (7, .slice (some ⟨gs, 0, none⟩) ns cs), (11, .int .i64 (x.j : Int))]) (fun x => x.Hq ++ (gs, .cells (mcells S ++ ysq) 29) :: H0) (Ord2 kind S) (fun x => S.length - x.j) ⟨0, some ⟨gq, 0, none⟩, nq, cq, Q, [(gq, .cells (mcells Q ++ yq) 29)]⟩ ⟨Nat.zero_le _, hq, by rw [List.drop_zero]; exact hS.symm, hr, hm⟩ sublA subT ?_
          rintro ⟨j, aq, nq, cq, Q, Hq⟩ ⟨hj, hq, hf2, hr, hm⟩
          simp only at hj hq hf2 hr hm ⊢
          have hlq := oM_len hq
          have hrn2 := hr.n
          by_cases hlt : j < S.length
          · obtain ⟨x, hx⟩ : ∃ x, S[j]? = some x := ⟨S[j]'(by omega), by simp⟩
            have hdr : S.drop j = x :: S.drop (j + 1) := by
              rw [List.drop_eq_getElem_cons hlt, (List.getElem?_eq_some_iff.1 hx).2]
            have hcx := msgsAt_own S ysq j x hx
            rcases find_filt (Q := Q) hk1 with ⟨_, h3⟩ | ⟨k, x', h2, hxk, h3⟩
            · rw [hf2, hdr] at h3; cases h3
            · rw [hf2, hdr] at h3
              obtain ⟨rfl, h4⟩ := List.cons.inj h3
              have hkl := (List.getElem?_eq_some_iff.1 hxk).1
              rcases hq.inv with ⟨rfl, rfl, rfl, _, rfl⟩ | ⟨gq, yq, rfl, rfl, _, _, _, _⟩
              · omega
              have hx32 := (((allM_right Q).1 hr).1 k x hxk).2
              have ex : cutM x (40 : Int).toNat = x := by
                obtain ⟨t, d⟩ := x
                simp only [cutM, MsgV.mk.injEq, true_and]
                exact List.take_of_length_le (by simp only at hx32; show d.length ≤ 40; omega)
              simp only [List.cons_append, List.nil_append]
              repeat (first | refine stepA ?_ | intro _)
              refine callA ?_; refine ⟨_, _, receive_spec _ _ _ Q kind 40 false _ hq (by have := hr.n; omega) (by have := hr.sum; omega) hm, _, cutA, ?_⟩
              rintro v H' (⟨h1, _⟩ | ⟨_, h5, _⟩ | ⟨_, k', x', h5, hx', ⟨h6, _⟩ | ⟨_, gn, cn, yn, rfl, hcn, rfl⟩⟩)
              · exact absurd ⟨hr, by decide⟩ h1
              · omega
              · obtain rfl : k' = k := by omega
                rw [hxk] at hx'; cases hx'
                omega
              · obtain rfl : k' = k := by omega
                rw [hxk] at hx'; cases hx'
                rw [ex]
                simp only [List.cons_append, List.nil_append]
                repeat (first | refine stepA ?_ | intro _)
                (first | (apply L_P; (· exact rfl); (· exact rfl)) | (apply QL_P; (· exact rfl))); (· (apply P_neS; (· exact evA); (· exact evA); (· exact msgFit x); (· exact msgFit x); (· exact (⟨fun _ => rfl, fun _ => rfl⟩ : true = true ↔ _))))
                simp only [Bool.not_true]
                repeat (first | refine stepA ?_ | intro _)
                exact ⟨rfl, ⟨j + 1, some ⟨gn, 0, none⟩, nq - 1, cn, Q.eraseIdx k', [(gn, .cells (mcells (Q.eraseIdx k') ++ yn) 29)]⟩, ⟨by simp only; omega, Own.blk (by rw [mcells_len, erase_len hxk, hlq]) hcn.1 hcn.2.1 hcn.2.2, h4.symm, right_erase hxk hr, small_erase hm⟩, by simp only; omega, sublA, subT⟩
          · have hfn : filt kind Q = [] := by rw [hf2]; exact List.drop_of_length_le (by omega)
            have hns2 : (ns : Int) = (S.length : Int) := by omega
            rcases hq.inv with ⟨rfl, rfl, rfl, _, rfl⟩ | ⟨gq, yq, rfl, rfl, _, _, _, _⟩
            · simp only [List.nil_append]
              repeat (first | refine stepA ?_ | intro _)
              refine callA ?_; refine ⟨_, _, receive_spec _ _ _ Q kind 40 false _ hq (by have := hr.n; omega) (by have := hr.sum; omega) hm, _, cutA, ?_⟩
              rintro v H' (⟨h1, _⟩ | ⟨h1, h2, rfl, rfl⟩ | ⟨h1, k, x, h2, hx, _⟩)
              · exact absurd ⟨hr, by decide⟩ h1
              · simp only [List.cons_append, List.nil_append]
                repeat (first | refine stepA ?_ | intro _)
                (first | refine retA ?_ | refine retB ?_)
                exact ⟨_, ⟨rfl, rfl⟩, subT⟩
              · rcases find_filt (Q := Q) hk1 with ⟨h3, _⟩ | ⟨k', x', _, _, h3⟩
                · omega
                · rw [hfn] at h3; cases h3
            · simp only [List.cons_append, List.nil_append]
              repeat (first | refine stepA ?_ | intro _)
              refine callA ?_; refine ⟨_, _, receive_spec _ _ _ Q kind 40 false _ hq (by have := hr.n; omega) (by have := hr.sum; omega) hm, _, cutA, ?_⟩
              rintro v H' (⟨h1, _⟩ | ⟨h1, h2, rfl, rfl⟩ | ⟨h1, k, x, h2, hx, _⟩)
              · exact absurd ⟨hr, by decide⟩ h1
              · simp only [List.cons_append, List.nil_append]
                repeat (first | refine stepA ?_ | intro _)
                (first | refine retA ?_ | refine retB ?_)
                exact ⟨_, ⟨rfl, rfl⟩, subT⟩
              · rcases find_filt (Q := Q) hk1 with ⟨h3, _⟩ | ⟨k', x', _, _, h3⟩
                · omega
                · rw [hfn] at h3; cases h3
end Go.Proofs.Ythachclpelhaiaa
