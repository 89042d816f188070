/-
  Segments: ShmDoes: the law's walk.
-/
import Derived.Test.YteahdmldipokeaaSi4
namespace Go.Proofs.Yteahdmldipokeaa
open Go.RowKit
attribute [local irreducible] W L QL PureOp thenQ blockQ retQ Spec IterOk YSpec roundQ scopeQ noGoQ
attribute [local irreducible] AS ASi IterOkC retD retE tailS cellsS
set_option maxHeartbeats 25600000
set_option maxRecDepth 4000
theorem shmDoes_out (n : Int) (v : Value) (h : ¬ (1 ≤ n ∧ n ≤ 40)) : Spec Try.prog 7 [.int .i64 n, v] [] fun u H' => u = .bool true ∧ H' = [] := by
  refine Spec_body Try.func7 rfl Try.ntmps7 rfl (fun w0 => ?_)
  repeat (first | refine stepA ?_ | intro _)
  refine callA ?_; refine ⟨_, _, shown_spec, _, cutA, ?_⟩
  rintro u H' ⟨rfl, rfl⟩
  simp only [List.cons_append, List.nil_append]
  by_cases h1 : n < 1
  · repeat (first | refine stepA ?_ | intro _)
    (first | refine retA ?_ | refine retB ?_); exact ⟨_, ⟨rfl, rfl⟩, subA⟩
  · have h2 : n > 40 := by omega
    repeat (first | refine stepA ?_ | intro _)
    (first | refine retA ?_ | refine retB ?_); exact ⟨_, ⟨rfl, rfl⟩, subA⟩
theorem shmDoes_nil (n : Nat) (h0 : 1 ≤ n ∧ n ≤ 40) (p : Option Addr) (cap : Nat) : Spec Try.prog 7 [.int .i64 (n : Int), .slice p 0 cap] [] fun u H' => u = .bool true ∧ H' = [] := by
  have h : 1 ≤ n ∧ n ≤ 256 := by omega
  refine Spec_body Try.func7 rfl Try.ntmps7 rfl (fun w0 => ?_)
  repeat (first | refine stepA ?_ | intro _)
  refine callA ?_; refine ⟨_, _, shown_spec, _, cutA, ?_⟩
  rintro u H' ⟨rfl, rfl⟩
  simp only [List.cons_append, List.nil_append]
  repeat (first | refine stepA ?_ | intro _)
  refine callA ?_; refine ⟨_, _, new_spec n h, _, cutA, ?_⟩
  rintro u H' ⟨m, rfl, rfl⟩
  simp only [List.cons_append, List.nil_append]
  repeat (first | refine stepA ?_ | intro _)
  refine callA ?_; refine ⟨_, _, rnew_spec n h, _, cutA, ?_⟩
  rintro u H' ⟨r, rfl, rfl⟩
  simp only [List.cons_append, List.nil_append]
  repeat (first | refine stepA ?_ | intro _)
  rename_i b10
  refine W_loop (fun _ : Nat => [(1, .slice p 0 cap), (5, .bool true), (7, .int .i64 0), (9, .int .i64 0), (11, .int .i64 0)]) (fun _ => []) (fun _ => True) (fun _ => 0) 0 trivial sublA subA ?_
  intro _ _
  repeat (first | refine stepA ?_ | intro _)
  (first | refine retA ?_ | refine retB ?_); exact ⟨_, ⟨rfl, rfl⟩, subA⟩
theorem shmDoes_spec (n : Nat) (h0 : 1 ≤ n ∧ n ≤ 40) (g o len cap : Nat) (C : Array Value) (E : TypeId) (fr : Nat × Nat) (acts : List Act3) (hl : acts.length = len) (hx : Acts3 C o acts) (hlen : len ≤ 9223372036854775807)
    (hw : ∀ x ∈ acts, -9223372036854775808 ≤ x.c ∧ x.c ≤ 9223372036854775807) :
    Spec Try.prog 7 [.int .i64 (n : Int), .slice (some ⟨g, o, none⟩) len cap] [(g, .oth (.cells C E fr))] fun u H' => u = .bool true ∧ H' = [(g, .oth (.cells C E fr))] := by
  have h : 1 ≤ n ∧ n ≤ 256 := by omega
  refine Spec_body Try.func7 rfl Try.ntmps7 rfl (fun w0 => ?_)
  repeat (first | refine stepA ?_ | intro _)
  refine callA ?_; refine ⟨_, _, shown_spec, _, cutA, ?_⟩
  rintro u H' ⟨rfl, rfl⟩
  simp only [List.cons_append, List.nil_append]
  repeat (first | refine stepA ?_ | intro _)
  refine callA ?_; refine ⟨_, _, new_spec n h, _, cutA, ?_⟩
  rintro u H' ⟨m, rfl, rfl⟩
  simp only [List.cons_append, List.nil_append]
  repeat (first | refine stepA ?_ | intro _)
  refine callA ?_; refine ⟨_, _, rnew_spec n h, _, cutA, ?_⟩
  rintro u H' ⟨r, rfl, rfl⟩
  simp only [List.cons_append, List.nil_append]
  repeat (first | refine stepA ?_ | intro _)
  rename_i b10
  refine W_loop (fun x : Nat × List Frm × List Sl => [(0, .int .i64 (n : Int)), (1, .slice (some ⟨g, o, none⟩) len cap), (5, .bool true), (6, m.ptr), (7, .int .i64 0), (8, r.ptr), (9, .int .i64 0), (10, .pointer (some ⟨b10, 0, none⟩)), (11, .int .i64 (x.1 : Int))])
    (fun x => (g, .oth (.cells C E fr)) :: (b10, .cells (cellsS x.2.2) 46) :: (memH m x.2.1 ++ (refH r x.2.1 ++ tailS x.2.2))) (fun x => x.1 ≤ 80 ∧ MemOk n x.2.1 ∧ (∀ y ∈ x.2.2, Sl.Ok y) ∧ x.2.2.length = 6) (fun x => 80 - x.1) (0, newM n, List.replicate 6 sl0)
    ⟨by simp only; omega, ⟨newM_wf h, newM_zb n, by simp [newM]⟩, fun y hy => by rw [(List.mem_replicate.1 hy).2]; exact sl0_ok, rfl⟩ sublA (by simp only []; rw [e6, e7, List.append_nil]; exact subA) ?_
  rintro ⟨i, M, xs⟩ ⟨hi, hM, hxs, hx6⟩
  simp only [List.cons_append, List.nil_append] at hi hM hxs hx6 ⊢
  by_cases h1 : i < len
  · by_cases h2 : i < 80
    · obtain ⟨x, hxi⟩ : ∃ x, acts[i]? = some x := ⟨acts[i]'(by omega), by simp [hl, h1]⟩
      have c1 := acts3_get hx hxi 1 (by omega)
      have hua := u64_nonneg x.a
      have hv := u64_nonneg x.b
      have hw2 := hw x (List.mem_of_getElem? hxi)
      obtain ⟨k, hk, hk6⟩ : ∃ k : Nat, IntKind.i64.wrap (IntKind.u64.wrap x.b % 6) = (k : Int) ∧ k < 6 := ⟨(IntKind.u64.wrap x.b % 6).toNat, by rw [wrap_i64 (by omega)]; omega, by omega⟩
      obtain ⟨s, hs⟩ : ∃ s, xs[k]? = some s := ⟨xs[k]'(by omega), by simp [hx6, hk6]⟩
      have hsok := hxs s (List.mem_of_getElem? hs)
      have hcs := cellsS_at hxs hs
      have hperm := tailS_at hs
      obtain ⟨v, sg, Hk⟩ := s
      obtain ⟨hos, hn3, hsg⟩ := hsok
      simp only at hos hn3 hsg hcs hperm
      obtain ⟨a, ca, hv, hown⟩ := hos
      have hv2 : v = segC a sg.l.length ca sg.c sg.g := by simpa using Value.agg.inj hv
      subst hv2
      have hcs : List.take 3 (List.drop (0 + k * 3) (cellsS xs)) = segC a sg.l.length ca sg.c sg.g := by rw [Nat.zero_add]; exact hcs
      have hos : oS (segV a sg.l.length ca sg.c sg.g) sg Hk := ⟨a, ca, rfl, hown⟩
      iterate 48 (first | refine stepA ?_ | intro _)
      rw [hk]
      iterate 35 (first | refine stepA ?_ | intro _)
      refine W_at 17 ?_
      rename_i b13 b14 b15
      obtain ⟨T, hT⟩ : ∃ T, T = tailS (xs.eraseIdx k) := ⟨_, rfl⟩
      have hback : ∀ A B : Hp, (B ++ (Hk ++ (A ++ T))).Perm (A ++ (B ++ tailS xs)) := fun A B => (permA : (B ++ (Hk ++ (A ++ T))).Perm (A ++ (B ++ (Hk ++ T)))).trans (List.Perm.append_left A (List.Perm.append_left B (by rw [hT]; exact hperm.symm)))
      have hn1000 : sg.l.length ≤ 1000 := by have := hsg.n; omega
      have hback1 : ∀ A B : Hp, (B ++ (A ++ (Hk ++ T))).Perm (A ++ (B ++ tailS xs)) := fun A B => (permA : (B ++ (A ++ (Hk ++ T))).Perm (A ++ (B ++ (Hk ++ T)))).trans (List.Perm.append_left A (List.Perm.append_left B (by rw [hT]; exact hperm.symm)))
      have hperm2 : (tailS xs).Perm (Hk ++ T) := by rw [hT]; exact hperm
      have hback0 : (Hk ++ T).Perm (tailS xs) := by rw [hT]; exact hperm.symm
      obtain ⟨Q1, hQ1⟩ : ∃ Q1 : PostT, Q1 = fun e l' ds' H' => ds' = [] ∧
        ((e = .exit 1 ∧ Subl [(0, .int .i64 (n : Int)), (1, .slice (some ⟨g, o, none⟩) len cap), (5, .bool true), (6, m.ptr), (7, .int .i64 0), (8, r.ptr), (9, .int .i64 0), (10, .pointer (some ⟨b10, 0, none⟩)), (11, .int .i64 (i : Int))] l' ∧
            Sub ((g, .oth (.cells C E fr)) :: (b10, .cells (cellsS xs) 46) :: (memH m M ++ (refH r M ++ tailS xs))) H') ∨
         (e = .normal ∧ ∃ (N : List Frm) (t : Sg) (va vb : List Value) (y : Bool) (gv : Int) (Ha Hb : Hp), ((Sl.Ok ⟨va, t, Ha⟩ ∧ Sl.Ok ⟨vb, t, Hb⟩) ∧ MemOk n N) ∧
            Subl [(0, .int .i64 (n : Int)), (1, .slice (some ⟨g, o, none⟩) len cap), (5, .bool true), (6, m.ptr), (7, .int .i64 0), (8, r.ptr), (9, .int .i64 0), (10, .pointer (some ⟨b10, 0, none⟩)), (11, .int .i64 (i : Int)), (12, .int .i64 (k : Int)), (14, .pointer (some ⟨b14, 0, none⟩)), (15, .pointer (some ⟨b15, 0, none⟩)), (16, .bool y), (17, .bool y), (18, .int .i64 gv), (19, .int .i64 gv)] l' ∧
            Sub ((g, .oth (.cells C E fr)) :: (b10, .cells (cellsS xs) 46) :: (b14, .cells va 29) :: (b15, .cells vb 29) :: (memH m N ++ (refH r N ++ (Ha ++ (Hb ++ tailS xs))))) H')) := ⟨_, rfl⟩
      refine W_cut Q1 ?_ ?_
      · have c0 := acts3_get hx hxi 0 (by omega)
        have c2 := acts3_get hx hxi 2 (by omega)
        refine W_tail hperm2 ?_
        simp only [List.cons_append, List.nil_append]
        have hc : IntKind.u64.wrap x.a % 5 = 0 ∨ IntKind.u64.wrap x.a % 5 = 1 ∨ IntKind.u64.wrap x.a % 5 = 2 ∨ IntKind.u64.wrap x.a % 5 = 3 ∨ IntKind.u64.wrap x.a % 5 = 4 := by omega
        rcases hc with hc | hc | hc | hc | hc
        · skip
          by_cases hlen0 : sg.l.length = 0
          · by_cases hp : 0 < pagesN x.c
            · repeat (first | refine stepA ?_ | intro _)
              refine callT ?_; refine ⟨_, _, new_T m hM.wf hM.zb x.c hw2.2 hp (Hk ++ T), _, cutT, ?_⟩
              rintro u H' (⟨q1, rfl, rfl⟩ | ⟨q1, a1, cap1, H1, rfl, ho1, rfl⟩)
              · simp only [List.cons_append, List.nil_append]
                repeat (first | refine stepA ?_ | intro _)
                refine callT ?_; refine ⟨_, _, rnew_T r hM.wf x.c hw2.2 hp (Hk ++ T), _, cutT, ?_⟩
                rintro u H' (⟨q2, rfl, rfl⟩ | ⟨q2, _⟩)
                · simp only [List.cons_append, List.nil_append]
                  refine L_tail hback0 ?_
                  simp only [List.cons_append, List.nil_append]
                  repeat (first | refine stepA ?_ | intro _)
                  rw [hQ1]
                  exact ⟨rfl, .inr ⟨rfl, M, ⟨[], 0, false⟩, segC none 0 0 0 false, segC none 0 0 0 false, false, 11, [], [], ⟨⟨sl0_ok, sl0_ok⟩, hM⟩, sublA, by simp only [List.cons_append, List.nil_append]; exact subT⟩⟩
                · omega
              · simp only [List.cons_append, List.nil_append]
                repeat (first | refine stepA ?_ | intro _)
                refine L_tail (T' := H1 ++ (Hk ++ T)) (List.Perm.refl _) ?_
                simp only [List.cons_append, List.nil_append]
                refine callT ?_; refine ⟨_, _, rnew_T r hM.wf x.c hw2.2 hp (H1 ++ (Hk ++ T)), _, cutT, ?_⟩
                rintro u H' (⟨q2, _⟩ | ⟨q2, a2, cap2, H2, rfl, ho2, rfl⟩)
                · omega
                · simp only [List.cons_append, List.nil_append]
                  refine L_tail (hback1 H1 H2) ?_
                  simp only [List.cons_append, List.nil_append]
                  have hpl := pagesN_le x.c
                  have hsg2 : SgOk ⟨idsN M (pagesN x.c), 0, false⟩ := ⟨⟨by simp, by simp⟩, by simp only [idsN_len]; exact hpl⟩
                  repeat (first | refine stepA ?_ | intro _)
                  rw [hQ1]
                  exact ⟨rfl, .inr ⟨rfl, _, ⟨idsN M (pagesN x.c), 0, false⟩, _, _, false, 0, H1, H2, ⟨⟨⟨ho1, rfl, hsg2⟩, ⟨ho2, rfl, hsg2⟩⟩, memN_ok hM (pagesN x.c)⟩, sublA, by simp only [List.cons_append, List.nil_append]; exact subT⟩⟩
            · have hp0 : pagesN x.c = 0 := by omega
              repeat (first | refine stepA ?_ | intro _)
              refine callA ?_; refine ⟨_, _, shnew_seg m x.c hw2.2 hp0, _, cutA, ?_⟩
              rintro u H' ⟨rfl, rfl⟩
              simp only [List.cons_append, List.nil_append]
              repeat (first | refine stepA ?_ | intro _)
              refine callA ?_; refine ⟨_, _, rnew16_seg r x.c hw2.2 hp0, _, cutA, ?_⟩
              rintro u H' ⟨rfl, rfl⟩
              simp only [List.cons_append, List.nil_append]
              refine L_tail hback0 ?_
              simp only [List.cons_append, List.nil_append]
              repeat (first | refine stepA ?_ | intro _)
              rw [hQ1]
              exact ⟨rfl, .inr ⟨rfl, M, ⟨[], 0, false⟩, segC none 0 0 0 false, segC none 0 0 0 false, false, 160, [], [], ⟨⟨sl0_ok, sl0_ok⟩, hM⟩, sublA, by simp only [List.cons_append, List.nil_append]; exact subT⟩⟩
          · refine W_tail hback0 ?_
            simp only [List.cons_append, List.nil_append]
            repeat (first | refine stepA ?_ | intro _)
            rw [hQ1]
            exact ⟨rfl, .inl ⟨rfl, sublA, subT⟩⟩
        · skip
          by_cases hlen0 : sg.l.length = 0
          · by_cases hp : 0 < pagesN x.c
            · repeat (first | refine stepA ?_ | intro _)
              refine callT ?_; refine ⟨_, _, new_T m hM.wf hM.zb x.c hw2.2 hp (Hk ++ T), _, cutT, ?_⟩
              rintro u H' (⟨q1, rfl, rfl⟩ | ⟨q1, a1, cap1, H1, rfl, ho1, rfl⟩)
              · simp only [List.cons_append, List.nil_append]
                repeat (first | refine stepA ?_ | intro _)
                refine callT ?_; refine ⟨_, _, rnew_T r hM.wf x.c hw2.2 hp (Hk ++ T), _, cutT, ?_⟩
                rintro u H' (⟨q2, rfl, rfl⟩ | ⟨q2, _⟩)
                · simp only [List.cons_append, List.nil_append]
                  refine L_tail hback0 ?_
                  simp only [List.cons_append, List.nil_append]
                  repeat (first | refine stepA ?_ | intro _)
                  rw [hQ1]
                  exact ⟨rfl, .inr ⟨rfl, M, ⟨[], 0, false⟩, segC none 0 0 0 false, segC none 0 0 0 false, false, 11, [], [], ⟨⟨sl0_ok, sl0_ok⟩, hM⟩, sublA, by simp only [List.cons_append, List.nil_append]; exact subT⟩⟩
                · omega
              · simp only [List.cons_append, List.nil_append]
                repeat (first | refine stepA ?_ | intro _)
                refine L_tail (T' := H1 ++ (Hk ++ T)) (List.Perm.refl _) ?_
                simp only [List.cons_append, List.nil_append]
                refine callT ?_; refine ⟨_, _, rnew_T r hM.wf x.c hw2.2 hp (H1 ++ (Hk ++ T)), _, cutT, ?_⟩
                rintro u H' (⟨q2, _⟩ | ⟨q2, a2, cap2, H2, rfl, ho2, rfl⟩)
                · omega
                · simp only [List.cons_append, List.nil_append]
                  refine L_tail (hback1 H1 H2) ?_
                  simp only [List.cons_append, List.nil_append]
                  have hpl := pagesN_le x.c
                  have hsg2 : SgOk ⟨idsN M (pagesN x.c), 0, false⟩ := ⟨⟨by simp, by simp⟩, by simp only [idsN_len]; exact hpl⟩
                  repeat (first | refine stepA ?_ | intro _)
                  rw [hQ1]
                  exact ⟨rfl, .inr ⟨rfl, _, ⟨idsN M (pagesN x.c), 0, false⟩, _, _, false, 0, H1, H2, ⟨⟨⟨ho1, rfl, hsg2⟩, ⟨ho2, rfl, hsg2⟩⟩, memN_ok hM (pagesN x.c)⟩, sublA, by simp only [List.cons_append, List.nil_append]; exact subT⟩⟩
            · have hp0 : pagesN x.c = 0 := by omega
              repeat (first | refine stepA ?_ | intro _)
              refine callA ?_; refine ⟨_, _, shnew_seg m x.c hw2.2 hp0, _, cutA, ?_⟩
              rintro u H' ⟨rfl, rfl⟩
              simp only [List.cons_append, List.nil_append]
              repeat (first | refine stepA ?_ | intro _)
              refine callA ?_; refine ⟨_, _, rnew16_seg r x.c hw2.2 hp0, _, cutA, ?_⟩
              rintro u H' ⟨rfl, rfl⟩
              simp only [List.cons_append, List.nil_append]
              refine L_tail hback0 ?_
              simp only [List.cons_append, List.nil_append]
              repeat (first | refine stepA ?_ | intro _)
              rw [hQ1]
              exact ⟨rfl, .inr ⟨rfl, M, ⟨[], 0, false⟩, segC none 0 0 0 false, segC none 0 0 0 false, false, 160, [], [], ⟨⟨sl0_ok, sl0_ok⟩, hM⟩, sublA, by simp only [List.cons_append, List.nil_append]; exact subT⟩⟩
          · refine W_tail hback0 ?_
            simp only [List.cons_append, List.nil_append]
            repeat (first | refine stepA ?_ | intro _)
            rw [hQ1]
            exact ⟨rfl, .inl ⟨rfl, sublA, subT⟩⟩
        · skip
          cases hu : useS sg with
          | none =>
            repeat (first | refine stepA ?_ | intro _)
            refine callT ?_; refine ⟨_, _, (use_bad m _ sg Hk hos hn1000 hu).frameQ T, _, cutT, ?_⟩
            rintro u H' ⟨rfl, rfl⟩
            simp only [List.cons_append, List.nil_append]
            repeat (first | refine stepA ?_ | intro _)
            refine callA ?_; refine ⟨_, _, ruse_bad _ sg Hk hos hu, _, cutA, ?_⟩
            rintro u H' ⟨rfl, rfl⟩
            simp only [List.cons_append, List.nil_append]
            refine L_tail hback0 ?_
            simp only [List.cons_append, List.nil_append]
            repeat (first | refine stepA ?_ | intro _)
            rw [hQ1]
            exact ⟨rfl, .inr ⟨rfl, M, ⟨[], 0, false⟩, segC none 0 0 0 false, segC none 0 0 0 false, false, 160, [], [], ⟨⟨sl0_ok, sl0_ok⟩, hM⟩, sublA, by simp only [List.cons_append, List.nil_append]; exact subT⟩⟩
          | some t =>
            repeat (first | refine stepA ?_ | intro _)
            refine callT ?_; refine ⟨_, _, use_T m _ sg t Hk hos hsg hu T, _, cutT, ?_⟩
            rintro u H' ⟨a1, cap1, H1, rfl, ho1, rfl⟩
            simp only [List.cons_append, List.nil_append]
            repeat (first | refine stepA ?_ | intro _)
            refine L_tail (T := H1 ++ (Hk ++ T)) (T' := Hk ++ (H1 ++ T)) permA ?_
            simp only [List.cons_append, List.nil_append]
            refine callT ?_; refine ⟨_, _, ruse_T _ sg t Hk hos hsg hu (H1 ++ T), _, cutT, ?_⟩
            rintro u H' ⟨a2, cap2, H2, rfl, ho2, rfl⟩
            simp only [List.cons_append, List.nil_append]
            refine L_tail (hback H1 H2) ?_
            simp only [List.cons_append, List.nil_append]
            have hsg2 := use_sg hu hsg
            repeat (first | refine stepA ?_ | intro _)
            rw [hQ1]
            exact ⟨rfl, .inr ⟨rfl, M, t, _, _, false, 0, H1, H2, ⟨⟨⟨ho1, rfl, hsg2⟩, ⟨ho2, rfl, hsg2⟩⟩, hM⟩, sublA, by simp only [List.cons_append, List.nil_append]; exact subT⟩⟩
        · skip
          cases hu : leaveS M sg with
          | none =>
            repeat (first | refine stepA ?_ | intro _)
            refine callT ?_; refine ⟨_, _, (leave_bad m _ sg Hk hos hn1000 hu).frameQ T, _, cutT, ?_⟩
            rintro u H' ⟨rfl, rfl⟩
            simp only [List.cons_append, List.nil_append]
            repeat (first | refine stepA ?_ | intro _)
            refine callA ?_; refine ⟨_, _, rleave_bad r _ sg Hk hos hu, _, cutA, ?_⟩
            rintro u H' ⟨rfl, rfl⟩
            simp only [List.cons_append, List.nil_append]
            refine L_tail hback0 ?_
            simp only [List.cons_append, List.nil_append]
            repeat (first | refine stepA ?_ | intro _)
            rw [hQ1]
            exact ⟨rfl, .inr ⟨rfl, M, ⟨[], 0, false⟩, segC none 0 0 0 false, segC none 0 0 0 false, false, 160, [], [], ⟨⟨sl0_ok, sl0_ok⟩, hM⟩, sublA, by simp only [List.cons_append, List.nil_append]; exact subT⟩⟩
          | some q =>
            obtain ⟨t, y, N⟩ := q
            repeat (first | refine stepA ?_ | intro _)
            refine callT ?_; refine ⟨_, _, leave_T m hM.wf _ sg t y N Hk hos hsg hu T, _, cutT, ?_⟩
            rintro u H' ⟨a1, cap1, H1, rfl, ho1, rfl⟩
            simp only [List.cons_append, List.nil_append]
            repeat (first | refine stepA ?_ | intro _)
            refine L_tail (T := H1 ++ (Hk ++ T)) (T' := Hk ++ (H1 ++ T)) permA ?_
            simp only [List.cons_append, List.nil_append]
            refine callT ?_; refine ⟨_, _, rleave_T r hM.wf _ sg t y N Hk hos hsg hu (H1 ++ T), _, cutT, ?_⟩
            rintro u H' ⟨a2, cap2, H2, rfl, ho2, rfl⟩
            simp only [List.cons_append, List.nil_append]
            refine L_tail (hback H1 H2) ?_
            simp only [List.cons_append, List.nil_append]
            obtain ⟨hN, hsg2⟩ := leave_sg hu hM hsg
            repeat (first | refine stepA ?_ | intro _)
            rw [hQ1]
            exact ⟨rfl, .inr ⟨rfl, N, t, _, _, y, 0, H1, H2, ⟨⟨⟨ho1, rfl, hsg2⟩, ⟨ho2, rfl, hsg2⟩⟩, hN⟩, sublA, by simp only [List.cons_append, List.nil_append]; exact subT⟩⟩
        · skip
          cases hu : markS M sg with
          | none =>
            repeat (first | refine stepA ?_ | intro _)
            refine callT ?_; refine ⟨_, _, (mark_bad m _ sg Hk hos hn1000 hu).frameQ T, _, cutT, ?_⟩
            rintro u H' ⟨rfl, rfl⟩
            simp only [List.cons_append, List.nil_append]
            repeat (first | refine stepA ?_ | intro _)
            refine callA ?_; refine ⟨_, _, rmark_bad r _ sg Hk hos hu, _, cutA, ?_⟩
            rintro u H' ⟨rfl, rfl⟩
            simp only [List.cons_append, List.nil_append]
            refine L_tail hback0 ?_
            simp only [List.cons_append, List.nil_append]
            repeat (first | refine stepA ?_ | intro _)
            rw [hQ1]
            exact ⟨rfl, .inr ⟨rfl, M, ⟨[], 0, false⟩, segC none 0 0 0 false, segC none 0 0 0 false, false, 160, [], [], ⟨⟨sl0_ok, sl0_ok⟩, hM⟩, sublA, by simp only [List.cons_append, List.nil_append]; exact subT⟩⟩
          | some q =>
            obtain ⟨t, y, N⟩ := q
            repeat (first | refine stepA ?_ | intro _)
            refine callT ?_; refine ⟨_, _, mark_T m hM.wf _ sg t y N Hk hos hsg hu T, _, cutT, ?_⟩
            rintro u H' ⟨a1, cap1, H1, rfl, ho1, rfl⟩
            simp only [List.cons_append, List.nil_append]
            repeat (first | refine stepA ?_ | intro _)
            refine L_tail (T := H1 ++ (Hk ++ T)) (T' := Hk ++ (H1 ++ T)) permA ?_
            simp only [List.cons_append, List.nil_append]
            refine callT ?_; refine ⟨_, _, rmark_T r hM.wf _ sg t y N Hk hos hsg hu (H1 ++ T), _, cutT, ?_⟩
            rintro u H' ⟨a2, cap2, H2, rfl, ho2, rfl⟩
            simp only [List.cons_append, List.nil_append]
            refine L_tail (hback H1 H2) ?_
            simp only [List.cons_append, List.nil_append]
            obtain ⟨hN, hsg2⟩ := mark_sg hu hM hsg
            repeat (first | refine stepA ?_ | intro _)
            rw [hQ1]
            exact ⟨rfl, .inr ⟨rfl, N, t, _, _, y, 0, H1, H2, ⟨⟨⟨ho1, rfl, hsg2⟩, ⟨ho2, rfl, hsg2⟩⟩, hN⟩, sublA, by simp only [List.cons_append, List.nil_append]; exact subT⟩⟩
      · intro e l' ds' H' hq
        rw [hQ1] at hq
        obtain ⟨rfl, ⟨rfl, sl, sh⟩ | ⟨rfl, N, t, va, vb, y, gv, Ha, Hb, ⟨⟨oka, okb⟩, hN⟩, sl, sh⟩⟩ := hq
        · apply thenQ_e
          apply blockQ_hit
          · exact rfl
          apply thenQ_n
          refine W_weak sl sh ?_
          simp only [List.cons_append, List.nil_append]
          repeat (first | refine stepA ?_ | intro _)
          exact ⟨rfl, (i + 1, M, xs), ⟨by simp only; omega, hM, hxs, hx6⟩, by simp only; omega, sublA, subT⟩
        · apply thenQ_n
          refine W_weak sl sh ?_
          simp only [List.cons_append, List.nil_append]
          have hoka := oka
          obtain ⟨⟨a1, cap1, e1, how1⟩, _, sg1⟩ := oka
          obtain ⟨⟨a2, cap2, e2, how2⟩, _, _⟩ := okb
          obtain rfl : va = segC a1 t.l.length cap1 t.c t.g := by simpa using Value.agg.inj e1
          obtain rfl : vb = segC a2 t.l.length cap2 t.c t.g := by simpa using Value.agg.inj e2
          have hos1 : oS (segV a1 t.l.length cap1 t.c t.g) t Ha := ⟨a1, cap1, rfl, how1⟩
          have hos2 : oS (segV a2 t.l.length cap2 t.c t.g) t Hb := ⟨a2, cap2, rfl, how2⟩
          have c2 := acts3_get hx hxi 2 (by omega)
          repeat (first | refine stepA ?_ | intro _)
          refine W_any [(b14, .cells (segC a1 t.l.length cap1 t.c t.g) 29), (b15, .cells (segC a2 t.l.length cap2 t.c t.g) 29), (g, .oth (.cells C E fr))] [] rfl ?_
          refine AS_at 0 (by decide +kernel) ?_; refine takeA ?_
          refine AS_at 1 (by decide +kernel) ?_; refine takeA ?_
          refine AS_one 2 rfl (by decide +kernel) rfl ?_
          refine callT ?_; refine ⟨_, _, same_T hos1 hos2 sg1.n (tailS xs), _, cutT, ?_⟩
          rintro u H' ⟨rfl, rfl⟩
          simp only [List.cons_append, List.nil_append]
          refine L_nil ?_; refine ⟨rfl, (by first | exact KeepsH.brk (by decide +kernel) | exact KeepsH.sub subA | exact KeepsH.sub subT), ?_⟩
          refine AS_at 3 (by decide +kernel) ?_; refine takeA ?_
          refine AS_at 4 (by decide +kernel) ?_; refine takeA ?_
          refine AS_at 5 (by decide +kernel) ?_; refine takeA ?_
          refine AS_at 6 (by decide +kernel) ?_; refine takeA ?_
          refine AS_at 7 (by decide +kernel) ?_; refine takeA ?_
          refine AS_at 8 (by decide +kernel) ?_; refine takeA ?_
          refine AS_at 9 (by decide +kernel) ?_; refine takeA ?_
          refine AS_at 10 (by decide +kernel) ?_; refine takeA ?_
          refine AS_at 11 (by decide +kernel) ?_; refine takeA ?_
          refine AS_at 12 (by decide +kernel) ?_; refine takeA ?_
          refine AS_at 13 (by decide +kernel) ?_; refine takeA ?_
          refine AS_at 14 (by decide +kernel) ?_; refine takeA ?_
          refine AS_at 15 (by decide +kernel) ?_; refine takeA ?_
          refine AS_at 17 (by decide +kernel) ?_; refine takeA ?_
          refine AS_one 16 rfl (by decide +kernel) rfl ?_
          refine stepA ?_
          refine callA ?_; refine ⟨_, _, left_spec m hN.wf, _, cutA, ?_⟩
          rintro v H' ⟨rfl, rfl⟩
          simp only [List.cons_append, List.nil_append]
          refine L_nil ?_; refine ⟨rfl, (by first | exact KeepsH.brk (by decide +kernel) | exact KeepsH.sub subA | exact KeepsH.sub subT), ?_⟩
          refine AS_one 18 rfl (by decide +kernel) rfl ?_
          refine stepA ?_
          refine callA ?_; refine ⟨_, _, rleft r hN.wf, _, cutA, ?_⟩
          rintro v H' ⟨rfl, rfl⟩
          simp only [List.cons_append, List.nil_append]
          refine L_nil ?_; refine ⟨rfl, (by first | exact KeepsH.brk (by decide +kernel) | exact KeepsH.sub subA | exact KeepsH.sub subT), ?_⟩
          refine AS_at 19 (by decide +kernel) ?_; refine takeA ?_
          refine AS_at 20 (by decide +kernel) ?_; refine takeA ?_
          refine AS_at 21 (by decide +kernel) ?_; refine takeA ?_
          refine AS_at 22 (by decide +kernel) ?_; refine takeA ?_
          refine AS_at 23 (by decide +kernel) ?_; refine takeA ?_
          refine AS_at 24 (by decide +kernel) ?_; refine takeA ?_
          refine AS_at 25 (by decide +kernel) ?_; refine takeA ?_
          refine AS_at 26 (by decide +kernel) ?_; refine takeA ?_
          refine AS_at 28 (by decide +kernel) ?_; refine takeA ?_
          refine AS_at 29 (by decide +kernel) ?_; refine takeA ?_
          refine AS_at 30 (by decide +kernel) ?_; refine takeA ?_
          refine AS_at 31 (by decide +kernel) ?_; refine takeA ?_
          refine AS_at 32 (by decide +kernel) ?_; refine takeA ?_
          refine AS_one 27 rfl (by decide +kernel) rfl ?_
          refine stepA ?_
          refine callA ?_; refine ⟨_, _, pages_spec x.c hw2.2, _, cutA, ?_⟩
          rintro v H' ⟨rfl, rfl⟩
          simp only [List.cons_append, List.nil_append]
          refine L_nil ?_; refine ⟨rfl, (by first | exact KeepsH.brk (by decide +kernel) | exact KeepsH.sub subA | exact KeepsH.sub subT), ?_⟩
          refine AS_one 33 rfl (by decide +kernel) rfl ?_
          refine stepA ?_
          refine callA ?_; refine ⟨_, _, rpages_spec x.c hw2.2, _, cutA, ?_⟩
          rintro v H' ⟨rfl, rfl⟩
          simp only [List.cons_append, List.nil_append]
          refine L_nil ?_; refine ⟨rfl, (by first | exact KeepsH.brk (by decide +kernel) | exact KeepsH.sub subA | exact KeepsH.sub subT), ?_⟩
          refine AS_at 34 (by decide +kernel) ?_; refine takeA ?_
          refine AS_at 35 (by decide +kernel) ?_; refine takeA ?_
          refine AS_done (by decide +kernel) ?_
          repeat (first | refine stepA ?_ | intro _)
          refine W_loop (fun j : Nat => [(0, .int .i64 (n : Int)), (1, .slice (some ⟨g, o, none⟩) len cap), (5, .bool true), (6, m.ptr), (7, .int .i64 0), (8, r.ptr), (9, .int .i64 0), (10, .pointer (some ⟨b10, 0, none⟩)), (11, .int .i64 (i : Int)), (12, .int .i64 (k : Int)), (14, .pointer (some ⟨b14, 0, none⟩)), (18, .int .i64 gv), (20, .int .i64 (j : Int))])
            (fun _ => (g, .oth (.cells C E fr)) :: (b10, .cells (cellsS xs) 46) :: (b14, .cells (segC a1 t.l.length cap1 t.c t.g) 29) :: (memH m N ++ (refH r N ++ (Ha ++ (Hb ++ tailS xs))))) (fun j => j ≤ n) (fun j => n - j) 0 (by omega) sublA (by simp only [List.cons_append, List.nil_append]; exact subT) ?_
          intro j hj
          simp only [List.cons_append, List.nil_append]
          by_cases hjn : j < n
          · repeat (first | refine stepA ?_ | intro _)
            refine callA ?_; refine ⟨_, _, refs_spec m hN.wf (j : Int), _, cutA, ?_⟩
            rintro u H' ⟨rfl, rfl⟩
            simp only [List.cons_append, List.nil_append]
            repeat (first | refine stepA ?_ | intro _)
            refine callA ?_; refine ⟨_, _, rrefs r (M := N) (j : Int), _, cutA, ?_⟩
            rintro u H' ⟨rfl, rfl⟩
            simp only [List.cons_append, List.nil_append]
            repeat (first | refine stepA ?_ | intro _)
            exact ⟨rfl, j + 1, by omega, by omega, sublA, subT⟩
          · by_cases hgv : gv = 0
            · subst hgv
              have hset : (tailS (xs.set k ⟨segC a1 t.l.length cap1 t.c t.g, t, Ha⟩)).Perm (Ha ++ T) := by rw [hT]; exact tailS_set hs _
              have hp2 : (tailS (xs.set k ⟨segC a1 t.l.length cap1 t.c t.g, t, Ha⟩) ++ (Hb ++ Hk)).Perm (Ha ++ (Hb ++ tailS xs)) := (List.Perm.append_right _ hset).trans ((permA : ((Ha ++ T) ++ (Hb ++ Hk)).Perm (Ha ++ (Hb ++ (Hk ++ T)))).trans (List.Perm.append_left Ha (List.Perm.append_left Hb hback0)))
              have hcs2 : (cellsS xs).take (0 + k * 3) ++ segC a1 t.l.length cap1 t.c t.g ++ (cellsS xs).drop (0 + k * 3 + 3) = cellsS (xs.set k ⟨segC a1 t.l.length cap1 t.c t.g, t, Ha⟩) := by rw [Nat.zero_add]; exact cellsS_set hxs hs ⟨segC a1 t.l.length cap1 t.c t.g, t, Ha⟩
              refine W_tailS (Sub.ofPermR hp2) ?_
              simp only [List.cons_append, List.nil_append]
              repeat (first | refine stepA ?_ | intro _)
              apply L_store
              · exact evA
              · exact evA
              · exact rfl
              · exact rfl
              · intro u hu
                simp only [List.take, List.drop, List.mem_cons, List.not_mem_nil, or_false] at hu
                rcases hu with rfl | rfl | rfl <;> rfl
              · exact repA
              · exact hcs2
              · rw [cellsS_len hxs, hx6]; omega
              repeat (first | refine stepA ?_ | intro _)
              refine ⟨rfl, (i + 1, N, xs.set k ⟨segC a1 t.l.length cap1 t.c t.g, t, Ha⟩), ⟨by simp only; omega, hN, fun z hz => ?_, by simp only [List.length_set]; exact hx6⟩, by simp only; omega, sublA, subT⟩
              rcases List.mem_or_eq_of_mem_set hz with hz | hz
              · exact hxs z hz
              · rw [hz]; exact hoka
            · refine W_tailS (Sub.ofPermR (permA : (tailS xs ++ (Ha ++ Hb)).Perm (Ha ++ (Hb ++ tailS xs)))) ?_
              simp only [List.cons_append, List.nil_append]
              repeat (first | refine stepA ?_ | intro _)
              exact ⟨rfl, (i + 1, N, xs), ⟨by simp only; omega, hN, hxs, hx6⟩, by simp only; omega, sublA, subT⟩
    · repeat (first | refine stepA ?_ | intro _)
      (first | refine retA ?_ | refine retB ?_); exact ⟨_, ⟨rfl, rfl⟩, subA⟩
  · repeat (first | refine stepA ?_ | intro _)
    (first | refine retA ?_ | refine retB ?_); exact ⟨_, ⟨rfl, rfl⟩, subA⟩
end Go.Proofs.Yteahdmldipokeaa
