/-
  Messages: what is answered is its own: the law's walk.
-/
import Derived.Test.YthachclpelhaiaaMh1
namespace Go.Proofs.Ythachclpelhaiaa
open Go.RowKit
attribute [local irreducible] W L QL PureOp thenQ blockQ retQ Spec IterOk YSpec roundQ scopeQ noGoQ
attribute [local irreducible] AS ASi IterOkC
set_option maxHeartbeats 6400000
theorem sizes_one (g : Nat) (d : List UInt8) (E : TypeId) (hd : d.length ≤ 9223372036854775807) :
    Spec Try.prog 26 [.slice (some ⟨g, 0, none⟩) 1 1] [(g, .cells [str d] E)] fun v H' => v = .tuple #[.int .i64 (d.length : Int), .bool (decide (d.length ≤ 32))] ∧ H' = [(g, .cells [str d] E)] := by
  refine Spec_body Try.func26 rfl Try.ntmps26 rfl (fun w0 => ?_)
  repeat (first | refine stepA ?_ | intro _)
  refine W_loop (fun k : Nat => [(4, .int .i64 (if k = 0 then 0 else (d.length : Int))), (5, .bool (if k = 0 then true else decide (d.length ≤ 32))), (8, .slice (some ⟨g, 0, none⟩) 1 1), (9, .int .i64 1), (10, .int .i64 (k : Int))]) (fun _ => [(g, .cells [str d] E)]) (fun k => k ≤ 1) (fun k => 1 - k) 0 (by omega) sublA subA ?_
  rintro k hk
  by_cases hlt : k < 1
  · obtain rfl : k = 0 := by omega
    have hld : [str d][0]? = some (str d) := rfl
    simp only [if_true]
    by_cases hsm : d.length ≤ 32
    · repeat (first | refine stepA ?_ | intro _)
      rw [show (0 : Int) + (d.length : Int) = (d.length : Int) by omega]
      exact ⟨rfl, 1, by omega, by omega, by rw [if_neg (by decide), if_neg (by decide), decide_eq_true hsm]; exact sublA, subA⟩
    · repeat (first | refine stepA ?_ | intro _)
      rw [show (0 : Int) + (d.length : Int) = (d.length : Int) by omega]
      exact ⟨rfl, 1, by omega, by omega, by rw [if_neg (by decide), if_neg (by decide), decide_eq_false hsm]; exact sublA, subA⟩
  · obtain rfl : k = 1 := by omega
    rw [if_neg (by decide), if_neg (by decide)]
    repeat (first | refine stepA ?_ | intro _)
    (first | refine retA ?_ | refine retB ?_)
    exact ⟨_, ⟨rfl, rfl⟩, subA⟩
theorem isMessage_big (m : MsgV) (h : m.d.length ≤ 9223372036854775807) (h1 : ¬ m.d.length ≤ 32) : Spec Try.prog 23 [.agg m.cells.toArray] [] fun v H' => v = .bool false ∧ H' = [] := by
  refine Spec_body Try.func23 rfl Try.ntmps23 rfl (fun w0 => ?_)
  repeat (first | refine stepA ?_ | intro _)
  rename_i b1 g1
  refine callA ?_; refine ⟨_, _, sizes_one g1 m.d _ h, _, cutA, ?_⟩
  rintro v H' ⟨rfl, rfl⟩
  simp only [List.cons_append, List.nil_append, decide_eq_false h1]
  repeat (first | refine stepA ?_ | intro _)
  (first | refine retA ?_ | refine retB ?_); exact ⟨_, ⟨rfl, rfl⟩, subA⟩
theorem send_big (a : Option Addr) (n cap : Nat) (l : List MsgV) (m : MsgV) (Hs : Hp) (how : oM a n cap l Hs) (hn : n ≤ 100) (hs : sumD (ds_ l) ≤ 100000) (hm : m.d.length ≤ 9223372036854775807) (h1 : ¬ m.d.length ≤ 32) :
    Spec Try.prog 12 [.slice a n cap, .agg m.cells.toArray] Hs fun v H' => v = .tuple #[.slice none 0 0, .int .i64 150] ∧ H' = Hs := by
  have hl := oM_len how
  have hcap := how.cap
  refine Spec_body Try.func12 rfl Try.ntmps12 rfl (fun w0 => ?_)
  repeat (first | refine stepA ?_ | intro _)
  refine callT ?_; refine ⟨_, _, right_own a n cap l Hs how (by omega) (by omega), _, cutT, ?_⟩
  rintro v H' ⟨⟨b, hb, rfl⟩, rfl⟩
  simp only [List.cons_append, List.nil_append]
  cases b with
  | false =>
    repeat (first | refine stepA ?_ | intro _)
    (first | refine retA ?_ | refine retB ?_)
    exact ⟨_, ⟨rfl, rfl⟩, subT⟩
  | true =>
    repeat (first | refine stepA ?_ | intro _)
    refine callA ?_; refine ⟨_, _, isMessage_big m hm h1, _, cutA, ?_⟩
    rintro v H' ⟨rfl, rfl⟩
    simp only [List.cons_append, List.nil_append]
    repeat (first | refine stepA ?_ | intro _)
    (first | refine retA ?_ | refine retB ?_)
    exact ⟨_, ⟨rfl, rfl⟩, subT⟩
theorem send_TB {a : Option Addr} {n cap : Nat} {L : List MsgV} {H0 T : Hp} (h : oT a n cap L H0 T) (m : MsgV) (hn : n ≤ 100) (hs : sumD (ds_ L) ≤ 100000) (hm : m.d.length ≤ 9223372036854775807) : Spec Try.prog 12 [.slice a n cap, .agg m.cells.toArray] T (Sent L m T) := by
  by_cases h1 : m.d.length ≤ 32
  · exact send_T h m hn hs (by omega)
  · obtain ⟨Hs, how, rfl⟩ := h
    refine ((send_big a n cap L m Hs how hn hs hm h1).frame H0).mono ?_
    rintro v H' ⟨H1, ⟨rfl, rfl⟩, rfl⟩
    exact .inl ⟨fun h => h1 h.2.1, rfl, rfl⟩
theorem cut_two {a : Option Addr} {cap : Nat} {L : List MsgV} {H0 T : Hp} (h : oT a L.length cap L H0 T) (hf : Few L) : Spec Try.prog 11 [.slice a L.length cap] T fun u T' =>
    ∃ aw capw, u = .slice aw L.length capw ∧ (∃ F, oT a L.length cap L F T') ∧ Spec Try.prog 15 [.slice a L.length cap, .slice aw L.length capw] T' (fun v H' => v = .bool true ∧ H' = T') ∧ Sub H0 T' := by
  refine (cut_T h hf).permR ?_
  rintro u T2 ⟨aw, capw, rfl, Hs2, how2, rfl⟩
  obtain ⟨Hs, how, rfl⟩ := h
  have hn := hf.n
  refine ⟨Hs ++ (Hs2 ++ H0), ⟨aw, capw, rfl, ⟨_, Hs, how, rfl⟩, ?_, ?_⟩, ?_⟩
  · refine ((same_own a aw L.length L.length cap capw L L Hs Hs2 how how2 (by omega)).frame H0 |> fun q => (?_ : Spec _ _ _ _ _))
    rw [← List.append_assoc]
    exact q.mono fun v H' ⟨H1, ⟨h1, h2⟩, h3⟩ => ⟨by rw [h1, decide_eq_true rfl], by rw [h3, h2]⟩
  · rcases how.inv with ⟨_, _, _, _, rfl⟩ | ⟨g, ys, _, rfl, _⟩ <;> rcases how2.inv with ⟨_, _, _, _, rfl⟩ | ⟨g2, ys2, _, rfl, _⟩
    · exact Sub.refl _
    · exact Sub.skip (Sub.refl _)
    · exact Sub.skip (Sub.refl _)
    · exact Sub.skip (Sub.skip (Sub.refl _))
  · rw [← List.append_assoc, ← List.append_assoc]
    exact List.perm_append_comm.append_right H0
theorem msgOwn_spec (v0 : Value) (H0 : Hp) (L : List MsgV) (hc : CutOf v0 H0 L) (hf : Few L) (m : MsgV) (hm : m.d.length ≤ 9223372036854775807) (kind : Int) :
    Spec Try.prog 6 [v0, .agg m.cells.toArray, .int .i64 kind] H0 fun v H' => v = .bool true ∧ H' = H0 := by
  have hn := hf.n
  have hs := hf.sum
  have hB : ∀ (k : Nat) (x : MsgV), L[k]? = some x → x.t ≤ 9223372036854775807 := fun k x hx => (hf.t k x hx).2
  refine Spec_body Try.func6 rfl Try.ntmps6 rfl (fun w0 => ?_)
  repeat (first | refine stepA ?_ | intro _)
  refine callA ?_; refine ⟨_, _, shown_spec, _, cutA, ?_⟩
  rintro v H' ⟨rfl, rfl⟩
  simp only [List.cons_append, List.nil_append]
  repeat (first | refine stepA ?_ | intro _)
  refine callT ?_; refine ⟨_, _, hc, _, cutT, ?_⟩
  rintro v T1 ⟨a, cap, rfl, hT1⟩
  simp only [List.cons_append, List.nil_append]
  repeat (first | refine stepA ?_ | intro _)
  refine callT ?_; refine ⟨_, _, cut_two hT1 hf, _, cutT, ?_⟩
  rintro v T ⟨aw, capw, rfl, ⟨F, hT⟩, hsame, hsub⟩
  simp only [List.cons_append, List.nil_append]
  repeat (first | refine stepA ?_ | intro _)
  refine callT ?_; refine ⟨_, _, send_TB hT m (by omega) hs hm, _, cutT, ?_⟩
  rintro v T2 (⟨g1, rfl, rfl⟩ | ⟨g1, g2, rfl, rfl⟩ | ⟨g1, g2, ga, ca, ya, rfl, hca, rfl⟩)
  · simp only [List.cons_append, List.nil_append]
    repeat (first | refine stepA ?_ | intro _)
    refine W_loop (fun _ : Nat => [(0, .slice a L.length cap), (2, .int .i64 kind), (7, .bool true), (8, .slice aw L.length capw), (9, .slice none 0 0), (11, .int .i64 0)]) (fun _ => T2) (fun _ => True) (fun _ => 0) 0 trivial sublA subT ?_
    intro _ _
    repeat (first | refine stepA ?_ | intro _)
    refine callT ?_; refine ⟨_, _, receive_T hT kind 40 true (by omega) hs hB, _, cutT, ?_⟩
    rintro v T3 (⟨h1, rfl, rfl⟩ | ⟨h1, h2, rfl, rfl⟩ | ⟨h1, k, x, h2, hx, ⟨h3, h4, _⟩ | ⟨h3, ⟨gb, cb, yb, rfl, hcb, rfl⟩ | ⟨h4, _⟩⟩⟩)
    · simp only [List.cons_append, List.nil_append]
      repeat (first | refine stepA ?_ | intro _)
      refine W_loop (fun _ : Nat => [(0, .slice a L.length cap), (7, .bool true), (8, .slice aw L.length capw), (12, .slice none 0 0), (15, .int .i64 0)]) (fun _ =>   T3) (fun _ => True) (fun _ => 0) 0 trivial sublA subT ?_
      intro _ _
      repeat (first | refine stepA ?_ | intro _)
      refine callT ?_; refine ⟨_, _, hsame, _, cutT, ?_⟩
      rintro v _ ⟨rfl, rfl⟩
      simp only [List.cons_append, List.nil_append]
      repeat (first | refine stepA ?_ | intro _)
      (first | refine retA ?_ | refine retB ?_)
      exact ⟨_, ⟨rfl, rfl⟩, by repeat (first | exact hsub | apply Sub.skip)⟩
    · simp only [List.cons_append, List.nil_append]
      repeat (first | refine stepA ?_ | intro _)
      refine W_loop (fun _ : Nat => [(0, .slice a L.length cap), (7, .bool true), (8, .slice aw L.length capw), (12, .slice none 0 0), (15, .int .i64 0)]) (fun _ =>   T3) (fun _ => True) (fun _ => 0) 0 trivial sublA subT ?_
      intro _ _
      repeat (first | refine stepA ?_ | intro _)
      refine callT ?_; refine ⟨_, _, hsame, _, cutT, ?_⟩
      rintro v _ ⟨rfl, rfl⟩
      simp only [List.cons_append, List.nil_append]
      repeat (first | refine stepA ?_ | intro _)
      (first | refine retA ?_ | refine retB ?_)
      exact ⟨_, ⟨rfl, rfl⟩, by repeat (first | exact hsub | apply Sub.skip)⟩
    · cases h4
    · simp only [List.cons_append, List.nil_append]
      have hme := mcells_len (L.eraseIdx k)
      have hel := erase_len hx
      repeat (first | refine stepA ?_ | intro _)
      refine W_loop (fun x : Nat × List Value => [(0, .slice a L.length cap), (7, .bool true), (8, .slice aw L.length capw), (12, .slice (some ⟨gb, 0, none⟩) (L.eraseIdx k).length cb), (15, .int .i64 (x.1 : Int))]) (fun x => (gb, .cells x.2 29) ::   T2) (fun x => x.1 ≤ (L.eraseIdx k).length ∧ x.2.length = (mcells (L.eraseIdx k) ++ yb).length) (fun x => (L.eraseIdx k).length - x.1) (0, mcells (L.eraseIdx k) ++ yb) ⟨by simp only; omega, rfl⟩ sublA subT ?_
      rintro ⟨j, M⟩ ⟨hj, hM⟩
      simp only at hj hM ⊢
      rw [List.length_append] at hM
      by_cases hlt : j < (L.eraseIdx k).length
      · repeat (first | refine stepA ?_ | intro _)
        apply L_store1; (· exact evA); (· exact rfl); (· exact rfl); (· exact rfl); (· exact repA); (· exact rfl); (· omega)
        repeat (first | refine stepA ?_ | intro _)
        exact ⟨rfl, (j + 1, M.set (j * 2) (.int .i64 (-1))), ⟨by simp only; omega, by simp only [List.length_set]; rw [hM, List.length_append]⟩, by simp only; omega, sublA, subT⟩
      · repeat (first | refine stepA ?_ | intro _)
        refine callT ?_; refine ⟨_, _, hsame, _, cutT, ?_⟩
        rintro v _ ⟨rfl, rfl⟩
        simp only [List.cons_append, List.nil_append]
        repeat (first | refine stepA ?_ | intro _)
        (first | refine retA ?_ | refine retB ?_)
        exact ⟨_, ⟨rfl, rfl⟩, by repeat (first | exact hsub | apply Sub.skip)⟩
    · cases h4
  · simp only [List.cons_append, List.nil_append]
    repeat (first | refine stepA ?_ | intro _)
    refine W_loop (fun _ : Nat => [(0, .slice a L.length cap), (2, .int .i64 kind), (7, .bool true), (8, .slice aw L.length capw), (9, .slice none 0 0), (11, .int .i64 0)]) (fun _ => T2) (fun _ => True) (fun _ => 0) 0 trivial sublA subT ?_
    intro _ _
    repeat (first | refine stepA ?_ | intro _)
    refine callT ?_; refine ⟨_, _, receive_T hT kind 40 true (by omega) hs hB, _, cutT, ?_⟩
    rintro v T3 (⟨h1, rfl, rfl⟩ | ⟨h1, h2, rfl, rfl⟩ | ⟨h1, k, x, h2, hx, ⟨h3, h4, _⟩ | ⟨h3, ⟨gb, cb, yb, rfl, hcb, rfl⟩ | ⟨h4, _⟩⟩⟩)
    · simp only [List.cons_append, List.nil_append]
      repeat (first | refine stepA ?_ | intro _)
      refine W_loop (fun _ : Nat => [(0, .slice a L.length cap), (7, .bool true), (8, .slice aw L.length capw), (12, .slice none 0 0), (15, .int .i64 0)]) (fun _ =>   T3) (fun _ => True) (fun _ => 0) 0 trivial sublA subT ?_
      intro _ _
      repeat (first | refine stepA ?_ | intro _)
      refine callT ?_; refine ⟨_, _, hsame, _, cutT, ?_⟩
      rintro v _ ⟨rfl, rfl⟩
      simp only [List.cons_append, List.nil_append]
      repeat (first | refine stepA ?_ | intro _)
      (first | refine retA ?_ | refine retB ?_)
      exact ⟨_, ⟨rfl, rfl⟩, by repeat (first | exact hsub | apply Sub.skip)⟩
    · simp only [List.cons_append, List.nil_append]
      repeat (first | refine stepA ?_ | intro _)
      refine W_loop (fun _ : Nat => [(0, .slice a L.length cap), (7, .bool true), (8, .slice aw L.length capw), (12, .slice none 0 0), (15, .int .i64 0)]) (fun _ =>   T3) (fun _ => True) (fun _ => 0) 0 trivial sublA subT ?_
      intro _ _
      repeat (first | refine stepA ?_ | intro _)
      refine callT ?_; refine ⟨_, _, hsame, _, cutT, ?_⟩
      rintro v _ ⟨rfl, rfl⟩
      simp only [List.cons_append, List.nil_append]
      repeat (first | refine stepA ?_ | intro _)
      (first | refine retA ?_ | refine retB ?_)
      exact ⟨_, ⟨rfl, rfl⟩, by repeat (first | exact hsub | apply Sub.skip)⟩
    · cases h4
    · simp only [List.cons_append, List.nil_append]
      have hme := mcells_len (L.eraseIdx k)
      have hel := erase_len hx
      repeat (first | refine stepA ?_ | intro _)
      refine W_loop (fun x : Nat × List Value => [(0, .slice a L.length cap), (7, .bool true), (8, .slice aw L.length capw), (12, .slice (some ⟨gb, 0, none⟩) (L.eraseIdx k).length cb), (15, .int .i64 (x.1 : Int))]) (fun x => (gb, .cells x.2 29) ::   T2) (fun x => x.1 ≤ (L.eraseIdx k).length ∧ x.2.length = (mcells (L.eraseIdx k) ++ yb).length) (fun x => (L.eraseIdx k).length - x.1) (0, mcells (L.eraseIdx k) ++ yb) ⟨by simp only; omega, rfl⟩ sublA subT ?_
      rintro ⟨j, M⟩ ⟨hj, hM⟩
      simp only at hj hM ⊢
      rw [List.length_append] at hM
      by_cases hlt : j < (L.eraseIdx k).length
      · repeat (first | refine stepA ?_ | intro _)
        apply L_store1; (· exact evA); (· exact rfl); (· exact rfl); (· exact rfl); (· exact repA); (· exact rfl); (· omega)
        repeat (first | refine stepA ?_ | intro _)
        exact ⟨rfl, (j + 1, M.set (j * 2) (.int .i64 (-1))), ⟨by simp only; omega, by simp only [List.length_set]; rw [hM, List.length_append]⟩, by simp only; omega, sublA, subT⟩
      · repeat (first | refine stepA ?_ | intro _)
        refine callT ?_; refine ⟨_, _, hsame, _, cutT, ?_⟩
        rintro v _ ⟨rfl, rfl⟩
        simp only [List.cons_append, List.nil_append]
        repeat (first | refine stepA ?_ | intro _)
        (first | refine retA ?_ | refine retB ?_)
        exact ⟨_, ⟨rfl, rfl⟩, by repeat (first | exact hsub | apply Sub.skip)⟩
    · cases h4
  · simp only [List.cons_append, List.nil_append]
    repeat (first | refine stepA ?_ | intro _)
    have hme := mcells_len (L ++ [m])
    rw [List.length_append, List.length_singleton] at hme
    refine W_loop (fun x : Nat × List Value => [(0, .slice a L.length cap), (2, .int .i64 kind), (7, .bool true), (8, .slice aw L.length capw), (9, .slice (some ⟨ga, 0, none⟩) (L.length + 1) ca), (11, .int .i64 (x.1 : Int))]) (fun x => (ga, .cells x.2 29) :: T) (fun x => x.1 ≤ L.length + 1 ∧ x.2.length = (mcells (L ++ [m]) ++ ya).length) (fun x => L.length + 1 - x.1) (0, mcells (L ++ [m]) ++ ya) ⟨by simp only; omega, rfl⟩ sublA subT ?_
    rintro ⟨j, M⟩ ⟨hj, hM⟩
    simp only at hj hM ⊢
    rw [List.length_append] at hM
    by_cases hlt : j < L.length + 1
    · repeat (first | refine stepA ?_ | intro _)
      apply L_store1; (· exact evA); (· exact rfl); (· exact rfl); (· exact rfl); (· exact repA); (· exact rfl); (· omega)
      repeat (first | refine stepA ?_ | intro _)
      exact ⟨rfl, (j + 1, M.set (j * 2) (.int .i64 (-1))), ⟨by simp only; omega, by simp only [List.length_set]; rw [hM, List.length_append]⟩, by simp only; omega, sublA, subT⟩
    · skip
      repeat (first | refine stepA ?_ | intro _)
      refine callT ?_; refine ⟨_, _, receive_T hT kind 40 true (by omega) hs hB, _, cutT, ?_⟩
      rintro v T3 (⟨h1, rfl, rfl⟩ | ⟨h1, h2, rfl, rfl⟩ | ⟨h1, k, x, h2, hx, ⟨h3, h4, _⟩ | ⟨h3, ⟨gb, cb, yb, rfl, hcb, rfl⟩ | ⟨h4, _⟩⟩⟩)
      · simp only [List.cons_append, List.nil_append]
        repeat (first | refine stepA ?_ | intro _)
        refine W_loop (fun _ : Nat => [(0, .slice a L.length cap), (7, .bool true), (8, .slice aw L.length capw), (12, .slice none 0 0), (15, .int .i64 0)]) (fun _ => (ga, .cells M 29) :: T3) (fun _ => True) (fun _ => 0) 0 trivial sublA subT ?_
        intro _ _
        repeat (first | refine stepA ?_ | intro _)
        refine callT ?_; refine ⟨_, _, hsame, _, cutT, ?_⟩
        rintro v _ ⟨rfl, rfl⟩
        simp only [List.cons_append, List.nil_append]
        repeat (first | refine stepA ?_ | intro _)
        (first | refine retA ?_ | refine retB ?_)
        exact ⟨_, ⟨rfl, rfl⟩, by repeat (first | exact hsub | apply Sub.skip)⟩
      · simp only [List.cons_append, List.nil_append]
        repeat (first | refine stepA ?_ | intro _)
        refine W_loop (fun _ : Nat => [(0, .slice a L.length cap), (7, .bool true), (8, .slice aw L.length capw), (12, .slice none 0 0), (15, .int .i64 0)]) (fun _ => (ga, .cells M 29) :: T3) (fun _ => True) (fun _ => 0) 0 trivial sublA subT ?_
        intro _ _
        repeat (first | refine stepA ?_ | intro _)
        refine callT ?_; refine ⟨_, _, hsame, _, cutT, ?_⟩
        rintro v _ ⟨rfl, rfl⟩
        simp only [List.cons_append, List.nil_append]
        repeat (first | refine stepA ?_ | intro _)
        (first | refine retA ?_ | refine retB ?_)
        exact ⟨_, ⟨rfl, rfl⟩, by repeat (first | exact hsub | apply Sub.skip)⟩
      · cases h4
      · simp only [List.cons_append, List.nil_append]
        have hme := mcells_len (L.eraseIdx k)
        have hel := erase_len hx
        repeat (first | refine stepA ?_ | intro _)
        refine W_loop (fun x : Nat × List Value => [(0, .slice a L.length cap), (7, .bool true), (8, .slice aw L.length capw), (12, .slice (some ⟨gb, 0, none⟩) (L.eraseIdx k).length cb), (15, .int .i64 (x.1 : Int))]) (fun x => (gb, .cells x.2 29) :: (ga, .cells M 29) :: T) (fun x => x.1 ≤ (L.eraseIdx k).length ∧ x.2.length = (mcells (L.eraseIdx k) ++ yb).length) (fun x => (L.eraseIdx k).length - x.1) (0, mcells (L.eraseIdx k) ++ yb) ⟨by simp only; omega, rfl⟩ sublA subT ?_
        rintro ⟨j, M⟩ ⟨hj, hM⟩
        simp only at hj hM ⊢
        rw [List.length_append] at hM
        by_cases hlt : j < (L.eraseIdx k).length
        · repeat (first | refine stepA ?_ | intro _)
          apply L_store1; (· exact evA); (· exact rfl); (· exact rfl); (· exact rfl); (· exact repA); (· exact rfl); (· omega)
          repeat (first | refine stepA ?_ | intro _)
          exact ⟨rfl, (j + 1, M.set (j * 2) (.int .i64 (-1))), ⟨by simp only; omega, by simp only [List.length_set]; rw [hM, List.length_append]⟩, by simp only; omega, sublA, subT⟩
        · repeat (first | refine stepA ?_ | intro _)
          refine callT ?_; refine ⟨_, _, hsame, _, cutT, ?_⟩
          rintro v _ ⟨rfl, rfl⟩
          simp only [List.cons_append, List.nil_append]
          repeat (first | refine stepA ?_ | intro _)
          (first | refine retA ?_ | refine retB ?_)
          exact ⟨_, ⟨rfl, rfl⟩, by repeat (first | exact hsub | apply Sub.skip)⟩
      · cases h4
end Go.Proofs.Ythachclpelhaiaa
