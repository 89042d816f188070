/-
  Segments: the document's answer.
-/
import Derived.Test.YteahdmldipokeaaSh5
import Derived.Test.YteahdmldipokeaaRf4
namespace Go.Proofs.Yteahdmldipokeaa
open Go.RowKit
attribute [local irreducible] W L QL PureOp thenQ blockQ retQ Spec IterOk YSpec roundQ scopeQ noGoQ
attribute [local irreducible] AS ASi IterOkC retD retE
set_option maxHeartbeats 6400000
theorem rpages_spec (size : Int) (hs : size ≤ 9223372036854775807) : Spec Try.prog 25 [.int .i64 size] [] fun v H' => v = .int .i64 (pagesN size : Int) ∧ H' = [] := by
  refine Spec_body Try.func25 rfl Try.ntmps25 rfl (fun w0 => ?_)
  by_cases h1 : size < 1
  · have e : pagesN size = 0 := by rw [pagesN, if_neg (by omega)]
    repeat (first | refine stepA ?_ | intro _)
    (first | refine retA ?_ | refine retB ?_); exact ⟨_, ⟨by rw [e]; rfl, rfl⟩, subA⟩
  · by_cases h2 : size > 512
    · have e : pagesN size = 0 := by rw [pagesN, if_neg (by omega)]
      repeat (first | refine stepA ?_ | intro _)
      (first | refine retA ?_ | refine retB ?_); exact ⟨_, ⟨by rw [e]; rfl, rfl⟩, subA⟩
    · have e : pagesN size = (size.toNat + 63) / 64 := by rw [pagesN, if_pos (by omega)]
      have e2 : (size + 63) / 64 = ((pagesN size : Nat) : Int) := by rw [e]; omega
      repeat (first | refine stepA ?_ | intro _)
      (first | refine retA ?_ | refine retB ?_); exact ⟨_, ⟨by rw [← e2]; rfl, rfl⟩, subA⟩
theorem Own.lies {a : Option Addr} {n cap : Nat} {l : List Nat} {Hs H R : Hp} (how : oI a n cap (idv l) Hs) (h0 : 0 < n) (hp : H.Perm (Hs ++ R)) : ∃ g, a = some ⟨g, 0, none⟩ ∧ Lies H g 0 (idv l) := by
  have hl := how.len
  rcases how.inv with ⟨_, rfl, _⟩ | ⟨g, ys, rfl, rfl, _, _, _, _⟩
  · omega
  · refine ⟨g, rfl, fun w hw j u hj => ?_⟩
    have hm : (g, Blk.cells (idv l ++ ys) 3) ∈ H := hp.mem_iff.2 (by simp)
    rw [addr_add, cells_rd hw hm (0 + j), Nat.zero_add, List.getElem?_append_left (List.getElem?_eq_some_iff.1 hj).1]
    exact hj
theorem rown_spec (v : Value) (s : Sg) (Hs : Hp) (h : oS v s Hs) (hn : s.l.length ≤ 1000) (hl : s.l ≠ []) : Spec Try.prog 36 [v] Hs fun u H' => ∃ Hs2, oS u s Hs2 ∧ H' = Hs2 ++ Hs := by
  obtain ⟨a, cap, rfl, how, h0⟩ := h
  have hp : 0 < s.l.length := List.length_pos_iff.2 hl
  refine Spec_body Try.func36 rfl Try.ntmps36 rfl (fun w0 => ?_)
  repeat (first | refine stepA ?_ | intro _)
  rename_i b1 b2
  obtain ⟨g, rfl, hlies⟩ := Own.lies how hp (H := (b2, .cells (segC none 0 0 0 false) 29) :: (b1, .cells (segC a s.l.length cap s.c s.g) 29) :: Hs) tailA
  apply L_append
  · exact rfl
  · exact evA
  · exact evA
  · exact (Own.nil : Own 3 1 none 0 0 [] [])
  · exact Cut.perm cutA
  · exact hlies
  · rw [idv_len]; omega
  · exact idv_one s.l
  · exact hp
  · simp only [maxLen]; omega
  · omega
  · rfl
  rintro g2 cap2 ys2 h1 h2 h3
  rw [List.nil_append] at h1 ⊢
  rw [Nat.zero_add] at h2 ⊢
  repeat (first | refine stepA ?_ | intro _)
  (first | refine retA ?_ | refine retB ?_)
  exact ⟨_, ⟨[(g2, .cells (idv s.l ++ ys2) 3)], ⟨some ⟨g2, 0, none⟩, cap2, rfl, .blk (by rw [idv_len]; omega) h1 h2 h3, fun q => absurd q hl⟩, rfl⟩, subT⟩
section
variable (r : RefP) {M : List Frm}
theorem ruse_bad (v : Value) (s : Sg) (Hs : Hp) (h : oS v s Hs) (hu : useS s = none) : Spec Try.prog 20 [v] [] fun u H' => u = .tuple #[seg0, .int .i64 160] ∧ H' = [] := by
  have hb : s.l.length = 0 ∨ s.c ≥ 1000 := by
    unfold useS at hu
    split at hu
    · rename_i q; exact q.imp (fun q => by rw [q]; rfl) id
    · cases hu
  obtain ⟨a, cap, rfl, how⟩ := h
  refine Spec_body Try.func20 rfl Try.ntmps20 rfl (fun w0 => ?_)
  by_cases hl : s.l.length = 0
  · repeat (first | refine stepA ?_ | intro _)
    (first | refine retA ?_ | refine retB ?_); exact ⟨_, ⟨rfl, rfl⟩, subA⟩
  · have hc := hb.resolve_left hl
    repeat (first | refine stepA ?_ | intro _)
    (first | refine retA ?_ | refine retB ?_); exact ⟨_, ⟨rfl, rfl⟩, subA⟩
theorem ruse_ok (v : Value) (s t : Sg) (Hs : Hp) (h : oS v s Hs) (hn : s.l.length ≤ 1000) (hc : -9223372036854775808 ≤ s.c) (hu : useS s = some t) : Spec Try.prog 20 [v] Hs fun u H' => ∃ v2 Hs2, u = .tuple #[v2, .int .i64 0] ∧ oS v2 t Hs2 ∧ H' = Hs2 ++ Hs := by
  have hb : s.l ≠ [] ∧ s.c < 1000 ∧ t = { s with c := s.c + 1 } := by
    unfold useS at hu
    split at hu
    · cases hu
    · rename_i q; exact ⟨fun e => q (.inl e), by omega, by cases hu; rfl⟩
  obtain ⟨hl, hc2, rfl⟩ := hb
  have hp : 0 < s.l.length := List.length_pos_iff.2 hl
  obtain ⟨a, cap, rfl, how⟩ := h
  refine Spec_body Try.func20 rfl Try.ntmps20 rfl (fun w0 => ?_)
  repeat (first | refine stepA ?_ | intro _)
  refine callT ?_; refine ⟨_, _, rown_spec _ s Hs ⟨a, cap, rfl, how⟩ hn hl, _, cutT, ?_⟩
  rintro u H' ⟨Hs2, ⟨a2, cap2, rfl, how2, h2⟩, rfl⟩
  simp only [List.cons_append, List.nil_append]
  repeat (first | refine stepA ?_ | intro _)
  (first | refine retA ?_ | refine retB ?_)
  exact ⟨_, ⟨_, Hs2, rfl, ⟨a2, cap2, rfl, how2, h2⟩, rfl⟩, subT⟩
theorem rsettled_spec (hM : WfM M) (v : Value) (s : Sg) (Hs : Hp) (h : oS v s Hs) (hn : s.l.length ≤ 1000) (hl : s.l ≠ []) :
    Spec Try.prog 37 [r.ptr, v] (refH r M ++ Hs) fun u H' => ∃ v2 Hs2, u = .tuple #[v2, .bool (settleS M s).2.1] ∧ oS v2 (settleS M s).1 Hs2 ∧ H' = refH r (settleS M s).2.2 ++ Hs2 := by
  obtain ⟨a, cap, rfl, how, h0⟩ := h
  obtain ⟨l, c, g⟩ := s
  simp only at how hn hl h0 ⊢
  have hp : 0 < l.length := List.length_pos_iff.2 hl
  rcases how.inv with ⟨_, hz, _⟩ | ⟨gb, ys, rfl, rfl, _, _, _, _⟩
  · omega
  refine Spec_body Try.func37 rfl Try.ntmps37 rfl (fun w0 => ?_)
  simp only [List.cons_append, List.nil_append]
  cases g with
  | false =>
    have e : settleS M ⟨l, c, false⟩ = (⟨l, c, false⟩, false, M) := by rw [settleS, if_pos (.inl rfl)]
    rw [e]
    repeat (first | refine stepA ?_ | intro _)
    (first | refine retA ?_ | refine retB ?_)
    exact ⟨_, ⟨_, [(gb, .cells (idv l ++ ys) 3)], rfl, ⟨_, cap, rfl, how, h0⟩, rfl⟩, subA⟩
  | true =>
    by_cases hc : 0 < c
    · have e : settleS M ⟨l, c, true⟩ = (⟨l, c, true⟩, false, M) := by rw [settleS, if_pos (.inr hc)]
      rw [e]
      repeat (first | refine stepA ?_ | intro _)
      (first | refine retA ?_ | refine retB ?_)
      exact ⟨_, ⟨_, [(gb, .cells (idv l ++ ys) 3)], rfl, ⟨_, cap, rfl, how, h0⟩, rfl⟩, subA⟩
    · have e : settleS M ⟨l, c, true⟩ = (⟨[], c, true⟩, true, freeL M l) := by rw [settleS, if_neg (by simp; omega)]
      rw [e]
      repeat (first | refine stepA ?_ | intro _)
      rename_i b3 b4
      refine W_loop (fun k : Nat => [(0, r.ptr), (3, .pointer (some ⟨b3, 0, none⟩)), (4, .pointer (some ⟨b4, 0, none⟩)), (6, .int .i64 (k : Int))])
        (fun k => (b4, .cells (segC none 0 0 0 false) 29) :: (b3, .cells (segC (some ⟨gb, 0, none⟩) l.length cap c true) 29) :: (gb, .cells (idv l ++ ys) 3) :: refH r (freeL M (l.take k))) (fun k => k ≤ l.length) (fun k => l.length - k) 0 (by omega) sublA subA ?_
      intro k hk
      by_cases hlt : k < l.length
      · obtain ⟨i, hi⟩ : ∃ i, l[k]? = some i := ⟨l[k], by simp [hlt]⟩
        have hcell := idv_get (ys := ys) hi
        have hMk := freeL_wf hM (l.take k)
        have e5 : freeL M (l.take (k + 1)) = (freeM (freeL M (l.take k)) (i : Int)).2 := by rw [take_next hi, freeL_snoc]
        repeat (first | refine stepA ?_ | intro _)
        (first | (refine ldA ?_; refine ⟨_, hcell, ?_⟩) | (refine qldA ?_; refine ⟨_, hcell, ?_⟩) | skip)
        repeat (first | refine stepA ?_ | intro _)
        refine callA ?_; refine ⟨_, _, rfree r hMk (i : Int), _, cutA, ?_⟩
        rintro u H' ⟨rfl, rfl⟩
        simp only [List.cons_append, List.nil_append]
        repeat (first | refine stepA ?_ | intro _)
        exact ⟨rfl, k + 1, by omega, by omega, sublA, by rw [e5]; exact subA⟩
      · obtain rfl : k = l.length := by omega
        rw [List.take_of_length_le (Nat.le_refl _)]
        repeat (first | refine stepA ?_ | intro _)
        (first | refine retA ?_ | refine retB ?_)
        exact ⟨_, ⟨_, [], rfl, oS.nil c true, rfl⟩, subA⟩
end
end Go.Proofs.Yteahdmldipokeaa
