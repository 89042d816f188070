/-
  The document's answer for layer 7: Push, Pop, Drop of a list.
-/
import Derived.Test.YtkfpohhlibcliaaQu6
namespace Go.Proofs.Ytkfpohhlibcliaa
open Go.RowKit
attribute [local irreducible] W L QL PureOp thenQ blockQ retQ Spec IterOk YSpec roundQ scopeQ noGoQ
attribute [local irreducible] AS ASi
set_option maxHeartbeats 1600000
theorem rpush_full (a : Option Addr) (n cap : Nat) (v : Int) (h : 64 ≤ n) (hn : n ≤ 9223372036854775807) : Spec Try.prog 22 [.slice a n cap, .int .i64 v] [] fun u H' => u = .tuple #[.slice a n cap, .int .i64 71] ∧ H' = [] := by
  refine Spec_body Try.func22 rfl Try.ntmps22 rfl (fun w0 => ?_)
  repeat (first | refine stepA ?_ | intro _)
  (first | refine retA ?_ | refine retB ?_); exact ⟨_, ⟨rfl, rfl⟩, subA⟩
theorem rpush_zero (a : Option Addr) (cap : Nat) (v : Int) : Spec Try.prog 22 [.slice a 0 cap, .int .i64 v] [] fun u H' => ∃ b c Hs, u = .tuple #[.slice b 1 c, .int .i64 0] ∧ oI b 1 c [v] Hs ∧ H' = Hs := by
  refine Spec_body Try.func22 rfl Try.ntmps22 rfl (fun w0 => ?_)
  repeat (first | refine stepA ?_ | intro _)
  apply L_appendNone
  · exact rfl
  · exact evA
  · exact evA
  · exact rfl
  · exact Nat.le_refl _
  repeat (first | refine stepA ?_ | intro _)
  rename_i gb
  apply L_append
  · exact rfl
  · exact evA
  · exact evA
  · exact (Own.nil : Own 3 1 none 0 0 [] [])
  · exact tailA
  · exact Lies.cells (k := 1) (news := [elI v]) pullA rfl
  · rfl
  · simp [Value.oneCell']
  · omega
  · simp only [maxLen]; omega
  · omega
  · rfl
  rintro g cap' ys h1 h2 h3
  repeat (first | refine stepA ?_ | intro _)
  (first | refine retA ?_ | refine retB ?_)
  exact ⟨_, ⟨_, _, _, rfl, Own.blk (xs := [elI v]) rfl h1 h2 h3, rfl⟩, subT⟩
theorem rpush_spec (g n cap : Nat) (xs : List Int) (ys : List Value) (v : Int) (hx : xs.length = n) (h0 : 0 < n) (h : n < 64) :
    Spec Try.prog 22 [.slice (some ⟨g, 0, none⟩) n cap, .int .i64 v] [(g, .cells (xs.map elI ++ ys) 3)] fun u H' => ∃ b c Hs, u = .tuple #[.slice b (n + 1) c, .int .i64 0] ∧ oI b (n + 1) c (xs ++ [v]) Hs ∧ H' = (g, .cells (xs.map elI ++ ys) 3) :: Hs := by
  refine Spec_body Try.func22 rfl Try.ntmps22 rfl (fun w0 => ?_)
  repeat (first | refine stepA ?_ | intro _)
  apply L_append
  · exact rfl
  · exact evA
  · exact evA
  · exact (Own.nil : Own 3 1 none 0 0 [] [])
  · exact tailA
  · exact Lies.cells (k := n) (news := xs.map elI) pullA (by rw [List.drop_zero, List.take_append_of_le_length (by simp [hx]), List.take_of_length_le (by simp [hx])])
  · simp [hx]
  · simp [Value.oneCell']
  · omega
  · simp only [maxLen]; omega
  · omega
  · rfl
  rintro g1 cap1 ys1 h1 h2 h3
  have hcat : ((xs ++ [v]).map elI : List Value) = xs.map elI ++ [elI v] := by simp
  repeat (first | refine stepA ?_ | intro _)
  rename_i gb
  apply L_append
  · exact rfl
  · exact evA
  · exact evA
  · exact (Own.blk (n := 0 + n) (xs := [] ++ xs.map elI) (by simp [hx]) h1 h2 h3 : Own 3 1 _ _ _ _ _)
  · exact Cut.perm cutA
  · exact Lies.cells (k := 1) (news := [elI v]) pullA rfl
  · rfl
  · simp [Value.oneCell']
  · omega
  · simp only [maxLen]; omega
  · omega
  · rfl
  rintro g2 cap2 ys2 k1 k2 k3
  repeat (first | refine stepA ?_ | intro _)
  (first | refine retA ?_ | refine retB ?_)
  rw [List.nil_append] at k1 ⊢
  rw [Nat.zero_add] at k2 ⊢
  rw [← hcat] at k1 ⊢
  exact ⟨_, ⟨_, _, _, rfl, Own.blk (by simp [hx]) k1 k2 k3, rfl⟩, subT⟩
theorem rpop_zero (a : Option Addr) (cap : Nat) : Spec Try.prog 23 [.slice a 0 cap] [] fun u H' => u = .tuple #[.slice a 0 cap, .int .i64 0, .int .i64 70] ∧ H' = [] := by
  refine Spec_body Try.func23 rfl Try.ntmps23 rfl (fun w0 => ?_)
  repeat (first | refine stepA ?_ | intro _)
  (first | refine retA ?_ | refine retB ?_); exact ⟨_, ⟨rfl, rfl⟩, subA⟩
theorem rpop_spec (g n cap : Nat) (x : Int) (xs : List Int) (ys : List Value) (hx : xs.length + 1 = n) (h : n ≤ 64) (hc : n ≤ cap) :
    Spec Try.prog 23 [.slice (some ⟨g, 0, none⟩) n cap] [(g, .cells ((x :: xs).map elI ++ ys) 3)] fun u H' => ∃ b c Hs, u = .tuple #[.slice b xs.length c, .int .i64 x, .int .i64 0] ∧ oI b xs.length c xs Hs ∧ H' = (g, .cells ((x :: xs).map elI ++ ys) 3) :: Hs := by
  refine Spec_body Try.func23 rfl Try.ntmps23 rfl (fun w0 => ?_)
  have e0 : ((x :: xs).map elI ++ ys)[0]? = some (.int .i64 x) := rfl
  by_cases h1 : xs.length = 0
  · obtain rfl : n = 1 := by omega
    obtain rfl : xs = [] := by simpa using h1
    repeat (first | refine stepA ?_ | intro _)
    refine W_anyH rfl ?_; repeat refine asA ?_
    trace_state
    refine oneA ?_
    apply L_appendNone
    · exact rfl
    · exact evA
    · exact evA
    · exact rfl
    · exact Nat.le_refl _
    refine L_nil ?_; refine ⟨rfl, (by first | exact KeepsH.brk (by decide +kernel) | exact KeepsH.sub subA), ?_⟩; repeat refine asA ?_
    repeat (first | refine stepA ?_ | intro _)
    (first | refine retA ?_ | refine retB ?_)
    exact ⟨_, ⟨_, _, _, rfl, Own.nil, rfl⟩, subT⟩
  · have hcn : ¬ cap = 1 := by omega
    repeat (first | refine stepA ?_ | intro _)
    refine W_anyH rfl ?_; repeat refine asA ?_
    refine oneA ?_
    apply L_append
    · exact rfl
    · exact evA
    · exact evA
    · exact (Own.nil : Own 3 1 none 0 0 [] [])
    · exact tailA
    · rw [if_neg hcn]
      exact Lies.cells (k := xs.length) (news := xs.map elI) pullA (by simp)
    · simp; omega
    · simp [Value.oneCell']
    · omega
    · simp only [maxLen]; omega
    · omega
    · rfl
    rintro g2 cap2 ys2 k1 k2 k3
    refine L_nil ?_; refine ⟨rfl, (by first | exact KeepsH.brk (by decide +kernel) | exact KeepsH.sub subA), ?_⟩; repeat refine asA ?_
    repeat (first | refine stepA ?_ | intro _)
    (first | refine retA ?_ | refine retB ?_)
    rw [List.nil_append] at k1 ⊢
    have e : 0 + (n - 1) = xs.length := by omega
    rw [e] at k2 ⊢
    exact ⟨_, ⟨_, _, _, rfl, Own.blk (by simp) k1 k2 k3, rfl⟩, subT⟩
end Go.Proofs.Ytkfpohhlibcliaa
