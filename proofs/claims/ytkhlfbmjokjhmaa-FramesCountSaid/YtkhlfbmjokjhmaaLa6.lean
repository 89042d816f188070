/-
  The law FramesCount: its walk.
-/
import Derived.Test.YtkhlfbmjokjhmaaLa3
namespace Go.Proofs.Ytkhlfbmjokjhmaa
open Go.RowKit
attribute [local irreducible] W L QL PureOp thenQ blockQ retQ Spec IterOk YSpec roundQ scopeQ noGoQ
set_option maxHeartbeats 6400000

def total (M : List Frm) : Nat := (M.map Frm.refs).sum
def nones (M : List Frm) : Nat := M.countP (fun f => f.refs == 0)
theorem total_append (A B : List Frm) : total (A ++ B) = total A + total B := by simp [total]
theorem total_one (f : Frm) (B : List Frm) : total (f :: B) = f.refs + total B := by simp [total]
theorem total_set {M : List Frm} {i : Nat} {f g : Frm} (hi : M[i]? = some f) : total (M.set i g) + f.refs = total M + g.refs := by
  obtain ⟨A, B, rfl, rfl⟩ := split_at hi
  rw [set_split, total_append, total_append, total_one, total_one]
  omega
theorem take_next {M : List Frm} {k : Nat} {f : Frm} (hk : M[k]? = some f) : M.take (k + 1) = M.take k ++ [f] := by
  obtain ⟨hl, rfl⟩ := List.getElem?_eq_some_iff.1 hk
  rw [List.take_succ_eq_append_getElem hl]
theorem total_le : ∀ {M : List Frm}, (∀ f ∈ M, f.refs ≤ 1000) → total M ≤ 1000 * M.length
  | [], _ => by simp [total]
  | f :: M, h => by
    have h1 := h f (by simp)
    have h2 := total_le (M := M) (fun g hg => h g (by simp [hg]))
    rw [total_one, List.length_cons]
    omega
theorem wf_le {M : List Frm} (h : WfM M) : ∀ f ∈ M, f.refs ≤ 1000 := fun f hf => (h.1 f hf).2
theorem share_cases (M : List Frm) (x : Int) : ((shareM M x).1 = 0 ∧ total (shareM M x).2 = total M + 1) ∨ ((shareM M x).1 ≠ 0 ∧ (shareM M x).2 = M) := by
  cases hg : getM M x with
  | none => right; simp [shareM, hg]
  | some f =>
    obtain ⟨i, rfl, hi, hr⟩ := getM_some hg
    by_cases h : f.refs = 1000
    · right; simp [shareM, hg, h]
    · left
      simp only [shareM, hg, h, if_false, Int.toNat_natCast, true_and]
      have := total_set (g := { f with refs := f.refs + 1 }) hi
      simp only at this
      omega
theorem free_cases (M : List Frm) (x : Int) : ((freeM M x).1 = 0 ∧ total (freeM M x).2 + 1 = total M) ∨ ((freeM M x).1 ≠ 0 ∧ (freeM M x).2 = M) := by
  cases hg : getM M x with
  | none => right; simp [freeM, hg]
  | some f =>
    obtain ⟨i, rfl, hi, hr⟩ := getM_some hg
    left
    simp only [freeM, hg, Int.toNat_natCast, true_and]
    have := total_set (g := { f with refs := f.refs - 1 }) hi
    simp only at this
    omega
theorem free_at {M : List Frm} {k : Nat} (h : firstFree M = some k) : ∃ f, M[k]? = some f ∧ f.refs = 0 := by
  unfold firstFree at h
  rw [List.findIdx?_eq_some_iff_getElem] at h
  obtain ⟨hl, h0, _⟩ := h
  exact ⟨M[k], by simp, by simpa using h0⟩
theorem total_new (n : Nat) : total (newM n) = 0 := by simp [total, newM]

theorem count_nil (p : Option Addr) (cap : Nat) : Spec Try.prog 7 [.slice p 0 cap] [] fun v H' => v = .bool true ∧ H' = [] := by
  refine Spec_body Try.func7 rfl Try.ntmps7 rfl (fun w0 => ?_)
  repeat (first | refine stepA ?_ | intro _)
  refine callA ?_; refine ⟨_, _, shown_spec, _, cutA, ?_⟩
  rintro v H' ⟨rfl, rfl⟩
  repeat (first | refine stepA ?_ | intro _)
  refine callA ?_; refine ⟨_, _, new_spec 12 (by omega), _, cutA, ?_⟩
  rintro v H' ⟨m, rfl, rfl⟩
  repeat (first | refine stepA ?_ | intro _)
  refine W_loop (fun i : Nat => [(0, .slice p 0 cap), (3, .bool true), (4, m.ptr), (5, .int .i64 0), (6, .int .i64 0), (7, .int .i64 0)]) (fun i => memH m (newM 12)) (fun _ => True) (fun _ => 0) 0 trivial sublA subA ?_
  intro i _
  repeat (first | refine stepA ?_ | intro _)
  (first | refine retA ?_ | refine retB ?_); exact ⟨_, ⟨rfl, rfl⟩, subA⟩
theorem count_spec (g o len cap : Nat) (C : Array Value) (E : TypeId) (fr : Nat × Nat) (xs : List ActV) (hl : xs.length = len) (hx : ActsAt C o xs) (hlen : len ≤ 9223372036854775807) :
    Spec Try.prog 7 [.slice (some ⟨g, o, none⟩) len cap] [(g, .oth (.cells C E fr))] fun v H' => v = .bool true ∧ H' = [(g, .oth (.cells C E fr))] := by
  refine Spec_body Try.func7 rfl Try.ntmps7 rfl (fun w0 => ?_)
  repeat (first | refine stepA ?_ | intro _)
  refine callA ?_; refine ⟨_, _, shown_spec, _, cutA, ?_⟩
  rintro v H' ⟨rfl, rfl⟩
  repeat (first | refine stepA ?_ | intro _)
  refine callA ?_; refine ⟨_, _, new_spec 12 (by omega), _, cutA, ?_⟩
  rintro v H' ⟨m, rfl, rfl⟩
  repeat (first | refine stepA ?_ | intro _)
  refine W_loop (fun x : Nat × List Frm => [(0, .slice (some ⟨g, o, none⟩) len cap), (3, .bool true), (4, m.ptr), (5, .int .i64 0), (6, .int .i64 (total x.2 : Int)), (7, .int .i64 (x.1 : Int))]) (fun x => (g, .oth (.cells C E fr)) :: memH m x.2)
    (fun x => x.1 ≤ 100 ∧ WfM x.2 ∧ x.2.length = 12) (fun x => 100 - x.1) (0, newM 12) ⟨by omega, newM_wf (by omega), rfl⟩ (by rw [total_new]; exact sublA) subA ?_
  rintro ⟨i, M⟩ ⟨hi, hM, hL⟩
  simp only at hi hM hL ⊢
  have hT := total_le (wf_le hM)
  by_cases h1 : i < len
  · by_cases h2 : i < 100
    · obtain ⟨x, hxi⟩ : ∃ x, xs[i]? = some x := ⟨xs[i]'(by omega), by simp [hl, h1]⟩
      have g0 := acts_get hx hxi 0 (by omega)
      have g1 := acts_get hx hxi 1 (by omega)
      have hu := u64_nonneg x.do_
      repeat (first | refine stepA ?_ | intro _)
      (first | refine ldoA ?_ | refine qldoA ?_); refine ⟨_, g0, ?_⟩
      -- the act: each way leads to a memory M' and a number that agrees
      have hc : IntKind.u64.wrap x.do_ % 6 = 0 ∨ IntKind.u64.wrap x.do_ % 6 = 1 ∨ IntKind.u64.wrap x.do_ % 6 = 2 ∨ IntKind.u64.wrap x.do_ % 6 = 3 ∨ 4 ≤ IntKind.u64.wrap x.do_ % 6 := by omega
      rcases hc with hc | hc | hc | hc | hc
      rotate_left 2
      · repeat (first | refine stepA ?_ | intro _)
        (first | refine ldoA ?_ | refine qldoA ?_); refine ⟨_, g1, ?_⟩
        repeat (first | refine stepA ?_ | intro _)
        refine callA ?_; refine ⟨_, _, share_spec m hM x.frame, _, cutA, ?_⟩
        rintro v H' ⟨rfl, rfl⟩
        have hM' := shareM_wf (at_ := x.frame) hM
        have hL' : (shareM M x.frame).2.length = 12 := by rw [shareM_len]; exact hL
        rcases share_cases M x.frame with ⟨hq, ht⟩ | ⟨hq, ht⟩
        · obtain ⟨M', hMe⟩ : ∃ M', M' = (shareM M x.frame).2 := ⟨_, rfl⟩
          rw [← hMe] at ht hM' hL' ⊢
          have e : (total M : Int) + 1 = (total M' : Int) := by omega
          repeat (first | refine stepA ?_ | intro _)
          rw [e]
          have hT' := total_le (wf_le hM')
          refine W_loop (fun k : Nat => [(0, .slice (some ⟨g, o, none⟩) len cap), (3, .bool true), (4, m.ptr), (5, .int .i64 0), (6, .int .i64 (total M' : Int)), (7, .int .i64 (i : Int)), (10, .int .i64 (total (M'.take k) : Int)), (11, .int .i64 (nones (M'.take k) : Int)), (12, .int .i64 (k : Int))]) (fun _ => (g, .oth (.cells C E fr)) :: memH m M')
            (fun k => k ≤ 12) (fun k => 12 - k) 0 (by omega) sublA subA ?_
          intro k hk
          by_cases hk2 : k < 12
          · obtain ⟨f, hf⟩ : ∃ f, M'[k]? = some f := ⟨M'[k]'(by omega), by simp [hL', hk2]⟩
            have hfr := (hM'.get hf).2
            have ht1 := total_le (M := M'.take k) (fun f hf => wf_le hM' f (List.mem_of_mem_take hf))
            have hn1 : nones (M'.take k) ≤ (M'.take k).length := List.countP_le_length
            have hlt : (M'.take k).length ≤ 12 := by rw [List.length_take]; omega
            have e1 : total (M'.take (k + 1)) = total (M'.take k) + f.refs := by rw [take_next hf, total_append]; simp [total]
            by_cases hz : f.refs = 0
            · have e2 : nones (M'.take (k + 1)) = nones (M'.take k) + 1 := by rw [take_next hf]; simp [nones, hz]
              repeat (first | refine stepA ?_ | intro _)
              refine callA ?_; refine ⟨_, _, refs_at m hM' hf, _, cutA, ?_⟩
              rintro v H' ⟨rfl, rfl⟩
              repeat (first | refine stepA ?_ | intro _)
              refine callA ?_; refine ⟨_, _, refs_at m hM' hf, _, cutA, ?_⟩
              rintro v H' ⟨rfl, rfl⟩
              repeat (first | refine stepA ?_ | intro _)
              exact ⟨rfl, k + 1, by omega, by omega, by rw [e1, e2]; exact sublA, subA⟩
            · have e2 : nones (M'.take (k + 1)) = nones (M'.take k) := by rw [take_next hf]; simp [nones, hz]
              repeat (first | refine stepA ?_ | intro _)
              refine callA ?_; refine ⟨_, _, refs_at m hM' hf, _, cutA, ?_⟩
              rintro v H' ⟨rfl, rfl⟩
              repeat (first | refine stepA ?_ | intro _)
              refine callA ?_; refine ⟨_, _, refs_at m hM' hf, _, cutA, ?_⟩
              rintro v H' ⟨rfl, rfl⟩
              repeat (first | refine stepA ?_ | intro _)
              exact ⟨rfl, k + 1, by omega, by omega, by rw [e1, e2]; exact sublA, subA⟩
          · obtain rfl : k = 12 := by omega
            have e3 : M'.take 12 = M' := List.take_of_length_le (by omega)
            rw [e3]
            repeat (first | refine stepA ?_ | intro _)
            refine callA ?_; refine ⟨_, _, left_spec m hM', _, cutA, ?_⟩
            rintro v H' ⟨rfl, rfl⟩
            rw [show (leftM M' : Int) = (nones M' : Int) from rfl]
            repeat (first | refine stepA ?_ | intro _)
            exact ⟨rfl, (i + 1, M'), ⟨by omega, hM', hL'⟩, by simp only; omega, sublA, subA⟩
        · rw [ht]
          clear hM' hL' ht
          obtain ⟨M', hMe⟩ : ∃ M', M' = M := ⟨_, rfl⟩
          rw [← hMe] at hM hL hT hq ⊢
          have hM' := hM
          have hL' := hL
          repeat (first | refine stepA ?_ | intro _)
          have hT' := total_le (wf_le hM')
          refine W_loop (fun k : Nat => [(0, .slice (some ⟨g, o, none⟩) len cap), (3, .bool true), (4, m.ptr), (5, .int .i64 0), (6, .int .i64 (total M' : Int)), (7, .int .i64 (i : Int)), (10, .int .i64 (total (M'.take k) : Int)), (11, .int .i64 (nones (M'.take k) : Int)), (12, .int .i64 (k : Int))]) (fun _ => (g, .oth (.cells C E fr)) :: memH m M')
            (fun k => k ≤ 12) (fun k => 12 - k) 0 (by omega) sublA subA ?_
          intro k hk
          by_cases hk2 : k < 12
          · obtain ⟨f, hf⟩ : ∃ f, M'[k]? = some f := ⟨M'[k]'(by omega), by simp [hL', hk2]⟩
            have hfr := (hM'.get hf).2
            have ht1 := total_le (M := M'.take k) (fun f hf => wf_le hM' f (List.mem_of_mem_take hf))
            have hn1 : nones (M'.take k) ≤ (M'.take k).length := List.countP_le_length
            have hlt : (M'.take k).length ≤ 12 := by rw [List.length_take]; omega
            have e1 : total (M'.take (k + 1)) = total (M'.take k) + f.refs := by rw [take_next hf, total_append]; simp [total]
            by_cases hz : f.refs = 0
            · have e2 : nones (M'.take (k + 1)) = nones (M'.take k) + 1 := by rw [take_next hf]; simp [nones, hz]
              repeat (first | refine stepA ?_ | intro _)
              refine callA ?_; refine ⟨_, _, refs_at m hM' hf, _, cutA, ?_⟩
              rintro v H' ⟨rfl, rfl⟩
              repeat (first | refine stepA ?_ | intro _)
              refine callA ?_; refine ⟨_, _, refs_at m hM' hf, _, cutA, ?_⟩
              rintro v H' ⟨rfl, rfl⟩
              repeat (first | refine stepA ?_ | intro _)
              exact ⟨rfl, k + 1, by omega, by omega, by rw [e1, e2]; exact sublA, subA⟩
            · have e2 : nones (M'.take (k + 1)) = nones (M'.take k) := by rw [take_next hf]; simp [nones, hz]
              repeat (first | refine stepA ?_ | intro _)
              refine callA ?_; refine ⟨_, _, refs_at m hM' hf, _, cutA, ?_⟩
              rintro v H' ⟨rfl, rfl⟩
              repeat (first | refine stepA ?_ | intro _)
              refine callA ?_; refine ⟨_, _, refs_at m hM' hf, _, cutA, ?_⟩
              rintro v H' ⟨rfl, rfl⟩
              repeat (first | refine stepA ?_ | intro _)
              exact ⟨rfl, k + 1, by omega, by omega, by rw [e1, e2]; exact sublA, subA⟩
          · obtain rfl : k = 12 := by omega
            have e3 : M'.take 12 = M' := List.take_of_length_le (by omega)
            rw [e3]
            repeat (first | refine stepA ?_ | intro _)
            refine callA ?_; refine ⟨_, _, left_spec m hM', _, cutA, ?_⟩
            rintro v H' ⟨rfl, rfl⟩
            rw [show (leftM M' : Int) = (nones M' : Int) from rfl]
            repeat (first | refine stepA ?_ | intro _)
            exact ⟨rfl, (i + 1, M'), ⟨by omega, hM', hL'⟩, by simp only; omega, sublA, subA⟩
      · repeat (first | refine stepA ?_ | intro _)
        (first | refine ldoA ?_ | refine qldoA ?_); refine ⟨_, g1, ?_⟩
        repeat (first | refine stepA ?_ | intro _)
        refine callA ?_; refine ⟨_, _, free_spec m hM x.frame, _, cutA, ?_⟩
        rintro v H' ⟨rfl, rfl⟩
        have hM' := freeM_wf (at_ := x.frame) hM
        have hL' : (freeM M x.frame).2.length = 12 := by rw [freeM_len]; exact hL
        rcases free_cases M x.frame with ⟨hq, ht⟩ | ⟨hq, ht⟩
        · obtain ⟨M', hMe⟩ : ∃ M', M' = (freeM M x.frame).2 := ⟨_, rfl⟩
          rw [← hMe] at ht hM' hL' ⊢
          have e : (total M : Int) - 1 = (total M' : Int) := by omega
          repeat (first | refine stepA ?_ | intro _)
          rw [e]
          have hT' := total_le (wf_le hM')
          refine W_loop (fun k : Nat => [(0, .slice (some ⟨g, o, none⟩) len cap), (3, .bool true), (4, m.ptr), (5, .int .i64 0), (6, .int .i64 (total M' : Int)), (7, .int .i64 (i : Int)), (10, .int .i64 (total (M'.take k) : Int)), (11, .int .i64 (nones (M'.take k) : Int)), (12, .int .i64 (k : Int))]) (fun _ => (g, .oth (.cells C E fr)) :: memH m M')
            (fun k => k ≤ 12) (fun k => 12 - k) 0 (by omega) sublA subA ?_
          intro k hk
          by_cases hk2 : k < 12
          · obtain ⟨f, hf⟩ : ∃ f, M'[k]? = some f := ⟨M'[k]'(by omega), by simp [hL', hk2]⟩
            have hfr := (hM'.get hf).2
            have ht1 := total_le (M := M'.take k) (fun f hf => wf_le hM' f (List.mem_of_mem_take hf))
            have hn1 : nones (M'.take k) ≤ (M'.take k).length := List.countP_le_length
            have hlt : (M'.take k).length ≤ 12 := by rw [List.length_take]; omega
            have e1 : total (M'.take (k + 1)) = total (M'.take k) + f.refs := by rw [take_next hf, total_append]; simp [total]
            by_cases hz : f.refs = 0
            · have e2 : nones (M'.take (k + 1)) = nones (M'.take k) + 1 := by rw [take_next hf]; simp [nones, hz]
              repeat (first | refine stepA ?_ | intro _)
              refine callA ?_; refine ⟨_, _, refs_at m hM' hf, _, cutA, ?_⟩
              rintro v H' ⟨rfl, rfl⟩
              repeat (first | refine stepA ?_ | intro _)
              refine callA ?_; refine ⟨_, _, refs_at m hM' hf, _, cutA, ?_⟩
              rintro v H' ⟨rfl, rfl⟩
              repeat (first | refine stepA ?_ | intro _)
              exact ⟨rfl, k + 1, by omega, by omega, by rw [e1, e2]; exact sublA, subA⟩
            · have e2 : nones (M'.take (k + 1)) = nones (M'.take k) := by rw [take_next hf]; simp [nones, hz]
              repeat (first | refine stepA ?_ | intro _)
              refine callA ?_; refine ⟨_, _, refs_at m hM' hf, _, cutA, ?_⟩
              rintro v H' ⟨rfl, rfl⟩
              repeat (first | refine stepA ?_ | intro _)
              refine callA ?_; refine ⟨_, _, refs_at m hM' hf, _, cutA, ?_⟩
              rintro v H' ⟨rfl, rfl⟩
              repeat (first | refine stepA ?_ | intro _)
              exact ⟨rfl, k + 1, by omega, by omega, by rw [e1, e2]; exact sublA, subA⟩
          · obtain rfl : k = 12 := by omega
            have e3 : M'.take 12 = M' := List.take_of_length_le (by omega)
            rw [e3]
            repeat (first | refine stepA ?_ | intro _)
            refine callA ?_; refine ⟨_, _, left_spec m hM', _, cutA, ?_⟩
            rintro v H' ⟨rfl, rfl⟩
            rw [show (leftM M' : Int) = (nones M' : Int) from rfl]
            repeat (first | refine stepA ?_ | intro _)
            exact ⟨rfl, (i + 1, M'), ⟨by omega, hM', hL'⟩, by simp only; omega, sublA, subA⟩
        · rw [ht]
          clear hM' hL' ht
          obtain ⟨M', hMe⟩ : ∃ M', M' = M := ⟨_, rfl⟩
          rw [← hMe] at hM hL hT hq ⊢
          have hM' := hM
          have hL' := hL
          repeat (first | refine stepA ?_ | intro _)
          have hT' := total_le (wf_le hM')
          refine W_loop (fun k : Nat => [(0, .slice (some ⟨g, o, none⟩) len cap), (3, .bool true), (4, m.ptr), (5, .int .i64 0), (6, .int .i64 (total M' : Int)), (7, .int .i64 (i : Int)), (10, .int .i64 (total (M'.take k) : Int)), (11, .int .i64 (nones (M'.take k) : Int)), (12, .int .i64 (k : Int))]) (fun _ => (g, .oth (.cells C E fr)) :: memH m M')
            (fun k => k ≤ 12) (fun k => 12 - k) 0 (by omega) sublA subA ?_
          intro k hk
          by_cases hk2 : k < 12
          · obtain ⟨f, hf⟩ : ∃ f, M'[k]? = some f := ⟨M'[k]'(by omega), by simp [hL', hk2]⟩
            have hfr := (hM'.get hf).2
            have ht1 := total_le (M := M'.take k) (fun f hf => wf_le hM' f (List.mem_of_mem_take hf))
            have hn1 : nones (M'.take k) ≤ (M'.take k).length := List.countP_le_length
            have hlt : (M'.take k).length ≤ 12 := by rw [List.length_take]; omega
            have e1 : total (M'.take (k + 1)) = total (M'.take k) + f.refs := by rw [take_next hf, total_append]; simp [total]
            by_cases hz : f.refs = 0
            · have e2 : nones (M'.take (k + 1)) = nones (M'.take k) + 1 := by rw [take_next hf]; simp [nones, hz]
              repeat (first | refine stepA ?_ | intro _)
              refine callA ?_; refine ⟨_, _, refs_at m hM' hf, _, cutA, ?_⟩
              rintro v H' ⟨rfl, rfl⟩
              repeat (first | refine stepA ?_ | intro _)
              refine callA ?_; refine ⟨_, _, refs_at m hM' hf, _, cutA, ?_⟩
              rintro v H' ⟨rfl, rfl⟩
              repeat (first | refine stepA ?_ | intro _)
              exact ⟨rfl, k + 1, by omega, by omega, by rw [e1, e2]; exact sublA, subA⟩
            · have e2 : nones (M'.take (k + 1)) = nones (M'.take k) := by rw [take_next hf]; simp [nones, hz]
              repeat (first | refine stepA ?_ | intro _)
              refine callA ?_; refine ⟨_, _, refs_at m hM' hf, _, cutA, ?_⟩
              rintro v H' ⟨rfl, rfl⟩
              repeat (first | refine stepA ?_ | intro _)
              refine callA ?_; refine ⟨_, _, refs_at m hM' hf, _, cutA, ?_⟩
              rintro v H' ⟨rfl, rfl⟩
              repeat (first | refine stepA ?_ | intro _)
              exact ⟨rfl, k + 1, by omega, by omega, by rw [e1, e2]; exact sublA, subA⟩
          · obtain rfl : k = 12 := by omega
            have e3 : M'.take 12 = M' := List.take_of_length_le (by omega)
            rw [e3]
            repeat (first | refine stepA ?_ | intro _)
            refine callA ?_; refine ⟨_, _, left_spec m hM', _, cutA, ?_⟩
            rintro v H' ⟨rfl, rfl⟩
            rw [show (leftM M' : Int) = (nones M' : Int) from rfl]
            repeat (first | refine stepA ?_ | intro _)
            exact ⟨rfl, (i + 1, M'), ⟨by omega, hM', hL'⟩, by simp only; omega, sublA, subA⟩
      · obtain ⟨M', hMe⟩ : ∃ M', M' = M := ⟨_, rfl⟩
        rw [← hMe] at hM hL hT ⊢
        have hM' := hM
        have hL' := hL
        repeat (first | refine stepA ?_ | intro _)
        have hT' := total_le (wf_le hM')
        refine W_loop (fun k : Nat => [(0, .slice (some ⟨g, o, none⟩) len cap), (3, .bool true), (4, m.ptr), (5, .int .i64 0), (6, .int .i64 (total M' : Int)), (7, .int .i64 (i : Int)), (10, .int .i64 (total (M'.take k) : Int)), (11, .int .i64 (nones (M'.take k) : Int)), (12, .int .i64 (k : Int))]) (fun _ => (g, .oth (.cells C E fr)) :: memH m M')
          (fun k => k ≤ 12) (fun k => 12 - k) 0 (by omega) sublA subA ?_
        intro k hk
        by_cases hk2 : k < 12
        · obtain ⟨f, hf⟩ : ∃ f, M'[k]? = some f := ⟨M'[k]'(by omega), by simp [hL', hk2]⟩
          have hfr := (hM'.get hf).2
          have ht1 := total_le (M := M'.take k) (fun f hf => wf_le hM' f (List.mem_of_mem_take hf))
          have hn1 : nones (M'.take k) ≤ (M'.take k).length := List.countP_le_length
          have hlt : (M'.take k).length ≤ 12 := by rw [List.length_take]; omega
          have e1 : total (M'.take (k + 1)) = total (M'.take k) + f.refs := by rw [take_next hf, total_append]; simp [total]
          by_cases hz : f.refs = 0
          · have e2 : nones (M'.take (k + 1)) = nones (M'.take k) + 1 := by rw [take_next hf]; simp [nones, hz]
            repeat (first | refine stepA ?_ | intro _)
            refine callA ?_; refine ⟨_, _, refs_at m hM' hf, _, cutA, ?_⟩
            rintro v H' ⟨rfl, rfl⟩
            repeat (first | refine stepA ?_ | intro _)
            refine callA ?_; refine ⟨_, _, refs_at m hM' hf, _, cutA, ?_⟩
            rintro v H' ⟨rfl, rfl⟩
            repeat (first | refine stepA ?_ | intro _)
            exact ⟨rfl, k + 1, by omega, by omega, by rw [e1, e2]; exact sublA, subA⟩
          · have e2 : nones (M'.take (k + 1)) = nones (M'.take k) := by rw [take_next hf]; simp [nones, hz]
            repeat (first | refine stepA ?_ | intro _)
            refine callA ?_; refine ⟨_, _, refs_at m hM' hf, _, cutA, ?_⟩
            rintro v H' ⟨rfl, rfl⟩
            repeat (first | refine stepA ?_ | intro _)
            refine callA ?_; refine ⟨_, _, refs_at m hM' hf, _, cutA, ?_⟩
            rintro v H' ⟨rfl, rfl⟩
            repeat (first | refine stepA ?_ | intro _)
            exact ⟨rfl, k + 1, by omega, by omega, by rw [e1, e2]; exact sublA, subA⟩
        · obtain rfl : k = 12 := by omega
          have e3 : M'.take 12 = M' := List.take_of_length_le (by omega)
          rw [e3]
          repeat (first | refine stepA ?_ | intro _)
          refine callA ?_; refine ⟨_, _, left_spec m hM', _, cutA, ?_⟩
          rintro v H' ⟨rfl, rfl⟩
          rw [show (leftM M' : Int) = (nones M' : Int) from rfl]
          repeat (first | refine stepA ?_ | intro _)
          exact ⟨rfl, (i + 1, M'), ⟨by omega, hM', hL'⟩, by simp only; omega, sublA, subA⟩
      all_goals
        repeat (first | refine stepA ?_ | intro _)
        cases hff : firstFree M with
        | none =>
          obtain ⟨M', hMe⟩ : ∃ M', M' = M := ⟨_, rfl⟩
          rw [← hMe] at hM hL hT hff ⊢
          have hM' := hM
          have hL' := hL
          refine callA ?_; refine ⟨_, _, alloc_no m hM hff, _, cutA, ?_⟩
          rintro v H' ⟨rfl, rfl⟩
          repeat (first | refine stepA ?_ | intro _)
          have hT' := total_le (wf_le hM')
          refine W_loop (fun k : Nat => [(0, .slice (some ⟨g, o, none⟩) len cap), (3, .bool true), (4, m.ptr), (5, .int .i64 0), (6, .int .i64 (total M' : Int)), (7, .int .i64 (i : Int)), (10, .int .i64 (total (M'.take k) : Int)), (11, .int .i64 (nones (M'.take k) : Int)), (12, .int .i64 (k : Int))]) (fun _ => (g, .oth (.cells C E fr)) :: memH m M')
            (fun k => k ≤ 12) (fun k => 12 - k) 0 (by omega) sublA subA ?_
          intro k hk
          by_cases hk2 : k < 12
          · obtain ⟨f, hf⟩ : ∃ f, M'[k]? = some f := ⟨M'[k]'(by omega), by simp [hL', hk2]⟩
            have hfr := (hM'.get hf).2
            have ht1 := total_le (M := M'.take k) (fun f hf => wf_le hM' f (List.mem_of_mem_take hf))
            have hn1 : nones (M'.take k) ≤ (M'.take k).length := List.countP_le_length
            have hlt : (M'.take k).length ≤ 12 := by rw [List.length_take]; omega
            have e1 : total (M'.take (k + 1)) = total (M'.take k) + f.refs := by rw [take_next hf, total_append]; simp [total]
            by_cases hz : f.refs = 0
            · have e2 : nones (M'.take (k + 1)) = nones (M'.take k) + 1 := by rw [take_next hf]; simp [nones, hz]
              repeat (first | refine stepA ?_ | intro _)
              refine callA ?_; refine ⟨_, _, refs_at m hM' hf, _, cutA, ?_⟩
              rintro v H' ⟨rfl, rfl⟩
              repeat (first | refine stepA ?_ | intro _)
              refine callA ?_; refine ⟨_, _, refs_at m hM' hf, _, cutA, ?_⟩
              rintro v H' ⟨rfl, rfl⟩
              repeat (first | refine stepA ?_ | intro _)
              exact ⟨rfl, k + 1, by omega, by omega, by rw [e1, e2]; exact sublA, subA⟩
            · have e2 : nones (M'.take (k + 1)) = nones (M'.take k) := by rw [take_next hf]; simp [nones, hz]
              repeat (first | refine stepA ?_ | intro _)
              refine callA ?_; refine ⟨_, _, refs_at m hM' hf, _, cutA, ?_⟩
              rintro v H' ⟨rfl, rfl⟩
              repeat (first | refine stepA ?_ | intro _)
              refine callA ?_; refine ⟨_, _, refs_at m hM' hf, _, cutA, ?_⟩
              rintro v H' ⟨rfl, rfl⟩
              repeat (first | refine stepA ?_ | intro _)
              exact ⟨rfl, k + 1, by omega, by omega, by rw [e1, e2]; exact sublA, subA⟩
          · obtain rfl : k = 12 := by omega
            have e3 : M'.take 12 = M' := List.take_of_length_le (by omega)
            rw [e3]
            repeat (first | refine stepA ?_ | intro _)
            refine callA ?_; refine ⟨_, _, left_spec m hM', _, cutA, ?_⟩
            rintro v H' ⟨rfl, rfl⟩
            rw [show (leftM M' : Int) = (nones M' : Int) from rfl]
            repeat (first | refine stepA ?_ | intro _)
            exact ⟨rfl, (i + 1, M'), ⟨by omega, hM', hL'⟩, by simp only; omega, sublA, subA⟩
        | some k0 =>
          obtain ⟨f0, hf0, hr0⟩ := free_at hff
          have ht := total_set (g := ⟨1, zero64⟩) hf0
          have hM' : WfM (M.set k0 ⟨1, zero64⟩) := hM.set ⟨rfl, by simp⟩
          have hL' : (M.set k0 ⟨1, zero64⟩).length = 12 := by rw [List.length_set]; exact hL
          refine callA ?_; refine ⟨_, _, alloc_ok m hM hff, _, cutA, ?_⟩
          rintro v H' ⟨rfl, rfl⟩
          obtain ⟨M', hMe⟩ : ∃ M', M' = M.set k0 ⟨1, zero64⟩ := ⟨_, rfl⟩
          rw [← hMe] at ht hM' hL' ⊢
          have e : (total M : Int) + 1 = (total M' : Int) := by simp only at ht; omega
          repeat (first | refine stepA ?_ | intro _)
          rw [e]
          have hT' := total_le (wf_le hM')
          refine W_loop (fun k : Nat => [(0, .slice (some ⟨g, o, none⟩) len cap), (3, .bool true), (4, m.ptr), (5, .int .i64 0), (6, .int .i64 (total M' : Int)), (7, .int .i64 (i : Int)), (10, .int .i64 (total (M'.take k) : Int)), (11, .int .i64 (nones (M'.take k) : Int)), (12, .int .i64 (k : Int))]) (fun _ => (g, .oth (.cells C E fr)) :: memH m M')
            (fun k => k ≤ 12) (fun k => 12 - k) 0 (by omega) sublA subA ?_
          intro k hk
          by_cases hk2 : k < 12
          · obtain ⟨f, hf⟩ : ∃ f, M'[k]? = some f := ⟨M'[k]'(by omega), by simp [hL', hk2]⟩
            have hfr := (hM'.get hf).2
            have ht1 := total_le (M := M'.take k) (fun f hf => wf_le hM' f (List.mem_of_mem_take hf))
            have hn1 : nones (M'.take k) ≤ (M'.take k).length := List.countP_le_length
            have hlt : (M'.take k).length ≤ 12 := by rw [List.length_take]; omega
            have e1 : total (M'.take (k + 1)) = total (M'.take k) + f.refs := by rw [take_next hf, total_append]; simp [total]
            by_cases hz : f.refs = 0
            · have e2 : nones (M'.take (k + 1)) = nones (M'.take k) + 1 := by rw [take_next hf]; simp [nones, hz]
              repeat (first | refine stepA ?_ | intro _)
              refine callA ?_; refine ⟨_, _, refs_at m hM' hf, _, cutA, ?_⟩
              rintro v H' ⟨rfl, rfl⟩
              repeat (first | refine stepA ?_ | intro _)
              refine callA ?_; refine ⟨_, _, refs_at m hM' hf, _, cutA, ?_⟩
              rintro v H' ⟨rfl, rfl⟩
              repeat (first | refine stepA ?_ | intro _)
              exact ⟨rfl, k + 1, by omega, by omega, by rw [e1, e2]; exact sublA, subA⟩
            · have e2 : nones (M'.take (k + 1)) = nones (M'.take k) := by rw [take_next hf]; simp [nones, hz]
              repeat (first | refine stepA ?_ | intro _)
              refine callA ?_; refine ⟨_, _, refs_at m hM' hf, _, cutA, ?_⟩
              rintro v H' ⟨rfl, rfl⟩
              repeat (first | refine stepA ?_ | intro _)
              refine callA ?_; refine ⟨_, _, refs_at m hM' hf, _, cutA, ?_⟩
              rintro v H' ⟨rfl, rfl⟩
              repeat (first | refine stepA ?_ | intro _)
              exact ⟨rfl, k + 1, by omega, by omega, by rw [e1, e2]; exact sublA, subA⟩
          · obtain rfl : k = 12 := by omega
            have e3 : M'.take 12 = M' := List.take_of_length_le (by omega)
            rw [e3]
            repeat (first | refine stepA ?_ | intro _)
            refine callA ?_; refine ⟨_, _, left_spec m hM', _, cutA, ?_⟩
            rintro v H' ⟨rfl, rfl⟩
            rw [show (leftM M' : Int) = (nones M' : Int) from rfl]
            repeat (first | refine stepA ?_ | intro _)
            exact ⟨rfl, (i + 1, M'), ⟨by omega, hM', hL'⟩, by simp only; omega, sublA, subA⟩
    · repeat (first | refine stepA ?_ | intro _)
      (first | refine retA ?_ | refine retB ?_); exact ⟨_, ⟨rfl, rfl⟩, subA⟩
  · repeat (first | refine stepA ?_ | intro _)
    (first | refine retA ?_ | refine retB ?_); exact ⟨_, ⟨rfl, rfl⟩, subA⟩
end Go.Proofs.Ytkhlfbmjokjhmaa
