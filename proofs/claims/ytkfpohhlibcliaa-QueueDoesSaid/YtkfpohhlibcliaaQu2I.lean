/-
  Queues of int: going through one; the place of a thing.
-/
import Derived.Test.YtkfpohhlibcliaaQu1I
namespace Go.Proofs.Ytkfpohhlibcliaa
open Go.RowKit
attribute [local irreducible] W L QL PureOp thenQ blockQ retQ Spec IterOk YSpec roundQ scopeQ noGoQ
attribute [local irreducible] AS ASi
set_option maxHeartbeats 800000
theorem eachI (p first n : Nat) (hs : List AlI) :
    Spec Try.prog 28 [.pointer (some ⟨p, 0, none⟩)] (qHI p hs first n) fun v H' => ∃ bx, v = .func (.func 31) #[] #[.pointer (some ⟨bx, 0, none⟩)] ∧ H' = (bx, .cells [.pointer (some ⟨p, 0, none⟩)] 25) :: qHI p hs first n := by
  refine Spec_body Try.func28 rfl Try.ntmps28 rfl (fun w0 => ?_)
  repeat (first | refine stepA ?_ | intro _)
  rename_i bx
  (first | refine retA ?_ | refine retB ?_); exact ⟨_, ⟨bx, rfl, rfl⟩, subA⟩
abbrev bHI (bx p : Nat) (hs : List AlI) (first n : Nat) : Hp := (bx, .cells [.pointer (some ⟨p, 0, none⟩)] 25) :: qHI p hs first n
theorem iterI (bx p first : Nat) (hs xs : List AlI) (hq : QR hs first xs) : IterOk Try.prog 31 [.pointer (some ⟨bx, 0, none⟩)] (fun (_ : Nat) H => ∃ R, Cut (bHI bx p hs first xs.length) H R)
    (fun s => s < xs.length) (fun s => [.int .i64 (s : Int), elI (xs.getD s zeI)]) (fun s => s + 1) (fun s => s = xs.length) 0 := by
  unfold IterOk
  intro y I S hA hy H hI
  obtain ⟨R, hcut⟩ := hA _ _ hI
  have hn := hq.n
  have h64 := qcI_first (first := first) (n := xs.length) hq.len
  have h65 := qcI_n (first := first) (n := xs.length) hq.len
  refine Spec_body Try.func31 rfl Try.ntmps31 rfl (fun w0 => ?_)
  refine W_perm hcut.perm ?_
  simp only [List.cons_append, List.nil_append]
  repeat (first | refine stepA ?_ | intro _)
  refine W_loop (fun x : Nat × Hp => [(0, .func (.yield y) #[] #[]), (1, .pointer (some ⟨bx, 0, none⟩)), (7, .int .i64 (xs.length : Int)), (8, .int .i64 (x.1 : Int))]) (fun x => x.2)
    (fun x => x.1 ≤ xs.length ∧ I x.1 x.2) (fun x => xs.length - x.1) (0, H) ⟨by omega, hI⟩ sublA (Sub.ofPerm hcut.perm) ?_
  rintro ⟨j, Hj⟩ ⟨hj, hIj⟩
  simp only at hj hIj ⊢
  obtain ⟨Rj, hcj⟩ := hA _ _ hIj
  refine W_perm hcj.perm ?_
  simp only [List.cons_append, List.nil_append]
  by_cases hlt : j < xs.length
  · obtain ⟨x, hx⟩ : ∃ x, xs[j]? = some x := ⟨xs[j], by simp [hlt]⟩
    have hgx := qcI_at (first := first) (n := xs.length) (hq.get j x hx)
    have hgd : xs.getD j zeI = x := by simp [List.getD, hx]
    have hyj := hy _ _ hIj hlt
    simp only [hgd] at hyj
    repeat (first | refine stepA ?_ | intro _)
    refine W_any (bHI bx p hs first xs.length) [10] rfl ?_
    repeat refine asA ?_
    refine oneA ?_
    refine callA ?_; refine ⟨_, _, atI p first xs.length j hs hq.len hq.f (by omega), _, cutA, ?_⟩
    rintro u H' ⟨rfl, rfl⟩
    refine L_nil ?_; refine ⟨rfl, (by first | exact KeepsH.brk (by decide +kernel) | exact KeepsH.sub subA), ?_⟩; repeat refine asA ?_
    refine oneA ?_
    refine L_yield rfl (ev_of rfl (by with_reducible rfl)) rfl hyj (R0 := []) ?_ ?_
    · refine List.Perm.trans (Cut.perm (Hf := bHI bx p hs first xs.length) (R := Rj) (by exact cutA)) ?_
      rw [List.append_nil]; exact hcj.perm.symm
    · rintro b H' hb
      rw [List.append_nil]
      rcases hb with ⟨rfl, hb⟩ | ⟨rfl, hb⟩
      · refine L_nil ?_; refine ⟨rfl, (by first | exact KeepsH.brk (by decide +kernel) | exact KeepsH.sub subA), ?_⟩; repeat refine asA ?_
        repeat (first | refine stepA ?_ | intro _)
        exact ⟨rfl, (j + 1, H'), ⟨by omega, hb⟩, by simp only; omega, sublA, Sub.ofPerm (List.Perm.refl _)⟩
      · refine L_nil ?_; refine ⟨rfl, (by first | exact KeepsH.brk (by decide +kernel) | exact KeepsH.sub subA), ?_⟩; repeat refine asA ?_
        repeat (first | refine stepA ?_ | intro _)
        (first | refine retA ?_ | refine retB ?_)
        exact ⟨_, .inr hb, Sub.ofPerm (List.Perm.refl _)⟩
  · obtain rfl : j = xs.length := by omega
    repeat (first | refine stepA ?_ | intro _)
    (first | refine retA ?_ | refine retB ?_)
    exact ⟨_, .inl ⟨_, rfl, hIj⟩, Sub.ofPerm hcj.perm⟩
end Go.Proofs.Ytkfpohhlibcliaa
