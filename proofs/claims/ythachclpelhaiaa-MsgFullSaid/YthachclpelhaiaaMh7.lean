/-
  Messages: how many there is room for: the law's walk.
-/
import Derived.Test.YthachclpelhaiaaMh1
namespace Go.Proofs.Ythachclpelhaiaa
open Go.RowKit
attribute [local irreducible] W L QL PureOp thenQ blockQ retQ Spec IterOk YSpec roundQ scopeQ noGoQ
attribute [local irreducible] AS ASi IterOkC
set_option maxHeartbeats 6400000
abbrev mAt (sz j : Nat) : MsgV := ⟨1 + (j : Int), List.replicate sz 0⟩
abbrev qL (sz c : Nat) : List MsgV := (List.range c).map (mAt sz)
theorem qL_succ (sz c : Nat) : qL sz c ++ [mAt sz c] = qL sz (c + 1) := by simp [qL, List.range_succ]
theorem qL_sum (sz : Nat) : ∀ c, sumD (ds_ (qL sz c)) = c * sz
  | 0 => by simp [qL, ds_, sumD]
  | c + 1 => by
    rw [← qL_succ, sum_snoc, qL_sum sz c, Nat.add_mul, Nat.one_mul]
    simp
def wantN (sz : Nat) : Nat := if 8 < sz then 128 / sz else 16
theorem want_le (sz : Nat) : wantN sz ≤ 16 := by
  unfold wantN
  split
  · rename_i h
    have : 128 / sz ≤ 128 / 8 := Nat.div_le_div_left (show 8 ≤ sz by omega) (by omega)
    omega
  · omega
theorem want_iff (sz c : Nat) : c < wantN sz ↔ c < 16 ∧ c * sz + sz ≤ 128 := by
  have e : c * sz + sz = (c + 1) * sz := by rw [Nat.add_mul, Nat.one_mul]
  rw [e]
  unfold wantN
  split
  · rename_i h
    have h1 : c + 1 ≤ 128 / sz ↔ (c + 1) * sz ≤ 128 := Nat.le_div_iff_mul_le (by omega)
    constructor
    · intro h2
      have h3 := h1.1 h2
      have h4 : (c + 1) * 9 ≤ (c + 1) * sz := Nat.mul_le_mul_left _ (by omega)
      exact ⟨by omega, h3⟩
    · intro h2
      have := h1.2 h2.2
      omega
  · rename_i h
    constructor
    · intro h2
      have h4 : (c + 1) * sz ≤ (c + 1) * 8 := Nat.mul_le_mul_left _ (by omega)
      exact ⟨h2, by omega⟩
    · exact fun h2 => h2.1
theorem mAt_ok (sz j : Nat) (h : sz ≤ 32) : MsgOk (mAt sz j) := ⟨by simp only [List.length_replicate]; exact h, by show (1 : Int) + (j : Int) > 0; omega⟩
theorem qL_right (sz : Nat) (h : sz ≤ 32) : ∀ c, c ≤ wantN sz → RightM (qL sz c)
  | 0, _ => rightM_nil
  | c + 1, hc => by
    rw [← qL_succ]
    have h1 := (want_iff sz c).1 (by omega)
    exact (right_snoc _ _).2 ⟨qL_right sz h c (by omega), mAt_ok sz c h, by simp; omega, by rw [qL_sum]; simp only [List.length_replicate]; exact h1.2⟩
theorem msgFull_spec (size : Int) :
    Spec Try.prog 7 [.int .i64 size] [] fun v H' => v = .bool true ∧ H' = [] := by
  refine Spec_body Try.func7 rfl Try.ntmps7 rfl (fun w0 => ?_)
  repeat (first | refine stepA ?_ | intro _)
  refine callA ?_; refine ⟨_, _, shown_spec, _, cutA, ?_⟩
  rintro v H' ⟨rfl, rfl⟩
  simp only [List.cons_append, List.nil_append]
  by_cases q1 : size < 0
  · repeat (first | refine stepA ?_ | intro _)
    (first | refine retA ?_ | refine retB ?_); exact ⟨_, ⟨rfl, rfl⟩, subA⟩
  by_cases q2 : size > 32
  · repeat (first | refine stepA ?_ | intro _)
    (first | refine retA ?_ | refine retB ?_); exact ⟨_, ⟨rfl, rfl⟩, subA⟩
  obtain ⟨sz, rfl⟩ : ∃ sz : Nat, size = (sz : Int) := ⟨size.toNat, by omega⟩
  have hsz : sz ≤ 32 := by omega
  have hwl := want_le sz
  repeat (first | refine stepA ?_ | intro _)
  refine W_loop (fun x : Nat × Option Addr × Nat × Hp => [(0, .int .i64 (sz : Int)), (3, .bool true), (4, .slice x.2.1 (min x.1 (wantN sz)) x.2.2.1), (5, .int .i64 ((min x.1 (wantN sz) : Nat) : Int)), (6, .int .i64 (x.1 : Int))]) (fun x => x.2.2.2)
    (fun x => x.1 ≤ 20 ∧ oM x.2.1 (min x.1 (wantN sz)) x.2.2.1 (qL sz (min x.1 (wantN sz))) x.2.2.2) (fun x => 20 - x.1) (0, none, 0, []) ⟨by simp only; omega, by rw [Nat.zero_min]; exact Own.nil⟩ (by rw [Nat.zero_min]; exact sublA) subA ?_
  rintro ⟨i, a, cap, Hs⟩ ⟨hi, how⟩
  simp only at hi how ⊢
  by_cases hlt : i < 20
  · repeat (first | refine stepA ?_ | intro _)
    apply L_makeSl
    · exact rfl
    · exact evA
    · exact evA
    · omega
    · exact rfl
    · decide
    intro b
    repeat (first | refine stepA ?_ | intro _)
    (first | (apply L_P; (· exact rfl); (· exact rfl)) | (apply QL_P; (· exact rfl))); (· (apply P_bytesStr; (· exact evA); (· exact pullA); (· exact zerosB sz); (· exact List.length_replicate)))
    repeat (first | refine stepA ?_ | intro _)
    have hsum : sumD (ds_ (qL sz (min i (wantN sz)))) = min i (wantN sz) * sz := qL_sum sz _
    have hr := qL_right sz hsz (min i (wantN sz)) (by omega)
    have hok := mAt_ok sz i hsz
    have hsb := hr.sum
    have hlen : (qL sz (min i (wantN sz))).length = min i (wantN sz) := by simp
    refine callT ?_; refine ⟨_, _, send_spec a (min i (wantN sz)) cap (qL sz (min i (wantN sz))) (mAt sz i) Hs how (by omega) (by omega) (by simp only [List.length_replicate]; omega), _, cutT, ?_⟩
    have hiff := right_snoc (qL sz (min i (wantN sz))) (mAt sz i)
    rw [hsum, hlen] at hiff
    simp only [List.length_replicate] at hiff
    rintro v T (⟨g1, rfl, rfl⟩ | ⟨g1, g2, rfl, rfl⟩ | ⟨g1, g2, g, ca, ya, rfl, hca, rfl⟩)
    · exact absurd ⟨hr, hok⟩ g1
    · have hw : ¬ i < wantN sz := fun h => by
        have h2 := (want_iff sz i).1 h
        rw [Nat.min_eq_left (by omega)] at hiff g2
        exact g2 (hiff.2 ⟨by rw [Nat.min_eq_left (by omega)] at hr; exact hr, hok, h2⟩)
      have e : min (i + 1) (wantN sz) = min i (wantN sz) := by omega
      simp only [List.cons_append, List.nil_append]
      repeat (first | refine stepA ?_ | intro _)
      exact ⟨rfl, (i + 1, a, cap, T), ⟨by simp only; omega, by simp only [e]; exact how⟩, by simp only; omega, by simp only [e]; exact sublA, subT⟩
    · have h2 := hiff.1 g2
      have hw : min i (wantN sz) < wantN sz := (want_iff sz _).2 h2.2.2
      have e0 : min i (wantN sz) = i := by omega
      have e : min (i + 1) (wantN sz) = i + 1 := by omega
      rw [e0] at hca ⊢
      rw [qL_succ] at hca ⊢
      simp only [List.cons_append, List.nil_append]
      repeat (first | refine stepA ?_ | intro _)
      exact ⟨rfl, (i + 1, _, ca, [(g, .cells (mcells (qL sz (i + 1)) ++ ya) 29)]), ⟨by simp only; omega, by simp only [e]; exact Own.blk (by rw [mcells_len]; simp) hca.1 hca.2.1 hca.2.2⟩, by simp only; omega, by simp only [e]; exact sublA, subT⟩
  · obtain rfl : i = 20 := by omega
    have e : min 20 (wantN sz) = wantN sz := by omega
    rw [e]
    have hq : (128 : Int) / (sz : Int) = ((128 / sz : Nat) : Int) := (Int.natCast_ediv 128 sz).symm
    by_cases h8 : 8 < sz
    · have hw : wantN sz = 128 / sz := by unfold wantN; rw [if_pos h8]
      repeat (first | refine stepA ?_ | intro _)
      (first | refine retA ?_ | refine retB ?_)
      exact ⟨_, ⟨rfl, rfl⟩, subT⟩
    · have hw : wantN sz = 16 := by unfold wantN; rw [if_neg h8]
      repeat (first | refine stepA ?_ | intro _)
      (first | refine retA ?_ | refine retB ?_)
      exact ⟨_, ⟨rfl, rfl⟩, subT⟩
end Go.Proofs.Ythachclpelhaiaa
