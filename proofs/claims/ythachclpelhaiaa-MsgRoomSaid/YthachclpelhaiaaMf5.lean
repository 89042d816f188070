/-
  Messages: Room, and the document's.
-/
import Derived.Test.YthachclpelhaiaaMf4
namespace Go.Proofs.Ythachclpelhaiaa
open Go.RowKit
attribute [local irreducible] W L QL PureOp thenQ blockQ retQ Spec IterOk YSpec roundQ scopeQ noGoQ
attribute [local irreducible] AS ASi IterOkC
set_option maxHeartbeats 3200000
def RoomOk (l : List MsgV) (size : Int) : Prop := RightM l ∧ 0 ≤ size ∧ size ≤ 32 ∧ l.length < 16 ∧ ((sumD (ds_ l) : Nat) : Int) + size ≤ 128
theorem room_zero (p : Option Addr) (c : Nat) (size : Int) : Spec Try.prog 21 [.slice p 0 c, .int .i64 size] [] fun v H' => v = .bool (decide (0 ≤ size ∧ size ≤ 32)) ∧ H' = [] := by
  refine Spec_body Try.func21 rfl Try.ntmps21 rfl (fun w0 => ?_)
  repeat (first | refine stepA ?_ | intro _)
  refine callA ?_; refine ⟨_, _, datas_zero p c, _, cutA, ?_⟩
  rintro v H' ⟨rfl, rfl⟩
  try simp only [List.cons_append, List.nil_append]
  repeat (first | refine stepA ?_ | intro _)
  refine callA ?_; refine ⟨_, _, sizes_zero none 0, _, cutA, ?_⟩
  rintro v H' ⟨rfl, rfl⟩
  try simp only [List.cons_append, List.nil_append]
  repeat (first | refine stepA ?_ | intro _)
  refine callA ?_; refine ⟨_, _, right_zero p c, _, cutA, ?_⟩
  rintro v H' ⟨rfl, rfl⟩
  try simp only [List.cons_append, List.nil_append]
  by_cases q0 : 0 ≤ size
  · by_cases q1 : size ≤ 32
    · rw [decide_eq_true ⟨q0, q1⟩]
      repeat (first | refine stepA ?_ | intro _)
      (first | refine retA ?_ | refine retB ?_); exact ⟨_, ⟨rfl, rfl⟩, subA⟩
    · rw [decide_eq_false (fun h => q1 h.2)]
      repeat (first | refine stepA ?_ | intro _)
      (first | refine retA ?_ | refine retB ?_); exact ⟨_, ⟨rfl, rfl⟩, subA⟩
  · rw [decide_eq_false (fun h => q0 h.1)]
    repeat (first | refine stepA ?_ | intro _)
    (first | refine retA ?_ | refine retB ?_); exact ⟨_, ⟨rfl, rfl⟩, subA⟩
theorem roomOk_nil (size : Int) : decide (0 ≤ size ∧ size ≤ 32) = true ↔ RoomOk [] size := by
  simp only [decide_eq_true_eq, RoomOk, ds_, List.map_nil, sumD, List.length_nil]
  exact ⟨fun h => ⟨rightM_nil, h.1, h.2, by omega, by omega⟩, fun h => ⟨h.2.1, h.2.2.1⟩⟩
theorem room_blk (g n c : Nat) (M : List Value) (l : List MsgV) (size : Int) (hM : MsgsAt M l) (hl : l.length = n) (hn : n ≤ 100) (hs : sumD (ds_ l) ≤ 100000) (h0 : 0 < n) :
    Spec Try.prog 21 [.slice (some ⟨g, 0, none⟩) n c, .int .i64 size] [(g, .cells M 29)] fun v H' => (∃ b : Bool, (b = true ↔ RoomOk l size) ∧ v = .bool b) ∧ H' = [(g, .cells M 29)] := by
  refine Spec_body Try.func21 rfl Try.ntmps21 rfl (fun w0 => ?_)
  repeat (first | refine stepA ?_ | intro _)
  refine callA ?_; refine ⟨_, _, datas_spec g n c M _ l hM hl (by omega), _, cutA, ?_⟩
  rintro v H' ⟨a, cap, Hs, rfl, how, rfl⟩
  rcases how.inv with ⟨_, hz, _, _, _⟩ | ⟨g2, ys, rfl, rfl, _, _, _, _⟩
  · omega
  simp only [List.cons_append, List.nil_append]
  repeat (first | refine stepA ?_ | intro _)
  refine callA ?_; refine ⟨_, _, sizes_spec g2 n cap (strs l ++ ys) _ (ds_ l) (fun k s h => strs_get k s h) (by simpa using hl) (by omega) (by omega), _, cutA, ?_⟩
  rintro v H' ⟨⟨b0, hb0, rfl⟩, rfl⟩
  simp only [List.cons_append, List.nil_append]
  repeat (first | refine stepA ?_ | intro _)
  refine callA ?_; refine ⟨_, _, right_blk g n c M _ l hM hl (by omega) (by omega) h0, _, cutA, ?_⟩
  rintro v H' ⟨⟨b, hb, rfl⟩, rfl⟩
  simp only [List.cons_append, List.nil_append]
  cases b with
  | false =>
    repeat (first | refine stepA ?_ | intro _)
    (first | refine retA ?_ | refine retB ?_)
    exact ⟨_, ⟨⟨false, ⟨fun h => (by cases h), fun h => hb.2 h.1⟩, rfl⟩, rfl⟩, subA⟩
  | true =>
    have hr := hb.1 rfl
    by_cases q0 : 0 ≤ size
    · by_cases q1 : size ≤ 32
      · by_cases q2 : n < 16
        · by_cases q3 : ((sumD (ds_ l) : Nat) : Int) + size ≤ 128
          · repeat (first | refine stepA ?_ | intro _)
            (first | refine retA ?_ | refine retB ?_)
            exact ⟨_, ⟨⟨true, ⟨fun _ => ⟨hr, q0, q1, by omega, q3⟩, fun _ => rfl⟩, rfl⟩, rfl⟩, subA⟩
          · repeat (first | refine stepA ?_ | intro _)
            (first | refine retA ?_ | refine retB ?_)
            exact ⟨_, ⟨⟨false, ⟨fun h => (by cases h), fun h => absurd h.2.2.2.2 q3⟩, rfl⟩, rfl⟩, subA⟩
        · repeat (first | refine stepA ?_ | intro _)
          (first | refine retA ?_ | refine retB ?_)
          exact ⟨_, ⟨⟨false, ⟨fun h => (by cases h), fun h => absurd h.2.2.2.1 (by omega)⟩, rfl⟩, rfl⟩, subA⟩
      · repeat (first | refine stepA ?_ | intro _)
        (first | refine retA ?_ | refine retB ?_)
        exact ⟨_, ⟨⟨false, ⟨fun h => (by cases h), fun h => absurd h.2.2.1 q1⟩, rfl⟩, rfl⟩, subA⟩
    · repeat (first | refine stepA ?_ | intro _)
      (first | refine retA ?_ | refine retB ?_)
      exact ⟨_, ⟨⟨false, ⟨fun h => (by cases h), fun h => absurd h.2.1 q0⟩, rfl⟩, rfl⟩, subA⟩
theorem room_own (a : Option Addr) (n cap : Nat) (l : List MsgV) (size : Int) (Hs : Hp) (how : oM a n cap l Hs) (hn : n ≤ 100) (hs : sumD (ds_ l) ≤ 100000) :
    Spec Try.prog 21 [.slice a n cap, .int .i64 size] Hs fun v H' => (∃ b : Bool, (b = true ↔ RoomOk l size) ∧ v = .bool b) ∧ H' = Hs := by
  have hl := oM_len how
  by_cases h0 : n = 0
  · subst h0
    obtain rfl : l = [] := List.eq_nil_of_length_eq_zero hl
    exact Spec.frameK (room_zero a cap size) fun v ⟨h1, _⟩ => ⟨⟨_, roomOk_nil size, h1⟩, rfl⟩
  rcases how.inv with ⟨_, h, _⟩ | ⟨g, ys, rfl, rfl, _, _, _, _⟩
  · exact absurd h h0
  · exact room_blk g n cap _ l size (msgsAt_own l ys) hl hn hs (by omega)
theorem right_snoc (l : List MsgV) (m : MsgV) : RightM (l ++ [m]) ↔ RightM l ∧ MsgOk m ∧ l.length < 16 ∧ sumD (ds_ l) + m.d.length ≤ 128 := by
  have e1 : AllM (l ++ [m]) ↔ AllM l ∧ MsgOk m := by
    rw [msgOk_iff]
    constructor
    · intro h
      refine ⟨fun k x hx => h k x ?_, h l.length m (by simp)⟩
      rw [List.getElem?_append_left (List.getElem?_eq_some_iff.1 hx).1]; exact hx
    · rintro ⟨h, h2⟩ k x hx
      by_cases hk : k < l.length
      · rw [List.getElem?_append_left hk] at hx; exact h k x hx
      · rw [List.getElem?_append_right (by omega)] at hx
        have := (List.getElem?_eq_some_iff.1 hx).1
        rw [List.length_singleton] at this
        rw [show k - l.length = 0 by omega] at hx
        simp at hx; subst hx; exact h2
  rw [allM_right, allM_right, e1, sum_snoc, List.length_append, List.length_singleton]
  constructor
  · rintro ⟨⟨h1, h2⟩, h3, h4⟩; exact ⟨⟨h1, by omega, by omega⟩, h2, by omega, h4⟩
  · rintro ⟨⟨h1, h5, h6⟩, h2, h3, h4⟩; exact ⟨⟨h1, h2⟩, by omega, h4⟩
theorem zerosB (k : Nat) : (((List.replicate k [Value.int .u8 0]).flatten).drop 0).take k = bts (List.replicate k 0) := by
  rw [List.drop_zero]
  have : ∀ k : Nat, (List.replicate k [Value.int .u8 0]).flatten = List.replicate k (Value.int .u8 0) := fun k => by
    induction k with
    | zero => rfl
    | succ k ih => rw [List.replicate_succ, List.flatten_cons, ih]; rfl
  rw [this, List.take_of_length_le (by simp)]
  simp [bts]
abbrev oneM (k : Nat) : MsgV := ⟨1, List.replicate k 0⟩
theorem refRoom_own (a : Option Addr) (n cap : Nat) (l : List MsgV) (size : Int) (Hs : Hp) (how : oM a n cap l Hs) (hn : n ≤ 100) :
    Spec Try.prog 22 [.slice a n cap, .int .i64 size] Hs fun v H' => (∃ b : Bool, (b = true ↔ RoomOk l size) ∧ v = .bool b) ∧ H' = Hs := by
  have hl := oM_len how
  refine Spec_body Try.func22 rfl Try.ntmps22 rfl (fun w0 => ?_)
  by_cases q0 : 0 ≤ size
  · by_cases q1 : size ≤ 32
    · obtain ⟨k, rfl⟩ : ∃ k : Nat, size = (k : Int) := ⟨size.toNat, by omega⟩
      repeat (first | refine stepA ?_ | intro _)
      apply L_makeSl
      · exact rfl
      · exact evA
      · exact evA
      · omega
      · exact rfl
      · decide
      intro b
      repeat (first | refine stepA ?_ | intro _)
      (first | (apply L_P; (· exact rfl); (· exact rfl)) | (apply QL_P; (· exact rfl))); (· (apply P_bytesStr; (· exact evA); (· exact pullA); (· exact zerosB k); (· exact List.length_replicate)))
      repeat (first | refine stepA ?_ | intro _)
      refine callT ?_; refine ⟨_, _, refSend_spec a n cap l (oneM k) Hs how hn, _, cutT, ?_⟩
      rintro v H' hv
      have hok : MsgOk (oneM k) := ⟨by simp only [List.length_replicate]; omega, by show (1 : Int) > 0; omega⟩
      have hlen : (oneM k).d.length = k := List.length_replicate
      rcases hv with ⟨h1, rfl, rfl⟩ | ⟨h1, h2, rfl, rfl⟩ | ⟨h1, h2, g, cap', ys, rfl, h3, rfl⟩
      · simp only [List.cons_append, List.nil_append]
        repeat (first | refine stepA ?_ | intro _)
        (first | refine retA ?_ | refine retB ?_)
        exact ⟨_, ⟨⟨false, ⟨fun h => (by cases h), fun h => absurd ⟨h.1, hok⟩ h1⟩, rfl⟩, rfl⟩, subT⟩
      · simp only [List.cons_append, List.nil_append]
        repeat (first | refine stepA ?_ | intro _)
        (first | refine retA ?_ | refine retB ?_)
        exact ⟨_, ⟨⟨false, ⟨fun h => (by cases h), fun h => absurd ((right_snoc l (oneM k)).2 ⟨h.1, hok, h.2.2.2.1, by have := h.2.2.2.2; omega⟩) h2⟩, rfl⟩, rfl⟩, subT⟩
      · simp only [List.cons_append, List.nil_append]
        have hs := (right_snoc l (oneM k)).1 h2
        repeat (first | refine stepA ?_ | intro _)
        (first | refine retA ?_ | refine retB ?_)
        exact ⟨_, ⟨⟨true, ⟨fun _ => ⟨h1.1, q0, q1, hs.2.2.1, by have := hs.2.2.2; omega⟩, fun _ => rfl⟩, rfl⟩, rfl⟩, subT⟩
    · repeat (first | refine stepA ?_ | intro _)
      (first | refine retA ?_ | refine retB ?_)
      exact ⟨_, ⟨⟨false, ⟨fun h => (by cases h), fun h => absurd h.2.2.1 q1⟩, rfl⟩, rfl⟩, subT⟩
  · repeat (first | refine stepA ?_ | intro _)
    (first | refine retA ?_ | refine retB ?_)
    exact ⟨_, ⟨⟨false, ⟨fun h => (by cases h), fun h => absurd h.2.1 q0⟩, rfl⟩, rfl⟩, subT⟩
end Go.Proofs.Ythachclpelhaiaa
