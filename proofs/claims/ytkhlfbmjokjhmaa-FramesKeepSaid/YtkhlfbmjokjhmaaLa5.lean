/-
  The law FramesKeep: its walk.
-/
import Derived.Test.YtkhlfbmjokjhmaaLa4
namespace Go.Proofs.Ytkhlfbmjokjhmaa
open Go.RowKit
attribute [local irreducible] W L QL PureOp thenQ blockQ retQ Spec IterOk YSpec roundQ scopeQ noGoQ
set_option maxHeartbeats 1000000

theorem write_inv {M : List Frm} {a p : Int} {s : List UInt8} (h : (writeM M a p s).1 = 0) :
    ∃ (i q : Nat) (f : Frm), a = i ∧ p = q ∧ M[i]? = some f ∧ 0 < f.refs ∧ q + s.length ≤ 64 ∧ (writeM M a p s).2 = M.set i { f with bytes := overw f.bytes q s } := by
  cases hg : getM M a with
  | none => simp [writeM, hg] at h
  | some f =>
    obtain ⟨i, rfl, hi, hr⟩ := getM_some hg
    by_cases hc : 0 ≤ p ∧ p + s.length ≤ 64
    · obtain ⟨q, rfl⟩ : ∃ q : Nat, p = q := ⟨p.toNat, by omega⟩
      refine ⟨i, q, f, rfl, rfl, hi, hr, by omega, ?_⟩
      rw [write_at hi hr (by omega)]
    · simp [writeM, hg, hc] at h
theorem overw_mid {bs s : List UInt8} {q : Nat} (h : q ≤ bs.length) : ((overw bs q s).drop q).take s.length = s := by
  have e : (bs.take q).length = q := by simp; omega
  rw [overw, List.append_assoc, List.drop_append, e, List.drop_of_length_le (by omega)]
  simp
theorem read_back {M : List Frm} {a p : Int} {s : List UInt8} (hM : WfM M) (h : (writeM M a p s).1 = 0) : readM (writeM M a p s).2 a p s.length = (s, 0) := by
  obtain ⟨i, q, f, rfl, rfl, hi, hr, hs, e⟩ := write_inv h
  have hl := lt_of_get hi
  have hb := (hM.get hi).1
  rw [e]
  have hg : (M.set i { f with bytes := overw f.bytes q s })[i]? = some { f with bytes := overw f.bytes q s } := by simp [hl]
  simp only [readM, getM_of hg hr]
  rw [if_pos (by omega)]
  simp only [Int.toNat_natCast]
  rw [overw_mid (by omega)]
theorem getM_other {M : List Frm} {i : Nat} {f g : Frm} {b : Int} (hb : b ≠ i) : getM (M.set i g) b = getM M b := by
  simp only [getM]
  by_cases h0 : 0 ≤ b
  · rw [if_pos h0, if_pos h0, List.getElem?_set_ne (by omega)]
  · rw [if_neg h0, if_neg h0]
theorem read_other {M : List Frm} {a p b x y : Int} {s : List UInt8} (h : (writeM M a p s).1 = 0) (hb : a ≠ b) : readM (writeM M a p s).2 b x y = readM M b x y := by
  obtain ⟨i, q, f, rfl, rfl, hi, hr, hs, e⟩ := write_inv h
  rw [e]
  simp only [readM]
  rw [getM_other (f := f) (fun e => hb e.symm)]
theorem read_whole {M : List Frm} {b : Int} {f : Frm} (h : getM M b = some f) : (readM M b 0 64).2 = 0 := by
  simp [readM, h]
theorem read_status {M : List Frm} {b : Int} (h : (readM M b 0 64).2 = 0) : ∃ f, getM M b = some f := by
  cases hg : getM M b with
  | none => simp [readM, hg] at h
  | some f => exact ⟨f, rfl⟩
theorem read_same {M : List Frm} {a p : Int} {s : List UInt8} (h : (writeM M a p s).1 = 0) : (readM (writeM M a p s).2 a 0 64).2 = 0 := by
  obtain ⟨i, q, f, rfl, rfl, hi, hr, hs, e⟩ := write_inv h
  have hl := lt_of_get hi
  rw [e]
  have hg : (M.set i { f with bytes := overw f.bytes q s })[i]? = some { f with bytes := overw f.bytes q s } := by simp [hl]
  exact read_whole (getM_of hg hr)
theorem zM_getM {s : List UInt8} {b : Int} : getM (zM s 6 6) b = if 0 ≤ b ∧ b ≤ 5 then some ⟨1, ovW s⟩ else none := by
  by_cases h : 0 ≤ b ∧ b ≤ 5
  · rw [if_pos h]
    obtain ⟨k, rfl⟩ : ∃ k : Nat, b = k := ⟨b.toNat, by omega⟩
    exact getM_of (by simp only [zM, Nat.sub_self, List.replicate_zero, List.append_nil, List.getElem?_replicate]; rw [if_pos (by omega)]) (by simp)
  · rw [if_neg h]
    cases hg : getM (zM s 6 6) b with
    | none => rfl
    | some f =>
      obtain ⟨i, rfl, hi, _⟩ := getM_some hg
      have := lt_of_get hi
      rw [zM_len (Nat.le_refl _)] at this
      omega
theorem keep_spec (a b p : Int) (s t : List UInt8) : Spec Try.prog 5 [.int .i64 a, .int .i64 b, .int .i64 p, str s, str t] [] fun v H' => v = .bool true ∧ H' = [] := by
  refine Spec_body Try.func5 rfl Try.ntmps5 rfl (fun w0 => ?_)
  repeat (first | refine stepA ?_ | intro _)
  refine callA ?_; refine ⟨_, _, shown_spec, _, cutA, ?_⟩
  rintro v H' ⟨rfl, rfl⟩
  repeat (first | refine stepA ?_ | intro _)
  refine callA ?_; refine ⟨_, _, new_spec 6 (by omega), _, cutA, ?_⟩
  rintro v H' ⟨m, rfl, rfl⟩
  obtain ⟨t1, ht1⟩ : ∃ t1, t1 = (t.take 70).take (min (t.take 70).length 64) := ⟨_, rfl⟩
  have hs : t1.length ≤ 64 := by rw [ht1]; simp; omega
  rw [newM_zM t1 6]
  repeat (first | refine stepA ?_ | intro _)
  refine W_loop (fun i : Nat => [(0, .int .i64 a), (1, .int .i64 b), (2, .int .i64 p), (3, str s), (4, str t), (11, .bool true), (12, m.ptr), (13, .int .i64 0), (14, .int .i64 (i : Int))]) (fun i => memH m (zM t1 6 i))
    (fun i => i ≤ 6) (fun i => 6 - i) 0 (by omega) sublA subA ?_
  intro i hi
  by_cases hlt : i < 6
  · have hMi := zM_wf (s := t1) (n := 6) (i := i) hs (by omega) (by omega)
    have hMj : WfM ((zM t1 6 i).set i ⟨1, zero64⟩) := hMi.set ⟨rfl, by simp⟩
    repeat (first | refine stepA ?_ | intro _)
    refine callA ?_; refine ⟨_, _, alloc_ok m hMi (zM_free hlt), _, cutA, ?_⟩
    rintro v H' ⟨rfl, rfl⟩
    repeat (first | refine stepA ?_ | intro _)
    refine callA ?_; refine ⟨_, _, text_spec t, _, cutA, ?_⟩
    rintro v H' ⟨rfl, rfl⟩
    repeat (first | refine stepA ?_ | intro _)
    refine callA ?_; refine ⟨_, _, text_spec t, _, cutA, ?_⟩
    rintro v H' ⟨rfl, rfl⟩
    repeat (first | refine stepA ?_ | intro _)
    (first | (apply L_P; (· exact rfl); (· exact rfl)) | (apply QL_P; (· exact rfl))); (· (apply P_slStr; (· exact evA); (· exact Bound.none); (· exact Bound.of rfl (by omega : min ((t.take 70).length : Int) 64 = ((min (t.take 70).length 64 : Nat) : Int))); (· omega)))
    rw [Nat.sub_zero, List.drop_zero, ← ht1]
    repeat (first | refine stepA ?_ | intro _)
    refine callA ?_; refine ⟨_, _, write_ok m hMj (zM_write hlt hs), _, cutA, ?_⟩
    rintro v H' ⟨rfl, rfl⟩
    repeat (first | refine stepA ?_ | intro _)
    exact ⟨rfl, i + 1, by omega, by omega, sublA, subA⟩
  · obtain rfl : i = 6 := by omega
    have hM := zM_wf (s := t1) (n := 6) (i := 6) hs (by omega) (by omega)
    have hgb := zM_getM (s := t1) (b := b)
    obtain ⟨M, hMe⟩ : ∃ M, M = zM t1 6 6 := ⟨_, rfl⟩
    rw [← hMe] at hM hgb ⊢
    clear hMe
    have hM2 := writeM_wf (at_ := a) (from_ := p) (s := s.take 70) hM
    repeat (first | refine stepA ?_ | intro _)
    refine callA ?_; refine ⟨_, _, read_spec m hM b 0 64, _, cutA, ?_⟩
    rintro v H' ⟨rfl, rfl⟩
    repeat (first | refine stepA ?_ | intro _)
    refine callA ?_; refine ⟨_, _, text_spec s, _, cutA, ?_⟩
    rintro v H' ⟨rfl, rfl⟩
    repeat (first | refine stepA ?_ | intro _)
    refine callA ?_; refine ⟨_, _, write_spec m hM a p (s.take 70), _, cutA, ?_⟩
    rintro v H' ⟨rfl, rfl⟩
    by_cases hf : (readM M b 0 64).2 = 0
    · obtain ⟨fb, hfb⟩ := read_status hf
      have hb : 0 ≤ b ∧ b ≤ 5 := by
        rw [hgb] at hfb
        by_cases hc : 0 ≤ b ∧ b ≤ 5
        · exact hc
        · rw [if_neg hc] at hfb; cases hfb
      by_cases hg : (writeM M a p (s.take 70)).1 = 0
      · have hrb := read_back hM hg
        repeat (first | refine stepA ?_ | intro _)
        refine callA ?_; refine ⟨_, _, text_spec s, _, cutA, ?_⟩
        rintro v H' ⟨rfl, rfl⟩
        repeat (first | refine stepA ?_ | intro _)
        refine callA ?_; refine ⟨_, _, read_ok m hM2 hrb, _, cutA, ?_⟩
        rintro v H' ⟨rfl, rfl⟩
        repeat (first | refine stepA ?_ | intro _)
        by_cases hab : a = b
        · subst hab
          have hst := read_same hg
          refine callA ?_; refine ⟨_, _, read_spec m hM2 a 0 64, _, cutA, ?_⟩
          rintro v H' ⟨rfl, rfl⟩
          repeat (first | refine stepA ?_ | intro _)
          refine callA ?_; refine ⟨_, _, text_spec s, _, cutA, ?_⟩
          rintro v H' ⟨rfl, rfl⟩
          repeat (first | refine stepA ?_ | intro _)
          (first | refine retA ?_ | refine retB ?_); exact ⟨_, ⟨rfl, rfl⟩, subA⟩
        · have hro : readM (writeM M a p (s.take 70)).2 b 0 64 = ((readM M b 0 64).1, 0) := by
            rw [read_other hg hab]; exact Prod.ext rfl hf
          refine callA ?_; refine ⟨_, _, read_ok m hM2 hro, _, cutA, ?_⟩
          rintro v H' ⟨rfl, rfl⟩
          repeat (first | refine stepA ?_ | intro _)
          refine callA ?_; refine ⟨_, _, text_spec s, _, cutA, ?_⟩
          rintro v H' ⟨rfl, rfl⟩
          repeat (first | refine stepA ?_ | intro _)
          (first | refine retA ?_ | refine retB ?_); exact ⟨_, ⟨rfl, rfl⟩, subA⟩
      · repeat (first | refine stepA ?_ | intro _)
        (first | refine retA ?_ | refine retB ?_); exact ⟨_, ⟨rfl, rfl⟩, subA⟩
    · have hb : ¬ (0 ≤ b ∧ b ≤ 5) := fun hc => by
        rw [if_pos hc] at hgb
        exact hf (read_whole hgb)
      by_cases hb0 : b < 0
      · repeat (first | refine stepA ?_ | intro _)
        (first | refine retA ?_ | refine retB ?_); exact ⟨_, ⟨rfl, rfl⟩, subA⟩
      · repeat (first | refine stepA ?_ | intro _)
        (first | refine retA ?_ | refine retB ?_); exact ⟨_, ⟨rfl, rfl⟩, subA⟩
end Go.Proofs.Ytkhlfbmjokjhmaa
