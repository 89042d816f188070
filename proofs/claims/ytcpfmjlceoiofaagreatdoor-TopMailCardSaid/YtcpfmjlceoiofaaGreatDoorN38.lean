/-
  Joined texts; each begins with its own sentence.
-/
import Derived.Test.YtcpfmjlceoiofaaGreatDoorN36
import Derived.Test.YtcpfmjlceoiofaaGreatDoorN37
import Derived.Test.YtcpfmjlceoiofaaGreatDoorN10
import Derived.Test.YtcpfmjlceoiofaaGreatDoorN32
import Derived.WalkKit
import Derived.LaidEql
import Derived.Stop.Asserts
import Derived.RowKitTokens
import Derived.Test.YtcpfmjlceoiofaaGreatDoorN07
set_option linter.unusedSimpArgs false
set_option linter.unusedVariables false
set_option linter.unusedSectionVars false
/-
  The laws through the layers: Image, booted.
-/
namespace Go.Proofs.YtcpfmjlceoiofaaGreatDoor
open Go.RowKit
attribute [local irreducible] W L QL PureOp thenQ blockQ retQ Spec IterOk YSpec roundQ scopeQ noGoQ
attribute [local irreducible] AS ASi IterOkC retD retE
set_option maxHeartbeats 12800000
set_option maxRecDepth 8000
abbrev z64 : List UInt8 := List.replicate 64 0
theorem img4_spec (data : List UInt8) (hd : data.length = 64) : Spec Tryz.prog 39 [str [], str data] [] fun v H' => v = str (88 :: 0 :: 64 :: ([] ++ data)) ∧ H' = [] := by
  refine Spec_body Tryz.func39 rfl Tryz.ntmps39 rfl (fun w0 => ?_)
  repeat (first | refine stepA ?_ | intro _)
  (first | (apply L_P; (· exact rfl); (· exact rfl)) | (apply QL_P; (· exact rfl))); (· (apply P_slStr; (· exact evA); (· exact Bound.none); (· exact Bound.of (j := 0) rfl (by show min (0 : Int) 200 = 0; decide)); (· simp)))
  simp only [List.drop_zero, Nat.sub_zero, List.take_zero]
  repeat (first | refine stepA ?_ | intro _)
  (first | (apply L_P; (· exact rfl); (· exact rfl)) | (apply QL_P; (· exact rfl))); (· (apply P_slStr; (· exact evA); (· exact Bound.none); (· exact Bound.of (j := 64) rfl (by rw [hd]; rfl)); (· rw [hd]; decide)))
  rw [List.drop_zero, Nat.sub_zero, List.take_of_length_le (by omega)]
  rw [hd]
  repeat (first | refine stepA ?_ | intro _)
  (first | (apply L_P; (· exact rfl); (· exact rfl)) | (apply QL_P; (· exact rfl))); (· (apply P_bytesStr; (· exact evA); (· exact pullA); (· exact (show _ = bts [88, 0, 64] by rw [hd]; rfl)); (· exact rfl)))
  repeat (first | refine stepA ?_ | intro _)
  (first | refine retA ?_ | refine retB ?_); exact ⟨_, ⟨rfl, rfl⟩, subA⟩
theorem img_spec : Spec Tryz.prog 14 [] [] fun v H' => v = str (88 :: 0 :: 64 :: ([] ++ z64)) ∧ H' = [] := by
  refine Spec_body Tryz.func14 rfl Tryz.ntmps14 rfl (fun w0 => ?_)
  repeat (first | refine stepA ?_ | intro _)
  refine L_makeSl (n := 64) rfl (ev_of rfl rfl) (ev_of rfl rfl) ?_ ?_ ?_ (fun b => ?_)
  · decide
  · exact rfl
  · decide
  repeat (first | refine stepA ?_ | intro _)
  (first | (apply L_P; (· exact rfl); (· exact rfl)) | (apply QL_P; (· exact rfl))); (· (apply P_bytesStr; (· exact evA); (· exact pullA); (· exact (show _ = bts z64 by rfl)); (· exact rfl)))
  repeat (first | refine stepA ?_ | intro _)
  refine callA ?_; refine ⟨_, _, img4_spec z64 rfl, _, cutA, ?_⟩
  rintro v H' ⟨rfl, rfl⟩
  simp only [List.cons_append, List.nil_append]
  repeat (first | refine stepA ?_ | intro _)
  (first | refine retA ?_ | refine retB ?_); exact ⟨_, ⟨rfl, rfl⟩, subA⟩
/-! ### what is booted -/
def M0 : List Frm := (execM (newM 120) [] z64).2.2
def r0 : Int := (execM (newM 120) [] z64).2.1
theorem exec_e : (execM (newM 120) [] z64).1 = 0 := by decide +kernel
def M1 : List Frm := (forkM M0 r0).2.2
def r1 : Int := (forkM M0 r0).2.1
theorem fork1_e : (forkM M0 r0).1 = 0 := by decide +kernel
end Go.Proofs.YtcpfmjlceoiofaaGreatDoor

/-
  The laws through the layers: booted, shown.
-/
namespace Go.Proofs.YtcpfmjlceoiofaaGreatDoor
open Go.RowKit
attribute [local irreducible] W L QL PureOp thenQ blockQ retQ Spec IterOk YSpec roundQ scopeQ noGoQ
attribute [local irreducible] AS ASi IterOkC retD retE
set_option maxHeartbeats 12800000
set_option maxRecDepth 8000
theorem M0_wf : WfM M0 := by
  refine ⟨?_, ?_⟩
  · show ∀ f ∈ M0, f.bytes.length = 64 ∧ f.refs ≤ 1000
    decide +kernel
  · decide +kernel
abbrev q0 : SpM := ⟨r0, spanN 0, spanN 64, 0, []⟩
theorem booted2_spec : Spec Tryz.prog 9 [] [] fun v H' => ∃ σ b, v = .tuple #[ptrB σ.k, .bool true] ∧ WfK σ ∧ σ.M = M0 ∧ σ.L = [⟨b, 0, newP⟩] ∧ σ.last = 1 ∧ spOf σ 1 = some q0 ∧ (∃ sq, σ.E = [nmB σ.qu sq, smE sq, slK σ.pi 0 none false slZ]) ∧ σ.wa = none ∧ σ.wc = 0 ∧ H' = kH σ := by
  refine Spec_body Tryz.func9 rfl Tryz.ntmps9 rfl (fun w0 => ?_)
  repeat (first | refine stepA ?_ | intro _)
  refine callA ?_; refine ⟨_, _, img_spec, _, cutA, ?_⟩
  rintro v H' ⟨rfl, rfl⟩
  simp only [List.cons_append, List.nil_append]
  have hN := knew_spec 120 (by decide) 88 0 64 (by decide) [] z64 rfl rfl exec_e M0_wf
  repeat (first | refine stepA ?_ | intro _)
  refine callA ?_; refine ⟨_, _, hN, _, cutA, ?_⟩
  rintro v H' ⟨x, k, m, rfl, rfl⟩
  simp only [List.cons_append, List.nil_append]
  repeat (first | refine stepA ?_ | intro _)
  (first | refine retA ?_ | refine retB ?_)
  exact ⟨_, ⟨newK x k m M0 q0, x.pb, rfl, newK_wf x k m M0_wf q0 rfl, rfl, rfl, rfl, rfl, ⟨_, rfl⟩, rfl, rfl, rfl⟩, subT⟩
theorem booted_spec : Spec Tryz.prog 9 [] [] fun v H' => ∃ σ b, v = .tuple #[ptrB σ.k, .bool true] ∧ WfK σ ∧ σ.M = M0 ∧ σ.L = [⟨b, 0, newP⟩] ∧ σ.last = 1 ∧ spOf σ 1 = some q0 ∧ H' = kH σ := by
  refine booted2_spec.mono ?_
  rintro v H' ⟨σ, b, h1, h2, h3, h4, h5, h6, -, -, -, h7⟩
  exact ⟨σ, b, h1, h2, h3, h4, h5, h6, h7⟩
theorem ints_same (g1 c1 g2 c2 : Nat) (xs : List Int) (ys : List Value) (hx : xs.length ≤ 1000) : Spec Tryz.prog 19 [.slice (some ⟨g1, 0, none⟩) xs.length c1, .slice (some ⟨g2, 0, none⟩) xs.length c2] [(g1, .cells (ivs xs ++ ys) 3), (g2, .cells (ivs xs) 3)] fun v H' => v = .bool true ∧ H' = [(g1, .cells (ivs xs ++ ys) 3), (g2, .cells (ivs xs) 3)] := by
  refine Spec_body Tryz.func19 rfl Tryz.ntmps19 rfl (fun w0 => ?_)
  repeat (first | refine stepA ?_ | intro _)
  refine W_loop (fun k : Nat => [(0, .slice (some ⟨g1, 0, none⟩) xs.length c1), (1, .slice (some ⟨g2, 0, none⟩) xs.length c2), (5, .int .i64 (k : Int))]) (fun _ => [(g1, .cells (ivs xs ++ ys) 3), (g2, .cells (ivs xs) 3)]) (fun k => k ≤ xs.length) (fun k => xs.length - k) 0 (by omega) sublA subA ?_
  intro k hk
  by_cases hlt : k < xs.length
  · obtain ⟨u, hu⟩ : ∃ u, xs[k]? = some u := ⟨xs[k], by simp⟩
    have hu1 : (ivs xs ++ ys)[k]? = some (.int .i64 u) := ivs_get hu
    have hu2 : (ivs xs)[k]? = some (.int .i64 u) := by have := ivs_get (ys := []) hu; rwa [List.append_nil] at this
    repeat (first | refine stepA ?_ | intro _)
    exact ⟨rfl, k + 1, hlt, by omega, sublA, subA⟩
  · obtain rfl : k = xs.length := by omega
    repeat (first | refine stepA ?_ | intro _)
    (first | refine retA ?_ | refine retB ?_); exact ⟨_, ⟨rfl, rfl⟩, subA⟩
theorem fitRS (x : RS) : FitK [.int .i64, .int .i64, .int .i64, .str, .bool] x.cells := by
  refine ⟨rfl, fun j k h => ?_⟩
  match j, h with
  | 0, h => cases h; exact ⟨_, rfl, _, rfl⟩
  | 1, h => cases h; exact ⟨_, rfl, _, rfl⟩
  | 2, h => cases h; exact ⟨_, rfl, _, rfl⟩
  | 3, h => cases h; exact ⟨_, rfl, _, rfl⟩
  | 4, h => cases h; exact ⟨_, rfl, _, rfl⟩
theorem shown_spec : Spec Tryz.prog 8 [] [] fun v H' => v = .bool true ∧ H' = [] := by
  refine Spec_body Tryz.func8 rfl Tryz.ntmps8 rfl (fun w0 => ?_)
  repeat (first | refine stepA ?_ | intro _)
  refine callT ?_; refine ⟨_, _, booted_spec, _, cutT, ?_⟩
  rintro v H' ⟨σ, b, rfl, hw, hM, hL, hlast, hs, rfl⟩
  simp only [List.cons_append, List.nil_append]
  have hp : findP σ.L 1 = some ⟨b, 0, newP⟩ := by rw [hL]; rfl
  have hS := step_fork σ hw 1 hp rfl hs (by rw [hM]; exact fork1_e) (by rw [hL]; show 1 < 16; decide) (by rw [hlast]; decide)
  repeat (first | refine stepA ?_ | intro _)
  refine callT ?_; refine ⟨_, _, hS, _, cutT, ?_⟩
  rintro v H' ⟨rfl, σ1, b1, hw1, hk1, hM1, hL1, hlast1, hsp1, -, rfl⟩
  simp only [List.cons_append, List.nil_append]
  rw [hlast]
  repeat (first | refine stepA ?_ | intro _)
  rename_i b3
  (first | (apply L_P; (· exact rfl); (· exact rfl)) | (apply QL_P; (· exact rfl)))
  · exact P_eqS (xs := RS.cells ⟨0, 1 + 1, 0, [], false⟩) (ys := RS.cells ⟨0, 2, 0, [], false⟩) (b := true) (ev_of rfl rfl) (ev_of rfl rfl) (fitRS _) (fitRS _) (by simp)
  have hpids : pidsP σ1.L = [1, 2] := by rw [hL1, hL, hlast]; rfl
  have hP := kpids_spec σ1 hw1 (by rw [hpids]; decide)
  rw [hpids, hk1.k] at hP
  repeat (first | refine stepA ?_ | intro _)
  refine callT ?_; refine ⟨_, _, hP, _, cutT, ?_⟩
  rintro v H' ⟨a, cap, Hs, rfl, how, rfl⟩
  have hl2 : σ1.L.length = 2 := by rw [hL1, hL]; rfl
  rw [hl2] at how ⊢
  simp only [List.cons_append, List.nil_append, List.append_assoc]
  rcases how.inv with ⟨-, h0, -⟩ | ⟨g, ys, rfl, rfl, -, -⟩
  · cases h0
  repeat (first | refine stepA ?_ | intro _)
  rename_i b4
  refine L_tail (T := prB σ1.L ++ (blkG rowK σ1.R ++ (blkG tkB σ1.T ++ (tkXs σ1.T σ1.E ++ [(g, Blk.cells (ivs [1, 2] ++ ys) 3)])))) (T' := (g, Blk.cells (ivs [1, 2] ++ ys) 3) :: (prB σ1.L ++ (blkG rowK σ1.R ++ (blkG tkB σ1.T ++ tkXs σ1.T σ1.E)))) permA ?_
  simp only [List.cons_append, List.nil_append]
  refine callA ?_; refine ⟨_, _, ints_same g cap b4 2 [1, 2] ys (by decide), _, cutA, ?_⟩
  rintro v H' ⟨rfl, rfl⟩
  simp only [List.cons_append, List.nil_append]
  repeat (first | refine stepA ?_ | intro _)
  (first | refine retA ?_ | refine retB ?_); exact ⟨_, ⟨rfl, rfl⟩, subA⟩
end Go.Proofs.YtcpfmjlceoiofaaGreatDoor

/-
  The memories of a process and a child of it: what their data pages hold.
-/
namespace Go.Proofs.YtcpfmjlceoiofaaGreatDoor
open Go.RowKit
def memX (c1 c2 : List UInt8) : List Frm := (M1.set 1 ⟨1, c1⟩).set 7 ⟨1, c2⟩
theorem M1_X : M1 = memX z64 z64 := by kernel_rfl
theorem M1_wf : WfM M1 := forkM_wf M0_wf r0
theorem memX_wf {c1 c2 : List UInt8} (h1 : c1.length = 64) (h2 : c2.length = 64) : WfM (memX c1 c2) := (M1_wf.set ⟨h1, by show (1 : Nat) ≤ 1000; decide⟩).set ⟨h2, by show (1 : Nat) ≤ 1000; decide⟩
theorem walkX1 (c1 c2 : List UInt8) : walkM (memX c1 c2) r0 0 = (1, 3, 0) := by kernel_rfl
theorem walkX2 (c1 c2 : List UInt8) : walkM (memX c1 c2) r1 0 = (7, 3, 0) := by kernel_rfl
theorem refsX1 (c1 c2 : List UInt8) : refsM (memX c1 c2) r0 = 1 := by kernel_rfl
theorem refsX2 (c1 c2 : List UInt8) : refsM (memX c1 c2) r1 = 1 := by kernel_rfl
theorem getX1 (c1 c2 : List UInt8) : getM (memX c1 c2) ((1 : Nat) : Int) = some ⟨1, c1⟩ := by kernel_rfl
theorem getX2 (c1 c2 : List UInt8) : getM (memX c1 c2) ((7 : Nat) : Int) = some ⟨1, c2⟩ := by kernel_rfl
theorem eachF_zero (ft : Nat → Int) (k a : Nat) : eachF ft k a 0 = 0 := by
  cases k with
  | zero => rfl
  | succ k => rw [eachF, if_pos rfl]
theorem checkC_in {M : List Frm} {root : Int} {fr : Nat} (hr : refsM M root = 1) (hw : walkM M root 0 = (fr, 3, 0)) (a n : Nat) (h : a + n ≤ 64) (w : Bool) : checkC M root (a : Int) (n : Int) w = 0 := by
  unfold checkC
  rw [hr, if_neg (by decide), if_neg (by omega), if_neg (by omega), Int.toNat_natCast, Int.toNat_natCast]
  cases n with
  | zero => rfl
  | succ n =>
    have e0 : a / 64 = 0 := by omega
    have hf : ftC M root w (a / 64) = 0 := by
      rw [e0]
      unfold ftC
      rw [hw]
      simp only
      rw [if_neg (by decide), if_neg]
      rintro ⟨-, h2⟩
      exact absurd h2 (by decide)
    rw [eachF, if_neg (by omega), if_neg (by rw [hf]; decide), show n + 1 - pN a (n + 1) = 0 by simp only [pN]; omega]
    exact eachF_zero _ _ _
theorem overw_nil (c : List UInt8) (a : Nat) : overw c a [] = c := by simp [overw]
theorem outX1 (c1 c2 : List UInt8) (a : Nat) (s : List UInt8) (h : a + s.length ≤ 64) (ha : a < 64) : outM (memX c1 c2) r0 a s = (0, memX (overw c1 a s) c2) := by
  unfold outM
  by_cases hs : s.length = 0
  · rw [if_pos hs, List.length_eq_zero_iff.1 hs, overw_nil]
  · rw [if_neg hs, show a / 64 = 0 by omega, show a % 64 = a by omega, walkX1]
    simp only [writeM, getX1]
    rw [if_pos (by omega), Int.toNat_natCast, Int.toNat_natCast]
    have e : (memX c1 c2).set 1 ⟨1, overw c1 a s⟩ = memX (overw c1 a s) c2 := by
      unfold memX
      rw [List.set_comm _ _ (show (7 : Nat) ≠ 1 by decide), List.set_set]
    rw [e]
theorem outX2 (c1 c2 : List UInt8) (a : Nat) (s : List UInt8) (h : a + s.length ≤ 64) (ha : a < 64) : outM (memX c1 c2) r1 a s = (0, memX c1 (overw c2 a s)) := by
  unfold outM
  by_cases hs : s.length = 0
  · rw [if_pos hs, List.length_eq_zero_iff.1 hs, overw_nil]
  · rw [if_neg hs, show a / 64 = 0 by omega, show a % 64 = a by omega, walkX2]
    simp only [writeM, getX2]
    rw [if_pos (by omega), Int.toNat_natCast, Int.toNat_natCast]
    have e : (memX c1 c2).set 7 ⟨1, overw c2 a s⟩ = memX c1 (overw c2 a s) := by
      unfold memX
      rw [List.set_set]
    rw [e]
theorem inX1 (c1 c2 : List UInt8) (a n : Nat) (h : a + n ≤ 64) (ha : a < 64) : inM (memX c1 c2) r0 a n = ((c1.drop a).take n, 0) := by
  unfold inM
  by_cases hn : n = 0
  · rw [if_pos hn, hn, List.take_zero]
  · rw [if_neg hn, show a / 64 = 0 by omega, show a % 64 = a by omega, walkX1]
    simp only [readM, getX1]
    rw [if_pos (by omega), Int.toNat_natCast, Int.toNat_natCast]
theorem inX2 (c1 c2 : List UInt8) (a n : Nat) (h : a + n ≤ 64) (ha : a < 64) : inM (memX c1 c2) r1 a n = ((c2.drop a).take n, 0) := by
  unfold inM
  by_cases hn : n = 0
  · rw [if_pos hn, hn, List.take_zero]
  · rw [if_neg hn, show a / 64 = 0 by omega, show a % 64 = a by omega, walkX2]
    simp only [readM, getX2]
    rw [if_pos (by omega), Int.toNat_natCast, Int.toNat_natCast]
theorem overw_len {c : List UInt8} {a : Nat} {s : List UInt8} (hc : c.length = 64) (h : a + s.length ≤ 64) : (overw c a s).length = 64 := by rw [overw_length (by omega), hc]
theorem overw_read {c : List UInt8} {a : Nat} {s : List UInt8} (hc : c.length = 64) (h : a + s.length ≤ 64) : ((overw c a s).drop a).take s.length = s := by
  unfold overw
  rw [List.append_assoc, List.drop_append_of_le_length (by simp; omega), List.drop_of_length_le (by simp; omega), List.nil_append, List.take_left]
end Go.Proofs.YtcpfmjlceoiofaaGreatDoor

/-
  The kernel: load, store.
-/
namespace Go.Proofs.YtcpfmjlceoiofaaGreatDoor
open Go.RowKit
attribute [local irreducible] W L QL PureOp thenQ blockQ retQ Spec IterOk YSpec roundQ scopeQ noGoQ
attribute [local irreducible] AS ASi IterOkC retD retE
set_option maxHeartbeats 12800000
set_option maxRecDepth 8000
theorem of_ok (g : Nat) : Spec Tryz.prog 48 [.slice (some ⟨g, 0, none⟩) 1 1] [(g, .cells [.int .i64 0] 29)] fun v H' => v = .nilIface ∧ H' = [(g, .cells [.int .i64 0] 29)] := by
  refine Spec_body Tryz.func48 rfl Tryz.ntmps48 rfl (fun w0 => ?_)
  repeat (first | refine stepA ?_ | intro _)
  refine W_loop (fun k : Nat => [(5, .slice (some ⟨g, 0, none⟩) 1 1), (6, .int .i64 1), (7, .int .i64 (k : Int))]) (fun _ => [(g, .cells [.int .i64 0] 29)]) (fun k => k ≤ 1) (fun k => 1 - k) 0 (by omega) sublA subA ?_
  rintro k hk
  by_cases h0 : k = 0
  · subst h0
    repeat (first | refine stepA ?_ | intro _)
    exact ⟨rfl, 1, by omega, by omega, sublA, subA⟩
  · obtain rfl : k = 1 := by omega
    repeat (first | refine stepA ?_ | intro _)
    (first | refine retA ?_ | refine retB ?_); exact ⟨_, ⟨rfl, rfl⟩, subA⟩
theorem none_ok (g : Nat) : Spec Tryz.prog 104 [.slice (some ⟨g, 0, none⟩) 1 1] [(g, .cells [.int .i64 0] 29)] fun v H' => v = .tuple #[rs0.val, .nilIface] ∧ H' = [(g, .cells [.int .i64 0] 29)] := by
  refine Spec_body Tryz.func104 rfl Tryz.ntmps104 rfl (fun w0 => ?_)
  repeat (first | refine stepA ?_ | intro _)
  refine callA ?_; refine ⟨_, _, of_ok g, _, cutA, ?_⟩
  rintro v H' ⟨rfl, rfl⟩
  simp only [List.cons_append, List.nil_append]
  repeat (first | refine stepA ?_ | intro _)
  (first | refine retA ?_ | refine retB ?_); exact ⟨_, ⟨rfl, rfl⟩, subA⟩
section
variable (σ : KS)
theorem kload_spec (hM : WfM σ.M) (wb : Nat) (uid gid pid : Int) (x : CallV) {t : GE TK} (ht : findG σ.T pid = some t) (a n : Nat) (hxa : x.a = a) (hxb : x.b = n)
    (hc : checkC σ.M t.v.sp.root (a : Int) (n : Int) false = 0) (h1 : a % 64 + n ≤ 64) (ha : a + n ≤ 16384) (he : (inM σ.M t.v.sp.root a n).2 = 0) :
    Spec Tryz.prog 57 [ptrB wb] (wkK wb σ.k t.ptr pid uid gid x :: kH σ) fun v H' => v = .tuple #[RS.val ⟨0, 0, 0, (inM σ.M t.v.sp.root a n).1, false⟩, .nilIface] ∧ H' = wkK wb σ.k t.ptr pid uid gid x :: kH σ := by
  refine Spec_body Tryz.func57 rfl Tryz.ntmps57 rfl (fun w0 => ?_)
  obtain ⟨ZT, pT, -, -⟩ := blkG_at tkB ht
  obtain ⟨tb, tw, tk, tv⟩ := t
  simp only at pT hc h1 ha ⊢
  have pZ : (kZ σ.L σ.R σ.T σ.E).Perm (tkB tb tv :: (prB σ.L ++ (blkG rowK σ.R ++ (ZT ++ tkXs σ.T σ.E)))) := by
    classical
    refine List.perm_iff_count.2 fun x => ?_
    have q1 := pT.count_eq x
    simp only [List.count_append, List.count_cons] at q1 ⊢
    rw [q1]
    ac_rfl
  have hin := in_spec σ.m hM tv.sp.root a n hc h1 ha
  rw [he] at hin
  obtain ⟨no, f, xa, xb, xc, xd, xs⟩ := x
  simp only at hxa hxb
  subst hxa hxb
  repeat (first | refine stepA ?_ | intro _)
  rename_i b2
  refine W_tail (T := kZ σ.L σ.R σ.T σ.E) pZ ?_
  simp only [List.cons_append, List.nil_append]
  refine W_any [wkK wb σ.k (ptrB tb) pid uid gid ⟨no, f, (a : Int), (n : Int), xc, xd, xs⟩, knB σ, tkB tb tv] [] rfl ?_
  refine AS_at 0 (by decide +kernel) ?_; refine takeA ?_
  refine AS_at 1 (by decide +kernel) ?_; refine takeA ?_
  refine AS_at 2 (by decide +kernel) ?_; refine takeA ?_
  refine AS_at 3 (by decide +kernel) ?_; refine takeA ?_
  refine AS_at 4 (by decide +kernel) ?_; refine takeA ?_
  refine AS_at 5 (by decide +kernel) ?_; refine takeA ?_
  refine AS_at 6 (by decide +kernel) ?_; refine takeA ?_
  refine AS_at 7 (by decide +kernel) ?_; refine takeA ?_
  refine AS_at 8 (by decide +kernel) ?_; refine takeA ?_
  refine AS_at 9 (by decide +kernel) ?_; refine takeA ?_
  refine AS_at 10 (by decide +kernel) ?_; refine takeA ?_
  refine AS_at 11 (by decide +kernel) ?_; refine takeA ?_
  refine AS_at 12 (by decide +kernel) ?_; refine takeA ?_
  refine AS_at 13 (by decide +kernel) ?_; refine takeA ?_
  refine AS_at 14 (by decide +kernel) ?_; refine takeA ?_
  refine AS_at 15 (by decide +kernel) ?_; refine takeA ?_
  refine AS_at 16 (by decide +kernel) ?_; refine takeA ?_
  refine AS_at 17 (by decide +kernel) ?_; refine takeA ?_
  refine AS_at 18 (by decide +kernel) ?_; refine takeA ?_
  refine AS_at 19 (by decide +kernel) ?_; refine takeA ?_
  refine AS_at 20 (by decide +kernel) ?_; refine takeA ?_
  refine AS_at 21 (by decide +kernel) ?_; refine takeA ?_
  refine AS_at 22 (by decide +kernel) ?_; refine takeA ?_
  refine AS_at 23 (by decide +kernel) ?_; refine takeA ?_
  refine AS_at 24 (by decide +kernel) ?_; refine takeA ?_
  refine AS_one 25 rfl (by decide +kernel) rfl ?_
  refine callA ?_; refine ⟨_, _, hin, _, cutA, ?_⟩
  rintro v H' ⟨rfl, rfl⟩
  simp only [List.cons_append, List.nil_append]
  refine L_nil ?_; refine ⟨rfl, (by first | exact KeepsH.brk (by decide +kernel) | exact KeepsH.sub subA | exact KeepsH.sub subT), ?_⟩
  refine AS_at 26 (by decide +kernel) ?_; refine takeA ?_
  refine AS_at 27 (by decide +kernel) ?_; refine takeA ?_
  refine AS_at 28 (by decide +kernel) ?_; refine takeA ?_
  refine AS_at 29 (by decide +kernel) ?_; refine takeA ?_
  refine AS_at 30 (by decide +kernel) ?_; refine takeA ?_
  refine AS_done (by decide +kernel) ?_
  repeat (first | refine stepA ?_ | intro _)
  rename_i g
  refine L_back (x := tkB tb tv) pZ ?_
  simp only [List.cons_append, List.nil_append]
  refine callA ?_; refine ⟨_, _, of_ok g, _, cutA, ?_⟩
  rintro v H' ⟨rfl, rfl⟩
  simp only [List.cons_append, List.nil_append]
  repeat (first | refine stepA ?_ | intro _)
  (first | refine retA ?_ | refine retB ?_)
  exact ⟨_, ⟨rfl, rfl⟩, subT⟩
theorem kstore_spec (hM : WfM σ.M) (wb : Nat) (uid gid pid : Int) (x : CallV) {t : GE TK} (ht : findG σ.T pid = some t) (a : Nat) (hxa : x.a = a)
    (hc : checkC σ.M t.v.sp.root (a : Int) (x.s.length : Int) true = 0) (h1 : a % 64 + x.s.length ≤ 64) (ha : a + x.s.length ≤ 16384) (he : (outM σ.M t.v.sp.root a x.s).1 = 0) :
    Spec Tryz.prog 58 [ptrB wb] (wkK wb σ.k t.ptr pid uid gid x :: kH σ) fun v H' => v = .tuple #[rs0.val, .nilIface] ∧ H' = wkK wb σ.k t.ptr pid uid gid x :: kH { σ with M := (outM σ.M t.v.sp.root a x.s).2 } := by
  refine Spec_body Tryz.func58 rfl Tryz.ntmps58 rfl (fun w0 => ?_)
  obtain ⟨ZT, pT, -, -⟩ := blkG_at tkB ht
  obtain ⟨tb, tw, tk, tv⟩ := t
  simp only at pT hc h1 ha ⊢
  have pZ : (kZ σ.L σ.R σ.T σ.E).Perm (tkB tb tv :: (prB σ.L ++ (blkG rowK σ.R ++ (ZT ++ tkXs σ.T σ.E)))) := by
    classical
    refine List.perm_iff_count.2 fun x => ?_
    have q1 := pT.count_eq x
    simp only [List.count_append, List.count_cons] at q1 ⊢
    rw [q1]
    ac_rfl
  obtain ⟨no, f, xa, xb, xc, xd, xs⟩ := x
  simp only at hxa hc h1 ha he ⊢
  subst hxa
  have hout := out_spec σ.m hM tv.sp.root a xs hc h1 ha
  rw [he] at hout
  repeat (first | refine stepA ?_ | intro _)
  rename_i b2
  refine W_tail (T := kZ σ.L σ.R σ.T σ.E) pZ ?_
  simp only [List.cons_append, List.nil_append]
  refine W_any [wkK wb σ.k (ptrB tb) pid uid gid ⟨no, f, (a : Int), xb, xc, xd, xs⟩, knB σ, tkB tb tv] [] rfl ?_
  refine AS_at 0 (by decide +kernel) ?_; refine takeA ?_
  refine AS_at 1 (by decide +kernel) ?_; refine takeA ?_
  refine AS_at 2 (by decide +kernel) ?_; refine takeA ?_
  refine AS_at 3 (by decide +kernel) ?_; refine takeA ?_
  refine AS_at 4 (by decide +kernel) ?_; refine takeA ?_
  refine AS_at 5 (by decide +kernel) ?_; refine takeA ?_
  refine AS_at 6 (by decide +kernel) ?_; refine takeA ?_
  refine AS_at 7 (by decide +kernel) ?_; refine takeA ?_
  refine AS_at 8 (by decide +kernel) ?_; refine takeA ?_
  refine AS_at 9 (by decide +kernel) ?_; refine takeA ?_
  refine AS_at 10 (by decide +kernel) ?_; refine takeA ?_
  refine AS_at 11 (by decide +kernel) ?_; refine takeA ?_
  refine AS_at 12 (by decide +kernel) ?_; refine takeA ?_
  refine AS_at 13 (by decide +kernel) ?_; refine takeA ?_
  refine AS_at 14 (by decide +kernel) ?_; refine takeA ?_
  refine AS_at 15 (by decide +kernel) ?_; refine takeA ?_
  refine AS_at 16 (by decide +kernel) ?_; refine takeA ?_
  refine AS_at 17 (by decide +kernel) ?_; refine takeA ?_
  refine AS_at 18 (by decide +kernel) ?_; refine takeA ?_
  refine AS_at 19 (by decide +kernel) ?_; refine takeA ?_
  refine AS_at 20 (by decide +kernel) ?_; refine takeA ?_
  refine AS_at 21 (by decide +kernel) ?_; refine takeA ?_
  refine AS_at 22 (by decide +kernel) ?_; refine takeA ?_
  refine AS_at 23 (by decide +kernel) ?_; refine takeA ?_
  refine AS_at 24 (by decide +kernel) ?_; refine takeA ?_
  refine AS_one 25 rfl (by decide +kernel) rfl ?_
  refine callA ?_; refine ⟨_, _, hout, _, cutA, ?_⟩
  rintro v H' ⟨rfl, rfl⟩
  simp only [List.cons_append, List.nil_append]
  refine L_nil ?_; refine ⟨rfl, (by first | exact KeepsH.brk (by decide +kernel) | exact KeepsH.sub subA | exact KeepsH.sub subT), ?_⟩
  refine AS_one 26 rfl (by decide +kernel) rfl ?_
  refine stepA ?_
  intro g
  refine L_nil ?_; refine ⟨rfl, (by first | exact KeepsH.brk (by decide +kernel) | exact KeepsH.sub subA | exact KeepsH.sub subT), ?_⟩
  refine AS_one 27 rfl (by decide +kernel) rfl ?_
  refine callA ?_; refine ⟨_, _, none_ok g, _, cutA, ?_⟩
  rintro v H' ⟨rfl, rfl⟩
  simp only [List.cons_append, List.nil_append]
  refine L_nil ?_; refine ⟨rfl, (by first | exact KeepsH.brk (by decide +kernel) | exact KeepsH.sub subA | exact KeepsH.sub subT), ?_⟩
  refine AS_at 28 (by decide +kernel) ?_; refine takeA ?_
  refine AS_at 29 (by decide +kernel) ?_; refine takeA ?_
  refine AS_one 30 rfl (by decide +kernel) rfl ?_
  refine stepA ?_
  refine L_nil ?_; refine ⟨rfl, (by first | exact KeepsH.brk (by decide +kernel) | exact KeepsH.sub subA | exact KeepsH.sub subT), ?_⟩
  refine AS_at 31 (by decide +kernel) ?_; refine takeA ?_
  refine AS_done (by decide +kernel) ?_
  repeat (first | refine stepA ?_ | intro _)
  (first | refine retA ?_ | refine retB ?_)
  refine ⟨_, ⟨rfl, rfl⟩, ?_⟩
  refine Sub.back (x := tkB tb tv) pZ ?_
  simp only [List.cons_append, List.nil_append]
  exact subT
end
end Go.Proofs.YtcpfmjlceoiofaaGreatDoor

/-
  The kernel: msgget.
-/
namespace Go.Proofs.YtcpfmjlceoiofaaGreatDoor
open Go.RowKit
attribute [local irreducible] W L QL PureOp thenQ blockQ retQ Spec IterOk YSpec roundQ scopeQ noGoQ
attribute [local irreducible] AS ASi IterOkC retD retE
set_option maxHeartbeats 12800000
set_option maxRecDepth 8000
theorem number_ok (g : Nat) (n : Int) : Spec Tryz.prog 110 [.int .i64 n, .slice (some ⟨g, 0, none⟩) 1 1] [(g, .cells [.int .i64 0] 29)] fun v H' => v = .tuple #[RS.val ⟨0, n, 0, [], false⟩, .nilIface] ∧ H' = [(g, .cells [.int .i64 0] 29)] := by
  refine Spec_body Tryz.func110 rfl Tryz.ntmps110 rfl (fun w0 => ?_)
  repeat (first | refine stepA ?_ | intro _)
  refine callA ?_; refine ⟨_, _, of_ok g, _, cutA, ?_⟩
  rintro v H' ⟨rfl, rfl⟩
  simp only [List.cons_append, List.nil_append]
  repeat (first | refine stepA ?_ | intro _)
  (first | refine retA ?_ | refine retB ?_); exact ⟨_, ⟨rfl, rfl⟩, subA⟩
section
variable (σ : KS)
theorem kmsgget_spec (wb s : Nat) (tp : Value) (pid : Int) (x : CallV) (ha : x.a = 0) (hb : x.b = 384) :
    Spec Tryz.prog 67 [ptrB wb] [wkK wb σ.k tp pid 0 0 x, knB σ, nmB σ.qu s, smE s] fun v H' => v = .tuple #[rs0.val, .nilIface] ∧ H' = [wkK wb σ.k tp pid 0 0 x, knB σ, nmB σ.qu s, smK s 0 th1 true smZ] := by
  obtain ⟨no, f, xa, xb, xc, xd, xs⟩ := x
  simp only at ha hb
  subst ha hb
  refine Spec_body Tryz.func67 rfl Tryz.ntmps67 rfl (fun w0 => ?_)
  repeat (first | refine stepA ?_ | intro _)
  refine W_any [wkK wb σ.k tp pid 0 0 ⟨no, f, 0, 384, xc, xd, xs⟩, knB σ] [] rfl ?_
  refine AS_at 0 (by decide +kernel) ?_; refine takeA ?_
  refine AS_at 1 (by decide +kernel) ?_; refine takeA ?_
  refine AS_at 2 (by decide +kernel) ?_; refine takeA ?_
  refine AS_at 3 (by decide +kernel) ?_; refine takeA ?_
  refine AS_at 4 (by decide +kernel) ?_; refine takeA ?_
  refine AS_at 5 (by decide +kernel) ?_; refine takeA ?_
  refine AS_at 6 (by decide +kernel) ?_; refine takeA ?_
  refine AS_at 7 (by decide +kernel) ?_; refine takeA ?_
  refine AS_at 8 (by decide +kernel) ?_; refine takeA ?_
  refine AS_at 9 (by decide +kernel) ?_; refine takeA ?_
  refine AS_at 10 (by decide +kernel) ?_; refine takeA ?_
  refine AS_at 11 (by decide +kernel) ?_; refine takeA ?_
  refine AS_at 12 (by decide +kernel) ?_; refine takeA ?_
  refine AS_at 13 (by decide +kernel) ?_; refine takeA ?_
  refine AS_at 14 (by decide +kernel) ?_; refine takeA ?_
  refine AS_at 15 (by decide +kernel) ?_; refine takeA ?_
  refine AS_at 16 (by decide +kernel) ?_; refine takeA ?_
  refine AS_at 17 (by decide +kernel) ?_; refine takeA ?_
  refine AS_at 18 (by decide +kernel) ?_; refine takeA ?_
  refine AS_at 19 (by decide +kernel) ?_; refine takeA ?_
  refine AS_at 20 (by decide +kernel) ?_; refine takeA ?_
  refine AS_one 21 rfl (by decide +kernel) rfl ?_
  refine callA ?_; refine ⟨_, _, ipGet_spec σ.qu s, _, cutA, ?_⟩
  rintro v H' ⟨rfl, rfl⟩
  simp only [List.cons_append, List.nil_append]
  refine L_nil ?_; refine ⟨rfl, (by first | exact KeepsH.brk (by decide +kernel) | exact KeepsH.sub subA | exact KeepsH.sub subT), ?_⟩
  refine AS_at 22 (by decide +kernel) ?_; refine takeA ?_
  refine AS_at 23 (by decide +kernel) ?_; refine takeA ?_
  refine AS_at 24 (by decide +kernel) ?_; refine takeA ?_
  refine AS_at 25 (by decide +kernel) ?_; refine takeA ?_
  refine AS_at 26 (by decide +kernel) ?_; refine takeA ?_
  refine AS_at 27 (by decide +kernel) ?_; refine takeA ?_
  refine AS_at 28 (by decide +kernel) ?_; refine takeA ?_
  refine AS_done (by decide +kernel) ?_
  repeat (first | refine stepA ?_ | intro _)
  rename_i g
  refine callA ?_; refine ⟨_, _, number_ok g 0, _, cutA, ?_⟩
  rintro v H' ⟨rfl, rfl⟩
  simp only [List.cons_append, List.nil_append]
  repeat (first | refine stepA ?_ | intro _)
  (first | refine retA ?_ | refine retB ?_); exact ⟨_, ⟨rfl, rfl⟩, subA⟩
end
end Go.Proofs.YtcpfmjlceoiofaaGreatDoor

/-
  The kernel: msgsnd into an empty queue.
-/
namespace Go.Proofs.YtcpfmjlceoiofaaGreatDoor
open Go.RowKit
attribute [local irreducible] W L QL PureOp thenQ blockQ retQ Spec IterOk YSpec roundQ scopeQ noGoQ
attribute [local irreducible] AS ASi IterOkC retD retE
set_option maxHeartbeats 12800000
set_option maxRecDepth 8000
abbrev wkD (b k : Nat) (tp : Value) (pid uid gid : Int) (x : CallV) (s : List UInt8) : Nat × Blk := (b, .cells [ptrB k, tp, .int .i64 pid, .int .i64 uid, .int .i64 gid, .int .i64 x.no, .int .i64 x.f, .int .i64 x.a, .int .i64 x.b, .int .i64 x.c, .int .i64 x.d, str x.s, str s] 81)
abbrev thQ (a : Option Addr) (n cap : Nat) : ThV := ⟨0, 0, 0, 0, 384, 0, a, n, cap⟩
theorem thQ_r (a : Option Addr) (n cap : Nat) : ThR (thQ a n cap) := ⟨by show inB 65535 0 = true; decide, by show inB 65535 0 = true; decide, by show inB 65535 0 = true; decide, by show inB 65535 0 = true; decide, by show (0 : Int) ≤ 384 ∧ (384 : Int) ≤ 511; decide⟩
theorem rightM_one (m : MsgV) (h1 : m.d.length ≤ 32) (h2 : 1 ≤ m.t) : RightM ([] ++ [m]) := by
  refine ⟨fun k s h => ?_, by simp, by simp [sumD]; omega, fun k x h => ?_⟩
  · cases k with
    | zero => simp at h; subst h; exact h1
    | succ k => simp at h
  · cases k with
    | zero => simp at h; subst h; exact h2
    | succ k => simp at h
section
variable (σ : KS)
theorem kmsgsnd_spec (wb sq : Nat) (tp : Value) (pid : Int) (x : CallV) (s : List UInt8) (a : Option Addr) (cap : Nat) (Hq : Hp) (how : oM a 0 cap [] Hq) (hxa : x.a = 0) (hd : 1 ≤ x.d) (hs : s.length ≤ 32) :
    Spec Tryz.prog 68 [ptrB wb] (wkD wb σ.k tp pid 0 0 x s :: knB σ :: nmB σ.qu sq :: smK sq 0 (thQ a 0 cap) true smZ :: Hq) fun v H' => v = .tuple #[rs0.val, .nilIface] ∧ ∃ a2 cap2 Hq2, oM a2 1 cap2 [⟨x.d, s⟩] Hq2 ∧ H' = wkD wb σ.k tp pid 0 0 x s :: knB σ :: nmB σ.qu sq :: smK sq 0 (thQ a2 1 cap2) true smZ :: Hq2 := by
  have hF := ipFind_spec σ.qu sq 0 smZ (by decide) (thQ a 0 cap) (thQ_r a 0 cap) 0 2 (by decide) (.inr rfl)
  obtain ⟨no, f, xa, xb, xc, xd, xs⟩ := x
  simp only at hxa hd
  subst hxa
  refine Spec_body Tryz.func68 rfl Tryz.ntmps68 rfl (fun w0 => ?_)
  repeat (first | refine stepA ?_ | intro _)
  refine W_any [wkD wb σ.k tp pid 0 0 ⟨no, f, 0, xb, xc, xd, xs⟩ s, knB σ] [] rfl ?_
  refine AS_at 0 (by decide +kernel) ?_; refine takeA ?_
  refine AS_at 1 (by decide +kernel) ?_; refine takeA ?_
  refine AS_at 2 (by decide +kernel) ?_; refine takeA ?_
  refine AS_at 3 (by decide +kernel) ?_; refine takeA ?_
  refine AS_at 4 (by decide +kernel) ?_; refine takeA ?_
  refine AS_at 5 (by decide +kernel) ?_; refine takeA ?_
  refine AS_at 6 (by decide +kernel) ?_; refine takeA ?_
  refine AS_at 7 (by decide +kernel) ?_; refine takeA ?_
  refine AS_at 8 (by decide +kernel) ?_; refine takeA ?_
  refine AS_at 9 (by decide +kernel) ?_; refine takeA ?_
  refine AS_at 10 (by decide +kernel) ?_; refine takeA ?_
  refine AS_at 11 (by decide +kernel) ?_; refine takeA ?_
  refine AS_at 12 (by decide +kernel) ?_; refine takeA ?_
  refine AS_at 13 (by decide +kernel) ?_; refine takeA ?_
  refine AS_at 14 (by decide +kernel) ?_; refine takeA ?_
  refine AS_at 15 (by decide +kernel) ?_; refine takeA ?_
  refine AS_one 16 rfl (by decide +kernel) rfl ?_
  refine callA ?_; refine ⟨_, _, hF, _, cutA, ?_⟩
  rintro v H' ⟨rfl, rfl⟩
  simp only [List.cons_append, List.nil_append]
  refine L_nil ?_; refine ⟨rfl, (by first | exact KeepsH.brk (by decide +kernel) | exact KeepsH.sub subA | exact KeepsH.sub subT), ?_⟩
  refine AS_at 17 (by decide +kernel) ?_; refine takeA ?_
  refine AS_at 18 (by decide +kernel) ?_; refine takeA ?_
  refine AS_at 19 (by decide +kernel) ?_; refine takeA ?_
  refine AS_at 20 (by decide +kernel) ?_; refine takeA ?_
  refine AS_at 21 (by decide +kernel) ?_; refine takeA ?_
  refine AS_done (by decide +kernel) ?_
  repeat (first | refine stepA ?_ | intro _)
  refine W_any [wkD wb σ.k tp pid 0 0 ⟨no, f, 0, xb, xc, xd, xs⟩ s, knB σ] [] rfl ?_
  refine AS_at 0 (by decide +kernel) ?_; refine takeA ?_
  refine AS_at 1 (by decide +kernel) ?_; refine takeA ?_
  refine AS_at 2 (by decide +kernel) ?_; refine takeA ?_
  refine AS_at 3 (by decide +kernel) ?_; refine takeA ?_
  refine AS_at 4 (by decide +kernel) ?_; refine takeA ?_
  refine AS_at 5 (by decide +kernel) ?_; refine takeA ?_
  refine AS_at 6 (by decide +kernel) ?_; refine takeA ?_
  refine AS_at 7 (by decide +kernel) ?_; refine takeA ?_
  refine AS_at 8 (by decide +kernel) ?_; refine takeA ?_
  refine AS_at 9 (by decide +kernel) ?_; refine takeA ?_
  refine AS_one 10 rfl (by decide +kernel) rfl ?_
  refine stepA ?_
  refine L_nil ?_; refine ⟨rfl, (by first | exact KeepsH.brk (by decide +kernel) | exact KeepsH.sub subA | exact KeepsH.sub subT), ?_⟩
  refine AS_one 11 rfl (by decide +kernel) rfl ?_
  refine callT ?_; refine ⟨_, _, send_spec a 0 cap [] ⟨xd, s⟩ Hq how (by decide) (by simp [ds_, sumD]) (by show s.length ≤ 100000; omega), _, cutT, ?_⟩
  rintro v H' (⟨h0, -, -⟩ | ⟨-, h0, -, -⟩ | ⟨-, -, g, cap', ys, rfl, ⟨hc1, hc2, hc3⟩, rfl⟩)
  · exact absurd ⟨rightM_nil, ⟨hs, by show (0 : Int) < xd; omega⟩⟩ h0
  · exact absurd (rightM_one ⟨xd, s⟩ hs hd) h0
  simp only [List.cons_append, List.nil_append]
  refine L_nil ?_; refine ⟨rfl, (by first | exact KeepsH.brk (by decide +kernel) | exact KeepsH.sub subA | exact KeepsH.sub subT), ?_⟩
  refine AS_at 12 (by decide +kernel) ?_; refine takeA ?_
  refine AS_at 13 (by decide +kernel) ?_; refine takeA ?_
  refine AS_at 14 (by decide +kernel) ?_; refine takeA ?_
  refine AS_at 15 (by decide +kernel) ?_; refine takeA ?_
  refine AS_at 16 (by decide +kernel) ?_; refine takeA ?_
  refine AS_done (by decide +kernel) ?_
  repeat (first | refine stepA ?_ | intro _)
  refine W_any [wkD wb σ.k tp pid 0 0 ⟨no, f, 0, xb, xc, xd, xs⟩ s, knB σ] [] rfl ?_
  refine AS_at 0 (by decide +kernel) ?_; refine takeA ?_
  refine AS_at 1 (by decide +kernel) ?_; refine takeA ?_
  refine AS_at 2 (by decide +kernel) ?_; refine takeA ?_
  refine AS_at 3 (by decide +kernel) ?_; refine takeA ?_
  refine AS_at 4 (by decide +kernel) ?_; refine takeA ?_
  refine AS_at 5 (by decide +kernel) ?_; refine takeA ?_
  refine AS_at 6 (by decide +kernel) ?_; refine takeA ?_
  refine AS_at 7 (by decide +kernel) ?_; refine takeA ?_
  refine AS_at 8 (by decide +kernel) ?_; refine takeA ?_
  refine AS_at 9 (by decide +kernel) ?_; refine takeA ?_
  refine AS_at 10 (by decide +kernel) ?_; refine takeA ?_
  refine AS_at 11 (by decide +kernel) ?_; refine takeA ?_
  refine AS_at 12 (by decide +kernel) ?_; refine takeA ?_
  refine AS_one 13 rfl (by decide +kernel) rfl ?_
  refine callA ?_; refine ⟨_, _, ipPut_spec σ.qu sq 0 smZ (by decide) (thQ a 0 cap) (some ⟨g, 0, none⟩) (0 + 1) cap', _, cutA, ?_⟩
  rintro v H' ⟨rfl, rfl⟩
  simp only [List.cons_append, List.nil_append]
  refine L_nil ?_; refine ⟨rfl, (by first | exact KeepsH.brk (by decide +kernel) | exact KeepsH.sub subA | exact KeepsH.sub subT), ?_⟩
  refine AS_one 14 rfl (by decide +kernel) rfl ?_
  refine stepA ?_
  intro g2
  refine L_nil ?_; refine ⟨rfl, (by first | exact KeepsH.brk (by decide +kernel) | exact KeepsH.sub subA | exact KeepsH.sub subT), ?_⟩
  refine AS_one 15 rfl (by decide +kernel) rfl ?_
  refine callA ?_; refine ⟨_, _, none_ok g2, _, cutA, ?_⟩
  rintro v H' ⟨rfl, rfl⟩
  simp only [List.cons_append, List.nil_append]
  refine L_nil ?_; refine ⟨rfl, (by first | exact KeepsH.brk (by decide +kernel) | exact KeepsH.sub subA | exact KeepsH.sub subT), ?_⟩
  refine AS_at 16 (by decide +kernel) ?_; refine takeA ?_
  refine AS_at 17 (by decide +kernel) ?_; refine takeA ?_
  refine AS_one 18 rfl (by decide +kernel) rfl ?_
  refine stepA ?_
  refine L_nil ?_; refine ⟨rfl, (by first | exact KeepsH.brk (by decide +kernel) | exact KeepsH.sub subA | exact KeepsH.sub subT), ?_⟩
  refine AS_at 19 (by decide +kernel) ?_; refine takeA ?_
  refine AS_done (by decide +kernel) ?_
  repeat (first | refine stepA ?_ | intro _)
  (first | refine retA ?_ | refine retB ?_)
  exact ⟨_, ⟨rfl, some ⟨g, 0, none⟩, cap', _, Own.blk (by simp [mcells]) hc1 hc2 hc3, rfl⟩, subA⟩
end
end Go.Proofs.YtcpfmjlceoiofaaGreatDoor

/-
  errors.As at this program's refusals: the library's own text walked (after the worked example of the guide).
-/
namespace Go.Proofs.YtcpfmjlceoiofaaGreatDoor
open Go.RowKit Go.Extern.Stop Go.Stop Go.Extern
/-! ### CLOSED FACTS ON THE MODEL's ENTRIES FOR internal/reflectlite, at this program's types: 118: *p.E · 120: **p.E · 73: error · 329: reflectlite's rtype · 1: how many package-level variables the dump has -/
theorem Tryz.valueOf27 (t : Addr) (w : World) : (ReflectliteValue.unpack (.iface 120 (.pointer (some t)))).run Tryz.prog w
    = .ok (.agg #[.pointer (some ⟨10, 120, none⟩), .pointer (some ⟨w.heap.size, 0, none⟩), .int .u64 150]) (w.alloc (.cells #[.pointer (some t)] 120)) := by kernel_rfl
theorem Tryz.type27 (a : Addr) (w : World) : (ReflectliteValue.methodAny (ReflectliteValue.valueError "reflectlite.Value.Type" 0) (fun t _ _ _ => ReflectliteType.toType t) #[.agg #[.pointer (some ⟨10, 120, none⟩), .pointer (some a), .int .u64 150]]).run Tryz.prog w
    = .ok (.iface 329 (.agg #[.pointer (some ⟨10, 120, none⟩)])) w := by kernel_rfl
theorem Tryz.methodKind (h : Value) (w : World) : (Go.method 763 329 (.agg #[h]) "Kind").run Tryz.prog w = .ok (477, h) w := by kernel_rfl
theorem Tryz.kind27 (w : World) : ((ReflectliteType.abiMethod fun t => (fun a : Nat => Value.int IntKind.u8 (a : Int)) <$> Rtype.kind t) #[.pointer (some ⟨10, 120, none⟩)]).run Tryz.prog w = .ok (.int .u8 22) w := by kernel_rfl
theorem Tryz.kind25 (w : World) : ((ReflectliteType.abiMethod fun t => (fun a : Nat => Value.int IntKind.u8 (a : Int)) <$> Rtype.kind t) #[.pointer (some ⟨10, 118, none⟩)]).run Tryz.prog w = .ok (.int .u8 22) w := by kernel_rfl
/-! ### THE ENTRIES THAT READ OR WRITE MEMORY: laws with a premise on the cell (after Derived/Lib/ReflectliteSlice.lean's manner: each unfolding a lemma of its own, by rfl) -/
theorem rlm (z : Sem Value) (f : TypeId → Addr → Nat → Nat → Sem Value) (v : Value) :
    ReflectliteValue.method z f #[v] = (do match ← ReflectliteValue.parts v with | none => z | some (t, a, fl) => f t a fl (fl % 32)) := rfl
theorem Tryz.parts27 (a : Addr) (w : World) : (ReflectliteValue.parts (.agg #[.pointer (some ⟨10, 120, none⟩), .pointer (some a), .int .u64 150])).run Tryz.prog w = .ok (some (120, a, 150)) w := by kernel_rfl
/-- (Value).IsNil at the Value of a **p.E that is not nil. -/
theorem Tryz.isNil27 (a p : Addr) (W : World) (ha : W.cell? a = some (.pointer (some p))) :
    (ReflectliteValue.method (ReflectliteValue.valueError "reflectlite.Value.IsNil" 0) ReflectliteValue.isNil #[.agg #[.pointer (some ⟨10, 120, none⟩), .pointer (some a), .int .u64 150]]).run Tryz.prog W = .ok (.bool false) W := by
  rw [rlm]
  simp only [Sem.run_bind, Tryz.parts27, Result.andThen]
  simp [ReflectliteValue.isNil, loadVar, isAgg, underlying, Tryz.underlying120, ha, Result.andThen]
theorem Tryz.methodElem (h : Value) (w : World) : (Go.method 763 329 (.agg #[h]) "Elem").run Tryz.prog w = .ok (493, .agg #[h]) w := by kernel_rfl
theorem Tryz.methodImplements (h : Value) (w : World) : (Go.method 763 329 (.agg #[h]) "Implements").run Tryz.prog w = .ok (494, .agg #[h]) w := by kernel_rfl
theorem Tryz.methodAssignableTo (h : Value) (w : World) : (Go.method 763 329 (.agg #[h]) "AssignableTo").run Tryz.prog w = .ok (491, .agg #[h]) w := by kernel_rfl
theorem Tryz.elem27 (w : World) : (ReflectliteType.method ReflectliteType.elem #[.agg #[.pointer (some ⟨10, 120, none⟩)]]).run Tryz.prog w = .ok (.iface 329 (.agg #[.pointer (some ⟨10, 118, none⟩)])) w := by kernel_rfl
theorem Tryz.implements25 (w : World) : (ReflectliteType.relation "Implements" ReflectliteType.implements_ #[.agg #[.pointer (some ⟨10, 118, none⟩)], .iface 329 (.agg #[.pointer (some ⟨10, 73, none⟩)])]).run Tryz.prog w = .ok (.bool true) w := by kernel_rfl
theorem Tryz.typeOf25 (v : Value) (w : World) : (ReflectliteType.typeOf #[.iface 118 v]).run Tryz.prog w = .ok (.iface 329 (.agg #[.pointer (some ⟨10, 118, none⟩)])) w := by kernel_rfl
theorem Tryz.assignable25 (w : World) : (ReflectliteType.relation "AssignableTo" ReflectliteType.assignableTo #[.agg #[.pointer (some ⟨10, 118, none⟩)], .iface 329 (.agg #[.pointer (some ⟨10, 118, none⟩)])]).run Tryz.prog w = .ok (.bool true) w := by kernel_rfl
theorem Tryz.valueOf25 (e : Addr) (w : World) : (ReflectliteValue.unpack (.iface 118 (.pointer (some e)))).run Tryz.prog w
    = .ok (.agg #[.pointer (some ⟨10, 118, none⟩), .pointer (some ⟨w.heap.size, 0, none⟩), .int .u64 150]) (w.alloc (.cells #[.pointer (some e)] 118)) := by kernel_rfl
theorem Tryz.elemOf27 (w : World) : (Rtype.elem? 120).run Tryz.prog w = .ok (some 118) w := by kernel_rfl
theorem Tryz.mk25 (p : Addr) (w : World) : (ReflectliteValue.mk 118 p ReflectliteValue.flagAddr).run Tryz.prog w = .ok (.agg #[.pointer (some ⟨10, 118, none⟩), .pointer (some p), .int .u64 406]) w := by kernel_rfl
/-- (Value).Elem at the Value of a **p.E that is not nil: the Value of the *p.E variable that it points to, addressable. -/
theorem Tryz.elemV27 (a p : Addr) (W : World) (ha : W.cell? a = some (.pointer (some p))) :
    (ReflectliteValue.method (ReflectliteValue.valueError "reflectlite.Value.Elem" 0) ReflectliteValue.elem #[.agg #[.pointer (some ⟨10, 120, none⟩), .pointer (some a), .int .u64 150]]).run Tryz.prog W
      = .ok (.agg #[.pointer (some ⟨10, 118, none⟩), .pointer (some p), .int .u64 406]) W := by
  rw [rlm]
  simp only [Sem.run_bind, Tryz.parts27, Result.andThen]
  simp [ReflectliteValue.elem, loadVar, isAgg, underlying, Tryz.underlying120, ha, Result.andThen, Tryz.elemOf27, Tryz.mk25]
theorem rls (v x : Value) : ReflectliteValue.set #[v, x] = (do
    let (some (dst, a, fl), some (src, b, _)) := (← ReflectliteValue.parts v, ← ReflectliteValue.parts x)
      | unsupported (.noEntry "extern/(internal/reflectlite.Value).Set.zeroValue")
    if fl / ReflectliteValue.flagAddr % 2 == 0 then unsupported (.noEntry "extern/(internal/reflectlite.Value).Set.unaddressable")
    let val ← loadVar src b
    if ← Rtype.directlyAssignable dst src then storeVar dst a val
    else if ← Rtype.implements dst src then
      if (← Rtype.kind src) == 20 then
        match val with
        | .nilIface => unsupported (.noEntry "extern/reflectlite: a nil value of one interface type handed on as a value of another")
        | _ => storeVar dst a val
      else storeVar dst a (.iface src val)
    else panicString ("reflectlite.Set: value of type " ++ (← Rtype.spelt src) ++ " is not assignable to type " ++ (← Rtype.spelt dst))
    pure (.tuple #[])) := rfl
theorem Tryz.parts25a (a : Addr) (w : World) : (ReflectliteValue.parts (.agg #[.pointer (some ⟨10, 118, none⟩), .pointer (some a), .int .u64 406])).run Tryz.prog w = .ok (some (118, a, 406)) w := by kernel_rfl
theorem Tryz.parts25 (a : Addr) (w : World) : (ReflectliteValue.parts (.agg #[.pointer (some ⟨10, 118, none⟩), .pointer (some a), .int .u64 150])).run Tryz.prog w = .ok (some (118, a, 150)) w := by kernel_rfl
theorem Tryz.direct25 (w : World) : (Rtype.directlyAssignable 118 118).run Tryz.prog w = .ok true w := by kernel_rfl
/-- (Value).Set: the *p.E variable at 'ta' gets what the Value's own variable 'b' holds. -/
theorem Tryz.set25 (ta b e : Addr) (old : Value) (W : World) (hb : W.cell? b = some (.pointer (some e))) (ht : W.cell? ta = some old) (hf : W.frozen? ta = false) :
    (ReflectliteValue.set #[.agg #[.pointer (some ⟨10, 118, none⟩), .pointer (some ta), .int .u64 406], .agg #[.pointer (some ⟨10, 118, none⟩), .pointer (some b), .int .u64 150]]).run Tryz.prog W
      = .ok (.tuple #[]) (W.setCell ta (.pointer (some e))) := by
  rw [rls]
  simp only [Sem.run_bind, Tryz.parts25a, Tryz.parts25, Result.andThen]
  simp [ReflectliteValue.flagAddr, loadVar, isAgg, underlying, Tryz.underlying118, hb, Result.andThen, Tryz.direct25, storeVar, Value.cells, storeCells, Addr.add]
  rw [run_store Tryz.prog W ta _ _ (by rfl)]
  simp [ht, hf]
set_option maxHeartbeats 4000000 in
theorem as_hit (e t : Addr) (old : Value) (w : World) (hg : w.cell? ⟨0, 0, none⟩ = some (.iface 329 (.agg #[.pointer (some ⟨10, 73, none⟩)]))) (ht0 : w.cell? t = some old) (hf0 : w.frozen? t = false) :
    Calls Tryz.prog 46 #[.iface 118 (.pointer (some e)), .iface 120 (.pointer (some t))] w fun ev w' => ev = .returned (.bool true) ∧ w' = ((((w.alloc (.cells #[.pointer (some t)] 120)).alloc (.cells #[.pointer (some ⟨10, 120, none⟩), .pointer (some ⟨w.heap.size, 0, none⟩), .int .u64 150] 198)).alloc (.cells #[.pointer (some ⟨10, 120, none⟩), .pointer (some ⟨w.heap.size, 0, none⟩), .int .u64 150] 198)).alloc (.cells #[.pointer (some e)] 118)).setCell t (.pointer (some e)) := by
  have h6 := @run_callFunc_extern Tryz.prog 92 _ (fun args => ReflectliteValue.unpack (args.getD 0 (.tuple #[]))) Tryz.func92 (by kernel_rfl) (by kernel_rfl) (by kernel_rfl) (by kernel_rfl)
  have h7 := @run_callFunc_extern Tryz.prog 93 _ (ReflectliteValue.methodAny (ReflectliteValue.valueError "reflectlite.Value.Type" 0) (fun t _ _ _ => ReflectliteType.toType t)) Tryz.func93 (by kernel_rfl) (by kernel_rfl) (by kernel_rfl) (by kernel_rfl)
  have h8 := @run_callFunc_extern Tryz.prog 94 _ (ReflectliteValue.method (ReflectliteValue.valueError "reflectlite.Value.IsNil" 0) ReflectliteValue.isNil) Tryz.func94 (by kernel_rfl) (by kernel_rfl) (by kernel_rfl) (by kernel_rfl)
  have h27 := @run_callFunc_extern Tryz.prog 477 _ (ReflectliteType.abiMethod fun t => do pure (.int .u8 (← Rtype.kind t))) Tryz.func477 (by kernel_rfl) (by kernel_rfl) (by kernel_rfl) (by kernel_rfl)
  have h37 := @run_callFunc_extern Tryz.prog 493 _ (ReflectliteType.method ReflectliteType.elem) Tryz.func493 (by kernel_rfl) (by kernel_rfl) (by kernel_rfl) (by kernel_rfl)
  have h38 := @run_callFunc_extern Tryz.prog 494 _ (ReflectliteType.relation "Implements" ReflectliteType.implements_) Tryz.func494 (by kernel_rfl) (by kernel_rfl) (by kernel_rfl) (by kernel_rfl)
  have h10 := @run_callFunc_extern Tryz.prog 182 _ ReflectliteType.typeOf Tryz.func182 (by kernel_rfl) (by kernel_rfl) (by kernel_rfl) (by kernel_rfl)
  have h35 := @run_callFunc_extern Tryz.prog 491 _ (ReflectliteType.relation "AssignableTo" ReflectliteType.assignableTo) Tryz.func491 (by kernel_rfl) (by kernel_rfl) (by kernel_rfl) (by kernel_rfl)
  have h11 := @run_callFunc_extern Tryz.prog 183 _ (ReflectliteValue.method (ReflectliteValue.valueError "reflectlite.Value.Elem" 0) ReflectliteValue.elem) Tryz.func183 (by kernel_rfl) (by kernel_rfl) (by kernel_rfl) (by kernel_rfl)
  have h12 := @run_callFunc_extern Tryz.prog 184 _ ReflectliteValue.set Tryz.func184 (by kernel_rfl) (by kernel_rfl) (by kernel_rfl) (by kernel_rfl)
  have tO := Tryz.typeOf25
  have mA := Tryz.methodAssignableTo
  have a25 := Tryz.assignable25
  have v25 := Tryz.valueOf25
  have f6 := Tryz.valueOf27
  have f7 := Tryz.type27
  have mK := Tryz.methodKind
  have mE := Tryz.methodElem
  have mI := Tryz.methodImplements
  have k27 := Tryz.kind27
  have k25 := Tryz.kind25
  have e27 := Tryz.elem27
  have i25 := Tryz.implements25
  have n8 := Tryz.isNil27 ⟨w.heap.size, 0, none⟩ t ((w.alloc (.cells #[.pointer (some t)] 120)).alloc (.cells #[.pointer (some ⟨10, 120, none⟩), .pointer (some ⟨w.heap.size, 0, none⟩), .int .u64 150] 198)) (by simp)
  have hlt : 0 < w.heap.size := by
    rcases Nat.eq_zero_or_pos w.heap.size with h0 | h
    · simp [World.cell?, h0] at hg
    · exact h
  have hg2 : ((w.alloc (.cells #[.pointer (some t)] 120)).alloc (.cells #[.pointer (some ⟨10, 120, none⟩), .pointer (some ⟨w.heap.size, 0, none⟩), .int .u64 150] 198)).cell? ⟨0, 0, none⟩ = some (.iface 329 (.agg #[.pointer (some ⟨10, 73, none⟩)])) := by
    rw [World.cell?_alloc_lt _ _ ⟨0, 0, none⟩ (by simp), World.cell?_alloc_lt _ _ ⟨0, 0, none⟩ hlt]; exact hg
  have htl : t.block < w.heap.size := by
    rcases Nat.lt_or_ge t.block w.heap.size with h | h
    · exact h
    · simp [World.cell?, Array.getElem?_eq_none h] at ht0
  have el := Tryz.elemV27 ⟨w.heap.size, 0, none⟩ t (((w.alloc (.cells #[.pointer (some t)] 120)).alloc (.cells #[.pointer (some ⟨10, 120, none⟩), .pointer (some ⟨w.heap.size, 0, none⟩), .int .u64 150] 198)).alloc (.cells #[.pointer (some ⟨10, 120, none⟩), .pointer (some ⟨w.heap.size, 0, none⟩), .int .u64 150] 198)) (by rw [World.cell?_alloc_lt _ _ ⟨w.heap.size, 0, none⟩ (by simp; omega)]; simp)
  have st := Tryz.set25 t ⟨w.heap.size + 1 + 1 + 1, 0, none⟩ e old ((((w.alloc (.cells #[.pointer (some t)] 120)).alloc (.cells #[.pointer (some ⟨10, 120, none⟩), .pointer (some ⟨w.heap.size, 0, none⟩), .int .u64 150] 198)).alloc (.cells #[.pointer (some ⟨10, 120, none⟩), .pointer (some ⟨w.heap.size, 0, none⟩), .int .u64 150] 198)).alloc (.cells #[.pointer (some e)] 118))
    (by rw [World.cell?_alloc_at _ _ _ _ (by simp)]; rfl)
    (by rw [World.cell?_alloc_lt _ _ t (by simp; omega), World.cell?_alloc_lt _ _ t (by simp; omega), World.cell?_alloc_lt _ _ t (by simp; omega), World.cell?_alloc_lt _ _ t htl]; exact ht0)
    (by rw [World.frozen?_alloc_old _ _ t (by simp; omega), World.frozen?_alloc_old _ _ t (by simp; omega), World.frozen?_alloc_old _ _ t (by simp; omega), World.frozen?_alloc_old _ _ t (Nat.ne_of_lt htl)]; exact hf0)
  go_enter Tryz.func46, Tryz.ntmps46
  go_wp2
  refine wp_loop_rounds 1 ?_
  rw [rounds_succ]
  go_wp2
  go_ret
  exact ⟨rfl, rfl⟩
end Go.Proofs.YtcpfmjlceoiofaaGreatDoor

/-
  The kernel: refusals: errors.As, result, wait where no child is.
-/
namespace Go.Proofs.YtcpfmjlceoiofaaGreatDoor
open Go.RowKit
attribute [local irreducible] W L QL PureOp thenQ blockQ retQ Spec IterOk YSpec roundQ scopeQ noGoQ
attribute [local irreducible] AS ASi IterOkC retD retE
set_option maxHeartbeats 12800000
set_option maxRecDepth 8000
/-- the variable that errors.As reads -/
abbrev gvB (gx : Nat × Nat × Nat) : Nat × Blk := (0, .oth (.cells #[.iface 329 (.agg #[.pointer (some ⟨10, 73, none⟩)])] gx.1 gx.2))
abbrev rfB (e : Nat) (why : Int) (w : Bool) : Nat × Blk := (e, .cells [.int .i64 why, .bool w] 122)
theorem alloc_old (w : World) (o : Obj) {k : Nat} (h : k < w.heap.size) : (w.alloc o).heap[k]? = w.heap[k]? := by
  show (w.heap.push o)[k]? = _
  simp [Array.getElem?_push, Nat.ne_of_lt h]
theorem alloc_size (w : World) (o : Obj) : (w.alloc o).heap.size = w.heap.size + 1 := by
  show (w.heap.push o).size = _
  simp
theorem setCell_old (w : World) (a : Addr) (v : Value) {k : Nat} (h : k ≠ a.block) : (w.setCell a v).heap[k]? = w.heap[k]? := by
  simp [World.setCell, Array.getElem?_modify, Ne.symm h]
theorem setCell_at {w : World} {b : Nat} {old v : Value} {T : TypeId} (h : w.heap[b]? = some (.cells #[old] T)) : (w.setCell ⟨b, 0, none⟩ v).heap[b]? = some (.cells #[v] T) := by
  simp [World.setCell, Array.getElem?_modify, h]
theorem setCell_size (w : World) (a : Addr) (v : Value) : (w.setCell a v).heap.size = w.heap.size := by simp [World.setCell]
theorem as_hit_spec (gx : Nat × Nat × Nat) (e tb : Nat) (old : Value) : Spec Tryz.prog 46 [.iface 118 (ptrB e), .iface 120 (ptrB tb)] [gvB gx, (tb, .cells [old] 118)] fun v H' => v = .bool true ∧ H' = [gvB gx, (tb, .cells [ptrB e] 118)] := by
  unfold Spec
  intro w hw
  have r0 := hw.rd 0 _ (List.mem_cons_self)
  have rt := hw.rd tb _ (List.mem_cons_of_mem _ List.mem_cons_self)
  simp only [Blk.obj] at r0 rt
  have hnd := hw.nd
  have hne : 0 ≠ tb := by
    intro h
    subst h
    simp [keys] at hnd
  have hl0 : 0 < w.heap.size := (Array.getElem?_eq_some_iff.1 r0).1
  have hlt : tb < w.heap.size := (Array.getElem?_eq_some_iff.1 rt).1
  refine (as_hit ⟨e, 0, none⟩ ⟨tb, 0, none⟩ old w (by simp [World.cell?, r0]) (by simp [World.cell?, rt]) (by simp [World.frozen?, rt])).mono ?_
  rintro ev w' ⟨rfl, rfl⟩
  refine ⟨_, _, rfl, ⟨rfl, rfl⟩, ⟨by simpa [keys] using hnd, ?_⟩, ⟨rfl, rfl, rfl, ?_, ?_⟩, fun b h => .inl (by simpa [keys] using h)⟩
  · intro b k hm
    rcases List.mem_cons.1 hm with h | h
    · obtain ⟨rfl, rfl⟩ := Prod.mk.inj h
      simp only [Blk.obj]
      rw [setCell_old _ _ _ hne, alloc_old _ _ (by simp only [alloc_size]; omega), alloc_old _ _ (by simp only [alloc_size]; omega), alloc_old _ _ (by simp only [alloc_size]; omega), alloc_old _ _ hl0]
      exact r0
    · obtain ⟨rfl, rfl⟩ := Prod.mk.inj (List.mem_singleton.1 h)
      simp only [Blk.obj]
      refine setCell_at (old := old) ?_
      rw [alloc_old _ _ (by simp only [alloc_size]; omega), alloc_old _ _ (by simp only [alloc_size]; omega), alloc_old _ _ (by simp only [alloc_size]; omega), alloc_old _ _ hlt]
      exact rt
  · simp only [setCell_size, alloc_size]
    omega
  · intro k hk hn
    have hk2 : k ≠ tb := fun h => hn (by simp [keys, h])
    rw [setCell_old _ _ _ hk2, alloc_old _ _ (by simp only [alloc_size]; omega), alloc_old _ _ (by simp only [alloc_size]; omega), alloc_old _ _ (by simp only [alloc_size]; omega), alloc_old _ _ hk]
theorem result_hit (gx : Nat × Nat × Nat) (x : RS) (e : Nat) (why : Int) (w : Bool) : Spec Tryz.prog 24 [x.val, .iface 118 (ptrB e)] [gvB gx, rfB e why w] fun v H' => v = RS.val ⟨why, 0, 0, [], w⟩ ∧ H' = [gvB gx] := by
  refine Spec_body Tryz.func24 rfl Tryz.ntmps24 rfl (fun w0 => ?_)
  repeat (first | refine stepA ?_ | intro _)
  rename_i b2 b4 b5
  (first | (apply L_P; (· exact rfl); (· exact rfl)) | (apply QL_P; (· exact rfl))); (· (apply P_mkIfP; (· exact evA)))
  repeat (first | refine stepA ?_ | intro _)
  refine callA ?_; refine ⟨_, _, as_hit_spec gx e b5 (.pointer none), _, cutA, ?_⟩
  rintro v H' ⟨rfl, rfl⟩
  simp only [List.cons_append, List.nil_append]
  repeat (first | refine stepA ?_ | intro _)
  refine W_any [(b5, .cells [ptrB e] 118), rfB e why w] [9] rfl ?_
  refine AS_at 0 (by decide +kernel) ?_; refine takeA ?_
  refine AS_at 1 (by decide +kernel) ?_; refine takeA ?_
  refine AS_at 2 (by decide +kernel) ?_; refine takeA ?_
  refine AS_at 3 (by decide +kernel) ?_; refine takeA ?_
  refine AS_at 4 (by decide +kernel) ?_; refine takeA ?_
  refine AS_at 5 (by decide +kernel) ?_; refine takeA ?_
  refine AS_at 6 (by decide +kernel) ?_; refine takeA ?_
  refine AS_at 7 (by decide +kernel) ?_; refine takeA ?_
  refine AS_at 8 (by decide +kernel) ?_; refine takeA ?_
  refine AS_one 9 rfl (by decide +kernel) rfl ?_
  refine stepA ?_
  refine L_nil ?_; refine ⟨rfl, (by first | exact KeepsH.brk (by decide +kernel) | exact KeepsH.sub subA | exact KeepsH.sub subT), ?_⟩
  refine AS_done (by decide +kernel) ?_
  repeat (first | refine stepA ?_ | intro _)
  (first | refine retA ?_ | refine retB ?_); exact ⟨_, ⟨rfl, rfl⟩, subA⟩
section
variable (σ : KS)
end
end Go.Proofs.YtcpfmjlceoiofaaGreatDoor

/-
  The kernel: mayWait.
-/
namespace Go.Proofs.YtcpfmjlceoiofaaGreatDoor
open Go.RowKit
attribute [local irreducible] W L QL PureOp thenQ blockQ retQ Spec IterOk YSpec roundQ scopeQ noGoQ
attribute [local irreducible] AS ASi IterOkC retD retE
set_option maxHeartbeats 12800000
set_option maxRecDepth 8000
theorem kmaywait_spec (wb k : Nat) (tp : Value) (pid uid gid : Int) (x : CallV) (s : List UInt8) (hf : x.f = 0) : Spec Tryz.prog 147 [ptrB wb] [wkD wb k tp pid uid gid x s] fun v H' => ∃ b, v = .tuple #[rs0.val, .iface 118 (ptrB b)] ∧ H' = [wkD wb k tp pid uid gid x s, rfB b 0 true] := by
  obtain ⟨no, f, xa, xb, xc, xd, xs⟩ := x
  simp only at hf
  subst hf
  refine Spec_body Tryz.func147 rfl Tryz.ntmps147 rfl (fun w0 => ?_)
  repeat (first | refine stepA ?_ | intro _)
  (first | (apply L_P; (· exact rfl); (· exact rfl)) | (apply QL_P; (· exact rfl)))
  · exact P_and (z := 0) (ev_of rfl rfl) (ev_of rfl rfl) (show bits .and .i64 0 1 = 0 from by decide)
  repeat (first | refine stepA ?_ | intro _)
  refine callA ?_; refine ⟨_, _, kwait_spec, _, cutA, ?_⟩
  rintro v H' ⟨b, rfl, rfl⟩
  simp only [List.cons_append, List.nil_append]
  repeat (first | refine stepA ?_ | intro _)
  (first | refine retA ?_ | refine retB ?_)
  exact ⟨_, ⟨b, rfl, rfl⟩, subA⟩
end Go.Proofs.YtcpfmjlceoiofaaGreatDoor
