/-
  Joined texts; each begins with its own sentence.
-/
import Derived.Test.YtcpfmjlceoiofaaGreatDoorN38
import Derived.Test.YtcpfmjlceoiofaaGreatDoorN32
import Derived.Test.YtcpfmjlceoiofaaGreatDoorN34
import Derived.Test.YtcpfmjlceoiofaaGreatDoorN35
set_option linter.unusedSimpArgs false
set_option linter.unusedVariables false
set_option linter.unusedSectionVars false
/-
  The kernel: reads of a message that is sent.
-/
namespace Go.Proofs.YtcpfmjlceoiofaaGreatDoor
open Go.RowKit
attribute [local irreducible] W L QL PureOp thenQ blockQ retQ Spec IterOk YSpec roundQ scopeQ noGoQ
attribute [local irreducible] AS ASi IterOkC retD retE
set_option maxHeartbeats 12800000
set_option maxRecDepth 8000
section
variable (σ : KS)
theorem reads_snd (hM : WfM σ.M) (wb : Nat) (uid gid pid : Int) (x : CallV) {t : GE TK} (ht : findG σ.T pid = some t) (a n : Nat) (hno : x.no = 19) (hxa : x.b = a) (hxb : x.c = n) (hn : n ≤ 32) (hd : 1 ≤ x.d)
    (hc : checkC σ.M t.v.sp.root (a : Int) (n : Int) false = 0) (h1 : a % 64 + n ≤ 64) (ha : a + n ≤ 16384) (he : (inM σ.M t.v.sp.root a n).2 = 0) :
    Spec Tryz.prog 25 [ptrB wb] (wkK wb σ.k t.ptr pid uid gid x :: kH σ) fun v H' => v = .nilIface ∧ H' = wkD wb σ.k t.ptr pid uid gid x (inM σ.M t.v.sp.root a n).1 :: kH σ := by
  refine Spec_body Tryz.func25 rfl Tryz.ntmps25 rfl (fun w0 => ?_)
  obtain ⟨ZT, pT, -, -⟩ := blkG_at tkB ht
  obtain ⟨tb, tw, tk, tv⟩ := t
  simp only at pT hc h1 ha ⊢
  have pZ : (kZ σ.L σ.R σ.T σ.E).Perm (tkB tb tv :: (prB σ.L ++ (blkG rowK σ.R ++ (ZT ++ tkXs σ.T σ.E)))) := by
    classical
    refine List.perm_iff_count.2 fun x => ?_
    have q1 := pT.count_eq x
    simp only [List.count_append, List.count_cons] at q1 ⊢
    rw [q1]
    ac_rfl
  have hin := in_spec σ.m hM tv.sp.root a n hc h1 ha
  rw [he] at hin
  rw [← hxa, ← hxb] at hin
  repeat (first | refine stepA ?_ | intro _)
  refine W_tail (T := kZ σ.L σ.R σ.T σ.E) pZ ?_
  simp only [List.cons_append, List.nil_append]
  refine W_any [wkK wb σ.k (ptrB tb) pid uid gid x, knB σ, tkB tb tv] [] rfl ?_
  refine AS_at 0 (by decide +kernel) ?_; refine takeA ?_
  refine AS_at 1 (by decide +kernel) ?_; refine takeA ?_
  refine AS_at 2 (by decide +kernel) ?_; refine takeA ?_
  refine AS_at 3 (by decide +kernel) ?_; refine takeA ?_
  refine AS_at 4 (by decide +kernel) ?_; refine takeA ?_
  refine AS_at 5 (by decide +kernel) ?_; refine takeA ?_
  refine AS_at 6 (by decide +kernel) ?_; refine takeA ?_
  refine AS_at 7 (by decide +kernel) ?_; refine takeA ?_
  refine AS_at 8 (by decide +kernel) ?_; refine takeA ?_
  refine AS_at 9 (by decide +kernel) ?_; refine takeA ?_
  refine AS_at 10 (by decide +kernel) ?_; refine takeA ?_
  refine AS_at 11 (by decide +kernel) ?_; refine takeA ?_
  refine AS_at 12 (by decide +kernel) ?_; refine takeA ?_
  refine AS_at 13 (by decide +kernel) ?_; refine takeA ?_
  refine AS_at 14 (by decide +kernel) ?_; refine takeA ?_
  refine AS_at 15 (by decide +kernel) ?_; refine takeA ?_
  refine AS_at 16 (by decide +kernel) ?_; refine takeA ?_
  refine AS_at 17 (by decide +kernel) ?_; refine takeA ?_
  refine AS_at 18 (by decide +kernel) ?_; refine takeA ?_
  refine AS_at 19 (by decide +kernel) ?_; refine takeA ?_
  refine AS_at 20 (by decide +kernel) ?_; refine takeA ?_
  refine AS_one 21 rfl (by decide +kernel) rfl ?_
  refine callA ?_; refine ⟨_, _, hin, _, cutA, ?_⟩
  rintro v H' ⟨rfl, rfl⟩
  simp only [List.cons_append, List.nil_append]
  refine L_nil ?_; refine ⟨rfl, (by first | exact KeepsH.brk (by decide +kernel) | exact KeepsH.sub subA | exact KeepsH.sub subT), ?_⟩
  refine AS_at 22 (by decide +kernel) ?_; refine takeA ?_
  refine AS_at 23 (by decide +kernel) ?_; refine takeA ?_
  refine AS_at 24 (by decide +kernel) ?_; refine takeA ?_
  refine AS_at 25 (by decide +kernel) ?_; refine takeA ?_
  refine AS_at 26 (by decide +kernel) ?_; refine takeA ?_
  refine AS_done (by decide +kernel) ?_
  repeat (first | refine stepA ?_ | intro _)
  rename_i g
  refine L_back (x := tkB tb tv) pZ ?_
  simp only [List.cons_append, List.nil_append]
  refine callA ?_; refine ⟨_, _, of_ok g, _, cutA, ?_⟩
  rintro v H' ⟨rfl, rfl⟩
  simp only [List.cons_append, List.nil_append]
  repeat (first | refine stepA ?_ | intro _)
  (first | refine retA ?_ | refine retB ?_)
  exact ⟨_, ⟨rfl, rfl⟩, subT⟩
end
end Go.Proofs.YtcpfmjlceoiofaaGreatDoor

/-
  The kernel: more of the deeds.
-/
namespace Go.Proofs.YtcpfmjlceoiofaaGreatDoor
open Go.RowKit
open Go.RowKit
attribute [local irreducible] W L QL PureOp thenQ blockQ retQ Spec IterOk YSpec roundQ scopeQ noGoQ
attribute [local irreducible] AS ASi IterOkC retD retE
set_option maxHeartbeats 12800000
set_option maxRecDepth 8000
theorem deeds_mail (wb : Nat) : Spec Tryz.prog 26 [ptrB wb] [] fun v H' => ∃ mb Ls c, v = .map (some mb) ∧ H' = [(mb, mapB Ls c)] ∧
    getL Ls 1 = some (deedV 50 wb) ∧ getL Ls 8 = some (deedV 57 wb) ∧ getL Ls 9 = some (deedV 58 wb) ∧
    getL Ls 18 = some (deedV 67 wb) ∧ getL Ls 19 = some (deedV 68 wb) ∧ getL Ls 20 = some (deedV 69 wb) := by
  refine Spec_body Tryz.func26 rfl Tryz.ntmps26 rfl (fun w0 => ?_)
  repeat (first | refine stepA ?_ | intro _)
  apply L_makeMap
  · exact rfl
  intro mb
  change L _ _ _ _ _ _ ((mb, dB [] wb) :: [])
  repeat (first | refine stepA ?_ | refine L_insD ?_)
  (first | refine retA ?_ | refine retB ?_)
  exact ⟨_, ⟨mb, _, _, rfl, rfl, by kernel_rfl, by kernel_rfl, by kernel_rfl, by kernel_rfl, by kernel_rfl, by kernel_rfl⟩, subA⟩
end Go.Proofs.YtcpfmjlceoiofaaGreatDoor

/-
  The kernel: msgrcv.
-/
namespace Go.Proofs.YtcpfmjlceoiofaaGreatDoor
open Go.RowKit
attribute [local irreducible] W L QL PureOp thenQ blockQ retQ Spec IterOk YSpec roundQ scopeQ noGoQ
attribute [local irreducible] AS ASi IterOkC retD retE
set_option maxHeartbeats 12800000
set_option maxRecDepth 8000
abbrev rcvH (σ : KS) (wb sq tb : Nat) (tv : TK) (pid : Int) (x : CallV) (s : List UInt8) (q : ThV) (M : List Frm) (Hq : Hp) : Hp := wkD wb σ.k (ptrB tb) pid 0 0 x s :: knB σ :: tkB tb tv :: nmB σ.qu sq :: smK sq 0 q true smZ :: (memH σ.m M ++ Hq)
section
variable (σ : KS)
theorem kmsgrcv_wait (hM : WfM σ.M) (wb sq tb : Nat) (tv : TK) (pid : Int) (x : CallV) (s : List UInt8) (a : Option Addr) (cap : Nat) (Hq : Hp) (how : oM a 0 cap [] Hq) (hxa : x.a = 0) (hxc : x.c = 32) (hxd : x.d = 0) (hf : x.f = 0)
    (hc : checkC σ.M tv.sp.root x.b 32 true = 0) :
    Spec Tryz.prog 69 [ptrB wb] (rcvH σ wb sq tb tv pid x s (thQ a 0 cap) σ.M Hq) fun v H' => ∃ b, v = .tuple #[rs0.val, .iface 118 (ptrB b)] ∧ H' = rfB b 0 true :: rcvH σ wb sq tb tv pid x s (thQ a 0 cap) σ.M Hq := by
  refine Spec_body Tryz.func69 rfl Tryz.ntmps69 rfl (fun w0 => ?_)
  have hck := check_spec σ.m hM tv.sp.root x.b (min x.c 32) true
  rw [show (min x.c 32 : Int) = 32 by omega, hc] at hck
  rw [show (32 : Int) = min x.c 32 by omega] at hck
  have hF := ipFind_spec σ.qu sq 0 smZ (by decide) (thQ a 0 cap) (thQ_r a 0 cap) 0 4 (by decide) (.inl rfl)
  rw [show (8 * 0 : Int) = x.a by omega] at hF
  have hR := receive_spec a 0 cap [] x.d x.c false Hq how (by decide) (by simp [ds_, sumD]) (fun k x h => by simp at h)
  have hW := kmaywait_spec wb σ.k (ptrB tb) pid 0 0 x s hf
  repeat (first | refine stepA ?_ | intro _)
  refine W_any [wkD wb σ.k (ptrB tb) pid 0 0 x s, knB σ, tkB tb tv] [] rfl ?_
  refine AS_at 0 (by decide +kernel) ?_; refine takeA ?_
  refine AS_at 1 (by decide +kernel) ?_; refine takeA ?_
  refine AS_at 2 (by decide +kernel) ?_; refine takeA ?_
  refine AS_at 3 (by decide +kernel) ?_; refine takeA ?_
  refine AS_at 4 (by decide +kernel) ?_; refine takeA ?_
  refine AS_at 5 (by decide +kernel) ?_; refine takeA ?_
  refine AS_at 6 (by decide +kernel) ?_; refine takeA ?_
  refine AS_at 7 (by decide +kernel) ?_; refine takeA ?_
  refine AS_at 8 (by decide +kernel) ?_; refine takeA ?_
  refine AS_at 9 (by decide +kernel) ?_; refine takeA ?_
  refine AS_at 10 (by decide +kernel) ?_; refine takeA ?_
  refine AS_at 11 (by decide +kernel) ?_; refine takeA ?_
  refine AS_at 12 (by decide +kernel) ?_; refine takeA ?_
  refine AS_at 13 (by decide +kernel) ?_; refine takeA ?_
  refine AS_at 14 (by decide +kernel) ?_; refine takeA ?_
  refine AS_at 15 (by decide +kernel) ?_; refine takeA ?_
  refine AS_at 16 (by decide +kernel) ?_; refine takeA ?_
  refine AS_at 17 (by decide +kernel) ?_; refine takeA ?_
  refine AS_at 18 (by decide +kernel) ?_; refine takeA ?_
  refine AS_at 19 (by decide +kernel) ?_; refine takeA ?_
  refine AS_at 20 (by decide +kernel) ?_; refine takeA ?_
  refine AS_at 21 (by decide +kernel) ?_; refine takeA ?_
  refine AS_at 22 (by decide +kernel) ?_; refine takeA ?_
  refine AS_at 23 (by decide +kernel) ?_; refine takeA ?_
  refine AS_at 24 (by decide +kernel) ?_; refine takeA ?_
  refine AS_one 25 rfl (by decide +kernel) rfl ?_
  refine stepA ?_
  refine L_nil ?_; refine ⟨rfl, (by first | exact KeepsH.brk (by decide +kernel) | exact KeepsH.sub subA | exact KeepsH.sub subT), ?_⟩
  refine AS_one 26 rfl (by decide +kernel) rfl ?_
  refine callA ?_; refine ⟨_, _, hck, _, cutA, ?_⟩
  rintro v H' ⟨rfl, rfl⟩
  simp only [List.cons_append, List.nil_append]
  refine L_nil ?_; refine ⟨rfl, (by first | exact KeepsH.brk (by decide +kernel) | exact KeepsH.sub subA | exact KeepsH.sub subT), ?_⟩
  refine AS_at 27 (by decide +kernel) ?_; refine takeA ?_
  refine AS_done (by decide +kernel) ?_
  repeat (first | refine stepA ?_ | intro _)
  refine W_any [wkD wb σ.k (ptrB tb) pid 0 0 x s, knB σ] [] rfl ?_
  refine AS_at 0 (by decide +kernel) ?_; refine takeA ?_
  refine AS_at 1 (by decide +kernel) ?_; refine takeA ?_
  refine AS_at 2 (by decide +kernel) ?_; refine takeA ?_
  refine AS_at 3 (by decide +kernel) ?_; refine takeA ?_
  refine AS_at 4 (by decide +kernel) ?_; refine takeA ?_
  refine AS_at 5 (by decide +kernel) ?_; refine takeA ?_
  refine AS_at 6 (by decide +kernel) ?_; refine takeA ?_
  refine AS_at 7 (by decide +kernel) ?_; refine takeA ?_
  refine AS_at 8 (by decide +kernel) ?_; refine takeA ?_
  refine AS_at 9 (by decide +kernel) ?_; refine takeA ?_
  refine AS_at 10 (by decide +kernel) ?_; refine takeA ?_
  refine AS_at 11 (by decide +kernel) ?_; refine takeA ?_
  refine AS_at 12 (by decide +kernel) ?_; refine takeA ?_
  refine AS_at 13 (by decide +kernel) ?_; refine takeA ?_
  refine AS_at 14 (by decide +kernel) ?_; refine takeA ?_
  refine AS_at 15 (by decide +kernel) ?_; refine takeA ?_
  refine AS_one 16 rfl (by decide +kernel) rfl ?_
  refine callA ?_; refine ⟨_, _, hF, _, cutA, ?_⟩
  rintro v H' ⟨rfl, rfl⟩
  simp only [List.cons_append, List.nil_append]
  refine L_nil ?_; refine ⟨rfl, (by first | exact KeepsH.brk (by decide +kernel) | exact KeepsH.sub subA | exact KeepsH.sub subT), ?_⟩
  refine AS_at 17 (by decide +kernel) ?_; refine takeA ?_
  refine AS_at 18 (by decide +kernel) ?_; refine takeA ?_
  refine AS_at 19 (by decide +kernel) ?_; refine takeA ?_
  refine AS_at 20 (by decide +kernel) ?_; refine takeA ?_
  refine AS_at 21 (by decide +kernel) ?_; refine takeA ?_
  refine AS_done (by decide +kernel) ?_
  repeat (first | refine stepA ?_ | intro _)
  refine W_any [wkD wb σ.k (ptrB tb) pid 0 0 x s, knB σ] [] rfl ?_
  refine AS_at 0 (by decide +kernel) ?_; refine takeA ?_
  refine AS_at 1 (by decide +kernel) ?_; refine takeA ?_
  refine AS_at 2 (by decide +kernel) ?_; refine takeA ?_
  refine AS_at 3 (by decide +kernel) ?_; refine takeA ?_
  refine AS_at 4 (by decide +kernel) ?_; refine takeA ?_
  refine AS_at 5 (by decide +kernel) ?_; refine takeA ?_
  refine AS_at 6 (by decide +kernel) ?_; refine takeA ?_
  refine AS_at 7 (by decide +kernel) ?_; refine takeA ?_
  refine AS_at 8 (by decide +kernel) ?_; refine takeA ?_
  refine AS_at 9 (by decide +kernel) ?_; refine takeA ?_
  refine AS_at 10 (by decide +kernel) ?_; refine takeA ?_
  refine AS_at 11 (by decide +kernel) ?_; refine takeA ?_
  refine AS_at 12 (by decide +kernel) ?_; refine takeA ?_
  refine AS_at 13 (by decide +kernel) ?_; refine takeA ?_
  refine AS_at 14 (by decide +kernel) ?_; refine takeA ?_
  refine AS_at 15 (by decide +kernel) ?_; refine takeA ?_
  refine AS_two 16 23 rfl (by decide +kernel) rfl rfl ?_ ?_
  · skip
    (first | (apply L_P; (· exact rfl); (· exact rfl)) | (apply QL_P; (· exact rfl))); (· (apply P_and; (· exact evA); (· exact evA); (· exact (show bits .and .i64 x.f 2 = 0 by rw [hf]; decide))))
    refine L_nil ?_; refine ⟨rfl, (by first | exact KeepsH.brk (by decide +kernel) | exact KeepsH.sub subA | exact KeepsH.sub subT), ?_⟩
    refine AS_at 17 (by decide +kernel) ?_; refine takeA ?_
    refine AS_two 18 23 rfl (by decide +kernel) rfl rfl ?_ ?_
    · skip
      refine callT ?_; refine ⟨_, _, hR, _, cutT, ?_⟩
      rintro v H' (⟨h0, -, -⟩ | ⟨-, -, rfl, rfl⟩ | ⟨-, k, z, -, h0, -⟩)
      · exact absurd ⟨rightM_nil, by omega⟩ h0
      rotate_left
      · simp at h0
      simp only [List.cons_append, List.nil_append]
      refine L_nil ?_; refine ⟨rfl, (by first | exact KeepsH.brk (by decide +kernel) | exact KeepsH.sub subA | exact KeepsH.sub subT), ?_⟩
      refine AS_at 19 (by decide +kernel) ?_; refine takeA ?_
      refine AS_at 20 (by decide +kernel) ?_; refine takeA ?_
      refine AS_at 21 (by decide +kernel) ?_; refine takeA ?_
      refine AS_at 22 (by decide +kernel) ?_; refine takeA ?_
      refine AS_one 23 rfl (by decide +kernel) rfl ?_
      refine stepA ?_
      intro bm
      refine L_nil ?_; refine ⟨rfl, (by first | exact KeepsH.brk (by decide +kernel) | exact KeepsH.sub subA | exact KeepsH.sub subT), ?_⟩
      refine AS_at 24 (by decide +kernel) ?_; refine takeA ?_
      refine AS_one 25 rfl (by decide +kernel) rfl ?_
      refine stepA ?_
      refine L_nil ?_; refine ⟨rfl, (by first | exact KeepsH.brk (by decide +kernel) | exact KeepsH.sub subA | exact KeepsH.sub subT), ?_⟩
      refine AS_at 26 (by decide +kernel) ?_; refine takeA ?_
      refine AS_done (by decide +kernel) ?_
      repeat (first | refine stepA ?_ | intro _)
      refine callA ?_; refine ⟨_, _, hW, _, cutA, ?_⟩
      rintro v H' ⟨b, rfl, rfl⟩
      simp only [List.cons_append, List.nil_append]
      repeat (first | refine stepA ?_ | intro _)
      (first | refine retA ?_ | refine retB ?_)
      exact ⟨_, ⟨b, rfl, rfl⟩, subT⟩
    · skip
      refine stepA ?_
      intro bm
      refine L_nil ?_; refine ⟨rfl, (by first | exact KeepsH.brk (by decide +kernel) | exact KeepsH.sub subA | exact KeepsH.sub subT), ?_⟩
      refine AS_one 18 rfl (by decide +kernel) rfl ?_
      refine callT ?_; refine ⟨_, _, hR, _, cutT, ?_⟩
      rintro v H' (⟨h0, -, -⟩ | ⟨-, -, rfl, rfl⟩ | ⟨-, k, z, -, h0, -⟩)
      · exact absurd ⟨rightM_nil, by omega⟩ h0
      rotate_left
      · simp at h0
      simp only [List.cons_append, List.nil_append]
      refine L_nil ?_; refine ⟨rfl, (by first | exact KeepsH.brk (by decide +kernel) | exact KeepsH.sub subA | exact KeepsH.sub subT), ?_⟩
      refine AS_at 19 (by decide +kernel) ?_; refine takeA ?_
      refine AS_at 20 (by decide +kernel) ?_; refine takeA ?_
      refine AS_at 21 (by decide +kernel) ?_; refine takeA ?_
      refine AS_at 22 (by decide +kernel) ?_; refine takeA ?_
      refine AS_at 24 (by decide +kernel) ?_; refine takeA ?_
      refine AS_one 25 rfl (by decide +kernel) rfl ?_
      refine stepA ?_
      refine L_nil ?_; refine ⟨rfl, (by first | exact KeepsH.brk (by decide +kernel) | exact KeepsH.sub subA | exact KeepsH.sub subT), ?_⟩
      refine AS_at 26 (by decide +kernel) ?_; refine takeA ?_
      refine AS_done (by decide +kernel) ?_
      repeat (first | refine stepA ?_ | intro _)
      refine callA ?_; refine ⟨_, _, hW, _, cutA, ?_⟩
      rintro v H' ⟨b, rfl, rfl⟩
      simp only [List.cons_append, List.nil_append]
      repeat (first | refine stepA ?_ | intro _)
      (first | refine retA ?_ | refine retB ?_)
      exact ⟨_, ⟨b, rfl, rfl⟩, subT⟩
  · skip
    refine stepA ?_
    intro bm
    refine L_nil ?_; refine ⟨rfl, (by first | exact KeepsH.brk (by decide +kernel) | exact KeepsH.sub subA | exact KeepsH.sub subT), ?_⟩
    refine AS_one 16 rfl (by decide +kernel) rfl ?_
    (first | (apply L_P; (· exact rfl); (· exact rfl)) | (apply QL_P; (· exact rfl))); (· (apply P_and; (· exact evA); (· exact evA); (· exact (show bits .and .i64 x.f 2 = 0 by rw [hf]; decide))))
    refine L_nil ?_; refine ⟨rfl, (by first | exact KeepsH.brk (by decide +kernel) | exact KeepsH.sub subA | exact KeepsH.sub subT), ?_⟩
    refine AS_at 17 (by decide +kernel) ?_; refine takeA ?_
    refine AS_one 18 rfl (by decide +kernel) rfl ?_
    refine callT ?_; refine ⟨_, _, hR, _, cutT, ?_⟩
    rintro v H' (⟨h0, -, -⟩ | ⟨-, -, rfl, rfl⟩ | ⟨-, k, z, -, h0, -⟩)
    · exact absurd ⟨rightM_nil, by omega⟩ h0
    rotate_left
    · simp at h0
    simp only [List.cons_append, List.nil_append]
    refine L_nil ?_; refine ⟨rfl, (by first | exact KeepsH.brk (by decide +kernel) | exact KeepsH.sub subA | exact KeepsH.sub subT), ?_⟩
    refine AS_at 19 (by decide +kernel) ?_; refine takeA ?_
    refine AS_at 20 (by decide +kernel) ?_; refine takeA ?_
    refine AS_at 21 (by decide +kernel) ?_; refine takeA ?_
    refine AS_at 22 (by decide +kernel) ?_; refine takeA ?_
    refine AS_at 24 (by decide +kernel) ?_; refine takeA ?_
    refine AS_one 25 rfl (by decide +kernel) rfl ?_
    refine stepA ?_
    refine L_nil ?_; refine ⟨rfl, (by first | exact KeepsH.brk (by decide +kernel) | exact KeepsH.sub subA | exact KeepsH.sub subT), ?_⟩
    refine AS_at 26 (by decide +kernel) ?_; refine takeA ?_
    refine AS_done (by decide +kernel) ?_
    repeat (first | refine stepA ?_ | intro _)
    refine callA ?_; refine ⟨_, _, hW, _, cutA, ?_⟩
    rintro v H' ⟨b, rfl, rfl⟩
    simp only [List.cons_append, List.nil_append]
    repeat (first | refine stepA ?_ | intro _)
    (first | refine retA ?_ | refine retB ?_)
    exact ⟨_, ⟨b, rfl, rfl⟩, subT⟩
theorem findI_one (m : MsgV) : findI 0 [m] = 0 := by simp [findI, findMG, stepG, atI, Want]
theorem receive_one (a : Option Addr) (cap : Nat) (m : MsgV) (Hs : Hp) (how : oM a 1 cap [m] Hs) (hm : 1 ≤ m.t ∧ m.t ≤ 9223372036854775807) (hd : m.d.length ≤ 32) :
    Spec Tryz.prog 148 [.slice a 1 cap, .int .i64 0, .int .i64 32, .bool false] Hs fun v H' => ∃ g cap' ys, v = .tuple #[.slice (some ⟨g, 0, none⟩) 0 cap', .agg m.cells.toArray, .int .i64 0] ∧
      (cap' * 2 ≤ (([] : List Value) ++ ys).length ∧ 0 ≤ cap' ∧ cap' ≤ maxLen) ∧ H' = (g, .cells (([] : List Value) ++ ys) 272) :: Hs := by
  refine (receive_spec a 1 cap [m] 0 32 false Hs how (by decide) (by simp [ds_, sumD]; omega) (fun k x h => ?_)).mono ?_
  · cases k with
    | zero => simp at h; subst h; exact hm.2
    | succ k => simp at h
  rintro v H' (⟨h0, -, -⟩ | ⟨-, h0, -, -⟩ | ⟨-, k, z, hk, hz, h⟩)
  · exact absurd ⟨rightM_one m hd hm.1, by decide⟩ h0
  · rw [findI_one] at h0; cases h0
  · rw [findI_one] at hk
    obtain rfl : k = 0 := by omega
    simp at hz
    subst hz
    rcases h with ⟨h0, -, -, -⟩ | ⟨-, g, cap', ys, rfl, h2, rfl⟩
    · omega
    · refine ⟨g, cap', ys, ?_, h2, rfl⟩
      rw [show cutM m (32 : Int).toNat = m by rw [cutM, List.take_of_length_le (by show m.d.length ≤ 32; omega)]]
theorem kmsgrcv_ok (hM : WfM σ.M) (wb sq tb : Nat) (tv : TK) (pid : Int) (x : CallV) (s : List UInt8) (a : Option Addr) (cap : Nat) (m : MsgV) (Hq : Hp) (how : oM a 1 cap [m] Hq) (hm : 1 ≤ m.t ∧ m.t ≤ 9223372036854775807) (hd : m.d.length ≤ 32) (b : Nat) (hxb : x.b = b) (hxa : x.a = 0) (hxc : x.c = 32) (hxd : x.d = 0) (hf : x.f = 0)
    (hc : checkC σ.M tv.sp.root x.b 32 true = 0) (hcm : checkC σ.M tv.sp.root (b : Int) (m.d.length : Int) true = 0) (h1 : b % 64 + m.d.length ≤ 64) (ha : b + m.d.length ≤ 16384) :
    Spec Tryz.prog 69 [ptrB wb] (rcvH σ wb sq tb tv pid x s (thQ a 1 cap) σ.M Hq) fun v H' => v = .tuple #[RS.val ⟨0, m.d.length, m.t, [], false⟩, .nilIface] ∧
      ∃ a2 cap2 Hq2, oM a2 0 cap2 [] Hq2 ∧ H' = rcvH σ wb sq tb tv pid x s (thQ a2 0 cap2) (outM σ.M tv.sp.root b m.d).2 Hq2 := by
  refine Spec_body Tryz.func69 rfl Tryz.ntmps69 rfl (fun w0 => ?_)
  have hck := check_spec σ.m hM tv.sp.root x.b (min x.c 32) true
  rw [show (min x.c 32 : Int) = 32 by omega, hc] at hck
  rw [show (32 : Int) = min x.c 32 by omega] at hck
  have hF := ipFind_spec σ.qu sq 0 smZ (by decide) (thQ a 1 cap) (thQ_r a 1 cap) 0 4 (by decide) (.inl rfl)
  rw [show (8 * 0 : Int) = x.a by omega] at hF
  have hR := receive_one a cap m Hq how hm hd
  have hout := out_spec σ.m hM tv.sp.root b m.d hcm h1 ha
  rw [← hxb] at hout
  have hP := fun a2 n2 c2 => ipPut_spec σ.qu sq 0 smZ (by decide) (thQ a 1 cap) a2 n2 c2
  simp only [show (8 * 0 : Int) = x.a by omega] at hP
  rw [show (0 : Int) = x.d by omega, show (32 : Int) = x.c by omega] at hR
  repeat (first | refine stepA ?_ | intro _)
  refine W_any [wkD wb σ.k (ptrB tb) pid 0 0 x s, knB σ, tkB tb tv] [] rfl ?_
  refine AS_at 0 (by decide +kernel) ?_; refine takeA ?_
  refine AS_at 1 (by decide +kernel) ?_; refine takeA ?_
  refine AS_at 2 (by decide +kernel) ?_; refine takeA ?_
  refine AS_at 3 (by decide +kernel) ?_; refine takeA ?_
  refine AS_at 4 (by decide +kernel) ?_; refine takeA ?_
  refine AS_at 5 (by decide +kernel) ?_; refine takeA ?_
  refine AS_at 6 (by decide +kernel) ?_; refine takeA ?_
  refine AS_at 7 (by decide +kernel) ?_; refine takeA ?_
  refine AS_at 8 (by decide +kernel) ?_; refine takeA ?_
  refine AS_at 9 (by decide +kernel) ?_; refine takeA ?_
  refine AS_at 10 (by decide +kernel) ?_; refine takeA ?_
  refine AS_at 11 (by decide +kernel) ?_; refine takeA ?_
  refine AS_at 12 (by decide +kernel) ?_; refine takeA ?_
  refine AS_at 13 (by decide +kernel) ?_; refine takeA ?_
  refine AS_at 14 (by decide +kernel) ?_; refine takeA ?_
  refine AS_at 15 (by decide +kernel) ?_; refine takeA ?_
  refine AS_at 16 (by decide +kernel) ?_; refine takeA ?_
  refine AS_at 17 (by decide +kernel) ?_; refine takeA ?_
  refine AS_at 18 (by decide +kernel) ?_; refine takeA ?_
  refine AS_at 19 (by decide +kernel) ?_; refine takeA ?_
  refine AS_at 20 (by decide +kernel) ?_; refine takeA ?_
  refine AS_at 21 (by decide +kernel) ?_; refine takeA ?_
  refine AS_at 22 (by decide +kernel) ?_; refine takeA ?_
  refine AS_at 23 (by decide +kernel) ?_; refine takeA ?_
  refine AS_at 24 (by decide +kernel) ?_; refine takeA ?_
  refine AS_one 25 rfl (by decide +kernel) rfl ?_
  refine stepA ?_
  refine L_nil ?_; refine ⟨rfl, (by first | exact KeepsH.brk (by decide +kernel) | exact KeepsH.sub subA | exact KeepsH.sub subT), ?_⟩
  refine AS_one 26 rfl (by decide +kernel) rfl ?_
  refine callA ?_; refine ⟨_, _, hck, _, cutA, ?_⟩
  rintro v H' ⟨rfl, rfl⟩
  simp only [List.cons_append, List.nil_append]
  refine L_nil ?_; refine ⟨rfl, (by first | exact KeepsH.brk (by decide +kernel) | exact KeepsH.sub subA | exact KeepsH.sub subT), ?_⟩
  refine AS_at 27 (by decide +kernel) ?_; refine takeA ?_
  refine AS_done (by decide +kernel) ?_
  repeat (first | refine stepA ?_ | intro _)
  refine W_any [wkD wb σ.k (ptrB tb) pid 0 0 x s, knB σ] [] rfl ?_
  refine AS_at 0 (by decide +kernel) ?_; refine takeA ?_
  refine AS_at 1 (by decide +kernel) ?_; refine takeA ?_
  refine AS_at 2 (by decide +kernel) ?_; refine takeA ?_
  refine AS_at 3 (by decide +kernel) ?_; refine takeA ?_
  refine AS_at 4 (by decide +kernel) ?_; refine takeA ?_
  refine AS_at 5 (by decide +kernel) ?_; refine takeA ?_
  refine AS_at 6 (by decide +kernel) ?_; refine takeA ?_
  refine AS_at 7 (by decide +kernel) ?_; refine takeA ?_
  refine AS_at 8 (by decide +kernel) ?_; refine takeA ?_
  refine AS_at 9 (by decide +kernel) ?_; refine takeA ?_
  refine AS_at 10 (by decide +kernel) ?_; refine takeA ?_
  refine AS_at 11 (by decide +kernel) ?_; refine takeA ?_
  refine AS_at 12 (by decide +kernel) ?_; refine takeA ?_
  refine AS_at 13 (by decide +kernel) ?_; refine takeA ?_
  refine AS_at 14 (by decide +kernel) ?_; refine takeA ?_
  refine AS_at 15 (by decide +kernel) ?_; refine takeA ?_
  refine AS_one 16 rfl (by decide +kernel) rfl ?_
  refine callA ?_; refine ⟨_, _, hF, _, cutA, ?_⟩
  rintro v H' ⟨rfl, rfl⟩
  simp only [List.cons_append, List.nil_append]
  refine L_nil ?_; refine ⟨rfl, (by first | exact KeepsH.brk (by decide +kernel) | exact KeepsH.sub subA | exact KeepsH.sub subT), ?_⟩
  refine AS_at 17 (by decide +kernel) ?_; refine takeA ?_
  refine AS_at 18 (by decide +kernel) ?_; refine takeA ?_
  refine AS_at 19 (by decide +kernel) ?_; refine takeA ?_
  refine AS_at 20 (by decide +kernel) ?_; refine takeA ?_
  refine AS_at 21 (by decide +kernel) ?_; refine takeA ?_
  refine AS_done (by decide +kernel) ?_
  repeat (first | refine stepA ?_ | intro _)
  refine W_any [wkD wb σ.k (ptrB tb) pid 0 0 x s, knB σ] [] rfl ?_
  refine AS_at 0 (by decide +kernel) ?_; refine takeA ?_
  refine AS_at 1 (by decide +kernel) ?_; refine takeA ?_
  refine AS_at 2 (by decide +kernel) ?_; refine takeA ?_
  refine AS_at 3 (by decide +kernel) ?_; refine takeA ?_
  refine AS_at 4 (by decide +kernel) ?_; refine takeA ?_
  refine AS_at 5 (by decide +kernel) ?_; refine takeA ?_
  refine AS_at 6 (by decide +kernel) ?_; refine takeA ?_
  refine AS_at 7 (by decide +kernel) ?_; refine takeA ?_
  refine AS_at 8 (by decide +kernel) ?_; refine takeA ?_
  refine AS_at 9 (by decide +kernel) ?_; refine takeA ?_
  refine AS_at 10 (by decide +kernel) ?_; refine takeA ?_
  refine AS_at 11 (by decide +kernel) ?_; refine takeA ?_
  refine AS_at 12 (by decide +kernel) ?_; refine takeA ?_
  refine AS_at 13 (by decide +kernel) ?_; refine takeA ?_
  refine AS_at 14 (by decide +kernel) ?_; refine takeA ?_
  refine AS_at 15 (by decide +kernel) ?_; refine takeA ?_
  refine AS_two 16 23 rfl (by decide +kernel) rfl rfl ?_ ?_
  · skip
    (first | (apply L_P; (· exact rfl); (· exact rfl)) | (apply QL_P; (· exact rfl))); (· (apply P_and; (· exact evA); (· exact evA); (· exact (show bits .and .i64 x.f 2 = 0 by rw [hf]; decide))))
    refine L_nil ?_; refine ⟨rfl, (by first | exact KeepsH.brk (by decide +kernel) | exact KeepsH.sub subA | exact KeepsH.sub subT), ?_⟩
    refine AS_at 17 (by decide +kernel) ?_; refine takeA ?_
    refine AS_two 18 23 rfl (by decide +kernel) rfl rfl ?_ ?_
    · skip
      refine callT ?_; refine ⟨_, _, hR, _, cutT, ?_⟩
      rintro v H' ⟨g, cap', ys, rfl, ⟨hc1, hc2, hc3⟩, rfl⟩
      simp only [List.cons_append, List.nil_append]
      refine L_nil ?_; refine ⟨rfl, (by first | exact KeepsH.brk (by decide +kernel) | exact KeepsH.sub subA | exact KeepsH.sub subT), ?_⟩
      refine AS_at 19 (by decide +kernel) ?_; refine takeA ?_
      refine AS_at 20 (by decide +kernel) ?_; refine takeA ?_
      refine AS_at 21 (by decide +kernel) ?_; refine takeA ?_
      refine AS_at 22 (by decide +kernel) ?_; refine takeA ?_
      refine AS_one 23 rfl (by decide +kernel) rfl ?_
      refine stepA ?_
      intro bm
      refine L_nil ?_; refine ⟨rfl, (by first | exact KeepsH.brk (by decide +kernel) | exact KeepsH.sub subA | exact KeepsH.sub subT), ?_⟩
      refine AS_at 24 (by decide +kernel) ?_; refine takeA ?_
      refine AS_one 25 rfl (by decide +kernel) rfl ?_
      refine stepA ?_
      refine L_nil ?_; refine ⟨rfl, (by first | exact KeepsH.brk (by decide +kernel) | exact KeepsH.sub subA | exact KeepsH.sub subT), ?_⟩
      refine AS_at 26 (by decide +kernel) ?_; refine takeA ?_
      refine AS_done (by decide +kernel) ?_
      repeat (first | refine stepA ?_ | intro _)
      refine W_any [wkD wb σ.k (ptrB tb) pid 0 0 x s, knB σ] [] rfl ?_
      refine AS_at 0 (by decide +kernel) ?_; refine takeA ?_
      refine AS_at 1 (by decide +kernel) ?_; refine takeA ?_
      refine AS_at 2 (by decide +kernel) ?_; refine takeA ?_
      refine AS_at 3 (by decide +kernel) ?_; refine takeA ?_
      refine AS_at 4 (by decide +kernel) ?_; refine takeA ?_
      refine AS_at 5 (by decide +kernel) ?_; refine takeA ?_
      refine AS_at 6 (by decide +kernel) ?_; refine takeA ?_
      refine AS_at 7 (by decide +kernel) ?_; refine takeA ?_
      refine AS_at 8 (by decide +kernel) ?_; refine takeA ?_
      refine AS_at 9 (by decide +kernel) ?_; refine takeA ?_
      refine AS_at 10 (by decide +kernel) ?_; refine takeA ?_
      refine AS_at 11 (by decide +kernel) ?_; refine takeA ?_
      refine AS_at 12 (by decide +kernel) ?_; refine takeA ?_
      refine AS_one 13 rfl (by decide +kernel) rfl ?_
      refine callA ?_; refine ⟨_, _, hP (some ⟨g, 0, none⟩) 0 cap', _, cutA, ?_⟩
      rintro v H' ⟨rfl, rfl⟩
      simp only [List.cons_append, List.nil_append]
      refine L_nil ?_; refine ⟨rfl, (by first | exact KeepsH.brk (by decide +kernel) | exact KeepsH.sub subA | exact KeepsH.sub subT), ?_⟩
      refine AS_done (by decide +kernel) ?_
      repeat (first | refine stepA ?_ | intro _)
      refine W_any [wkD wb σ.k (ptrB tb) pid 0 0 x s, knB σ, tkB tb tv, (bm, .cells m.cells 272)] [] rfl ?_
      refine AS_at 0 (by decide +kernel) ?_; refine takeA ?_
      refine AS_at 1 (by decide +kernel) ?_; refine takeA ?_
      refine AS_at 2 (by decide +kernel) ?_; refine takeA ?_
      refine AS_at 3 (by decide +kernel) ?_; refine takeA ?_
      refine AS_at 4 (by decide +kernel) ?_; refine takeA ?_
      refine AS_at 5 (by decide +kernel) ?_; refine takeA ?_
      refine AS_at 6 (by decide +kernel) ?_; refine takeA ?_
      refine AS_at 7 (by decide +kernel) ?_; refine takeA ?_
      refine AS_at 8 (by decide +kernel) ?_; refine takeA ?_
      refine AS_at 9 (by decide +kernel) ?_; refine takeA ?_
      refine AS_at 10 (by decide +kernel) ?_; refine takeA ?_
      refine AS_at 11 (by decide +kernel) ?_; refine takeA ?_
      refine AS_at 12 (by decide +kernel) ?_; refine takeA ?_
      refine AS_at 13 (by decide +kernel) ?_; refine takeA ?_
      refine AS_at 14 (by decide +kernel) ?_; refine takeA ?_
      refine AS_at 15 (by decide +kernel) ?_; refine takeA ?_
      refine AS_at 16 (by decide +kernel) ?_; refine takeA ?_
      refine AS_at 17 (by decide +kernel) ?_; refine takeA ?_
      refine AS_at 18 (by decide +kernel) ?_; refine takeA ?_
      refine AS_at 19 (by decide +kernel) ?_; refine takeA ?_
      refine AS_at 20 (by decide +kernel) ?_; refine takeA ?_
      refine AS_at 21 (by decide +kernel) ?_; refine takeA ?_
      refine AS_one 22 rfl (by decide +kernel) rfl ?_
      refine callA ?_; refine ⟨_, _, hout, _, cutA, ?_⟩
      rintro v H' ⟨rfl, rfl⟩
      simp only [List.cons_append, List.nil_append]
      refine L_nil ?_; refine ⟨rfl, (by first | exact KeepsH.brk (by decide +kernel) | exact KeepsH.sub subA | exact KeepsH.sub subT), ?_⟩
      refine AS_done (by decide +kernel) ?_
      repeat (first | refine stepA ?_ | intro _)
      (first | refine retA ?_ | refine retB ?_)
      exact ⟨_, ⟨rfl, some ⟨g, 0, none⟩, cap', _, Own.blk rfl hc1 hc2 hc3, rfl⟩, subT⟩
    · skip
      refine stepA ?_
      intro bm
      refine L_nil ?_; refine ⟨rfl, (by first | exact KeepsH.brk (by decide +kernel) | exact KeepsH.sub subA | exact KeepsH.sub subT), ?_⟩
      refine AS_one 18 rfl (by decide +kernel) rfl ?_
      refine callT ?_; refine ⟨_, _, hR, _, cutT, ?_⟩
      rintro v H' ⟨g, cap', ys, rfl, ⟨hc1, hc2, hc3⟩, rfl⟩
      simp only [List.cons_append, List.nil_append]
      refine L_nil ?_; refine ⟨rfl, (by first | exact KeepsH.brk (by decide +kernel) | exact KeepsH.sub subA | exact KeepsH.sub subT), ?_⟩
      refine AS_at 19 (by decide +kernel) ?_; refine takeA ?_
      refine AS_at 20 (by decide +kernel) ?_; refine takeA ?_
      refine AS_at 21 (by decide +kernel) ?_; refine takeA ?_
      refine AS_at 22 (by decide +kernel) ?_; refine takeA ?_
      refine AS_at 24 (by decide +kernel) ?_; refine takeA ?_
      refine AS_one 25 rfl (by decide +kernel) rfl ?_
      refine stepA ?_
      refine L_nil ?_; refine ⟨rfl, (by first | exact KeepsH.brk (by decide +kernel) | exact KeepsH.sub subA | exact KeepsH.sub subT), ?_⟩
      refine AS_at 26 (by decide +kernel) ?_; refine takeA ?_
      refine AS_done (by decide +kernel) ?_
      repeat (first | refine stepA ?_ | intro _)
      refine W_any [wkD wb σ.k (ptrB tb) pid 0 0 x s, knB σ] [] rfl ?_
      refine AS_at 0 (by decide +kernel) ?_; refine takeA ?_
      refine AS_at 1 (by decide +kernel) ?_; refine takeA ?_
      refine AS_at 2 (by decide +kernel) ?_; refine takeA ?_
      refine AS_at 3 (by decide +kernel) ?_; refine takeA ?_
      refine AS_at 4 (by decide +kernel) ?_; refine takeA ?_
      refine AS_at 5 (by decide +kernel) ?_; refine takeA ?_
      refine AS_at 6 (by decide +kernel) ?_; refine takeA ?_
      refine AS_at 7 (by decide +kernel) ?_; refine takeA ?_
      refine AS_at 8 (by decide +kernel) ?_; refine takeA ?_
      refine AS_at 9 (by decide +kernel) ?_; refine takeA ?_
      refine AS_at 10 (by decide +kernel) ?_; refine takeA ?_
      refine AS_at 11 (by decide +kernel) ?_; refine takeA ?_
      refine AS_at 12 (by decide +kernel) ?_; refine takeA ?_
      refine AS_one 13 rfl (by decide +kernel) rfl ?_
      refine callA ?_; refine ⟨_, _, hP (some ⟨g, 0, none⟩) 0 cap', _, cutA, ?_⟩
      rintro v H' ⟨rfl, rfl⟩
      simp only [List.cons_append, List.nil_append]
      refine L_nil ?_; refine ⟨rfl, (by first | exact KeepsH.brk (by decide +kernel) | exact KeepsH.sub subA | exact KeepsH.sub subT), ?_⟩
      refine AS_done (by decide +kernel) ?_
      repeat (first | refine stepA ?_ | intro _)
      refine W_any [wkD wb σ.k (ptrB tb) pid 0 0 x s, knB σ, tkB tb tv, (bm, .cells m.cells 272)] [] rfl ?_
      refine AS_at 0 (by decide +kernel) ?_; refine takeA ?_
      refine AS_at 1 (by decide +kernel) ?_; refine takeA ?_
      refine AS_at 2 (by decide +kernel) ?_; refine takeA ?_
      refine AS_at 3 (by decide +kernel) ?_; refine takeA ?_
      refine AS_at 4 (by decide +kernel) ?_; refine takeA ?_
      refine AS_at 5 (by decide +kernel) ?_; refine takeA ?_
      refine AS_at 6 (by decide +kernel) ?_; refine takeA ?_
      refine AS_at 7 (by decide +kernel) ?_; refine takeA ?_
      refine AS_at 8 (by decide +kernel) ?_; refine takeA ?_
      refine AS_at 9 (by decide +kernel) ?_; refine takeA ?_
      refine AS_at 10 (by decide +kernel) ?_; refine takeA ?_
      refine AS_at 11 (by decide +kernel) ?_; refine takeA ?_
      refine AS_at 12 (by decide +kernel) ?_; refine takeA ?_
      refine AS_at 13 (by decide +kernel) ?_; refine takeA ?_
      refine AS_at 14 (by decide +kernel) ?_; refine takeA ?_
      refine AS_at 15 (by decide +kernel) ?_; refine takeA ?_
      refine AS_at 16 (by decide +kernel) ?_; refine takeA ?_
      refine AS_at 17 (by decide +kernel) ?_; refine takeA ?_
      refine AS_at 18 (by decide +kernel) ?_; refine takeA ?_
      refine AS_at 19 (by decide +kernel) ?_; refine takeA ?_
      refine AS_at 20 (by decide +kernel) ?_; refine takeA ?_
      refine AS_at 21 (by decide +kernel) ?_; refine takeA ?_
      refine AS_one 22 rfl (by decide +kernel) rfl ?_
      refine callA ?_; refine ⟨_, _, hout, _, cutA, ?_⟩
      rintro v H' ⟨rfl, rfl⟩
      simp only [List.cons_append, List.nil_append]
      refine L_nil ?_; refine ⟨rfl, (by first | exact KeepsH.brk (by decide +kernel) | exact KeepsH.sub subA | exact KeepsH.sub subT), ?_⟩
      refine AS_done (by decide +kernel) ?_
      repeat (first | refine stepA ?_ | intro _)
      (first | refine retA ?_ | refine retB ?_)
      exact ⟨_, ⟨rfl, some ⟨g, 0, none⟩, cap', _, Own.blk rfl hc1 hc2 hc3, rfl⟩, subT⟩
  · skip
    refine stepA ?_
    intro bm
    refine L_nil ?_; refine ⟨rfl, (by first | exact KeepsH.brk (by decide +kernel) | exact KeepsH.sub subA | exact KeepsH.sub subT), ?_⟩
    refine AS_one 16 rfl (by decide +kernel) rfl ?_
    (first | (apply L_P; (· exact rfl); (· exact rfl)) | (apply QL_P; (· exact rfl))); (· (apply P_and; (· exact evA); (· exact evA); (· exact (show bits .and .i64 x.f 2 = 0 by rw [hf]; decide))))
    refine L_nil ?_; refine ⟨rfl, (by first | exact KeepsH.brk (by decide +kernel) | exact KeepsH.sub subA | exact KeepsH.sub subT), ?_⟩
    refine AS_at 17 (by decide +kernel) ?_; refine takeA ?_
    refine AS_one 18 rfl (by decide +kernel) rfl ?_
    refine callT ?_; refine ⟨_, _, hR, _, cutT, ?_⟩
    rintro v H' ⟨g, cap', ys, rfl, ⟨hc1, hc2, hc3⟩, rfl⟩
    simp only [List.cons_append, List.nil_append]
    refine L_nil ?_; refine ⟨rfl, (by first | exact KeepsH.brk (by decide +kernel) | exact KeepsH.sub subA | exact KeepsH.sub subT), ?_⟩
    refine AS_at 19 (by decide +kernel) ?_; refine takeA ?_
    refine AS_at 20 (by decide +kernel) ?_; refine takeA ?_
    refine AS_at 21 (by decide +kernel) ?_; refine takeA ?_
    refine AS_at 22 (by decide +kernel) ?_; refine takeA ?_
    refine AS_at 24 (by decide +kernel) ?_; refine takeA ?_
    refine AS_one 25 rfl (by decide +kernel) rfl ?_
    refine stepA ?_
    refine L_nil ?_; refine ⟨rfl, (by first | exact KeepsH.brk (by decide +kernel) | exact KeepsH.sub subA | exact KeepsH.sub subT), ?_⟩
    refine AS_at 26 (by decide +kernel) ?_; refine takeA ?_
    refine AS_done (by decide +kernel) ?_
    repeat (first | refine stepA ?_ | intro _)
    refine W_any [wkD wb σ.k (ptrB tb) pid 0 0 x s, knB σ] [] rfl ?_
    refine AS_at 0 (by decide +kernel) ?_; refine takeA ?_
    refine AS_at 1 (by decide +kernel) ?_; refine takeA ?_
    refine AS_at 2 (by decide +kernel) ?_; refine takeA ?_
    refine AS_at 3 (by decide +kernel) ?_; refine takeA ?_
    refine AS_at 4 (by decide +kernel) ?_; refine takeA ?_
    refine AS_at 5 (by decide +kernel) ?_; refine takeA ?_
    refine AS_at 6 (by decide +kernel) ?_; refine takeA ?_
    refine AS_at 7 (by decide +kernel) ?_; refine takeA ?_
    refine AS_at 8 (by decide +kernel) ?_; refine takeA ?_
    refine AS_at 9 (by decide +kernel) ?_; refine takeA ?_
    refine AS_at 10 (by decide +kernel) ?_; refine takeA ?_
    refine AS_at 11 (by decide +kernel) ?_; refine takeA ?_
    refine AS_at 12 (by decide +kernel) ?_; refine takeA ?_
    refine AS_one 13 rfl (by decide +kernel) rfl ?_
    refine callA ?_; refine ⟨_, _, hP (some ⟨g, 0, none⟩) 0 cap', _, cutA, ?_⟩
    rintro v H' ⟨rfl, rfl⟩
    simp only [List.cons_append, List.nil_append]
    refine L_nil ?_; refine ⟨rfl, (by first | exact KeepsH.brk (by decide +kernel) | exact KeepsH.sub subA | exact KeepsH.sub subT), ?_⟩
    refine AS_done (by decide +kernel) ?_
    repeat (first | refine stepA ?_ | intro _)
    refine W_any [wkD wb σ.k (ptrB tb) pid 0 0 x s, knB σ, tkB tb tv, (bm, .cells m.cells 272)] [] rfl ?_
    refine AS_at 0 (by decide +kernel) ?_; refine takeA ?_
    refine AS_at 1 (by decide +kernel) ?_; refine takeA ?_
    refine AS_at 2 (by decide +kernel) ?_; refine takeA ?_
    refine AS_at 3 (by decide +kernel) ?_; refine takeA ?_
    refine AS_at 4 (by decide +kernel) ?_; refine takeA ?_
    refine AS_at 5 (by decide +kernel) ?_; refine takeA ?_
    refine AS_at 6 (by decide +kernel) ?_; refine takeA ?_
    refine AS_at 7 (by decide +kernel) ?_; refine takeA ?_
    refine AS_at 8 (by decide +kernel) ?_; refine takeA ?_
    refine AS_at 9 (by decide +kernel) ?_; refine takeA ?_
    refine AS_at 10 (by decide +kernel) ?_; refine takeA ?_
    refine AS_at 11 (by decide +kernel) ?_; refine takeA ?_
    refine AS_at 12 (by decide +kernel) ?_; refine takeA ?_
    refine AS_at 13 (by decide +kernel) ?_; refine takeA ?_
    refine AS_at 14 (by decide +kernel) ?_; refine takeA ?_
    refine AS_at 15 (by decide +kernel) ?_; refine takeA ?_
    refine AS_at 16 (by decide +kernel) ?_; refine takeA ?_
    refine AS_at 17 (by decide +kernel) ?_; refine takeA ?_
    refine AS_at 18 (by decide +kernel) ?_; refine takeA ?_
    refine AS_at 19 (by decide +kernel) ?_; refine takeA ?_
    refine AS_at 20 (by decide +kernel) ?_; refine takeA ?_
    refine AS_at 21 (by decide +kernel) ?_; refine takeA ?_
    refine AS_one 22 rfl (by decide +kernel) rfl ?_
    refine callA ?_; refine ⟨_, _, hout, _, cutA, ?_⟩
    rintro v H' ⟨rfl, rfl⟩
    simp only [List.cons_append, List.nil_append]
    refine L_nil ?_; refine ⟨rfl, (by first | exact KeepsH.brk (by decide +kernel) | exact KeepsH.sub subA | exact KeepsH.sub subT), ?_⟩
    refine AS_done (by decide +kernel) ?_
    repeat (first | refine stepA ?_ | intro _)
    (first | refine retA ?_ | refine retB ?_)
    exact ⟨_, ⟨rfl, some ⟨g, 0, none⟩, cap', _, Own.blk rfl hc1 hc2 hc3, rfl⟩, subT⟩
end
end Go.Proofs.YtcpfmjlceoiofaaGreatDoor

/-
  Lists of numbers: slices.Clone, slices.Delete.
-/
namespace Go.Proofs.YtcpfmjlceoiofaaGreatDoor
open Go.RowKit
attribute [local irreducible] W L QL PureOp thenQ blockQ retQ Spec IterOk YSpec roundQ scopeQ noGoQ
attribute [local irreducible] AS ASi IterOkC
set_option maxHeartbeats 3200000
theorem ivs_append (a b : List Int) : ivs (a ++ b) = ivs a ++ ivs b := List.map_append
theorem ivs_len1 (l : List Int) : (ivs l).length = l.length * 1 := by rw [ivs_len, Nat.mul_one]
theorem ivs_one (l : List Int) : ∀ u ∈ ivs l, u.oneCell' = true := by
  intro u hu
  obtain ⟨i, -, rfl⟩ := List.mem_map.1 hu
  rfl
theorem drop_ivs (l : List Int) (k : Nat) : (ivs l).drop (k * 1) = ivs (l.drop k) := by rw [Nat.mul_one]; exact (List.map_drop).symm
theorem lay_at1 {A D z : List Value} {k : Nat} (hk : k = A.length) : (A ++ D).take k ++ z ++ (A ++ D).drop (k + 1) = A ++ (z ++ D.drop 1) := by
  subst hk
  rw [List.take_left, ← List.drop_drop, List.drop_left, List.append_assoc]
theorem iclone_spec (g n cap : Nat) (l : List Int) (ys : List Value) (hl : l.length = n) (hn : n ≤ 1000) (h0 : 0 < n) :
    Spec Tryz.prog 41 [.slice (some ⟨g, 0, none⟩) n cap] [(g, .cells (ivs l ++ ys) 3)] fun v H' => ∃ g2 cap2 ys2, v = .slice (some ⟨g2, 0, none⟩) n cap2 ∧ (cap2 * 1 ≤ (ivs l ++ ys2).length ∧ n ≤ cap2 ∧ cap2 ≤ maxLen) ∧ H' = [(g2, .cells (ivs l ++ ys2) 3), (g, .cells (ivs l ++ ys) 3)] := by
  have hml := ivs_len1 l
  refine Spec_body Tryz.func41 rfl Tryz.ntmps41 rfl (fun w0 => ?_)
  repeat (first | refine stepA ?_ | intro _)
  (first | (apply L_P; (· exact rfl); (· exact rfl)) | (apply QL_P; (· exact rfl))); (· (apply P_eqNilSl; (· exact evA); (· exact evA)))
  simp only [Option.isNone_some]
  repeat (first | refine stepA ?_ | intro _)
  apply L_buildSl0
  · exact rfl
  intro gz
  repeat (first | refine stepA ?_ | intro _)
  apply L_append
  · exact rfl
  · exact evA
  · exact evA
  · exact (Own.blk (n := 0) (cap := 0) (xs := []) (ys := []) rfl (Nat.le_refl _) (Nat.le_refl _) (Nat.zero_le _) : Own 3 1 _ _ _ _ _)
  · exact Cut.perm cutA
  · exact Lies.cells (k := n * 1) (news := ivs l) pullA (by rw [List.drop_zero, List.take_append_of_le_length (by omega), List.take_of_length_le (by omega)])
  · omega
  · exact ivs_one l
  · exact h0
  · simp only [maxLen]; omega
  · omega
  · rfl
  rintro g2 cap2 ys2 h1 h2 h3
  repeat (first | refine stepA ?_ | intro _)
  (first | refine retA ?_ | refine retB ?_)
  rw [List.nil_append] at h1 ⊢
  rw [Nat.zero_add] at h2 ⊢
  exact ⟨_, ⟨g2, cap2, ys2, rfl, ⟨h1, h2, h3⟩, rfl⟩, subA⟩
theorem idelete_spec (g n cap i : Nat) (l : List Int) (ys : List Value) (hl : l.length = n) (hn : n ≤ 1000) (hi : i < n) (hc : cap * 1 ≤ (ivs l ++ ys).length) (hcn : n ≤ cap) (hcm : cap ≤ maxLen) :
    Spec Tryz.prog 79 [.slice (some ⟨g, 0, none⟩) n cap, .int .i64 (i : Int), .int .i64 ((i : Int) + 1)] [(g, .cells (ivs l ++ ys) 3)] fun v H' => v = .slice (some ⟨g, 0, none⟩) (n - 1) cap ∧ ∃ ys', (cap * 1 ≤ (ivs (l.eraseIdx i) ++ ys').length) ∧ H' = [(g, .cells (ivs (l.eraseIdx i) ++ ys') 3)] := by
  have hml := ivs_len1 l
  have hs : ivs l ++ ys = ivs (l.take i) ++ (ivs (l.drop i) ++ ys) := by rw [← List.append_assoc, ← ivs_append, List.take_append_drop]
  have hlt : (ivs (l.take i)).length = i * 1 := by rw [ivs_len1, List.length_take]; omega
  have hld : (ivs (l.drop i)).length = (n - i) * 1 := by rw [ivs_len1, List.length_drop]; omega
  have hle : (ivs (l.drop (i + 1))).length = (n - (i + 1)) * 1 := by rw [ivs_len1, List.length_drop]; omega
  have her : ivs (l.eraseIdx i) = ivs (l.take i) ++ ivs (l.drop (i + 1)) := by rw [List.eraseIdx_eq_take_drop_succ, ivs_append]
  have hlen := congrArg List.length hs
  rw [hs] at hc ⊢
  rw [her]
  by_cases hin : i + 1 = n
  · have hd0 : ivs (l.drop (i + 1)) = [] := List.length_eq_zero_iff.1 (by omega)
    refine Spec_body Tryz.func79 rfl Tryz.ntmps79 rfl (fun w0 => ?_)
    repeat (first | refine stepA ?_ | intro _)
    (first | (apply L_P; (· exact rfl); (· exact rfl)) | (apply QL_P; (· exact rfl))); (· (apply P_sl3b; (· exact evA); (· exact Bound.nat rfl); (· exact Bound.of (j := i + 1) rfl (by omega)); (· exact Bound.nat rfl); (· omega); (· omega); (· exact hcn)))
    repeat (first | refine stepA ?_ | intro _)
    refine W_anyH rfl ?_
    refine AS_at 0 (by decide +kernel) ?_; refine takeA ?_
    refine AS_at 1 (by decide +kernel) ?_; refine takeA ?_
    refine AS_at 3 (by decide +kernel) ?_; refine takeA ?_
    refine AS_at 4 (by decide +kernel) ?_; refine takeA ?_
    refine AS_two 2 5 rfl (by decide +kernel) rfl rfl ?_ ?_
    · skip
      (first | (apply L_P; (· exact rfl); (· exact rfl)) | (apply QL_P; (· exact rfl))); (· (apply P_slP0; (· exact evA); (· exact Bound.nat rfl); (· omega)))
      refine L_nil ?_; refine ⟨rfl, (by first | exact KeepsH.brk (by decide +kernel) | exact KeepsH.sub subA | exact KeepsH.sub subT), ?_⟩
      refine AS_one 5 rfl (by decide +kernel) rfl ?_
      (first | (apply L_P; (· exact rfl); (· exact rfl)) | (apply QL_P; (· exact rfl))); (· (apply P_slSl; (· exact evA); (· exact Bound.of (j := i + 1) rfl (by omega)); (· exact Bound.none); (· omega)))
      refine L_nil ?_; refine ⟨rfl, (by first | exact KeepsH.brk (by decide +kernel) | exact KeepsH.sub subA | exact KeepsH.sub subT), ?_⟩
      refine AS_one 6 rfl (by decide +kernel) rfl ?_
      refine L_appendNone rfl evA evA (by omega) (by omega) ?_
      refine L_nil ?_; refine ⟨rfl, (by first | exact KeepsH.brk (by decide +kernel) | exact KeepsH.sub subA | exact KeepsH.sub subT), ?_⟩
      refine AS_at 7 (by decide +kernel) ?_; refine takeA ?_
      refine AS_done (by decide +kernel) ?_
      repeat (first | refine stepA ?_ | intro _)
      (first | (apply L_P; (· exact rfl); (· exact rfl)) | (apply QL_P; (· exact rfl))); (· (apply P_slSlN; (· exact evA); (· exact Bound.nat rfl); (· exact Bound.nat rfl); (· omega); (· omega); (· exact (show n - i = 1 by omega)); (· exact rfl)))
      repeat (first | refine stepA ?_ | intro _)
      apply L_clear
      · exact evA
      · exact repA
      · exact rfl
      · simp [Value.oneCell']
      · rw [lay_at1 (by rw [hlt, Nat.zero_add]), ← List.append_nil (ivs (l.take i)), ← hd0]
      · omega
      repeat (first | refine stepA ?_ | intro _)
      (first | refine retA ?_ | refine retB ?_)
      refine ⟨_, ⟨by rw [show n - 1 = i by omega]; rfl, _, ?_, rfl⟩, subA⟩
      simp only [List.length_append, List.length_drop, List.length_cons, List.length_nil] at hc ⊢
      omega
    · skip
      (first | (apply L_P; (· exact rfl); (· exact rfl)) | (apply QL_P; (· exact rfl))); (· (apply P_slSl; (· exact evA); (· exact Bound.of (j := i + 1) rfl (by omega)); (· exact Bound.none); (· omega)))
      refine L_nil ?_; refine ⟨rfl, (by first | exact KeepsH.brk (by decide +kernel) | exact KeepsH.sub subA | exact KeepsH.sub subT), ?_⟩
      refine AS_one 2 rfl (by decide +kernel) rfl ?_
      (first | (apply L_P; (· exact rfl); (· exact rfl)) | (apply QL_P; (· exact rfl))); (· (apply P_slP0; (· exact evA); (· exact Bound.nat rfl); (· omega)))
      refine L_nil ?_; refine ⟨rfl, (by first | exact KeepsH.brk (by decide +kernel) | exact KeepsH.sub subA | exact KeepsH.sub subT), ?_⟩
      refine AS_one 6 rfl (by decide +kernel) rfl ?_
      refine L_appendNone rfl evA evA (by omega) (by omega) ?_
      refine L_nil ?_; refine ⟨rfl, (by first | exact KeepsH.brk (by decide +kernel) | exact KeepsH.sub subA | exact KeepsH.sub subT), ?_⟩
      refine AS_at 7 (by decide +kernel) ?_; refine takeA ?_
      refine AS_done (by decide +kernel) ?_
      repeat (first | refine stepA ?_ | intro _)
      (first | (apply L_P; (· exact rfl); (· exact rfl)) | (apply QL_P; (· exact rfl))); (· (apply P_slSlN; (· exact evA); (· exact Bound.nat rfl); (· exact Bound.nat rfl); (· omega); (· omega); (· exact (show n - i = 1 by omega)); (· exact rfl)))
      repeat (first | refine stepA ?_ | intro _)
      apply L_clear
      · exact evA
      · exact repA
      · exact rfl
      · simp [Value.oneCell']
      · rw [lay_at1 (by rw [hlt, Nat.zero_add]), ← List.append_nil (ivs (l.take i)), ← hd0]
      · omega
      repeat (first | refine stepA ?_ | intro _)
      (first | refine retA ?_ | refine retB ?_)
      refine ⟨_, ⟨by rw [show n - 1 = i by omega]; rfl, _, ?_, rfl⟩, subA⟩
      simp only [List.length_append, List.length_drop, List.length_cons, List.length_nil] at hc ⊢
      omega
  · have hnl : (ivs (l.drop (i + 1))).length ≤ (ivs (l.drop i) ++ ys).length := by rw [List.length_append]; omega
    refine Spec_body Tryz.func79 rfl Tryz.ntmps79 rfl (fun w0 => ?_)
    repeat (first | refine stepA ?_ | intro _)
    (first | (apply L_P; (· exact rfl); (· exact rfl)) | (apply QL_P; (· exact rfl))); (· (apply P_sl3b; (· exact evA); (· exact Bound.nat rfl); (· exact Bound.of (j := i + 1) rfl (by omega)); (· exact Bound.nat rfl); (· omega); (· omega); (· exact hcn)))
    repeat (first | refine stepA ?_ | intro _)
    refine W_any [(g, .cells (ivs (l.take i) ++ (ivs (l.drop i) ++ ys)) 3)] [6] rfl ?_
    refine AS_at 0 (by decide +kernel) ?_; refine takeA ?_
    refine AS_at 1 (by decide +kernel) ?_; refine takeA ?_
    refine AS_at 3 (by decide +kernel) ?_; refine takeA ?_
    refine AS_at 4 (by decide +kernel) ?_; refine takeA ?_
    refine AS_two 2 5 rfl (by decide +kernel) rfl rfl ?_ ?_
    · skip
      (first | (apply L_P; (· exact rfl); (· exact rfl)) | (apply QL_P; (· exact rfl))); (· (apply P_slP0; (· exact evA); (· exact Bound.nat rfl); (· omega)))
      refine L_nil ?_; refine ⟨rfl, (by first | exact KeepsH.brk (by decide +kernel) | exact KeepsH.sub subA | exact KeepsH.sub subT), ?_⟩
      refine AS_one 5 rfl (by decide +kernel) rfl ?_
      (first | (apply L_P; (· exact rfl); (· exact rfl)) | (apply QL_P; (· exact rfl))); (· (apply P_slSlN; (· exact evA); (· exact Bound.of (j := i + 1) rfl (by omega)); (· exact Bound.none); (· omega); (· omega); (· exact rfl); (· exact rfl)))
      refine L_nil ?_; refine ⟨rfl, (by first | exact KeepsH.brk (by decide +kernel) | exact KeepsH.sub subA | exact KeepsH.sub subT), ?_⟩
      refine AS_one 6 rfl (by decide +kernel) rfl ?_
      apply L_appendRoom
      · exact rfl
      · exact evA
      · exact evA
      · exact repA
      · exact hlt
      · exact Lies.cells (k := (n - (i + 1)) * 1) (news := ivs (l.drop (i + 1))) pullA (by rw [Nat.zero_add, ← List.append_assoc, ← ivs_append, List.take_append_drop, List.drop_append_of_le_length (by omega), List.take_append_of_le_length (by rw [List.length_drop]; omega), drop_ivs, List.take_of_length_le (by omega)])
      · exact hle
      · exact ivs_one _
      · omega
      · exact hc
      refine L_nil ?_; refine ⟨rfl, (by first | exact KeepsH.brk (by decide +kernel) | exact KeepsH.sub subA | exact KeepsH.sub subT), ?_⟩
      refine AS_at 7 (by decide +kernel) ?_; refine takeA ?_
      refine AS_done (by decide +kernel) ?_
      repeat (first | refine stepA ?_ | intro _)
      (first | (apply L_P; (· exact rfl); (· exact rfl)) | (apply QL_P; (· exact rfl))); (· (apply P_slSlN; (· exact evA); (· exact Bound.nat rfl); (· exact Bound.nat rfl); (· omega); (· omega); (· exact (show n - (i + (n - (i + 1))) = 1 by omega)); (· exact rfl)))
      repeat (first | refine stepA ?_ | intro _)
      apply L_clear
      · exact evA
      · exact repA
      · exact rfl
      · simp [Value.oneCell']
      · exact lay_at1 (by rw [List.length_append]; omega)
      · simp only [List.length_append, List.length_drop] at hc ⊢; omega
      repeat (first | refine stepA ?_ | intro _)
      (first | refine retA ?_ | refine retB ?_)
      refine ⟨_, ⟨by rw [show n - 1 = i + (n - (i + 1)) by omega]; rfl, _, ?_, rfl⟩, subA⟩
      simp only [List.length_append, List.length_drop, List.length_cons, List.length_nil] at hc ⊢
      omega
    · skip
      (first | (apply L_P; (· exact rfl); (· exact rfl)) | (apply QL_P; (· exact rfl))); (· (apply P_slSlN; (· exact evA); (· exact Bound.of (j := i + 1) rfl (by omega)); (· exact Bound.none); (· omega); (· omega); (· exact rfl); (· exact rfl)))
      refine L_nil ?_; refine ⟨rfl, (by first | exact KeepsH.brk (by decide +kernel) | exact KeepsH.sub subA | exact KeepsH.sub subT), ?_⟩
      refine AS_one 2 rfl (by decide +kernel) rfl ?_
      (first | (apply L_P; (· exact rfl); (· exact rfl)) | (apply QL_P; (· exact rfl))); (· (apply P_slP0; (· exact evA); (· exact Bound.nat rfl); (· omega)))
      refine L_nil ?_; refine ⟨rfl, (by first | exact KeepsH.brk (by decide +kernel) | exact KeepsH.sub subA | exact KeepsH.sub subT), ?_⟩
      refine AS_one 6 rfl (by decide +kernel) rfl ?_
      apply L_appendRoom
      · exact rfl
      · exact evA
      · exact evA
      · exact repA
      · exact hlt
      · exact Lies.cells (k := (n - (i + 1)) * 1) (news := ivs (l.drop (i + 1))) pullA (by rw [Nat.zero_add, ← List.append_assoc, ← ivs_append, List.take_append_drop, List.drop_append_of_le_length (by omega), List.take_append_of_le_length (by rw [List.length_drop]; omega), drop_ivs, List.take_of_length_le (by omega)])
      · exact hle
      · exact ivs_one _
      · omega
      · exact hc
      refine L_nil ?_; refine ⟨rfl, (by first | exact KeepsH.brk (by decide +kernel) | exact KeepsH.sub subA | exact KeepsH.sub subT), ?_⟩
      refine AS_at 7 (by decide +kernel) ?_; refine takeA ?_
      refine AS_done (by decide +kernel) ?_
      repeat (first | refine stepA ?_ | intro _)
      (first | (apply L_P; (· exact rfl); (· exact rfl)) | (apply QL_P; (· exact rfl))); (· (apply P_slSlN; (· exact evA); (· exact Bound.nat rfl); (· exact Bound.nat rfl); (· omega); (· omega); (· exact (show n - (i + (n - (i + 1))) = 1 by omega)); (· exact rfl)))
      repeat (first | refine stepA ?_ | intro _)
      apply L_clear
      · exact evA
      · exact repA
      · exact rfl
      · simp [Value.oneCell']
      · exact lay_at1 (by rw [List.length_append]; omega)
      · simp only [List.length_append, List.length_drop] at hc ⊢; omega
      repeat (first | refine stepA ?_ | intro _)
      (first | refine retA ?_ | refine retB ?_)
      refine ⟨_, ⟨by rw [show n - 1 = i + (n - (i + 1)) by omega]; rfl, _, ?_, rfl⟩, subA⟩
      simp only [List.length_append, List.length_drop, List.length_cons, List.length_nil] at hc ⊢
      omega
end Go.Proofs.YtcpfmjlceoiofaaGreatDoor

/-
  The kernel: those who wait, one by one.
-/
namespace Go.Proofs.YtcpfmjlceoiofaaGreatDoor
open Go.RowKit
attribute [local irreducible] W L QL PureOp thenQ blockQ retQ Spec IterOk YSpec roundQ scopeQ noGoQ
attribute [local irreducible] AS ASi IterOkC retD retE
set_option maxHeartbeats 6400000
set_option maxRecDepth 4000
abbrev knW (σ : KS) (g n c : Nat) : Nat × Blk := (σ.k, .cells [σ.m.ptr, ptrB σ.pr, ptrB σ.fr, ptrB σ.pi, ptrB σ.se, ptrB σ.qu, ptrB σ.sg, .map (some σ.tm), .slice (some ⟨g, 0, none⟩) n c] 67)
abbrev wiB (g : Nat) (ws : List Int) (ys : List Value) : Nat × Blk := (g, .cells (ivs ws ++ ys) 3)
theorem sleepersW_iter (σ : KS) (b g c : Nat) (ws : List Int) (ys : List Value) (hl : ws.length ≤ 1000) : IterOkC Tryz.prog 167 [ptrB b]
    (fun (I J : Nat → Hp → Prop) => (∀ k H, I k H → ∃ R, Cut [kpB b σ.k, knW σ g ws.length c, wiB g ws ys] H R) ∧ ∀ k H, J k H → I (k + 1) H)
    (fun k => k < ws.length) (fun k => [.int .i64 (k : Int), .int .i64 (ws[k]?.getD 0)]) (fun k => k = ws.length) 0 := by
  unfold IterOkC
  rintro y I J S ⟨hA, hJ⟩ hy H h0
  obtain ⟨R, hcut⟩ := hA 0 H h0
  refine Spec_body Tryz.func167 rfl Tryz.ntmps167 rfl (fun w0 => ?_)
  refine W_perm hcut.perm ?_
  simp only [List.cons_append, List.nil_append]
  repeat (first | refine stepA ?_ | intro _)
  refine W_loop (fun x : Nat × Hp => [(0, .func (.yield y) #[] #[]), (1, ptrB b), (8, .slice (some ⟨g, 0, none⟩) ws.length c), (9, .int .i64 (ws.length : Int)), (10, .int .i64 (x.1 : Int))]) (fun x => x.2) (fun x => x.1 ≤ ws.length ∧ I x.1 x.2) (fun x => ws.length - x.1) (0, H) ⟨Nat.zero_le _, h0⟩ sublA (Sub.ofPermR (R := []) (by rw [List.append_nil]; exact hcut.perm)) ?_
  rintro ⟨k, Hk⟩ ⟨hk, hIk⟩
  simp only at hk hIk ⊢
  obtain ⟨Rk, hck⟩ := hA k Hk hIk
  by_cases hlt : k < ws.length
  · obtain ⟨u, hu⟩ : ∃ u, ws[k]? = some u := ⟨ws[k]'hlt, by simp⟩
    have hu2 : (ivs ws ++ ys)[k]? = some (.int .i64 u) := ivs_get hu
    refine W_perm hck.perm ?_
    simp only [List.cons_append, List.nil_append]
    repeat (first | refine stepA ?_ | intro _)
    have hyk := hy k Hk hIk hlt
    simp only [hu, Option.getD_some] at hyk
    refine L_yield rfl (ev_of rfl (by with_reducible rfl)) rfl hyk (R0 := []) ?_ ?_
    · rw [List.append_nil]
      exact hck.perm.symm
    · rintro b H' hb
      rcases hb with ⟨rfl, hb⟩ | ⟨rfl, hb⟩
      · repeat (first | refine stepA ?_ | intro _)
        exact ⟨rfl, (k + 1, H'), ⟨hlt, hJ k H' hb⟩, by simp only; omega, sublA, Sub.ofPermR (R := []) (List.Perm.refl _)⟩
      · repeat (first | refine stepA ?_ | intro _)
        (first | refine retA ?_ | refine retB ?_)
        exact ⟨_, .inr hb, Sub.ofPermR (R := []) (List.Perm.refl _)⟩
  · obtain rfl : k = ws.length := by omega
    repeat (first | refine stepA ?_ | intro _)
    (first | refine retA ?_ | refine retB ?_)
    exact ⟨_, .inl ⟨_, rfl, hIk⟩, Sub.ofPermR (R := []) (by rw [List.append_nil])⟩
end Go.Proofs.YtcpfmjlceoiofaaGreatDoor
