/-
  Joined texts; each begins with its own sentence.
-/
import Derived.Test.YtcpfmjlceoiofaaGreatDoorN34
import Derived.Test.YtcpfmjlceoiofaaGreatDoorN39
set_option linter.unusedSimpArgs false
set_option linter.unusedVariables false
set_option linter.unusedSectionVars false
/-
  Processes: Sleep; who is roused.
-/
namespace Go.Proofs.YtcpfmjlceoiofaaGreatDoor
open Go.RowKit
attribute [local irreducible] W L QL PureOp thenQ blockQ retQ Spec IterOk YSpec roundQ scopeQ noGoQ
attribute [local irreducible] AS ASi IterOkC retD retE
set_option maxHeartbeats 6400000
set_option maxRecDepth 4000
abbrev asleepP (p : PR) (s : List UInt8) : PR := { p with state := 2, chan := s }
section
variable (r mb : Nat) (last : Int) (L : List PE) (c : Nat)
theorem prsleep_run (pid : Int) (s : List UInt8) {x : PE} (hx : findP L pid = some x) (hrun : x.p.state = 1) : Spec Tryz.prog 27 [ptrB r, .int .i64 pid, str s] (psH r mb last L c) fun v H' => v = .int .i64 0 ∧ H' = psH r mb last (setP L pid (asleepP x.p s)) c := by
  obtain ⟨T, hT, hset, -⟩ := prB_at hx
  have hpid := findP_pid hx
  refine Spec_body Tryz.func27 rfl Tryz.ntmps27 rfl (fun w0 => ?_)
  repeat (first | refine stepA ?_ | intro _)
  refine callT ?_; refine ⟨_, _, prrun_spec r mb last L c pid, _, cutT, ?_⟩
  rintro v H' ⟨rfl, rfl⟩
  simp only [runV, runE, hx, Option.elim, hrun, if_true, List.cons_append, List.nil_append]
  obtain ⟨xb, xw, xp⟩ := x
  simp only at hrun hpid hT hset ⊢
  repeat (first | refine stepA ?_ | intro _)
  refine L_tail hT ?_
  simp only [List.cons_append, List.nil_append]
  repeat (first | refine stepA ?_ | intro _)
  (first | refine retA ?_ | refine retB ?_)
  refine ⟨_, ⟨rfl, rfl⟩, ?_⟩
  show Sub (tbB r mb last :: (mb, mapB ((setP L pid _).map PE.kv) c) :: prB (setP L pid _)) _
  rw [setP_kv (by exact hpid)]
  refine Sub.back (hset (asleepP xp s)) ?_
  simp only [List.cons_append, List.nil_append]
  exact subT
end
abbrev rzB (b p : Nat) : Nat × Blk := (b, .cells [ptrB p] 113)
abbrev wokeP (p : PR) : PR := { p with state := 1, chan := [] }
theorem rouse_spec (b : Nat) : Spec Tryz.prog 169 [ptrB b] [] fun v H' => ∃ g, v = .func (.func 291) #[] #[ptrB g] ∧ H' = [rzB g b] := by
  refine Spec_body Tryz.func169 rfl Tryz.ntmps169 rfl (fun w0 => ?_)
  repeat (first | refine stepA ?_ | intro _)
  rename_i g
  (first | refine retA ?_ | refine retB ?_)
  exact ⟨_, ⟨g, rfl, rfl⟩, subA⟩
theorem rouse1_spec (g b : Nat) (p : PR) : Spec Tryz.prog 291 [ptrB g] [rzB g b, prK b p] fun _ H' => H' = [rzB g b, prK b (wokeP p)] := by
  refine Spec_body Tryz.func291 rfl Tryz.ntmps291 rfl (fun w0 => ?_)
  repeat (first | refine stepA ?_ | intro _)
  refine W_any [rzB g b] [] rfl ?_
  refine AS_at 0 (by decide +kernel) ?_; refine takeA ?_
  refine AS_at 1 (by decide +kernel) ?_; refine takeA ?_
  refine AS_at 2 (by decide +kernel) ?_; refine takeA ?_
  refine AS_at 3 (by decide +kernel) ?_; refine takeA ?_
  refine AS_one 4 rfl (by decide +kernel) rfl ?_
  refine stepA ?_
  refine L_nil ?_; refine ⟨rfl, (by first | exact KeepsH.brk (by decide +kernel) | exact KeepsH.sub subA | exact KeepsH.sub subT), ?_⟩
  refine AS_at 5 (by decide +kernel) ?_; refine takeA ?_
  refine AS_at 6 (by decide +kernel) ?_; refine takeA ?_
  refine AS_one 7 rfl (by decide +kernel) rfl ?_
  refine stepA ?_
  refine L_nil ?_; refine ⟨rfl, (by first | exact KeepsH.brk (by decide +kernel) | exact KeepsH.sub subA | exact KeepsH.sub subT), ?_⟩
  refine AS_done (by decide +kernel) ?_
  repeat (first | refine stepA ?_ | intro _)
  (first | refine retA ?_ | refine retB ?_)
  exact ⟨_, rfl, subA⟩
end Go.Proofs.YtcpfmjlceoiofaaGreatDoor

/-
  Processes: Wake.
-/
namespace Go.Proofs.YtcpfmjlceoiofaaGreatDoor
open Go.RowKit
attribute [local irreducible] W L QL PureOp thenQ blockQ retQ Spec IterOk YSpec roundQ scopeQ noGoQ
attribute [local irreducible] AS ASi IterOkC retD retE
set_option maxHeartbeats 6400000
set_option maxRecDepth 4000
def rouseP (s : List UInt8) (p : PR) : PR := if p.state = 2 ∧ p.chan = s then wokeP p else p
theorem rouse_pid (s : List UInt8) (p : PR) : (rouseP s p).pid = p.pid := by unfold rouseP; split <;> rfl
abbrev wsB (b : Nat) (s : List UInt8) : Nat × Blk := (b, .cells [str s] 9)
abbrev woB (b : Nat) (a : Option Addr) (n cap : Nat) : Nat × Blk := (b, .cells [.slice a n cap] 22)
section
variable (r mb : Nat) {last : Int} {L : List PE} {c : Nat}
theorem prwake_spec (h : WfP L last c) (s : List UInt8) : Spec Tryz.prog 78 [ptrB r, str s] (psH r mb last L c) fun v H' => (∃ a n cap, v = .slice a n cap) ∧ H' = psH r mb last (mapP L (rouseP s)) c := by
  refine Spec_body Tryz.func78 rfl Tryz.ntmps78 rfl (fun w0 => ?_)
  repeat (first | refine stepA ?_ | intro _)
  rename_i b3 b5
  refine callA ?_; refine ⟨_, _, all_spec r, _, cutA, ?_⟩
  rintro v H' ⟨bt, rfl, rfl⟩
  simp only [List.cons_append, List.nil_append]
  repeat (first | refine stepA ?_ | intro _)
  have inst : FnOk Tryz.prog 290 := inferInstance
  obtain ⟨K, hK⟩ : ∃ K : Nat → Option Addr → Nat → Nat → Hp → Hp, K = fun k a n cap Hs => tpB bt r :: tbB r mb last :: ksB mb (L.map PE.kv) c :: wsB b3 s :: woB b5 a n cap :: (prB (mapIn L ((ksS (L.map PE.kv)).take k) (rouseP s)) ++ Hs) := ⟨_, rfl⟩
  refine W_rangeC rfl (ev_of rfl (by with_reducible rfl)) inst (all_iter r mb last bt h.ks) (fun _ => rfl) (by simp)
    (fun k Hc => ∃ a n cap xs Hs, n ≤ k ∧ Own 3 1 a n cap xs Hs ∧ Hc = K k a n cap Hs)
    (fun k Hc => ∃ a n cap xs Hs, n ≤ k + 1 ∧ Own 3 1 a n cap xs Hs ∧ Hc = K (k + 1) a n cap Hs)
    (fun _ _ => False)
    (fun u v => ⟨by
      rintro k H ⟨Hc, ⟨a, n, cap, xs, Hs, hn, how, rfl⟩, rfl⟩
      rw [hK]
      exact ⟨_, .cons (.there (.there .here)) (.cons (.there (.there .here)) (.cons (.there (.there .here)) .nil))⟩, fun k H h => h⟩)
    ⟨_, ⟨none, 0, 0, [], [], Nat.le_refl _, Own.nil, rfl⟩, by rw [hK]; simp only [List.take_zero, mapIn_nil, List.append_nil]; exact subT⟩ ?_ ?_ ?_
  · rintro y k Hc w1 ⟨a, n, cap, xs, Hs, hn, how, rfl⟩ hk
    rw [List.length_map] at hk
    have hlen := h.len
    obtain ⟨u, z, hu, hz, hat⟩ := ks_at hk
    obtain ⟨hnt, htk⟩ := nodup_take_get (ks_nodup h.nd) hu
    obtain ⟨hz2, hst⟩ := mapIn_step (rouse_pid s) hnt h.nd hz
    rw [hat, hK]
    simp only
    obtain ⟨T2, hT2, hset2, -⟩ := prB_at hz2
    have hTj : (prB (mapIn L ((ksS (L.map PE.kv)).take k) (rouseP s)) ++ Hs).Perm (prK z.b z.p :: (T2 ++ Hs)) := List.Perm.append_right Hs hT2
    (first | refine W_tail hTj ?_ | refine L_tail hTj ?_)
    simp only [List.cons_append, List.nil_append]
    repeat (first | refine stepA ?_ | intro _)
    refine ⟨rfl, fun w2 => ?_⟩
    repeat (first | refine stepA ?_ | intro _)
    by_cases hs2 : z.p.state = 2
    · by_cases hch : z.p.chan = s
      · have ho : rouseP s z.p = wokeP z.p := by rw [rouseP, if_pos ⟨hs2, hch⟩]
        have hT := hset2 (rouseP s z.p)
        rw [ho] at hT
        refine W_any [wsB b3 s, prK z.b z.p] [] rfl ?_
        refine AS_at 0 (by decide +kernel) ?_; refine takeA ?_
        refine AS_one 1 rfl (by decide +kernel) rfl ?_
        refine stepA ?_
        intro g
        refine L_nil ?_; refine ⟨rfl, (by first | exact KeepsH.brk (by decide +kernel) | exact KeepsH.sub subA | exact KeepsH.sub subT), ?_⟩
        refine AS_one 2 rfl (by decide +kernel) rfl ?_
        refine callA ?_; refine ⟨_, _, isof_spec z.b z.p g 1 2, _, cutA, ?_⟩
        rintro v H' ⟨rfl, rfl⟩
        simp only [List.cons_append, List.nil_append]
        rw [decide_eq_true hs2]
        refine L_nil ?_; refine ⟨rfl, (by first | exact KeepsH.brk (by decide +kernel) | exact KeepsH.sub subA | exact KeepsH.sub subT), ?_⟩
        refine AS_at 3 (by decide +kernel) ?_; refine takeA ?_
        refine AS_at 4 (by decide +kernel) ?_; refine takeA ?_
        refine AS_at 5 (by decide +kernel) ?_; refine takeA ?_
        refine AS_at 6 (by decide +kernel) ?_; refine takeA ?_
        refine AS_at 7 (by decide +kernel) ?_; refine takeA ?_
        refine AS_at 8 (by decide +kernel) ?_; refine takeA ?_
        refine AS_at 9 (by decide +kernel) ?_; refine takeA ?_
        refine AS_at 10 (by decide +kernel) ?_; refine takeA ?_
        refine AS_done (by decide +kernel) ?_
        repeat (first | refine stepA ?_ | intro _)
        refine callA ?_; refine ⟨_, _, rouse_spec z.b, _, cutA, ?_⟩
        rintro v H' ⟨gg, rfl, rfl⟩
        simp only [List.cons_append, List.nil_append]
        repeat (first | refine stepA ?_ | intro _)
        refine callA ?_; refine ⟨_, _, rouse1_spec gg z.b z.p, _, cutA, ?_⟩
        rintro v H' rfl
        simp only [List.cons_append, List.nil_append]
        repeat (first | refine stepA ?_ | intro _)
        refine W_any [prK z.b (wokeP z.p), woB b5 a n cap] [7] rfl ?_
        refine AS_at 0 (by decide +kernel) ?_; refine takeA ?_
        refine AS_at 1 (by decide +kernel) ?_; refine takeA ?_
        refine AS_at 2 (by decide +kernel) ?_; refine takeA ?_
        refine AS_at 3 (by decide +kernel) ?_; refine takeA ?_
        refine AS_at 4 (by decide +kernel) ?_; refine takeA ?_
        refine AS_one 5 rfl (by decide +kernel) rfl ?_
        refine stepA ?_
        intro g2
        refine L_nil ?_; refine ⟨rfl, (by first | exact KeepsH.brk (by decide +kernel) | exact KeepsH.sub subA | exact KeepsH.sub subT), ?_⟩
        refine AS_one 6 rfl (by decide +kernel) rfl ?_
        apply L_append
        · exact rfl
        · exact evA
        · exact evA
        · exact how
        · exact List.perm_append_comm (l₁ := (g2, .cells [.int .i64 z.p.pid] 3) :: rzB gg z.b :: prK z.b (wokeP z.p) :: (g, .cells [.int .i64 2] 3) :: tpB bt r :: tbB r mb last :: ksB mb (L.map PE.kv) c :: wsB b3 s :: woB b5 a n cap :: T2) (l₂ := Hs)
        · exact Lies.cells (k := 1) (news := [.int .i64 z.p.pid]) pullA rfl
        · rfl
        · simp [Value.oneCell']
        · omega
        · simp only [maxLen]; omega
        · omega
        · rfl
        rintro g3 cap' ys h1' h2' h3'
        refine L_nil ?_; refine ⟨rfl, (by first | exact KeepsH.brk (by decide +kernel) | exact KeepsH.sub subA | exact KeepsH.sub subT), ?_⟩
        refine AS_one 7 rfl (by decide +kernel) rfl ?_
        refine stepA ?_
        refine L_nil ?_; refine ⟨rfl, (by first | exact KeepsH.brk (by decide +kernel) | exact KeepsH.sub subA | exact KeepsH.sub subT), ?_⟩
        refine AS_done (by decide +kernel) ?_
        repeat (first | refine stepA ?_ | intro _)
        have how2 : Own 3 1 (some ⟨g3, 0, none⟩) (n + 1) cap' (xs ++ [.int .i64 z.p.pid]) [(g3, .cells (xs ++ [.int .i64 z.p.pid] ++ ys) 3)] := Own.blk (by simp [how.len]) h1' h2' h3'
        exact roundQ_n (Hc := K (k + 1) (some ⟨g3, 0, none⟩) (n + 1) cap' [(g3, .cells (xs ++ [.int .i64 z.p.pid] ++ ys) 3)]) ⟨_, n + 1, cap', _, _, by omega, how2, by rw [hK]⟩ (by
          rw [hK]; simp only; rw [htk, hst, ho]
          refine Sub.ofPermR (R := [(g2, .cells [.int .i64 z.p.pid] 3), rzB gg z.b, (g, .cells [.int .i64 2] 3)]) ?_
          classical
          refine List.perm_iff_count.2 fun x => ?_
          have q := hT.count_eq x
          simp only [List.cons_append, List.count_append, List.count_cons, List.count_nil, Nat.add_zero, Nat.zero_add] at q ⊢
          rw [q]
          ac_rfl)
      · have ho : rouseP s z.p = z.p := by rw [rouseP, if_neg (fun hh => hch hh.2)]
        have hT := hset2 (rouseP s z.p)
        rw [ho] at hT
        refine W_any [wsB b3 s, prK z.b z.p] [] rfl ?_
        refine AS_at 0 (by decide +kernel) ?_; refine takeA ?_
        refine AS_one 1 rfl (by decide +kernel) rfl ?_
        refine stepA ?_
        intro g
        refine L_nil ?_; refine ⟨rfl, (by first | exact KeepsH.brk (by decide +kernel) | exact KeepsH.sub subA | exact KeepsH.sub subT), ?_⟩
        refine AS_one 2 rfl (by decide +kernel) rfl ?_
        refine callA ?_; refine ⟨_, _, isof_spec z.b z.p g 1 2, _, cutA, ?_⟩
        rintro v H' ⟨rfl, rfl⟩
        simp only [List.cons_append, List.nil_append]
        rw [decide_eq_true hs2]
        refine L_nil ?_; refine ⟨rfl, (by first | exact KeepsH.brk (by decide +kernel) | exact KeepsH.sub subA | exact KeepsH.sub subT), ?_⟩
        refine AS_at 3 (by decide +kernel) ?_; refine takeA ?_
        refine AS_at 4 (by decide +kernel) ?_; refine takeA ?_
        refine AS_at 5 (by decide +kernel) ?_; refine takeA ?_
        refine AS_at 6 (by decide +kernel) ?_; refine takeA ?_
        refine AS_at 7 (by decide +kernel) ?_; refine takeA ?_
        refine AS_at 8 (by decide +kernel) ?_; refine takeA ?_
        refine AS_at 9 (by decide +kernel) ?_; refine takeA ?_
        refine AS_at 10 (by decide +kernel) ?_; refine takeA ?_
        refine AS_done (by decide +kernel) ?_
        repeat (first | refine stepA ?_ | intro _)
        exact roundQ_n (Hc := K (k + 1) a n cap Hs) ⟨a, n, cap, xs, Hs, by omega, how, by rw [hK]⟩ (by rw [hK]; simp only; rw [htk, hst, ho]; refine Sub.back (List.Perm.append_right Hs hT) ?_; simp only [List.cons_append, List.nil_append]; exact subT)
    · have ho : rouseP s z.p = z.p := by rw [rouseP, if_neg (fun hh => hs2 hh.1)]
      have hT := hset2 (rouseP s z.p)
      rw [ho] at hT
      refine W_any [wsB b3 s, prK z.b z.p] [] rfl ?_
      refine AS_at 0 (by decide +kernel) ?_; refine takeA ?_
      refine AS_one 1 rfl (by decide +kernel) rfl ?_
      refine stepA ?_
      intro g
      refine L_nil ?_; refine ⟨rfl, (by first | exact KeepsH.brk (by decide +kernel) | exact KeepsH.sub subA | exact KeepsH.sub subT), ?_⟩
      refine AS_one 2 rfl (by decide +kernel) rfl ?_
      refine callA ?_; refine ⟨_, _, isof_spec z.b z.p g 1 2, _, cutA, ?_⟩
      rintro v H' ⟨rfl, rfl⟩
      simp only [List.cons_append, List.nil_append]
      rw [decide_eq_false hs2]
      refine L_nil ?_; refine ⟨rfl, (by first | exact KeepsH.brk (by decide +kernel) | exact KeepsH.sub subA | exact KeepsH.sub subT), ?_⟩
      refine AS_at 3 (by decide +kernel) ?_; refine takeA ?_
      refine AS_at 4 (by decide +kernel) ?_; refine takeA ?_
      refine AS_at 5 (by decide +kernel) ?_; refine takeA ?_
      refine AS_at 6 (by decide +kernel) ?_; refine takeA ?_
      refine AS_at 7 (by decide +kernel) ?_; refine takeA ?_
      refine AS_at 8 (by decide +kernel) ?_; refine takeA ?_
      refine AS_at 9 (by decide +kernel) ?_; refine takeA ?_
      refine AS_at 10 (by decide +kernel) ?_; refine takeA ?_
      refine AS_done (by decide +kernel) ?_
      repeat (first | refine stepA ?_ | intro _)
      exact roundQ_n (Hc := K (k + 1) a n cap Hs) ⟨a, n, cap, xs, Hs, by omega, how, by rw [hK]⟩ (by rw [hK]; simp only; rw [htk, hst, ho]; refine Sub.back (List.Perm.append_right Hs hT) ?_; simp only [List.cons_append, List.nil_append]; exact subT)
  · rintro D k Hc rfl ⟨a, n, cap, xs, Hs, hn, how, rfl⟩
    have hall : mapIn L ((ksS (L.map PE.kv)).take (L.map PE.kv).length) (rouseP s) = mapP L (rouseP s) := by
      rw [List.take_of_length_le (by rw [ksS_len]; exact Nat.le_refl _)]
      exact mapIn_all _ fun x hx => ks_mem hx
    rw [hK]
    simp only
    rw [hall]
    repeat (first | refine stepA ?_ | intro _)
    (first | refine retA ?_ | refine retB ?_)
    refine ⟨_, ⟨⟨_, _, _, rfl⟩, rfl⟩, ?_⟩
    show Sub (tbB r mb last :: (mb, mapB ((mapP L (rouseP s)).map PE.kv) c) :: prB (mapP L (rouseP s))) _
    rw [mapP_kv (rouse_pid s)]
    show Sub (tbB r mb last :: ksB mb (L.map PE.kv) c :: prB (mapP L (rouseP s))) _
    refine Sub.ofPermR (R := tpB bt r :: wsB b3 s :: woB b5 a n cap :: Hs) ?_
    classical
    refine List.perm_iff_count.2 fun x => ?_
    simp only [List.cons_append, List.count_append, List.count_cons]
    ac_rfl
  · rintro D c Hc h
    exact h.elim
end
end Go.Proofs.YtcpfmjlceoiofaaGreatDoor

/-
  Channels: the text of a small number.
-/
namespace Go.Proofs.YtcpfmjlceoiofaaGreatDoor
open Go.RowKit
attribute [local irreducible] W L QL PureOp thenQ blockQ retQ Spec IterOk YSpec roundQ scopeQ noGoQ
attribute [local irreducible] AS ASi IterOkC retD retE
set_option maxHeartbeats 6400000
set_option maxRecDepth 4000
def digs : List UInt8 := [48, 49, 50, 51, 52, 53, 54, 55, 56, 57, 97, 98, 99, 100, 101, 102, 103, 104, 105, 106, 107, 108, 109, 110, 111, 112, 113, 114, 115, 116, 117, 118, 119, 120, 121, 122]
def chanOf (n : Nat) : List UInt8 := (digs.drop n).take (n + 1 - n)
theorem small_ten (n : Nat) (hn : n < 10) : Spec Tryz.prog 363 [.int .i64 (n : Int)] [] fun v H' => v = str (chanOf n) ∧ H' = [] := by
  refine Spec_body Tryz.func363 rfl Tryz.ntmps363 rfl (fun w0 => ?_)
  have e : (n : Int) + 1 = ((n + 1 : Nat) : Int) := by omega
  repeat (first | refine stepA ?_ | intro _)
  rw [e]
  (first | (apply L_P; (· exact rfl); (· exact rfl)) | (apply QL_P; (· exact rfl))); (· (apply P_slStr; (· exact (show ev _ _ = some (str digs) from rfl)); (· exact Bound.nat rfl); (· exact Bound.nat rfl); (· (simp [digs]; omega))))
  repeat (first | refine stepA ?_ | intro _)
  (first | refine retA ?_ | refine retB ?_); exact ⟨_, ⟨rfl, rfl⟩, subA⟩
instance fokI0 : FnOk Tryz.prog 363 := ⟨fun a w => enters_of Tryz.func363 (by kernel_rfl) rfl a w⟩
instance fokI1 : FnOk Tryz.prog 289 := ⟨fun a w => enters_of Tryz.func289 (by kernel_rfl) rfl a w⟩
instance fokI2 : FnOk Tryz.prog 166 := ⟨fun a w => enters_of Tryz.func166 (by kernel_rfl) rfl a w⟩
instance fokI3 : FnOk Tryz.prog 76 := ⟨fun a w => enters_of Tryz.func76 (by kernel_rfl) rfl a w⟩
theorem channel_ten (n : Nat) (hn : n < 10) : Spec Tryz.prog 28 [.int .i64 (n : Int)] [] fun v H' => v = str (chanOf n) ∧ H' = [] := by
  have h1 : Spec Tryz.prog 289 [.int .i64 (n : Int), .int .i64 10] [] fun v H' => v = str (chanOf n) ∧ H' = [] := by
    refine Spec_body Tryz.func289 rfl Tryz.ntmps289 rfl (fun w0 => ?_)
    repeat (first | refine stepA ?_ | intro _)
    refine callA ?_; refine ⟨_, _, small_ten n hn, _, cutA, ?_⟩
    rintro v H' ⟨rfl, rfl⟩
    simp only [List.cons_append, List.nil_append]
    repeat (first | refine stepA ?_ | intro _)
    (first | refine retA ?_ | refine retB ?_); exact ⟨_, ⟨rfl, rfl⟩, subA⟩
  have h2 : Spec Tryz.prog 166 [.int .i64 (n : Int)] [] fun v H' => v = str (chanOf n) ∧ H' = [] := by
    refine Spec_body Tryz.func166 rfl Tryz.ntmps166 rfl (fun w0 => ?_)
    repeat (first | refine stepA ?_ | intro _)
    refine callA ?_; refine ⟨_, _, h1, _, cutA, ?_⟩
    rintro v H' ⟨rfl, rfl⟩
    simp only [List.cons_append, List.nil_append]
    repeat (first | refine stepA ?_ | intro _)
    (first | refine retA ?_ | refine retB ?_); exact ⟨_, ⟨rfl, rfl⟩, subA⟩
  have h3 : Spec Tryz.prog 76 [.int .i64 (n : Int)] [] fun v H' => v = str (chanOf n) ∧ H' = [] := by
    refine Spec_body Tryz.func76 rfl Tryz.ntmps76 rfl (fun w0 => ?_)
    repeat (first | refine stepA ?_ | intro _)
    refine callA ?_; refine ⟨_, _, h2, _, cutA, ?_⟩
    rintro v H' ⟨rfl, rfl⟩
    simp only [List.cons_append, List.nil_append]
    repeat (first | refine stepA ?_ | intro _)
    (first | refine retA ?_ | refine retB ?_); exact ⟨_, ⟨rfl, rfl⟩, subA⟩
  refine Spec_body Tryz.func28 rfl Tryz.ntmps28 rfl (fun w0 => ?_)
  repeat (first | refine stepA ?_ | intro _)
  refine callA ?_; refine ⟨_, _, h3, _, cutA, ?_⟩
  rintro v H' ⟨rfl, rfl⟩
  simp only [List.cons_append, List.nil_append]
  repeat (first | refine stepA ?_ | intro _)
  (first | refine retA ?_ | refine retB ?_); exact ⟨_, ⟨rfl, rfl⟩, subA⟩
end Go.Proofs.YtcpfmjlceoiofaaGreatDoor

/-
  The kernel: again, where one process waits.
-/
namespace Go.Proofs.YtcpfmjlceoiofaaGreatDoor
open Go.RowKit
attribute [local irreducible] W L QL PureOp thenQ blockQ retQ Spec IterOk YSpec roundQ scopeQ noGoQ
attribute [local irreducible] AS ASi IterOkC retD retE
set_option maxHeartbeats 12800000
set_option maxRecDepth 8000
abbrev kHo (σ : KS) : Hp := tbB σ.pr σ.mb σ.last :: kvB σ.mb σ.L σ.c :: flB σ.fr σ.fm σ.fc :: rmB σ.fm σ.R σ.rc :: tmB σ.tm σ.T σ.tc :: (memH σ.m σ.M ++ kZ σ.L σ.R σ.T σ.E)
theorem knB_W {σ : KS} {g n : Nat} (h1 : σ.wa = some ⟨g, 0, none⟩) (h2 : σ.wn = n) : knB σ = knW σ g n σ.wc := by
  show (σ.k, Blk.cells [_, _, _, _, _, _, _, _, Value.slice σ.wa σ.wn σ.wc] _) = _
  rw [h1, h2]
theorem kH_W {σ : KS} {g n : Nat} (h1 : σ.wa = some ⟨g, 0, none⟩) (h2 : σ.wn = n) : kH σ = knW σ g n σ.wc :: kHo σ := by
  show knB σ :: kHo σ = _
  rw [knB_W h1 h2]
theorem knW_eq {σ τ : KS} (h : knB τ = knB σ) (g n c : Nat) : knW τ g n c = knW σ g n c := by
  simp only [knB, Prod.mk.injEq, Blk.cells.injEq, List.cons.injEq, and_true] at h
  obtain ⟨h1, h2, h3, h4, h5, h6, h7, h8, h9, -⟩ := h
  simp only [knW, h1, h2, h3, h4, h5, h6, h7, h8, h9]
abbrev wokeK (σ : KS) (n : Nat) : KS := { σ with L := mapP σ.L (rouseP (chanOf n)) }
abbrev doneK (σ : KS) (pid : Int) (t : GE TK) (rs : RS) (g c : Nat) : KS := { setR σ pid t rs with wa := some ⟨g, 0, none⟩, wn := 0, wc := c }
theorem Spec.subR {P : Program} {f : FuncId} {args : List Value} {H : Hp} {R R' : Value → Hp → Prop} (h : Spec P f args H R) (hr : ∀ v H1, R v H1 → ∃ H', R' v H' ∧ Sub H' H1) : Spec P f args H R' := by
  unfold Spec at h ⊢
  intro w hw
  refine (h w hw).mono ?_
  rintro e w' ⟨v, H1, rfl, h1, h2, h3, h4⟩
  obtain ⟨H', h5, hs⟩ := hr v H1 h1
  obtain ⟨R0, hc⟩ := hs.cut
  have h2' := (h2.perm hc.perm).left
  exact ⟨v, H', rfl, h5, h2', h3, fun b hb => h4 b ((keys_perm hc.perm).2 (by rw [keys_append]; exact List.mem_append_left _ hb))⟩
/-- what a call tells: nothing is refused, or a refusal lies there -/
def Tells (rs r0 : RS) (u : Value) (y : Nat × Blk) : Prop := (u = .nilIface ∧ r0 = rs) ∨ ∃ b why w, u = .iface 118 (ptrB b) ∧ y = rfB b why w ∧ rs = ⟨why, 0, 0, [], w⟩
theorem result_spec (gx : Nat × Nat × Nat) {rs r0 : RS} {u : Value} {y : Nat × Blk} (h : Tells rs r0 u y) : Spec Tryz.prog 24 [r0.val, u] [gvB gx, y] fun v H' => v = rs.val ∧ H' = [gvB gx] := by
  rcases h with ⟨rfl, rfl⟩ | ⟨b, why, w, rfl, rfl, rfl⟩
  · refine ((result_nil r0).frame [gvB gx, y]).subR ?_
    rintro v H1 ⟨H2, ⟨rfl, rfl⟩, rfl⟩
    exact ⟨_, ⟨rfl, rfl⟩, subA⟩
  · exact result_hit gx r0 b why w
def TellsH (rs r0 : RS) (u : Value) (Hg : Hp) : Prop := (u = .nilIface ∧ r0 = rs ∧ Hg = []) ∨ ∃ b why w, u = .iface 118 (ptrB b) ∧ Hg = [rfB b why w] ∧ rs = ⟨why, 0, 0, [], w⟩
theorem Spec.tells {f : FuncId} {args : List Value} {H : Hp} {C : RS → KS → Prop} {A : Nat × Blk} (z : Nat × Blk)
    (h : Spec Tryz.prog f args H fun v H' => ∃ u r0 Hg rs σ', v = .tuple #[r0.val, u] ∧ TellsH rs r0 u Hg ∧ C rs σ' ∧ H' = Hg ++ A :: kH σ') :
    Spec Tryz.prog f args (z :: H) fun v H' => ∃ u r0 y rs σ', v = .tuple #[r0.val, u] ∧ Tells rs r0 u y ∧ C rs σ' ∧ H' = y :: A :: kH σ' := by
  refine Spec.perm (List.perm_append_comm (l₁ := [z]) (l₂ := H)) ((h.frame [z]).subR ?_)
  rintro v H1 ⟨H2, ⟨u, r0, Hg, rs, σ', rfl, ht, hc, rfl⟩, rfl⟩
  rcases ht with ⟨rfl, rfl, rfl⟩ | ⟨b, why, w, rfl, rfl, rfl⟩
  · exact ⟨_, ⟨_, _, z, _, σ', rfl, .inl ⟨rfl, rfl⟩, hc, rfl⟩, Sub.ofPermR (R := []) (by rw [List.append_nil]; exact List.perm_append_comm (l₁ := [z]) (l₂ := A :: kH σ'))⟩
  · exact ⟨_, ⟨_, _, _, _, σ', rfl, .inr ⟨b, why, w, rfl, rfl, rfl⟩, hc, rfl⟩, Sub.ofPermR (R := [z]) (List.Perm.refl _)⟩
section
variable (σ : KS)
theorem again_one (gx : Nat × Nat × Nat) (g n : Nat) (hn : n < 10) (ys : List Value) (hwa : σ.wa = some ⟨g, 0, none⟩) (hwn : σ.wn = 1) {p : PE} {t : GE TK} (hp : findP σ.L (n : Int) = some p) (ht : findG σ.T (n : Int) = some t) (hst : p.p.state = 2) (hch : p.p.chan = chanOf n) (hL : WfP σ.L σ.last σ.c)
    (f : FuncId) (inst : FnOk Tryz.prog f)
    (hsel : ∀ wb Ls, getL Ls 1 = some (deedV 50 wb) ∧ getL Ls 8 = some (deedV 57 wb) ∧ getL Ls 9 = some (deedV 58 wb) ∧
      getL Ls 18 = some (deedV 67 wb) ∧ getL Ls 19 = some (deedV 68 wb) ∧ getL Ls 20 = some (deedV 69 wb) → getL Ls t.v.c.no = some (deedV f wb))
    (hback : setP (mapP σ.L (rouseP (chanOf n))) (n : Int) (asleepP (wokeP p.p) (chanOf n)) = σ.L)
    (Wt : Prop) (R : RS → KS → Prop)
    (hd : ∀ wb, Spec Tryz.prog f [ptrB wb] (wkD wb σ.k t.ptr (n : Int) p.p.uid p.p.gid t.v.c t.v.da :: kH (wokeK σ n)) fun v H' => ∃ u r0 Hg rs σ', v = .tuple #[r0.val, u] ∧ TellsH rs r0 u Hg ∧ ((Wt ∧ rs = ⟨0, 0, 0, [], true⟩ ∧ σ' = wokeK σ n) ∨ R rs σ') ∧ H' = Hg ++ wkD wb σ.k t.ptr (n : Int) p.p.uid p.p.gid t.v.c t.v.da :: kH σ')
    (hR : ∀ rs σ', R rs σ' → rs.w = false ∧ knB σ' = knB σ ∧ σ'.wc = σ.wc ∧ ∃ t', findG σ'.T (n : Int) = some t' ∧ t'.b = t.b) :
    Spec Tryz.prog 29 [ptrB σ.k] (gvB gx :: wiB g [(n : Int)] ys :: kH σ) fun v H' =>
      (v = .bool false ∧ Wt ∧ H' = gvB gx :: wiB g [(n : Int)] ys :: kH σ) ∨
      (v = .bool true ∧ ∃ rs σ' t' g2 c2 ys2, R rs σ' ∧ findG σ'.T (n : Int) = some t' ∧ t'.b = t.b ∧ (c2 * 1 ≤ ys2.length ∧ c2 ≤ maxLen) ∧ H' = gvB gx :: wiB g2 [] ys2 :: kH (doneK σ' (n : Int) t' rs g2 c2)) := by
  have hkw := kH_W hwa hwn
  rw [hkw]
  have hWk := (prwake_spec σ.pr σ.mb hL (chanOf n)).frame (blkG rowK σ.R ++ (blkG tkB σ.T ++ tkXs σ.T σ.E))
  simp only [List.cons_append, List.nil_append, List.append_assoc] at hWk
  have hp1 : findP (wokeK σ n).L (n : Int) = some ⟨p.b, p.w, wokeP p.p⟩ := by
    show findP (mapP σ.L _) _ = _
    rw [findP_mapP (rouse_pid _), hp]
    simp only [Option.map_some, rouseP, hst, hch, and_self, if_true]
  have hwo := worker_spec (wokeK σ n) (n : Int) t.v.c hp1 ht
  have hkw1 : kH (wokeK σ n) = knW σ g 1 σ.wc :: kHo (wokeK σ n) := kH_W (σ := wokeK σ n) hwa hwn
  rw [hkw1] at hwo
  have hd2 : ∀ wb z, Spec Tryz.prog f [ptrB wb] (z :: wkD wb σ.k t.ptr (n : Int) p.p.uid p.p.gid t.v.c t.v.da :: knW σ g 1 σ.wc :: kHo (wokeK σ n)) _ := fun wb z => by have := hd wb; rw [hkw1] at this; exact this.tells z
  refine Spec_body Tryz.func29 rfl Tryz.ntmps29 rfl (fun w0 => ?_)
  repeat (first | refine stepA ?_ | intro _)
  rename_i b1 b3
  refine callA ?_; refine ⟨_, _, sleepers_spec σ.k, _, cutA, ?_⟩
  rintro v H' ⟨b, rfl, rfl⟩
  simp only [List.cons_append, List.nil_append]
  repeat (first | refine stepA ?_ | intro _)
  have inst2 : FnOk Tryz.prog 167 := inferInstance
  obtain ⟨K, hK⟩ : ∃ K : Hp, K = kpB b σ.k :: kpB b1 σ.k :: (b3, .cells [.bool false] 4) :: gvB gx :: wiB g [(n : Int)] ys :: knW σ g 1 σ.wc :: kHo σ := ⟨_, rfl⟩
  refine W_rangeC rfl (ev_of rfl (by with_reducible rfl)) inst2 (sleepersW_iter σ b g σ.wc [(n : Int)] ys (by simp)) (fun _ => rfl) (by simp)
    (fun k Hc => Hc = K ∧ (0 < k → Wt)) (fun k Hc => Hc = K ∧ Wt)
    (fun cd Hc => cd = .exit 0 ∧ ∃ rs σ' t' g2 c2 ys2, R rs σ' ∧ findG σ'.T (n : Int) = some t' ∧ t'.b = t.b ∧ (c2 * 1 ≤ ys2.length ∧ c2 ≤ maxLen) ∧ Hc = kpB b1 σ.k :: (b3, .cells [.bool true] 4) :: gvB gx :: wiB g2 [] ys2 :: kH (doneK σ' (n : Int) t' rs g2 c2))
    (fun u v => ⟨by
      rintro k H ⟨Hc, ⟨rfl, -⟩, rfl⟩
      rw [hK]
      exact ⟨_, cutA⟩, fun k H ⟨Hc, ⟨h1, h2⟩, h3⟩ => ⟨Hc, ⟨h1, fun _ => h2⟩, h3⟩⟩)
    ⟨_, ⟨rfl, fun h => absurd h (by decide)⟩, by rw [hK]; exact subT⟩ ?_ ?_ ?_
  · rintro y k Hc w1 ⟨rfl, -⟩ hk
    obtain rfl : k = 0 := by simp only [List.length_cons, List.length_nil] at hk; omega
    rw [hK]
    simp only [List.getElem?_cons_zero, Option.getD_some]
    repeat (first | refine stepA ?_ | intro _)
    refine ⟨rfl, fun w2 => ?_⟩
    repeat (first | refine stepA ?_ | intro _)
    (first | (apply L_P; (· exact rfl); (· exact rfl)) | (apply QL_P; (· exact rfl))); (· (apply P_lookup; (· exact evA); (· exact evA); (· exact pullA)))
    rw [getL_g, ht]
    simp only [Option.map_some, Option.getD_some]
    repeat (first | refine stepA ?_ | intro _)
    refine W_any [kpB b1 σ.k, knW σ g 1 σ.wc] [] rfl ?_
    refine AS_at 0 (by decide +kernel) ?_; refine takeA ?_
    refine AS_at 1 (by decide +kernel) ?_; refine takeA ?_
    refine AS_at 2 (by decide +kernel) ?_; refine takeA ?_
    refine AS_at 3 (by decide +kernel) ?_; refine takeA ?_
    refine AS_at 4 (by decide +kernel) ?_; refine takeA ?_
    refine AS_one 5 rfl (by decide +kernel) rfl ?_
    refine callA ?_; refine ⟨_, _, channel_ten n hn, _, cutA, ?_⟩
    rintro v H' ⟨rfl, rfl⟩
    simp only [List.cons_append, List.nil_append]
    refine L_nil ?_; refine ⟨rfl, (by first | exact KeepsH.brk (by decide +kernel) | exact KeepsH.sub subA | exact KeepsH.sub subT), ?_⟩
    refine AS_one 6 rfl (by decide +kernel) rfl ?_
    refine callT ?_; refine ⟨_, _, hWk, _, cutT, ?_⟩
    rintro v H' ⟨H1, ⟨⟨wa0, wn0, wc0, rfl⟩, rfl⟩, rfl⟩
    simp only [List.cons_append, List.nil_append, List.append_assoc]
    refine L_nil ?_; refine ⟨rfl, (by first | exact KeepsH.brk (by decide +kernel) | exact KeepsH.sub subA | exact KeepsH.sub subT), ?_⟩
    refine AS_done (by decide +kernel) ?_
    repeat (first | refine stepA ?_ | intro _)
    obtain ⟨ZT, pT, -, -⟩ := blkG_at tkB ht
    obtain ⟨tb, tw, tk, tv⟩ := t
    simp only at pT hwo hd2 hsel hR
    have pZ : (kZ (wokeK σ n).L σ.R σ.T σ.E).Perm (tkB tb tv :: (prB (wokeK σ n).L ++ (blkG rowK σ.R ++ (ZT ++ tkXs σ.T σ.E)))) := by
      classical
      refine List.perm_iff_count.2 fun x => ?_
      have q1 := pT.count_eq x
      simp only [List.count_append, List.count_cons] at q1 ⊢
      rw [q1]
      ac_rfl
    refine W_tail (T := kZ (wokeK σ n).L σ.R σ.T σ.E) pZ ?_
    simp only [List.cons_append, List.nil_append]
    refine W_any [kpB b1 σ.k, tkB tb tv] [6] rfl ?_
    refine AS_at 0 (by decide +kernel) ?_; refine takeA ?_
    refine AS_at 1 (by decide +kernel) ?_; refine takeA ?_
    refine AS_at 2 (by decide +kernel) ?_; refine takeA ?_
    refine AS_at 3 (by decide +kernel) ?_; refine takeA ?_
    refine AS_at 4 (by decide +kernel) ?_; refine takeA ?_
    refine AS_at 5 (by decide +kernel) ?_; refine takeA ?_
    refine AS_one 6 rfl (by decide +kernel) rfl ?_
    refine L_back (x := tkB tb tv) pZ ?_
    simp only [List.cons_append, List.nil_append]
    refine callT ?_; refine ⟨_, _, hwo, _, cutT, ?_⟩
    rintro v H' ⟨wb, rfl, rfl⟩
    simp only [List.cons_append, List.nil_append]
    refine L_nil ?_; refine ⟨rfl, (by first | exact KeepsH.brk (by decide +kernel) | exact KeepsH.sub subA | exact KeepsH.sub subT), ?_⟩
    refine AS_at 7 (by decide +kernel) ?_; refine takeA ?_
    refine AS_done (by decide +kernel) ?_
    repeat (first | refine stepA ?_ | intro _)
    refine L_tail (T := kZ (wokeK σ n).L σ.R σ.T σ.E) pZ ?_
    simp only [List.cons_append, List.nil_append]
    iterate 12 (first | refine stepA ?_ | intro _ | skip)
    refine W_back (x := tkB tb tv) pZ ?_
    simp only [List.cons_append, List.nil_append]
    obtain ⟨Q1, hQ1⟩ : ∃ Q1 : PostT, Q1 = fun e l' ds' H' => ds' = [] ∧ e = .normal ∧ ∃ b8 rs τ, ((Wt ∧ rs = ⟨0, 0, 0, [], true⟩ ∧ τ = wokeK σ n) ∨ R rs τ) ∧
      Subl [(1, ptrB b1), (3, ptrB b3), (4, .int .i64 ((0 : Nat) : Int)), (5, .int .i64 (n : Int)), (6, ptrB tb), (8, ptrB b8)] l' ∧
      Sub ((b8, .cells rs.cells 31) :: kpB b σ.k :: kpB b1 σ.k :: (b3, .cells [.bool false] 4) :: gvB gx :: wiB g [(n : Int)] ys :: kH τ) H' := ⟨_, rfl⟩
    refine W_mono (Q := Q1) ?_ ?_
    · refine W_any [wkD wb σ.k (ptrB tb) (n : Int) p.p.uid p.p.gid tv.c tv.da] [] rfl ?_
      refine AS_at 0 (by decide +kernel) ?_; refine takeA ?_
      refine AS_at 2 (by decide +kernel) ?_; refine takeA ?_
      refine AS_at 3 (by decide +kernel) ?_; refine takeA ?_
      refine AS_at 4 (by decide +kernel) ?_; refine takeA ?_
      refine AS_at 5 (by decide +kernel) ?_; refine takeA ?_
      refine AS_at 6 (by decide +kernel) ?_; refine takeA ?_
      refine AS_two 1 12 rfl (by decide +kernel) rfl rfl ?_ ?_
      · skip
        refine callA ?_; refine ⟨_, _, deeds_mail wb, _, cutA, ?_⟩
        rintro v H' ⟨mb, Ls, dc, rfl, rfl, hLs⟩
        simp only [List.cons_append, List.nil_append]
        refine L_nil ?_; refine ⟨rfl, (by first | exact KeepsH.brk (by decide +kernel) | exact KeepsH.sub subA | exact KeepsH.sub subT), ?_⟩
        refine AS_two 7 12 rfl (by decide +kernel) rfl rfl ?_ ?_
        · skip
          (first | (apply L_P; (· exact rfl); (· exact rfl)) | (apply QL_P; (· exact rfl))); (· (apply P_lookup; (· exact evA); (· exact evA); (· exact pullA)))
          rw [hsel wb Ls hLs, Option.getD_some]
          refine L_nil ?_; refine ⟨rfl, (by first | exact KeepsH.brk (by decide +kernel) | exact KeepsH.sub subA | exact KeepsH.sub subT), ?_⟩
          refine AS_two 8 12 rfl (by decide +kernel) rfl rfl ?_ ?_
          · skip
            refine callBT (f := f) (pre := [ptrB wb]) ?_
            refine ⟨_, _, hd2 wb (mb, mapB Ls dc), _, cutT, ?_⟩
            rintro v H' ⟨u, r0, y2, rs, τ, rfl, htell, hcase, rfl⟩
            simp only [List.cons_append, List.nil_append]
            refine L_nil ?_; refine ⟨rfl, (by first | exact KeepsH.brk (by decide +kernel) | exact KeepsH.sub subA | exact KeepsH.sub subT), ?_⟩
            refine AS_at 9 (by decide +kernel) ?_; refine takeA ?_
            refine AS_at 10 (by decide +kernel) ?_; refine takeA ?_
            refine AS_two 11 12 rfl (by decide +kernel) rfl rfl ?_ ?_
            · skip
              refine callA ?_; refine ⟨_, _, result_spec gx htell, _, cutA, ?_⟩
              rintro v H' ⟨rfl, rfl⟩
              simp only [List.cons_append, List.nil_append]
              refine L_nil ?_; refine ⟨rfl, (by first | exact KeepsH.brk (by decide +kernel) | exact KeepsH.sub subA | exact KeepsH.sub subT), ?_⟩
              refine AS_one 12 rfl (by decide +kernel) rfl ?_
              refine stepA ?_
              intro b8
              refine L_nil ?_; refine ⟨rfl, (by first | exact KeepsH.brk (by decide +kernel) | exact KeepsH.sub subA | exact KeepsH.sub subT), ?_⟩
              refine AS_one 13 rfl (by decide +kernel) rfl ?_
              refine stepA ?_
              refine L_nil ?_; refine ⟨rfl, (by first | exact KeepsH.brk (by decide +kernel) | exact KeepsH.sub subA | exact KeepsH.sub subT), ?_⟩
              refine AS_done (by decide +kernel) ?_
              rw [hQ1]
              exact ⟨rfl, rfl, b8, _, _, hcase, sublA, subT⟩
            · skip
              refine stepA ?_
              intro b8
              refine L_nil ?_; refine ⟨rfl, (by first | exact KeepsH.brk (by decide +kernel) | exact KeepsH.sub subA | exact KeepsH.sub subT), ?_⟩
              refine AS_one 11 rfl (by decide +kernel) rfl ?_
              refine callA ?_; refine ⟨_, _, result_spec gx htell, _, cutA, ?_⟩
              rintro v H' ⟨rfl, rfl⟩
              simp only [List.cons_append, List.nil_append]
              refine L_nil ?_; refine ⟨rfl, (by first | exact KeepsH.brk (by decide +kernel) | exact KeepsH.sub subA | exact KeepsH.sub subT), ?_⟩
              refine AS_one 13 rfl (by decide +kernel) rfl ?_
              refine stepA ?_
              refine L_nil ?_; refine ⟨rfl, (by first | exact KeepsH.brk (by decide +kernel) | exact KeepsH.sub subA | exact KeepsH.sub subT), ?_⟩
              refine AS_done (by decide +kernel) ?_
              rw [hQ1]
              exact ⟨rfl, rfl, b8, _, _, hcase, sublA, subT⟩
          · skip
            refine stepA ?_
            intro b8
            refine L_nil ?_; refine ⟨rfl, (by first | exact KeepsH.brk (by decide +kernel) | exact KeepsH.sub subA | exact KeepsH.sub subT), ?_⟩
            refine AS_one 8 rfl (by decide +kernel) rfl ?_
            refine callBT (f := f) (pre := [ptrB wb]) ?_
            refine ⟨_, _, hd2 wb (mb, mapB Ls dc), _, cutT, ?_⟩
            rintro v H' ⟨u, r0, y2, rs, τ, rfl, htell, hcase, rfl⟩
            simp only [List.cons_append, List.nil_append]
            refine L_nil ?_; refine ⟨rfl, (by first | exact KeepsH.brk (by decide +kernel) | exact KeepsH.sub subA | exact KeepsH.sub subT), ?_⟩
            refine AS_at 9 (by decide +kernel) ?_; refine takeA ?_
            refine AS_at 10 (by decide +kernel) ?_; refine takeA ?_
            refine AS_one 11 rfl (by decide +kernel) rfl ?_
            refine callA ?_; refine ⟨_, _, result_spec gx htell, _, cutA, ?_⟩
            rintro v H' ⟨rfl, rfl⟩
            simp only [List.cons_append, List.nil_append]
            refine L_nil ?_; refine ⟨rfl, (by first | exact KeepsH.brk (by decide +kernel) | exact KeepsH.sub subA | exact KeepsH.sub subT), ?_⟩
            refine AS_one 13 rfl (by decide +kernel) rfl ?_
            refine stepA ?_
            refine L_nil ?_; refine ⟨rfl, (by first | exact KeepsH.brk (by decide +kernel) | exact KeepsH.sub subA | exact KeepsH.sub subT), ?_⟩
            refine AS_done (by decide +kernel) ?_
            rw [hQ1]
            exact ⟨rfl, rfl, b8, _, _, hcase, sublA, subT⟩
        · skip
          refine stepA ?_
          intro b8
          refine L_nil ?_; refine ⟨rfl, (by first | exact KeepsH.brk (by decide +kernel) | exact KeepsH.sub subA | exact KeepsH.sub subT), ?_⟩
          refine AS_one 7 rfl (by decide +kernel) rfl ?_
          (first | (apply L_P; (· exact rfl); (· exact rfl)) | (apply QL_P; (· exact rfl))); (· (apply P_lookup; (· exact evA); (· exact evA); (· exact pullA)))
          rw [hsel wb Ls hLs, Option.getD_some]
          refine L_nil ?_; refine ⟨rfl, (by first | exact KeepsH.brk (by decide +kernel) | exact KeepsH.sub subA | exact KeepsH.sub subT), ?_⟩
          refine AS_one 8 rfl (by decide +kernel) rfl ?_
          refine callBT (f := f) (pre := [ptrB wb]) ?_
          refine ⟨_, _, hd2 wb (mb, mapB Ls dc), _, cutT, ?_⟩
          rintro v H' ⟨u, r0, y2, rs, τ, rfl, htell, hcase, rfl⟩
          simp only [List.cons_append, List.nil_append]
          refine L_nil ?_; refine ⟨rfl, (by first | exact KeepsH.brk (by decide +kernel) | exact KeepsH.sub subA | exact KeepsH.sub subT), ?_⟩
          refine AS_at 9 (by decide +kernel) ?_; refine takeA ?_
          refine AS_at 10 (by decide +kernel) ?_; refine takeA ?_
          refine AS_one 11 rfl (by decide +kernel) rfl ?_
          refine callA ?_; refine ⟨_, _, result_spec gx htell, _, cutA, ?_⟩
          rintro v H' ⟨rfl, rfl⟩
          simp only [List.cons_append, List.nil_append]
          refine L_nil ?_; refine ⟨rfl, (by first | exact KeepsH.brk (by decide +kernel) | exact KeepsH.sub subA | exact KeepsH.sub subT), ?_⟩
          refine AS_one 13 rfl (by decide +kernel) rfl ?_
          refine stepA ?_
          refine L_nil ?_; refine ⟨rfl, (by first | exact KeepsH.brk (by decide +kernel) | exact KeepsH.sub subA | exact KeepsH.sub subT), ?_⟩
          refine AS_done (by decide +kernel) ?_
          rw [hQ1]
          exact ⟨rfl, rfl, b8, _, _, hcase, sublA, subT⟩
      · skip
        refine stepA ?_
        intro b8
        refine L_nil ?_; refine ⟨rfl, (by first | exact KeepsH.brk (by decide +kernel) | exact KeepsH.sub subA | exact KeepsH.sub subT), ?_⟩
        refine AS_one 1 rfl (by decide +kernel) rfl ?_
        refine callA ?_; refine ⟨_, _, deeds_mail wb, _, cutA, ?_⟩
        rintro v H' ⟨mb, Ls, dc, rfl, rfl, hLs⟩
        simp only [List.cons_append, List.nil_append]
        refine L_nil ?_; refine ⟨rfl, (by first | exact KeepsH.brk (by decide +kernel) | exact KeepsH.sub subA | exact KeepsH.sub subT), ?_⟩
        refine AS_one 7 rfl (by decide +kernel) rfl ?_
        (first | (apply L_P; (· exact rfl); (· exact rfl)) | (apply QL_P; (· exact rfl))); (· (apply P_lookup; (· exact evA); (· exact evA); (· exact pullA)))
        rw [hsel wb Ls hLs, Option.getD_some]
        refine L_nil ?_; refine ⟨rfl, (by first | exact KeepsH.brk (by decide +kernel) | exact KeepsH.sub subA | exact KeepsH.sub subT), ?_⟩
        refine AS_one 8 rfl (by decide +kernel) rfl ?_
        refine callBT (f := f) (pre := [ptrB wb]) ?_
        refine ⟨_, _, hd2 wb (mb, mapB Ls dc), _, cutT, ?_⟩
        rintro v H' ⟨u, r0, y2, rs, τ, rfl, htell, hcase, rfl⟩
        simp only [List.cons_append, List.nil_append]
        refine L_nil ?_; refine ⟨rfl, (by first | exact KeepsH.brk (by decide +kernel) | exact KeepsH.sub subA | exact KeepsH.sub subT), ?_⟩
        refine AS_at 9 (by decide +kernel) ?_; refine takeA ?_
        refine AS_at 10 (by decide +kernel) ?_; refine takeA ?_
        refine AS_one 11 rfl (by decide +kernel) rfl ?_
        refine callA ?_; refine ⟨_, _, result_spec gx htell, _, cutA, ?_⟩
        rintro v H' ⟨rfl, rfl⟩
        simp only [List.cons_append, List.nil_append]
        refine L_nil ?_; refine ⟨rfl, (by first | exact KeepsH.brk (by decide +kernel) | exact KeepsH.sub subA | exact KeepsH.sub subT), ?_⟩
        refine AS_one 13 rfl (by decide +kernel) rfl ?_
        refine stepA ?_
        refine L_nil ?_; refine ⟨rfl, (by first | exact KeepsH.brk (by decide +kernel) | exact KeepsH.sub subA | exact KeepsH.sub subT), ?_⟩
        refine AS_done (by decide +kernel) ?_
        rw [hQ1]
        exact ⟨rfl, rfl, b8, _, _, hcase, sublA, subT⟩
    · rw [hQ1]
      rintro e l' ds' H' ⟨rfl, rfl, b8, rs, τ, hcase, sl, sh⟩
      apply thenQ_n
      refine W_weak sl sh ?_
      rcases hcase with ⟨hWt, rfl, rfl⟩ | hRr
      · rw [hkw1]
        have hS := (prsleep_run σ.pr σ.mb σ.last (mapP σ.L (rouseP (chanOf n))) σ.c (n : Int) (chanOf n) hp1 rfl).frame (blkG rowK σ.R ++ (blkG tkB σ.T ++ tkXs σ.T σ.E))
        simp only [hback, List.cons_append, List.nil_append, List.append_assoc] at hS
        repeat (first | refine stepA ?_ | intro _)
        refine W_any [kpB b1 σ.k, knW σ g 1 σ.wc] [] rfl ?_
        refine AS_at 0 (by decide +kernel) ?_; refine takeA ?_
        refine AS_at 1 (by decide +kernel) ?_; refine takeA ?_
        refine AS_at 2 (by decide +kernel) ?_; refine takeA ?_
        refine AS_at 3 (by decide +kernel) ?_; refine takeA ?_
        refine AS_at 4 (by decide +kernel) ?_; refine takeA ?_
        refine AS_at 5 (by decide +kernel) ?_; refine takeA ?_
        refine AS_one 6 rfl (by decide +kernel) rfl ?_
        refine callA ?_; refine ⟨_, _, channel_ten n hn, _, cutA, ?_⟩
        rintro v H' ⟨rfl, rfl⟩
        simp only [List.cons_append, List.nil_append]
        refine L_nil ?_; refine ⟨rfl, (by first | exact KeepsH.brk (by decide +kernel) | exact KeepsH.sub subA | exact KeepsH.sub subT), ?_⟩
        refine AS_one 7 rfl (by decide +kernel) rfl ?_
        refine callT ?_; refine ⟨_, _, hS, _, cutT, ?_⟩
        rintro v H' ⟨H1, ⟨rfl, rfl⟩, rfl⟩
        simp only [List.cons_append, List.nil_append, List.append_assoc]
        refine L_nil ?_; refine ⟨rfl, (by first | exact KeepsH.brk (by decide +kernel) | exact KeepsH.sub subA | exact KeepsH.sub subT), ?_⟩
        refine AS_done (by decide +kernel) ?_
        repeat (first | refine stepA ?_ | intro _)
        exact roundQ_n ⟨rfl, hWt⟩ subT
      · obtain ⟨hrw, hkb, hwc, t', ht', htb⟩ := hR rs τ hRr
        obtain ⟨re, rn, rm, rss, rw⟩ := rs
        simp only at hrw
        subst hrw
        obtain ⟨tb', tw', tk', tv'⟩ := t'
        simp only at htb
        subst htb
        have hkt : kH τ = knW σ g 1 σ.wc :: kHo τ := by
          show knB τ :: kHo τ = _
          rw [hkb, knB_W hwa hwn]
        rw [hkt]
        obtain ⟨ZT2, pU, pU2, -⟩ := blkG_at tkB ht'
        obtain ⟨ZX, pX, pX2, -⟩ := tkXs_at τ.E ht'
        simp only at pU pX pU2 pX2
        have pY : (kZ τ.L τ.R τ.T τ.E).Perm (tkB tb' tv' :: (prB τ.L ++ (blkG rowK τ.R ++ (ZT2 ++ tkXs τ.T τ.E)))) := by
          classical
          refine List.perm_iff_count.2 fun x => ?_
          have q1 := pU.count_eq x
          simp only [List.count_append, List.count_cons] at q1 ⊢
          rw [q1]
          ac_rfl
        refine W_tail (T := kZ τ.L τ.R τ.T τ.E) pY ?_
        simp only [List.cons_append, List.nil_append]
        repeat (first | refine stepA ?_ | intro _)
        refine L_store (cs := RS.cells ⟨re, rn, rm, rss, false⟩) (Ln := ({ tv' with r := ⟨re, rn, rm, rss, false⟩ } : TK).cells) evA evA rfl rfl (fun u hu => List.all_eq_true.1 (show List.all (RS.cells ⟨re, rn, rm, rss, false⟩) (fun u => u.oneCell') = true from rfl) u hu) repA rfl (by simp) ?_
        repeat (first | refine stepA ?_ | intro _)
        refine W_any [kpB b1 σ.k, knW σ g 1 σ.wc] [12] rfl ?_
        refine AS_at 0 (by decide +kernel) ?_; refine takeA ?_
        refine AS_at 1 (by decide +kernel) ?_; refine takeA ?_
        refine AS_at 2 (by decide +kernel) ?_; refine takeA ?_
        refine AS_at 3 (by decide +kernel) ?_; refine takeA ?_
        refine AS_at 4 (by decide +kernel) ?_; refine takeA ?_
        refine AS_at 6 (by decide +kernel) ?_; refine takeA ?_
        refine AS_at 7 (by decide +kernel) ?_; refine takeA ?_
        refine AS_at 8 (by decide +kernel) ?_; refine takeA ?_
        refine AS_one 5 rfl (by decide +kernel) rfl ?_
        refine callA ?_; refine ⟨_, _, iclone_spec g 1 σ.wc [(n : Int)] ys rfl (by decide) (by decide), _, cutA, ?_⟩
        rintro v H' ⟨g1, c1, ys1, rfl, ⟨hc1, hc2, hc3⟩, rfl⟩
        simp only [List.cons_append, List.nil_append]
        refine L_nil ?_; refine ⟨rfl, (by first | exact KeepsH.brk (by decide +kernel) | exact KeepsH.sub subA | exact KeepsH.sub subT), ?_⟩
        refine AS_one 9 rfl (by decide +kernel) rfl ?_
        refine callA ?_; refine ⟨_, _, idelete_spec g1 1 c1 0 [(n : Int)] ys1 rfl (by decide) (by decide) hc1 hc2 hc3, _, cutA, ?_⟩
        rintro v H' ⟨rfl, ys2, hc4, rfl⟩
        simp only [List.cons_append, List.nil_append]
        refine L_nil ?_; refine ⟨rfl, (by first | exact KeepsH.brk (by decide +kernel) | exact KeepsH.sub subA | exact KeepsH.sub subT), ?_⟩
        refine AS_at 10 (by decide +kernel) ?_; refine takeA ?_
        refine AS_at 11 (by decide +kernel) ?_; refine takeA ?_
        refine AS_one 12 rfl (by decide +kernel) rfl ?_
        refine stepA ?_
        refine L_nil ?_; refine ⟨rfl, (by first | exact KeepsH.brk (by decide +kernel) | exact KeepsH.sub subA | exact KeepsH.sub subT), ?_⟩
        refine AS_done (by decide +kernel) ?_
        repeat (first | refine stepA ?_ | intro _)
        obtain ⟨nt, hnt⟩ : ∃ nt : TK, nt = { tv' with r := ⟨re, rn, rm, rss, false⟩ } := ⟨_, rfl⟩
        refine roundQ_e ⟨rfl, ⟨re, rn, rm, rss, false⟩, τ, _, g1, c1, ys2, hRr, ht', rfl, ⟨hc4, hc3⟩, rfl⟩ ?_
        have q1' := pU2 nt
        have q2' := pX2 nt
        have eX : tkX nt = tkX tv' := by rw [hnt]; rfl
        rw [eX] at q2'
        have q2'' := q2'.trans pX.symm
        obtain ⟨T', hT'⟩ : ∃ T', T' = setG τ.T (n : Int) nt := ⟨_, rfl⟩
        rw [← hT'] at q1' q2''
        have e3 : T'.map GE.kv = τ.T.map GE.kv := by rw [hT']; exact setG_kv
        have pF : ((kpB b1 σ.k :: (b3, Blk.cells [.bool true] 4) :: gvB gx :: wiB g1 [] ys2 :: knW τ g1 0 c1 :: tbB τ.pr τ.mb τ.last :: kvB τ.mb τ.L τ.c :: flB τ.fr τ.fm τ.fc :: rmB τ.fm τ.R τ.rc :: (τ.tm, mapB (T'.map GE.kv) τ.tc) :: (memH τ.m τ.M ++ kZ τ.L τ.R T' τ.E)) ++ [wiB g [(n : Int)] ys, (b8, Blk.cells (RS.cells ⟨re, rn, rm, rss, false⟩) 31), kpB b σ.k]).Perm
            (wiB g1 [] ys2 :: wiB g [(n : Int)] ys :: (b8, Blk.cells (RS.cells ⟨re, rn, rm, rss, false⟩) 31) :: kpB b σ.k :: kpB b1 σ.k :: (b3, Blk.cells [.bool true] 4) :: gvB gx :: knW σ g1 0 c1 :: tbB τ.pr τ.mb τ.last :: kvB τ.mb τ.L τ.c :: flB τ.fr τ.fm τ.fc :: rmB τ.fm τ.R τ.rc :: (τ.tm, mapB (τ.T.map GE.kv) τ.tc) :: (memH τ.m τ.M ++ (tkB tb' nt :: (prB τ.L ++ (blkG rowK τ.R ++ (ZT2 ++ tkXs τ.T τ.E)))))) := by
          rw [e3, knW_eq hkb]
          classical
          refine List.perm_iff_count.2 fun x => ?_
          have q1 := q1'.count_eq x
          have q2 := q2''.count_eq x
          simp only [List.count_append, List.count_cons, List.count_nil, Nat.add_zero, Nat.zero_add] at q1 q2 ⊢
          rw [q1, q2]
          ac_rfl
        subst hT' hnt
        exact Sub.ofPermR pF
  · rintro D k Hc rfl ⟨rfl, hWt⟩
    rw [hK]
    repeat (first | refine stepA ?_ | intro _)
    (first | refine retA ?_ | refine retB ?_)
    exact ⟨_, .inl ⟨rfl, hWt (by simp), rfl⟩, subT⟩
  · rintro D c H1 ⟨rfl, rs, σ', t', g2, c2, ys2, h1, h2, h3, h4, rfl⟩
    repeat (first | refine stepA ?_ | intro _)
    (first | refine retA ?_ | refine retB ?_)
    exact ⟨_, .inr ⟨rfl, rs, σ', t', g2, c2, ys2, h1, h2, h3, h4, rfl⟩, subT⟩
end
end Go.Proofs.YtcpfmjlceoiofaaGreatDoor
