/-
  Joined texts; each begins with its own sentence.
-/
import Derived.Test.YtcpfmjlceoiofaaGreatDoorL38
import Derived.Test.YtcpfmjlceoiofaaGreatDoorL10
import Derived.Test.YtcpfmjlceoiofaaGreatDoorL11
set_option linter.unusedSimpArgs false
set_option linter.unusedVariables false
set_option linter.unusedSectionVars false
/-
  Processes: find, Get, isOf, running, New.
-/
namespace Go.Proofs.YtcpfmjlceoiofaaGreatDoor
open Go.RowKit
attribute [local irreducible] W L QL PureOp thenQ blockQ retQ Spec IterOk YSpec roundQ scopeQ noGoQ
attribute [local irreducible] AS ASi IterOkC retD retE
set_option maxHeartbeats 6400000
set_option maxRecDepth 4000
theorem Sub.via {H1 H2 H3 : Hp} (p : H3.Perm H1) (s : Sub H2 H3) : Sub H2 H1 := by
  obtain ⟨R, hc⟩ := s.cut
  exact Sub.ofPermR (R := R) (hc.perm.symm.trans p)
theorem back_perm {H1 R T A L' : Hp} {x : Nat × Blk} (hT : L'.Perm (x :: T)) (hp : Pull H1 x R) (ht : Tail R T A) : H1.Perm (A ++ L') :=
  (hp.perm.trans (((ht.perm.cons x).trans (List.Perm.append_right A hT.symm)).trans List.perm_append_comm))
theorem Sub.back {H1 R H2 T A L' : Hp} {x : Nat × Blk} (hT : L'.Perm (x :: T)) (s : Sub H2 (A ++ L')) (hp : Pull H1 x R := by repeat (first | exact Pull.here | apply Pull.there)) (ht : Tail R T A := by repeat (first | exact Tail.nil | apply Tail.cons)) : Sub H2 H1 :=
  Sub.via (back_perm hT hp ht).symm s
section bk
variable {X : Cx} {Q : PostT} {l : St} {ds : List Deferred} {H : Hp} {ops : Array Oper} {rest : List Oper}
theorem W_back {c : Code} {R T A L' : Hp} {x : Nat × Blk} (hT : L'.Perm (x :: T)) (k : W X c Q l ds (A ++ L')) (hp : Pull H x R := by repeat (first | exact Pull.here | apply Pull.there)) (ht : Tail R T A := by repeat (first | exact Tail.nil | apply Tail.cons)) : W X c Q l ds H :=
  W_perm (back_perm hT hp ht) k
theorem L_back {R T A L' : Hp} {x : Nat × Blk} (hT : L'.Perm (x :: T)) (k : L X ops rest Q l ds (A ++ L')) (hp : Pull H x R := by repeat (first | exact Pull.here | apply Pull.there)) (ht : Tail R T A := by repeat (first | exact Tail.nil | apply Tail.cons)) : L X ops rest Q l ds H :=
  L_perm (back_perm hT hp ht) k
end bk
abbrev tbB (r mb : Nat) (last : Int) : Nat × Blk := (r, .cells [.map (some mb), .int .i64 last] 137)
abbrev kvB (mb : Nat) (L : List PE) (c : Nat) : Nat × Blk := (mb, mapB (L.map PE.kv) c)
abbrev ptrB (r : Nat) : Value := .pointer (some ⟨r, 0, none⟩)
/-- a table: its cell, its map, its processes -/
abbrev psH (r mb : Nat) (last : Int) (L : List PE) (c : Nat) : Hp := tbB r mb last :: kvB mb L c :: prB L
abbrev fnd (L : List PE) (pid : Int) : Value := (findP L pid).elim (.pointer none) PE.ptr
abbrev fndE (L : List PE) (pid : Int) : Int := (findP L pid).elim 60 fun _ => 0
theorem prnew_spec : Spec Tryz.prog 33 [] [] fun v H' => ∃ r mb b, v = ptrB r ∧ H' = psH r mb 1 [⟨b, 0, ⟨1, 0, 1, 0, 0, [], 0, false⟩⟩] 1 := by
  refine Spec_body Tryz.func33 rfl Tryz.ntmps33 rfl (fun w0 => ?_)
  repeat (first | refine stepA ?_ | intro _)
  apply L_makeMap
  · exact rfl
  intro mb
  repeat (first | refine stepA ?_ | intro _)
  rename_i b
  refine L_insNew (v := .pointer (some ⟨b, 0, none⟩)) (i := 1) (Ls := []) (c := 0) evA evA evA rfl repA ?_
  repeat (first | refine stepA ?_ | intro _)
  rename_i r
  (first | refine retA ?_ | refine retB ?_)
  exact ⟨_, ⟨r, mb, b, rfl, rfl⟩, subA⟩
section
variable (r mb : Nat) (last : Int) (L : List PE) (c : Nat)
theorem prfind_spec (pid : Int) : Spec Tryz.prog 43 [ptrB r, .int .i64 pid] [tbB r mb last, kvB mb L c] fun v H' => v = .tuple #[fnd L pid, .int .i64 (fndE L pid)] ∧ H' = [tbB r mb last, kvB mb L c] := by
  refine Spec_body Tryz.func43 rfl Tryz.ntmps43 rfl (fun w0 => ?_)
  repeat (first | refine stepA ?_ | intro _)
  (first | (apply L_P; (· exact rfl); (· exact rfl)) | (apply QL_P; (· exact rfl))); (· (apply P_lookupOk; (· exact evA); (· exact evA); (· exact pullA)))
  rw [getL_kv]
  cases h : findP L pid with
  | none =>
    simp only [Option.map_none, Option.getD_none, Option.isSome_none, fnd, fndE, h, Option.elim]
    repeat (first | refine stepA ?_ | intro _)
    (first | refine retA ?_ | refine retB ?_); exact ⟨_, ⟨rfl, rfl⟩, subA⟩
  | some x =>
    simp only [Option.map_some, Option.getD_some, Option.isSome_some, fnd, fndE, h, Option.elim]
    repeat (first | refine stepA ?_ | intro _)
    (first | refine retA ?_ | refine retB ?_); exact ⟨_, ⟨rfl, rfl⟩, subA⟩
theorem prget_spec (pid : Int) : Spec Tryz.prog 21 [ptrB r, .int .i64 pid] (psH r mb last L c) fun v H' => v = .tuple #[.agg (((findP L pid).map (·.p)).getD pr0).cells.toArray, .int .i64 (fndE L pid)] ∧ H' = psH r mb last L c := by
  refine Spec_body Tryz.func21 rfl Tryz.ntmps21 rfl (fun w0 => ?_)
  repeat (first | refine stepA ?_ | intro _)
  rename_i b4
  refine callA ?_; refine ⟨_, _, prfind_spec r mb last L c pid, _, cutA, ?_⟩
  rintro v H' ⟨rfl, rfl⟩
  simp only [List.cons_append, List.nil_append]
  cases h : findP L pid with
  | none =>
    simp only [fnd, fndE, h, Option.elim, Option.isSome_none, Option.map_none, Option.getD_none]
    repeat (first | refine stepA ?_ | intro _)
    (first | refine retA ?_ | refine retB ?_)
    exact ⟨_, ⟨rfl, rfl⟩, subT⟩
  | some x =>
    obtain ⟨T, hT, -, -⟩ := prB_at h
    simp only [fnd, fndE, h, Option.elim, Option.isSome_some, Option.map_some, Option.getD_some]
    refine L_tail (T := prB L) hT ?_
    simp only [List.cons_append, List.nil_append]
    repeat (first | refine stepA ?_ | intro _)
    (first | refine retA ?_ | refine retB ?_)
    exact ⟨_, ⟨rfl, rfl⟩, (by refine Sub.back hT ?_; simp only [List.cons_append, List.nil_append]; exact subT)⟩
theorem index1_spec (g cap : Nat) (a s : Int) : Spec Tryz.prog 362 [.slice (some ⟨g, 0, none⟩) 1 cap, .int .i64 s] [(g, .cells [.int .i64 a] 3)] fun v H' => v = .int .i64 (if s = a then 0 else -1) ∧ H' = [(g, .cells [.int .i64 a] 3)] := by
  refine Spec_body Tryz.func362 rfl Tryz.ntmps362 rfl (fun w0 => ?_)
  repeat (first | refine stepA ?_ | intro _)
  refine W_loop (fun k : Nat => [(0, .slice (some ⟨g, 0, none⟩) 1 cap), (1, .int .i64 s), (7, .int .i64 1), (8, .int .i64 (k : Int))]) (fun _ => [(g, .cells [.int .i64 a] 3)]) (fun k => k ≤ 1 ∧ (k = 1 → s ≠ a)) (fun k => 1 - k) 0 ⟨by omega, by omega⟩ sublA subA ?_
  rintro k ⟨hk, hne⟩
  by_cases h0 : k = 0
  · subst h0
    by_cases he : s = a
    · subst he
      repeat (first | refine stepA ?_ | intro _)
      (first | refine retA ?_ | refine retB ?_); exact ⟨_, ⟨by rw [if_pos rfl] <;> rfl, rfl⟩, subA⟩
    · repeat (first | refine stepA ?_ | intro _)
      exact ⟨rfl, 1, ⟨by omega, fun _ => he⟩, by omega, sublA, subA⟩
  · obtain rfl : k = 1 := by omega
    have hne := hne rfl
    repeat (first | refine stepA ?_ | intro _)
    (first | refine retA ?_ | refine retB ?_); exact ⟨_, ⟨by rw [if_neg hne] <;> rfl, rfl⟩, subA⟩
theorem contains1_spec (g cap : Nat) (a s : Int) : Spec Tryz.prog 288 [.slice (some ⟨g, 0, none⟩) 1 cap, .int .i64 s] [(g, .cells [.int .i64 a] 3)] fun v H' => v = .bool (decide (s = a)) ∧ H' = [(g, .cells [.int .i64 a] 3)] := by
  refine Spec_body Tryz.func288 rfl Tryz.ntmps288 rfl (fun w0 => ?_)
  repeat (first | refine stepA ?_ | intro _)
  refine callA ?_; refine ⟨_, _, index1_spec g cap a s, _, cutA, ?_⟩
  rintro v H' ⟨rfl, rfl⟩
  simp only [List.cons_append, List.nil_append]
  by_cases he : s = a
  · rw [if_pos he]
    repeat (first | refine stepA ?_ | intro _)
    (first | refine retA ?_ | refine retB ?_); exact ⟨_, ⟨by simp [he] <;> rfl, rfl⟩, subA⟩
  · rw [if_neg he]
    repeat (first | refine stepA ?_ | intro _)
    (first | refine retA ?_ | refine retB ?_); exact ⟨_, ⟨by simp [he] <;> rfl, rfl⟩, subA⟩
theorem isof_spec (b : Nat) (p : PR) (g cap : Nat) (a : Int) : Spec Tryz.prog 165 [ptrB b, .slice (some ⟨g, 0, none⟩) 1 cap] [(g, .cells [.int .i64 a] 3), prK b p] fun v H' => v = .bool (decide (p.state = a)) ∧ H' = [(g, .cells [.int .i64 a] 3), prK b p] := by
  refine Spec_body Tryz.func165 rfl Tryz.ntmps165 rfl (fun w0 => ?_)
  repeat (first | refine stepA ?_ | intro _)
  refine callA ?_; refine ⟨_, _, contains1_spec g cap a p.state, _, cutA, ?_⟩
  rintro v H' ⟨rfl, rfl⟩
  simp only [List.cons_append, List.nil_append]
  repeat (first | refine stepA ?_ | intro _)
  (first | refine retA ?_ | refine retB ?_); exact ⟨_, ⟨rfl, rfl⟩, subA⟩
/-- what running tells -/
abbrev runE (L : List PE) (pid : Int) : Int := (findP L pid).elim 60 fun x => if x.p.state = 1 then 0 else 2
abbrev runV (L : List PE) (pid : Int) : Value := (findP L pid).elim (.pointer none) fun x => if x.p.state = 1 then x.ptr else .pointer none
theorem prrun_spec (pid : Int) : Spec Tryz.prog 75 [ptrB r, .int .i64 pid] (psH r mb last L c) fun v H' => v = .tuple #[runV L pid, .int .i64 (runE L pid)] ∧ H' = psH r mb last L c := by
  refine Spec_body Tryz.func75 rfl Tryz.ntmps75 rfl (fun w0 => ?_)
  repeat (first | refine stepA ?_ | intro _)
  refine callA ?_; refine ⟨_, _, prfind_spec r mb last L c pid, _, cutA, ?_⟩
  rintro v H' ⟨rfl, rfl⟩
  simp only [List.cons_append, List.nil_append]
  cases h : findP L pid with
  | none =>
    simp only [fnd, fndE, runV, runE, h, Option.elim]
    repeat (first | refine stepA ?_ | intro _)
    (first | refine retA ?_ | refine retB ?_)
    exact ⟨_, ⟨rfl, rfl⟩, subT⟩
  | some x =>
    obtain ⟨T, hT, -, -⟩ := prB_at h
    simp only [fnd, fndE, runV, runE, h, Option.elim]
    refine L_tail (T := prB L) hT ?_
    simp only [List.cons_append, List.nil_append]
    repeat (first | refine stepA ?_ | intro _)
    rename_i g
    refine callA ?_; refine ⟨_, _, isof_spec x.b x.p g 1 1, _, cutA, ?_⟩
    rintro v H' ⟨rfl, rfl⟩
    simp only [List.cons_append, List.nil_append]
    by_cases h1 : x.p.state = 1
    · simp only [h1, decide_true, if_true]
      repeat (first | refine stepA ?_ | intro _)
      (first | refine retA ?_ | refine retB ?_)
      exact ⟨_, ⟨rfl, rfl⟩, (by refine Sub.back hT ?_; simp only [List.cons_append, List.nil_append]; exact subT)⟩
    · simp only [h1, decide_false, if_false]
      repeat (first | refine stepA ?_ | intro _)
      (first | refine retA ?_ | refine retB ?_)
      exact ⟨_, ⟨rfl, rfl⟩, (by refine Sub.back hT ?_; simp only [List.cons_append, List.nil_append]; exact subT)⟩
end
end Go.Proofs.YtcpfmjlceoiofaaGreatDoor

/-
  The walk's own small calculus, 25th part: delete as a statement.
-/
namespace Go.Proofs.YtcpfmjlceoiofaaGreatDoor
open Go.RowKit
section rules
variable {X : Cx} {Q : PostT} {l : St} {ds : List Deferred} {H : Hp} {ops : Array Oper} {rest : List Oper}
variable {d ty : Nat} {pos : String} {after : Array Edge}
theorem L_delete0 {x ix : Operand} {t k e r c : Nat} {u : TypeId} {i : Int} {Ls : List KV} {H' : Hp} [T : TyMap X.P t k e] (hx : ev l x = some (.map (some r))) (hi : ev l ix = some (.int .i64 i))
    (hp : Rep H r (mapB Ls c) (mapB (delL Ls i) c) H') (h : L X ops rest Q l ds H') :
    L X ops ({ dst := none, op := .call { callee := .builtin .delete, args := #[x, ix], argTypes := #[t, u] }, type := ty, pos, after, guard := none } :: rest) Q l ds H :=
  L_val0 rfl rfl (fun _ e => by cases e) fun ρ hρ w hw => by
    have hr := hw.has.rd r _ hp.mem
    simp only [Blk.obj] at hr
    refine ⟨.tuple #[], _, H', ?_, World.rep_map hw hp, h⟩
    simp only [execOp, resolve, Sem.run_bind, Sem.run_pure, Result.andThen_ok, invoke]
    simp only [List.map_toArray, List.map_cons, List.map_nil, hρ x _ hx, hρ ix _ hi, builtin, Sem.run_bind, Builtin.delete_]
    cases hf : findL i Ls 0 with
    | none =>
      have e := delL_none (findL_none.1 hf)
      simp [run_underlying T.und w, run_getMap hr, Sem.run_bind, run_checkKey T.key, run_findKey T.key, hf, run_setMap _ hr, Blk.obj, e]
    | some q =>
      obtain ⟨j, u⟩ := q
      have e := delL_some hf
      have he : (List.map KV.ent Ls).toArray.eraseIdxIfInBounds j = ((delL Ls i).map KV.ent).toArray := by
        rw [e]
        simp [List.eraseIdx_eq_take_drop_succ]
      simp [run_underlying T.und w, run_getMap hr, Sem.run_bind, run_checkKey T.key, run_findKey T.key, hf, run_setMap _ hr, Blk.obj, e, List.eraseIdx_eq_take_drop_succ]
end rules
end Go.Proofs.YtcpfmjlceoiofaaGreatDoor

/-
  Maps of numbers to blocks of the program's own, in plain lists.
-/
namespace Go.Proofs.YtcpfmjlceoiofaaGreatDoor
open Go.RowKit
/-- an entry: its block, when it was laid there, its key, what it holds -/
structure GE (α : Type) where
  b : Nat
  w : Nat
  k : Int
  v : α
abbrev GE.ptr {α : Type} (x : GE α) : Value := .pointer (some ⟨x.b, 0, none⟩)
def GE.kv {α : Type} (x : GE α) : KV := ⟨x.k, x.ptr, x.w⟩
section
variable {α : Type}
def keysG (L : List (GE α)) : List Int := L.map (·.k)
def blkG (bl : Nat → α → Nat × Blk) (L : List (GE α)) : Hp := L.map fun x => bl x.b x.v
def findG : List (GE α) → Int → Option (GE α)
  | [], _ => none
  | x :: L, k => if k = x.k then some x else findG L k
def setG : List (GE α) → Int → α → List (GE α)
  | [], _, _ => []
  | x :: L, k, p => if k = x.k then { x with v := p } :: L else x :: setG L k p
def delG : List (GE α) → Int → List (GE α)
  | [], _ => []
  | x :: L, k => if k = x.k then L else x :: delG L k
theorem getL_g : ∀ (L : List (GE α)) (k : Int), getL (L.map GE.kv) k = (findG L k).map GE.ptr
  | [], _ => rfl
  | x :: L, k => by
    have ih := getL_g L k
    simp only [getL, List.map_cons, findL, findG] at ih ⊢
    by_cases h : k = x.k
    · rw [if_pos (by exact h), if_pos h]; rfl
    · rw [if_neg (by exact h), if_neg h, findL_shift, ← ih]
      cases findL k (L.map GE.kv) 0 <;> rfl
theorem findG_split : ∀ {L : List (GE α)} {k : Int} {x : GE α}, findG L k = some x → x.k = k ∧ ∃ A B, L = A ++ x :: B ∧ (∀ y ∈ A, y.k ≠ k) ∧ (∀ p, setG L k p = A ++ { x with v := p } :: B) ∧ delG L k = A ++ B
  | [], _, _, h => by simp [findG] at h
  | y :: L, k, x, h => by
    unfold findG at h
    by_cases hk : k = y.k
    · rw [if_pos hk] at h
      cases h
      exact ⟨hk.symm, [], L, rfl, by simp, fun p => by rw [setG, if_pos hk]; rfl, by rw [delG, if_pos hk]; rfl⟩
    · rw [if_neg hk] at h
      obtain ⟨h1, A, B, h2, h3, h4, h5⟩ := findG_split h
      refine ⟨h1, y :: A, B, by rw [h2]; rfl, ?_, fun p => by rw [setG, if_neg hk, h4]; rfl, by rw [delG, if_neg hk, h5]; rfl⟩
      intro z hz
      rcases List.mem_cons.1 hz with rfl | hz
      · exact fun e => hk e.symm
      · exact h3 z hz
theorem findG_mem {L : List (GE α)} {k : Int} {x : GE α} (h : findG L k = some x) : x ∈ L := by
  obtain ⟨_, A, B, rfl, _⟩ := findG_split h
  simp
theorem findG_key {L : List (GE α)} {k : Int} {x : GE α} (h : findG L k = some x) : x.k = k := (findG_split h).1
theorem findG_none : ∀ {L : List (GE α)} {k : Int}, findG L k = none ↔ ∀ x ∈ L, x.k ≠ k
  | [], _ => by simp [findG]
  | x :: L, k => by
    unfold findG
    by_cases h : k = x.k
    · rw [if_pos h]; simp [h]
    · rw [if_neg h, findG_none]
      simp only [List.mem_cons, forall_eq_or_imp, ne_eq]
      exact ⟨fun q => ⟨fun e => h e.symm, q⟩, fun q => q.2⟩
theorem blkG_at (bl : Nat → α → Nat × Blk) {L : List (GE α)} {k : Int} {x : GE α} (h : findG L k = some x) : ∃ T, (blkG bl L).Perm (bl x.b x.v :: T) ∧ (∀ p, (blkG bl (setG L k p)).Perm (bl x.b p :: T)) ∧ (blkG bl (delG L k)).Perm T := by
  obtain ⟨_, A, B, rfl, _, h4, h5⟩ := findG_split h
  refine ⟨blkG bl A ++ blkG bl B, ?_, fun p => ?_, ?_⟩
  · simp only [blkG, List.map_append, List.map_cons]
    exact List.perm_middle
  · rw [h4 p]
    simp only [blkG, List.map_append, List.map_cons]
    exact List.perm_middle
  · rw [h5]
    simp only [blkG, List.map_append]
    exact List.Perm.refl _
theorem setG_kv {L : List (GE α)} {k : Int} {p : α} : (setG L k p).map GE.kv = L.map GE.kv := by
  induction L with
  | nil => rfl
  | cons x L ih =>
    unfold setG
    by_cases h : k = x.k
    · rw [if_pos h]
      simp only [List.map_cons, GE.kv]
    · rw [if_neg h, List.map_cons, ih, List.map_cons]
theorem setG_keys {L : List (GE α)} {k : Int} {p : α} : keysG (setG L k p) = keysG L := by
  have := congrArg (List.map KV.k) (setG_kv (L := L) (k := k) (p := p))
  simpa [keysG, GE.kv, Function.comp_def] using this
theorem setG_len {L : List (GE α)} {k : Int} {p : α} : (setG L k p).length = L.length := by
  have := congrArg List.length (setG_kv (L := L) (k := k) (p := p))
  simpa using this
theorem delG_kv {L : List (GE α)} {k : Int} : (delG L k).map GE.kv = delL (L.map GE.kv) k := by
  induction L with
  | nil => rfl
  | cons x L ih =>
    unfold delG
    by_cases h : k = x.k
    · rw [if_pos h, List.map_cons, delL, if_pos (by exact h)]
    · rw [if_neg h, List.map_cons, List.map_cons, delL, if_neg (by exact h), ih]
theorem findG_set {L : List (GE α)} {k j : Int} {x : GE α} {p : α} (h : findG L k = some x) : findG (setG L k p) j = if j = k then some { x with v := p } else findG L j := by
  induction L with
  | nil => simp [findG] at h
  | cons y L ih =>
    unfold findG at h
    by_cases hk : k = y.k
    · rw [if_pos hk] at h
      cases h
      rw [setG, if_pos hk]
      simp only [findG]
      rw [← hk]
      split <;> rfl
    · rw [if_neg hk] at h
      rw [setG, if_neg hk]
      simp only [findG]
      rw [ih h]
      by_cases hj : j = y.k
      · rw [if_pos hj, if_pos hj, if_neg (by rintro rfl; exact hk hj)]
      · rw [if_neg hj, if_neg hj]
theorem findG_add {L : List (GE α)} {y : GE α} {j : Int} : findG (L ++ [y]) j = (findG L j).or (if j = y.k then some y else none) := by
  induction L with
  | nil => simp [findG]
  | cons z L ih =>
    simp only [List.cons_append, findG]
    by_cases hj : j = z.k
    · rw [if_pos hj, if_pos hj]; rfl
    · rw [if_neg hj, if_neg hj, ih]
theorem findG_del {L : List (GE α)} {k j : Int} (hn : (keysG L).Nodup) : findG (delG L k) j = if j = k then none else findG L j := by
  induction L with
  | nil => simp [findG, delG]
  | cons y L ih =>
    have hn2 : y.k ∉ keysG L ∧ (keysG L).Nodup := by simpa [keysG] using hn
    rw [delG]
    by_cases hk : k = y.k
    · rw [if_pos hk]
      by_cases hj : j = k
      · rw [if_pos hj]
        refine findG_none.2 fun x hx e => hn2.1 ?_
        rw [← hk, ← hj, ← e]
        exact List.mem_map.2 ⟨x, hx, rfl⟩
      · rw [if_neg hj, findG, if_neg (by rw [← hk]; exact hj)]
    · rw [if_neg hk, findG, findG, ih hn2.2]
      by_cases hj : j = y.k
      · rw [if_pos hj, if_pos hj, if_neg (by rintro rfl; exact hk hj)]
      · rw [if_neg hj, if_neg hj]
theorem delG_sub : ∀ (L : List (GE α)) (k : Int), (delG L k).Sublist L
  | [], _ => .slnil
  | x :: L, k => by
    unfold delG
    split
    · exact List.sublist_cons_self _ _
    · exact (delG_sub L k).cons_cons _
/-- a map is right: its keys are apart, its entries' births below its clock and apart -/
structure WfG (L : List (GE α)) (c : Nat) : Prop where
  nd : (keysG L).Nodup
  born : ∀ x ∈ L, x.w < c
  bnd : (L.map (·.w)).Nodup
theorem WfG.set {L : List (GE α)} {c : Nat} (k : Int) (p : α) (h : WfG L c) : WfG (setG L k p) c := by
  have hkv := setG_kv (L := L) (k := k) (p := p)
  have e3 : (setG L k p).map (·.w) = L.map (·.w) := by have := congrArg (List.map KV.b) hkv; simpa [GE.kv, Function.comp_def] using this
  refine ⟨by rw [setG_keys]; exact h.nd, ?_, by rw [e3]; exact h.bnd⟩
  intro x hx
  have hm : x.w ∈ (setG L k p).map (·.w) := List.mem_map.2 ⟨x, hx, rfl⟩
  rw [e3] at hm
  obtain ⟨y, hy, e⟩ := List.mem_map.1 hm
  rw [← e]
  exact h.born y hy
theorem WfG.del {L : List (GE α)} {c : Nat} (k : Int) (h : WfG L c) : WfG (delG L k) c :=
  ⟨h.nd.sublist ((delG_sub L k).map _), fun x hx => h.born x ((delG_sub L k).subset hx), h.bnd.sublist ((delG_sub L k).map _)⟩
theorem WfG.add {L : List (GE α)} {c : Nat} {k : Int} (b : Nat) (p : α) (h : WfG L c) (hk : findG L k = none) : WfG (L ++ [⟨b, c, k, p⟩]) (c + 1) := by
  refine ⟨?_, ?_, ?_⟩
  · simp only [keysG, List.map_append, List.map_cons, List.map_nil, List.nodup_append, List.nodup_cons, List.not_mem_nil, not_false_eq_true, List.nodup_nil, and_self, true_and]
    refine ⟨h.nd, ?_⟩
    intro a ha d hd
    obtain rfl := List.mem_singleton.1 hd
    obtain ⟨x, hx, rfl⟩ := List.mem_map.1 ha
    exact findG_none.1 hk x hx
  · intro x hx
    rcases List.mem_append.1 hx with hx | hx
    · have := h.born x hx
      omega
    · obtain rfl := List.mem_singleton.1 hx
      simp
  · simp only [List.map_append, List.map_cons, List.map_nil, List.nodup_append, List.nodup_cons, List.not_mem_nil, not_false_eq_true, List.nodup_nil, and_self, true_and]
    refine ⟨h.bnd, ?_⟩
    intro a ha d hd
    obtain rfl := List.mem_singleton.1 hd
    obtain ⟨x, hx, rfl⟩ := List.mem_map.1 ha
    have := h.born x hx
    omega
end
end Go.Proofs.YtcpfmjlceoiofaaGreatDoor

/-
  Processes: Pids, all.
-/
namespace Go.Proofs.YtcpfmjlceoiofaaGreatDoor
open Go.RowKit
attribute [local irreducible] W L QL PureOp thenQ blockQ retQ Spec IterOk YSpec roundQ scopeQ noGoQ
attribute [local irreducible] AS ASi IterOkC retD retE
set_option maxHeartbeats 6400000
set_option maxRecDepth 4000
abbrev ksB (mb : Nat) (Ls : List KV) (c : Nat) : Nat × Blk := (mb, mapB Ls c)
structure KsOk (Ls : List KV) (c : Nat) : Prop where
  k : (Ls.map (·.k)).Nodup
  b : (Ls.map (·.b)).Nodup
  c : ∀ y ∈ Ls, y.b < c
  len : Ls.length ≤ 100000
abbrev ksS (Ls : List KV) : List Int := sortI (Ls.map (·.k))
theorem ksS_len (Ls : List KV) : (ksS Ls).length = Ls.length := by rw [sortI_len, List.length_map]
theorem WfP.ks {L : List PE} {last : Int} {c : Nat} (h : WfP L last c) : KsOk (L.map PE.kv) c := by
  refine ⟨?_, ?_, ?_, ?_⟩
  · simpa [PE.kv, Function.comp_def, pidsP] using h.nd
  · simpa [PE.kv, Function.comp_def] using h.bnd
  · intro y hy
    obtain ⟨x, hx, rfl⟩ := List.mem_map.1 hy
    exact h.born x hx
  · have := h.len
    rw [List.length_map]
    omega
section
variable (r mb : Nat) (last : Int)
theorem pids_spec {Ls : List KV} {c : Nat} (h : KsOk Ls c) : Spec Tryz.prog 30 [ptrB r] [tbB r mb last, ksB mb Ls c] fun v H' => ∃ a cap Hs, v = .slice a Ls.length cap ∧ Own 3 1 a Ls.length cap (ivs (ksS Ls)) Hs ∧ H' = tbB r mb last :: ksB mb Ls c :: Hs := by
  have inst : FnOk Tryz.prog 172 := inferInstance
  refine Spec_body Tryz.func30 rfl Tryz.ntmps30 rfl (fun w0 => ?_)
  repeat (first | refine stepA ?_ | intro _)
  refine callA ?_; refine ⟨_, _, keysP_spec mb, _, cutA, ?_⟩
  rintro v H' ⟨b, rfl, rfl⟩
  simp only [List.cons_append, List.nil_append]
  repeat (first | refine stepA ?_ | intro _)
  refine callT ?_; refine ⟨_, _, sortedKeys inst (keysP_iter b mb h.b h.c) h.k h.b h.len, _, cutT, ?_⟩
  rintro v H' ⟨a, cap, Hs, rfl, how, rfl⟩
  simp only [List.cons_append, List.nil_append]
  repeat (first | refine stepA ?_ | intro _)
  (first | refine retA ?_ | refine retB ?_)
  exact ⟨_, ⟨a, cap, Hs, rfl, how, rfl⟩, subT⟩
abbrev tpB (bt r : Nat) : Nat × Blk := (bt, .cells [ptrB r] 59)
theorem all_spec : Spec Tryz.prog 168 [ptrB r] [] fun v H' => ∃ bt, v = .func (.func 290) #[] #[ptrB bt] ∧ H' = [tpB bt r] := by
  refine Spec_body Tryz.func168 rfl Tryz.ntmps168 rfl (fun w0 => ?_)
  repeat (first | refine stepA ?_ | intro _)
  rename_i b
  (first | refine retA ?_ | refine retB ?_)
  exact ⟨_, ⟨b, rfl, rfl⟩, subA⟩
abbrev atK (Ls : List KV) (k : Nat) : Value := (getL Ls (((ksS Ls)[k]?).getD 0)).getD (.pointer none)
theorem all_iter (bt : Nat) {Ls : List KV} {c : Nat} (h : KsOk Ls c) : IterOkC Tryz.prog 290 [ptrB bt]
    (fun (I J : Nat → Hp → Prop) => (∀ k H, I k H → ∃ R, Cut [tpB bt r, tbB r mb last, ksB mb Ls c] H R) ∧ ∀ k H, J k H → I (k + 1) H)
    (fun k => k < Ls.length) (fun k => [atK Ls k]) (fun k => k = Ls.length) 0 := by
  unfold IterOkC
  rintro y I J S ⟨hA, hJ⟩ hy H h0
  obtain ⟨R, hcut⟩ := hA 0 H h0
  have hlen := h.len
  refine Spec_body Tryz.func290 rfl Tryz.ntmps290 rfl (fun w0 => ?_)
  refine W_perm hcut.perm ?_
  simp only [List.cons_append, List.nil_append]
  repeat (first | refine stepA ?_ | intro _)
  refine callT ?_; refine ⟨_, _, pids_spec r mb last h, _, cutT, ?_⟩
  rintro v H' ⟨a, cap, Hs, rfl, how, rfl⟩
  have hl := ksS_len Ls
  generalize hks : ksS Ls = ks at how hl
  refine L_perm (H' := H ++ Hs) ?_ ?_
  · refine List.Perm.trans ?_ (List.Perm.append_right _ hcut.perm.symm)
    simp only [List.cons_append, List.nil_append]
    exact permA
  repeat (first | refine stepA ?_ | intro _)
  refine W_loop (fun x : Nat × Hp => [(0, .func (.yield y) #[] #[]), (1, ptrB bt), (6, .slice a Ls.length cap), (7, .int .i64 (Ls.length : Int)), (8, .int .i64 (x.1 : Int))]) (fun x => x.2 ++ Hs) (fun x => x.1 ≤ Ls.length ∧ I x.1 x.2) (fun x => Ls.length - x.1) (0, H) ⟨Nat.zero_le _, h0⟩ sublA (Sub.refl _) ?_
  rintro ⟨k, Hk⟩ ⟨hk, hIk⟩
  simp only at hk hIk ⊢
  obtain ⟨Rk, hck⟩ := hA k Hk hIk
  by_cases hlt : k < Ls.length
  · rcases how.inv with ⟨_, h1, _⟩ | ⟨g, ys, rfl, rfl, h1, h2, h3, h4⟩
    · omega
    obtain ⟨u, hu⟩ : ∃ u, ks[k]? = some u := ⟨ks[k]'(by omega), by simp⟩
    have hu2 : (ivs ks ++ ys)[k]? = some (.int .i64 u) := ivs_get hu
    refine W_perm (H' := (g, .cells (ivs ks ++ ys) 3) :: tpB bt r :: tbB r mb last :: ksB mb Ls c :: Rk) ((List.Perm.append_right _ hck.perm).trans (by simp only [List.cons_append, List.nil_append]; exact permA)) ?_
    repeat (first | refine stepA ?_ | intro _)
    (first | (apply L_P; (· exact rfl); (· exact rfl)) | (apply QL_P; (· exact rfl))); (· (apply P_lookup; (· exact evA); (· exact evA); (· exact pullA)))
    repeat (first | refine stepA ?_ | intro _)
    have hyk := hy k Hk hIk hlt
    have ek : atK Ls k = (getL Ls u).getD (.pointer none) := by rw [atK, hks, hu]; rfl
    simp only [ek] at hyk
    refine L_yield rfl (ev_of rfl (by with_reducible rfl)) rfl hyk (R0 := [(g, .cells (ivs ks ++ ys) 3)]) ?_ ?_
    · refine List.Perm.trans ?_ (List.Perm.append_right _ hck.perm.symm)
      simp only [List.cons_append, List.nil_append]
      exact permA
    · rintro b H' hb
      rcases hb with ⟨rfl, hb⟩ | ⟨rfl, hb⟩
      · repeat (first | refine stepA ?_ | intro _)
        exact ⟨rfl, (k + 1, H'), ⟨hlt, hJ k H' hb⟩, by simp only; omega, sublA, Sub.refl _⟩
      · repeat (first | refine stepA ?_ | intro _)
        (first | refine retA ?_ | refine retB ?_)
        exact ⟨_, .inr hb, Sub.ofPermR (R := [_]) (List.Perm.refl _)⟩
  · obtain rfl : k = Ls.length := by omega
    repeat (first | refine stepA ?_ | intro _)
    (first | refine retA ?_ | refine retB ?_)
    exact ⟨_, .inl ⟨_, rfl, hIk⟩, Sub.ofPermR (R := Hs) (List.Perm.refl _)⟩
end
end Go.Proofs.YtcpfmjlceoiofaaGreatDoor

/-
  Descriptors: New, row, check, each.
-/
namespace Go.Proofs.YtcpfmjlceoiofaaGreatDoor
open Go.RowKit
attribute [local irreducible] W L QL PureOp thenQ blockQ retQ Spec IterOk YSpec roundQ scopeQ noGoQ
attribute [local irreducible] AS ASi IterOkC retD retE
set_option maxHeartbeats 6400000
set_option maxRecDepth 4000
abbrev flB (r mb : Nat) (count : Int) : Nat × Blk := (r, .cells [.map (some mb), .int .i64 count] 158)
abbrev rowK (b : Nat) (fds : List (Option Addr)) : Nat × Blk := (b, .cells (fds.map Value.pointer) 480)
abbrev rmB (mb : Nat) (L : List (GE (List (Option Addr)))) (c : Nat) : Nat × Blk := (mb, mapB (L.map GE.kv) c)
abbrev noneR : List (Option Addr) := [none, none, none, none, none, none, none, none]
theorem finew_spec : Spec Tryz.prog 34 [] [] fun v H' => ∃ r mb, v = ptrB r ∧ H' = [flB r mb 0, rmB mb [] 0] := by
  refine Spec_body Tryz.func34 rfl Tryz.ntmps34 rfl (fun w0 => ?_)
  repeat (first | refine stepA ?_ | intro _)
  apply L_makeMap
  · exact rfl
  intro mb
  repeat (first | refine stepA ?_ | intro _)
  rename_i r
  (first | refine retA ?_ | refine retB ?_)
  exact ⟨_, ⟨r, mb, rfl, rfl⟩, subA⟩
theorem are_spec (g cap : Nat) (l : List Int) (hl : l.length ≤ 100000) : Spec Tryz.prog 311 [.slice (some ⟨g, 0, none⟩) l.length cap] [(g, .cells (ivs l) 3)] fun v H' => v = .bool (l.all fun x => decide (1 ≤ x)) ∧ H' = [(g, .cells (ivs l) 3)] := by
  refine Spec_body Tryz.func311 rfl Tryz.ntmps311 rfl (fun w0 => ?_)
  repeat (first | refine stepA ?_ | intro _)
  refine W_loop (fun k : Nat => [(5, .slice (some ⟨g, 0, none⟩) l.length cap), (6, .int .i64 (l.length : Int)), (7, .int .i64 (k : Int))]) (fun _ => [(g, .cells (ivs l) 3)]) (fun k => k ≤ l.length ∧ ∀ x ∈ l.take k, 1 ≤ x) (fun k => l.length - k) 0 ⟨by omega, by simp⟩ sublA subA ?_
  rintro k ⟨hk, hall⟩
  by_cases hlt : k < l.length
  · obtain ⟨u, hu⟩ : ∃ u, l[k]? = some u := ⟨l[k], by simp⟩
    have hu2 : (ivs l)[k]? = some (.int .i64 u) := by have := ivs_get (ys := []) hu; rwa [List.append_nil] at this
    by_cases h1 : 1 ≤ u
    · repeat (first | refine stepA ?_ | intro _)
      refine ⟨rfl, k + 1, ⟨hlt, ?_⟩, by omega, sublA, subA⟩
      intro x hx
      obtain ⟨hl2, e⟩ := List.getElem?_eq_some_iff.1 hu
      rw [List.take_succ_eq_append_getElem hl2, e] at hx
      rcases List.mem_append.1 hx with hx | hx
      · exact hall x hx
      · obtain rfl := List.mem_singleton.1 hx
        exact h1
    · have e : (l.all fun x => decide (1 ≤ x)) = false := List.all_eq_false.2 ⟨u, List.mem_of_getElem? hu, by simpa using h1⟩
      rw [e]
      repeat (first | refine stepA ?_ | intro _)
      (first | refine retA ?_ | refine retB ?_); exact ⟨_, ⟨rfl, rfl⟩, subA⟩
  · obtain rfl : k = l.length := by omega
    rw [List.take_length] at hall
    have e : (l.all fun x => decide (1 ≤ x)) = true := List.all_eq_true.2 fun x hx => by simpa using hall x hx
    rw [e]
    repeat (first | refine stepA ?_ | intro _)
    (first | refine retA ?_ | refine retB ?_); exact ⟨_, ⟨rfl, rfl⟩, subA⟩
section
variable (r mb : Nat) (count : Int)
theorem ficheck_spec (g cap : Nat) (l : List Int) (hl : l.length ≤ 100000) : Spec Tryz.prog 199 [ptrB r, .slice (some ⟨g, 0, none⟩) l.length cap] [(g, .cells (ivs l) 3)] fun v H' => v = .int .i64 (if (l.all fun x => decide (1 ≤ x)) then 0 else 2) ∧ H' = [(g, .cells (ivs l) 3)] := by
  refine Spec_body Tryz.func199 rfl Tryz.ntmps199 rfl (fun w0 => ?_)
  repeat (first | refine stepA ?_ | intro _)
  refine callA ?_; refine ⟨_, _, are_spec g cap l hl, _, cutA, ?_⟩
  rintro v H' ⟨rfl, rfl⟩
  simp only [List.cons_append, List.nil_append]
  cases h : (l.all fun x => decide (1 ≤ x))
  · repeat (first | refine stepA ?_ | intro _)
    (first | refine retA ?_ | refine retB ?_); exact ⟨_, ⟨rfl, rfl⟩, subA⟩
  · repeat (first | refine stepA ?_ | intro _)
    (first | refine retA ?_ | refine retB ?_); exact ⟨_, ⟨rfl, rfl⟩, subA⟩
theorem firow_spec (L : List (GE (List (Option Addr)))) (c : Nat) (pid : Int) : Spec Tryz.prog 200 [ptrB r, .int .i64 pid] [flB r mb count, rmB mb L c] fun v H' =>
    (∃ x, findG L pid = some x ∧ v = x.ptr ∧ H' = [flB r mb count, rmB mb L c]) ∨
    (findG L pid = none ∧ ∃ b, v = ptrB b ∧ H' = [flB r mb count, rmB mb (L ++ [⟨b, c, pid, noneR⟩]) (c + 1), rowK b noneR]) := by
  refine Spec_body Tryz.func200 rfl Tryz.ntmps200 rfl (fun w0 => ?_)
  repeat (first | refine stepA ?_ | intro _)
  (first | (apply L_P; (· exact rfl); (· exact rfl)) | (apply QL_P; (· exact rfl))); (· (apply P_lookupOk; (· exact evA); (· exact evA); (· exact pullA)))
  rw [getL_g]
  cases h : findG L pid with
  | none =>
    simp only [Option.map_none, Option.getD_none, Option.isSome_none]
    repeat (first | refine stepA ?_ | intro _)
    rename_i b
    refine L_mapNew (v := .pointer (some ⟨b, 0, none⟩)) (i := pid) (Ls := L.map GE.kv) (c := c) evA evA evA (by rw [getL_g, h]; rfl) repA ?_
    repeat (first | refine stepA ?_ | intro _)
    (first | refine retA ?_ | refine retB ?_)
    refine ⟨_, .inr ⟨trivial, b, rfl, rfl⟩, ?_⟩
    have e : (L ++ [(⟨b, c, pid, noneR⟩ : GE (List (Option Addr)))]).map GE.kv = L.map GE.kv ++ [⟨pid, .pointer (some ⟨b, 0, none⟩), c⟩] := by simp [GE.kv]
    unfold rmB
    rw [e]
    exact subA
  | some x =>
    simp only [Option.map_some, Option.getD_some, Option.isSome_some]
    repeat (first | refine stepA ?_ | intro _)
    (first | refine retA ?_ | refine retB ?_)
    exact ⟨_, .inl ⟨x, rfl, rfl, rfl⟩, subA⟩
end
abbrev rpB (br rb : Nat) : Nat × Blk := (br, .cells [ptrB rb] 362)
theorem each_spec (rb : Nat) : Spec Tryz.prog 201 [ptrB rb] [] fun v H' => ∃ br, v = .func (.func 312) #[] #[ptrB br] ∧ H' = [rpB br rb] := by
  refine Spec_body Tryz.func201 rfl Tryz.ntmps201 rfl (fun w0 => ?_)
  repeat (first | refine stepA ?_ | intro _)
  rename_i b
  (first | refine retA ?_ | refine retB ?_)
  exact ⟨_, ⟨b, rfl, rfl⟩, subA⟩
theorem each_iter (br rb : Nat) (ro : Nat → List (Option Addr)) (hro : ∀ k, (ro k).length = 8) : IterOkC Tryz.prog 312 [ptrB br]
    (fun (I J : Nat → Hp → Prop) => (∀ k H, I k H → ∃ R, Cut [rpB br rb, rowK rb (ro k)] H R) ∧ (∀ k H, k < 8 → (ro k)[k]? = some none → I k H → I (k + 1) H) ∧ ∀ k H, J k H → I (k + 1) H)
    (fun k => k < 8 ∧ (ro k)[k]? ≠ some none) (fun k => [.int .i64 (k : Int), .pointer (((ro k)[k]?).getD none)]) (fun k => k = 8) 0 := by
  unfold IterOkC
  rintro y I J S ⟨hA, hN, hJ⟩ hy H h0
  obtain ⟨R, hcut⟩ := hA 0 H h0
  refine Spec_body Tryz.func312 rfl Tryz.ntmps312 rfl (fun w0 => ?_)
  refine W_perm hcut.perm ?_
  simp only [List.cons_append, List.nil_append]
  repeat (first | refine stepA ?_ | intro _)
  refine W_loop (fun x : Nat × Hp => [(0, .func (.yield y) #[] #[]), (1, ptrB br), (5, ptrB rb), (6, .int .i64 (x.1 : Int))]) (fun x => x.2) (fun x => x.1 ≤ 8 ∧ I x.1 x.2) (fun x => 8 - x.1) (0, H) ⟨Nat.zero_le _, h0⟩ sublA (Sub.ofPerm hcut.perm) ?_
  rintro ⟨k, Hk⟩ ⟨hk, hIk⟩
  simp only at hk hIk ⊢
  by_cases hlt : k < 8
  · obtain ⟨Rk, hck⟩ := hA k Hk hIk
    obtain ⟨o, ho⟩ : ∃ o, (ro k)[k]? = some o := ⟨(ro k)[k]'(by rw [hro]; exact hlt), by simp⟩
    have ho2 : ((ro k).map Value.pointer)[k]? = some (.pointer o) := by rw [List.getElem?_map, ho]; rfl
    refine W_perm hck.perm ?_
    simp only [List.cons_append, List.nil_append]
    cases o with
    | none =>
      repeat (first | refine stepA ?_ | intro _)
      exact ⟨rfl, (k + 1, Hk), ⟨hlt, hN k Hk hlt ho hIk⟩, by simp only; omega, sublA, Sub.ofPerm hck.perm⟩
    | some a =>
      repeat (first | refine stepA ?_ | intro _)
      have hyk := hy k Hk hIk ⟨hlt, by rw [ho]; simp⟩
      simp only [ho, Option.getD_some] at hyk
      refine L_yield rfl (ev_of rfl (by with_reducible rfl)) rfl hyk (R0 := []) ?_ ?_
      · rw [List.append_nil]
        exact hck.perm.symm
      · rintro b H' hb
        rw [List.append_nil]
        rcases hb with ⟨rfl, hb⟩ | ⟨rfl, hb⟩
        · repeat (first | refine stepA ?_ | intro _)
          exact ⟨rfl, (k + 1, H'), ⟨hlt, hJ k H' hb⟩, by simp only; omega, sublA, Sub.refl _⟩
        · repeat (first | refine stepA ?_ | intro _)
          (first | refine retA ?_ | refine retB ?_)
          exact ⟨_, .inr hb, Sub.refl _⟩
  · obtain rfl : k = 8 := by omega
    repeat (first | refine stepA ?_ | intro _)
    (first | refine retA ?_ | refine retB ?_)
    exact ⟨_, .inl ⟨_, rfl, hIk⟩, Sub.refl _⟩
end Go.Proofs.YtcpfmjlceoiofaaGreatDoor

/-
  Processes: Fork.
-/
namespace Go.Proofs.YtcpfmjlceoiofaaGreatDoor
open Go.RowKit
attribute [local irreducible] W L QL PureOp thenQ blockQ retQ Spec IterOk YSpec roundQ scopeQ noGoQ
attribute [local irreducible] AS ASi IterOkC retD retE
set_option maxHeartbeats 6400000
set_option maxRecDepth 4000
def pforkE (L : List PE) (last pid : Int) : Int := if runE L pid ≠ 0 then runE L pid else if L.length = 16 ∨ last = 30000 then 61 else 0
abbrev childP (x : PE) (pid last : Int) : PR := ⟨last + 1, pid, 1, x.p.uid, x.p.gid, [], 0, false⟩
theorem WfP.fork {L : List PE} {last : Int} {c : Nat} (h : WfP L last c) (h1 : L.length < 16) (h2 : last < 30000) (b : Nat) {p : PR} (hp : p.pid = last + 1) : WfP (L ++ [⟨b, c, p⟩]) (last + 1) (c + 1) := by
  have hl := h.last
  refine ⟨?_, ?_, by omega, by simp; omega, ?_, ?_⟩
  · simp only [pidsP, List.map_append, List.map_cons, List.map_nil, List.nodup_append, List.nodup_cons, List.not_mem_nil, not_false_eq_true, List.nodup_nil, and_self, true_and]
    refine ⟨h.nd, ?_⟩
    intro a ha d hd
    obtain rfl := List.mem_singleton.1 hd
    obtain ⟨x, hx, rfl⟩ := List.mem_map.1 ha
    have := (h.rng x hx).2
    rw [hp]
    intro e
    omega
  · intro x hx
    rcases List.mem_append.1 hx with hx | hx
    · have := h.rng x hx
      omega
    · obtain rfl := List.mem_singleton.1 hx
      simp only [hp]
      omega
  · intro x hx
    rcases List.mem_append.1 hx with hx | hx
    · have := h.born x hx
      omega
    · obtain rfl := List.mem_singleton.1 hx
      simp
  · simp only [List.map_append, List.map_cons, List.map_nil, List.nodup_append, List.nodup_cons, List.not_mem_nil, not_false_eq_true, List.nodup_nil, and_self, true_and]
    refine ⟨h.bnd, ?_⟩
    intro a ha d hd
    obtain rfl := List.mem_singleton.1 hd
    obtain ⟨x, hx, rfl⟩ := List.mem_map.1 ha
    have := h.born x hx
    intro e
    omega
theorem findP_last {L : List PE} {last : Int} {c : Nat} (h : WfP L last c) : findP L (last + 1) = none :=
  findP_none.2 fun x hx e => by
    have := (h.rng x hx).2
    omega
section
variable (r mb : Nat) {last : Int} {L : List PE} {c : Nat}
theorem prfork_spec (h : WfP L last c) (pid : Int) : Spec Tryz.prog 105 [ptrB r, .int .i64 pid] (psH r mb last L c) fun v H' =>
    (pforkE L last pid ≠ 0 ∧ v = .tuple #[.int .i64 0, .int .i64 (pforkE L last pid)] ∧ H' = psH r mb last L c) ∨
    (pforkE L last pid = 0 ∧ v = .tuple #[.int .i64 (last + 1), .int .i64 0] ∧ ∃ x b, findP L pid = some x ∧ H' = psH r mb (last + 1) (L ++ [⟨b, c, childP x pid last⟩]) (c + 1)) := by
  have hlast := h.last
  refine Spec_body Tryz.func105 rfl Tryz.ntmps105 rfl (fun w0 => ?_)
  repeat (first | refine stepA ?_ | intro _)
  refine callT ?_; refine ⟨_, _, prrun_spec r mb last L c pid, _, cutT, ?_⟩
  rintro v H' ⟨rfl, rfl⟩
  simp only [List.cons_append, List.nil_append]
  cases hf : findP L pid with
  | none =>
    have e : pforkE L last pid = 60 := by simp [pforkE, runE, hf]
    rw [e]
    simp only [runV, runE, hf, Option.elim]
    repeat (first | refine stepA ?_ | intro _)
    (first | refine retA ?_ | refine retB ?_)
    exact ⟨_, .inl ⟨by decide, rfl, rfl⟩, subT⟩
  | some x =>
    simp only [runV, runE, hf, Option.elim]
    by_cases h1 : x.p.state = 1
    · simp only [h1, if_true]
      obtain ⟨T, hT, -, -⟩ := prB_at hf
      repeat (first | refine stepA ?_ | intro _)
      (first | (apply L_P; (· exact rfl); (· exact rfl)) | (apply QL_P; (· exact rfl))); (· (apply P_lenMap; (· exact evA); (· exact pullA)))
      rw [List.length_map]
      by_cases h16 : L.length = 16
      · have e : pforkE L last pid = 61 := by simp [pforkE, runE, hf, h1, h16]
        rw [e]
        repeat (first | refine stepA ?_ | intro _)
        (first | refine retA ?_ | refine retB ?_)
        exact ⟨_, .inl ⟨by decide, rfl, rfl⟩, subT⟩
      · by_cases h30 : last = 30000
        · have e : pforkE L last pid = 61 := by simp [pforkE, runE, hf, h1, h30]
          rw [e]
          repeat (first | refine stepA ?_ | intro _)
          (first | refine retA ?_ | refine retB ?_)
          exact ⟨_, .inl ⟨by decide, rfl, rfl⟩, subT⟩
        · have e : pforkE L last pid = 0 := by simp [pforkE, runE, hf, h1, h30, h16]
          rw [e]
          repeat (first | refine stepA ?_ | intro _)
          refine W_tail (T := prB L) hT ?_
          simp only [List.cons_append, List.nil_append]
          refine W_any [tbB r mb (last + 1), prK x.b x.p] [19] rfl ?_
          refine AS_at 0 (by decide +kernel) ?_; refine takeA ?_
          refine AS_at 1 (by decide +kernel) ?_; refine takeA ?_
          refine AS_at 2 (by decide +kernel) ?_; refine takeA ?_
          refine AS_at 3 (by decide +kernel) ?_; refine takeA ?_
          refine AS_at 4 (by decide +kernel) ?_; refine takeA ?_
          refine AS_at 5 (by decide +kernel) ?_; refine takeA ?_
          refine AS_at 6 (by decide +kernel) ?_; refine takeA ?_
          refine AS_at 7 (by decide +kernel) ?_; refine takeA ?_
          refine AS_at 8 (by decide +kernel) ?_; refine takeA ?_
          refine AS_at 9 (by decide +kernel) ?_; refine takeA ?_
          refine AS_at 10 (by decide +kernel) ?_; refine takeA ?_
          refine AS_at 11 (by decide +kernel) ?_; refine takeA ?_
          refine AS_at 12 (by decide +kernel) ?_; refine takeA ?_
          refine AS_at 13 (by decide +kernel) ?_; refine takeA ?_
          refine AS_at 14 (by decide +kernel) ?_; refine takeA ?_
          refine AS_at 15 (by decide +kernel) ?_; refine takeA ?_
          refine AS_at 16 (by decide +kernel) ?_; refine takeA ?_
          refine AS_at 17 (by decide +kernel) ?_; refine takeA ?_
          refine AS_one 18 rfl (by decide +kernel) rfl ?_
          refine stepA ?_
          intro b
          refine L_nil ?_; refine ⟨rfl, (by first | exact KeepsH.brk (by decide +kernel) | exact KeepsH.sub subA | exact KeepsH.sub subT), ?_⟩
          refine AS_one 19 rfl (by decide +kernel) rfl ?_
          refine L_mapNew (v := .pointer (some ⟨b, 0, none⟩)) (i := last + 1) (Ls := L.map PE.kv) (c := c) evA evA evA (by rw [getL_kv, findP_last h]; rfl) repA ?_
          refine L_nil ?_; refine ⟨rfl, (by first | exact KeepsH.brk (by decide +kernel) | exact KeepsH.sub subA | exact KeepsH.sub subT), ?_⟩
          refine AS_done (by decide +kernel) ?_
          repeat (first | refine stepA ?_ | intro _)
          (first | refine retA ?_ | refine retB ?_)
          have e1 : psH r mb (last + 1) (L ++ [⟨b, c, childP x pid last⟩]) (c + 1) = tbB r mb (last + 1) :: (mb, mapB (L.map PE.kv ++ [⟨last + 1, .pointer (some ⟨b, 0, none⟩), c⟩]) (c + 1)) :: (prB L ++ [prK b (childP x pid last)]) := by simp [prB, PE.blk, PE.kv]
          refine ⟨_, .inr ⟨trivial, rfl, x, b, rfl, rfl⟩, ?_⟩
          rw [e1]
          refine Sub.back hT ?_
          simp only [List.cons_append, List.nil_append]
          refine Sub.ofPermR (R := []) ?_
          rw [List.append_nil]
          exact List.perm_append_singleton (prK b (childP x pid last)) (tbB r mb (last + 1) :: (mb, mapB (L.map PE.kv ++ [⟨last + 1, .pointer (some ⟨b, 0, none⟩), c⟩]) (c + 1)) :: prB L)
    · have e : pforkE L last pid = 2 := by simp [pforkE, runE, hf, h1]
      rw [e]
      simp only [h1, if_false]
      repeat (first | refine stepA ?_ | intro _)
      (first | refine retA ?_ | refine retB ?_)
      exact ⟨_, .inl ⟨by decide, rfl, rfl⟩, subT⟩
end
end Go.Proofs.YtcpfmjlceoiofaaGreatDoor

/-
  Processes: Exit.
-/
namespace Go.Proofs.YtcpfmjlceoiofaaGreatDoor
open Go.RowKit
attribute [local irreducible] W L QL PureOp thenQ blockQ retQ Spec IterOk YSpec roundQ scopeQ noGoQ
attribute [local irreducible] AS ASi IterOkC retD retE
set_option maxHeartbeats 6400000
set_option maxRecDepth 4000
/-- those of some numbers changed -/
def mapIn (L : List PE) (S : List Int) (f : PR → PR) : List PE := L.map fun x => if x.p.pid ∈ S then { x with p := f x.p } else x
theorem mapIn_nil (L : List PE) (f : PR → PR) : mapIn L [] f = L := by simp [mapIn]
theorem mapIn_all {L : List PE} {S : List Int} (f : PR → PR) (h : ∀ x ∈ L, x.p.pid ∈ S) : mapIn L S f = mapP L f := by
  rw [mapIn, mapP]
  exact List.map_congr_left fun x hx => by rw [if_pos (h x hx)]
theorem mapIn_kv {L : List PE} {S : List Int} {f : PR → PR} (hf : ∀ p, (f p).pid = p.pid) : (mapIn L S f).map PE.kv = L.map PE.kv := by
  rw [mapIn, List.map_map]
  refine List.map_congr_left fun x _ => ?_
  simp only [Function.comp]
  split
  · simp [PE.kv, hf]
  · rfl
theorem mapIn_step {f : PR → PR} (hf : ∀ p, (f p).pid = p.pid) {S : List Int} {u : Int} (hu : u ∉ S) : ∀ {L : List PE} {x : PE}, (pidsP L).Nodup → findP L u = some x → findP (mapIn L S f) u = some x ∧ mapIn L (S ++ [u]) f = setP (mapIn L S f) u (f x.p)
  | [], _, _, h => by simp [findP] at h
  | y :: L, x, hn, h => by
    have hn2 : y.p.pid ∉ pidsP L ∧ (pidsP L).Nodup := by simpa [pidsP] using hn
    have e : ∀ S, mapIn (y :: L) S f = (if y.p.pid ∈ S then { y with p := f y.p } else y) :: mapIn L S f := fun S => by simp [mapIn]
    have epid : ∀ S : List Int, (if y.p.pid ∈ S then { y with p := f y.p } else y : PE).p.pid = y.p.pid := fun S => by split <;> simp [hf]
    rw [findP] at h
    rw [e, e, findP, setP, epid]
    by_cases hk : u = y.p.pid
    · rw [if_pos hk] at h
      cases h
      have hyS : y.p.pid ∉ S := hk ▸ hu
      rw [if_neg hyS, if_pos hk, if_pos hk, if_pos (by rw [hk]; simp)]
      refine ⟨rfl, ?_⟩
      congr 1
      rw [mapIn, mapIn]
      refine List.map_congr_left fun z hz => ?_
      have : z.p.pid ≠ u := fun e => hn2.1 (List.mem_map.2 ⟨z, hz, by rw [e, hk]⟩)
      simp [this]
    · rw [if_neg hk] at h
      obtain ⟨h1, h2⟩ := mapIn_step hf hu hn2.2 h
      rw [if_neg hk, if_neg hk, h2]
      refine ⟨h1, ?_⟩
      congr 1
      have : y.p.pid ∈ S ++ [u] ↔ y.p.pid ∈ S := by
        simp only [List.mem_append, List.mem_singleton]
        exact ⟨fun q => q.resolve_right fun e => hk e.symm, .inl⟩
      simp only [this]
/-- the k-th number of a table -/
theorem ks_at {L : List PE} {k : Nat} (hk : k < L.length) : ∃ u x, (ksS (L.map PE.kv))[k]? = some u ∧ findP L u = some x ∧ atK (L.map PE.kv) k = x.ptr := by
  have hl := ksS_len (L.map PE.kv)
  rw [List.length_map] at hl
  obtain ⟨u, hu⟩ : ∃ u, (ksS (L.map PE.kv))[k]? = some u := ⟨(ksS (L.map PE.kv))[k]'(by omega), by simp⟩
  have hm : u ∈ pidsP L := by
    have h1 := (sortI_perm ((L.map PE.kv).map (·.k))).mem_iff.1 (List.mem_of_getElem? hu)
    simpa [pidsP, PE.kv, Function.comp_def] using h1
  cases hf : findP L u with
  | none =>
    obtain ⟨x, hx, hxu⟩ := List.mem_map.1 hm
    exact absurd hxu (findP_none.1 hf x hx)
  | some x => exact ⟨u, x, hu, hf, by rw [atK, hu, Option.getD_some, getL_kv, hf]; rfl⟩
theorem ks_nodup {L : List PE} (hn : (pidsP L).Nodup) : (ksS (L.map PE.kv)).Nodup := by
  refine (sortI_perm _).nodup_iff.2 ?_
  simpa [pidsP, PE.kv, Function.comp_def] using hn
theorem ks_mem {L : List PE} {x : PE} (hx : x ∈ L) : x.p.pid ∈ ksS (L.map PE.kv) := by
  refine (sortI_perm _).mem_iff.2 ?_
  exact List.mem_map.2 ⟨x.kv, List.mem_map.2 ⟨x, hx, rfl⟩, rfl⟩
theorem nodup_take_get {l : List Int} (hn : l.Nodup) {k : Nat} {u : Int} (h : l[k]? = some u) : u ∉ l.take k ∧ l.take (k + 1) = l.take k ++ [u] := by
  obtain ⟨hk, rfl⟩ := List.getElem?_eq_some_iff.1 h
  refine ⟨fun hm => ?_, List.take_succ_eq_append_getElem hk⟩
  have h1 : l = l.take k ++ l.drop k := (List.take_append_drop k l).symm
  rw [h1, List.nodup_append] at hn
  have h2 : l[k] ∈ l.drop k := by rw [List.drop_eq_getElem_cons hk]; exact List.mem_cons_self
  exact hn.2.2 _ hm _ h2 rfl
abbrev orphan (pid : Int) (p : PR) : PR := if p.parent = pid then { p with parent := 1 } else p
theorem orphan_pid (pid : Int) (p : PR) : (orphan pid p).pid = p.pid := by unfold orphan; split <;> rfl
def exitE (L : List PE) (pid status : Int) : Int := if runE L pid ≠ 0 then runE L pid else if status < 0 ∨ status > 255 ∨ pid = 1 then 2 else 0
abbrev endedP (p : PR) (status : Int) : PR := { p with state := 3, status := status }
section
variable (r mb : Nat) {last : Int} {L : List PE} {c : Nat}
theorem prexit_spec (h : WfP L last c) (pid status : Int) : Spec Tryz.prog 210 [ptrB r, .int .i64 pid, .int .i64 status] (psH r mb last L c) fun v H' => v = .int .i64 (exitE L pid status) ∧
    ((exitE L pid status ≠ 0 ∧ H' = psH r mb last L c) ∨ (exitE L pid status = 0 ∧ ∃ x, findP L pid = some x ∧ x.p.state = 1 ∧ H' = psH r mb last (mapP (setP L pid (endedP x.p status)) (orphan pid)) c)) := by
  refine Spec_body Tryz.func210 rfl Tryz.ntmps210 rfl (fun w0 => ?_)
  repeat (first | refine stepA ?_ | intro _)
  rename_i b4
  refine callT ?_; refine ⟨_, _, prrun_spec r mb last L c pid, _, cutT, ?_⟩
  rintro v H' ⟨rfl, rfl⟩
  simp only [List.cons_append, List.nil_append]
  cases hf : findP L pid with
  | none =>
    have e : exitE L pid status = 60 := by simp [exitE, runE, hf]
    rw [e]
    simp only [runV, runE, hf, Option.elim]
    repeat (first | refine stepA ?_ | intro _)
    (first | refine retA ?_ | refine retB ?_)
    exact ⟨_, ⟨rfl, .inl ⟨by decide, rfl⟩⟩, subT⟩
  | some x =>
    simp only [runV, runE, hf, Option.elim]
    by_cases h1 : x.p.state = 1
    · simp only [h1, if_true]
      obtain ⟨T, hT, hset, -⟩ := prB_at hf
      by_cases h2 : status < 0
      · have e : exitE L pid status = 2 := by simp [exitE, runE, hf, h1, h2]
        rw [e]
        repeat (first | refine stepA ?_ | intro _)
        (first | refine retA ?_ | refine retB ?_)
        exact ⟨_, ⟨rfl, .inl ⟨by decide, rfl⟩⟩, subT⟩
      by_cases h3 : status > 255
      · have e : exitE L pid status = 2 := by simp [exitE, runE, hf, h1, h3]
        rw [e]
        repeat (first | refine stepA ?_ | intro _)
        (first | refine retA ?_ | refine retB ?_)
        exact ⟨_, ⟨rfl, .inl ⟨by decide, rfl⟩⟩, subT⟩
      by_cases h4 : pid = 1
      · have e : exitE L pid status = 2 := by
          simp only [exitE, runE, hf, Option.elim, h1, if_true, ne_eq, not_true_eq_false, if_false]
          rw [if_pos (by omega)]
        rw [e]
        repeat (first | refine stepA ?_ | intro _)
        (first | refine retA ?_ | refine retB ?_)
        exact ⟨_, ⟨rfl, .inl ⟨by decide, rfl⟩⟩, subT⟩
      have e : exitE L pid status = 0 := by
        simp only [exitE, runE, hf, Option.elim, h1, if_true, ne_eq, not_true_eq_false, if_false]
        rw [if_neg (by omega)]
      rw [e]
      repeat (first | refine stepA ?_ | intro _)
      refine L_tail (T := prB L) hT ?_
      simp only [List.cons_append, List.nil_append]
      repeat (first | refine stepA ?_ | intro _)
      have hpx := findP_pid hf
      obtain ⟨L1, hL1⟩ : ∃ L1, L1 = setP L pid (endedP x.p status) := ⟨_, rfl⟩
      have hT1 : (prB L1).Perm (prK x.b (endedP x.p status) :: T) := by rw [hL1]; exact hset _
      have hw1 : WfP L1 last c := by rw [hL1]; exact h.set (p := endedP x.p status) hpx
      have hkv : L.map PE.kv = L1.map PE.kv := by rw [hL1]; exact (setP_kv (p := endedP x.p status) hpx).symm
      (first | refine W_back (x := prK x.b (endedP x.p status)) hT1 ?_ | refine L_back (x := prK x.b (endedP x.p status)) hT1 ?_)
      simp only [List.cons_append, List.nil_append]
      unfold kvB
      rw [hkv]
      repeat (first | refine stepA ?_ | intro _)
      refine callA ?_; refine ⟨_, _, all_spec r, _, cutA, ?_⟩
      rintro v H' ⟨bt, rfl, rfl⟩
      simp only [List.cons_append, List.nil_append]
      repeat (first | refine stepA ?_ | intro _)
      have inst : FnOk Tryz.prog 290 := inferInstance
      refine W_rangeC rfl (ev_of rfl (by with_reducible rfl)) inst (all_iter r mb last bt hw1.ks) (fun _ => rfl) (by simp)
        (fun k Hc => Hc = tpB bt r :: tbB r mb last :: ksB mb (L1.map PE.kv) c :: (b4, .cells [.int .i64 pid] 3) :: prB (mapIn L1 ((ksS (L1.map PE.kv)).take k) (orphan pid)))
        (fun k Hc => Hc = tpB bt r :: tbB r mb last :: ksB mb (L1.map PE.kv) c :: (b4, .cells [.int .i64 pid] 3) :: prB (mapIn L1 ((ksS (L1.map PE.kv)).take (k + 1)) (orphan pid)))
        (fun _ _ => False)
        (fun u v => ⟨by
          rintro k H ⟨Hc, rfl, rfl⟩
          exact ⟨_, .cons (.there (.there .here)) (.cons (.there (.there .here)) (.cons (.there (.there .here)) .nil))⟩, fun k H h => h⟩)
        ⟨_, rfl, by rw [List.take_zero, mapIn_nil]; exact subT⟩ ?_ ?_ ?_
      · rintro y k Hc w1 rfl hk
        rw [List.length_map] at hk
        obtain ⟨u, z, hu, hz, hat⟩ := ks_at hk
        obtain ⟨hnt, htk⟩ := nodup_take_get (ks_nodup hw1.nd) hu
        obtain ⟨hz2, hst⟩ := mapIn_step (orphan_pid pid) hnt hw1.nd hz
        rw [hat]
        obtain ⟨T2, hT2, hset2, -⟩ := prB_at hz2
        (first | refine W_tail hT2 ?_ | refine L_tail hT2 ?_)
        simp only [List.cons_append, List.nil_append]
        repeat (first | refine stepA ?_ | intro _)
        refine ⟨rfl, fun w2 => ?_⟩
        repeat (first | refine stepA ?_ | intro _)
        by_cases hpar : z.p.parent = pid
        · have ho : orphan pid z.p = { z.p with parent := 1 } := by rw [orphan, if_pos hpar]
          have hT := hset2 (orphan pid z.p)
          rw [ho] at hT
          repeat (first | refine stepA ?_ | intro _)
          exact roundQ_n (Hc := tpB bt r :: tbB r mb last :: ksB mb (L1.map PE.kv) c :: (b4, .cells [.int .i64 pid] 3) :: prB (setP (mapIn L1 ((ksS (L1.map PE.kv)).take k) (orphan pid)) u { z.p with parent := 1 })) (by rw [htk, hst, ho]) (by refine Sub.back hT ?_; simp only [List.cons_append, List.nil_append]; exact subT)
        · have ho : orphan pid z.p = z.p := by rw [orphan, if_neg hpar]
          have hT := hset2 (orphan pid z.p)
          rw [ho] at hT
          repeat (first | refine stepA ?_ | intro _)
          exact roundQ_n (Hc := tpB bt r :: tbB r mb last :: ksB mb (L1.map PE.kv) c :: (b4, .cells [.int .i64 pid] 3) :: prB (setP (mapIn L1 ((ksS (L1.map PE.kv)).take k) (orphan pid)) u z.p)) (by rw [htk, hst, ho]) (by refine Sub.back hT ?_; simp only [List.cons_append, List.nil_append]; exact subT)
      · rintro D k Hc rfl rfl
        have hall : mapIn L1 ((ksS (L1.map PE.kv)).take (L1.map PE.kv).length) (orphan pid) = mapP L1 (orphan pid) := by
          rw [List.take_of_length_le (by rw [ksS_len]; exact Nat.le_refl _)]
          exact mapIn_all _ fun x hx => ks_mem hx
        rw [hall]
        repeat (first | refine stepA ?_ | intro _)
        (first | refine retA ?_ | refine retB ?_)
        refine ⟨_, ⟨rfl, .inr ⟨trivial, x, rfl, h1, rfl⟩⟩, ?_⟩
        show Sub (tbB r mb last :: (mb, mapB ((mapP (setP L pid (endedP x.p status)) (orphan pid)).map PE.kv) c) :: prB (mapP (setP L pid (endedP x.p status)) (orphan pid))) _
        rw [← hL1, mapP_kv (orphan_pid pid)]
        exact subT
      · rintro D c Hc h
        exact h.elim
    · have e : exitE L pid status = 2 := by simp [exitE, runE, hf, h1]
      rw [e]
      simp only [h1, if_false]
      repeat (first | refine stepA ?_ | intro _)
      (first | refine retA ?_ | refine retB ?_)
      exact ⟨_, ⟨rfl, .inl ⟨by decide, rfl⟩⟩, subT⟩
end
end Go.Proofs.YtcpfmjlceoiofaaGreatDoor
