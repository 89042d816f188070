/-
  Joined texts; each begins with its own sentence.
-/
import Derived.Test.YtcpfmjlceoiofaaGreatDoorN06
import Derived.Test.YtcpfmjlceoiofaaGreatDoorN04
import Derived.Test.YtcpfmjlceoiofaaGreatDoorN05
set_option linter.unusedSimpArgs false
set_option linter.unusedVariables false
set_option linter.unusedSectionVars false
/-
  A part of the own walk through the code: what the functions named here compute.
-/
namespace Go.Proofs.YtcpfmjlceoiofaaGreatDoor
open Go.RowKit
attribute [local irreducible] W L QL PureOp thenQ blockQ retQ Spec IterOk YSpec roundQ scopeQ noGoQ
set_option maxHeartbeats 400000
/-! ### the next frame that nobody has -/
def nf : List Frm → Nat → Nat
  | [], b => b
  | f :: M, b => if f.refs = 0 then b else nf M (b + 1)
def nextFree (M : List Frm) (j : Nat) : Nat := nf (M.drop j) j
def freeAt (M : List Frm) (j : Nat) : Prop := ∃ f, M[j]? = some f ∧ f.refs = 0
theorem drop_of_get {M : List Frm} {j : Nat} {f : Frm} (h : M[j]? = some f) : M.drop j = f :: M.drop (j + 1) := by
  obtain ⟨hl, rfl⟩ := List.getElem?_eq_some_iff.1 h
  exact List.drop_eq_getElem_cons hl
theorem nextFree_free {M : List Frm} {j : Nat} {f : Frm} (h : M[j]? = some f) (hr : f.refs = 0) : nextFree M j = j := by simp [nextFree, drop_of_get h, nf, hr]
theorem nextFree_used {M : List Frm} {j : Nat} {f : Frm} (h : M[j]? = some f) (hr : f.refs ≠ 0) : nextFree M j = nextFree M (j + 1) := by simp [nextFree, drop_of_get h, nf, hr]
theorem nextFree_end (M : List Frm) : nextFree M M.length = M.length := by simp [nextFree, nf]
theorem nf_count : ∀ (M : List Frm) (b : Nat), b ≤ nf M b ∧ nf M b ≤ b + M.length ∧ (M.drop (nf M b - b)).countP (fun f => f.refs == 0) = M.countP (fun f => f.refs == 0)
  | [], b => by simp [nf]
  | f :: M, b => by
    unfold nf
    split
    · simp
    · rename_i h
      have ih := nf_count M (b + 1)
      refine ⟨by omega, by simp; omega, ?_⟩
      rw [show nf M (b + 1) - b = (nf M (b + 1) - (b + 1)) + 1 by omega, List.drop_succ_cons, ih.2.2]
      simp [h]
theorem nextFree_count (M : List Frm) {j : Nat} (hj : j ≤ M.length) : j ≤ nextFree M j ∧ nextFree M j ≤ M.length ∧ (M.drop (nextFree M j)).countP (fun f => f.refs == 0) = (M.drop j).countP (fun f => f.refs == 0) := by
  have h := nf_count (M.drop j) j
  rw [List.length_drop, List.drop_drop] at h
  have e : j + (nf (M.drop j) j - j) = nextFree M j := by unfold nextFree; omega
  rw [e] at h
  exact ⟨h.1, by unfold nextFree; omega, h.2.2⟩
theorem firstFree_next {M : List Frm} (h : freeAt M (nextFree M 0)) : firstFree M = some (nextFree M 0) := by
  have key : ∀ (M : List Frm) (b : Nat), (∃ f, M[nf M b - b]? = some f ∧ f.refs = 0) → M.findIdx? (fun f => f.refs == 0) = some (nf M b - b) := by
    intro M
    induction M with
    | nil => intro b ⟨f, h, _⟩; simp at h
    | cons f M ih =>
      intro b ⟨g, hg, hr⟩
      unfold nf at hg ⊢
      by_cases hf : f.refs = 0
      · simp [hf, List.findIdx?_cons]
      · have hb := nf_count M (b + 1)
        simp only [hf, if_false] at hg ⊢
        rw [show nf M (b + 1) - b = (nf M (b + 1) - (b + 1)) + 1 by omega] at hg ⊢
        rw [List.findIdx?_cons]
        simp only [beq_iff_eq, hf, if_false]
        rw [ih (b + 1) ⟨g, by simpa using hg, hr⟩]
        rfl
  have := key M 0 (by simpa [nextFree, freeAt] using h)
  simpa [firstFree, nextFree] using this
theorem firstFree_none {M : List Frm} (h : nextFree M 0 = M.length) : firstFree M = none := by
  have hc := nextFree_count M (j := 0) (Nat.zero_le _)
  rw [h] at hc
  have h0 : M.countP (fun f => f.refs == 0) = 0 := by simpa using hc.2.2.symm
  rw [List.countP_eq_zero] at h0
  simp only [firstFree, List.findIdx?_eq_none_iff]
  intro f hf
  simpa using h0 f hf
section
variable (m : MemP) {M : List Frm}
abbrev boxH (bx E : Nat) (m : MemP) (M : List Frm) : Hp := (bx, .cells [m.ptr] E) :: memH m M
theorem cutPerm {Hf H R : Hp} (h : Cut Hf H R) : H.Perm (Hf ++ R) := h.perm
theorem unused_spec : Spec Tryz.prog 42 [m.ptr] (memH m M) fun v H' => ∃ bx E, v = .func (.func 90) #[] #[.pointer (some ⟨bx, 0, none⟩)] ∧ H' = boxH bx E m M := by
  refine Spec_body Tryz.func42 rfl Tryz.ntmps42 rfl (fun w0 => ?_)
  repeat (first | refine stepA ?_ | intro _)
  rename_i bx
  (first | refine retA ?_ | refine retB ?_); exact ⟨_, ⟨bx, 58, rfl, rfl⟩, subA⟩
theorem unused_iter (hM : WfM M) (bx E : Nat) : IterOk Tryz.prog 90 [.pointer (some ⟨bx, 0, none⟩)] (fun (_ : Nat) H => ∃ R, Cut (boxH bx E m M) H R)
    (freeAt M) (fun s => [.int .i64 (s : Int)]) (fun s => nextFree M (s + 1)) (fun s => s = M.length) (nextFree M 0) := by
  unfold IterOk
  intro y I S hA hy H hI
  obtain ⟨R, hcut⟩ := hA _ _ hI
  have hml := hM.2
  refine Spec_body Tryz.func90 rfl Tryz.ntmps90 rfl (fun w0 => ?_)
  refine W_perm hcut.perm ?_
  simp only [List.cons_append, List.nil_append]
  repeat (first | refine stepA ?_ | intro _)
  refine W_loop (fun x : Nat × Hp => [(0, .func (.yield y) #[] #[]), (1, .pointer (some ⟨bx, 0, none⟩)), (8, .int .i64 M.length), (9, .int .i64 x.1)]) (fun x => x.2)
    (fun x => x.1 ≤ M.length ∧ I (nextFree M x.1) x.2) (fun x => M.length - x.1) (0, H) ⟨by omega, hI⟩ sublA (Sub.ofPerm hcut.perm) ?_
  rintro ⟨j, Hj⟩ ⟨hj, hIj⟩
  simp only at hj hIj ⊢
  obtain ⟨Rj, hcj⟩ := hA _ _ hIj
  refine W_perm hcj.perm ?_
  simp only [List.cons_append, List.nil_append]
  by_cases hlt : j < M.length
  · obtain ⟨f, hf⟩ : ∃ f, M[j]? = some f := ⟨M[j], by simp [hlt]⟩
    by_cases hr : f.refs = 0
    · repeat (first | refine stepA ?_ | intro _)
      refine callA ?_; refine ⟨_, _, isUsed_spec _ _ m.Tb _ f.refs (flat_refs hM.wf hf), _, cutA, ?_⟩
      rintro v H' ⟨rfl, rfl⟩
      simp only [hr, Nat.lt_irrefl, decide_false]
      repeat (first | refine stepA ?_ | intro _)
      rw [nextFree_free hf hr] at hIj
      refine L_yield rfl (ev_of rfl (by with_reducible rfl)) rfl (hy _ _ hIj ⟨f, hf, hr⟩) (R0 := []) ?_ ?_
      · refine List.Perm.trans (cutPerm (Hf := boxH bx E m M) (R := Rj) ?_) ?_
        · exact cutA
        · rw [List.append_nil]; exact hcj.perm.symm
      · rintro b H' hb
        rw [List.append_nil]
        rcases hb with ⟨rfl, hb⟩ | ⟨rfl, hb⟩
        · repeat (first | refine stepA ?_ | intro _)
          exact ⟨rfl, (j + 1, H'), ⟨by omega, hb⟩, by omega, sublA, Sub.ofPerm (List.Perm.refl _)⟩
        · repeat (first | refine stepA ?_ | intro _)
          (first | apply retQ_ret | apply retQ_end)
          · exact rfl
          · exact marksA
          · exact reslA
          · exact .inr hb
          · exact Sub.ofPerm (List.Perm.refl _)
    · repeat (first | refine stepA ?_ | intro _)
      refine callA ?_; refine ⟨_, _, isUsed_spec _ _ m.Tb _ f.refs (flat_refs hM.wf hf), _, cutA, ?_⟩
      rintro v H' ⟨rfl, rfl⟩
      have hr' : 0 < f.refs := by omega
      simp only [hr', decide_true]
      repeat (first | refine stepA ?_ | intro _)
      refine ⟨rfl, (j + 1, Hj), ⟨by omega, by rw [← nextFree_used hf hr]; exact hIj⟩, by omega, sublA, Sub.ofPerm ?_⟩
      refine List.Perm.trans hcj.perm (List.Perm.symm (cutPerm (Hf := boxH bx E m M) ?_))
      exact cutA
  · obtain rfl : j = M.length := by omega
    rw [nextFree_end] at hIj
    repeat (first | refine stepA ?_ | intro _)
    (first | apply retQ_ret | apply retQ_end)
    · exact rfl
    · exact marksA
    · exact reslA
    · exact .inl ⟨_, rfl, hIj⟩
    · exact Sub.ofPerm hcj.perm
end
end Go.Proofs.YtcpfmjlceoiofaaGreatDoor

/-
  A part of the own walk through the code: what the functions named here compute.
-/
namespace Go.Proofs.YtcpfmjlceoiofaaGreatDoor
open Go.RowKit
attribute [local irreducible] W L QL PureOp thenQ blockQ retQ Spec IterOk YSpec roundQ scopeQ noGoQ
set_option maxHeartbeats 400000
theorem keep_zero {M : List Frm} {k : Nat} {f : Frm} (hb : f.bytes = zero64) : M.set k { f with refs := 1 } = M.set k ⟨1, zero64⟩ := by
  obtain ⟨r, b⟩ := f; simp only at hb; subst hb; rfl
theorem over_all {bs : List UInt8} (h : bs.length = 64) : overw bs 0 zero64 = zero64 := by
  have e : (List.drop (0 + zero64.length) bs) = [] := List.drop_of_length_le (by simp [zero64, h])
  simp [overw, e, h, zero64]
def allocS (M : List Frm) : Int × Int × List Frm :=
  match firstFree M with
  | some i => ((i : Int), 0, M.set i ⟨1, zero64⟩)
  | none => (0, 11, M)
section
variable (m : MemP) {M : List Frm}
theorem alloc_spec (hM : WfM M) : Spec Tryz.prog 295 [m.ptr] (memH m M) fun v H' => v = .tuple #[.int .i64 (allocS M).1, .int .i64 (allocS M).2.1] ∧ H' = memH m (allocS M).2.2 := by
  have hml := hM.2
  refine Spec_body Tryz.func295 rfl Tryz.ntmps295 rfl (fun w0 => ?_)
  repeat (first | refine stepA ?_ | intro _)
  rename_i p1 p2 p3
  refine callA ?_; refine ⟨_, _, unused_spec m (M := M), _, cutA, ?_⟩
  rintro v H' ⟨bx, E, rfl, rfl⟩
  repeat (first | refine stepA ?_ | intro _)
  refine W_range rfl (ev_of rfl (by with_reducible rfl)) inferInstance (unused_iter m hM bx E) (fun _ => rfl) (by simp)
    (fun s Hc => s = nextFree M 0 ∧ Hc = boxH bx E m M ++ [(p3, .cells [.int .i64 0] 29), (p2, .cells [.int .i64 0] 3), (p1, .cells [m.ptr] 58)])
    (fun c Hc => c = .ret ∧ (allocS M).2.1 = 0 ∧ Hc = memH m (allocS M).2.2 ++ [(p3, .cells [.int .i64 (allocS M).2.1] 29), (p2, .cells [.int .i64 (allocS M).1] 3)])
    ?_ ⟨_, ⟨rfl, rfl⟩, subA⟩ ?_ ?_ ?_
  · rintro s Hc u v ⟨rfl, rfl⟩
    exact ⟨_, by exact cutA⟩
  · rintro y s Hc w1 ⟨rfl, rfl⟩ hok
    have hfst := firstFree_next hok
    obtain ⟨f, hf, hr⟩ := hok
    have hw := hM.get hf
    have hl := lt_of_get hf
    simp only [List.cons_append, List.nil_append]
    repeat (first | refine stepA ?_ | intro _)
    refine ⟨rfl, fun w2 => ?_⟩
    repeat (first | refine stepA ?_ | intro _)
    apply L_store1; (· exact evA); (· exact rfl); (· exact rfl); (· exact rfl); (· exact repA); (· exact flat_setrefs (r := 1) hM.wf hf); (· rw [flat_length hM.wf]; omega)
    have hM1 : WfM (M.set (nextFree M 0) { f with refs := 1 }) := hM.set ⟨hw.1, by simp⟩
    have hf1 : (M.set (nextFree M 0) { f with refs := 1 })[nextFree M 0]? = some { f with refs := 1 } := by simp [hl]
    have hb1 : ((flat (M.set (nextFree M 0) { f with refs := 1 })).drop (nextFree M 0 * 65 + 1)).take 64 = bts f.bytes := by
      have h := flat_bytes (a := 0) (n := 64) hM1.wf hf1 (by omega)
      rw [Nat.add_zero] at h
      rw [h, List.drop_zero, List.take_of_length_le (by simp [hw])]
    repeat (first | refine stepA ?_ | intro _)
    first
      | (apply L_store; (· exact evA); (· exact evA); (· exact rfl); (· exact rfl); (· decide); (· exact repA); (· exact rfl); (· simp))
      | skip
    repeat (first | refine stepA ?_ | intro _)
    (first | (apply L_P; (· exact rfl); (· exact rfl)) | (apply QL_P; (· exact rfl))); (· (apply P_loadA; (· exact evA); (· exact pullA); (· exact hb1); (· simp [hw])))
    repeat (first | refine stepA ?_ | intro _)
    (first | (apply L_P; (· exact rfl); (· exact rfl)) | (apply QL_P; (· exact rfl))); (· (apply P_neBytes; (· exact evA); (· exact evA); (· exact rfl); (· exact (rfl : _ = bts zero64)); (· exact hw.1); (· exact rfl)))
    repeat (first | refine stepA ?_ | intro _)
    by_cases hz : f.bytes = zero64
    · have e : allocS M = ((nextFree M 0 : Int), 0, M.set (nextFree M 0) { f with refs := 1 }) := by rw [keep_zero hz]; simp [allocS, hfst]
      rw [show decide (f.bytes = zero64) = true by simp [hz]]
      simp only [Bool.not_true]
      repeat (first | refine stepA ?_ | intro _)
      refine roundQ_r (Hc := memH m (allocS M).2.2 ++ [(p3, .cells [.int .i64 (allocS M).2.1] 29), (p2, .cells [.int .i64 (allocS M).1] 3)]) ⟨rfl, by rw [e], rfl⟩ ?_
      rw [e]
      simp only [memH, List.length_set, List.cons_append, List.nil_append]
      exact subA
    · have e : allocS M = ((nextFree M 0 : Int), 0, (M.set (nextFree M 0) { f with refs := 1 }).set (nextFree M 0) ⟨1, zero64⟩) := by simp [allocS, hfst]
      rw [show decide (f.bytes = zero64) = false by simp [hz]]
      simp only [Bool.not_false]
      repeat (first | refine stepA ?_ | intro _)
      apply L_store
      · exact evA
      · exact evA
      · exact rfl
      · exact rfl
      · decide
      · exact repA
      · have h := flat_over (a := 0) (s := zero64) hM1.wf hf1 (by decide)
        simp only [over_all hw.1] at h
        exact h
      · rw [flat_length hM1.wf]; simp; omega
      repeat (first | refine stepA ?_ | intro _)
      refine roundQ_r (Hc := memH m (allocS M).2.2 ++ [(p3, .cells [.int .i64 (allocS M).2.1] 29), (p2, .cells [.int .i64 (allocS M).1] 3)]) ⟨rfl, by rw [e], rfl⟩ ?_
      rw [e]
      simp only [memH, List.length_set, List.cons_append, List.nil_append]
      exact subA
  · rintro D s Hc hfin ⟨rfl, rfl⟩
    have hn := firstFree_none hfin
    have e : allocS M = (0, 11, M) := by simp [allocS, hn]
    rw [e]
    repeat (first | refine stepA ?_ | intro _)
    (first | refine retA ?_ | refine retB ?_); exact ⟨_, ⟨rfl, rfl⟩, subA⟩
  · rintro D c Hc ⟨rfl, h0, rfl⟩
    simp only [List.cons_append, List.nil_append]
    repeat (first | refine stepA ?_ | intro _)
    (first | refine retA ?_ | refine retB ?_); exact ⟨_, ⟨rfl, rfl⟩, subA⟩
/-! ### Left -/
end
end Go.Proofs.YtcpfmjlceoiofaaGreatDoor

/-
  The walk's own small calculus, sixteenth part: a slice of one struct that is written out.
-/
namespace Go.Proofs.YtcpfmjlceoiofaaGreatDoor
open Go.RowKit
section rules
variable {X : Cx} {Q : PostT} {l : St} {ds : List Deferred} {H : Hp} {ops : Array Oper} {rest : List Oper}
variable {d ty : Nat} {pos : String} {after : Array Edge}
theorem L_buildSlOne {x : Operand} {t e k : Nat} {z cs : List Value} [T : TySl X.P t e k] [Z : TyZ X.P e z] (hlt : Nat.blt d X.n = true) (hx : ev l x = some (.agg cs.toArray)) (hk : cs.length = k) (hz : z.length = k) (h0 : 0 < k ∧ k ≤ 1000)
    (h : ∀ b, L X ops rest Q ((d, .slice (some ⟨b, 0, none⟩) 1 1) :: l) ds ((b, .cells cs e) :: H)) :
    L X ops ({ dst := some d, op := .buildSlice t 1 #[(0, x)], type := ty, pos, after, guard := none } :: rest) Q l ds H :=
  L_val rfl rfl hlt (fun _ e => by cases e) fun ρ hρ w hw => by
    obtain ⟨u, hz1, hz2⟩ : ∃ u, (zeroValue e).run X.P w = .ok u w ∧ u.cells = z.toArray := by
      have hz := Z.zero
      cases hq : X.P.info? e with
      | none => simp [hq] at hz
      | some i =>
        cases hi : i.zero with
        | none => simp [hq, hi] at hz
        | some u => simp [hq, hi] at hz; exact ⟨u, by simp [zeroValue, typeInfo, hq, hi], hz⟩
    have ez : ((Array.range (1 * k)).map (z.toArray[· % z.toArray.size]!)) = z.toArray := by
      apply Array.ext'
      rw [Array.toList_map, Array.toList_range, Nat.one_mul]
      show List.map (fun x => z.toArray[x % z.toArray.size]!) (List.range k) = z
      apply List.ext_getElem
      · simp [hz]
      · intro i h1 h2
        simp only [List.getElem_map, List.getElem_range, List.size_toArray, hz]
        rw [Nat.mod_eq_of_lt (by simpa using h1), getElem!_pos z.toArray i (by simpa using h2)]
        rfl
    have hfill : Instr.fill (fun i => some (i * k, k)) z.toArray [(0, .agg cs.toArray)] = some cs.toArray := by
      have e1 : Instr.fill (fun i => some (i * k, k)) z.toArray [(0, .agg cs.toArray)] = Instr.fill (#[(0, k)][·]?) z.toArray [(0, .agg cs.toArray)] := by
        simp [Instr.fill]
      have hf : fitL [(0, k)] z.length [(0, .agg cs.toArray)] = true := by
        simp [fitL, cellsL, hk, hz]
      rw [e1, fill_L [(0, k)] [(0, .agg cs.toArray)] z hf]
      congr 2
      simp [fillL, splice, cellsL]
      omega
    refine ⟨_, _, _, ?_, hw.alloc (.cells cs e), h _⟩
    have hm : (#[((0 : Nat), x)].map fun (p : Nat × Operand) => (p.1, ρ p.2)).toList = [(0, .agg cs.toArray)] := by simp [hρ x _ hx]
    simp only [execOp, Instr.buildSlice, Sem.run_bind, run_underlying T.und w, Result.andThen_ok, T.runSize w]
    have a1 : ¬ (1 * k > 2 ^ 24) := by omega
    have a2 : ¬ (1 * k = 0) := by omega
    simp only [a1, a2, if_false, Sem.run_bind, Sem.run_pure, Result.andThen_ok, hz1, hz2, ez, hm, hfill, newRow, run_newObj_alloc, Blk.obj]
end rules
end Go.Proofs.YtcpfmjlceoiofaaGreatDoor

/-
  Page tables: within, entries: what is read and written.
-/
namespace Go.Proofs.YtcpfmjlceoiofaaGreatDoor
open Go.RowKit
attribute [local irreducible] W L QL PureOp thenQ blockQ retQ Spec IterOk YSpec roundQ scopeQ noGoQ
attribute [local irreducible] AS ASi IterOkC retD retE
set_option maxHeartbeats 3200000
theorem withinC_spec (b : Nat) (most n : Int) : Spec Tryz.prog 433 [.int .i64 n, .pointer (some ⟨b, 0, none⟩)] [(b, .cells [.int .i64 most] 3)] fun v H' => v = .bool (!inB most n) ∧ H' = [(b, .cells [.int .i64 most] 3)] := by
  refine Spec_body Tryz.func433 rfl Tryz.ntmps433 rfl (fun w0 => ?_)
  by_cases h0 : n < 0
  · have e : inB most n = false := by simp [inB]; omega
    rw [e]
    repeat (first | refine stepA ?_ | intro _)
    (first | refine retA ?_ | refine retB ?_); exact ⟨_, ⟨rfl, rfl⟩, subA⟩
  · by_cases h1 : n > most
    · have e : inB most n = false := by simp [inB]; omega
      rw [e]
      repeat (first | refine stepA ?_ | intro _)
      (first | refine retA ?_ | refine retB ?_); exact ⟨_, ⟨rfl, rfl⟩, subA⟩
    · have e : inB most n = true := by simp [inB]; omega
      rw [e]
      repeat (first | refine stepA ?_ | intro _)
      (first | refine retA ?_ | refine retB ?_); exact ⟨_, ⟨rfl, rfl⟩, subA⟩
/-- slices.IndexFunc, ContainsFunc at whole numbers, of a function that only looks -/
theorem indexF_blk {f : FuncId} {caps : List Value} {Hc : Hp} {p : Int → Bool} [T : FnOk Tryz.prog f] (g n cap : Nat) (xs : List Int) (ys : List Value) (hl : xs.length = n) (hn : n ≤ 1000)
    (hf : ∀ x ∈ xs, Spec Tryz.prog f (.int .i64 x :: caps) Hc (fun v H' => v = .bool (p x) ∧ H' = Hc)) :
    Spec Tryz.prog 211 [.slice (some ⟨g, 0, none⟩) n cap, .func (.func f) #[] caps.toArray] ((g, .cells (ints xs ++ ys) 3) :: Hc) fun v H' => v = .int .i64 (match xs.findIdx? p with | some i => (i : Int) | none => -1) ∧ H' = (g, .cells (ints xs ++ ys) 3) :: Hc := by
  refine Spec_body Tryz.func211 rfl Tryz.ntmps211 rfl (fun w0 => ?_)
  repeat (first | refine stepA ?_ | intro _)
  refine W_loop (fun k : Nat => [(0, .slice (some ⟨g, 0, none⟩) n cap), (1, .func (.func f) #[] caps.toArray), (7, .int .i64 (n : Int)), (8, .int .i64 (k : Int))]) (fun _ => (g, .cells (ints xs ++ ys) 3) :: Hc) (fun k => k ≤ n ∧ ∀ (j : Nat) x, j < k → xs[j]? = some x → p x = false) (fun k => n - k) 0 ⟨by omega, fun j x hj => absurd hj (by omega)⟩ sublA subT ?_
  rintro k ⟨hk, hall⟩
  by_cases hlt : k < n
  · obtain ⟨x, hx⟩ : ∃ x, xs[k]? = some x := ⟨xs[k]'(by omega), by simp [hl, hlt]⟩
    have hc : (ints xs ++ ys)[k]? = some (.int .i64 x) := by rw [List.getElem?_append_left (by simp [hl]; exact hlt)]; simp [hx]
    have hfx := hf x (List.mem_of_getElem? hx)
    repeat (first | refine stepA ?_ | intro _)
    (first | (refine ldA ?_; refine ⟨_, hc, ?_⟩) | (refine qldA ?_; refine ⟨_, hc, ?_⟩) | skip)
    repeat (first | refine stepA ?_ | intro _)
    refine callT ?_; refine ⟨_, _, hfx, _, cutT, ?_⟩
    rintro v H' ⟨rfl, rfl⟩
    simp only [List.cons_append, List.nil_append]
    cases hp : p x with
    | true =>
      repeat (first | refine stepA ?_ | intro _)
      have e : xs.findIdx? p = some k := by
        rw [List.findIdx?_eq_some_iff_getElem]
        obtain ⟨h1, h2⟩ := List.getElem?_eq_some_iff.1 hx
        refine ⟨h1, by rw [h2] <;> exact hp, fun j hj => ?_⟩
        have := hall j (xs[j]'(by omega)) hj (by simp)
        simpa using this
      (first | refine retA ?_ | refine retB ?_)
      exact ⟨_, ⟨by rw [e] <;> rfl, rfl⟩, subT⟩
    | false =>
      repeat (first | refine stepA ?_ | intro _)
      exact ⟨rfl, k + 1, ⟨by omega, fun j y hj hy => by
        by_cases q : j = k
        · subst q; rw [hx] at hy; cases hy; exact hp
        · exact hall j y (by omega) hy⟩, by omega, sublA, subT⟩
  · repeat (first | refine stepA ?_ | intro _)
    have e : xs.findIdx? p = none := by
      rw [List.findIdx?_eq_none_iff]
      intro x hx
      obtain ⟨j, hj, rfl⟩ := List.getElem_of_mem hx
      have := hall j xs[j] (by omega) (by simp [hj])
      simpa using this
    (first | refine retA ?_ | refine retB ?_)
    exact ⟨_, ⟨by rw [e] <;> rfl, rfl⟩, subT⟩
theorem containsF_blk {f : FuncId} {caps : List Value} {Hc : Hp} {p : Int → Bool} [T : FnOk Tryz.prog f] (g n cap : Nat) (xs : List Int) (ys : List Value) (hl : xs.length = n) (hn : n ≤ 1000)
    (hf : ∀ x ∈ xs, Spec Tryz.prog f (.int .i64 x :: caps) Hc (fun v H' => v = .bool (p x) ∧ H' = Hc)) :
    Spec Tryz.prog 275 [.slice (some ⟨g, 0, none⟩) n cap, .func (.func f) #[] caps.toArray] ((g, .cells (ints xs ++ ys) 3) :: Hc) fun v H' => v = .bool (xs.any p) ∧ H' = (g, .cells (ints xs ++ ys) 3) :: Hc := by
  refine Spec_body Tryz.func275 rfl Tryz.ntmps275 rfl (fun w0 => ?_)
  repeat (first | refine stepA ?_ | intro _)
  refine callT ?_; refine ⟨_, _, indexF_blk g n cap xs ys hl hn hf, _, cutT, ?_⟩
  rintro v H' ⟨rfl, rfl⟩
  simp only [List.cons_append, List.nil_append]
  cases hi : xs.findIdx? p with
  | none =>
    have e : xs.any p = false := by
      rw [List.findIdx?_eq_none_iff] at hi
      rw [List.any_eq_false]
      intro x hx
      simpa using hi x hx
    repeat (first | refine stepA ?_ | intro _)
    (first | refine retA ?_ | refine retB ?_)
    exact ⟨_, ⟨by rw [e] <;> rfl, rfl⟩, subT⟩
  | some i =>
    have e : xs.any p = true := by
      obtain ⟨h1, h2, _⟩ := List.findIdx?_eq_some_iff_getElem.1 hi
      rw [List.any_eq_true]
      exact ⟨_, List.getElem_mem h1, h2⟩
    simp only []
    repeat (first | refine stepA ?_ | intro _)
    (first | refine retA ?_ | refine retB ?_)
    exact ⟨_, ⟨by rw [e] <;> rfl, rfl⟩, subT⟩
theorem ptwithin_one (g cap : Nat) (most n : Int) (ys : List Value) : Spec Tryz.prog 378 [.int .i64 most, .slice (some ⟨g, 0, none⟩) 1 cap] [(g, .cells (.int .i64 n :: ys) 3)] fun v H' => v = .bool (inB most n) ∧ H' = [(g, .cells (.int .i64 n :: ys) 3)] := by
  refine Spec_body Tryz.func378 rfl Tryz.ntmps378 rfl (fun w0 => ?_)
  repeat (first | refine stepA ?_ | intro _)
  rename_i b
  refine callA ?_; refine ⟨_, _, containsF_blk (p := fun n => !inB most n) g 1 cap [n] ys rfl (by omega) (fun x _ => withinC_spec b most x), _, cutA, ?_⟩
  rintro v H' ⟨rfl, rfl⟩
  simp only [List.cons_append, List.nil_append, List.any_cons, List.any_nil, Bool.or_false]
  cases h : inB most n
  all_goals
    repeat (first | refine stepA ?_ | intro _)
    (first | refine retA ?_ | refine retB ?_); exact ⟨_, ⟨rfl, rfl⟩, subA⟩
end Go.Proofs.YtcpfmjlceoiofaaGreatDoor

/-
  Page tables: an entry that is read, written.
-/
namespace Go.Proofs.YtcpfmjlceoiofaaGreatDoor
open Go.RowKit
attribute [local irreducible] W L QL PureOp thenQ blockQ retQ Spec IterOk YSpec roundQ scopeQ noGoQ
attribute [local irreducible] AS ASi IterOkC retD retE
set_option maxHeartbeats 3200000
set_option maxRecDepth 4000
structure En where
  flags : Nat
  frame : Nat
deriving DecidableEq
def en0 : En := ⟨0, 0⟩
abbrev En.cells (x : En) : List Value := [.int .i64 (x.flags : Int), .int .i64 (x.frame : Int)]
def enOf : List UInt8 → En
  | [a, _, c, d] => ⟨a.toNat, c.toNat * 256 + d.toNat⟩
  | _ => en0
def getE (M : List Frm) (t : Int) (i : Nat) : En := enOf (readM M t (4 * i) 4).1
def bytesE (x : En) : List UInt8 := [x.flags.toUInt8, 0, (x.frame / 256).toUInt8, x.frame.toUInt8]
def putE (M : List Frm) (t : Int) (i : Nat) (x : En) : List Frm := (writeM M t (4 * i) (bytesE x)).2
theorem readM_four {M : List Frm} (hM : WfM M) (t : Int) {i : Nat} (hi : i < 16) : ((readM M t (4 * i) 4).2 = 0 ∧ ∃ a b c d, (readM M t (4 * i) 4).1 = [a, b, c, d]) ∨ ((readM M t (4 * i) 4).2 = 10 ∧ (readM M t (4 * i) 4).1 = []) := by
  unfold readM
  cases hg : getM M t with
  | none => exact .inr ⟨rfl, rfl⟩
  | some f =>
    left
    obtain ⟨j, rfl, hj, hr⟩ := getM_some hg
    have hw := hM.get hj
    simp only
    rw [if_pos (by omega)]
    refine ⟨rfl, ?_⟩
    have hlen : ((f.bytes.drop (4 * (i : Int)).toNat).take (4 : Int).toNat).length = 4 := by
      rw [List.length_take, List.length_drop, hw.1]
      have : (4 * (i : Int)).toNat = 4 * i := by omega
      rw [this]; show min 4 _ = 4; omega
    generalize (f.bytes.drop (4 * (i : Int)).toNat).take (4 : Int).toNat = s at hlen
    match s, hlen with
    | [a, b, c, d], _ => exact ⟨a, b, c, d, rfl⟩
section
variable (m : MemP) {M : List Frm}
theorem ptof_spec (p : Nat) (hp : p < 256) : Spec Tryz.prog 303 [.int .i64 (p : Int)] [] fun v H' => v = .agg #[.int .i64 ((p / 16 : Nat) : Int), .int .i64 ((p % 16 : Nat) : Int)] ∧ H' = [] := by
  have e1 : (p : Int) / 16 = ((p / 16 : Nat) : Int) := by omega
  have e2 : (p : Int) % 16 = ((p % 16 : Nat) : Int) := by omega
  refine Spec_body Tryz.func303 rfl Tryz.ntmps303 rfl (fun w0 => ?_)
  repeat (first | refine stepA ?_ | intro _)
  (first | refine retA ?_ | refine retB ?_); exact ⟨_, ⟨by rw [← e1, ← e2] <;> rfl, rfl⟩, subA⟩
theorem ptget_spec (hM : WfM M) (t : Int) (i : Nat) (hi : i < 16) : Spec Tryz.prog 304 [m.ptr, .int .i64 t, .int .i64 (i : Int)] (memH m M) fun v H' => v = .agg (getE M t i).cells.toArray ∧ H' = memH m M := by
  refine Spec_body Tryz.func304 rfl Tryz.ntmps304 rfl (fun w0 => ?_)
  repeat (first | refine stepA ?_ | intro _)
  refine callA ?_; refine ⟨_, _, read_spec m hM t (4 * (i : Int)) 4, _, cutA, ?_⟩
  rintro v H' ⟨rfl, rfl⟩
  simp only [List.cons_append, List.nil_append]
  rcases readM_four hM t hi with ⟨e1, a, b, c, d, e2⟩ | ⟨e1, e2⟩
  · have eg : getE M t i = ⟨a.toNat, c.toNat * 256 + d.toNat⟩ := by rw [getE, e2]; rfl
    have ha := a.toNat_lt
    have hc := c.toNat_lt
    have hd := d.toNat_lt
    have w1 : IntKind.i64.wrap (a.toNat : Int) = (a.toNat : Int) := wrap_i64 (by omega)
    have w2 : bits .or .i64 (IntKind.i64.wrap (IntKind.i64.wrap (c.toNat : Int) * 256)) (IntKind.i64.wrap (d.toNat : Int)) = ((c.toNat * 256 + d.toNat : Nat) : Int) := by
      rw [wrap_i64 (z := (c.toNat : Int)) (by omega), wrap_i64 (z := (d.toNat : Int)) (by omega), wrap_i64 (by omega)]
      rw [bits_join .i64 16 (by decide) (fun n h0 h1 => wrap_i64 (by omega)) 8 _ _ (by omega) (by omega) (by omega) (by omega) (by omega) (by omega)]
      omega
    rw [e1, e2]
    repeat (first | refine stepA ?_ | intro _)
    refine W_anyH rfl ?_
    refine AS_at 0 (by decide +kernel) ?_; refine takeA ?_
    refine AS_at 1 (by decide +kernel) ?_; refine takeA ?_
    refine AS_at 2 (by decide +kernel) ?_; refine takeA ?_
    refine AS_at 3 (by decide +kernel) ?_; refine takeA ?_
    refine AS_at 4 (by decide +kernel) ?_; refine takeA ?_
    refine AS_at 5 (by decide +kernel) ?_; refine takeA ?_
    refine AS_at 6 (by decide +kernel) ?_; refine takeA ?_
    refine AS_at 7 (by decide +kernel) ?_; refine takeA ?_
    refine AS_at 8 (by decide +kernel) ?_; refine takeA ?_
    refine AS_at 9 (by decide +kernel) ?_; refine takeA ?_
    refine AS_one 10 rfl (by decide +kernel) rfl ?_
    (first | (apply L_P; (· exact rfl); (· exact rfl)) | (apply QL_P; (· exact rfl))); (· (apply P_or; (· exact evA); (· exact evA)))
    rw [w2]
    refine L_nil ?_; refine ⟨rfl, (by first | exact KeepsH.brk (by decide +kernel) | exact KeepsH.sub subA | exact KeepsH.sub subT), ?_⟩
    refine AS_at 11 (by decide +kernel) ?_; refine takeA ?_
    refine AS_one 12 rfl (by decide +kernel) rfl ?_
    refine stepA ?_
    refine L_nil ?_; refine ⟨rfl, (by first | exact KeepsH.brk (by decide +kernel) | exact KeepsH.sub subA | exact KeepsH.sub subT), ?_⟩
    refine AS_done (by decide +kernel) ?_
    repeat (first | refine stepA ?_ | intro _)
    rw [eg]
    (first | refine retA ?_ | refine retB ?_); exact ⟨_, ⟨by rw [w1] <;> rfl, rfl⟩, subA⟩
  · have eg : getE M t i = en0 := by rw [getE, e2]; rfl
    rw [e1, e2, eg]
    repeat (first | refine stepA ?_ | intro _)
    (first | refine retA ?_ | refine retB ?_); exact ⟨_, ⟨rfl, rfl⟩, subA⟩
theorem ptput_spec (hM : WfM M) (t : Int) (i : Nat) (hi : i < 16) (x : En) (hx : x.flags < 256 ∧ x.frame < 65536) : Spec Tryz.prog 384 [m.ptr, .int .i64 t, .int .i64 (i : Int), .agg x.cells.toArray] (memH m M) fun _ H' => H' = memH m (putE M t i x) := by
  have u1 : IntKind.u8.wrap (x.flags : Int) = (x.flags.toUInt8.toNat : Int) := by simp [IntKind.wrap, IntKind.bits, IntKind.signed]
  have u2 : IntKind.u8.wrap ((x.frame : Int) / 256) = ((x.frame / 256).toUInt8.toNat : Int) := by simp [IntKind.wrap, IntKind.bits, IntKind.signed]
  have u3 : IntKind.u8.wrap (x.frame : Int) = (x.frame.toUInt8.toNat : Int) := by simp [IntKind.wrap, IntKind.bits, IntKind.signed]
  refine Spec_body Tryz.func384 rfl Tryz.ntmps384 rfl (fun w0 => ?_)
  repeat (first | refine stepA ?_ | intro _)
  rw [u1, u2, u3]
  (first | (apply L_P; (· exact rfl); (· exact rfl)) | (apply QL_P; (· exact rfl))); (· (apply P_bytesStr; (· exact evA); (· exact pullA); (· exact (rfl : _ = bts (bytesE x))); (· exact rfl)))
  repeat (first | refine stepA ?_ | intro _)
  refine callA ?_; refine ⟨_, _, write_spec m hM t (4 * (i : Int)) (bytesE x), _, cutA, ?_⟩
  rintro v H' ⟨rfl, rfl⟩
  simp only [List.cons_append, List.nil_append]
  repeat (first | refine stepA ?_ | intro _)
  (first | refine retA ?_ | refine retB ?_)
  exact ⟨_, rfl, subA⟩
theorem ptnew_spec (hM : WfM M) : Spec Tryz.prog 173 [m.ptr] (memH m M) fun v H' => v = .tuple #[.int .i64 (allocS M).1, .int .i64 (allocS M).2.1] ∧ H' = memH m (allocS M).2.2 := by
  refine Spec_body Tryz.func173 rfl Tryz.ntmps173 rfl (fun w0 => ?_)
  repeat (first | refine stepA ?_ | intro _)
  refine callA ?_; refine ⟨_, _, alloc_spec m hM, _, cutA, ?_⟩
  rintro v H' ⟨rfl, rfl⟩
  simp only [List.cons_append, List.nil_append]
  repeat (first | refine stepA ?_ | intro _)
  (first | refine retA ?_ | refine retB ?_); exact ⟨_, ⟨rfl, rfl⟩, subA⟩
def checkM (M : List Frm) (root page : Int) : Int := if refsM M root = 0 then 10 else if inB 255 page then 0 else 2
theorem ptcheck_spec (hM : WfM M) (root page : Int) : Spec Tryz.prog 296 [m.ptr, .int .i64 root, .int .i64 page] (memH m M) fun v H' => v = .int .i64 (checkM M root page) ∧ H' = memH m M := by
  refine Spec_body Tryz.func296 rfl Tryz.ntmps296 rfl (fun w0 => ?_)
  repeat (first | refine stepA ?_ | intro _)
  refine callA ?_; refine ⟨_, _, refs_spec m hM root, _, cutA, ?_⟩
  rintro v H' ⟨rfl, rfl⟩
  simp only [List.cons_append, List.nil_append]
  by_cases h0 : refsM M root = 0
  · have e : checkM M root page = 10 := by rw [checkM, if_pos h0]
    rw [h0, e]
    repeat (first | refine stepA ?_ | intro _)
    (first | refine retA ?_ | refine retB ?_); exact ⟨_, ⟨rfl, rfl⟩, subA⟩
  · repeat (first | refine stepA ?_ | intro _)
    rename_i g
    refine callA ?_; refine ⟨_, _, ptwithin_one g 1 255 page [], _, cutA, ?_⟩
    rintro v H' ⟨rfl, rfl⟩
    simp only [List.cons_append, List.nil_append]
    have e : checkM M root page = if inB 255 page then 0 else 2 := by rw [checkM, if_neg h0]
    rw [e]
    cases hb : inB 255 page
    all_goals
      repeat (first | refine stepA ?_ | intro _)
      (first | refine retA ?_ | refine retB ?_); exact ⟨_, ⟨rfl, rfl⟩, subA⟩
end
end Go.Proofs.YtcpfmjlceoiofaaGreatDoor

/-
  Segments: frames that are allocated one by one, and freed: plain laws.
-/
namespace Go.Proofs.YtcpfmjlceoiofaaGreatDoor
def Zb (M : List Frm) : Prop := ∀ f ∈ M, f.bytes = zero64
def aId (M : List Frm) : Nat := (firstFree M).getD 0
theorem allocS_wf {M : List Frm} (h : WfM M) : WfM (allocS M).2.2 := by
  unfold allocS
  cases hf : firstFree M with
  | none => exact h
  | some i => exact allocM_wf h (i := i) (by simp [allocM, hf])
theorem Zb.set {M : List Frm} (h : Zb M) (i r : Nat) : Zb (M.set i ⟨r, zero64⟩) := fun f hf => by
  rcases List.mem_or_eq_of_mem_set hf with h1 | h1
  · exact h f h1
  · rw [h1]
theorem firstFree_some {M : List Frm} {i : Nat} (h : firstFree M = some i) : ∃ f, M[i]? = some f ∧ f.refs = 0 ∧ ∀ j, j < i → ∀ g, M[j]? = some g → g.refs ≠ 0 := by
  unfold firstFree at h
  obtain ⟨hl, h1, h2⟩ := List.findIdx?_eq_some_iff_getElem.1 h
  refine ⟨M[i], by simp [hl], by simpa using h1, fun j hj g hg => ?_⟩
  have := h2 j hj
  rw [(List.getElem?_eq_some_iff.1 hg).2] at this
  simpa using this
theorem firstFree_left {M : List Frm} : (∃ i, firstFree M = some i) ↔ 0 < leftM M := by
  unfold leftM
  rw [List.countP_pos_iff]
  constructor
  · rintro ⟨i, h⟩
    obtain ⟨f, hf, hr, _⟩ := firstFree_some h
    exact ⟨f, List.mem_of_getElem? hf, by simpa using hr⟩
  · rintro ⟨f, hf, hr⟩
    cases h : firstFree M with
    | some i => exact ⟨i, rfl⟩
    | none =>
      unfold firstFree at h
      have := List.findIdx?_eq_none_iff.1 h f hf
      rw [hr] at this; cases this
theorem allocS_ok {M : List Frm} (h : 0 < leftM M) : allocS M = ((aId M : Int), 0, M.set (aId M) ⟨1, zero64⟩) ∧ ∃ f, M[aId M]? = some f ∧ f.refs = 0 := by
  obtain ⟨i, hi⟩ := firstFree_left.2 h
  obtain ⟨f, hf, hr, _⟩ := firstFree_some hi
  have e : aId M = i := by simp [aId, hi]
  rw [e]
  exact ⟨by simp [allocS, hi], f, hf, hr⟩
theorem allocS_no {M : List Frm} (h : leftM M = 0) : allocS M = (0, 11, M) := by
  cases hf : firstFree M with
  | none => simp [allocS, hf]
  | some i => exact absurd (firstFree_left.1 ⟨i, hf⟩) (by omega)
end Go.Proofs.YtcpfmjlceoiofaaGreatDoor

/-
  Page tables: Walk, Map.
-/
namespace Go.Proofs.YtcpfmjlceoiofaaGreatDoor
open Go.RowKit
section rules
variable {X : Cx} {l : St} {H : Hp} {d ty : Nat} {pos : String} {after : Array Edge}
theorem P_and {x y : Operand} {t u : Nat} {k : IntKind} {i j z : Int} (hx : ev l x = some (.int k i)) (hy : ev l y = some (.int k j)) (e : bits .and k i j = z) :
    PureOp X H l { dst := some d, op := .binOp .and t x y u, type := ty, pos, after, guard := none } (.int k z) := by
  subst e
  exact P_bin hx hy (fun w => by simp [binOp, Op.intBits, bits])
end rules
open Go.RowKit
attribute [local irreducible] W L QL PureOp thenQ blockQ retQ Spec IterOk YSpec roundQ scopeQ noGoQ
attribute [local irreducible] AS ASi IterOkC retD retE
set_option maxHeartbeats 6400000
set_option maxRecDepth 4000
theorem enFit (x : En) : FitK [.int .i64, .int .i64] x.cells := by
  refine ⟨rfl, fun j k hj => ?_⟩
  match j, hj with
  | 0, hj => cases hj; exact ⟨_, rfl, _, rfl⟩
  | 1, hj => cases hj; exact ⟨_, rfl, _, rfl⟩
theorem en_eq {x y : En} : x.cells = y.cells ↔ x = y := by
  obtain ⟨a, b⟩ := x
  obtain ⟨c, d⟩ := y
  simp only [En.cells, List.cons.injEq, Value.int.injEq, true_and, and_true, En.mk.injEq]
  omega
def walkM (M : List Frm) (root : Int) (p : Nat) : Nat × Nat × Int :=
  if refsM M root = 0 then (0, 0, 10) else
  if (getE M root (p / 16)).flags = 0 then (0, 0, 30) else
  if (getE M (getE M root (p / 16)).frame (p % 16)).flags = 0 then (0, 0, 30) else
  ((getE M (getE M root (p / 16)).frame (p % 16)).frame, (getE M (getE M root (p / 16)).frame (p % 16)).flags, 0)
section
variable (m : MemP) {M : List Frm}
theorem ptwalk_spec (hM : WfM M) (root : Int) (p : Nat) (hp : p < 256) : Spec Tryz.prog 190 [m.ptr, .int .i64 root, .int .i64 (p : Int)] (memH m M) fun v H' => v = .tuple #[.int .i64 ((walkM M root p).1 : Int), .int .i64 ((walkM M root p).2.1 : Int), .int .i64 (walkM M root p).2.2] ∧ H' = memH m M := by
  have hb : inB 255 (p : Int) = true := by simp [inB]; omega
  refine Spec_body Tryz.func190 rfl Tryz.ntmps190 rfl (fun w0 => ?_)
  repeat (first | refine stepA ?_ | intro _)
  refine callA ?_; refine ⟨_, _, ptof_spec p hp, _, cutA, ?_⟩
  rintro v H' ⟨rfl, rfl⟩
  simp only [List.cons_append, List.nil_append]
  repeat (first | refine stepA ?_ | intro _)
  refine callA ?_; refine ⟨_, _, ptcheck_spec m hM root (p : Int), _, cutA, ?_⟩
  rintro v H' ⟨rfl, rfl⟩
  simp only [List.cons_append, List.nil_append]
  by_cases h0 : refsM M root = 0
  · have e : checkM M root (p : Int) = 10 := by rw [checkM, if_pos h0]
    have e2 : walkM M root p = (0, 0, 10) := by rw [walkM, if_pos h0]
    rw [e, e2]
    repeat (first | refine stepA ?_ | intro _)
    (first | refine retA ?_ | refine retB ?_); exact ⟨_, ⟨rfl, rfl⟩, subA⟩
  · have e : checkM M root (p : Int) = 0 := by rw [checkM, if_neg h0, if_pos hb]
    rw [e]
    repeat (first | refine stepA ?_ | intro _)
    refine callA ?_; refine ⟨_, _, ptget_spec m hM root (p / 16) (by omega), _, cutA, ?_⟩
    rintro v H' ⟨rfl, rfl⟩
    simp only [List.cons_append, List.nil_append]
    by_cases h1 : (getE M root (p / 16)).flags = 0
    · have e2 : walkM M root p = (0, 0, 30) := by rw [walkM, if_neg h0, if_pos h1]
      rw [e2]
      repeat (first | refine stepA ?_ | intro _)
      (first | refine retA ?_ | refine retB ?_); exact ⟨_, ⟨rfl, rfl⟩, subA⟩
    · repeat (first | refine stepA ?_ | intro _)
      refine callA ?_; refine ⟨_, _, ptget_spec m hM ((getE M root (p / 16)).frame : Int) (p % 16) (by omega), _, cutA, ?_⟩
      rintro v H' ⟨rfl, rfl⟩
      simp only [List.cons_append, List.nil_append]
      by_cases h2 : (getE M (getE M root (p / 16)).frame (p % 16)).flags = 0
      · have e2 : walkM M root p = (0, 0, 30) := by rw [walkM, if_neg h0, if_neg h1, if_pos h2]
        rw [e2]
        repeat (first | refine stepA ?_ | intro _)
        (first | refine retA ?_ | refine retB ?_); exact ⟨_, ⟨rfl, rfl⟩, subA⟩
      · have e2 : walkM M root p = ((getE M (getE M root (p / 16)).frame (p % 16)).frame, (getE M (getE M root (p / 16)).frame (p % 16)).flags, 0) := by rw [walkM, if_neg h0, if_neg h1, if_neg h2]
        rw [e2]
        repeat (first | refine stepA ?_ | intro _)
        (first | refine retA ?_ | refine retB ?_); exact ⟨_, ⟨rfl, rfl⟩, subA⟩
/-- a page is mapped: what is told, and the memory behind it -/
def mapE (M : List Frm) (t : Int) (p frame flags : Nat) : Int × List Frm := if getE M t (p % 16) = en0 then (0, putE M t (p % 16) ⟨flags, frame⟩) else (20, M)
def argM (frame flags : Nat) : Bool := decide (frame < 256) && decide (flags < 8) && decide (flags % 2 = 1)
theorem argM_iff {frame flags : Nat} : argM frame flags = true ↔ frame < 256 ∧ (flags = 1 ∨ flags = 3 ∨ flags = 5 ∨ flags = 7) := by
  simp only [argM, Bool.and_eq_true, decide_eq_true_eq]
  omega
def mapM (M : List Frm) (root : Int) (p frame flags : Nat) : Int × List Frm :=
  if refsM M root = 0 then (10, M) else
  if argM frame flags = false then (2, M) else
  if getE M root (p / 16) = en0 then
    if leftM M = 0 then (11, M) else mapE (putE (allocS M).2.2 root (p / 16) ⟨1, aId M⟩) (aId M) p frame flags
  else mapE M (getE M root (p / 16)).frame p frame flags
theorem putE_wf {M : List Frm} (h : WfM M) (t : Int) (i : Nat) (x : En) : WfM (putE M t i x) := writeM_wf h
theorem aId_lt {M : List Frm} (h : leftM M ≠ 0) : aId M < M.length := by
  obtain ⟨_, f, hf, _⟩ := allocS_ok (M := M) (by omega)
  exact (List.getElem?_eq_some_iff.1 hf).1
theorem ptmap_ok (hM : WfM M) (root : Int) (p frame flags : Nat) (hp : p < 256) (ha : argM frame flags = true) :
    Spec Tryz.prog 380 [m.ptr, .int .i64 root, .int .i64 (p : Int), .int .i64 (frame : Int), .int .i64 (flags : Int)] (memH m M) fun v H' => v = .int .i64 (mapM M root p frame flags).1 ∧ H' = memH m (mapM M root p frame flags).2 := by
  obtain ⟨hf, hg⟩ := argM_iff.1 ha
  have ha1 : ¬ argM frame flags = false := by rw [ha]; exact fun h => by cases h
  have hb : inB 255 (p : Int) = true := by simp [inB]; omega
  have hb2 : inB 255 (frame : Int) = true := by simp [inB]; omega
  have hb3 : inB 7 (flags : Int) = true := by simp [inB]; omega
  have hand : bits .and .i64 (flags : Int) 1 = 1 := by rcases hg with rfl | rfl | rfl | rfl <;> decide
  have hml := hM.2
  refine Spec_body Tryz.func380 rfl Tryz.ntmps380 rfl (fun w0 => ?_)
  repeat (first | refine stepA ?_ | intro _)
  refine callA ?_; refine ⟨_, _, ptcheck_spec m hM root (p : Int), _, cutA, ?_⟩
  rintro v H' ⟨rfl, rfl⟩
  simp only [List.cons_append, List.nil_append]
  by_cases h0 : refsM M root = 0
  · have e : checkM M root (p : Int) = 10 := by rw [checkM, if_pos h0]
    have e2 : mapM M root p frame flags = (10, M) := by rw [mapM, if_pos h0]
    rw [e, e2]
    repeat (first | refine stepA ?_ | intro _)
    (first | refine retA ?_ | refine retB ?_); exact ⟨_, ⟨rfl, rfl⟩, subA⟩
  · have e : checkM M root (p : Int) = 0 := by rw [checkM, if_neg h0, if_pos hb]
    rw [e]
    repeat (first | refine stepA ?_ | intro _)
    rename_i g1
    refine callA ?_; refine ⟨_, _, ptwithin_one g1 1 255 (frame : Int) [], _, cutA, ?_⟩
    rintro v H' ⟨rfl, rfl⟩
    rw [hb2]
    simp only [List.cons_append, List.nil_append]
    repeat (first | refine stepA ?_ | intro _)
    rename_i g2
    refine callA ?_; refine ⟨_, _, ptwithin_one g2 1 7 (flags : Int) [], _, cutA, ?_⟩
    rintro v H' ⟨rfl, rfl⟩
    rw [hb3]
    simp only [List.cons_append, List.nil_append]
    repeat (first | refine stepA ?_ | intro _)
    (first | (apply L_P; (· exact rfl); (· exact rfl)) | (apply QL_P; (· exact rfl))); (· (apply P_and; (· exact evA); (· exact evA); (· exact hand)))
    repeat (first | refine stepA ?_ | intro _)
    refine callA ?_; refine ⟨_, _, ptof_spec p hp, _, cutA, ?_⟩
    rintro v H' ⟨rfl, rfl⟩
    simp only [List.cons_append, List.nil_append]
    repeat (first | refine stepA ?_ | intro _)
    refine callA ?_; refine ⟨_, _, ptget_spec m hM root (p / 16) (by omega), _, cutA, ?_⟩
    rintro v H' ⟨rfl, rfl⟩
    simp only [List.cons_append, List.nil_append]
    by_cases h1 : getE M root (p / 16) = en0
    · rw [h1]
      repeat (first | refine stepA ?_ | intro _)
      (first | (apply L_P; (· exact rfl); (· exact rfl)) | (apply QL_P; (· exact rfl))); (· (apply P_eqS; (· exact evA); (· exact evA); (· exact enFit en0); (· exact enFit en0); (· exact (⟨fun _ => rfl, fun _ => rfl⟩ : true = true ↔ _))))
      repeat (first | refine stepA ?_ | intro _)
      refine callA ?_; refine ⟨_, _, alloc_spec m hM, _, cutA, ?_⟩
      rintro v H' ⟨rfl, rfl⟩
      simp only [List.cons_append, List.nil_append]
      by_cases h2 : leftM M = 0
      · have ea := allocS_no h2
        have e2 : mapM M root p frame flags = (11, M) := by rw [mapM, if_neg h0, if_neg ha1, if_pos h1, if_pos h2]
        have a1 : (allocS M).1 = 0 := by rw [ea]
        have a2 : (allocS M).2.1 = 11 := by rw [ea]
        have a3 : (allocS M).2.2 = M := by rw [ea]
        rw [a1, a2, a3, e2]
        repeat (first | refine stepA ?_ | intro _)
        (first | refine retA ?_ | refine retB ?_); exact ⟨_, ⟨rfl, rfl⟩, subA⟩
      · obtain ⟨ea, _⟩ := allocS_ok (M := M) (by omega)
        have ea1 : (allocS M).1 = (aId M : Int) := by rw [ea]
        have ea2 : (allocS M).2.1 = 0 := by rw [ea]
        have hM1 : WfM (allocS M).2.2 := allocS_wf hM
        have hal := aId_lt h2
        rw [ea1, ea2]
        repeat (first | refine stepA ?_ | intro _)
        refine callA ?_; refine ⟨_, _, ptput_spec m hM1 root (p / 16) (by omega) ⟨1, aId M⟩ (by simp only; omega), _, cutA, ?_⟩
        rintro v H' rfl
        simp only [List.cons_append, List.nil_append]
        have hM2 := putE_wf hM1 root (p / 16) ⟨1, aId M⟩
        repeat (first | refine stepA ?_ | intro _)
        refine callA ?_; refine ⟨_, _, ptget_spec m hM2 (aId M:Int) (p % 16) (by omega), _, cutA, ?_⟩
        rintro v H' ⟨rfl, rfl⟩
        simp only [List.cons_append, List.nil_append]
        by_cases he : getE (putE (allocS M).2.2 root (p / 16) ⟨1, aId M⟩) (aId M:Int) (p % 16) = en0
        · rw [he]
          repeat (first | refine stepA ?_ | intro _)
          (first | (apply L_P; (· exact rfl); (· exact rfl)) | (apply QL_P; (· exact rfl))); (· (apply P_neS; (· exact evA); (· exact evA); (· exact enFit en0); (· exact enFit en0); (· exact (⟨fun _ => rfl, fun _ => rfl⟩ : true = true ↔ _))))
          simp only [Bool.not_true]
          repeat (first | refine stepA ?_ | intro _)
          refine callA ?_; refine ⟨_, _, ptput_spec m hM2 (aId M:Int) (p % 16) (by omega) ⟨flags, frame⟩ (by simp only; omega), _, cutA, ?_⟩
          rintro v H' rfl
          simp only [List.cons_append, List.nil_append]
          repeat (first | refine stepA ?_ | intro _)
          have e2 : mapM M root p frame flags = (0, putE (putE (allocS M).2.2 root (p / 16) ⟨1, aId M⟩) (aId M:Int) (p % 16) ⟨flags, frame⟩) := by rw [mapM, if_neg h0, if_neg ha1, if_pos h1, if_neg h2]; rw [mapE, if_pos he]
          (first | refine retA ?_ | refine retB ?_); exact ⟨_, ⟨by rw [e2] <;> rfl, by rw [e2] <;> rfl⟩, subA⟩
        · repeat (first | refine stepA ?_ | intro _)
          (first | (apply L_P; (· exact rfl); (· exact rfl)) | (apply QL_P; (· exact rfl))); (· (apply P_neS; (· exact evA); (· exact evA); (· exact enFit _); (· exact enFit en0); (· exact (⟨fun h => (by cases h), fun e => absurd (en_eq.1 e) he⟩ : false = true ↔ _))))
          simp only [Bool.not_false]
          repeat (first | refine stepA ?_ | intro _)
          have e2 : mapM M root p frame flags = (20, (putE (allocS M).2.2 root (p / 16) ⟨1, aId M⟩)) := by rw [mapM, if_neg h0, if_neg ha1, if_pos h1, if_neg h2]; rw [mapE, if_neg he]
          (first | refine retA ?_ | refine retB ?_); exact ⟨_, ⟨by rw [e2] <;> rfl, by rw [e2] <;> rfl⟩, subA⟩
    · repeat (first | refine stepA ?_ | intro _)
      (first | (apply L_P; (· exact rfl); (· exact rfl)) | (apply QL_P; (· exact rfl))); (· (apply P_eqS; (· exact evA); (· exact evA); (· exact enFit _); (· exact enFit en0); (· exact (⟨fun h => (by cases h), fun e => absurd (en_eq.1 e) h1⟩ : false = true ↔ _))))
      repeat (first | refine stepA ?_ | intro _)
      refine callA ?_; refine ⟨_, _, ptget_spec m hM ((getE M root (p / 16)).frame:Int) (p % 16) (by omega), _, cutA, ?_⟩
      rintro v H' ⟨rfl, rfl⟩
      simp only [List.cons_append, List.nil_append]
      by_cases he : getE M ((getE M root (p / 16)).frame:Int) (p % 16) = en0
      · rw [he]
        repeat (first | refine stepA ?_ | intro _)
        (first | (apply L_P; (· exact rfl); (· exact rfl)) | (apply QL_P; (· exact rfl))); (· (apply P_neS; (· exact evA); (· exact evA); (· exact enFit en0); (· exact enFit en0); (· exact (⟨fun _ => rfl, fun _ => rfl⟩ : true = true ↔ _))))
        simp only [Bool.not_true]
        repeat (first | refine stepA ?_ | intro _)
        refine callA ?_; refine ⟨_, _, ptput_spec m hM ((getE M root (p / 16)).frame:Int) (p % 16) (by omega) ⟨flags, frame⟩ (by simp only; omega), _, cutA, ?_⟩
        rintro v H' rfl
        simp only [List.cons_append, List.nil_append]
        repeat (first | refine stepA ?_ | intro _)
        have e2 : mapM M root p frame flags = (0, putE M ((getE M root (p / 16)).frame:Int) (p % 16) ⟨flags, frame⟩) := by rw [mapM, if_neg h0, if_neg ha1, if_neg h1]; rw [mapE, if_pos he]
        (first | refine retA ?_ | refine retB ?_); exact ⟨_, ⟨by rw [e2] <;> rfl, by rw [e2] <;> rfl⟩, subA⟩
      · repeat (first | refine stepA ?_ | intro _)
        (first | (apply L_P; (· exact rfl); (· exact rfl)) | (apply QL_P; (· exact rfl))); (· (apply P_neS; (· exact evA); (· exact evA); (· exact enFit _); (· exact enFit en0); (· exact (⟨fun h => (by cases h), fun e => absurd (en_eq.1 e) he⟩ : false = true ↔ _))))
        simp only [Bool.not_false]
        repeat (first | refine stepA ?_ | intro _)
        have e2 : mapM M root p frame flags = (20, M) := by rw [mapM, if_neg h0, if_neg ha1, if_neg h1]; rw [mapE, if_neg he]
        (first | refine retA ?_ | refine retB ?_); exact ⟨_, ⟨by rw [e2] <;> rfl, by rw [e2] <;> rfl⟩, subA⟩
theorem bits_one {flags : Nat} (h : flags < 8) : bits .and .i64 (flags : Int) 1 = ((flags % 2 : Nat) : Int) := by
  have : flags = 0 ∨ flags = 1 ∨ flags = 2 ∨ flags = 3 ∨ flags = 4 ∨ flags = 5 ∨ flags = 6 ∨ flags = 7 := by omega
  rcases this with rfl | rfl | rfl | rfl | rfl | rfl | rfl | rfl <;> decide
theorem ptmap_bad (hM : WfM M) (root : Int) (p frame flags : Nat) (hp : p < 256) (ha : argM frame flags = false) :
    Spec Tryz.prog 380 [m.ptr, .int .i64 root, .int .i64 (p : Int), .int .i64 (frame : Int), .int .i64 (flags : Int)] (memH m M) fun v H' => v = .int .i64 (mapM M root p frame flags).1 ∧ H' = memH m (mapM M root p frame flags).2 := by
  have hb : inB 255 (p : Int) = true := by simp [inB]; omega
  refine Spec_body Tryz.func380 rfl Tryz.ntmps380 rfl (fun w0 => ?_)
  repeat (first | refine stepA ?_ | intro _)
  refine callA ?_; refine ⟨_, _, ptcheck_spec m hM root (p : Int), _, cutA, ?_⟩
  rintro v H' ⟨rfl, rfl⟩
  simp only [List.cons_append, List.nil_append]
  by_cases h0 : refsM M root = 0
  · have e : checkM M root (p : Int) = 10 := by rw [checkM, if_pos h0]
    have e2 : mapM M root p frame flags = (10, M) := by rw [mapM, if_pos h0]
    rw [e, e2]
    repeat (first | refine stepA ?_ | intro _)
    (first | refine retA ?_ | refine retB ?_); exact ⟨_, ⟨rfl, rfl⟩, subA⟩
  · have e : checkM M root (p : Int) = 0 := by rw [checkM, if_neg h0, if_pos hb]
    have e2 : mapM M root p frame flags = (2, M) := by rw [mapM, if_neg h0, if_pos ha]
    rw [e, e2]
    repeat (first | refine stepA ?_ | intro _)
    rename_i g1
    refine callA ?_; refine ⟨_, _, ptwithin_one g1 1 255 (frame : Int) [], _, cutA, ?_⟩
    rintro v H' ⟨rfl, rfl⟩
    simp only [List.cons_append, List.nil_append]
    by_cases hf : frame < 256
    · have hb2 : inB 255 (frame : Int) = true := by simp [inB]; omega
      rw [hb2]
      repeat (first | refine stepA ?_ | intro _)
      rename_i g2
      refine callA ?_; refine ⟨_, _, ptwithin_one g2 1 7 (flags : Int) [], _, cutA, ?_⟩
      rintro v H' ⟨rfl, rfl⟩
      simp only [List.cons_append, List.nil_append]
      by_cases hg : flags < 8
      · have hb3 : inB 7 (flags : Int) = true := by simp [inB]; omega
        have hz : flags % 2 = 0 := by
          have : ¬ argM frame flags = true := by rw [ha]; exact fun h => by cases h
          simp only [argM, Bool.and_eq_true, decide_eq_true_eq] at this
          omega
        have hand := bits_one hg
        rw [hz] at hand
        rw [hb3]
        repeat (first | refine stepA ?_ | intro _)
        (first | (apply L_P; (· exact rfl); (· exact rfl)) | (apply QL_P; (· exact rfl))); (· (apply P_and; (· exact evA); (· exact evA); (· exact hand)))
        repeat (first | refine stepA ?_ | intro _)
        (first | refine retA ?_ | refine retB ?_); exact ⟨_, ⟨rfl, rfl⟩, subA⟩
      · have hb3 : inB 7 (flags : Int) = false := by simp [inB]; omega
        rw [hb3]
        repeat (first | refine stepA ?_ | intro _)
        (first | refine retA ?_ | refine retB ?_); exact ⟨_, ⟨rfl, rfl⟩, subA⟩
    · have hb2 : inB 255 (frame : Int) = false := by simp [inB]; omega
      rw [hb2]
      repeat (first | refine stepA ?_ | intro _)
      (first | refine retA ?_ | refine retB ?_); exact ⟨_, ⟨rfl, rfl⟩, subA⟩
theorem ptmap_spec (hM : WfM M) (root : Int) (p frame flags : Nat) (hp : p < 256) :
    Spec Tryz.prog 380 [m.ptr, .int .i64 root, .int .i64 (p : Int), .int .i64 (frame : Int), .int .i64 (flags : Int)] (memH m M) fun v H' => v = .int .i64 (mapM M root p frame flags).1 ∧ H' = memH m (mapM M root p frame flags).2 := by
  cases ha : argM frame flags with
  | true => exact ptmap_ok m hM root p frame flags hp ha
  | false => exact ptmap_bad m hM root p frame flags hp ha
end
end Go.Proofs.YtcpfmjlceoiofaaGreatDoor

/-
  Page tables: the entries of a table, one by one; Unmap.
-/
namespace Go.Proofs.YtcpfmjlceoiofaaGreatDoor
open Go.RowKit
attribute [local irreducible] W L QL PureOp thenQ blockQ retQ Spec IterOk YSpec roundQ scopeQ noGoQ
attribute [local irreducible] AS ASi IterOkC retD retE
set_option maxHeartbeats 6400000
set_option maxRecDepth 4000
abbrev pmB (b : Nat) (m : MemP) : Nat × Blk := (b, .cells [m.ptr] 58)
abbrev piB (b : Nat) (n : Int) : Nat × Blk := (b, .cells [.int .i64 n] 3)
section
variable (m : MemP) {M : List Frm}
theorem entries_spec (mp : Value) (hmp : mp.cells = #[mp]) (t : Int) : Spec Tryz.prog 297 [mp, .int .i64 t] [] fun v H' => ∃ bm bt, v = .func (.func 379) #[] #[.pointer (some ⟨bm, 0, none⟩), .pointer (some ⟨bt, 0, none⟩)] ∧ H' = [piB bt t, (bm, .cells [mp] 58)] := by
  refine Spec_body Tryz.func297 rfl Tryz.ntmps297 rfl (fun w0 => ?_)
  refine stepA ?_
  refine stepA ?_
  apply L_box
  · exact rfl
  · exact evA
  · exact hmp
  repeat (first | refine stepA ?_ | intro _)
  rename_i bm bt
  (first | refine retA ?_ | refine retB ?_)
  exact ⟨_, ⟨bm, bt, rfl, rfl⟩, subA⟩
abbrev eH (bm bt : Nat) (t : Int) (m : MemP) (M : List Frm) : Hp := piB bt t :: pmB bm m :: memH m M
theorem entriesIter (bm bt : Nat) (t : Int) (Mf : Nat → List Frm) (hMf : ∀ k, WfM (Mf k)) : IterOkC Tryz.prog 379 [.pointer (some ⟨bm, 0, none⟩), .pointer (some ⟨bt, 0, none⟩)]
    (fun (I J : Nat → Hp → Prop) => (∀ k H, I k H → ∃ R, Cut (eH bm bt t m (Mf k)) H R) ∧ (∀ k H, k < 16 → (getE (Mf k) t k).flags = 0 → I k H → I (k + 1) H) ∧ ∀ k H, J k H → I (k + 1) H)
    (fun k => k < 16 ∧ (getE (Mf k) t k).flags ≠ 0) (fun k => [.int .i64 (k : Int), .agg (getE (Mf k) t k).cells.toArray]) (fun k => k = 16) 0 := by
  unfold IterOkC
  rintro y I J S ⟨hA, hskip, hJ⟩ hy H h0
  refine Spec_body Tryz.func379 rfl Tryz.ntmps379 rfl (fun w0 => ?_)
  repeat (first | refine stepA ?_ | intro _)
  refine W_loop (fun x : Nat × Hp => [(0, .func (.yield y) #[] #[]), (1, .pointer (some ⟨bm, 0, none⟩)), (2, .pointer (some ⟨bt, 0, none⟩)), (6, .int .i64 (x.1 : Int))]) (fun x => x.2) (fun x => x.1 ≤ 16 ∧ I x.1 x.2) (fun x => 16 - x.1) (0, H) ⟨by simp only; omega, h0⟩ sublA (Sub.refl _) ?_
  rintro ⟨k, Hk⟩ ⟨hk, hIk⟩
  simp only at hk hIk ⊢
  obtain ⟨R, hcut⟩ := hA k Hk hIk
  by_cases hlt : k < 16
  · refine W_perm hcut.perm ?_
    simp only [List.cons_append, List.nil_append]
    by_cases hz : (getE (Mf k) t k).flags = 0
    · repeat (first | refine stepA ?_ | intro _)
      refine callA ?_; refine ⟨_, _, ptget_spec m (hMf k) t k hlt, _, cutA, ?_⟩
      rintro v H' ⟨rfl, rfl⟩
      simp only [List.cons_append, List.nil_append]
      repeat (first | refine stepA ?_ | intro _)
      refine ⟨rfl, (k + 1, Hk), ⟨by simp only; omega, hskip k Hk hlt hz hIk⟩, by simp only; omega, sublA, Sub.skip (Sub.ofPerm (hcut.perm.trans permA))⟩
    · repeat (first | refine stepA ?_ | intro _)
      refine callA ?_; refine ⟨_, _, ptget_spec m (hMf k) t k hlt, _, cutA, ?_⟩
      rintro v H' ⟨rfl, rfl⟩
      simp only [List.cons_append, List.nil_append]
      repeat (first | refine stepA ?_ | intro _)
      rename_i b5
      have hyk := hy k Hk hIk ⟨hlt, hz⟩
      refine L_yield rfl (ev_of rfl (by with_reducible rfl)) rfl hyk (R0 := [(b5, .cells (getE (Mf k) t k).cells 464)]) ?_ ?_
      · refine List.Perm.trans permA (List.Perm.append_right _ hcut.perm.symm)
      · rintro b H' hb
        rcases hb with ⟨rfl, hb⟩ | ⟨rfl, hb⟩
        · repeat (first | refine stepA ?_ | intro _)
          exact ⟨rfl, (k + 1, H'), ⟨by simp only; omega, hJ k H' hb⟩, by simp only; omega, sublA, Sub.ofPermR (R := [_]) (List.Perm.refl _)⟩
        · repeat (first | refine stepA ?_ | intro _)
          (first | refine retA ?_ | refine retB ?_)
          exact ⟨_, .inr hb, Sub.ofPermR (R := [_]) (List.Perm.refl _)⟩
  · obtain rfl : k = 16 := by omega
    repeat (first | refine stepA ?_ | intro _)
    (first | refine retA ?_ | refine retB ?_)
    exact ⟨_, .inl ⟨_, rfl, hIk⟩, Sub.refl _⟩
end
end Go.Proofs.YtcpfmjlceoiofaaGreatDoor
