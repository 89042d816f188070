/-
  Joined texts; each begins with its own sentence.
-/
import Derived.Test.YtcpfmjlceoiofaaGreatDoorM14
import Derived.Test.YtcpfmjlceoiofaaGreatDoorM13
import Derived.Test.YtcpfmjlceoiofaaGreatDoorM12
import Derived.Test.YtcpfmjlceoiofaaGreatDoorM11
set_option linter.unusedSimpArgs false
set_option linter.unusedVariables false
set_option linter.unusedSectionVars false
/-
  Page tables: the entries of a table, one by one; Unmap.
-/
namespace Go.Proofs.YtcpfmjlceoiofaaGreatDoor
open Go.RowKit
attribute [local irreducible] W L QL PureOp thenQ blockQ retQ Spec IterOk YSpec roundQ scopeQ noGoQ
attribute [local irreducible] AS ASi IterOkC retD retE
set_option maxHeartbeats 6400000
set_option maxRecDepth 4000
abbrev pmB (b : Nat) (m : MemP) : Nat × Blk := (b, .cells [m.ptr] 58)
abbrev piB (b : Nat) (n : Int) : Nat × Blk := (b, .cells [.int .i64 n] 3)
section
variable (m : MemP) {M : List Frm}
theorem entries_spec (mp : Value) (hmp : mp.cells = #[mp]) (t : Int) : Spec Tryz.prog 297 [mp, .int .i64 t] [] fun v H' => ∃ bm bt, v = .func (.func 379) #[] #[.pointer (some ⟨bm, 0, none⟩), .pointer (some ⟨bt, 0, none⟩)] ∧ H' = [piB bt t, (bm, .cells [mp] 58)] := by
  refine Spec_body Tryz.func297 rfl Tryz.ntmps297 rfl (fun w0 => ?_)
  refine stepA ?_
  refine stepA ?_
  apply L_box
  · exact rfl
  · exact evA
  · exact hmp
  repeat (first | refine stepA ?_ | intro _)
  rename_i bm bt
  (first | refine retA ?_ | refine retB ?_)
  exact ⟨_, ⟨bm, bt, rfl, rfl⟩, subA⟩
abbrev eH (bm bt : Nat) (t : Int) (m : MemP) (M : List Frm) : Hp := piB bt t :: pmB bm m :: memH m M
theorem entriesIter (bm bt : Nat) (t : Int) (Mf : Nat → List Frm) (hMf : ∀ k, WfM (Mf k)) : IterOkC Tryz.prog 379 [.pointer (some ⟨bm, 0, none⟩), .pointer (some ⟨bt, 0, none⟩)]
    (fun (I J : Nat → Hp → Prop) => (∀ k H, I k H → ∃ R, Cut (eH bm bt t m (Mf k)) H R) ∧ (∀ k H, k < 16 → (getE (Mf k) t k).flags = 0 → I k H → I (k + 1) H) ∧ ∀ k H, J k H → I (k + 1) H)
    (fun k => k < 16 ∧ (getE (Mf k) t k).flags ≠ 0) (fun k => [.int .i64 (k : Int), .agg (getE (Mf k) t k).cells.toArray]) (fun k => k = 16) 0 := by
  unfold IterOkC
  rintro y I J S ⟨hA, hskip, hJ⟩ hy H h0
  refine Spec_body Tryz.func379 rfl Tryz.ntmps379 rfl (fun w0 => ?_)
  repeat (first | refine stepA ?_ | intro _)
  refine W_loop (fun x : Nat × Hp => [(0, .func (.yield y) #[] #[]), (1, .pointer (some ⟨bm, 0, none⟩)), (2, .pointer (some ⟨bt, 0, none⟩)), (6, .int .i64 (x.1 : Int))]) (fun x => x.2) (fun x => x.1 ≤ 16 ∧ I x.1 x.2) (fun x => 16 - x.1) (0, H) ⟨by simp only; omega, h0⟩ sublA (Sub.refl _) ?_
  rintro ⟨k, Hk⟩ ⟨hk, hIk⟩
  simp only at hk hIk ⊢
  obtain ⟨R, hcut⟩ := hA k Hk hIk
  by_cases hlt : k < 16
  · refine W_perm hcut.perm ?_
    simp only [List.cons_append, List.nil_append]
    by_cases hz : (getE (Mf k) t k).flags = 0
    · repeat (first | refine stepA ?_ | intro _)
      refine callA ?_; refine ⟨_, _, ptget_spec m (hMf k) t k hlt, _, cutA, ?_⟩
      rintro v H' ⟨rfl, rfl⟩
      simp only [List.cons_append, List.nil_append]
      repeat (first | refine stepA ?_ | intro _)
      refine ⟨rfl, (k + 1, Hk), ⟨by simp only; omega, hskip k Hk hlt hz hIk⟩, by simp only; omega, sublA, Sub.skip (Sub.ofPerm (hcut.perm.trans permA))⟩
    · repeat (first | refine stepA ?_ | intro _)
      refine callA ?_; refine ⟨_, _, ptget_spec m (hMf k) t k hlt, _, cutA, ?_⟩
      rintro v H' ⟨rfl, rfl⟩
      simp only [List.cons_append, List.nil_append]
      repeat (first | refine stepA ?_ | intro _)
      rename_i b5
      have hyk := hy k Hk hIk ⟨hlt, hz⟩
      refine L_yield rfl (ev_of rfl (by with_reducible rfl)) rfl hyk (R0 := [(b5, .cells (getE (Mf k) t k).cells 464)]) ?_ ?_
      · refine List.Perm.trans permA (List.Perm.append_right _ hcut.perm.symm)
      · rintro b H' hb
        rcases hb with ⟨rfl, hb⟩ | ⟨rfl, hb⟩
        · repeat (first | refine stepA ?_ | intro _)
          exact ⟨rfl, (k + 1, H'), ⟨by simp only; omega, hJ k H' hb⟩, by simp only; omega, sublA, Sub.ofPermR (R := [_]) (List.Perm.refl _)⟩
        · repeat (first | refine stepA ?_ | intro _)
          (first | refine retA ?_ | refine retB ?_)
          exact ⟨_, .inr hb, Sub.ofPermR (R := [_]) (List.Perm.refl _)⟩
  · obtain rfl : k = 16 := by omega
    repeat (first | refine stepA ?_ | intro _)
    (first | refine retA ?_ | refine retB ?_)
    exact ⟨_, .inl ⟨_, rfl, hIk⟩, Sub.refl _⟩
end
end Go.Proofs.YtcpfmjlceoiofaaGreatDoor

/-
  Page tables: isEmpty, Unmap.
-/
namespace Go.Proofs.YtcpfmjlceoiofaaGreatDoor
open Go.RowKit
attribute [local irreducible] W L QL PureOp thenQ blockQ retQ Spec IterOk YSpec roundQ scopeQ noGoQ
attribute [local irreducible] AS ASi IterOkC retD retE
set_option maxHeartbeats 6400000
set_option maxRecDepth 4000
def emptyE (M : List Frm) (t : Int) : Bool := (List.range 16).all fun i => (getE M t i).flags == 0
theorem emptyE_true {M : List Frm} {t : Int} (h : ∀ j, j < 16 → (getE M t j).flags = 0) : emptyE M t = true := by
  rw [emptyE, List.all_eq_true]
  intro i hi
  simpa using h i (List.mem_range.1 hi)
theorem emptyE_false {M : List Frm} {t : Int} {j : Nat} (hj : j < 16) (h : (getE M t j).flags ≠ 0) : emptyE M t = false := by
  rw [emptyE, List.all_eq_false]
  exact ⟨j, List.mem_range.2 hj, by simpa using h⟩
section
variable (m : MemP) {M : List Frm}
theorem entriesM_spec (t : Int) : Spec Tryz.prog 297 [m.ptr, .int .i64 t] [] fun v H' => ∃ bm bt, v = .func (.func 379) #[] #[.pointer (some ⟨bm, 0, none⟩), .pointer (some ⟨bt, 0, none⟩)] ∧ H' = [piB bt t, pmB bm m] := entries_spec m.ptr rfl t
theorem ptempty_spec (hM : WfM M) (t : Int) : Spec Tryz.prog 385 [m.ptr, .int .i64 t] (memH m M) fun v H' => v = .bool (emptyE M t) ∧ H' = memH m M := by
  refine Spec_body Tryz.func385 rfl Tryz.ntmps385 rfl (fun w0 => ?_)
  repeat (first | refine stepA ?_ | intro _)
  rename_i b4
  refine callA ?_; refine ⟨_, _, entriesM_spec m t, _, cutA, ?_⟩
  rintro v H' ⟨bm, bt, rfl, rfl⟩
  simp only [List.cons_append, List.nil_append]
  repeat (first | refine stepA ?_ | intro _)
  have inst : FnOk Tryz.prog 379 := inferInstance
  refine W_rangeC rfl (ev_of rfl (by with_reducible rfl)) inst (entriesIter m bm bt t (fun _ => M) (fun _ => hM)) (fun _ => rfl) (by simp)
    (fun k Hc => (∀ j, j < k → (getE M t j).flags = 0) ∧ Hc = eH bm bt t m M ++ [(b4, .cells [.bool false] 4)])
    (fun _ _ => False)
    (fun c Hc => c = .ret ∧ emptyE M t = false ∧ Hc = memH m M ++ [(b4, .cells [.bool false] 4)])
    (fun u v => ⟨by
      rintro k H ⟨Hc, ⟨_, rfl⟩, rfl⟩
      exact ⟨_, .cons (.there (.there .here)) (.cons (.there (.there .here)) (.cons (.there (.there .here)) (.cons (.there (.there .here)) .nil)))⟩, by
      rintro k H hk hz ⟨Hc, ⟨h1, rfl⟩, rfl⟩
      exact ⟨_, ⟨fun j hj => by
        by_cases q : j = k
        · subst q; exact hz
        · exact h1 j (by omega), rfl⟩, rfl⟩, by
      rintro k H ⟨Hc, h, _⟩
      exact h.elim⟩)
    ⟨_, ⟨fun j hj => absurd hj (by omega), rfl⟩, subA⟩ ?_ ?_ ?_
  · rintro y k Hc w1 ⟨h1, rfl⟩ ⟨hk, hz⟩
    simp only [List.cons_append, List.nil_append]
    repeat (first | refine stepA ?_ | intro _)
    refine ⟨rfl, fun w2 => ?_⟩
    repeat (first | refine stepA ?_ | intro _)
    exact roundQ_r (Hc := memH m M ++ [(b4, .cells [.bool false] 4)]) ⟨rfl, emptyE_false hk hz, rfl⟩ subA
  · rintro D k Hc rfl ⟨h1, rfl⟩
    simp only [List.cons_append, List.nil_append]
    rw [emptyE_true h1]
    repeat (first | refine stepA ?_ | intro _)
    (first | refine retA ?_ | refine retB ?_); exact ⟨_, ⟨rfl, rfl⟩, subA⟩
  · rintro D c Hc ⟨rfl, h1, rfl⟩
    simp only [List.cons_append, List.nil_append]
    rw [h1]
    repeat (first | refine stepA ?_ | intro _)
    (first | refine retA ?_ | refine retB ?_); exact ⟨_, ⟨rfl, rfl⟩, subA⟩
/-- a page is unmapped: its frame, what is told, the memory behind it -/
def unmapM (M : List Frm) (root : Int) (p : Nat) : Nat × Int × List Frm :=
  if (walkM M root p).2.2 ≠ 0 then (0, (walkM M root p).2.2, M) else
  let t := (getE M root (p / 16)).frame
  let M1 := putE M t (p % 16) en0
  ((walkM M root p).1, 0, if emptyE M1 t then putE (freeM M1 t).2 root (p / 16) en0 else M1)
theorem freeM_wf' {M : List Frm} (h : WfM M) (t : Int) : WfM (freeM M t).2 := freeM_wf h
theorem ptunmap_spec (hM : WfM M) (root : Int) (p : Nat) (hp : p < 256) : Spec Tryz.prog 310 [m.ptr, .int .i64 root, .int .i64 (p : Int)] (memH m M) fun v H' => v = .tuple #[.int .i64 ((unmapM M root p).1 : Int), .int .i64 (unmapM M root p).2.1] ∧ H' = memH m (unmapM M root p).2.2 := by
  refine Spec_body Tryz.func310 rfl Tryz.ntmps310 rfl (fun w0 => ?_)
  repeat (first | refine stepA ?_ | intro _)
  refine callA ?_; refine ⟨_, _, ptwalk_spec m hM root p hp, _, cutA, ?_⟩
  rintro v H' ⟨rfl, rfl⟩
  simp only [List.cons_append, List.nil_append]
  by_cases h0 : (walkM M root p).2.2 = 0
  · obtain ⟨t, ht⟩ : ∃ t, t = (getE M root (p / 16)).frame := ⟨_, rfl⟩
    have e2 : unmapM M root p = ((walkM M root p).1, 0, if emptyE (putE M t (p % 16) en0) t then putE (freeM (putE M t (p % 16) en0) t).2 root (p / 16) en0 else putE M t (p % 16) en0) := by rw [unmapM, if_neg (by simpa using h0), ht]
    repeat (first | refine stepA ?_ | intro _)
    refine callA ?_; refine ⟨_, _, ptof_spec p hp, _, cutA, ?_⟩
    rintro v H' ⟨rfl, rfl⟩
    simp only [List.cons_append, List.nil_append]
    repeat (first | refine stepA ?_ | intro _)
    refine callA ?_; refine ⟨_, _, ptget_spec m hM root (p / 16) (by omega), _, cutA, ?_⟩
    rintro v H' ⟨rfl, rfl⟩
    simp only [List.cons_append, List.nil_append]
    repeat (first | refine stepA ?_ | intro _)
    have hM1 := putE_wf hM (t : Int) (p % 16) en0
    rw [← ht]
    refine callA ?_; refine ⟨_, _, ptput_spec m hM (t : Int) (p % 16) (by omega) en0 (by decide), _, cutA, ?_⟩
    rintro v H' rfl
    simp only [List.cons_append, List.nil_append]
    repeat (first | refine stepA ?_ | intro _)
    refine callA ?_; refine ⟨_, _, ptempty_spec m hM1 (t : Int), _, cutA, ?_⟩
    rintro v H' ⟨rfl, rfl⟩
    simp only [List.cons_append, List.nil_append]
    cases he : emptyE (putE M t (p % 16) en0) t with
    | true =>
      rw [he, if_pos rfl] at e2
      repeat (first | refine stepA ?_ | intro _)
      refine callA ?_; refine ⟨_, _, free_spec m hM1 (t : Int), _, cutA, ?_⟩
      rintro v H' ⟨rfl, rfl⟩
      simp only [List.cons_append, List.nil_append]
      repeat (first | refine stepA ?_ | intro _)
      refine callA ?_; refine ⟨_, _, ptput_spec m (freeM_wf' hM1 t) root (p / 16) (by omega) en0 (by decide), _, cutA, ?_⟩
      rintro v H' rfl
      simp only [List.cons_append, List.nil_append]
      repeat (first | refine stepA ?_ | intro _)
      (first | refine retA ?_ | refine retB ?_); exact ⟨_, ⟨by rw [e2] <;> rfl, by rw [e2] <;> rfl⟩, subA⟩
    | false =>
      rw [he, if_neg (by simp)] at e2
      repeat (first | refine stepA ?_ | intro _)
      (first | refine retA ?_ | refine retB ?_); exact ⟨_, ⟨by rw [e2] <;> rfl, by rw [e2] <;> rfl⟩, subA⟩
  · have e2 : unmapM M root p = (0, (walkM M root p).2.2, M) := by rw [unmapM, if_pos h0]
    rw [e2]
    repeat (first | refine stepA ?_ | intro _)
    (first | refine retA ?_ | refine retB ?_); exact ⟨_, ⟨rfl, rfl⟩, subA⟩
end
end Go.Proofs.YtcpfmjlceoiofaaGreatDoor

/-
  Segments: Pages, free, fresh, slices.Clone.
-/
namespace Go.Proofs.YtcpfmjlceoiofaaGreatDoor
open Go.RowKit
attribute [local irreducible] W L QL PureOp thenQ blockQ retQ Spec IterOk YSpec roundQ scopeQ noGoQ
attribute [local irreducible] AS ASi IterOkC
set_option maxHeartbeats 3200000
def pagesN (size : Int) : Nat := if 1 ≤ size ∧ size ≤ 512 then (size.toNat + 63) / 64 else 0
theorem pages_spec (size : Int) (hs : size ≤ 9223372036854775807) : Spec Tryz.prog 151 [.int .i64 size] [] fun v H' => v = .int .i64 (pagesN size : Int) ∧ H' = [] := by
  refine Spec_body Tryz.func151 rfl Tryz.ntmps151 rfl (fun w0 => ?_)
  by_cases h1 : size < 1
  · have e : pagesN size = 0 := by rw [pagesN, if_neg (by omega)]
    repeat (first | refine stepA ?_ | intro _)
    (first | refine retA ?_ | refine retB ?_); exact ⟨_, ⟨by rw [e]; rfl, rfl⟩, subA⟩
  · by_cases h2 : size > 512
    · have e : pagesN size = 0 := by rw [pagesN, if_neg (by omega)]
      repeat (first | refine stepA ?_ | intro _)
      (first | refine retA ?_ | refine retB ?_); exact ⟨_, ⟨by rw [e]; rfl, rfl⟩, subA⟩
    · have e : pagesN size = (size.toNat + 63) / 64 := by rw [pagesN, if_pos (by omega)]
      have e2 : (size + 64 - 1) / 64 = ((pagesN size : Nat) : Int) := by rw [e]; omega
      repeat (first | refine stepA ?_ | intro _)
      (first | refine retA ?_ | refine retB ?_); exact ⟨_, ⟨by rw [← e2]; rfl, rfl⟩, subA⟩
abbrev idv (l : List Nat) : List Value := l.map fun (i : Nat) => Value.int .i64 (i : Int)
theorem idv_len (l : List Nat) : (idv l).length = l.length := by simp [idv]
theorem idv_get {l : List Nat} {ys : List Value} {k i : Nat} (h : l[k]? = some i) : (idv l ++ ys)[k]? = some (.int .i64 (i : Int)) := by
  have hk := (List.getElem?_eq_some_iff.1 h).1
  rw [List.getElem?_append_left (by rw [idv_len]; exact hk)]
  simp [idv, h]
theorem idv_one (l : List Nat) : ∀ u ∈ idv l, u.oneCell' = true := by
  intro u hu
  obtain ⟨i, _, rfl⟩ := List.mem_map.1 hu
  rfl
abbrev oI := Own 3 1
theorem take_next {α : Type} {l : List α} {k : Nat} {x : α} (h : l[k]? = some x) : l.take (k + 1) = l.take k ++ [x] := by
  obtain ⟨hl, rfl⟩ := List.getElem?_eq_some_iff.1 h
  exact List.take_succ_eq_append_getElem hl
section
variable (m : MemP) {M : List Frm}
theorem shfree_zero (a : Option Addr) (cap : Nat) : Spec Tryz.prog 269 [m.ptr, .slice a 0 cap] [] fun _ H' => H' = [] := by
  refine Spec_body Tryz.func269 rfl Tryz.ntmps269 rfl (fun w0 => ?_)
  repeat (first | refine stepA ?_ | intro _)
  refine W_loop (fun _ : Nat => [(7, .int .i64 0), (8, .int .i64 0)]) (fun _ => []) (fun _ => True) (fun _ => 0) 0 trivial sublA subA ?_
  intro _ _
  repeat (first | refine stepA ?_ | intro _)
  (first | refine retA ?_ | refine retB ?_)
  exact ⟨_, rfl, subA⟩
theorem shfree_blk (hM : WfM M) (g n cap : Nat) (l : List Nat) (ys : List Value) (hl : l.length = n) (hn : n ≤ 1000) :
    Spec Tryz.prog 269 [m.ptr, .slice (some ⟨g, 0, none⟩) n cap] ((g, .cells (idv l ++ ys) 3) :: memH m M) fun _ H' => H' = (g, .cells (idv l ++ ys) 3) :: memH m (freeL M l) := by
  refine Spec_body Tryz.func269 rfl Tryz.ntmps269 rfl (fun w0 => ?_)
  repeat (first | refine stepA ?_ | intro _)
  refine W_loop (fun k : Nat => [(0, m.ptr), (6, .slice (some ⟨g, 0, none⟩) n cap), (7, .int .i64 n), (8, .int .i64 (k : Int))]) (fun k => (g, .cells (idv l ++ ys) 3) :: memH m (freeL M (l.take k))) (fun k => k ≤ n) (fun k => n - k) 0 (by omega) sublA subA ?_
  intro k hk
  by_cases hlt : k < n
  · obtain ⟨i, hi⟩ : ∃ i, l[k]? = some i := ⟨l[k]'(by omega), by simp [hl, hlt]⟩
    have hc := idv_get (ys := ys) hi
    have hMk := freeL_wf hM (l.take k)
    have e : freeL M (l.take (k + 1)) = (freeM (freeL M (l.take k)) (i : Int)).2 := by rw [take_next hi, freeL_snoc]
    repeat (first | refine stepA ?_ | intro _)
    (first | (refine ldA ?_; refine ⟨_, hc, ?_⟩) | (refine qldA ?_; refine ⟨_, hc, ?_⟩) | skip)
    repeat (first | refine stepA ?_ | intro _)
    refine callA ?_; refine ⟨_, _, free_spec m hMk (i : Int), _, cutA, ?_⟩
    rintro v H' ⟨rfl, rfl⟩
    simp only [List.cons_append, List.nil_append]
    repeat (first | refine stepA ?_ | intro _)
    exact ⟨rfl, k + 1, by omega, by omega, sublA, by rw [e]; exact subA⟩
  · obtain rfl : k = n := by omega
    rw [List.take_of_length_le (by omega)]
    repeat (first | refine stepA ?_ | intro _)
    (first | refine retA ?_ | refine retB ?_)
    exact ⟨_, rfl, subA⟩
/-- frames of a list of the call's own are freed -/
theorem shfree_own (hM : WfM M) {a : Option Addr} {n cap : Nat} {l : List Nat} {Hs : Hp} (how : oI a n cap (idv l) Hs) (hn : n ≤ 1000) :
    Spec Tryz.prog 269 [m.ptr, .slice a n cap] (memH m M ++ Hs) fun _ H' => H' = memH m (freeL M l) ++ Hs := by
  have hl := how.len
  rw [idv_len, Nat.mul_one] at hl
  rcases how.inv with ⟨rfl, rfl, rfl, hx, rfl⟩ | ⟨g, ys, rfl, rfl, _, _, _, _⟩
  · obtain rfl : l = [] := List.eq_nil_of_length_eq_zero hl
    rw [List.append_nil, List.append_nil]
    refine ((shfree_zero m none 0).frame (memH m M)).mono ?_
    rintro v H' ⟨H2, rfl, rfl⟩
    rfl
  · refine (Spec.perm (List.perm_append_comm (l₂ := [_])) (shfree_blk m hM g n cap l ys hl hn)).permR ?_
    rintro v H' rfl
    exact ⟨_, rfl, List.perm_append_comm (l₁ := [_])⟩
end
/-! ### slices.Clone -/
theorem cloneI_blk (g n cap : Nat) (l : List Nat) (ys : List Value) (hl : l.length = n) (hn : n ≤ 1000) (h0 : 0 < n) :
    Spec Tryz.prog 41 [.slice (some ⟨g, 0, none⟩) n cap] [(g, .cells (idv l ++ ys) 3)] fun v H' => ∃ a2 cap2 Hs2, v = .slice a2 n cap2 ∧ oI a2 n cap2 (idv l) Hs2 ∧ H' = Hs2 ++ [(g, .cells (idv l ++ ys) 3)] := by
  have hml := idv_len l
  refine Spec_body Tryz.func41 rfl Tryz.ntmps41 rfl (fun w0 => ?_)
  repeat (first | refine stepA ?_ | intro _)
  (first | (apply L_P; (· exact rfl); (· exact rfl)) | (apply QL_P; (· exact rfl))); (· (apply P_eqNilSl; (· exact evA); (· exact evA)))
  simp only [Option.isNone_some]
  repeat (first | refine stepA ?_ | intro _)
  apply L_buildSl0
  · exact rfl
  intro gz
  repeat (first | refine stepA ?_ | intro _)
  apply L_append
  · exact rfl
  · exact evA
  · exact evA
  · exact (Own.blk (n := 0) (cap := 0) (xs := []) (ys := []) rfl (Nat.le_refl _) (Nat.le_refl _) (Nat.zero_le _) : Own 3 1 _ _ _ _ _)
  · exact Cut.perm cutA
  · exact Lies.cells (k := n) (news := idv l) pullA (by rw [List.drop_zero, List.take_append_of_le_length (by omega), List.take_of_length_le (by omega)])
  · omega
  · exact idv_one l
  · exact h0
  · simp only [maxLen]; omega
  · omega
  · rfl
  rintro g2 cap2 ys2 h1 h2 h3
  repeat (first | refine stepA ?_ | intro _)
  (first | refine retA ?_ | refine retB ?_)
  rw [List.nil_append] at h1 ⊢
  rw [Nat.zero_add] at h2 ⊢
  exact ⟨_, ⟨some ⟨g2, 0, none⟩, cap2, [(g2, .cells (idv l ++ ys2) 3)], rfl, .blk (by omega) h1 h2 h3, rfl⟩, subA⟩
theorem cloneI_spec {a : Option Addr} {n cap : Nat} {l : List Nat} {Hs : Hp} (how : oI a n cap (idv l) Hs) (hn : n ≤ 1000) (h0 : 0 < n) :
    Spec Tryz.prog 41 [.slice a n cap] Hs fun v H' => ∃ a2 cap2 Hs2, v = .slice a2 n cap2 ∧ oI a2 n cap2 (idv l) Hs2 ∧ H' = Hs2 ++ Hs := by
  have hl := how.len
  rw [idv_len, Nat.mul_one] at hl
  rcases how.inv with ⟨rfl, rfl, rfl, hx, rfl⟩ | ⟨g, ys, rfl, rfl, _, _, _, _⟩
  · omega
  · exact cloneI_blk g n cap l ys hl hn h0
end Go.Proofs.YtcpfmjlceoiofaaGreatDoor
