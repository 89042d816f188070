/-
  Segments: ShmSizes, ShmGoes: the laws' walks.
-/
import Derived.Test.YteahdmldipokeaaSi1
namespace Go.Proofs.Yteahdmldipokeaa
open Go.RowKit
attribute [local irreducible] W L QL PureOp thenQ blockQ retQ Spec IterOk YSpec roundQ scopeQ noGoQ
attribute [local irreducible] AS ASi IterOkC retD retE
set_option maxHeartbeats 12800000
abbrev segP (g p cap : Nat) (c : Int) (x : Bool) : Value := segV (some ⟨g, 0, none⟩) p cap c x
theorem segB_range (g p cap : Nat) (c : Int) (x : Bool) : segB g cap (List.range p) c x = segP g p cap c x := by rw [segB, List.length_range]
section
variable (m : MemP) {M : List Frm} {g cap p : Nat} {l : List Nat} {ys : List Value}
theorem use_P (hp : l.length = p) (h : OB g cap l ys) (hl : l ≠ []) (hn : l.length ≤ 1000) (c : Int) (x : Bool) (hc : -9223372036854775808 ≤ c) (hc2 : c < 1000) :
    Spec Try.prog 13 [m.ptr, segP g p cap c x] [bl g l ys] fun u H' => ∃ g2 cap2 ys2, u = .tuple #[segP g2 p cap2 (c + 1) x, .int .i64 0] ∧ OB g2 cap2 l ys2 ∧ H' = [bl g2 l ys2, bl g l ys] := by
  subst hp; exact use_B m h hl hn c x hc hc2
theorem mark_keepP (hM : WfM M) (hp : l.length = p) (h : OB g cap l ys) (hl : l ≠ []) (hn : l.length ≤ 1000) (c : Int) (hc : 0 < c) :
    Spec Try.prog 14 [m.ptr, segP g p cap c false] (memH m M ++ [bl g l ys]) fun u H' => ∃ g2 cap2 ys2, u = .tuple #[segP g2 p cap2 c true, .bool false, .int .i64 0] ∧ OB g2 cap2 l ys2 ∧ H' = memH m M ++ [bl g2 l ys2, bl g l ys] := by
  subst hp; exact mark_keep m hM h hl hn c hc
theorem mark_goneP (hM : WfM M) (hp : l.length = p) (h : OB g cap l ys) (hl : l ≠ []) (hn : l.length ≤ 1000) (c : Int) (hc : c ≤ 0) :
    Spec Try.prog 14 [m.ptr, segP g p cap c false] (memH m M ++ [bl g l ys]) fun u H' => u = .tuple #[segV none 0 0 c true, .bool true, .int .i64 0] ∧ H' = memH m (freeL M l) ++ [bl g l ys] := by
  subst hp; exact mark_gone m hM h hl hn c hc
theorem leave_keepP (hM : WfM M) (hp : l.length = p) (h : OB g cap l ys) (hl : l ≠ []) (hn : l.length ≤ 1000) (c : Int) (x : Bool) (hc : 0 < c) (hc2 : c ≤ 9223372036854775807) (hx : x = false ∨ 1 < c) :
    Spec Try.prog 15 [m.ptr, segP g p cap c x] (memH m M ++ [bl g l ys]) fun u H' => ∃ g2 cap2 ys2, u = .tuple #[segP g2 p cap2 (c - 1) x, .bool false, .int .i64 0] ∧ OB g2 cap2 l ys2 ∧ H' = memH m M ++ [bl g2 l ys2, bl g l ys] := by
  subst hp; exact leave_keep m hM h hl hn c x hc hc2 hx
theorem leave_goneP (hM : WfM M) (hp : l.length = p) (h : OB g cap l ys) (hl : l ≠ []) (hn : l.length ≤ 1000) :
    Spec Try.prog 15 [m.ptr, segP g p cap 1 true] (memH m M ++ [bl g l ys]) fun u H' => u = .tuple #[segV none 0 0 0 true, .bool true, .int .i64 0] ∧ H' = memH m (freeL M l) ++ [bl g l ys] := by
  subst hp; exact leave_gone m hM h hl hn
end
theorem range_get {p k : Nat} (h : k < p) : (List.range p)[k]? = some k := by simp [h]
theorem mem_new {n p k : Nat} (hp : p ≤ n) (h : k < p) : (memN (newM n) p)[k]? = some ⟨1, zero64⟩ := by
  rw [(newM_mem n p hp).1, List.getElem?_append_left (by simpa using h)]
  simp [h]
theorem shmSizes_spec (size : Int) (hs : -9223372036854775808 ≤ size ∧ size ≤ 9223372036854775807) : Spec Try.prog 8 [.int .i64 size] [] fun v H' => v = .bool true ∧ H' = [] := by
  have hM0 : WfM (newM 20) := newM_wf (by omega)
  refine Spec_body Try.func8 rfl Try.ntmps8 rfl (fun w0 => ?_)
  repeat (first | refine stepA ?_ | intro _)
  refine callA ?_; refine ⟨_, _, shown_spec, _, cutA, ?_⟩
  rintro v H' ⟨rfl, rfl⟩
  simp only [List.cons_append, List.nil_append]
  repeat (first | refine stepA ?_ | intro _)
  refine callA ?_; refine ⟨_, _, new_spec 20 (by omega), _, cutA, ?_⟩
  rintro v H' ⟨m, rfl, rfl⟩
  simp only [List.cons_append, List.nil_append]
  by_cases hsz : 1 ≤ size ∧ size ≤ 512
  · obtain ⟨ep, hp⟩ := pages_pos hsz
    have hle := pagesN_le size
    repeat (first | refine stepA ?_ | intro _)
    refine callA ?_; refine ⟨_, _, shnew_new m 20 (by omega) size hsz (by omega), _, cutA, ?_⟩
    rintro v H' ⟨g, cap, ys, rfl, ho, rfl⟩
    rw [segB_range]
    simp only [List.cons_append, List.nil_append]
    obtain ⟨p, ep2⟩ : ∃ p, p = pagesN size := ⟨_, rfl⟩
    rw [← ep2] at ho ep hp hle ⊢
    have hMp := memN_wf hM0 p
    repeat (first | refine stepA ?_ | intro _)
    rename_i b6
    refine W_loop (fun k : Nat => [(0, .int .i64 size), (3, .bool true), (4, m.ptr), (5, .int .i64 0), (6, .pointer (some ⟨b6, 0, none⟩)), (8, .int .i64 (p : Int)), (9, .int .i64 (k : Int))]) (fun _ => (b6, .cells (segC (some ⟨g, 0, none⟩) p cap 0 false) 29) :: bl g (List.range p) ys :: memH m (memN (newM 20) p)) (fun k => k ≤ p) (fun k => p - k) 0 (by omega) sublA subA ?_
    intro k hk
    by_cases hlt : k < p
    · have hc := idv_get (ys := ys) (range_get hlt)
      have hrf : refsM (memN (newM 20) p) (k : Int) = 1 := refsM_get (mem_new (by omega) hlt)
      repeat (first | refine stepA ?_ | intro _)
      refine callA ?_; refine ⟨_, _, refs_spec m hMp (k : Int), _, cutA, ?_⟩
      rintro v H' ⟨rfl, rfl⟩
      rw [hrf]
      simp only [List.cons_append, List.nil_append]
      repeat (first | refine stepA ?_ | intro _)
      exact ⟨rfl, k + 1, by omega, by omega, sublA, subA⟩
    · obtain rfl : k = p := by omega
      repeat (first | refine stepA ?_ | intro _)
      refine callA ?_; refine ⟨_, _, pages_spec size hs.2, _, cutA, ?_⟩
      rintro v H' ⟨rfl, rfl⟩
      rw [← ep2]
      simp only [List.cons_append, List.nil_append]
      repeat (first | refine stepA ?_ | intro _)
      (first | refine retA ?_ | refine retB ?_); exact ⟨_, ⟨rfl, rfl⟩, subA⟩
  · have h0 : pagesN size = 0 := by rw [pagesN, if_neg hsz]
    repeat (first | refine stepA ?_ | intro _)
    refine callA ?_; refine ⟨_, _, shnew_seg m size hs.2 h0, _, cutA, ?_⟩
    rintro v H' ⟨rfl, rfl⟩
    simp only [List.cons_append, List.nil_append]
    repeat (first | refine stepA ?_ | intro _)
    refine callA ?_; refine ⟨_, _, pages_spec size hs.2, _, cutA, ?_⟩
    rintro v H' ⟨rfl, rfl⟩
    rw [h0]
    simp only [List.cons_append, List.nil_append]
    by_cases g5 : size < 1
    · repeat (first | refine stepA ?_ | intro _)
      (first | refine retA ?_ | refine retB ?_); exact ⟨_, ⟨rfl, rfl⟩, subA⟩
    · have g6 : size > 512 := by omega
      repeat (first | refine stepA ?_ | intro _)
      (first | refine retA ?_ | refine retB ?_); exact ⟨_, ⟨rfl, rfl⟩, subA⟩
/-- what the law's second loop holds -/
def goesH (m : MemP) (p w i b c : Nat) : Option (Nat × Nat × List Value) → Hp
  | some (g, cap, ys) => (b, .cells (segC (some ⟨g, 0, none⟩) p cap (c : Int) (decide (w < i))) 29) :: bl g (List.range p) ys :: memH m (memN (newM 20) p)
  | none => (b, .cells (segC none 0 0 0 true) 29) :: memH m (newM 20)
def goesI (p n w i c : Nat) : Option (Nat × Nat × List Value) → Prop
  | some (g, cap, ys) => OB g cap (List.range p) ys ∧ c + i = n ∧ (i = n → w = n)
  | none => i = n ∧ w < n
theorem shmGoes_spec (size n w : Int) (hs : -9223372036854775808 ≤ size ∧ size ≤ 9223372036854775807) : Spec Try.prog 3 [.int .i64 size, .int .i64 n, .int .i64 w] [] fun v H' => v = .bool true ∧ H' = [] := by
  have hM0 : WfM (newM 20) := newM_wf (by omega)
  refine Spec_body Try.func3 rfl Try.ntmps3 rfl (fun w0 => ?_)
  repeat (first | refine stepA ?_ | intro _)
  refine callA ?_; refine ⟨_, _, shown_spec, _, cutA, ?_⟩
  rintro v H' ⟨rfl, rfl⟩
  simp only [List.cons_append, List.nil_append]
  by_cases g1 : size < 1
  · repeat (first | refine stepA ?_ | intro _)
    (first | refine retA ?_ | refine retB ?_); exact ⟨_, ⟨rfl, rfl⟩, subA⟩
  by_cases g2 : size > 512
  · repeat (first | refine stepA ?_ | intro _)
    (first | refine retA ?_ | refine retB ?_); exact ⟨_, ⟨rfl, rfl⟩, subA⟩
  by_cases g3 : n < 0
  · repeat (first | refine stepA ?_ | intro _)
    (first | refine retA ?_ | refine retB ?_); exact ⟨_, ⟨rfl, rfl⟩, subA⟩
  by_cases g4 : n > 30
  · repeat (first | refine stepA ?_ | intro _)
    (first | refine retA ?_ | refine retB ?_); exact ⟨_, ⟨rfl, rfl⟩, subA⟩
  by_cases g5 : w < 0
  · repeat (first | refine stepA ?_ | intro _)
    (first | refine retA ?_ | refine retB ?_); exact ⟨_, ⟨rfl, rfl⟩, subA⟩
  by_cases g6 : w > n
  · repeat (first | refine stepA ?_ | intro _)
    (first | refine retA ?_ | refine retB ?_); exact ⟨_, ⟨rfl, rfl⟩, subA⟩
  obtain ⟨n, rfl⟩ : ∃ k : Nat, n = (k : Int) := ⟨n.toNat, by omega⟩
  obtain ⟨w, rfl⟩ : ∃ k : Nat, w = (k : Int) := ⟨w.toNat, by omega⟩
  have hsz : 1 ≤ size ∧ size ≤ 512 := by omega
  obtain ⟨ep, hp⟩ := pages_pos hsz
  have hle := pagesN_le size
  repeat (first | refine stepA ?_ | intro _)
  refine callA ?_; refine ⟨_, _, new_spec 20 (by omega), _, cutA, ?_⟩
  rintro v H' ⟨m, rfl, rfl⟩
  simp only [List.cons_append, List.nil_append]
  repeat (first | refine stepA ?_ | intro _)
  refine callA ?_; refine ⟨_, _, shnew_new m 20 (by omega) size hsz (by omega), _, cutA, ?_⟩
  rintro v H' ⟨g, cap, ys, rfl, ho, rfl⟩
  rw [segB_range]
  simp only [List.cons_append, List.nil_append]
  obtain ⟨p, ep2⟩ : ∃ p, p = pagesN size := ⟨_, rfl⟩
  rw [← ep2] at ho ep hp hle ⊢
  have hMp := memN_wf hM0 p
  have hpl : (List.range p).length ≤ 1000 := by rw [List.length_range]; omega
  have hlf := left_new 20 p (by omega)
  have e63 : (size + 63) / 64 = (p : Int) := by rw [ep]; omega
  have e20 : ((20 - p : Nat) : Int) = 20 - (p : Int) := by omega
  repeat (first | refine stepA ?_ | intro _)
  rename_i b10
  refine W_any [(b10, .cells (segC (some ⟨g, 0, none⟩) p cap 0 false) 29)] [] rfl ?_
  refine AS_at 0 (by decide +kernel) ?_; refine takeA ?_
  refine AS_at 1 (by decide +kernel) ?_; refine takeA ?_
  refine AS_at 2 (by decide +kernel) ?_; refine takeA ?_
  refine AS_at 3 (by decide +kernel) ?_; refine takeA ?_
  refine AS_at 4 (by decide +kernel) ?_; refine takeA ?_
  refine AS_at 5 (by decide +kernel) ?_; refine takeA ?_
  refine AS_at 6 (by decide +kernel) ?_; refine takeA ?_
  refine AS_at 7 (by decide +kernel) ?_; refine takeA ?_
  refine AS_at 8 (by decide +kernel) ?_; refine takeA ?_
  refine AS_at 10 (by decide +kernel) ?_; refine takeA ?_
  refine AS_at 11 (by decide +kernel) ?_; refine takeA ?_
  refine AS_at 12 (by decide +kernel) ?_; refine takeA ?_
  refine AS_at 13 (by decide +kernel) ?_; refine takeA ?_
  refine AS_one 9 rfl (by decide +kernel) rfl ?_
  refine stepA ?_
  refine callA ?_; refine ⟨_, _, left_spec m hMp, _, cutA, ?_⟩
  rintro v H' ⟨rfl, rfl⟩
  rw [hlf]
  simp only [List.cons_append, List.nil_append]
  refine L_nil ?_; refine ⟨rfl, (by first | exact KeepsH.brk (by decide +kernel) | exact KeepsH.sub subA | exact KeepsH.sub subT), ?_⟩
  refine AS_at 14 (by decide +kernel) ?_; refine takeA ?_
  refine AS_at 15 (by decide +kernel) ?_; refine takeA ?_
  refine AS_done (by decide +kernel) ?_
  repeat (first | refine stepA ?_ | intro _)
  refine W_loop (fun x : Nat × Nat × Nat × List Value => [(0, .int .i64 size), (1, .int .i64 (n : Int)), (2, .int .i64 (w : Int)), (7, .bool true), (8, m.ptr), (9, .int .i64 0), (10, .pointer (some ⟨b10, 0, none⟩)), (11, .int .i64 0), (12, .bool false), (13, .int .i64 (x.1 : Int))])
    (fun x => (b10, .cells (segC (some ⟨x.2.1, 0, none⟩) p x.2.2.1 (x.1 : Int) false) 29) :: bl x.2.1 (List.range p) x.2.2.2 :: memH m (memN (newM 20) p)) (fun x => x.1 ≤ n ∧ OB x.2.1 x.2.2.1 (List.range p) x.2.2.2) (fun x => n - x.1) (0, g, cap, ys) ⟨by simp only; omega, ho⟩ sublA subA ?_
  rintro ⟨k, g, cap, ys⟩ ⟨hk, ho⟩
  simp only at hk ho ⊢
  by_cases hlt : k < n
  · repeat (first | refine stepA ?_ | intro _)
    refine callA ?_; refine ⟨_, _, use_P m List.length_range ho (range_ne hp) hpl (k : Int) false (by omega) (by omega), _, cutA, ?_⟩
    rintro v H' ⟨g2, cap2, ys2, rfl, ho2, rfl⟩
    simp only [List.cons_append, List.nil_append]
    repeat (first | refine stepA ?_ | intro _)
    exact ⟨rfl, (k + 1, g2, cap2, ys2), ⟨by simp only; omega, ho2⟩, by simp only; omega, sublA, subA⟩
  obtain rfl : k = n := by omega
  repeat (first | refine stepA ?_ | intro _)
  refine W_loop (fun x : Nat × Nat × Option (Nat × Nat × List Value) => [(0, .int .i64 size), (1, .int .i64 (k : Int)), (2, .int .i64 (w : Int)), (7, .bool true), (8, m.ptr), (9, .int .i64 0), (10, .pointer (some ⟨b10, 0, none⟩)), (11, .int .i64 0), (12, .bool x.2.2.isNone), (16, .int .i64 (x.1 : Int))])
    (fun x => goesH m p w x.1 b10 x.2.1 x.2.2) (fun x => x.1 ≤ k ∧ goesI p k w x.1 x.2.1 x.2.2) (fun x => k - x.1) (0, k, some (g, cap, ys)) ⟨by simp only; omega, ho, by simp only; omega, by simp only; omega⟩ sublA (by simp only [goesH]; rw [decide_eq_false (by omega)]; exact subA) ?_
  rintro ⟨i, c, o⟩ ⟨hi, hI⟩
  cases o with
  | none =>
    obtain ⟨rfl, hw⟩ : i = k ∧ w < k := hI
    simp only [goesH, Option.isNone_none]
    repeat (first | refine stepA ?_ | intro _)
    refine callA ?_; refine ⟨_, _, left_spec m hM0, _, cutA, ?_⟩
    rintro v H' ⟨rfl, rfl⟩
    rw [newM_left]
    simp only [List.cons_append, List.nil_append]
    repeat (first | refine stepA ?_ | intro _)
    (first | refine retA ?_ | refine retB ?_); exact ⟨_, ⟨rfl, rfl⟩, subA⟩
  | some o =>
    obtain ⟨g, cap, ys⟩ := o
    obtain ⟨ho, hci, hwn⟩ : OB g cap (List.range p) ys ∧ c + i = k ∧ (i = k → w = k) := hI
    simp only at hi
    simp only [goesH, Option.isNone_some]
    by_cases hin : i = k
    · subst hin
      obtain rfl := hwn rfl
      obtain rfl : c = 0 := by omega
      rw [decide_eq_false (Nat.lt_irrefl _)]
      repeat (first | refine stepA ?_ | intro _)
      refine callA ?_; refine ⟨_, _, mark_goneP m hMp List.length_range ho (range_ne hp) hpl ((0 : Nat) : Int) (by omega), _, cutA, ?_⟩
      rintro v H' ⟨rfl, rfl⟩
      rw [freeL_new 20 p (by omega)]
      simp only [List.cons_append, List.nil_append]
      repeat (first | refine stepA ?_ | intro _)
      refine callA ?_; refine ⟨_, _, left_spec m hM0, _, cutA, ?_⟩
      rintro v H' ⟨rfl, rfl⟩
      rw [newM_left]
      simp only [List.cons_append, List.nil_append]
      repeat (first | refine stepA ?_ | intro _)
      (first | refine retA ?_ | refine retB ?_); exact ⟨_, ⟨rfl, rfl⟩, subA⟩
    · by_cases hiw : i = w
      · subst hiw
        rw [decide_eq_false (Nat.lt_irrefl _)]
        repeat (first | refine stepA ?_ | intro _)
        refine callA ?_; refine ⟨_, _, mark_keepP m hMp List.length_range ho (range_ne hp) hpl (c : Int) (by omega), _, cutA, ?_⟩
        rintro v H' ⟨g2, cap2, ys2, rfl, ho2, rfl⟩
        simp only [List.cons_append, List.nil_append]
        by_cases hc1 : c = 1
        · subst hc1
          repeat (first | refine stepA ?_ | intro _)
          refine callA ?_; refine ⟨_, _, leave_goneP m hMp List.length_range ho2 (range_ne hp) hpl, _, cutA, ?_⟩
          rintro v H' ⟨rfl, rfl⟩
          rw [freeL_new 20 p (by omega)]
          simp only [List.cons_append, List.nil_append]
          repeat (first | refine stepA ?_ | intro _)
          exact ⟨rfl, (i + 1, 0, none), ⟨by simp only; omega, (by omega : i + 1 = k), (by omega : _ < k)⟩, by simp only; omega, sublA, subA⟩
        · skip
          have ec : (c : Int) - 1 = ((c - 1 : Nat) : Int) := by omega
          repeat (first | refine stepA ?_ | intro _)
          refine callA ?_; refine ⟨_, _, leave_keepP m hMp List.length_range ho2 (range_ne hp) hpl (c : Int) true (by omega) (by omega) (.inr (by omega)), _, cutA, ?_⟩
          rintro v H' ⟨g3, cap3, ys3, rfl, ho3, rfl⟩
          rw [ec]
          simp only [List.cons_append, List.nil_append]
          repeat (first | refine stepA ?_ | intro _)
          exact ⟨rfl, (i + 1, c - 1, some (g3, cap3, ys3)), ⟨by simp only; omega, ho3, (by omega : c - 1 + (i + 1) = k), fun q => (by omega)⟩, by simp only; omega, sublA, by simp only [goesH]; rw [(decide_eq_true (Nat.lt_succ_self _))]; exact subA⟩
      · by_cases hwi : w < i
        · rw [decide_eq_true hwi]
          by_cases hc1 : c = 1
          · subst hc1
            repeat (first | refine stepA ?_ | intro _)
            refine callA ?_; refine ⟨_, _, leave_goneP m hMp List.length_range ho (range_ne hp) hpl, _, cutA, ?_⟩
            rintro v H' ⟨rfl, rfl⟩
            rw [freeL_new 20 p (by omega)]
            simp only [List.cons_append, List.nil_append]
            repeat (first | refine stepA ?_ | intro _)
            exact ⟨rfl, (i + 1, 0, none), ⟨by simp only; omega, (by omega : i + 1 = k), (by omega : _ < k)⟩, by simp only; omega, sublA, subA⟩
          · skip
            have ec : (c : Int) - 1 = ((c - 1 : Nat) : Int) := by omega
            repeat (first | refine stepA ?_ | intro _)
            refine callA ?_; refine ⟨_, _, leave_keepP m hMp List.length_range ho (range_ne hp) hpl (c : Int) true (by omega) (by omega) (.inr (by omega)), _, cutA, ?_⟩
            rintro v H' ⟨g3, cap3, ys3, rfl, ho3, rfl⟩
            rw [ec]
            simp only [List.cons_append, List.nil_append]
            repeat (first | refine stepA ?_ | intro _)
            exact ⟨rfl, (i + 1, c - 1, some (g3, cap3, ys3)), ⟨by simp only; omega, ho3, (by omega : c - 1 + (i + 1) = k), fun q => (by omega)⟩, by simp only; omega, sublA, by simp only [goesH]; rw [(decide_eq_true (by omega : w < i + 1))]; exact subA⟩
        · rw [decide_eq_false hwi]
          by_cases hl1 : i + 1 = k
          · skip
            have ec : (c : Int) - 1 = ((c - 1 : Nat) : Int) := by omega
            repeat (first | refine stepA ?_ | intro _)
            refine callA ?_; refine ⟨_, _, leave_keepP m hMp List.length_range ho (range_ne hp) hpl (c : Int) false (by omega) (by omega) (.inl rfl), _, cutA, ?_⟩
            rintro v H' ⟨g3, cap3, ys3, rfl, ho3, rfl⟩
            rw [ec]
            simp only [List.cons_append, List.nil_append]
            repeat (first | refine stepA ?_ | intro _)
            exact ⟨rfl, (i + 1, c - 1, some (g3, cap3, ys3)), ⟨by simp only; omega, ho3, (by omega : c - 1 + (i + 1) = k), fun q => (by omega)⟩, by simp only; omega, sublA, by simp only [goesH]; rw [(decide_eq_false (by omega : ¬ w < i + 1))]; exact subA⟩
          · skip
            have ec : (c : Int) - 1 = ((c - 1 : Nat) : Int) := by omega
            repeat (first | refine stepA ?_ | intro _)
            refine callA ?_; refine ⟨_, _, leave_keepP m hMp List.length_range ho (range_ne hp) hpl (c : Int) false (by omega) (by omega) (.inl rfl), _, cutA, ?_⟩
            rintro v H' ⟨g3, cap3, ys3, rfl, ho3, rfl⟩
            rw [ec]
            simp only [List.cons_append, List.nil_append]
            repeat (first | refine stepA ?_ | intro _)
            exact ⟨rfl, (i + 1, c - 1, some (g3, cap3, ys3)), ⟨by simp only; omega, ho3, (by omega : c - 1 + (i + 1) = k), fun q => (by omega)⟩, by simp only; omega, sublA, by simp only [goesH]; rw [(decide_eq_false (by omega : ¬ w < i + 1))]; exact subA⟩
end Go.Proofs.Yteahdmldipokeaa
