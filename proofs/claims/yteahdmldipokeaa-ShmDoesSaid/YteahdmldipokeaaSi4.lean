/-
  Segments: ShmDoes: plain lists of six segments.
-/
import Derived.Test.YteahdmldipokeaaSi3
namespace Go.Proofs.Yteahdmldipokeaa
/-- a segment, as it lies in the law's array -/
structure Sl where
  v : List Value
  s : Sg
  H : Hp
structure SgOk (s : Sg) : Prop where
  c : 0 ≤ s.c ∧ s.c ≤ 1000
  n : s.l.length ≤ 8
structure Sl.Ok (x : Sl) : Prop where
  os : oS (.agg x.v.toArray) x.s x.H
  n : x.v.length = 3
  ok : SgOk x.s
def cellsS (xs : List Sl) : List Value := xs.flatMap (·.v)
def tailS (xs : List Sl) : Hp := xs.flatMap (·.H)
theorem cellsS_len {xs : List Sl} (h : ∀ x ∈ xs, Sl.Ok x) : (cellsS xs).length = xs.length * 3 := by
  induction xs with
  | nil => rfl
  | cons x xs ih =>
    have e := (h x (by simp)).n
    have := ih (fun y hy => h y (by simp [hy]))
    simp only [cellsS, List.flatMap_cons, List.length_append, List.length_cons] at this ⊢
    omega
theorem splitS {xs : List Sl} {k : Nat} {x : Sl} (h : xs[k]? = some x) : ∃ A B, xs = A ++ x :: B ∧ A.length = k := by
  obtain ⟨hl, rfl⟩ := List.getElem?_eq_some_iff.1 h
  exact ⟨xs.take k, xs.drop (k + 1), by rw [← List.drop_eq_getElem_cons hl, List.take_append_drop], by simp; omega⟩
theorem cellsS_at {xs : List Sl} (h : ∀ x ∈ xs, Sl.Ok x) {k : Nat} {x : Sl} (hx : xs[k]? = some x) : ((cellsS xs).drop (k * 3)).take 3 = x.v := by
  obtain ⟨A, B, rfl, rfl⟩ := splitS hx
  have e1 : (cellsS A).length = A.length * 3 := cellsS_len (fun y hy => h y (by simp [hy]))
  have e2 := (h x (by simp)).n
  have e : cellsS (A ++ x :: B) = cellsS A ++ (x.v ++ cellsS B) := by simp [cellsS]
  rw [e, ← e1, List.drop_left, ← e2, List.take_left]
theorem cellsS_set {xs : List Sl} (h : ∀ x ∈ xs, Sl.Ok x) {k : Nat} {x : Sl} (hx : xs[k]? = some x) (y : Sl) : (cellsS xs).take (k * 3) ++ y.v ++ (cellsS xs).drop (k * 3 + 3) = cellsS (xs.set k y) := by
  obtain ⟨A, B, rfl, rfl⟩ := splitS hx
  have e1 : (cellsS A).length = A.length * 3 := cellsS_len (fun z hz => h z (by simp [hz]))
  have e2 := (h x (by simp)).n
  have e : ∀ z : Sl, cellsS (A ++ z :: B) = cellsS A ++ (z.v ++ cellsS B) := fun z => by simp [cellsS]
  have e3 : (A ++ x :: B).set A.length y = A ++ y :: B := by simp
  rw [e3, e, e, ← e1, List.take_left, ← List.drop_drop, List.drop_left, ← e2, List.drop_left, List.append_assoc]
theorem tailS_at {xs : List Sl} {k : Nat} {x : Sl} (hx : xs[k]? = some x) : (tailS xs).Perm (x.H ++ tailS (xs.eraseIdx k)) := by
  obtain ⟨A, B, rfl, rfl⟩ := splitS hx
  have e3 : (A ++ x :: B).eraseIdx A.length = A ++ B := by rw [List.eraseIdx_append_of_length_le (Nat.le_refl _)]; simp
  rw [e3]
  simp only [tailS, List.flatMap_append, List.flatMap_cons]
  rw [← List.append_assoc, ← List.append_assoc]
  exact List.Perm.append_right _ List.perm_append_comm
theorem tailS_set {xs : List Sl} {k : Nat} {x : Sl} (hx : xs[k]? = some x) (y : Sl) : (tailS (xs.set k y)).Perm (y.H ++ tailS (xs.eraseIdx k)) := by
  have hk := (List.getElem?_eq_some_iff.1 hx).1
  have h2 : (xs.set k y)[k]? = some y := by simp [hk]
  have := tailS_at h2
  have e : (xs.set k y).eraseIdx k = xs.eraseIdx k := by
    obtain ⟨A, B, rfl, rfl⟩ := splitS hx
    have e3 : (A ++ x :: B).set A.length y = A ++ y :: B := by simp
    rw [e3, List.eraseIdx_append_of_length_le (Nat.le_refl _), List.eraseIdx_append_of_length_le (Nat.le_refl _)]; simp
  rw [e] at this
  exact this
abbrev sl0 : Sl := ⟨segC none 0 0 0 false, ⟨[], 0, false⟩, []⟩
theorem sl0_ok : Sl.Ok sl0 := ⟨oS.nil 0 false, rfl, ⟨⟨by simp, by simp⟩, by simp⟩⟩
theorem e6 : cellsS (List.replicate 6 sl0) = [.slice none 0 0, .int .i64 0, .bool false, .slice none 0 0, .int .i64 0, .bool false, .slice none 0 0, .int .i64 0, .bool false, .slice none 0 0, .int .i64 0, .bool false, .slice none 0 0, .int .i64 0, .bool false, .slice none 0 0, .int .i64 0, .bool false] := rfl
theorem e7 : tailS (List.replicate 6 sl0) = [] := rfl
theorem oS.cells {v : Value} {s : Sg} {H : Hp} (h : oS v s H) : ∃ cs : List Value, v = .agg cs.toArray ∧ cs.length = 3 := by
  obtain ⟨a, cap, rfl, _⟩ := h
  exact ⟨_, rfl, rfl⟩
theorem settle_inv {M N : List Frm} {s t : Sg} {x : Bool} (h : settleS M s = (t, x, N)) : (t = s ∧ N = M) ∨ (t = ⟨[], s.c, s.g⟩ ∧ N = freeL M s.l) := by
  unfold settleS at h
  split at h
  · cases h; exact .inl ⟨rfl, rfl⟩
  · cases h; exact .inr ⟨rfl, rfl⟩
structure MemOk (n : Nat) (M : List Frm) : Prop where
  wf : WfM M
  zb : Zb M
  len : M.length = n
theorem settle_ok {n : Nat} {M N : List Frm} {s t : Sg} {x : Bool} (h : settleS M s = (t, x, N)) (hM : MemOk n M) (hs : SgOk s) : MemOk n N ∧ SgOk t := by
  rcases settle_inv h with ⟨rfl, rfl⟩ | ⟨rfl, rfl⟩
  · exact ⟨hM, hs⟩
  · exact ⟨⟨freeL_wf hM.wf _, freeL_zb hM.zb _, by rw [freeL_len]; exact hM.len⟩, ⟨hs.c, by simp⟩⟩
theorem use_sg {s t : Sg} (h : useS s = some t) (hs : SgOk s) : SgOk t := by
  unfold useS at h
  split at h
  · cases h
  · rename_i q
    cases h
    have := hs.c
    exact ⟨⟨by simp only; omega, by have : ¬ 1000 ≤ s.c := fun z => q (.inr z); simp only; omega⟩, hs.n⟩
theorem leave_sg {n : Nat} {M N : List Frm} {s t : Sg} {x : Bool} (h : leaveS M s = some (t, x, N)) (hM : MemOk n M) (hs : SgOk s) : MemOk n N ∧ SgOk t := by
  unfold leaveS at h
  split at h
  · cases h
  · rename_i q
    have hc := hs.c
    have : ¬ s.c < 1 := fun z => q (.inr z)
    exact settle_ok (Option.some.inj h) hM ⟨⟨by simp only; omega, by simp only; omega⟩, hs.n⟩
theorem mark_sg {n : Nat} {M N : List Frm} {s t : Sg} {x : Bool} (h : markS M s = some (t, x, N)) (hM : MemOk n M) (hs : SgOk s) : MemOk n N ∧ SgOk t := by
  unfold markS at h
  split at h
  · cases h
  · exact settle_ok (Option.some.inj h) hM ⟨hs.c, hs.n⟩
theorem memN_ok {n : Nat} {M : List Frm} (hM : MemOk n M) (k : Nat) : MemOk n (memN M k) := ⟨memN_wf hM.wf k, memN_zb hM.zb k, by rw [memN_len]; exact hM.len⟩
theorem same_T {v w : Value} {s : Sg} {H1 H2 : Hp} (h1 : oS v s H1) (h2 : oS w s H2) (hn : s.l.length ≤ 8) (T : Hp) :
    Spec Try.prog 17 [v, w] (H1 ++ (H2 ++ T)) fun u H' => u = .bool true ∧ H' = H1 ++ (H2 ++ T) := by
  have h := ((same_spec h1 h2 (by omega)).frameQ T)
  rw [List.append_assoc] at h
  refine h.mono ?_
  rintro u H' ⟨rfl, rfl⟩
  exact ⟨by simp, rfl⟩
/-- acts of three numbers, as they lie in a block that was handed in -/
structure Act3 where
  a : Int
  b : Int
  c : Int
def Act3.cells (x : Act3) : List Value := [.int .i64 x.a, .int .i64 x.b, .int .i64 x.c]
def Acts3 (C : Array Value) (o : Nat) (xs : List Act3) : Prop := ∀ i x, xs[i]? = some x → (C.toList.drop (o + i * 3)).take 3 = x.cells
theorem acts3_get {C : Array Value} {o : Nat} {xs : List Act3} (h : Acts3 C o xs) {i : Nat} {x : Act3} (hx : xs[i]? = some x) (j : Nat) (hj : j < 3) : C.toList[o + i * 3 + j]? = x.cells[j]? := by
  rw [← h i x hx, List.getElem?_take, if_pos hj, List.getElem?_drop]
theorem u64_nonneg (x : Int) : 0 ≤ IntKind.u64.wrap x := by
  have e : IntKind.u64.wrap x = x % 18446744073709551616 := rfl
  rw [e]; exact Int.emod_nonneg _ (by decide)
section tails
variable (m : MemP) (r : RefP) {M : List Frm}
theorem new_T (hM : WfM M) (hz : Zb M) (size : Int) (hs : size ≤ 9223372036854775807) (h0 : 0 < pagesN size) (T : Hp) :
    Spec Try.prog 11 [m.ptr, .int .i64 size] (memH m M ++ T) fun v H' =>
      (leftM M < pagesN size ∧ v = .tuple #[seg0, .int .i64 11] ∧ H' = memH m M ++ T) ∨
      (pagesN size ≤ leftM M ∧ ∃ a cap Hs, v = .tuple #[segV a (idsN M (pagesN size)).length cap 0 false, .int .i64 0] ∧ oS (segV a (idsN M (pagesN size)).length cap 0 false) ⟨idsN M (pagesN size), 0, false⟩ Hs ∧ H' = memH m (memN M (pagesN size)) ++ (Hs ++ T)) := by
  refine ((shnew_spec m hM hz size hs h0).frame T).mono ?_
  rintro v H' ⟨H1, ⟨h1, rfl, rfl⟩ | ⟨h1, a, cap, Hs, rfl, how, rfl⟩, rfl⟩
  · exact .inl ⟨h1, rfl, rfl⟩
  · have e := idsN_len M (pagesN size)
    refine .inr ⟨h1, a, cap, Hs, by rw [e], ⟨a, cap, rfl, by rw [e]; exact how, fun q => ?_⟩, by rw [List.append_assoc]⟩
    simp only at q
    rw [q] at e; simp at e; omega
theorem rnew_T (hM : WfM M) (size : Int) (hs : size ≤ 9223372036854775807) (h0 : 0 < pagesN size) (T : Hp) :
    Spec Try.prog 19 [r.ptr, .int .i64 size] (refH r M ++ T) fun v H' =>
      (leftM M < pagesN size ∧ v = .tuple #[seg0, .int .i64 11] ∧ H' = refH r M ++ T) ∨
      (pagesN size ≤ leftM M ∧ ∃ a cap Hs, v = .tuple #[segV a (idsN M (pagesN size)).length cap 0 false, .int .i64 0] ∧ oS (segV a (idsN M (pagesN size)).length cap 0 false) ⟨idsN M (pagesN size), 0, false⟩ Hs ∧ H' = refH r (memN M (pagesN size)) ++ (Hs ++ T)) := by
  refine ((rnew16_spec r hM size hs h0).frame T).mono ?_
  rintro v H' ⟨H1, ⟨h1, rfl, rfl⟩ | ⟨h1, a, cap, Hs, rfl, how, rfl⟩, rfl⟩
  · exact .inl ⟨h1, rfl, rfl⟩
  · have e := idsN_len M (pagesN size)
    refine .inr ⟨h1, a, cap, Hs, by rw [e], ⟨a, cap, rfl, by rw [e]; exact how, fun q => ?_⟩, by rw [List.append_assoc]⟩
    simp only at q
    rw [q] at e; simp at e; omega
theorem use_T (v : Value) (s t : Sg) (Hs : Hp) (h : oS v s Hs) (hs : SgOk s) (hu : useS s = some t) (T : Hp) : Spec Try.prog 13 [m.ptr, v] (Hs ++ T) fun u H' => ∃ a cap Hs2, u = .tuple #[segV a t.l.length cap t.c t.g, .int .i64 0] ∧ oS (segV a t.l.length cap t.c t.g) t Hs2 ∧ H' = Hs2 ++ (Hs ++ T) := by
  refine ((use_ok m v s t Hs h (by have := hs.n; omega) (by have := hs.c; omega) hu).frame T).mono ?_
  rintro u H' ⟨H1, ⟨v2, Hs2, rfl, ho, rfl⟩, rfl⟩
  obtain ⟨a, cap, rfl, how⟩ := ho
  exact ⟨a, cap, Hs2, rfl, ⟨a, cap, rfl, how⟩, by rw [List.append_assoc]⟩
theorem ruse_T (v : Value) (s t : Sg) (Hs : Hp) (h : oS v s Hs) (hs : SgOk s) (hu : useS s = some t) (T : Hp) : Spec Try.prog 20 [v] (Hs ++ T) fun u H' => ∃ a cap Hs2, u = .tuple #[segV a t.l.length cap t.c t.g, .int .i64 0] ∧ oS (segV a t.l.length cap t.c t.g) t Hs2 ∧ H' = Hs2 ++ (Hs ++ T) := by
  refine ((ruse_ok v s t Hs h (by have := hs.n; omega) (by have := hs.c; omega) hu).frame T).mono ?_
  rintro u H' ⟨H1, ⟨v2, Hs2, rfl, ho, rfl⟩, rfl⟩
  obtain ⟨a, cap, rfl, how⟩ := ho
  exact ⟨a, cap, Hs2, rfl, ⟨a, cap, rfl, how⟩, by rw [List.append_assoc]⟩
theorem leave_T (hM : WfM M) (v : Value) (s t : Sg) (x : Bool) (N : List Frm) (Hs : Hp) (h : oS v s Hs) (hs : SgOk s) (hu : leaveS M s = some (t, x, N)) (T : Hp) :
    Spec Try.prog 15 [m.ptr, v] (memH m M ++ (Hs ++ T)) fun u H' => ∃ a cap Hs2, u = .tuple #[segV a t.l.length cap t.c t.g, .bool x, .int .i64 0] ∧ oS (segV a t.l.length cap t.c t.g) t Hs2 ∧ H' = memH m N ++ (Hs2 ++ (Hs ++ T)) := by
  have q := (leave_ok m hM v s t x N Hs h (by have := hs.n; omega) (by have := hs.c; omega) hu).frame T
  rw [List.append_assoc] at q
  refine q.mono ?_
  rintro u H' ⟨H1, ⟨v2, Hs2, rfl, ho, rfl⟩, rfl⟩
  obtain ⟨a, cap, rfl, how⟩ := ho
  exact ⟨a, cap, Hs2, rfl, ⟨a, cap, rfl, how⟩, by rw [List.append_assoc, List.append_assoc]⟩
theorem mark_T (hM : WfM M) (v : Value) (s t : Sg) (x : Bool) (N : List Frm) (Hs : Hp) (h : oS v s Hs) (hs : SgOk s) (hu : markS M s = some (t, x, N)) (T : Hp) :
    Spec Try.prog 14 [m.ptr, v] (memH m M ++ (Hs ++ T)) fun u H' => ∃ a cap Hs2, u = .tuple #[segV a t.l.length cap t.c t.g, .bool x, .int .i64 0] ∧ oS (segV a t.l.length cap t.c t.g) t Hs2 ∧ H' = memH m N ++ (Hs2 ++ (Hs ++ T)) := by
  have q := (mark_ok m hM v s t x N Hs h (by have := hs.n; omega) hu).frame T
  rw [List.append_assoc] at q
  refine q.mono ?_
  rintro u H' ⟨H1, ⟨v2, Hs2, rfl, ho, rfl⟩, rfl⟩
  obtain ⟨a, cap, rfl, how⟩ := ho
  exact ⟨a, cap, Hs2, rfl, ⟨a, cap, rfl, how⟩, by rw [List.append_assoc, List.append_assoc]⟩
theorem rleave_T (hM : WfM M) (v : Value) (s t : Sg) (x : Bool) (N : List Frm) (Hs : Hp) (h : oS v s Hs) (hs : SgOk s) (hu : leaveS M s = some (t, x, N)) (T : Hp) :
    Spec Try.prog 21 [r.ptr, v] (refH r M ++ (Hs ++ T)) fun u H' => ∃ a cap Hs2, u = .tuple #[segV a t.l.length cap t.c t.g, .bool x, .int .i64 0] ∧ oS (segV a t.l.length cap t.c t.g) t Hs2 ∧ H' = refH r N ++ (Hs2 ++ (Hs ++ T)) := by
  have q := (rleave_ok r hM v s t x N Hs h (by have := hs.n; omega) (by have := hs.c; omega) hu).frame T
  rw [List.append_assoc] at q
  refine q.mono ?_
  rintro u H' ⟨H1, ⟨v2, Hs2, rfl, ho, rfl⟩, rfl⟩
  obtain ⟨a, cap, rfl, how⟩ := ho
  exact ⟨a, cap, Hs2, rfl, ⟨a, cap, rfl, how⟩, by rw [List.append_assoc, List.append_assoc]⟩
theorem rmark_T (hM : WfM M) (v : Value) (s t : Sg) (x : Bool) (N : List Frm) (Hs : Hp) (h : oS v s Hs) (hs : SgOk s) (hu : markS M s = some (t, x, N)) (T : Hp) :
    Spec Try.prog 22 [r.ptr, v] (refH r M ++ (Hs ++ T)) fun u H' => ∃ a cap Hs2, u = .tuple #[segV a t.l.length cap t.c t.g, .bool x, .int .i64 0] ∧ oS (segV a t.l.length cap t.c t.g) t Hs2 ∧ H' = refH r N ++ (Hs2 ++ (Hs ++ T)) := by
  have q := (rmark_ok r hM v s t x N Hs h (by have := hs.n; omega) hu).frame T
  rw [List.append_assoc] at q
  refine q.mono ?_
  rintro u H' ⟨H1, ⟨v2, Hs2, rfl, ho, rfl⟩, rfl⟩
  obtain ⟨a, cap, rfl, how⟩ := ho
  exact ⟨a, cap, Hs2, rfl, ⟨a, cap, rfl, how⟩, by rw [List.append_assoc, List.append_assoc]⟩
end tails
end Go.Proofs.Yteahdmldipokeaa
