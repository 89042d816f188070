/-
  The walk's own small calculus, twelfth part: slices that the call builds by append.
-/
import Derived.Test.YtcpfmjlceoiofaaGreatDoorL04
import Derived.Laws.AppendOwn
set_option linter.unusedSimpArgs false
set_option linter.unusedVariables false
set_option linter.unusedSectionVars false
namespace Go.Proofs.YtcpfmjlceoiofaaGreatDoor
open Go.RowKit

/-- a slice of the call's own: nil, or a block that it has to itself -/
inductive Own (e : TypeId) (size : Nat) : Option Addr → Nat → Nat → List Value → Hp → Prop where
  | nil : Own e size none 0 0 [] []
  | blk {g n cap : Nat} {xs ys : List Value} (hx : xs.length = n * size) (hc : cap * size ≤ (xs ++ ys).length) (hn : n ≤ cap) (hm : cap ≤ maxLen) : Own e size (some ⟨g, 0, none⟩) n cap xs [(g, .cells (xs ++ ys) e)]
theorem Own.len {e : TypeId} {size n cap : Nat} {p : Option Addr} {xs : List Value} {Hs : Hp} (h : Own e size p n cap xs Hs) : xs.length = n * size := by
  cases h with
  | nil => simp
  | blk hx => exact hx
theorem Own.cap {e : TypeId} {size n cap : Nat} {p : Option Addr} {xs : List Value} {Hs : Hp} (h : Own e size p n cap xs Hs) : n ≤ cap ∧ cap ≤ maxLen := by
  cases h with
  | nil => exact ⟨Nat.le_refl _, Nat.zero_le _⟩
  | blk _ _ hn hm => exact ⟨hn, hm⟩
theorem Own.fit {e : TypeId} {size n cap : Nat} {p : Option Addr} {xs : List Value} {Hs : Hp} (h : Own e size p n cap xs Hs) : Own e size p n n xs Hs := by
  cases h with
  | nil => exact Own.nil
  | blk h1 h2 h3 h4 => exact Own.blk h1 (Nat.le_trans (Nat.mul_le_mul_right _ h3) h2) (Nat.le_refl _) (Nat.le_trans h3 h4)
theorem Own.inv {e : TypeId} {size n cap : Nat} {p : Option Addr} {xs : List Value} {Hs : Hp} (h : Own e size p n cap xs Hs) :
    (p = none ∧ n = 0 ∧ cap = 0 ∧ xs = [] ∧ Hs = []) ∨ ∃ g ys, p = some ⟨g, 0, none⟩ ∧ Hs = [(g, .cells (xs ++ ys) e)] ∧ xs.length = n * size ∧ cap * size ≤ (xs ++ ys).length ∧ n ≤ cap ∧ cap ≤ maxLen := by
  cases h with
  | nil => exact .inl ⟨rfl, rfl, rfl, rfl, rfl⟩
  | blk h1 h2 h3 h4 => exact .inr ⟨_, _, rfl, rfl, h1, h2, h3, h4⟩
/-- H ends in Hs -/
inductive Tail : Hp → Hp → Hp → Prop where
  | nil {H : Hp} : Tail H H []
  | cons {H Hs A : Hp} {x : Nat × Blk} (h : Tail H Hs A) : Tail (x :: H) Hs (x :: A)
theorem Tail.perm {H Hs A : Hp} (h : Tail H Hs A) : H.Perm (Hs ++ A) := by
  induction h with
  | nil => simp
  | cons _ ih => exact (List.Perm.cons _ ih).trans (List.perm_middle).symm
theorem Sub.skip {H' H : Hp} {x : Nat × Blk} (h : Sub H' H) : Sub H' (x :: H) := by
  induction h with
  | nil => exact .nil
  | cons h _ ih => exact .cons (.there h) ih
theorem Sub.refl (H : Hp) : Sub H H := Sub.ofPerm (List.Perm.refl _)
theorem subT {H' H : Hp} (h : Sub H' H := by repeat' (first | exact Sub.refl _ | exact Sub.nil | (apply Sub.cons; (· repeat (first | exact Pull.here | apply Pull.there))) | apply Sub.skip)) : Sub H' H := h
theorem tailA {H Hs A : Hp} (h : Tail H Hs A := by repeat (first | exact Tail.nil | apply Tail.cons)) : H.Perm (Hs ++ A) := h.perm
theorem Cut.self (Hf R : Hp) : Cut Hf (Hf ++ R) R := by
  induction Hf with
  | nil => exact .nil
  | cons x Hf ih => exact .cons .here ih
/-- H holds Hf, whose last part may be opaque -/
inductive CutT : Hp → Hp → Hp → Prop where
  | nil {H : Hp} : CutT [] H H
  | tail {H Hs A : Hp} (h : Tail H Hs A) : CutT Hs H A
  | cons {H R H' H2 : Hp} {x : Nat × Blk} (h : Pull H x R) (k : CutT H' R H2) : CutT (x :: H') H H2
theorem CutT.perm {Hf H R : Hp} (h : CutT Hf H R) : H.Perm (Hf ++ R) := by
  induction h with
  | nil => simp
  | tail h => exact h.perm
  | cons h _ ih => exact h.perm.trans (List.Perm.cons _ ih)
theorem cutT {Hf H R : Hp} (h : CutT Hf H R := by repeat' (first | exact CutT.nil | (apply CutT.cons; (· repeat (first | exact Pull.here | apply Pull.there))) | (apply CutT.tail; (· repeat (first | exact Tail.nil | apply Tail.cons))))) : CutT Hf H R := h
section rules
variable {X : Cx} {Q : PostT} {l : St} {ds : List Deferred} {H Hs R0 : Hp} {ops : Array Oper} {rest : List Oper}
variable {d ty : Nat} {pos : String} {after : Array Edge}
/-- the cells that are appended lie somewhere -/
def Lies (H : Hp) (b o : Nat) (news : List Value) : Prop := ∀ w, Has H w → ∀ j u, news[j]? = some u → w.cell? ((⟨b, o, none⟩ : Addr).add j) = some u
theorem Lies.cells {b o k : Nat} {R : Hp} {Lb : List Value} {E : TypeId} {news : List Value} (hp : Pull H (b, .cells Lb E) R) (hn : (Lb.drop o).take k = news) : Lies H b o news := fun w hw j u hj => by
  have hm : (b, Blk.cells Lb E) ∈ H := hp.perm.mem_iff.2 (by simp)
  rw [addr_add, cells_rd hw hm (o + j)]
  rw [← hn, List.getElem?_take] at hj
  split at hj
  · rw [List.getElem?_drop] at hj; exact hj
  · cases hj
theorem Lies.oth {b o k : Nat} {R : Hp} {C : Array Value} {E : TypeId} {fr : Nat × Nat} {news : List Value} (hp : Pull H (b, .oth (.cells C E fr)) R) (hn : (C.toList.drop o).take k = news) : Lies H b o news := fun w hw j u hj => by
  have hm : (b, Blk.oth (.cells C E fr)) ∈ H := hp.perm.mem_iff.2 (by simp)
  rw [addr_add, cells_rdo hw hm (o + j)]
  rw [← hn, List.getElem?_take] at hj
  split at hj
  · rw [List.getElem?_drop] at hj; exact hj
  · cases hj
theorem infoOf {P : Program} {e size bytes : Nat} {z : List Value} {g : Bool} (T : Ty P e size g) (B : TyBy P e bytes) (Z : TyZ P e z) : ∃ i u, P.info? e = some i ∧ i.zero = some u ∧ i.size = size ∧ i.bytes = bytes ∧ u.cells = z.toArray := by
  have hs := T.size
  have hb := B.bytes
  have hz := Z.zero
  cases hq : P.info? e with
  | none => simp [hq] at hs
  | some i =>
    cases hi : i.zero with
    | none => simp [hq, hi] at hz
    | some u =>
      simp [hq] at hs hb
      simp [hq, hi] at hz
      exact ⟨i, u, rfl, hi, hs, hb, hz⟩
theorem L_append {x y : Operand} {t e size bytes n cap m c b o : Nat} {g : Bool} {p : Option Addr} {xs news z : List Value} [T : TySl X.P t e size] [Te : Ty X.P e size g] [B : TyBy X.P e bytes] [Z : TyZ X.P e z] (hlt : Nat.blt d X.n = true)
    (hx : ev l x = some (.slice p n cap)) (hy : ev l y = some (.slice (some ⟨b, o, none⟩) m c)) (hown : Own e size p n cap xs Hs) (hs : H.Perm (Hs ++ R0)) (hnews : Lies H b o news) (hl : news.length = m * size)
    (h1 : ∀ u ∈ news, u.oneCell' = true) (h0 : 0 < m) (h63 : n + m ≤ maxLen) (hbytes : (n + m) * bytes ≤ 140737488355328) (hzk : z.length = size)
    (h : ∀ g cap' ys, cap' * size ≤ (xs ++ news ++ ys).length → n + m ≤ cap' → cap' ≤ maxLen → L X ops rest Q ((d, .slice (some ⟨g, 0, none⟩) (n + m) cap') :: l) ds ((g, .cells (xs ++ news ++ ys) e) :: R0)) :
    L X ops ({ dst := some d, op := .call { callee := .builtin .append, args := #[x, y], argTypes := #[t, t] }, type := ty, pos, after, guard := none } :: rest) Q l ds H :=
  L_val rfl rfl hlt (fun _ e => by cases e) fun ρ hρ w hw => by
    obtain ⟨i, u, hi, hz, hsz, hby, hzc⟩ := infoOf Te B Z
    have hN := hnews w hw.has
    have hw1 := hw.perm hs
    have run : ∀ {v' : Value} {w' : World}, (Builtin.append_ #[t, t] ty #[.slice p n cap, .slice (some ⟨b, o, none⟩) m c]).run X.P w = .ok v' w' →
        (execOp ρ { dst := some d, op := .call { callee := .builtin .append, args := #[x, y], argTypes := #[t, t] }, type := ty, pos, after, guard := none }).run X.P w = .ok (.value v') w' := fun hr => by
      simp only [execOp, resolve, Sem.run_bind, Sem.run_pure, Result.andThen_ok, invoke]
      simp only [List.map_toArray, List.map_cons, List.map_nil, hρ x _ hx, hρ y _ hy, builtin, Sem.run_bind, hr, Result.andThen_ok, Sem.run_pure]
    have fresh : ∀ (old : Nat), ∃ ys : List Value, (xs.toArray ++ news.toArray ++ Builtin.zeroCells u.cells (grownCap w (n + m) old e - (n + m))) = (xs ++ news ++ ys).toArray ∧ (xs ++ news ++ ys).length = grownCap w (n + m) old e * size := fun old => by
      refine ⟨(Builtin.zeroCells u.cells (grownCap w (n + m) old e - (n + m))).toList, by simp, ?_⟩
      have hge := grownCap_ge w (n + m) old e
      have h2 := size_zeroCells u.cells (grownCap w (n + m) old e - (n + m))
      have h3 : u.cells.size = size := by rw [hzc]; simpa using hzk
      rw [h3] at h2
      have h4 : (Builtin.zeroCells u.cells (grownCap w (n + m) old e - (n + m))).toList.length = (grownCap w (n + m) old e - (n + m)) * size := by rw [Array.length_toList]; exact h2
      rw [List.length_append, List.length_append, h4, hown.len, hl, ← Nat.add_mul, ← Nat.add_mul]
      congr 1
      omega
    cases hown with
    | nil =>
      obtain ⟨ys, e1, e2⟩ := fresh 0
      have hr := run_append_nil (P := X.P) w t ty e i u T.und hi hz ⟨b, o, none⟩ m c news (by rw [hsz]; exact hl) hN h0 (by simp only [maxLen] at h63; omega) (by rw [hby]; simp only [Nat.zero_add] at hbytes; omega)
      simp only [Nat.zero_add, List.nil_append] at e1 e2 hr h ⊢
      have e0 : (news.toArray ++ Builtin.zeroCells u.cells (grownCap w m 0 e - m)) = (news ++ ys).toArray := by rw [← e1]; simp
      rw [e0] at hr
      refine ⟨_, _, _, run hr, ?_, h _ _ ys (Nat.le_of_eq e2.symm) (grownCap_ge w m 0 e) (grownCap_le_maxLen w m 0 e (by simpa using h63))⟩
      have := (hw1.drew).alloc (.cells (news ++ ys) e)
      simpa [Blk.obj] using this
    | blk hxl hcl hnc hcm =>
      rename_i g0 ys0
      have hg := hw1.has.rd g0 (.cells (xs ++ ys0) e) (by simp)
      simp only [Blk.obj] at hg
      by_cases hroom : n + m ≤ cap
      · have hfit : n * i.size + news.length ≤ (xs ++ ys0).toArray.size := by rw [hl, hsz, List.size_toArray, ← Nat.add_mul]; exact Nat.le_trans (Nat.mul_le_mul_right _ hroom) hcl
        have hr := run_append_room (P := X.P) w t ty e i T.und hi g0 n cap _ hg ⟨b, o, none⟩ m c news (by rw [hsz]; exact hl) hN h1 hroom hfit
        have e3 : ((xs ++ ys0).toArray.toList.take (n * i.size) ++ news ++ (xs ++ ys0).toArray.toList.drop (n * i.size + news.length)) = xs ++ news ++ (ys0.drop news.length) := by
          rw [hsz, ← hxl]
          simp [List.drop_append]
        rw [e3] at hr
        refine ⟨_, _, _, run hr, ?_, h g0 cap (ys0.drop news.length) ?_ hroom hcm⟩
        · refine hw1.rep (b := g0) (o := .cells (xs ++ ys0) e) (n := .cells (xs ++ news ++ ys0.drop news.length) e) Rep.here rfl rfl rfl (by simp [World.setRow]) (setRow_heap w g0 _ _ e _ hg) (fun k hk => ?_)
          simp only [World.setRow, Array.getElem?_modify]
          rw [if_neg (fun e => hk e.symm)]
        · have : (n + m) * size ≤ cap * size := Nat.mul_le_mul_right _ hroom
          rw [Nat.add_mul] at this
          simp only [List.length_append, List.length_drop] at hcl ⊢
          omega
      · obtain ⟨ys, e1, e2⟩ := fresh cap
        have holds : ∀ j v, xs[j]? = some v → w.cell? ((⟨g0, 0, none⟩ : Addr).add j) = some v := fun j v hj => by
          rw [addr_add, cell_of_row w g0 (0 + j) _ e _ hg]
          rw [Nat.zero_add]
          simp only [List.getElem?_toArray]
          rw [List.getElem?_append_left (List.getElem?_eq_some_iff.1 hj).1]
          exact hj
        have hr := run_append_grow (P := X.P) w t ty e i u T.und hi hz ⟨g0, 0, none⟩ n cap xs (by rw [hsz]; exact hxl) holds ⟨b, o, none⟩ m c news (by rw [hsz]; exact hl) hN (by omega) (by simp only [maxLen] at h63; omega) (growslice_fits (by omega) (by rw [hby]; exact hbytes))
        rw [e1] at hr
        refine ⟨_, _, _, run hr, ?_, h _ _ ys (Nat.le_of_eq e2.symm) (grownCap_ge w (n + m) cap e) (grownCap_le_maxLen w (n + m) cap e h63)⟩
        have h5 : Now X R0 w := hw1.right (A := [_])
        have := (h5.drew).alloc (.cells (xs ++ news ++ ys) e)
        simpa [Blk.obj] using this
/-- nothing is appended -/
theorem L_appendNone {x y : Operand} {t e size n cap m c : Nat} {a p : Option Addr} {g : Bool} [T : TySl X.P t e size] [Te : Ty X.P e size g] (hlt : Nat.blt d X.n = true)
    (hx : ev l x = some (.slice p n cap)) (hy : ev l y = some (.slice a m c)) (hm : m = 0) (hn : n ≤ cap) (h : L X ops rest Q ((d, .slice p n cap) :: l) ds H) :
    L X ops ({ dst := some d, op := .call { callee := .builtin .append, args := #[x, y], argTypes := #[t, t] }, type := ty, pos, after, guard := none } :: rest) Q l ds H :=
  L_val rfl rfl hlt (fun _ e => by cases e) fun ρ hρ w hw => by
    subst hm
    have hsz := Te.runSize w
    refine ⟨_, w, H, ?_, hw, h⟩
    simp only [execOp, resolve, Sem.run_bind, Sem.run_pure, Result.andThen_ok, invoke]
    simp only [List.map_toArray, List.map_cons, List.map_nil, hρ x _ hx, hρ y _ hy, builtin]
    cases p with
    | none => cases a <;> simp [Builtin.append_, run_underlying T.und w, hsz, Builtin.lenOf, hn, Builtin.firstCells, loadCells, loadCellsFrom]
    | some p => cases a <;> simp [Builtin.append_, run_underlying T.und w, hsz, Builtin.lenOf, hn, Builtin.firstCells, loadCells, loadCellsFrom, storeCells]
theorem add_zero (a : Addr) : a.add 0 = a := by simp [Addr.add]
theorem P_sl3 {x hi mx : Operand} {t e k b m len cap : Nat} {p : Option Addr} [T : TySl X.P t e k] (hx : ev l x = some (.slice p len cap)) (hhi : ev l hi = some (.int .i64 ((b : Nat) : Int))) (hmx : ev l mx = some (.int .i64 ((m : Nat) : Int))) (h1 : b ≤ m) (h2 : m ≤ cap) :
    PureOp X H l { dst := some d, op := .slice t x none (some hi) (some mx), type := ty, pos, after, guard := none } (.slice p b m) :=
  fun ρ hρ w _ => by
    have hb : (Instr.sliceBounds true len cap none (some (.int .i64 ((b : Nat) : Int))) (some (.int .i64 ((m : Nat) : Int)))).run X.P w = .ok (0, b, m) w := by
      simp [Instr.sliceBounds, run_sliceBound, h1, h2, Sem.run_bind]
    simp only [execOp, hρ x _ hx, Sem.run_bind, Instr.sliceAt, Instr.slice, run_underlying T.und w, Result.andThen_ok, Option.map_none, Option.map_some, hρ hi _ hhi, hρ mx _ hmx, hb, Sem.run_pure, T.runSize w]
    congr 2
    split
    · simp
    · cases p <;> simp [add_zero]
theorem callT {g : Operand} {az : List Operand} {ts : Array TypeId} {f : FuncId} {cap : List Value} {vs : List Value} 
    (q : ∃ Hf R, Spec X.P f (vs ++ cap) Hf R ∧ ∃ R0, CutT Hf H R0 ∧ ∀ v H', R v H' → L X ops rest Q ((d, v) :: l) ds (R0 ++ H'))
    (hlt : Nat.blt d X.n = true := by exact rfl) (hg : ev l g = some (.func (.func f) #[] cap.toArray) := by exact evA) (T : FnOk X.P f := by infer_instance) (hx : evs l az = some vs := by exact rfl) :
    L X ops ({ dst := some d, op := .call { callee := .value g, args := az.toArray, argTypes := ts }, type := ty, pos, after, guard := none } :: rest) Q l ds H := by
  obtain ⟨Hf, R, hs, R0, hc, h⟩ := q
  exact L_perm hc.perm (L_call hlt hg T hx hs (Cut.self Hf R0) (fun v H' hr => L_perm List.perm_append_comm (h v H' hr)))
end rules
end Go.Proofs.YtcpfmjlceoiofaaGreatDoor
