/-
  The walk's own small calculus, fourteenth part: appends that must go elsewhere, or have room; clear; slices of none.
-/
import Derived.Test.YteahdmldipokeaaE12
import Derived.Lib.SliceRun
import Derived.WalkSpells
namespace Go.Proofs.Yteahdmldipokeaa
open Go.RowKit
section rules
variable {X : Cx} {Q : PostT} {l : St} {ds : List Deferred} {H Hs R0 : Hp} {ops : Array Oper} {rest : List Oper}
variable {d ty : Nat} {pos : String} {after : Array Edge}
/-- there is no room: what lay there stays -/
theorem L_appendKeep {x y : Operand} {t e size bytes n cap m c b o : Nat} {g : Bool} {p : Option Addr} {xs news z : List Value} [T : TySl X.P t e size] [Te : Ty X.P e size g] [B : TyBy X.P e bytes] [Z : TyZ X.P e z] (hlt : Nat.blt d X.n = true)
    (hx : ev l x = some (.slice p n cap)) (hy : ev l y = some (.slice (some ⟨b, o, none⟩) m c)) (hown : Own e size p n cap xs Hs) (hs : H.Perm (Hs ++ R0)) (hnews : Lies H b o news) (hl : news.length = m * size)
    (h1 : ∀ u ∈ news, u.oneCell' = true) (h0 : 0 < m) (hfull : cap < n + m) (h63 : n + m ≤ maxLen) (hbytes : (n + m) * bytes ≤ 140737488355328) (hzk : z.length = size)
    (h : ∀ g cap' ys, cap' * size ≤ (xs ++ news ++ ys).length → n + m ≤ cap' → cap' ≤ maxLen → L X ops rest Q ((d, .slice (some ⟨g, 0, none⟩) (n + m) cap') :: l) ds ((g, .cells (xs ++ news ++ ys) e) :: H)) :
    L X ops ({ dst := some d, op := .call { callee := .builtin .append, args := #[x, y], argTypes := #[t, t] }, type := ty, pos, after, guard := none } :: rest) Q l ds H :=
  L_val rfl rfl hlt (fun _ e => by cases e) fun ρ hρ w hw => by
    obtain ⟨i, u, hi, hz, hsz, hby, hzc⟩ := infoOf Te B Z
    have hN := hnews w hw.has
    have hw1 := hw.perm hs
    have run : ∀ {v' : Value} {w' : World}, (Builtin.append_ #[t, t] ty #[.slice p n cap, .slice (some ⟨b, o, none⟩) m c]).run X.P w = .ok v' w' →
        (execOp ρ { dst := some d, op := .call { callee := .builtin .append, args := #[x, y], argTypes := #[t, t] }, type := ty, pos, after, guard := none }).run X.P w = .ok (.value v') w' := fun hr => by
      simp only [execOp, resolve, Sem.run_bind, Sem.run_pure, Result.andThen_ok, invoke]
      simp only [List.map_toArray, List.map_cons, List.map_nil, hρ x _ hx, hρ y _ hy, builtin, Sem.run_bind, hr, Result.andThen_ok, Sem.run_pure]
    have fresh : ∀ (old : Nat), ∃ ys : List Value, (xs.toArray ++ news.toArray ++ Builtin.zeroCells u.cells (grownCap w (n + m) old e - (n + m))) = (xs ++ news ++ ys).toArray ∧ (xs ++ news ++ ys).length = grownCap w (n + m) old e * size := fun old => by
      refine ⟨(Builtin.zeroCells u.cells (grownCap w (n + m) old e - (n + m))).toList, by simp, ?_⟩
      have hge := grownCap_ge w (n + m) old e
      have h2 := size_zeroCells u.cells (grownCap w (n + m) old e - (n + m))
      have h3 : u.cells.size = size := by rw [hzc]; simpa using hzk
      rw [h3] at h2
      have h4 : (Builtin.zeroCells u.cells (grownCap w (n + m) old e - (n + m))).toList.length = (grownCap w (n + m) old e - (n + m)) * size := by rw [Array.length_toList]; exact h2
      rw [List.length_append, List.length_append, h4, hown.len, hl, ← Nat.add_mul, ← Nat.add_mul]
      congr 1
      omega
    cases hown with
    | nil =>
      obtain ⟨ys, e1, e2⟩ := fresh 0
      have hr := run_append_nil (P := X.P) w t ty e i u T.und hi hz ⟨b, o, none⟩ m c news (by rw [hsz]; exact hl) hN h0 (by simp only [maxLen] at h63; omega) (by rw [hby]; simp only [Nat.zero_add] at hbytes; omega)
      simp only [Nat.zero_add, List.nil_append] at e1 e2 hr h ⊢
      have e0 : (news.toArray ++ Builtin.zeroCells u.cells (grownCap w m 0 e - m)) = (news ++ ys).toArray := by rw [← e1]; simp
      rw [e0] at hr
      refine ⟨_, _, _, run hr, ?_, h _ _ ys (Nat.le_of_eq e2.symm) (grownCap_ge w m 0 e) (grownCap_le_maxLen w m 0 e (by simpa using h63))⟩
      have := (hw.drew).alloc (.cells (news ++ ys) e)
      simpa [Blk.obj] using this
    | blk hxl hcl hnc hcm =>
      rename_i g0 ys0
      have hg := hw1.has.rd g0 (.cells (xs ++ ys0) e) (by simp)
      simp only [Blk.obj] at hg
      obtain ⟨ys, e1, e2⟩ := fresh cap
      have holds : ∀ j v, xs[j]? = some v → w.cell? ((⟨g0, 0, none⟩ : Addr).add j) = some v := fun j v hj => by
        rw [addr_add, cell_of_row w g0 (0 + j) _ e _ hg]
        rw [Nat.zero_add]
        simp only [List.getElem?_toArray]
        rw [List.getElem?_append_left (List.getElem?_eq_some_iff.1 hj).1]
        exact hj
      have hr := run_append_grow (P := X.P) w t ty e i u T.und hi hz ⟨g0, 0, none⟩ n cap xs (by rw [hsz]; exact hxl) holds ⟨b, o, none⟩ m c news (by rw [hsz]; exact hl) hN hfull (by simp only [maxLen] at h63; omega) (growslice_fits (by omega) (by rw [hby]; exact hbytes))
      rw [e1] at hr
      refine ⟨_, _, _, run hr, ?_, h _ _ ys (Nat.le_of_eq e2.symm) (grownCap_ge w (n + m) cap e) (grownCap_le_maxLen w (n + m) cap e h63)⟩
      have := (hw.drew).alloc (.cells (xs ++ news ++ ys) e)
      simpa [Blk.obj] using this
/-- there is room -/
theorem L_appendRoom {x y : Operand} {t e size n cap m c b o g0 : Nat} {g : Bool} {H' : Hp} {xs ys news : List Value} [T : TySl X.P t e size] [Te : Ty X.P e size g] (hlt : Nat.blt d X.n = true)
    (hx : ev l x = some (.slice (some ⟨g0, 0, none⟩) n cap)) (hy : ev l y = some (.slice (some ⟨b, o, none⟩) m c)) (hp : Rep H g0 (.cells (xs ++ ys) e) (.cells (xs ++ news ++ ys.drop news.length) e) H') (hxl : xs.length = n * size) (hnews : Lies H b o news) (hl : news.length = m * size)
    (h1 : ∀ u ∈ news, u.oneCell' = true) (hroom : n + m ≤ cap) (hcl : cap * size ≤ (xs ++ ys).length)
    (h : L X ops rest Q ((d, .slice (some ⟨g0, 0, none⟩) (n + m) cap) :: l) ds H') :
    L X ops ({ dst := some d, op := .call { callee := .builtin .append, args := #[x, y], argTypes := #[t, t] }, type := ty, pos, after, guard := none } :: rest) Q l ds H :=
  L_val rfl rfl hlt (fun _ e => by cases e) fun ρ hρ w hw => by
    obtain ⟨i, hi, hsz⟩ : ∃ i, X.P.info? e = some i ∧ i.size = size := by
      have := Te.size
      cases hq : X.P.info? e with
      | none => simp [hq] at this
      | some i => simp [hq] at this; exact ⟨i, rfl, this⟩
    have hN := hnews w hw.has
    have hg := hw.has.rd _ _ hp.mem
    simp only [Blk.obj] at hg
    have hfit : n * i.size + news.length ≤ (xs ++ ys).toArray.size := by rw [hl, hsz, List.size_toArray, ← Nat.add_mul]; exact Nat.le_trans (Nat.mul_le_mul_right _ hroom) hcl
    have hr := run_append_room (P := X.P) w t ty e i T.und hi g0 n cap _ hg ⟨b, o, none⟩ m c news (by rw [hsz]; exact hl) hN h1 hroom hfit
    have e3 : ((xs ++ ys).toArray.toList.take (n * i.size) ++ news ++ (xs ++ ys).toArray.toList.drop (n * i.size + news.length)) = xs ++ news ++ (ys.drop news.length) := by
      rw [hsz, ← hxl]
      simp [List.drop_append]
    rw [e3] at hr
    refine ⟨_, w.setRow g0 (xs ++ news ++ ys.drop news.length).toArray, H', ?_, ?_, h⟩
    · simp only [execOp, resolve, Sem.run_bind, Sem.run_pure, Result.andThen_ok, invoke]
      simp only [List.map_toArray, List.map_cons, List.map_nil, hρ x _ hx, hρ y _ hy, builtin, Sem.run_bind, hr, Result.andThen_ok, Sem.run_pure]
    · refine hw.rep hp rfl rfl rfl (by simp [World.setRow]) (setRow_heap w g0 _ _ e _ hg) (fun k hk => ?_)
      simp only [World.setRow, Array.getElem?_modify]
      rw [if_neg (fun e => hk e.symm)]
/-- a slice of none that is not nil -/
theorem L_buildSl0 {t e k : Nat} [T : TySl X.P t e k] (hlt : Nat.blt d X.n = true)
    (h : ∀ b, L X ops rest Q ((d, .slice (some ⟨b, 0, none⟩) 0 0) :: l) ds ((b, .cells [] e) :: H)) :
    L X ops ({ dst := some d, op := .buildSlice t 0 #[], type := ty, pos, after, guard := none } :: rest) Q l ds H :=
  L_val rfl rfl hlt (fun _ e => by cases e) fun ρ hρ w hw => by
    refine ⟨_, _, _, ?_, hw.alloc (.cells [] e), h _⟩
    simp only [execOp, Instr.buildSlice, Sem.run_bind, run_underlying T.und w, Result.andThen_ok, T.runSize w, Nat.zero_mul]
    have er : (Array.map (fun _ => (default : Value)) (Array.range 0)) = #[] := by apply Array.ext'; simp
    simp [Instr.fill, newRow, Blk.obj, Sem.run_bind]
    rw [er]
theorem P_eqNilSl {x y : Operand} {t u e k n c : Nat} {p : Option Addr} [T : TySl X.P t e k] (hx : ev l x = some (.slice p n c)) (hy : ev l y = some (.slice none 0 0)) :
    PureOp X H l { dst := some d, op := .binOp .eql t x y u, type := ty, pos, after, guard := none } (.bool p.isNone) :=
  P_binq hx hy (fun w => by simp [eqGuard]) (fun w => Lib.run_eql_slice_nil w t e p n c 0 0 T.und)
theorem L_val0 {o : Oper} (hg : o.guard = none) (hd : o.dst = none) (hdef : ∀ c, o.op ≠ .defer c)
    (h : ∀ ρ, Fits l ρ → Runs X H (execOp ρ o) (fun _ H' => L X ops rest Q l ds H')) : L X ops (o :: rest) Q l ds H := by
  intro a w ha hw
  refine wpListIn_plain hg fun K hK => ⟨fun _ _ => trivial, ?_⟩
  obtain ⟨v, w', H', hr, hn, hl⟩ := h a.eval (fun x v hx => ha.eval hx) w hw
  have e : (Oper.semAt (fe X.ro).round a.eval o).run X.P w = .ok (.value v) w' := by rw [semAt_eq hdef]; exact hr
  rw [e]
  show K (a.put o.dst v) w'
  rw [hd]
  exact hK _ _ (hl _ _ ha hn)
/-- cells that are set to zero -/
theorem L_clear {x : Operand} {t e size c b o : Nat} {g : Bool} {H' : Hp} {Lb Ln z : List Value} [T : TySl X.P t e size] [Te : Ty X.P e size g] [Z : TyZ X.P e z]
    (hx : ev l x = some (.slice (some ⟨b, o, none⟩) 1 c)) (hp : Rep H b (.cells Lb e) (.cells Ln e) H') (hzk : z.length = size) (h1 : ∀ u ∈ z, u.oneCell' = true)
    (hn : Lb.take o ++ z ++ Lb.drop (o + size) = Ln) (hb : o + size ≤ Lb.length) (h : L X ops rest Q l ds H') :
    L X ops ({ dst := none, op := .call { callee := .builtin .clear, args := #[x], argTypes := #[t] }, type := ty, pos, after, guard := none } :: rest) Q l ds H :=
  L_val0 rfl rfl (fun _ e => by cases e) fun ρ hρ w hw => by
    have hg := hw.has.rd _ _ hp.mem
    simp only [Blk.obj] at hg
    obtain ⟨u, hz1, hz2⟩ : ∃ u, (zeroValue e).run X.P w = .ok u w ∧ u.cells = z.toArray := by
      have hz := Z.zero
      cases hq : X.P.info? e with
      | none => simp [hq] at hz
      | some i =>
        cases hi : i.zero with
        | none => simp [hq, hi] at hz
        | some u => simp [hq, hi] at hz; exact ⟨u, by simp [zeroValue, typeInfo, hq, hi], hz⟩
    have hzc : (Builtin.zeroCells z.toArray 1).toList = z := by
      unfold Builtin.zeroCells
      rw [Nat.one_mul, Array.toList_map, Array.toList_range]
      apply List.ext_getElem
      · simp
      · intro i h1 h2
        simp only [List.getElem_map, List.getElem_range, List.size_toArray]
        rw [Nat.mod_eq_of_lt h2, getElem!_pos z.toArray i (by simpa using h2)]
        rfl
    have hst := run_storeCells_at X.P b o e z 0 Lb.toArray w hg (by simp; omega) h1
    simp only [Nat.add_zero, List.toList_toArray] at hst
    rw [← hzk] at hb hn
    refine ⟨.tuple #[], w.setRow b Ln.toArray, H', ?_, ?_, h⟩
    · have hc : (Builtin.clear_ #[t] ty #[.slice (some ⟨b, o, none⟩) 1 c]).run X.P w = .ok (.tuple #[]) (w.setRow b Ln.toArray) := by
        rw [← hn]
        simp [Builtin.clear_, run_underlying T.und w, hz1, hz2, hzc, hst]
      simp only [execOp, resolve, Sem.run_bind, Sem.run_pure, Result.andThen_ok, invoke]
      simp only [List.map_toArray, List.map_cons, List.map_nil, hρ x _ hx, builtin, Sem.run_bind, hc, Result.andThen_ok, Sem.run_pure]
    · refine hw.rep hp rfl rfl rfl (by simp [World.setRow]) (setRow_heap w b Lb.toArray _ e _ hg) (fun k hk => ?_)
      simp only [World.setRow, Array.getElem?_modify]
      rw [if_neg (fun e => hk e.symm)]
end rules
end Go.Proofs.Yteahdmldipokeaa
