/-
  Joined texts; each begins with its own sentence.
-/
import Derived.Test.YtcpfmjlceoiofaaGreatDoorN05
import Derived.RangeFuncLeaves
import Derived.Test.YtcpfmjlceoiofaaGreatDoorN04
import Derived.Lib.SliceRun
import Derived.WalkSpells
import Derived.Test.YtcpfmjlceoiofaaGreatDoorN02
set_option linter.unusedSimpArgs false
set_option linter.unusedVariables false
set_option linter.unusedSectionVars false
/-
  The walk's own small calculus, twenty-second part: a deferred call with arguments, of a function that ranges over a function.
-/
namespace Go.Proofs.YtcpfmjlceoiofaaGreatDoor
open Go.RowKit
/-- marks alone are taken, one by one -/
def MarksRun (P : Program) : List Deferred → World → World → Prop
  | [], w, w' => w' = w
  | d :: ds, w, w' => ∃ r w1, d.target = .collected r ∧ (Instr.takeDeferred r).run P w = .ok [] w1 ∧ MarksRun P ds w1 w'
theorem marks_steps {P : Program} {F : Fence} {n : Nat} : ∀ (ds : List Deferred) (w w' : World) (fr : Frame) (cs : List Frame), fr.mode = .returning → fr.defers = ds → F.fn fr.fn → F.room (cs.length + 1 + n) → MarksRun P ds w w' →
    StepsIn (Machine.fenced P F) P (lone fr cs w) (lone { fr with defers := [] } cs w') := by
  intro ds
  induction ds with
  | nil =>
    rintro w w' fr cs hm hd _ _ rfl
    have e : { fr with defers := [] } = fr := by cases fr; simp_all
    rw [e]
    exact .refl _
  | cons d ds ih =>
    rintro w w' fr cs hm hd hf hr ⟨r, w1, htar, htake, hrest⟩
    have hrun : fr.mode ≠ .run := by rw [hm]; exact fun h => by cases h
    have h1 := step_collected (cs := cs) hrun hd htar htake
    have i1 : (lone fr cs w).fenced P F := fenced_out hf hr hrun hd (fun g hg => by rw [htar] at hg; simp [Target.leads] at hg)
    have h2 := ih w1 w' { fr with defers := [] ++ ds } cs hm rfl hf hr hrest
    exact .head i1 h1 h2
def bodyPostD (P : Program) (fn : Func) (R : Ending → World → Prop) : Exit → Act → World → Prop
  | .normal, a, w | .ret, a, w => ∃ w', MarksRun P a.defers w w' ∧ ∃ v, (results fn a.tmps).run P w' = .ok v w' ∧ R (.returned v) w'
  | _, _, _ => False
theorem callsDIn_of_wp_marks {P : Program} {F : Fence} {n : Nat} {f : FuncId} {fn : Func} {c : Code} {args : Array Value} {u : FrameMode} {w : World} {R : Ending → World → Prop}
    (hf : P.funcs[f]? = some fn) (hb : fn.body = some c) (hF : F.fn f)
    (h : c.wpIn F n P (bodyPostD P fn R) { tmps := args ++ Array.replicate (fn.ntmps - args.size) undef, defers := [] } w) (hro : F.round = none := by rfl) :
    CallsDIn F n P f args u w fun e u' w' => u' = u ∧ R e w' := by
  refine ⟨hF, fun c₀ cs hu hr => ?_⟩
  let b : Frame := { (default : Frame) with fn := f, kind := .deferred, roundOf := none }
  have henter : Frame.enter P f args .deferred =
      b.atR { tmps := args ++ Array.replicate (fn.ntmps - args.size) undef, defers := [] } [.code c] := by
    simp [Frame.enter, Frame.atR, hf, hb, b]
  have hc : ({ c₀ with mode := u } : Frame) = c₀ := by subst hu; rfl
  obtain ⟨e, a', w', hq, harr⟩ := h b [] (c₀ :: cs) hro.symm hF hr
  rw [← henter] at harr
  cases e with
  | normal =>
    obtain ⟨w2, hm, v, hr', hR⟩ := hq
    have hs := marks_steps (P := P) (n := n) a'.defers w' w2 { b.atR a' [] with mode := .returning } (c₀ :: cs) rfl rfl hF hr hm
    exact ⟨.returned v, u, w2, _, ⟨rfl, hR⟩, (by rw [hc]; exact StepsIn.trans harr (StepsIn.trans (.one (fenced_calm (fr := b.atR a' []) hF hr rfl) (stepR_end rfl)) hs)), rfl, rfl, rfl, rfl, fn, hf, hr'⟩
  | ret =>
    obtain ⟨w2, hm, v, hr', hR⟩ := hq
    obtain ⟨todo, hs0⟩ := harr.1 rfl
    have hs := marks_steps (P := P) (n := n) a'.defers w' w2 { b.atR a' todo with mode := .returning } (c₀ :: cs) rfl rfl hF hr hm
    exact ⟨.returned v, u, w2, _, ⟨rfl, hR⟩, (by rw [hc]; exact StepsIn.trans hs0 hs), rfl, rfl, rfl, rfl, fn, hf, hr'⟩
  | panic chain => exact hq.elim
  | exit id => exact hq.elim
  | goto l => exact hq.elim
  | outgrown => exact hq.elim
theorem marks_run {P : Program} {n : Nat} {w0 : World} {K : List Nat} : ∀ {ds : List Deferred} {H H1 : Hp} {w : World}, Marks ds H H1 → Now ⟨none, P, n, w0, K⟩ H w → ∃ w', MarksRun P ds w w' ∧ Now ⟨none, P, n, w0, K⟩ H1 w' := by
  intro ds H H1 w hm
  induction hm generalizing w with
  | nil => exact fun hw => ⟨w, rfl, hw⟩
  | cons hp k ih =>
    intro hw
    have hD := hw.has.rd _ _ (hp.perm.mem_iff.2 List.mem_cons_self)
    have hw1 := hw.perm hp.perm
    have hlt := hw1.has.lt (List.mem_cons_self)
    obtain ⟨w', h1, h2⟩ := ih ((hw1.rep (w' := w.putObj _ (.deferred none)) (n := .oth (.deferred none)) Rep.here rfl rfl rfl (by simp) (World.putObj_heap_same hlt) (fun k hk => World.putObj_heap_other hk)).right (A := [_]))
    exact ⟨w', ⟨_, _, rfl, run_takeDeferred hD, h1⟩, h2⟩
/-- a function that is entered as a deferred call, and may range over functions -/
theorem SpecD_bodyM {P : Program} {f : FuncId} {fn : Func} {c : Code} {args : List Value} {H : Hp} {R : Value → Hp → Prop} {n : Nat} (hf : P.funcs[f]? = some fn) (hb : fn.body = some c) (hn : fn.ntmps = n) (ha : Nat.ble args.length n = true)
    (h : ∀ w0, W ⟨none, P, n, w0, keys H⟩ c (retQ P fn R) (argSt 0 args) [] H) : SpecD P f args H R := by
  intro w u hw
  refine callsDIn_of_wp_marks (R := fun e w' => Ends H w R e w') hf hb trivial ?_
  have hk := kn_args (n := n) (vs := args) (by simpa using ha)
  rw [hn]
  refine wpIn_mono (h w _ w hk ⟨hw, Fr.refl _ _, fun b hb => .inl hb⟩) ?_
  rintro e a' w' ⟨l', ds', H', k, nw, q⟩
  have fin : (∃ H1 H2 vs, Marks ds' H' H1 ∧ ResL P l' H1 fn.results.toList vs ∧ R (resVal vs) H2 ∧ Sub H2 H1) → ∃ w2, MarksRun P a'.defers w' w2 ∧ ∃ v, (results fn a'.tmps).run P w2 = .ok v w2 ∧ Ends H w R (.returned v) w2 := by
    rintro ⟨H1, H2, vs, hm, hr, hR, hsub⟩
    obtain ⟨w2, h1, h2⟩ := marks_run hm nw
    have hw2 := h2.sub hsub
    exact ⟨w2, by rw [k.ds]; exact h1, _, hr.run k h2.has (by simp), _, _, rfl, hR, hw2.has, hw2.fr, hw2.own⟩
  cases e with
  | normal => exact fin q
  | ret => exact fin q
  | exit i => exact q.elim
  | goto t => exact q.elim
  | panic c => exact q.elim
  | outgrown => exact q.elim
section rules
variable {X : Cx} {Q : PostT} {l : St} {ds : List Deferred} {H : Hp} {ops : Array Oper} {rest : List Oper}
variable {d ty : Nat} {pos : String} {after : Array Edge}
theorem L_deferA {g : Operand} {az : List Operand} {ts : Array TypeId} {f : FuncId} {cap vs : List Value} (hro : X.ro = none) (hg : ev l g = some (.func (.func f) #[] cap.toArray)) (hx : evs l az = some vs)
    (h : L X ops rest Q l ({ target := .fn (.func f) cap.toArray, args := vs.toArray } :: ds) H) :
    L X ops ({ dst := none, op := .defer { callee := .value g, args := az.toArray, argTypes := ts }, type := ty, pos, after, guard := none } :: rest) Q l ds H := by
  intro a w ha hw
  refine wpListIn_plain rfl fun K hK => ⟨fun _ _ => trivial, ?_⟩
  have e1 : az.map a.eval = vs := evs_fits hx a.eval (fun x v hv => ha.eval hv)
  have e : (Oper.semAt (fe X.ro).round a.eval { dst := none, op := .defer { callee := .value g, args := az.toArray, argTypes := ts }, type := ty, pos, after, guard := none }).run X.P w = .ok (.defer { target := .fn (.func f) cap.toArray, args := vs.toArray }) w := by
    rw [show (fe X.ro).round = none from hro, Oper.semAt_none]
    simp only [execOp, resolve, ha.eval hg, Deferred.ofValue, Sem.run_bind, Sem.run_pure, Result.andThen_ok]
    simp [e1]
  rw [e]
  have ha2 : Kn X.n l ({ target := .fn (.func f) cap.toArray, args := vs.toArray } :: ds) { a with defers := { target := .fn (.func f) cap.toArray, args := vs.toArray } :: a.defers } := ⟨ha.size, by rw [← ha.ds], ha.get⟩
  exact hK _ _ (h _ _ ha2 hw)
/-- a loop whose rounds leave deferred calls (marks) behind -/
theorem W_loopD {c : Code} {α : Type} (sl : α → St) (sd : α → List Deferred) (sh : α → Hp) (ok : α → Prop) (μ : α → Nat)
    (x0 : α) (h0 : ok x0) (hl : Subl (sl x0) l) (hd : sd x0 = ds) (hh : Sub (sh x0) H)
    (round : ∀ x, ok x → W X c (thenQ (fun l' ds' H' => ∃ y, ds' = sd y ∧ ok y ∧ μ y < μ x ∧ Subl (sl y) l' ∧ Sub (sh y) H') Q) (sl x) (sd x) (sh x)) :
    W X (.loop c) Q l ds H := by
  intro a w ha hw
  subst hd
  refine wpIn_loop (fun a w => ∃ m x, ok x ∧ μ x = m ∧ Kn X.n (sl x) (sd x) a ∧ Now X (sh x) w)
    (fun a w => leastOf (fun m => ∃ x, ok x ∧ μ x = m ∧ Kn X.n (sl x) (sd x) a ∧ Now X (sh x) w)) ⟨_, x0, h0, rfl, ha.weak hl.get, hw.sub hh⟩ ?_
  intro a w hI
  obtain ⟨x, hok, hm, hk, hn⟩ := (leastOf_spec hI).1
  refine wpIn_mono (round x hok a w hk hn) ?_
  rintro e a' w' ⟨l', ds', H', k, n, q⟩
  cases e with
  | normal =>
    obtain ⟨y, rfl, hy, hlt, hsl, hsh⟩ := q
    have hJ : ∃ x, ok x ∧ μ x = μ y ∧ Kn X.n (sl x) (sd x) a' ∧ Now X (sh x) w' := ⟨y, hy, rfl, k.weak hsl.get, n.sub hsh⟩
    refine ⟨⟨_, hJ⟩, Nat.lt_of_le_of_lt ((leastOf_spec ⟨_, hJ⟩).2 _ hJ) ?_⟩
    show μ y < _
    rw [← hm]
    exact hlt
  | _ => exact ⟨l', ds', H', k, n, q⟩
end rules
theorem retEA {P : Program} {fn : Func} {R : Value → Hp → Prop} {l : St} {ds : List Deferred} {H : Hp} (h : Lv P fn R l ds H) : retE P fn R .ret l ds H := by
  unfold retE; exact h
theorem lvNil {P : Program} {fn : Func} {R : Value → Hp → Prop} {l : St} {H : Hp} {rs : List ResultVar} {vs : List Value} (q : ∃ H2, R (resVal vs) H2 ∧ Sub H2 H) (hf : fn.results.toList = rs := by exact rfl) (hr : ResL P l H rs vs := by exact reslA) : Lv P fn R l [] H := by
  obtain ⟨H2, h, hs⟩ := q
  exact .nil (by rw [hf]; exact hr) h hs
theorem lvMark {P : Program} {fn : Func} {R : Value → Hp → Prop} {l : St} {D : Nat} {ds : List Deferred} {H R1 : Hp} (k : Lv P fn R l ds R1) (h : Pull H (D, .oth (.deferred (some []))) R1 := by exact pullA) : Lv P fn R l ({ target := .collected D, args := #[] } :: ds) H := .mark h k
theorem lvCallA {P : Program} {fn : Func} {R : Value → Hp → Prop} {l : St} {f : FuncId} {vs caps : List Value} {ds : List Deferred} {H : Hp} (q : ∃ Hf Rf, SpecD P f (vs ++ caps) Hf Rf ∧ ∃ R0, CutT Hf H R0 ∧ ∀ v H', Rf v H' → ∃ H2, (H' ++ R0).Perm H2 ∧ Lv P fn R l ds H2) (T : FnOk P f := by infer_instance) :
    Lv P fn R l ({ target := .fn (.func f) caps.toArray, args := vs.toArray } :: ds) H := by
  obtain ⟨Hf, Rf, hs, R0, hc, k⟩ := q
  exact .callA T hs hc.perm fun v H' h => by obtain ⟨H2, p, z⟩ := k v H' h; exact .perm p z
end Go.Proofs.YtcpfmjlceoiofaaGreatDoor

/-
  The walk's own small calculus, fourteenth part: appends that must go elsewhere, or have room; clear; slices of none.
-/
namespace Go.Proofs.YtcpfmjlceoiofaaGreatDoor
open Go.RowKit
section rules
variable {X : Cx} {Q : PostT} {l : St} {ds : List Deferred} {H Hs R0 : Hp} {ops : Array Oper} {rest : List Oper}
variable {d ty : Nat} {pos : String} {after : Array Edge}
/-- there is no room: what lay there stays -/
theorem L_appendKeep {x y : Operand} {t e size bytes n cap m c b o : Nat} {g : Bool} {p : Option Addr} {xs news z : List Value} [T : TySl X.P t e size] [Te : Ty X.P e size g] [B : TyBy X.P e bytes] [Z : TyZ X.P e z] (hlt : Nat.blt d X.n = true)
    (hx : ev l x = some (.slice p n cap)) (hy : ev l y = some (.slice (some ⟨b, o, none⟩) m c)) (hown : Own e size p n cap xs Hs) (hs : H.Perm (Hs ++ R0)) (hnews : Lies H b o news) (hl : news.length = m * size)
    (h1 : ∀ u ∈ news, u.oneCell' = true) (h0 : 0 < m) (hfull : cap < n + m) (h63 : n + m ≤ maxLen) (hbytes : (n + m) * bytes ≤ 140737488355328) (hzk : z.length = size)
    (h : ∀ g cap' ys, cap' * size ≤ (xs ++ news ++ ys).length → n + m ≤ cap' → cap' ≤ maxLen → L X ops rest Q ((d, .slice (some ⟨g, 0, none⟩) (n + m) cap') :: l) ds ((g, .cells (xs ++ news ++ ys) e) :: H)) :
    L X ops ({ dst := some d, op := .call { callee := .builtin .append, args := #[x, y], argTypes := #[t, t] }, type := ty, pos, after, guard := none } :: rest) Q l ds H :=
  L_val rfl rfl hlt (fun _ e => by cases e) fun ρ hρ w hw => by
    obtain ⟨i, u, hi, hz, hsz, hby, hzc⟩ := infoOf Te B Z
    have hN := hnews w hw.has
    have hw1 := hw.perm hs
    have run : ∀ {v' : Value} {w' : World}, (Builtin.append_ #[t, t] ty #[.slice p n cap, .slice (some ⟨b, o, none⟩) m c]).run X.P w = .ok v' w' →
        (execOp ρ { dst := some d, op := .call { callee := .builtin .append, args := #[x, y], argTypes := #[t, t] }, type := ty, pos, after, guard := none }).run X.P w = .ok (.value v') w' := fun hr => by
      simp only [execOp, resolve, Sem.run_bind, Sem.run_pure, Result.andThen_ok, invoke]
      simp only [List.map_toArray, List.map_cons, List.map_nil, hρ x _ hx, hρ y _ hy, builtin, Sem.run_bind, hr, Result.andThen_ok, Sem.run_pure]
    have fresh : ∀ (old : Nat), ∃ ys : List Value, (xs.toArray ++ news.toArray ++ Builtin.zeroCells u.cells (grownCap w (n + m) old e - (n + m))) = (xs ++ news ++ ys).toArray ∧ (xs ++ news ++ ys).length = grownCap w (n + m) old e * size := fun old => by
      refine ⟨(Builtin.zeroCells u.cells (grownCap w (n + m) old e - (n + m))).toList, by simp, ?_⟩
      have hge := grownCap_ge w (n + m) old e
      have h2 := size_zeroCells u.cells (grownCap w (n + m) old e - (n + m))
      have h3 : u.cells.size = size := by rw [hzc]; simpa using hzk
      rw [h3] at h2
      have h4 : (Builtin.zeroCells u.cells (grownCap w (n + m) old e - (n + m))).toList.length = (grownCap w (n + m) old e - (n + m)) * size := by rw [Array.length_toList]; exact h2
      rw [List.length_append, List.length_append, h4, hown.len, hl, ← Nat.add_mul, ← Nat.add_mul]
      congr 1
      omega
    cases hown with
    | nil =>
      obtain ⟨ys, e1, e2⟩ := fresh 0
      have hr := run_append_nil (P := X.P) w t ty e i u T.und hi hz ⟨b, o, none⟩ m c news (by rw [hsz]; exact hl) hN h0 (by simp only [maxLen] at h63; omega) (by rw [hby]; simp only [Nat.zero_add] at hbytes; omega)
      simp only [Nat.zero_add, List.nil_append] at e1 e2 hr h ⊢
      have e0 : (news.toArray ++ Builtin.zeroCells u.cells (grownCap w m 0 e - m)) = (news ++ ys).toArray := by rw [← e1]; simp
      rw [e0] at hr
      refine ⟨_, _, _, run hr, ?_, h _ _ ys (Nat.le_of_eq e2.symm) (grownCap_ge w m 0 e) (grownCap_le_maxLen w m 0 e (by simpa using h63))⟩
      have := (hw.drew).alloc (.cells (news ++ ys) e)
      simpa [Blk.obj] using this
    | blk hxl hcl hnc hcm =>
      rename_i g0 ys0
      have hg := hw1.has.rd g0 (.cells (xs ++ ys0) e) (by simp)
      simp only [Blk.obj] at hg
      obtain ⟨ys, e1, e2⟩ := fresh cap
      have holds : ∀ j v, xs[j]? = some v → w.cell? ((⟨g0, 0, none⟩ : Addr).add j) = some v := fun j v hj => by
        rw [addr_add, cell_of_row w g0 (0 + j) _ e _ hg]
        rw [Nat.zero_add]
        simp only [List.getElem?_toArray]
        rw [List.getElem?_append_left (List.getElem?_eq_some_iff.1 hj).1]
        exact hj
      have hr := run_append_grow (P := X.P) w t ty e i u T.und hi hz ⟨g0, 0, none⟩ n cap xs (by rw [hsz]; exact hxl) holds ⟨b, o, none⟩ m c news (by rw [hsz]; exact hl) hN hfull (by simp only [maxLen] at h63; omega) (growslice_fits (by omega) (by rw [hby]; exact hbytes))
      rw [e1] at hr
      refine ⟨_, _, _, run hr, ?_, h _ _ ys (Nat.le_of_eq e2.symm) (grownCap_ge w (n + m) cap e) (grownCap_le_maxLen w (n + m) cap e h63)⟩
      have := (hw.drew).alloc (.cells (xs ++ news ++ ys) e)
      simpa [Blk.obj] using this
/-- there is room -/
theorem L_appendRoom {x y : Operand} {t e size n cap m c b o g0 : Nat} {g : Bool} {H' : Hp} {xs ys news : List Value} [T : TySl X.P t e size] [Te : Ty X.P e size g] (hlt : Nat.blt d X.n = true)
    (hx : ev l x = some (.slice (some ⟨g0, 0, none⟩) n cap)) (hy : ev l y = some (.slice (some ⟨b, o, none⟩) m c)) (hp : Rep H g0 (.cells (xs ++ ys) e) (.cells (xs ++ news ++ ys.drop news.length) e) H') (hxl : xs.length = n * size) (hnews : Lies H b o news) (hl : news.length = m * size)
    (h1 : ∀ u ∈ news, u.oneCell' = true) (hroom : n + m ≤ cap) (hcl : cap * size ≤ (xs ++ ys).length)
    (h : L X ops rest Q ((d, .slice (some ⟨g0, 0, none⟩) (n + m) cap) :: l) ds H') :
    L X ops ({ dst := some d, op := .call { callee := .builtin .append, args := #[x, y], argTypes := #[t, t] }, type := ty, pos, after, guard := none } :: rest) Q l ds H :=
  L_val rfl rfl hlt (fun _ e => by cases e) fun ρ hρ w hw => by
    obtain ⟨i, hi, hsz⟩ : ∃ i, X.P.info? e = some i ∧ i.size = size := by
      have := Te.size
      cases hq : X.P.info? e with
      | none => simp [hq] at this
      | some i => simp [hq] at this; exact ⟨i, rfl, this⟩
    have hN := hnews w hw.has
    have hg := hw.has.rd _ _ hp.mem
    simp only [Blk.obj] at hg
    have hfit : n * i.size + news.length ≤ (xs ++ ys).toArray.size := by rw [hl, hsz, List.size_toArray, ← Nat.add_mul]; exact Nat.le_trans (Nat.mul_le_mul_right _ hroom) hcl
    have hr := run_append_room (P := X.P) w t ty e i T.und hi g0 n cap _ hg ⟨b, o, none⟩ m c news (by rw [hsz]; exact hl) hN h1 hroom hfit
    have e3 : ((xs ++ ys).toArray.toList.take (n * i.size) ++ news ++ (xs ++ ys).toArray.toList.drop (n * i.size + news.length)) = xs ++ news ++ (ys.drop news.length) := by
      rw [hsz, ← hxl]
      simp [List.drop_append]
    rw [e3] at hr
    refine ⟨_, w.setRow g0 (xs ++ news ++ ys.drop news.length).toArray, H', ?_, ?_, h⟩
    · simp only [execOp, resolve, Sem.run_bind, Sem.run_pure, Result.andThen_ok, invoke]
      simp only [List.map_toArray, List.map_cons, List.map_nil, hρ x _ hx, hρ y _ hy, builtin, Sem.run_bind, hr, Result.andThen_ok, Sem.run_pure]
    · refine hw.rep hp rfl rfl rfl (by simp [World.setRow]) (setRow_heap w g0 _ _ e _ hg) (fun k hk => ?_)
      simp only [World.setRow, Array.getElem?_modify]
      rw [if_neg (fun e => hk e.symm)]
/-- a slice of none that is not nil -/
theorem L_buildSl0 {t e k : Nat} [T : TySl X.P t e k] (hlt : Nat.blt d X.n = true)
    (h : ∀ b, L X ops rest Q ((d, .slice (some ⟨b, 0, none⟩) 0 0) :: l) ds ((b, .cells [] e) :: H)) :
    L X ops ({ dst := some d, op := .buildSlice t 0 #[], type := ty, pos, after, guard := none } :: rest) Q l ds H :=
  L_val rfl rfl hlt (fun _ e => by cases e) fun ρ hρ w hw => by
    refine ⟨_, _, _, ?_, hw.alloc (.cells [] e), h _⟩
    simp only [execOp, Instr.buildSlice, Sem.run_bind, run_underlying T.und w, Result.andThen_ok, T.runSize w, Nat.zero_mul]
    have er : (Array.map (fun _ => (default : Value)) (Array.range 0)) = #[] := by apply Array.ext'; simp
    simp [Instr.fill, newRow, Blk.obj, Sem.run_bind]
    rw [er]
theorem P_eqNilSl {x y : Operand} {t u e k n c : Nat} {p : Option Addr} [T : TySl X.P t e k] (hx : ev l x = some (.slice p n c)) (hy : ev l y = some (.slice none 0 0)) :
    PureOp X H l { dst := some d, op := .binOp .eql t x y u, type := ty, pos, after, guard := none } (.bool p.isNone) :=
  P_binq hx hy (fun w => by simp [eqGuard]) (fun w => Lib.run_eql_slice_nil w t e p n c 0 0 T.und)
theorem L_val0 {o : Oper} (hg : o.guard = none) (hd : o.dst = none) (hdef : ∀ c, o.op ≠ .defer c)
    (h : ∀ ρ, Fits l ρ → Runs X H (execOp ρ o) (fun _ H' => L X ops rest Q l ds H')) : L X ops (o :: rest) Q l ds H := by
  intro a w ha hw
  refine wpListIn_plain hg fun K hK => ⟨fun _ _ => trivial, ?_⟩
  obtain ⟨v, w', H', hr, hn, hl⟩ := h a.eval (fun x v hx => ha.eval hx) w hw
  have e : (Oper.semAt (fe X.ro).round a.eval o).run X.P w = .ok (.value v) w' := by rw [semAt_eq hdef]; exact hr
  rw [e]
  show K (a.put o.dst v) w'
  rw [hd]
  exact hK _ _ (hl _ _ ha hn)
/-- cells that are set to zero -/
theorem L_clear {x : Operand} {t e size c b o : Nat} {g : Bool} {H' : Hp} {Lb Ln z : List Value} [T : TySl X.P t e size] [Te : Ty X.P e size g] [Z : TyZ X.P e z]
    (hx : ev l x = some (.slice (some ⟨b, o, none⟩) 1 c)) (hp : Rep H b (.cells Lb e) (.cells Ln e) H') (hzk : z.length = size) (h1 : ∀ u ∈ z, u.oneCell' = true)
    (hn : Lb.take o ++ z ++ Lb.drop (o + size) = Ln) (hb : o + size ≤ Lb.length) (h : L X ops rest Q l ds H') :
    L X ops ({ dst := none, op := .call { callee := .builtin .clear, args := #[x], argTypes := #[t] }, type := ty, pos, after, guard := none } :: rest) Q l ds H :=
  L_val0 rfl rfl (fun _ e => by cases e) fun ρ hρ w hw => by
    have hg := hw.has.rd _ _ hp.mem
    simp only [Blk.obj] at hg
    obtain ⟨u, hz1, hz2⟩ : ∃ u, (zeroValue e).run X.P w = .ok u w ∧ u.cells = z.toArray := by
      have hz := Z.zero
      cases hq : X.P.info? e with
      | none => simp [hq] at hz
      | some i =>
        cases hi : i.zero with
        | none => simp [hq, hi] at hz
        | some u => simp [hq, hi] at hz; exact ⟨u, by simp [zeroValue, typeInfo, hq, hi], hz⟩
    have hzc : (Builtin.zeroCells z.toArray 1).toList = z := by
      unfold Builtin.zeroCells
      rw [Nat.one_mul, Array.toList_map, Array.toList_range]
      apply List.ext_getElem
      · simp
      · intro i h1 h2
        simp only [List.getElem_map, List.getElem_range, List.size_toArray]
        rw [Nat.mod_eq_of_lt h2, getElem!_pos z.toArray i (by simpa using h2)]
        rfl
    have hst := run_storeCells_at X.P b o e z 0 Lb.toArray w hg (by simp; omega) h1
    simp only [Nat.add_zero, List.toList_toArray] at hst
    rw [← hzk] at hb hn
    refine ⟨.tuple #[], w.setRow b Ln.toArray, H', ?_, ?_, h⟩
    · have hc : (Builtin.clear_ #[t] ty #[.slice (some ⟨b, o, none⟩) 1 c]).run X.P w = .ok (.tuple #[]) (w.setRow b Ln.toArray) := by
        rw [← hn]
        simp [Builtin.clear_, run_underlying T.und w, hz1, hz2, hzc, hst]
      simp only [execOp, resolve, Sem.run_bind, Sem.run_pure, Result.andThen_ok, invoke]
      simp only [List.map_toArray, List.map_cons, List.map_nil, hρ x _ hx, builtin, Sem.run_bind, hc, Result.andThen_ok, Sem.run_pure]
    · refine hw.rep hp rfl rfl rfl (by simp [World.setRow]) (setRow_heap w b Lb.toArray _ e _ hg) (fun k hk => ?_)
      simp only [World.setRow, Array.getElem?_modify]
      rw [if_neg (fun e => hk e.symm)]
end rules
end Go.Proofs.YtcpfmjlceoiofaaGreatDoor

/-
  Frames, in plain lists: no program.
-/
namespace Go.Proofs.YtcpfmjlceoiofaaGreatDoor
open Go.RowKit
structure Frm where
  refs : Nat
  bytes : List UInt8
def Frm.cells (f : Frm) : List Value := .int .i64 (f.refs : Int) :: bts f.bytes
def flat (M : List Frm) : List Value := M.flatMap Frm.cells
def Wf64 (M : List Frm) : Prop := ∀ f ∈ M, f.bytes.length = 64
theorem flat_length {M : List Frm} (h : Wf64 M) : (flat M).length = M.length * 65 := by
  induction M with
  | nil => rfl
  | cons f M ih =>
    have hf := h f (by simp)
    have e : flat (f :: M) = f.cells ++ flat M := by simp [flat]
    rw [e, List.length_append, ih (fun g hg => h g (by simp [hg])), Frm.cells, List.length_cons, List.length_map, hf, List.length_cons]
    omega
theorem split_at {M : List Frm} {i : Nat} {f : Frm} (h : M[i]? = some f) : ∃ A B, M = A ++ f :: B ∧ A.length = i := by
  obtain ⟨hl, rfl⟩ := List.getElem?_eq_some_iff.1 h
  exact ⟨M.take i, M.drop (i + 1), by rw [← List.drop_eq_getElem_cons hl, List.take_append_drop], by simp; omega⟩
theorem flat_split (A B : List Frm) (f : Frm) : flat (A ++ f :: B) = flat A ++ (f.cells ++ flat B) := by simp [flat]
theorem set_split (A B : List Frm) (f g : Frm) : (A ++ f :: B).set A.length g = A ++ g :: B := by simp
theorem wf_left {A B : List Frm} (h : Wf64 (A ++ B)) : Wf64 A := fun f hf => h f (by simp [hf])
theorem flat_refs {M : List Frm} {i : Nat} {f : Frm} (h : Wf64 M) (hi : M[i]? = some f) : (flat M)[i * 65]? = some (.int .i64 (f.refs : Int)) := by
  obtain ⟨A, B, rfl, rfl⟩ := split_at hi
  rw [flat_split, List.getElem?_append_right (by rw [flat_length (wf_left h)]; exact Nat.le_refl _), flat_length (wf_left h)]
  simp [Frm.cells]
theorem flat_bytes {M : List Frm} {i a n : Nat} {f : Frm} (h : Wf64 M) (hi : M[i]? = some f) (hb : a + n ≤ 64) : ((flat M).drop (i * 65 + 1 + a)).take n = bts ((f.bytes.drop a).take n) := by
  obtain ⟨A, B, rfl, rfl⟩ := split_at hi
  have hf := h f (by simp)
  rw [flat_split, List.drop_append, flat_length (wf_left h)]
  have e1 : List.drop (A.length * 65 + 1 + a) (flat A) = [] := List.drop_of_length_le (by rw [flat_length (wf_left h)]; omega)
  rw [e1, List.nil_append, show A.length * 65 + 1 + a - A.length * 65 = a + 1 by omega, Frm.cells, List.cons_append, List.drop_succ_cons]
  rw [List.drop_append_of_le_length (by simp [hf]; omega), List.take_append_of_le_length (by simp [hf]; omega)]
  simp only [bts, List.map_take, List.map_drop]
theorem flat_setrefs {M : List Frm} {i r : Nat} {f : Frm} (h : Wf64 M) (hi : M[i]? = some f) : (flat M).set (i * 65) (.int .i64 (r : Int)) = flat (M.set i { f with refs := r }) := by
  obtain ⟨A, B, rfl, rfl⟩ := split_at hi
  rw [set_split, flat_split, flat_split, List.set_append_right _ _ (by rw [flat_length (wf_left h)]; exact Nat.le_refl _), flat_length (wf_left h)]
  simp [Frm.cells]
/-- bytes with others written from a place on -/
def overw (bs : List UInt8) (a : Nat) (s : List UInt8) : List UInt8 := bs.take a ++ s ++ bs.drop (a + s.length)
theorem overw_length {bs s : List UInt8} {a : Nat} (h : a + s.length ≤ bs.length) : (overw bs a s).length = bs.length := by simp [overw]; omega
theorem flat_over {M : List Frm} {i a : Nat} {f : Frm} {s : List UInt8} (h : Wf64 M) (hi : M[i]? = some f) (hb : a + s.length ≤ 64) :
    splice (flat M) (i * 65 + 1 + a) s.length (bts s) = flat (M.set i { f with bytes := overw f.bytes a s }) := by
  obtain ⟨A, B, rfl, rfl⟩ := split_at hi
  have hf := h f (by simp)
  rw [set_split, flat_split, flat_split]
  have hA := flat_length (wf_left h)
  simp only [splice, Frm.cells, overw]
  rw [List.take_append, List.drop_append, hA]
  have e1 : List.take (A.length * 65 + 1 + a) (flat A) = flat A := List.take_of_length_le (by rw [hA]; omega)
  have e2 : List.drop (A.length * 65 + 1 + a + s.length) (flat A) = [] := List.drop_of_length_le (by rw [hA]; omega)
  rw [e1, e2, List.nil_append, show A.length * 65 + 1 + a - A.length * 65 = a + 1 by omega, show A.length * 65 + 1 + a + s.length - A.length * 65 = (a + s.length) + 1 by omega]
  rw [List.cons_append, List.take_succ_cons, List.drop_succ_cons]
  rw [List.take_append_of_le_length (by simp [hf]; omega), List.drop_append_of_le_length (by simp [hf]; omega)]
  simp only [bts, List.map_append, List.map_take, List.map_drop, List.append_assoc, List.cons_append]
def WfM (M : List Frm) : Prop := (∀ f ∈ M, f.bytes.length = 64 ∧ f.refs ≤ 1000) ∧ 0 < M.length ∧ M.length ≤ 256
theorem WfM.wf {M : List Frm} (h : WfM M) : Wf64 M := fun f hf => (h.1 f hf).1
theorem WfM.get {M : List Frm} (h : WfM M) {i : Nat} {f : Frm} (hi : M[i]? = some f) : f.bytes.length = 64 ∧ f.refs ≤ 1000 := h.1 f (List.mem_of_getElem? hi)
theorem WfM.set {M : List Frm} (h : WfM M) {i : Nat} {f : Frm} (hf : f.bytes.length = 64 ∧ f.refs ≤ 1000) : WfM (M.set i f) :=
  ⟨fun g hg => by
    rcases List.mem_or_eq_of_mem_set hg with hg | rfl
    · exact h.1 g hg
    · exact hf, by simpa using h.2⟩
theorem lt_of_get {α : Type} {M : List α} {i : Nat} {f : α} (hi : M[i]? = some f) : i < M.length := (List.getElem?_eq_some_iff.1 hi).1
/-- where a memory lies: its struct, its frames; and their types -/
structure MemP where
  p : Nat
  b : Nat
  Tp : TypeId
  Tb : TypeId
abbrev MemP.ptr (m : MemP) : Value := .pointer (some ⟨m.p, 0, none⟩)
abbrev memH (m : MemP) (M : List Frm) : Hp := [(m.p, .cells [.slice (some ⟨m.b, 0, none⟩) M.length M.length] m.Tp), (m.b, .cells (flat M) m.Tb)]
/-! ### what the functions do, in plain words -/
def zero64 : List UInt8 := List.replicate 64 0
def getM (M : List Frm) (at_ : Int) : Option Frm := if 0 ≤ at_ then (M[at_.toNat]?).bind fun f => if 0 < f.refs then some f else none else none
theorem getM_some {M : List Frm} {at_ : Int} {f : Frm} (h : getM M at_ = some f) : ∃ i : Nat, at_ = (i : Int) ∧ M[i]? = some f ∧ 0 < f.refs := by
  unfold getM at h
  split at h
  · rename_i h0
    cases hm : M[at_.toNat]? with
    | none => simp [hm] at h
    | some g =>
      simp only [hm, Option.bind_some] at h
      split at h
      · simp at h; subst h; exact ⟨at_.toNat, by omega, hm, by assumption⟩
      · cases h
  · cases h
theorem getM_none {M : List Frm} {i : Nat} {f : Frm} (h : getM M (i : Int) = none) (hi : M[i]? = some f) : f.refs = 0 := by
  simp [getM, hi] at h; exact h
/-- the first frame that nobody has -/
def firstFree (M : List Frm) : Option Nat := M.findIdx? (fun f => f.refs == 0)
def allocM (M : List Frm) : Option (Nat × List Frm) := (firstFree M).map fun i => (i, M.set i ⟨1, zero64⟩)
def shareM (M : List Frm) (at_ : Int) : Int × List Frm :=
  match getM M at_ with
  | none => (10, M)
  | some f => if f.refs = 1000 then (2, M) else (0, M.set at_.toNat { f with refs := f.refs + 1 })
def freeM (M : List Frm) (at_ : Int) : Int × List Frm :=
  match getM M at_ with
  | none => (10, M)
  | some f => (0, M.set at_.toNat { f with refs := f.refs - 1 })
def readM (M : List Frm) (at_ from_ n : Int) : List UInt8 × Int :=
  match getM M at_ with
  | none => ([], 10)
  | some f => if 0 ≤ from_ ∧ 0 ≤ n ∧ from_ + n ≤ 64 then ((f.bytes.drop from_.toNat).take n.toNat, 0) else ([], 2)
def writeM (M : List Frm) (at_ from_ : Int) (s : List UInt8) : Int × List Frm :=
  match getM M at_ with
  | none => (10, M)
  | some f => if 0 ≤ from_ ∧ from_ + s.length ≤ 64 then (0, M.set at_.toNat { f with bytes := overw f.bytes from_.toNat s }) else (2, M)
def refsM (M : List Frm) (at_ : Int) : Nat :=
  match getM M at_ with
  | none => 0
  | some f => f.refs
def leftM (M : List Frm) : Nat := M.countP (fun f => f.refs == 0)
theorem shareM_wf {M : List Frm} {at_ : Int} (h : WfM M) : WfM (shareM M at_).2 := by
  unfold shareM
  split
  · exact h
  · rename_i f hf
    obtain ⟨i, rfl, hi, hr⟩ := getM_some hf
    have := h.get hi
    split
    · exact h
    · exact h.set ⟨this.1, by simp; omega⟩
theorem freeM_wf {M : List Frm} {at_ : Int} (h : WfM M) : WfM (freeM M at_).2 := by
  unfold freeM
  split
  · exact h
  · rename_i f hf
    obtain ⟨i, rfl, hi, hr⟩ := getM_some hf
    have := h.get hi
    exact h.set ⟨this.1, by simp; omega⟩
theorem writeM_wf {M : List Frm} {at_ from_ : Int} {s : List UInt8} (h : WfM M) : WfM (writeM M at_ from_ s).2 := by
  unfold writeM
  split
  · exact h
  · rename_i f hf
    obtain ⟨i, rfl, hi, hr⟩ := getM_some hf
    have := h.get hi
    split
    · exact h.set ⟨by simp only; rw [overw_length (by omega)]; exact this.1, this.2⟩
    · exact h
theorem allocM_wf {M : List Frm} (h : WfM M) {i : Nat} {M' : List Frm} (ha : allocM M = some (i, M')) : WfM M' := by
  unfold allocM at ha
  cases hf : firstFree M with
  | none => simp [hf] at ha
  | some j =>
    simp [hf] at ha
    obtain ⟨rfl, rfl⟩ := ha
    exact h.set ⟨by simp [zero64], by simp⟩
end Go.Proofs.YtcpfmjlceoiofaaGreatDoor

/-
  A part of the own walk through the code: what the functions named here compute.
-/
namespace Go.Proofs.YtcpfmjlceoiofaaGreatDoor
open Go.RowKit
attribute [local irreducible] W L QL PureOp thenQ blockQ retQ Spec IterOk YSpec roundQ scopeQ noGoQ
def inB (most n : Int) : Bool := decide (0 ≤ n) && decide (n ≤ most)
abbrev ints (xs : List Int) : List Value := xs.map (.int .i64)
theorem ints_get {xs : List Int} {k : Nat} (h : k < xs.length) : ∃ x, xs[k]? = some x ∧ (ints xs)[k]? = some (.int .i64 x) := ⟨xs[k], by simp [h], by simp [h]⟩
theorem all_take_succ {f : Int → Bool} {xs : List Int} {k : Nat} {x : Int} (h : xs[k]? = some x) (hk : (xs.take k).all f = true) (hx : f x = true) : (xs.take (k + 1)).all f = true := by
  obtain ⟨hl, rfl⟩ := List.getElem?_eq_some_iff.1 h
  rw [List.take_succ_eq_append_getElem hl]
  simp only [List.all_append, hk, List.all_cons, hx, List.all_nil, Bool.and_self]
theorem all_false_of {f : Int → Bool} {xs : List Int} {k : Nat} {x : Int} (h : xs[k]? = some x) (hx : f x = false) : xs.all f = false := by
  rw [List.all_eq_false]
  exact ⟨x, List.mem_of_getElem? h, by simpa using hx⟩
set_option maxHeartbeats 400000 in
theorem within_spec (most : Int) (g cap : Nat) (E : TypeId) (xs : List Int) (hl : xs.length ≤ 1000) :
    Spec Tryz.prog 192 [.int .i64 most, .slice (some ⟨g, 0, none⟩) xs.length cap] [(g, .cells (ints xs) E)] fun v H' => v = .bool (xs.all (inB most)) ∧ H' = [(g, .cells (ints xs) E)] := by
  refine Spec_body Tryz.func192 rfl Tryz.ntmps192 rfl (fun w0 => ?_)
  repeat (first | refine stepA ?_ | intro _)
  refine W_loop (fun k : Nat => [(0, .int .i64 most), (7, .slice (some ⟨g, 0, none⟩) xs.length cap), (8, .int .i64 xs.length), (9, .int .i64 k)]) (fun _ => [(g, .cells (ints xs) E)])
    (fun k => k ≤ xs.length ∧ (xs.take k).all (inB most) = true) (fun k => xs.length - k) 0 ⟨by omega, by simp⟩ sublA subA ?_
  rintro k ⟨hk, hall⟩
  by_cases hlt : k < xs.length
  · obtain ⟨x, hx, hc⟩ := ints_get hlt
    by_cases h0 : 0 ≤ x
    · by_cases h1 : x ≤ most
      · repeat (first | refine stepA ?_ | intro _)
        (first | (refine ldA ?_; refine ⟨_, hc, ?_⟩) | (refine qldA ?_; refine ⟨_, hc, ?_⟩) | skip)
        repeat (first | refine stepA ?_ | intro _)
        exact ⟨rfl, k + 1, ⟨by omega, all_take_succ hx hall (by simp [inB, h0, h1])⟩, by omega, sublA, subA⟩
      · repeat (first | refine stepA ?_ | intro _)
        (first | (refine ldA ?_; refine ⟨_, hc, ?_⟩) | (refine qldA ?_; refine ⟨_, hc, ?_⟩) | skip)
        repeat (first | refine stepA ?_ | intro _)
        (first | refine retA ?_ | refine retB ?_); exact ⟨_, ⟨by rw [all_false_of hx (by simp [inB, h1])]; rfl, rfl⟩, subA⟩
    · repeat (first | refine stepA ?_ | intro _)
      (first | (refine ldA ?_; refine ⟨_, hc, ?_⟩) | (refine qldA ?_; refine ⟨_, hc, ?_⟩) | skip)
      repeat (first | refine stepA ?_ | intro _)
      (first | refine retA ?_ | refine retB ?_); exact ⟨_, ⟨by rw [all_false_of hx (by simp [inB, h0])]; rfl, rfl⟩, subA⟩
  · repeat (first | refine stepA ?_ | intro _)
    (first | refine retA ?_ | refine retB ?_); exact ⟨_, ⟨by rw [← List.take_of_length_le (show xs.length ≤ k by omega), hall]; rfl, rfl⟩, subA⟩
end Go.Proofs.YtcpfmjlceoiofaaGreatDoor

/-
  A part of the own walk through the code: what the functions named here compute.
-/
namespace Go.Proofs.YtcpfmjlceoiofaaGreatDoor
open Go.RowKit
attribute [local irreducible] W L QL PureOp thenQ blockQ retQ Spec IterOk YSpec roundQ scopeQ noGoQ
set_option maxHeartbeats 400000
theorem isUsed_spec (b o : Nat) (Tb : TypeId) (Lb : List Value) (r : Nat) (h : Lb[o]? = some (.int .i64 (r : Int))) :
    Spec Tryz.prog 91 [.pointer (some ⟨b, o, none⟩)] [(b, .cells Lb Tb)] fun v H' => v = .bool (decide (0 < r)) ∧ H' = [(b, .cells Lb Tb)] := by
  refine Spec_body Tryz.func91 rfl Tryz.ntmps91 rfl (fun w0 => ?_)
  by_cases hr : 0 < r
  all_goals
    repeat (first | refine stepA ?_ | intro _)
    (first | (refine ldA ?_; refine ⟨_, h, ?_⟩) | (refine qldA ?_; refine ⟨_, h, ?_⟩) | skip)
    repeat (first | refine stepA ?_ | intro _)
    (first | refine retA ?_ | refine retB ?_); exact ⟨_, ⟨by simp [resVal, hr], rfl⟩, subA⟩
section used
variable (m : MemP) {M : List Frm}
theorem used_ok {i : Nat} {f : Frm} (hM : WfM M) (hi : M[i]? = some f) (hr : 0 < f.refs) :
    Spec Tryz.prog 191 [m.ptr, .int .i64 (i : Int)] (memH m M) fun v H' => v = .tuple #[.pointer (some ⟨m.b, i * 65, none⟩), .int .i64 0] ∧ H' = memH m M := by
  have hlt := lt_of_get hi
  have hml := hM.2
  have hin : [(i : Int)].all (inB ((M.length : Int) - 1)) = true := by simp [inB]; omega
  refine Spec_body Tryz.func191 rfl Tryz.ntmps191 rfl (fun w0 => ?_)
  repeat (first | refine stepA ?_ | intro _)
  refine callA ?_; refine ⟨_, _, within_spec _ _ _ 3 [(i : Int)] (by simp), _, cutA, ?_⟩
  rintro v H' ⟨rfl, rfl⟩
  rw [hin]
  repeat (first | refine stepA ?_ | intro _)
  refine callA ?_; refine ⟨_, _, isUsed_spec _ _ m.Tb _ f.refs (flat_refs hM.wf hi), _, cutA, ?_⟩
  rintro v H' ⟨rfl, rfl⟩
  simp only [hr, decide_true]
  repeat (first | refine stepA ?_ | intro _)
  (first | refine retA ?_ | refine retB ?_); exact ⟨_, ⟨rfl, rfl⟩, subA⟩
theorem used_no (hM : WfM M) {at_ : Int} (h : getM M at_ = none) :
    Spec Tryz.prog 191 [m.ptr, .int .i64 at_] (memH m M) fun v H' => v = .tuple #[.pointer none, .int .i64 10] ∧ H' = memH m M := by
  have hml := hM.2
  refine Spec_body Tryz.func191 rfl Tryz.ntmps191 rfl (fun w0 => ?_)
  by_cases hin : 0 ≤ at_ ∧ at_ < M.length
  · obtain ⟨i, rfl⟩ : ∃ i : Nat, at_ = i := ⟨at_.toNat, by omega⟩
    obtain ⟨f, hi⟩ : ∃ f, M[i]? = some f := ⟨M[i], by simp⟩
    have hr := getM_none h hi
    have hin : [(i : Int)].all (inB ((M.length : Int) - 1)) = true := by simp [inB]; omega
    repeat (first | refine stepA ?_ | intro _)
    refine callA ?_; refine ⟨_, _, within_spec _ _ _ 3 [(i : Int)] (by simp), _, cutA, ?_⟩
    rintro v H' ⟨rfl, rfl⟩
    rw [hin]
    repeat (first | refine stepA ?_ | intro _)
    refine callA ?_; refine ⟨_, _, isUsed_spec _ _ m.Tb _ f.refs (flat_refs hM.wf hi), _, cutA, ?_⟩
    rintro v H' ⟨rfl, rfl⟩
    simp only [hr, Nat.lt_irrefl, decide_false]
    repeat (first | refine stepA ?_ | intro _)
    (first | refine retA ?_ | refine retB ?_); exact ⟨_, ⟨rfl, rfl⟩, subA⟩
  · have hin : [at_].all (inB ((M.length : Int) - 1)) = false := by simp [inB]; omega
    repeat (first | refine stepA ?_ | intro _)
    refine callA ?_; refine ⟨_, _, within_spec _ _ _ 3 [at_] (by simp), _, cutA, ?_⟩
    rintro v H' ⟨rfl, rfl⟩
    rw [hin]
    repeat (first | refine stepA ?_ | intro _)
    (first | refine retA ?_ | refine retB ?_); exact ⟨_, ⟨rfl, rfl⟩, subA⟩
end used
end Go.Proofs.YtcpfmjlceoiofaaGreatDoor

/-
  A part of the own walk through the code: what the functions named here compute.
-/
namespace Go.Proofs.YtcpfmjlceoiofaaGreatDoor
open Go.RowKit
attribute [local irreducible] W L QL PureOp thenQ blockQ retQ Spec IterOk YSpec roundQ scopeQ noGoQ
set_option maxHeartbeats 400000
section
variable (m : MemP) {M : List Frm}
/-! ### Share -/
theorem share_spec (hM : WfM M) (at_ : Int) :
    Spec Tryz.prog 308 [m.ptr, .int .i64 at_] (memH m M) fun v H' => v = .int .i64 (shareM M at_).1 ∧ H' = memH m (shareM M at_).2 := by
  refine Spec_body Tryz.func308 rfl Tryz.ntmps308 rfl (fun w0 => ?_)
  cases hg : getM M at_ with
  | none =>
    have e : shareM M at_ = (10, M) := by simp [shareM, hg]
    rw [e]
    repeat (first | refine stepA ?_ | intro _)
    refine callA ?_; refine ⟨_, _, used_no m hM hg, _, cutA, ?_⟩
    rintro v H' ⟨rfl, rfl⟩
    repeat (first | refine stepA ?_ | intro _)
    (first | refine retA ?_ | refine retB ?_); exact ⟨_, ⟨rfl, rfl⟩, subA⟩
  | some f =>
    obtain ⟨i, rfl, hi, hr⟩ := getM_some hg
    have hw := hM.get hi
    have hl := lt_of_get hi
    by_cases h1000 : f.refs = 1000
    · have e : shareM M (i : Int) = (2, M) := by simp [shareM, hg, h1000]
      rw [e]
      repeat (first | refine stepA ?_ | intro _)
      refine callA ?_; refine ⟨_, _, used_ok m hM hi hr, _, cutA, ?_⟩
      rintro v H' ⟨rfl, rfl⟩
      repeat (first | refine stepA ?_ | intro _)
      (first | (refine ldA ?_; refine ⟨_, flat_refs hM.wf hi, ?_⟩) | (refine qldA ?_; refine ⟨_, flat_refs hM.wf hi, ?_⟩) | skip)
      repeat (first | refine stepA ?_ | intro _)
      (first | refine retA ?_ | refine retB ?_); exact ⟨_, ⟨rfl, rfl⟩, subA⟩
    · have e : shareM M (i : Int) = (0, M.set i { f with refs := f.refs + 1 }) := by simp [shareM, hg, h1000]
      rw [e]
      repeat (first | refine stepA ?_ | intro _)
      refine callA ?_; refine ⟨_, _, used_ok m hM hi hr, _, cutA, ?_⟩
      rintro v H' ⟨rfl, rfl⟩
      repeat (first | refine stepA ?_ | intro _)
      (first | (refine ldA ?_; refine ⟨_, flat_refs hM.wf hi, ?_⟩) | (refine qldA ?_; refine ⟨_, flat_refs hM.wf hi, ?_⟩) | skip)
      repeat (first | refine stepA ?_ | intro _)
      (first | (refine ldA ?_; refine ⟨_, flat_refs hM.wf hi, ?_⟩) | (refine qldA ?_; refine ⟨_, flat_refs hM.wf hi, ?_⟩) | skip)
      repeat (first | refine stepA ?_ | intro _)
      apply L_store1; (· exact evA); (· exact rfl); (· exact rfl); (· exact rfl); (· exact repA); (· exact flat_setrefs (r := f.refs + 1) hM.wf hi); (· rw [flat_length hM.wf]; omega)
      repeat (first | refine stepA ?_ | intro _)
      (first | refine retA ?_ | refine retB ?_); exact ⟨_, ⟨rfl, by simp only [memH, List.length_set]; rfl⟩, subA⟩
/-! ### Free -/
theorem free_spec (hM : WfM M) (at_ : Int) :
    Spec Tryz.prog 298 [m.ptr, .int .i64 at_] (memH m M) fun v H' => v = .int .i64 (freeM M at_).1 ∧ H' = memH m (freeM M at_).2 := by
  refine Spec_body Tryz.func298 rfl Tryz.ntmps298 rfl (fun w0 => ?_)
  cases hg : getM M at_ with
  | none =>
    have e : freeM M at_ = (10, M) := by simp [freeM, hg]
    rw [e]
    repeat (first | refine stepA ?_ | intro _)
    refine callA ?_; refine ⟨_, _, used_no m hM hg, _, cutA, ?_⟩
    rintro v H' ⟨rfl, rfl⟩
    repeat (first | refine stepA ?_ | intro _)
    (first | refine retA ?_ | refine retB ?_); exact ⟨_, ⟨rfl, rfl⟩, subA⟩
  | some f =>
    obtain ⟨i, rfl, hi, hr⟩ := getM_some hg
    have hw := hM.get hi
    have hl := lt_of_get hi
    have e : freeM M (i : Int) = (0, M.set i { f with refs := f.refs - 1 }) := by simp [freeM, hg]
    have e1 : ((f.refs - 1 : Nat) : Int) = (f.refs : Int) - 1 := by omega
    have hset : (flat M).set (i * 65) (.int .i64 ((f.refs : Int) - 1)) = flat (M.set i { f with refs := f.refs - 1 }) := by rw [← e1]; exact flat_setrefs hM.wf hi
    rw [e]
    repeat (first | refine stepA ?_ | intro _)
    refine callA ?_; refine ⟨_, _, used_ok m hM hi hr, _, cutA, ?_⟩
    rintro v H' ⟨rfl, rfl⟩
    repeat (first | refine stepA ?_ | intro _)
    (first | (refine ldA ?_; refine ⟨_, flat_refs hM.wf hi, ?_⟩) | (refine qldA ?_; refine ⟨_, flat_refs hM.wf hi, ?_⟩) | skip)
    repeat (first | refine stepA ?_ | intro _)
    apply L_store1; (· exact evA); (· exact rfl); (· exact rfl); (· exact rfl); (· exact repA); (· exact hset); (· rw [flat_length hM.wf]; omega)
    repeat (first | refine stepA ?_ | intro _)
    (first | refine retA ?_ | refine retB ?_); exact ⟨_, ⟨rfl, by simp only [memH, List.length_set]; rfl⟩, subA⟩
/-! ### Refs -/
theorem refs_spec (hM : WfM M) (at_ : Int) :
    Spec Tryz.prog 188 [m.ptr, .int .i64 at_] (memH m M) fun v H' => v = .int .i64 (refsM M at_ : Nat) ∧ H' = memH m M := by
  refine Spec_body Tryz.func188 rfl Tryz.ntmps188 rfl (fun w0 => ?_)
  cases hg : getM M at_ with
  | none =>
    have e : refsM M at_ = 0 := by simp [refsM, hg]
    rw [e]
    repeat (first | refine stepA ?_ | intro _)
    refine callA ?_; refine ⟨_, _, used_no m hM hg, _, cutA, ?_⟩
    rintro v H' ⟨rfl, rfl⟩
    repeat (first | refine stepA ?_ | intro _)
    (first | refine retA ?_ | refine retB ?_); exact ⟨_, ⟨rfl, rfl⟩, subA⟩
  | some f =>
    obtain ⟨i, rfl, hi, hr⟩ := getM_some hg
    have hw := hM.get hi
    have hl := lt_of_get hi
    have e : refsM M (i : Int) = f.refs := by simp [refsM, hg]
    rw [e]
    repeat (first | refine stepA ?_ | intro _)
    refine callA ?_; refine ⟨_, _, used_ok m hM hi hr, _, cutA, ?_⟩
    rintro v H' ⟨rfl, rfl⟩
    repeat (first | refine stepA ?_ | intro _)
    (first | (refine ldA ?_; refine ⟨_, flat_refs hM.wf hi, ?_⟩) | (refine qldA ?_; refine ⟨_, flat_refs hM.wf hi, ?_⟩) | skip)
    repeat (first | refine stepA ?_ | intro _)
    (first | refine retA ?_ | refine retB ?_); exact ⟨_, ⟨rfl, rfl⟩, subA⟩
end
end Go.Proofs.YtcpfmjlceoiofaaGreatDoor

/-
  A part of the own walk through the code: what the functions named here compute.
-/
namespace Go.Proofs.YtcpfmjlceoiofaaGreatDoor
open Go.RowKit
attribute [local irreducible] W L QL PureOp thenQ blockQ retQ Spec IterOk YSpec roundQ scopeQ noGoQ
set_option maxHeartbeats 400000
theorem read_cells {M : List Frm} {i a c : Nat} {f : Frm} (h : Wf64 M) (hi : M[i]? = some f) (hb : a + c ≤ 64) :
    ((flat M).drop (if 64 = a then i * 65 + 1 else i * 65 + 1 + a * 1)).take (a + c - a) = bts ((f.bytes.drop a).take c) := by
  rw [show a + c - a = c by omega]
  split
  · rename_i e
    obtain rfl : c = 0 := by omega
    simp
  · rw [Nat.mul_one]; exact flat_bytes h hi hb
theorem write_cells {M : List Frm} {i a : Nat} {f : Frm} {s : List UInt8} (h : Wf64 M) (hi : M[i]? = some f) (hb : a + s.length ≤ 64) :
    splice (flat M) (if 64 = a then i * 65 + 1 else i * 65 + 1 + a * 1) (min s.length (64 - a)) (bts (s.take (min s.length (64 - a)))) = flat (M.set i { f with bytes := overw f.bytes a s }) := by
  rw [show min s.length (64 - a) = s.length by omega, List.take_length]
  split
  · rename_i e
    obtain rfl : s = [] := List.eq_nil_of_length_eq_zero (by omega)
    have hf := h f (List.mem_of_getElem? hi)
    have e1 : overw f.bytes a [] = f.bytes := by simp [overw]
    rw [e1]
    obtain ⟨A, B, rfl, rfl⟩ := split_at hi
    rw [set_split]
    simp [splice]
  · rw [Nat.mul_one]; exact flat_over h hi hb
section
variable (m : MemP) {M : List Frm}
/-! ### Read -/
theorem read_spec (hM : WfM M) (at_ from_ n : Int) :
    Spec Tryz.prog 101 [m.ptr, .int .i64 at_, .int .i64 from_, .int .i64 n] (memH m M) fun v H' => v = .tuple #[str (readM M at_ from_ n).1, .int .i64 (readM M at_ from_ n).2] ∧ H' = memH m M := by
  refine Spec_body Tryz.func101 rfl Tryz.ntmps101 rfl (fun w0 => ?_)
  cases hg : getM M at_ with
  | none =>
    have e : readM M at_ from_ n = ([], 10) := by simp [readM, hg]
    rw [e]
    repeat (first | refine stepA ?_ | intro _)
    refine callA ?_; refine ⟨_, _, used_no m hM hg, _, cutA, ?_⟩
    rintro v H' ⟨rfl, rfl⟩
    repeat (first | refine stepA ?_ | intro _)
    (first | refine retA ?_ | refine retB ?_); exact ⟨_, ⟨rfl, rfl⟩, subA⟩
  | some f =>
    obtain ⟨i, rfl, hi, hr⟩ := getM_some hg
    have hw := hM.get hi
    have hl := lt_of_get hi
    by_cases hin : (0 ≤ from_ ∧ from_ ≤ 64) ∧ 0 ≤ n ∧ n ≤ 64
    · have hall : [from_, n].all (inB 64) = true := by simp [inB]; omega
      obtain ⟨a, rfl⟩ : ∃ a : Nat, from_ = a := ⟨from_.toNat, by omega⟩
      obtain ⟨c, rfl⟩ : ∃ c : Nat, n = c := ⟨n.toNat, by omega⟩
      by_cases hs : a + c ≤ 64
      · have e : readM M (i : Int) a c = ((f.bytes.drop a).take c, 0) := by simp [readM, hg]; omega
        rw [e]
        repeat (first | refine stepA ?_ | intro _)
        refine callA ?_; refine ⟨_, _, used_ok m hM hi hr, _, cutA, ?_⟩
        rintro v H' ⟨rfl, rfl⟩
        repeat (first | refine stepA ?_ | intro _)
        refine callA ?_; refine ⟨_, _, within_spec _ _ _ 3 [(a : Int), (c : Int)] (by simp), _, cutA, ?_⟩
        rintro v H' ⟨rfl, rfl⟩
        rw [hall]
        repeat (first | refine stepA ?_ | intro _)
        (first | (apply L_P; (· exact rfl); (· exact rfl)) | (apply QL_P; (· exact rfl))); (· (apply P_slArr; (· exact evA); (· exact Bound.nat rfl); (· exact Bound.of rfl (by omega : (a : Int) + (c : Int) = ((a + c : Nat) : Int))); (· omega)))
        repeat (first | refine stepA ?_ | intro _)
        (first | (apply L_P; (· exact rfl); (· exact rfl)) | (apply QL_P; (· exact rfl))); (· (apply P_bytesStr; (· exact evA); (· exact pullA); (· exact read_cells hM.wf hi hs); (· simp [hw]; omega)))
        repeat (first | refine stepA ?_ | intro _)
        (first | refine retA ?_ | refine retB ?_); exact ⟨_, ⟨rfl, rfl⟩, subA⟩
      · have e : readM M (i : Int) a c = ([], 2) := by simp [readM, hg]; omega
        rw [e]
        repeat (first | refine stepA ?_ | intro _)
        refine callA ?_; refine ⟨_, _, used_ok m hM hi hr, _, cutA, ?_⟩
        rintro v H' ⟨rfl, rfl⟩
        repeat (first | refine stepA ?_ | intro _)
        refine callA ?_; refine ⟨_, _, within_spec _ _ _ 3 [(a : Int), (c : Int)] (by simp), _, cutA, ?_⟩
        rintro v H' ⟨rfl, rfl⟩
        rw [hall]
        repeat (first | refine stepA ?_ | intro _)
        (first | refine retA ?_ | refine retB ?_); exact ⟨_, ⟨rfl, rfl⟩, subA⟩
    · have hall : [from_, n].all (inB 64) = false := by simp [inB]; omega
      have e : readM M (i : Int) from_ n = ([], 2) := by simp [readM, hg]; omega
      rw [e]
      repeat (first | refine stepA ?_ | intro _)
      refine callA ?_; refine ⟨_, _, used_ok m hM hi hr, _, cutA, ?_⟩
      rintro v H' ⟨rfl, rfl⟩
      repeat (first | refine stepA ?_ | intro _)
      refine callA ?_; refine ⟨_, _, within_spec _ _ _ 3 [from_, n] (by simp), _, cutA, ?_⟩
      rintro v H' ⟨rfl, rfl⟩
      rw [hall]
      repeat (first | refine stepA ?_ | intro _)
      (first | refine retA ?_ | refine retB ?_); exact ⟨_, ⟨rfl, rfl⟩, subA⟩
/-! ### Write -/
theorem write_spec (hM : WfM M) (at_ from_ : Int) (s : List UInt8) :
    Spec Tryz.prog 181 [m.ptr, .int .i64 at_, .int .i64 from_, str s] (memH m M) fun v H' => v = .int .i64 (writeM M at_ from_ s).1 ∧ H' = memH m (writeM M at_ from_ s).2 := by
  refine Spec_body Tryz.func181 rfl Tryz.ntmps181 rfl (fun w0 => ?_)
  cases hg : getM M at_ with
  | none =>
    have e : writeM M at_ from_ s = (10, M) := by simp [writeM, hg]
    rw [e]
    repeat (first | refine stepA ?_ | intro _)
    refine callA ?_; refine ⟨_, _, used_no m hM hg, _, cutA, ?_⟩
    rintro v H' ⟨rfl, rfl⟩
    repeat (first | refine stepA ?_ | intro _)
    (first | refine retA ?_ | refine retB ?_); exact ⟨_, ⟨rfl, rfl⟩, subA⟩
  | some f =>
    obtain ⟨i, rfl, hi, hr⟩ := getM_some hg
    have hw := hM.get hi
    have hl := lt_of_get hi
    by_cases hin : (0 ≤ from_ ∧ from_ ≤ 64) ∧ s.length ≤ 64
    · have hall : [from_, (s.length : Int)].all (inB 64) = true := by simp [inB]; omega
      obtain ⟨a, rfl⟩ : ∃ a : Nat, from_ = a := ⟨from_.toNat, by omega⟩
      by_cases hs : a + s.length ≤ 64
      · have e : writeM M (i : Int) a s = (0, M.set i { f with bytes := overw f.bytes a s }) := by simp [writeM, hg]; omega
        rw [e]
        repeat (first | refine stepA ?_ | intro _)
        refine callA ?_; refine ⟨_, _, used_ok m hM hi hr, _, cutA, ?_⟩
        rintro v H' ⟨rfl, rfl⟩
        repeat (first | refine stepA ?_ | intro _)
        refine callA ?_; refine ⟨_, _, within_spec _ _ _ 3 [(a : Int), (s.length : Int)] (by simp), _, cutA, ?_⟩
        rintro v H' ⟨rfl, rfl⟩
        rw [hall]
        repeat (first | refine stepA ?_ | intro _)
        (first | (apply L_P; (· exact rfl); (· exact rfl)) | (apply QL_P; (· exact rfl))); (· (apply P_slArr; (· exact evA); (· exact Bound.nat rfl); (· exact Bound.none); (· omega)))
        repeat (first | refine stepA ?_ | intro _)
        apply L_copyStr
        · exact rfl
        · exact evA
        · exact evA
        · exact repA
        · have h1 := flat_length hM.wf
          rw [h1]
          split <;> omega
        · exact write_cells hM.wf hi hs
        repeat (first | refine stepA ?_ | intro _)
        (first | refine retA ?_ | refine retB ?_); exact ⟨_, ⟨rfl, by simp only [memH, List.length_set]; rfl⟩, subA⟩
      · have e : writeM M (i : Int) a s = (2, M) := by simp [writeM, hg]; omega
        rw [e]
        repeat (first | refine stepA ?_ | intro _)
        refine callA ?_; refine ⟨_, _, used_ok m hM hi hr, _, cutA, ?_⟩
        rintro v H' ⟨rfl, rfl⟩
        repeat (first | refine stepA ?_ | intro _)
        refine callA ?_; refine ⟨_, _, within_spec _ _ _ 3 [(a : Int), (s.length : Int)] (by simp), _, cutA, ?_⟩
        rintro v H' ⟨rfl, rfl⟩
        rw [hall]
        repeat (first | refine stepA ?_ | intro _)
        (first | refine retA ?_ | refine retB ?_); exact ⟨_, ⟨rfl, rfl⟩, subA⟩
    · have hall : [from_, (s.length : Int)].all (inB 64) = false := by simp [inB]; omega
      have e : writeM M (i : Int) from_ s = (2, M) := by simp [writeM, hg]; omega
      rw [e]
      repeat (first | refine stepA ?_ | intro _)
      refine callA ?_; refine ⟨_, _, used_ok m hM hi hr, _, cutA, ?_⟩
      rintro v H' ⟨rfl, rfl⟩
      repeat (first | refine stepA ?_ | intro _)
      refine callA ?_; refine ⟨_, _, within_spec _ _ _ 3 [from_, (s.length : Int)] (by simp), _, cutA, ?_⟩
      rintro v H' ⟨rfl, rfl⟩
      rw [hall]
      repeat (first | refine stepA ?_ | intro _)
      (first | refine retA ?_ | refine retB ?_); exact ⟨_, ⟨rfl, rfl⟩, subA⟩
/-! ### New, Total -/
def newM (n : Nat) : List Frm := List.replicate n ⟨0, zero64⟩
theorem newM_wf {n : Nat} (h : 1 ≤ n ∧ n ≤ 256) : WfM (newM n) := ⟨fun f hf => by
  obtain ⟨_, rfl⟩ := List.mem_replicate.1 hf
  simp [zero64], by simp [newM]; omega⟩
theorem flat_newM (n : Nat) : flat (newM n) = (List.replicate n (Frm.cells ⟨0, zero64⟩)).flatten := by
  induction n with
  | zero => rfl
  | succ n ih =>
    have e : newM (n + 1) = ⟨0, zero64⟩ :: newM n := rfl
    rw [e, List.replicate_succ, List.flatten_cons, ← ih]
    rfl
theorem new_spec (n : Nat) (h : 1 ≤ n ∧ n ≤ 256) : Spec Tryz.prog 31 [.int .i64 (n : Int)] [] fun v H' => ∃ m : MemP, v = .tuple #[m.ptr, .int .i64 0] ∧ H' = memH m (newM n) := by
  refine Spec_body Tryz.func31 rfl Tryz.ntmps31 rfl (fun w0 => ?_)
  repeat (first | refine stepA ?_ | intro _)
  apply L_makeSl
  · exact rfl
  · exact evA
  · exact evA
  · omega
  · exact rfl
  · decide
  intro b
  repeat (first | refine stepA ?_ | intro _)
  rename_i p
  (first | refine retA ?_ | refine retB ?_); exact ⟨_, ⟨⟨p, b, 140, 193⟩, rfl, by
    have e : (newM n).length = n := by simp [newM]
    simp only [memH, e, flat_newM]; rfl⟩, subA⟩
end
end Go.Proofs.YtcpfmjlceoiofaaGreatDoor
