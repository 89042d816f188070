/-
  Joined texts; each begins with its own sentence.
-/
import Derived.Test.YtcpfmjlceoiofaaGreatDoorN04
import Derived.MapKept
import Derived.Maps.RangeRun
import Derived.Test.YtcpfmjlceoiofaaGreatDoorN05
import Derived.Shelf.Sort.Plain
import Derived.Ground.NamesProg
import Derived.Test.YtcpfmjlceoiofaaGreatDoorProg
import Derived.Shelf.Slices.In.SortNone
import Derived.Sort.OwnSortedInts
import Derived.Test.YtcpfmjlceoiofaaGreatDoorN06
set_option linter.unusedSimpArgs false
set_option linter.unusedVariables false
set_option linter.unusedSectionVars false
/-
  The walk's own small calculus, twentieth part: maps whose keys are whole numbers.
-/
namespace Go.Proofs.YtcpfmjlceoiofaaGreatDoor
open Go.RowKit
class TyMap (P : Program) (t : TypeId) (k e : outParam TypeId) : Prop where
  und : P.underlying t = some (.map k e)
  key : P.underlying k = some (.int .i64)
class TyZV (P : Program) (e : TypeId) (z : outParam Value) : Prop where
  zero : (P.info? e).bind (·.zero) = some z
/-- an entry: its key, its value, when it was born -/
structure KV where
  k : Int
  v : Value
  b : Nat
def KV.ent (x : KV) : MapEntry := { key := .int .i64 x.k, val := x.v, born := x.b }
abbrev mapB (L : List KV) (c : Nat) : Blk := .oth (.map (L.map KV.ent).toArray c)
def findL (k : Int) : List KV → Nat → Option (Nat × Value)
  | [], _ => none
  | x :: L, i => if k = x.k then some (i, x.v) else findL k L (i + 1)
def getL (L : List KV) (k : Int) : Option Value := (findL k L 0).map (·.2)
theorem findNow_L (k : Int) : ∀ (L : List KV) (i : Nat), Instr.findNow (.int .i64) (.int .i64 k) (L.map KV.ent) i = some (findL k L i)
  | [], _ => rfl
  | x :: L, i => by
    simp only [List.map_cons, Instr.findNow, KV.ent, Instr.sameNow, if_true, findL]
    by_cases h : k = x.k
    · simp [h]
    · have e : (k == x.k) = false := by simpa using h
      simp only [e, if_neg h]
      exact findNow_L k L (i + 1)
theorem findL_shift (k : Int) : ∀ (L : List KV) (i : Nat), findL k L (i + 1) = (findL k L i).map fun p => (p.1 + 1, p.2)
  | [], _ => rfl
  | x :: L, i => by
    unfold findL
    by_cases h : k = x.k
    · simp [h]
    · rw [if_neg h, if_neg h]; exact findL_shift k L (i + 1)
theorem findL_none {k : Int} : ∀ {L : List KV} {i : Nat}, findL k L i = none ↔ ∀ x ∈ L, x.k ≠ k
  | [], _ => by simp [findL]
  | x :: L, i => by
    unfold findL
    by_cases h : k = x.k
    · simp [h]
    · rw [if_neg h, findL_none]
      simp only [List.mem_cons, forall_eq_or_imp, ne_eq]
      exact ⟨fun q => ⟨fun e => h e.symm, q⟩, fun q => q.2⟩
section runs
variable {P : Program} {w : World}
theorem run_checkKeyN {k : TypeId} (hk : P.underlying k = some (.int .i64)) (em : Bool) (i : Int) (n : Nat) : (Instr.checkKey em (n + 1) k (.int .i64 i)).run P w = .ok () w := by
  simp [Instr.checkKey, Sem.run_bind, run_underlying hk w]
theorem run_checkKey {k : TypeId} (hk : P.underlying k = some (.int .i64)) (em : Bool) (i : Int) : (Instr.checkKey em 10000 k (.int .i64 i)).run P w = .ok () w := run_checkKeyN hk em i 9999
theorem run_getMap {r c : Nat} {es : Array MapEntry} (h : w.heap[r]? = some (.map es c)) : (getObj r).run P w = .ok (.map es c) w := by simp [getObj, Sem.run, h]
theorem run_setMap {r c : Nat} {es : Array MapEntry} (o : Obj) (h : w.heap[r]? = some (.map es c)) : (setObj r o).run P w = .ok () (w.putObj r o) := by simp [setObj, Sem.run, h, World.putObj]
theorem run_findKey {k : TypeId} (hk : P.underlying k = some (.int .i64)) (L : List KV) (i : Int) : (Instr.findKey k (.int .i64 i) (L.map KV.ent)).run P w = .ok (findL i L 0) w := by
  simp only [Instr.findKey, Sem.run_bind, run_underlying hk w, Result.andThen_ok, findNow_L, Sem.run_pure]
theorem run_zeroV {e : TypeId} {z : Value} (hz : (P.info? e).bind (·.zero) = some z) : (zeroValue e).run P w = .ok z w := by
  cases hq : P.info? e with
  | none => simp [hq] at hz
  | some i =>
    cases hi : i.zero with
    | none => simp [hq, hi] at hz
    | some u => simp [hq, hi] at hz; simp [zeroValue, typeInfo, hq, hi, hz]
end runs
section rules
variable {X : Cx} {Q : PostT} {l : St} {ds : List Deferred} {H : Hp} {ops : Array Oper} {rest : List Oper}
variable {d ty : Nat} {pos : String} {after : Array Edge}
theorem P_lookup {x ix : Operand} {t k e r c : Nat} {z : Value} {i : Int} {Ls : List KV} {R : Hp} [T : TyMap X.P t k e] [Z : TyZV X.P e z] (hx : ev l x = some (.map (some r))) (hi : ev l ix = some (.int .i64 i)) (hp : Pull H (r, mapB Ls c) R) :
    PureOp X H l { dst := some d, op := .lookup t x ix false, type := ty, pos, after, guard := none } ((getL Ls i).getD z) := fun ρ hρ w hw => by
  have hr := hw.has.rd r _ (hp.perm.mem_iff.2 List.mem_cons_self)
  simp only [Blk.obj] at hr
  simp only [execOp, hρ x _ hx, hρ ix _ hi, Instr.lookup, Sem.run_bind, run_underlying T.und w, Result.andThen_ok, run_getMap hr, Sem.run_pure, run_checkKey T.key, run_findKey T.key]
  cases hf : findL i Ls 0 with
  | none => simp [getL, hf, run_zeroV Z.zero, Sem.run_bind]
  | some p => simp [getL, hf, Sem.run_bind]
theorem P_lookupOk {x ix : Operand} {t k e r c : Nat} {z : Value} {i : Int} {Ls : List KV} {R : Hp} [T : TyMap X.P t k e] [Z : TyZV X.P e z] (hx : ev l x = some (.map (some r))) (hi : ev l ix = some (.int .i64 i)) (hp : Pull H (r, mapB Ls c) R) :
    PureOp X H l { dst := some d, op := .lookup t x ix true, type := ty, pos, after, guard := none } (.tuple #[(getL Ls i).getD z, .bool (getL Ls i).isSome]) := fun ρ hρ w hw => by
  have hr := hw.has.rd r _ (hp.perm.mem_iff.2 List.mem_cons_self)
  simp only [Blk.obj] at hr
  simp only [execOp, hρ x _ hx, hρ ix _ hi, Instr.lookup, Sem.run_bind, run_underlying T.und w, Result.andThen_ok, run_getMap hr, Sem.run_pure, run_checkKey T.key, run_findKey T.key]
  cases hf : findL i Ls 0 with
  | none => simp [getL, hf, run_zeroV Z.zero, Sem.run_bind]
  | some p => simp [getL, hf, Sem.run_bind]
theorem P_lenMap {x : Operand} {t k e r c : Nat} {Ls : List KV} {R : Hp} [T : TyMap X.P t k e] (hx : ev l x = some (.map (some r))) (hp : Pull H (r, mapB Ls c) R) :
    PureOp X H l { dst := some d, op := .call { callee := .builtin .len, args := #[x], argTypes := #[t] }, type := ty, pos, after, guard := none } (.int .i64 (Ls.length : Int)) := fun ρ hρ w hw => by
  have hr := hw.has.rd r _ (hp.perm.mem_iff.2 List.mem_cons_self)
  simp only [Blk.obj] at hr
  simp only [execOp, resolve, Sem.run_bind, Sem.run_pure, Result.andThen_ok, invoke]
  simp only [List.map_toArray, List.map_cons, List.map_nil, hρ x _ hx, builtin, Sem.run_bind, Builtin.len_]
  simp [run_underlying T.und w, run_getMap hr, Sem.run_bind, goInt]
theorem L_makeMap {t : Nat} (hlt : Nat.blt d X.n = true) (h : ∀ b, L X ops rest Q ((d, .map (some b)) :: l) ds ((b, mapB [] 0) :: H)) :
    L X ops ({ dst := some d, op := .makeMap t none, type := ty, pos, after, guard := none } :: rest) Q l ds H :=
  L_val rfl rfl hlt (fun _ e => by cases e) fun ρ hρ w hw =>
    ⟨_, _, _, by simp only [execOp, Instr.makeMap, Option.map_none, Sem.run_bind, run_newObj_alloc, Result.andThen_ok, Sem.run_pure]; rfl, hw.alloc (.oth (.map #[] 0)), h _⟩
theorem P_entry {x : Operand} {r c it : Nat} {Ls : List KV} {seen : List Nat} {y : KV} {R R2 : Hp} (hx : ev l x = some (.pointer (some ⟨it, 0, none⟩))) (hm : Pull H (r, mapB Ls c) R) (hi : Pull H (it, .oth (.mapIter (some r) c (seen ++ [y.b]).toArray c)) R2)
    (hy : y ∈ Ls) (hn : (Ls.map (·.b)).Nodup) :
    PureOp X H l { dst := some d, op := .entry x, type := ty, pos, after, guard := none } (.tuple #[.int .i64 y.k, y.v]) := fun ρ hρ w hw => by
  have hrM := hw.has.rd r _ (hm.perm.mem_iff.2 List.mem_cons_self)
  have hrI := hw.has.rd it _ (hi.perm.mem_iff.2 List.mem_cons_self)
  simp only [Blk.obj] at hrM hrI
  have e : (seen ++ [y.b]).toArray = seen.toArray.push y.b := by simp
  rw [e] at hrI
  have hr := run_entry_at (P := X.P) w it r c seen.toArray (Ls.map KV.ent).toArray c y.ent hrI hrM (by simpa using ⟨y, hy, rfl⟩) (by simpa [KV.ent, Function.comp_def] using hn)
  simp only [execOp, hρ x _ hx, Sem.run_bind, hr, Result.andThen_ok, Sem.run_pure, KV.ent]
theorem World.rep_map {X : Cx} {H H' : Hp} {w : World} {r c : Nat} {Ls : List KV} {n : Blk} (hw : Now X H w) (hp : Rep H r (mapB Ls c) n H') : Now X H' (w.putObj r n.obj) := by
  have hr := hw.has.rd r _ hp.mem
  have hlt := hw.has.lt hp.mem
  exact hw.rep hp rfl rfl rfl (by simp) (World.putObj_heap_same hlt) (fun k hk => World.putObj_heap_other hk)
theorem L_mapNew {x ix y : Operand} {t k e r c : Nat} {i : Int} {v : Value} {Ls : List KV} {H' : Hp} [T : TyMap X.P t k e] (hx : ev l x = some (.map (some r))) (hi : ev l ix = some (.int .i64 i)) (hy : ev l y = some v)
    (hin : getL Ls i = none) (hp : Rep H r (mapB Ls c) (mapB (Ls ++ [⟨i, v, c⟩]) (c + 1)) H') (h : L X ops rest Q l ds H') :
    L X ops ({ dst := none, op := .mapUpdate t x ix y, type := ty, pos, after, guard := none } :: rest) Q l ds H :=
  L_unit rfl rfl (fun _ e => by cases e) fun ρ hρ w hw => by
    have hr := hw.has.rd r _ hp.mem
    simp only [Blk.obj] at hr
    have hf : findL i Ls 0 = none := by simpa [getL] using hin
    refine ⟨_, H', ?_, World.rep_map hw hp, h⟩
    simp only [execOp, hρ x _ hx, hρ ix _ hi, hρ y _ hy, Instr.mapUpdate, Sem.run_bind, run_underlying T.und w, Result.andThen_ok, run_getMap hr, run_checkKey T.key, run_findKey T.key, hf]
    simp [run_setMap _ hr, Blk.obj, KV.ent]
/-! ### ranging over a map -/
abbrev itB (r c : Nat) (seen : List Nat) : Blk := .oth (.mapIter (some r) c seen.toArray c)
theorem L_rangeMap {x : Operand} {t k e r c : Nat} {Ls : List KV} {R : Hp} [T : TyMap X.P t k e] (hlt : Nat.blt d X.n = true) (hx : ev l x = some (.map (some r))) (hp : Pull H (r, mapB Ls c) R)
    (h : ∀ b, L X ops rest Q ((d, .pointer (some ⟨b, 0, none⟩)) :: l) ds ((b, itB r c []) :: H)) :
    L X ops ({ dst := some d, op := .range t x, type := ty, pos, after, guard := none } :: rest) Q l ds H :=
  L_val rfl rfl hlt (fun _ e => by cases e) fun ρ hρ w hw => by
    have hr := hw.has.rd r _ (hp.perm.mem_iff.2 List.mem_cons_self)
    simp only [Blk.obj] at hr
    refine ⟨_, _, _, ?_, hw.alloc (itB r c []), h _⟩
    simp only [execOp, hρ x _ hx, Instr.range, Sem.run_bind, run_underlying T.und w, Result.andThen_ok, run_getMap hr, Sem.run_pure, run_newObj_alloc, Blk.obj]
/-- the next entry: any that was not yet met; or the end, if none is left -/
theorem L_next {x : Operand} {r c it : Nat} {Ls : List KV} {seen : List Nat} {R R2 : Hp} (hlt : Nat.blt d X.n = true) (hx : ev l x = some (.pointer (some ⟨it, 0, none⟩))) (hm : Pull H (r, mapB Ls c) R) (hi : Pull H (it, itB r c seen) R2)
    {H' : Nat → Hp} (hp : ∀ b, Rep H it (itB r c seen) (itB r c (seen ++ [b])) (H' b)) (hb : ∀ y ∈ Ls, y.b < c)
    (h1 : ∀ y ∈ Ls, y.b ∉ seen → L X ops rest Q ((d, .tuple #[.bool true, .int .i64 y.k, y.v]) :: l) ds (H' y.b))
    (h0 : (∀ y ∈ Ls, y.b ∈ seen) → L X ops rest Q ((d, .tuple #[.bool false]) :: l) ds H) :
    L X ops ({ dst := some d, op := .next x false, type := ty, pos, after, guard := none } :: rest) Q l ds H := by
  intro a w ha hw
  have hrM := hw.has.rd r _ (hm.perm.mem_iff.2 List.mem_cons_self)
  have hrI := hw.has.rd it _ (hi.perm.mem_iff.2 List.mem_cons_self)
  simp only [Blk.obj] at hrM hrI
  have hlti := hw.has.lt (hi.perm.mem_iff.2 List.mem_cons_self)
  refine wpListIn_plain rfl fun K hK => ⟨fun _ _ => trivial, ?_⟩
  have hev : a.eval x = .pointer (some ⟨it, 0, none⟩) := ha.eval hx
  rw [semAt_eq (fun _ e => by cases e)]
  simp only [execOp, hev, Sem.run_bind]
  rcases run_next_at (P := X.P) w ty it r c c seen.toArray _ c hrI hrM (fun z hz => by
    obtain ⟨y, hy, rfl⟩ := List.mem_map.1 hz
    exact hb y hy) (Nat.le_refl _) with ⟨hs, hr⟩ | ⟨z, hz, w1, hw1, hr⟩
  · have hall : ∀ y ∈ Ls, y.b ∈ seen := fun y hy => by
      by_cases q : y.b ∈ seen
      · exact q
      · have hmem : y.ent ∈ (leftOf (Ls.map KV.ent).toArray seen.toArray) := by
          unfold leftOf
          rw [Array.mem_filter]
          exact ⟨by simpa using ⟨y, hy, rfl⟩, by simpa [KV.ent] using q⟩
        have := Array.size_pos_of_mem hmem
        omega
    simp only [hr, Result.andThen_ok, Sem.run_pure]
    refine hK _ _ (h0 hall _ _ ?_ hw)
    exact ha.put (by simpa using hlt) _
  · unfold leftOf at hz
    simp only [Array.mem_toList_iff, Array.mem_filter] at hz
    obtain ⟨hz1, hz2⟩ := hz
    obtain ⟨y, hy, rfl⟩ : ∃ y ∈ Ls, y.ent = z := by simpa using hz1
    have hns : y.b ∉ seen := by simpa [KV.ent] using hz2
    simp only [hr, Result.andThen_ok, Sem.run_pure]
    refine hK _ _ (h1 y hy hns _ _ (ha.put (by simpa using hlt) _) ?_)
    have hw2 : Now X H w1 := by rcases hw1 with rfl | rfl; exact hw; exact hw.drew
    have hlt2 : it < w1.heap.size := by rcases hw1 with rfl | rfl <;> exact hlti
    have e : Go.ChangeMaps.setBlock w1 it (.mapIter (some r) c (seen.toArray.push y.b) c) = w1.putObj it (itB r c (seen ++ [y.b])).obj := by
      simp [Go.ChangeMaps.setBlock, World.putObj, Blk.obj]
    show Now X (H' y.b) (Go.ChangeMaps.setBlock w1 it (.mapIter (some r) c (seen.toArray.push y.b) c))
    rw [e]
    exact hw2.rep (hp y.b) rfl rfl rfl (by simp) (World.putObj_heap_same hlt2) (fun k hk => World.putObj_heap_other hk)
end rules
end Go.Proofs.YtcpfmjlceoiofaaGreatDoor

/- facts on maps, written by a program (gen_ty.py) off the translation -/
namespace Go.Proofs.YtcpfmjlceoiofaaGreatDoor
open Go.RowKit
instance tym65 : TyMap Tryz.prog 65 3 79 := ⟨by kernel_rfl, by kernel_rfl⟩
instance tzv79 : TyZV Tryz.prog 79 (.pointer none) := ⟨by kernel_rfl⟩
instance tym77 : TyMap Tryz.prog 77 3 76 := ⟨by kernel_rfl, by kernel_rfl⟩
instance tzv76 : TyZV Tryz.prog 76 (.nilFunc) := ⟨by kernel_rfl⟩
instance tym85 : TyMap Tryz.prog 85 3 3 := ⟨by kernel_rfl, by kernel_rfl⟩
instance tym135 : TyMap Tryz.prog 135 3 113 := ⟨by kernel_rfl, by kernel_rfl⟩
instance tzv113 : TyZV Tryz.prog 113 (.pointer none) := ⟨by kernel_rfl⟩
instance tym156 : TyMap Tryz.prog 156 3 362 := ⟨by kernel_rfl, by kernel_rfl⟩
instance tzv362 : TyZV Tryz.prog 362 (.pointer none) := ⟨by kernel_rfl⟩
end Go.Proofs.YtcpfmjlceoiofaaGreatDoor

/-
  slices.Sort at lists of numbers: the library's contract, laid at this program: a table of numbers, and one fact a function.
-/
namespace Go.Proofs
open Go.Shelf
def Tryz.lays189_ren : Go.Shelf.Ren := ⟨fun | 189 => 171 | 125 => 294 | 257 => 293 | 128 => 376 | 129 => 377 | 294 => 367 | 295 => 368 | 296 => 369 | 297 => 370 | 298 => 371 | 299 => 372 | 216 => 373 | 300 => 374 | 301 => 375 | 328 => 428 | 329 => 429 | 330 => 430 | 331 => 431 | 332 => 432 | 215 => 361 | 343 => 447 | n => n, fun | 28 => 22 | 3 => 3 | 46 => 457 | 0 => 0 | 51 => 566 | 53 => 553 | 4 => 4 | 183 => 560 | 182 => 559 | 131 => 286 | 5 => 5 | 9 => 9 | 218 => 602 | 222 => 606 | 228 => 618 | 229 => 619 | n => n, fun | n => n⟩
theorem Tryz.lays189 : Go.Proofs.Lays.n189 Tryz.prog Tryz.lays189_ren := {
  mixed := by kernel_rfl
  f125 := Tryz.func294.trans (congrArg some (by kernel_rfl))
  f128 := Tryz.func376.trans (congrArg some (by kernel_rfl))
  f129 := Tryz.func377.trans (congrArg some (by kernel_rfl))
  f189 := Tryz.func171.trans (congrArg some (by kernel_rfl))
  f215 := Tryz.func361.trans (congrArg some (by kernel_rfl))
  f216 := Tryz.func373.trans (congrArg some (by kernel_rfl))
  f257 := Tryz.func293.trans (congrArg some (by kernel_rfl))
  f294 := Tryz.func367.trans (congrArg some (by kernel_rfl))
  f295 := Tryz.func368.trans (congrArg some (by kernel_rfl))
  f296 := Tryz.func369.trans (congrArg some (by kernel_rfl))
  f297 := Tryz.func370.trans (congrArg some (by kernel_rfl))
  f298 := Tryz.func371.trans (congrArg some (by kernel_rfl))
  f299 := Tryz.func372.trans (congrArg some (by kernel_rfl))
  f300 := Tryz.func374.trans (congrArg some (by kernel_rfl))
  f301 := Tryz.func375.trans (congrArg some (by kernel_rfl))
  f328 := Tryz.func428.trans (congrArg some (by kernel_rfl))
  f329 := Tryz.func429.trans (congrArg some (by kernel_rfl))
  f330 := Tryz.func430.trans (congrArg some (by kernel_rfl))
  f331 := Tryz.func431.trans (congrArg some (by kernel_rfl))
  f332 := Tryz.func432.trans (congrArg some (by kernel_rfl))
  f343 := Tryz.func447.trans (congrArg some (by kernel_rfl))
  t0 := Tryz.underlying0
  a0 := Tryz.isAgg0
  z0 := Tryz.sizeOf0
  v0 := Tryz.zeroValue0
  t3 := Tryz.underlying3
  a3 := Tryz.isAgg3
  z3 := Tryz.sizeOf3
  v3 := Tryz.zeroValue3
  t4 := Tryz.underlying4
  a4 := Tryz.isAgg4
  z4 := Tryz.sizeOf4
  v4 := Tryz.zeroValue4
  t5 := Tryz.underlying5
  a5 := Tryz.isAgg5
  z5 := Tryz.sizeOf5
  v5 := Tryz.zeroValue5
  t9 := Tryz.underlying9
  a9 := Tryz.isAgg9
  z9 := Tryz.sizeOf9
  v9 := Tryz.zeroValue9
  t28 := Tryz.underlying22
  a28 := Tryz.isAgg22
  z28 := Tryz.sizeOf22
  v28 := Tryz.zeroValue22
  t46 := Tryz.underlying457
  a46 := Tryz.isAgg457
  z46 := Tryz.sizeOf457
  v46 := Tryz.zeroValue457
  t51 := Tryz.underlying566
  a51 := Tryz.isAgg566
  z51 := Tryz.sizeOf566
  v51 := Tryz.zeroValue566
  t53 := Tryz.underlying553
  a53 := Tryz.isAgg553
  z53 := Tryz.sizeOf553
  v53 := Tryz.zeroValue553
  t131 := Tryz.underlying286
  a131 := Tryz.isAgg286
  z131 := Tryz.sizeOf286
  v131 := Tryz.zeroValue286
  t182 := Tryz.underlying559
  a182 := Tryz.isAgg559
  z182 := Tryz.sizeOf559
  v182 := Tryz.zeroValue559
  t183 := Tryz.underlying560
  a183 := Tryz.isAgg560
  z183 := Tryz.sizeOf560
  v183 := Tryz.zeroValue560
  t218 := Tryz.underlying602
  a218 := Tryz.isAgg602
  z218 := Tryz.sizeOf602
  v218 := Tryz.zeroValue602
  t222 := Tryz.underlying606
  a222 := Tryz.isAgg606
  z222 := Tryz.sizeOf606
  v222 := Tryz.zeroValue606
  t228 := Tryz.underlying618
  a228 := Tryz.isAgg618
  z228 := Tryz.sizeOf618
  v228 := Tryz.zeroValue618
  t229 := Tryz.underlying619
  a229 := Tryz.isAgg619
  z229 := Tryz.sizeOf619
  v229 := Tryz.zeroValue619 }
end Go.Proofs

/-
  The walk's own small calculus, 24th part: a map's keys, sorted: slices.Sort by the library's contract; maps.Keys, slices.Collect, slices.Sorted.
-/
namespace Go.Proofs.YtcpfmjlceoiofaaGreatDoor
open Go.RowKit
attribute [local irreducible] W L QL PureOp thenQ blockQ retQ Spec IterOk YSpec roundQ scopeQ noGoQ
attribute [local irreducible] AS ASi IterOkC
set_option maxHeartbeats 6400000
section ins
variable {X : Cx} {Q : PostT} {l : St} {ds : List Deferred} {H : Hp} {ops : Array Oper} {rest : List Oper}
variable {d ty : Nat} {pos : String} {after : Array Edge}
theorem L_insNew {x ix y : Operand} {t k e r c : Nat} {i : Int} {v : Value} {Ls : List KV} {H' : Hp} [T : TyMap X.P t k e] (hx : ev l x = some (.map (some r))) (hi : ev l ix = some (.int .i64 i)) (hy : ev l y = some v)
    (hin : getL Ls i = none) (hp : Rep H r (mapB Ls c) (mapB (Ls ++ [⟨i, v, c⟩]) (c + 1)) H') (h : L X ops rest Q l ds H') :
    L X ops ({ dst := none, op := .insert t x ix y, type := ty, pos, after, guard := none } :: rest) Q l ds H :=
  L_unit rfl rfl (fun _ e => by cases e) fun ρ hρ w hw => by
    have hr := hw.has.rd r _ hp.mem
    simp only [Blk.obj] at hr
    have hf : findL i Ls 0 = none := by simpa [getL] using hin
    refine ⟨_, H', ?_, World.rep_map hw hp, h⟩
    simp only [execOp, hρ x _ hx, hρ ix _ hi, hρ y _ hy, Instr.mapUpdate, Sem.run_bind, run_underlying T.und w, Result.andThen_ok, run_getMap hr, run_checkKey T.key, run_findKey T.key, hf]
    simp [run_setMap _ hr, Blk.obj, KV.ent]
end ins
/-! ### whole numbers, sorted -/
def ivs (l : List Int) : List Value := l.map (Value.int .i64)
theorem ivs_len (l : List Int) : (ivs l).length = l.length := by simp [ivs]
theorem ivs_get {l : List Int} {ys : List Value} {k : Nat} {i : Int} (h : l[k]? = some i) : (ivs l ++ ys)[k]? = some (.int .i64 i) := by
  have hk := (List.getElem?_eq_some_iff.1 h).1
  rw [List.getElem?_append_left (by rw [ivs_len]; exact hk)]
  simp [ivs, h]
def sortI (l : List Int) : List Int := l.mergeSort fun x y => decide (x ≤ y)
theorem sortI_perm (l : List Int) : (sortI l).Perm l := List.mergeSort_perm l _
theorem sortI_len (l : List Int) : (sortI l).length = l.length := (sortI_perm l).length_eq
theorem sortI_pair (l : List Int) : (sortI l).Pairwise fun a b => a ≤ b :=
  (List.pairwise_mergeSort (le := fun x y : Int => decide (x ≤ y)) (by intro a b c; simp only [decide_eq_true_eq]; omega) (by intro a b; simp only [Bool.or_eq_true, decide_eq_true_eq]; omega) l).imp fun h => by simpa using h
theorem sortI_eq {l s : List Int} (hp : s.Perm l) (hs : s.Pairwise fun a b => a ≤ b) : sortI l = s :=
  List.Perm.eq_of_pairwise (le := fun a b : Int => a ≤ b) (fun a b _ _ h1 h2 => by omega) (sortI_pair l) hs ((sortI_perm l).trans hp.symm)
theorem sortI_of_perm {l l' : List Int} (h : l.Perm l') : sortI l = sortI l' := sortI_eq ((sortI_perm l').trans h.symm) (sortI_pair l')
theorem sort_spec (g cap : Nat) (xs : List Int) (ys : List Value) (hx : xs.length < 4611686018427387904) :
    Spec Tryz.prog 171 [.slice (some ⟨g, 0, none⟩) xs.length cap] [(g, .cells (ivs xs ++ ys) 3)] fun v H' => v = .tuple #[] ∧ H' = [(g, .cells (ivs (sortI xs) ++ ys) 3)] := by
  unfold Spec
  intro w hw
  have hr := hw.rd g _ (List.mem_singleton.2 rfl)
  simp only [Blk.obj] at hr
  have hlt : g < w.heap.size := (Array.getElem?_eq_some_iff.1 hr).1
  have hH : Go.Sort.Holds (Value.int .i64) w g 0 xs.toArray := holds_of_blockI hr (by simp [ivs])
  refine (Any.slices_Sort_int Tryz.lays189 g 0 cap xs w hH hlt hx).mono ?_
  rintro e w' ⟨rfl, n, os, rfl⟩
  have hg := grownBy_sortedI (w := w) (g := g) (n := n) (os := os) (sortI xs).toArray
  have hb := heap_sortedI (n := n) (os := os) (sortI xs).toArray hr
  have hc : Go.Sort.putCells (Value.int .i64) 0 (sortI xs).toArray (ivs xs ++ ys).toArray = (ivs (sortI xs) ++ ys).toArray := by
    apply Array.ext'
    apply List.ext_getElem?
    intro j
    have hl := sortI_len xs
    by_cases hj : j < xs.length
    · have h1 : (ivs (sortI xs) ++ ys)[j]? = some (.int .i64 ((sortI xs)[j]'(by omega))) := ivs_get (by simp)
      rw [show (ivs (sortI xs) ++ ys).toArray.toList = ivs (sortI xs) ++ ys from rfl, h1]
      simp [Go.Sort.putCells, hl, hj, ivs_len, show j < xs.length + ys.length by omega, List.getElem?_eq_getElem (show j < (sortI xs).length by omega)]
    · simp [Go.Sort.putCells, hl, hj, ivs_len, List.getElem?_append_right (show (ivs xs).length ≤ j by rw [ivs_len]; omega), List.getElem?_append_right (show (ivs (sortI xs)).length ≤ j by rw [ivs_len]; omega)]
  rw [hc] at hb
  obtain ⟨g1, g2, g3, g4, g5⟩ := hg
  refine ⟨_, _, rfl, ⟨rfl, rfl⟩, ⟨by simp [keys], ?_⟩, ⟨g1, g2, g3, g4, ?_⟩, fun b h => .inl h⟩
  · rintro b k hm
    obtain ⟨rfl, rfl⟩ := Prod.mk.inj (List.mem_singleton.1 hm)
    exact hb
  · intro k hk hn
    exact g5 k hk (fun q => hn (by cases q; simp [keys]))
theorem sort_none (a : Option Addr) (cap : Nat) : Spec Tryz.prog 171 [.slice a 0 cap] [] fun v H' => v = .tuple #[] ∧ H' = [] := by
  unfold Spec
  intro w hw
  refine (Any.slices_Sort_int_none Tryz.lays189 a cap w).mono ?_
  rintro e w' ⟨rfl, rfl⟩
  exact ⟨_, _, rfl, ⟨rfl, rfl⟩, hw, Fr.refl _ _, fun b h => .inl h⟩
theorem sort_own {a : Option Addr} {cap : Nat} {xs : List Int} {Hs : Hp} (how : Own 3 1 a xs.length cap (ivs xs) Hs) (hx : xs.length ≤ 100000) : Spec Tryz.prog 171 [.slice a xs.length cap] Hs fun v H' => v = .tuple #[] ∧ Own 3 1 a xs.length cap (ivs (sortI xs)) H' := by
  have hl := sortI_len xs
  have h63 : xs.length < 4611686018427387904 := by omega
  generalize hn : xs.length = n at how ⊢
  rcases how.inv with ⟨rfl, rfl, rfl, h4, rfl⟩ | ⟨g, ys, rfl, rfl, h1, h2, h3, h4⟩
  · obtain rfl : xs = [] := by simpa using hn
    refine (sort_none none 0).mono ?_
    rintro v H' ⟨rfl, rfl⟩
    exact ⟨rfl, by rw [show sortI [] = [] by simp [sortI]]; exact Own.nil⟩
  · have := sort_spec g cap xs ys h63
    rw [hn] at this
    refine this.mono ?_
    rintro v H' ⟨rfl, rfl⟩
    refine ⟨rfl, Own.blk (by rw [ivs_len]; omega) ?_ h3 h4⟩
    simp only [List.length_append, ivs_len] at h2 ⊢
    omega
/-! ### a map's keys -/
abbrev mpB (b mb : Nat) (T : TypeId) : Nat × Blk := (b, .cells [.map (some mb)] T)
abbrev kv0 : KV := ⟨0, .bool false, 0⟩
def KeysIt (P : Program) (g : FuncId) (T : TypeId) (b mb : Nat) (Ls : List KV) (c : Nat) : Prop :=
  IterOkC P g [.pointer (some ⟨b, 0, none⟩)]
    (fun (I J : List KV × KV → Hp → Prop) => (∀ s H, I s H → ∃ R, Cut [mpB b mb T, (mb, mapB Ls c)] H R) ∧ (∀ seen y z H, I (seen, y) H → I (seen, z) H) ∧ ∀ seen y H, J (seen, y) H → I (seen ++ [y], y) H)
    (fun s => s.2 ∈ Ls ∧ s.2.b ∉ s.1.map (·.b)) (fun s => [.int .i64 s.2.k]) (fun s => ∀ y ∈ Ls, y.b ∈ s.1.map (·.b)) ([], kv0)
theorem filter_less {α : Type} {p q : α → Bool} : ∀ {l : List α}, (∀ y ∈ l, q y = true → p y = true) → (∃ y ∈ l, p y = true ∧ q y = false) → (l.filter q).length < (l.filter p).length
  | [], _, ⟨_, h, _⟩ => by simp at h
  | z :: l, h1, ⟨y, hy, h2, h3⟩ => by
    have hle : ∀ {l : List α}, (∀ y ∈ l, q y = true → p y = true) → (l.filter q).length ≤ (l.filter p).length := by
      intro l
      induction l with
      | nil => simp
      | cons a l ih =>
        intro h
        have := ih (fun y hy => h y (by simp [hy]))
        have ha := h a (by simp)
        simp only [List.filter_cons]
        cases hq : q a
        · simp only [Bool.false_eq_true, if_false]
          split
          · simp only [List.length_cons]; omega
          · exact this
        · rw [ha hq]
          simp only [if_true, List.length_cons]
          omega
    rcases List.mem_cons.1 hy with rfl | hy
    · have := hle (l := l) (fun z hz => h1 z (by simp [hz]))
      simp only [List.filter_cons, h2, h3, if_true, Bool.false_eq_true, if_false, List.length_cons]
      omega
    · have := filter_less (fun z hz => h1 z (by simp [hz])) ⟨y, hy, h2, h3⟩
      have hz := h1 z (by simp)
      simp only [List.filter_cons]
      cases hq : q z
      · simp only [Bool.false_eq_true, if_false]
        split
        · simp only [List.length_cons]; omega
        · exact this
      · rw [hz hq]
        simp only [if_true, List.length_cons]
        omega
theorem keysP_spec (mb : Nat) : Spec Tryz.prog 81 [.map (some mb)] [] fun v H' => ∃ b, v = .func (.func 172) #[] #[.pointer (some ⟨b, 0, none⟩)] ∧ H' = [mpB b mb 135] := by
  refine Spec_body Tryz.func81 rfl Tryz.ntmps81 rfl (fun w0 => ?_)
  repeat (first | refine stepA ?_ | intro _)
  rename_i b
  (first | refine retA ?_ | refine retB ?_)
  exact ⟨_, ⟨b, rfl, rfl⟩, subA⟩
theorem keysP_iter (b mb : Nat) {Ls : List KV} {c : Nat} (hb : (Ls.map (·.b)).Nodup) (hc : ∀ y ∈ Ls, y.b < c) : KeysIt Tryz.prog 172 135 b mb Ls c := by
  unfold KeysIt IterOkC
  rintro y I J S ⟨hA, hZ, hJ⟩ hy H h0
  obtain ⟨R, hcut⟩ := hA ([], kv0) H h0
  refine Spec_body Tryz.func172 rfl Tryz.ntmps172 rfl (fun w0 => ?_)
  refine W_perm hcut.perm ?_
  simp only [List.cons_append, List.nil_append]
  repeat (first | refine stepA ?_ | intro _)
  refine L_rangeMap rfl (ev_of rfl (by with_reducible rfl)) pullA (fun it => ?_)
  repeat (first | refine stepA ?_ | intro _)
  refine W_loop (fun x : List KV × Hp => [(0, .func (.yield y) #[] #[]), (1, .pointer (some ⟨b, 0, none⟩)), (5, .pointer (some ⟨it, 0, none⟩))]) (fun x => (it, itB mb c (x.1.map (·.b))) :: x.2) (fun x => I (x.1, kv0) x.2) (fun x => (Ls.filter fun z => decide (z.b ∉ x.1.map (·.b))).length) ([], H) h0 sublA (Sub.ofPerm (List.Perm.cons _ hcut.perm)) ?_
  rintro ⟨seen, Hk⟩ hIk
  simp only at hIk ⊢
  obtain ⟨Rk, hck⟩ := hA (seen, kv0) Hk hIk
  refine W_perm (List.Perm.cons _ hck.perm) ?_
  simp only [List.cons_append, List.nil_append]
  repeat (first | refine stepA ?_ | intro _)
  refine L_next (seen := seen.map (·.b)) (Ls := Ls) (c := c) (r := mb) (it := it) rfl (ev_of rfl (by with_reducible rfl)) pullA pullA (fun b' => repA) hc ?_ ?_
  · intro z hz hns
    repeat (first | refine stepA ?_ | intro _)
    (first | (apply L_P; (· exact rfl); (· exact rfl)) | (apply QL_P; (· exact rfl)))
    · exact P_entry (Ls := Ls) (c := c) (r := mb) (it := it) (seen := seen.map (·.b)) (y := z) (ev_of rfl (by with_reducible rfl)) pullA pullA hz hb
    repeat (first | refine stepA ?_ | intro _)
    have hyk := hy (seen, z) Hk (hZ seen kv0 z Hk hIk) ⟨hz, hns⟩
    simp only at hyk
    refine L_yield rfl (ev_of rfl (by with_reducible rfl)) rfl hyk (R0 := [(it, itB mb c (seen.map (·.b) ++ [z.b]))]) ?_ ?_
    · refine List.Perm.trans ?_ (List.Perm.append_right _ hck.perm.symm)
      simp only [List.cons_append, List.nil_append]
      exact permA
    · rintro b' H' hb'
      rcases hb' with ⟨rfl, hb'⟩ | ⟨rfl, hb'⟩
      · repeat (first | refine stepA ?_ | intro _)
        refine ⟨rfl, (seen ++ [z], H'), hZ _ z kv0 H' (hJ seen z H' hb'), ?_, sublA, ?_⟩
        · refine filter_less ?_ ⟨z, hz, ?_, ?_⟩
          · intro u hu h
            simp only [List.map_append, decide_eq_true_eq, List.mem_append, not_or] at h ⊢
            exact h.1
          · simpa using hns
          · simp
        · simp only [List.map_append, List.map_cons, List.map_nil]
          exact Sub.ofPerm (List.perm_append_comm (l₁ := [_]) (l₂ := H'))
      · repeat (first | refine stepA ?_ | intro _)
        (first | refine retA ?_ | refine retB ?_)
        exact ⟨_, .inr hb', Sub.ofPermR (R := [_]) (List.Perm.refl _)⟩
  · intro hall
    repeat (first | refine stepA ?_ | intro _)
    (first | refine retA ?_ | refine retB ?_)
    exact ⟨_, .inl ⟨(seen, kv0), hall, hIk⟩, Sub.ofPermR (R := [(it, itB mb c (seen.map (·.b)))]) (List.Perm.trans (List.Perm.append_right _ hck.perm) (by simp only [List.cons_append, List.nil_append]; exact permA))⟩
theorem mem_inj {α β : Type} {f : α → β} : ∀ {l : List α}, (l.map f).Nodup → ∀ x ∈ l, ∀ y ∈ l, f x = f y → x = y
  | [], _, _, h, _, _, _ => by simp at h
  | z :: l, hn, x, hx, y, hy, he => by
    simp only [List.map_cons, List.nodup_cons, List.mem_map, not_exists, not_and] at hn
    rcases List.mem_cons.1 hx with hx1 | hx1 <;> rcases List.mem_cons.1 hy with hy1 | hy1
    · rw [hx1, hy1]
    · subst hx1; exact absurd he.symm (hn.1 y hy1)
    · subst hy1; exact absurd he (hn.1 x hx1)
    · exact mem_inj hn.2 x hx1 y hy1 he
theorem nodup_len : ∀ {l m : List Int}, l.Nodup → (∀ a ∈ l, a ∈ m) → l.length ≤ m.length
  | [], _, _, _ => Nat.zero_le _
  | a :: l, m, hn, h => by
    have ha := h a (by simp)
    have hp := List.perm_cons_erase ha
    have hn2 := List.nodup_cons.1 hn
    have := nodup_len (l := l) (m := m.erase a) hn2.2 (fun b hb => (List.mem_erase_of_ne (by rintro rfl; exact hn2.1 hb)).2 (h b (by simp [hb])))
    rw [hp.length_eq]
    simp only [List.length_cons]
    omega
/-- those that were met are all, each once: their keys -/
theorem seen_keys {Ls seen : List KV} (hk : (Ls.map (·.k)).Nodup) (hin : ∀ z ∈ seen, z ∈ Ls) (hnd : (seen.map (·.k)).Nodup) (hall : ∀ y ∈ Ls, y.b ∈ seen.map (·.b)) (hb : (Ls.map (·.b)).Nodup) : (seen.map (·.k)).Perm (Ls.map (·.k)) := by
  refine (List.perm_ext_iff_of_nodup hnd hk).2 fun a => ⟨fun h => ?_, fun h => ?_⟩
  · obtain ⟨z, hz, rfl⟩ := List.mem_map.1 h
    exact List.mem_map.2 ⟨z, hin z hz, rfl⟩
  · obtain ⟨z, hz, rfl⟩ := List.mem_map.1 h
    obtain ⟨u, hu, he⟩ := List.mem_map.1 (hall z hz)
    have := mem_inj hb u (hin u hu) z hz he
    subst this
    exact List.mem_map.2 ⟨u, hu, rfl⟩
theorem appendKeys {g : FuncId} {T : TypeId} {b mb : Nat} {Ls : List KV} {c : Nat} (ok : FnOk Tryz.prog g) (hit : KeysIt Tryz.prog g T b mb Ls c) (hk : (Ls.map (·.k)).Nodup) (hb : (Ls.map (·.b)).Nodup) (hlen : Ls.length ≤ 100000) :
    Spec Tryz.prog 292 [.slice none 0 0, .func (.func g) #[] #[.pointer (some ⟨b, 0, none⟩)]] [mpB b mb T, (mb, mapB Ls c)] fun v H' => ∃ a cap Hs xs, v = .slice a xs.length cap ∧ Own 3 1 a xs.length cap (ivs xs) Hs ∧ xs.Perm (Ls.map (·.k)) ∧ H' = mpB b mb T :: (mb, mapB Ls c) :: Hs := by
  refine Spec_body Tryz.func292 rfl Tryz.ntmps292 rfl (fun w0 => ?_)
  repeat (first | refine stepA ?_ | intro _)
  rename_i sb
  refine W_rangeC rfl (ev_of rfl (by with_reducible rfl)) ok hit (fun _ => rfl) (by simp)
    (fun s Hc => ∃ a cap Hs, Own 3 1 a (s.1.map (·.k)).length cap (ivs (s.1.map (·.k))) Hs ∧ (∀ z ∈ s.1, z ∈ Ls) ∧ (s.1.map (·.k)).Nodup ∧ Hc = mpB b mb T :: (mb, mapB Ls c) :: (sb, .cells [.slice a (s.1.map (·.k)).length cap] 22) :: Hs)
    (fun s Hc => ∃ a cap Hs, Own 3 1 a ((s.1 ++ [s.2]).map (·.k)).length cap (ivs ((s.1 ++ [s.2]).map (·.k))) Hs ∧ (∀ z ∈ s.1 ++ [s.2], z ∈ Ls) ∧ ((s.1 ++ [s.2]).map (·.k)).Nodup ∧ Hc = mpB b mb T :: (mb, mapB Ls c) :: (sb, .cells [.slice a ((s.1 ++ [s.2]).map (·.k)).length cap] 22) :: Hs)
    (fun _ _ => False)
    (fun u v => ⟨by
      rintro s H ⟨Hc, ⟨a, cap, Hs, how, h1, h2, rfl⟩, rfl⟩
      exact ⟨_, .cons (.there (.there .here)) (.cons (.there (.there .here)) .nil)⟩, by
      rintro seen y z H ⟨Hc, h, rfl⟩
      exact ⟨_, h, rfl⟩, by
      rintro seen y H ⟨Hc, h, rfl⟩
      exact ⟨_, h, rfl⟩⟩)
    ⟨_, ⟨none, 0, [], Own.nil, by simp, by simp, rfl⟩, subA⟩ ?_ ?_ ?_
  · rintro y ⟨seen, z⟩ Hc w1 ⟨a, cap, Hs, how, hin, hnd, rfl⟩ ⟨hz, hns⟩
    simp only at how hin hnd hz hns ⊢
    have hnk : z.k ∉ seen.map (·.k) := by
      intro h
      obtain ⟨u, hu, he⟩ := List.mem_map.1 h
      have := mem_inj hk u (hin u hu) z hz he
      subst this
      exact hns (List.mem_map.2 ⟨u, hu, rfl⟩)
    have hin2 : ∀ u ∈ seen ++ [z], u ∈ Ls := by
      intro u hu
      rcases List.mem_append.1 hu with h | h
      · exact hin u h
      · obtain rfl := List.mem_singleton.1 h
        exact hz
    have hnd2 : ((seen ++ [z]).map (·.k)).Nodup := by
      simp only [List.map_append, List.map_cons, List.map_nil, List.nodup_append, List.nodup_cons, List.not_mem_nil, not_false_eq_true, List.nodup_nil, and_self, true_and]
      exact ⟨hnd, by intro u hu v hv; obtain rfl := List.mem_singleton.1 hv; rintro rfl; exact hnk hu⟩
    have hl2 : ((seen ++ [z]).map (·.k)).length ≤ Ls.length := by
      have h1 := nodup_len (m := Ls.map (·.k)) hnd2 (fun u hu => by
        obtain ⟨q, hq, rfl⟩ := List.mem_map.1 hu
        exact List.mem_map.2 ⟨q, hin2 q hq, rfl⟩)
      simpa using h1
    have hl3 : (seen.map (·.k)).length + 1 ≤ Ls.length := by simpa using hl2
    have e1 : (seen ++ [z]).map (·.k) = seen.map (·.k) ++ [z.k] := by simp
    obtain ⟨ks, hks⟩ : ∃ ks, ks = seen.map (·.k) := ⟨_, rfl⟩
    rw [e1] at hnd2
    rw [← hks] at e1 how hnd hl3 hnk hnd2 ⊢
    clear hl2
    repeat (first | refine stepA ?_ | intro _)
    refine ⟨rfl, fun w2 => ?_⟩
    repeat (first | refine stepA ?_ | intro _)
    apply L_append
    · exact rfl
    · exact evA
    · exact evA
    · exact how
    · exact tailA
    · exact Lies.cells (k := 1) (news := [.int .i64 z.k]) pullA rfl
    · exact rfl
    · intro u hu; obtain rfl := List.mem_singleton.1 hu; rfl
    · omega
    · simp only [maxLen]; omega
    · omega
    · rfl
    rintro g2 cap' ys h2 h3 h4
    have e4 : ivs ks ++ [.int .i64 z.k] = ivs (ks ++ [z.k]) := by simp [ivs]
    have e5 : ks.length + 1 = (ks ++ [z.k]).length := by simp
    rw [e4] at h2 ⊢
    rw [e5] at h3 ⊢
    repeat (first | refine stepA ?_ | intro _)
    refine roundQ_n (Hc := mpB b mb T :: (mb, mapB Ls c) :: (sb, .cells [.slice (some ⟨g2, 0, none⟩) (ks ++ [z.k]).length cap'] 22) :: [(g2, .cells (ivs (ks ++ [z.k]) ++ ys) 3)]) ?_ subT
    simp only [e1]
    exact ⟨some ⟨g2, 0, none⟩, cap', [(g2, .cells (ivs (ks ++ [z.k]) ++ ys) 3)], .blk (by rw [ivs_len]; omega) h2 h3 h4, hin2, hnd2, rfl⟩
  · rintro D ⟨seen, z⟩ Hc hfin ⟨a, cap, Hs, how, hin, hnd, rfl⟩
    simp only at hfin how hin hnd ⊢
    have hperm := seen_keys hk hin hnd hfin hb
    repeat (first | refine stepA ?_ | intro _)
    (first | refine retA ?_ | refine retB ?_)
    exact ⟨_, ⟨a, cap, Hs, _, rfl, how, hperm, rfl⟩, subT⟩
  · rintro D c Hc h
    exact h.elim
theorem collectKeys {g : FuncId} {T : TypeId} {b mb : Nat} {Ls : List KV} {c : Nat} (ok : FnOk Tryz.prog g) (hit : KeysIt Tryz.prog g T b mb Ls c) (hk : (Ls.map (·.k)).Nodup) (hb : (Ls.map (·.b)).Nodup) (hlen : Ls.length ≤ 100000) :
    Spec Tryz.prog 170 [.func (.func g) #[] #[.pointer (some ⟨b, 0, none⟩)]] [mpB b mb T, (mb, mapB Ls c)] fun v H' => ∃ a cap Hs xs, v = .slice a xs.length cap ∧ Own 3 1 a xs.length cap (ivs xs) Hs ∧ xs.Perm (Ls.map (·.k)) ∧ H' = mpB b mb T :: (mb, mapB Ls c) :: Hs := by
  refine Spec_body Tryz.func170 rfl Tryz.ntmps170 rfl (fun w0 => ?_)
  repeat (first | refine stepA ?_ | intro _)
  refine callT ?_; refine ⟨_, _, appendKeys ok hit hk hb hlen, _, cutT, ?_⟩
  rintro v H' ⟨a, cap, Hs, xs, rfl, how, hp, rfl⟩
  simp only [List.cons_append, List.nil_append]
  repeat (first | refine stepA ?_ | intro _)
  (first | refine retA ?_ | refine retB ?_)
  exact ⟨_, ⟨a, cap, Hs, xs, rfl, how, hp, rfl⟩, subT⟩
theorem sortedKeys {g : FuncId} {T : TypeId} {b mb : Nat} {Ls : List KV} {c : Nat} (ok : FnOk Tryz.prog g) (hit : KeysIt Tryz.prog g T b mb Ls c) (hk : (Ls.map (·.k)).Nodup) (hb : (Ls.map (·.b)).Nodup) (hlen : Ls.length ≤ 100000) :
    Spec Tryz.prog 80 [.func (.func g) #[] #[.pointer (some ⟨b, 0, none⟩)]] [mpB b mb T, (mb, mapB Ls c)] fun v H' => ∃ a cap Hs, v = .slice a Ls.length cap ∧ Own 3 1 a Ls.length cap (ivs (sortI (Ls.map (·.k)))) Hs ∧ H' = mpB b mb T :: (mb, mapB Ls c) :: Hs := by
  refine Spec_body Tryz.func80 rfl Tryz.ntmps80 rfl (fun w0 => ?_)
  repeat (first | refine stepA ?_ | intro _)
  refine callT ?_; refine ⟨_, _, collectKeys ok hit hk hb hlen, _, cutT, ?_⟩
  rintro v H' ⟨a, cap, Hs, xs, rfl, how, hp, rfl⟩
  simp only [List.cons_append, List.nil_append]
  have hl : xs.length = Ls.length := by rw [hp.length_eq]; simp
  have hs := sortI_of_perm hp
  repeat (first | refine stepA ?_ | intro _)
  refine callT ?_; refine ⟨_, _, sort_own how (by omega), _, cutT, ?_⟩
  rintro v H' ⟨rfl, how2⟩
  simp only [List.cons_append, List.nil_append]
  repeat (first | refine stepA ?_ | intro _)
  (first | refine retA ?_ | refine retB ?_)
  rw [hl, hs] at how2
  exact ⟨_, ⟨a, cap, H', by rw [hl] <;> rfl, how2, rfl⟩, subT⟩
end Go.Proofs.YtcpfmjlceoiofaaGreatDoor

/-
  Processes: the table, in plain lists.
-/
namespace Go.Proofs.YtcpfmjlceoiofaaGreatDoor
open Go.RowKit
/-- a process: its number, its parent's, its state, who it is, on what it sleeps, with what it ended, whether it was killed -/
structure PR where
  pid : Int
  parent : Int
  state : Int
  uid : Int
  gid : Int
  chan : List UInt8
  status : Int
  killed : Bool
abbrev PR.cells (p : PR) : List Value := [.int .i64 p.pid, .int .i64 p.parent, .int .i64 p.state, .int .i64 p.uid, .int .i64 p.gid, str p.chan, .int .i64 p.status, .bool p.killed]
abbrev pr0 : PR := ⟨0, 0, 0, 0, 0, [], 0, false⟩
/-- an entry of the table: its block, when it was laid there, what it holds -/
structure PE where
  b : Nat
  w : Nat
  p : PR
abbrev PE.ptr (x : PE) : Value := .pointer (some ⟨x.b, 0, none⟩)
def PE.kv (x : PE) : KV := ⟨x.p.pid, x.ptr, x.w⟩
abbrev prK (b : Nat) (p : PR) : Nat × Blk := (b, .cells p.cells 48)
def PE.blk (x : PE) : Nat × Blk := prK x.b x.p
def prB (L : List PE) : Hp := L.map PE.blk
def pidsP (L : List PE) : List Int := L.map fun x => x.p.pid
def findP : List PE → Int → Option PE
  | [], _ => none
  | x :: L, k => if k = x.p.pid then some x else findP L k
def setP : List PE → Int → PR → List PE
  | [], _, _ => []
  | x :: L, k, p => if k = x.p.pid then { x with p := p } :: L else x :: setP L k p
def delP : List PE → Int → List PE
  | [], _ => []
  | x :: L, k => if k = x.p.pid then L else x :: delP L k
theorem getL_kv : ∀ (L : List PE) (k : Int), getL (L.map PE.kv) k = (findP L k).map PE.ptr
  | [], _ => rfl
  | x :: L, k => by
    have ih := getL_kv L k
    simp only [getL, List.map_cons, findL, findP] at ih ⊢
    by_cases h : k = x.p.pid
    · rw [if_pos (by exact h), if_pos h]; rfl
    · rw [if_neg (by exact h), if_neg h, findL_shift, ← ih]
      cases findL k (L.map PE.kv) 0 <;> rfl
theorem findP_split : ∀ {L : List PE} {k : Int} {x : PE}, findP L k = some x → x.p.pid = k ∧ ∃ A B, L = A ++ x :: B ∧ (∀ y ∈ A, y.p.pid ≠ k) ∧ (∀ p, setP L k p = A ++ { x with p := p } :: B) ∧ delP L k = A ++ B
  | [], _, _, h => by simp [findP] at h
  | y :: L, k, x, h => by
    unfold findP at h
    by_cases hk : k = y.p.pid
    · rw [if_pos hk] at h
      cases h
      exact ⟨hk.symm, [], L, rfl, by simp, fun p => by rw [setP, if_pos hk]; rfl, by rw [delP, if_pos hk]; rfl⟩
    · rw [if_neg hk] at h
      obtain ⟨h1, A, B, h2, h3, h4, h5⟩ := findP_split h
      refine ⟨h1, y :: A, B, by rw [h2]; rfl, ?_, fun p => by rw [setP, if_neg hk, h4]; rfl, by rw [delP, if_neg hk, h5]; rfl⟩
      intro z hz
      rcases List.mem_cons.1 hz with rfl | hz
      · exact fun e => hk e.symm
      · exact h3 z hz
theorem findP_mem {L : List PE} {k : Int} {x : PE} (h : findP L k = some x) : x ∈ L := by
  obtain ⟨_, A, B, rfl, _⟩ := findP_split h
  simp
theorem findP_pid {L : List PE} {k : Int} {x : PE} (h : findP L k = some x) : x.p.pid = k := (findP_split h).1
theorem findP_none : ∀ {L : List PE} {k : Int}, findP L k = none ↔ ∀ x ∈ L, x.p.pid ≠ k
  | [], _ => by simp [findP]
  | x :: L, k => by
    unfold findP
    by_cases h : k = x.p.pid
    · rw [if_pos h]; simp [h]
    · rw [if_neg h, findP_none]
      simp only [List.mem_cons, forall_eq_or_imp, ne_eq]
      exact ⟨fun q => ⟨fun e => h e.symm, q⟩, fun q => q.2⟩
/-- where an entry lies: its block, in front of the others' -/
theorem prB_at {L : List PE} {k : Int} {x : PE} (h : findP L k = some x) : ∃ T, (prB L).Perm (prK x.b x.p :: T) ∧ (∀ p, (prB (setP L k p)).Perm (prK x.b p :: T)) ∧ (prB (delP L k)).Perm T := by
  obtain ⟨_, A, B, rfl, _, h4, h5⟩ := findP_split h
  refine ⟨prB A ++ prB B, ?_, fun p => ?_, ?_⟩
  · simp only [prB, List.map_append, List.map_cons]
    exact List.perm_middle
  · rw [h4 p]
    simp only [prB, List.map_append, List.map_cons]
    exact List.perm_middle
  · rw [h5]
    simp only [prB, List.map_append]
    exact List.Perm.refl _
theorem setP_kv {L : List PE} {k : Int} {p : PR} (hp : p.pid = k) : (setP L k p).map PE.kv = L.map PE.kv := by
  induction L with
  | nil => rfl
  | cons x L ih =>
    unfold setP
    by_cases h : k = x.p.pid
    · rw [if_pos h]
      simp only [List.map_cons, PE.kv, hp, ← h]
    · rw [if_neg h, List.map_cons, ih, List.map_cons]
theorem setP_pids {L : List PE} {k : Int} {p : PR} (hp : p.pid = k) : pidsP (setP L k p) = pidsP L := by
  induction L with
  | nil => rfl
  | cons x L ih =>
    unfold setP
    by_cases h : k = x.p.pid
    · rw [if_pos h]
      simp only [pidsP, List.map_cons, hp, ← h]
    · rw [if_neg h]
      simp only [pidsP, List.map_cons] at ih ⊢
      rw [ih]
/-- all processes changed alike -/
def mapP (L : List PE) (f : PR → PR) : List PE := L.map fun x => { x with p := f x.p }
/-- a table is right -/
structure WfP (L : List PE) (last : Int) (c : Nat) : Prop where
  nd : (pidsP L).Nodup
  rng : ∀ x ∈ L, 1 ≤ x.p.pid ∧ x.p.pid ≤ last
  last : 1 ≤ last ∧ last ≤ 30000
  len : L.length ≤ 16
  born : ∀ x ∈ L, x.w < c
  bnd : (L.map (·.w)).Nodup
theorem WfP.set {L : List PE} {last : Int} {c : Nat} {k : Int} {p : PR} (h : WfP L last c) (hp : p.pid = k) : WfP (setP L k p) last c := by
  have e : ∀ (L : List PE), (setP L k p).map (fun x => (x.p.pid, x.w)) = L.map fun x => (x.p.pid, x.w) := by
    intro L
    induction L with
    | nil => rfl
    | cons x L ih =>
      unfold setP
      by_cases h : k = x.p.pid
      · rw [if_pos h]
        simp only [List.map_cons, hp, ← h]
      · rw [if_neg h, List.map_cons, ih, List.map_cons]
  have e1 : ∀ x ∈ setP L k p, ∃ y ∈ L, y.p.pid = x.p.pid ∧ y.w = x.w := by
    intro x hx
    have : (x.p.pid, x.w) ∈ (setP L k p).map fun x => (x.p.pid, x.w) := List.mem_map.2 ⟨x, hx, rfl⟩
    rw [e] at this
    obtain ⟨y, hy, he⟩ := List.mem_map.1 this
    simp only [Prod.mk.injEq] at he
    exact ⟨y, hy, he.1, he.2⟩
  have e2 : (setP L k p).length = L.length := by have := congrArg List.length (e L); simpa using this
  have e3 : (setP L k p).map (·.w) = L.map (·.w) := by have := congrArg (List.map Prod.snd) (e L); simpa [List.map_map, Function.comp_def] using this
  refine ⟨by rw [setP_pids hp]; exact h.nd, ?_, h.last, by rw [e2]; exact h.len, ?_, by rw [e3]; exact h.bnd⟩
  · intro x hx
    obtain ⟨y, hy, h1, _⟩ := e1 x hx
    rw [← h1]
    exact h.rng y hy
  · intro x hx
    obtain ⟨y, hy, _, h1⟩ := e1 x hx
    rw [← h1]
    exact h.born y hy
theorem mapP_kv {L : List PE} {f : PR → PR} (hf : ∀ p, (f p).pid = p.pid) : (mapP L f).map PE.kv = L.map PE.kv := by
  simp [mapP, PE.kv, hf, Function.comp_def]
theorem WfP.map {L : List PE} {last : Int} {c : Nat} {f : PR → PR} (hf : ∀ p, (f p).pid = p.pid) (h : WfP L last c) : WfP (mapP L f) last c := by
  refine ⟨?_, ?_, h.last, by simpa [mapP] using h.len, ?_, ?_⟩
  · have : pidsP (mapP L f) = pidsP L := by simp [pidsP, mapP, hf, Function.comp_def]
    rw [this]; exact h.nd
  · intro x hx
    obtain ⟨y, hy, rfl⟩ := List.mem_map.1 hx
    simpa [hf] using h.rng y hy
  · intro x hx
    obtain ⟨y, hy, rfl⟩ := List.mem_map.1 hx
    exact h.born y hy
  · have : (mapP L f).map (·.w) = L.map (·.w) := by simp [mapP, Function.comp_def]
    rw [this]; exact h.bnd
end Go.Proofs.YtcpfmjlceoiofaaGreatDoor

/-
  Processes: find, Get, isOf, running, New.
-/
namespace Go.Proofs.YtcpfmjlceoiofaaGreatDoor
open Go.RowKit
attribute [local irreducible] W L QL PureOp thenQ blockQ retQ Spec IterOk YSpec roundQ scopeQ noGoQ
attribute [local irreducible] AS ASi IterOkC retD retE
set_option maxHeartbeats 6400000
set_option maxRecDepth 4000
theorem Sub.via {H1 H2 H3 : Hp} (p : H3.Perm H1) (s : Sub H2 H3) : Sub H2 H1 := by
  obtain ⟨R, hc⟩ := s.cut
  exact Sub.ofPermR (R := R) (hc.perm.symm.trans p)
theorem back_perm {H1 R T A L' : Hp} {x : Nat × Blk} (hT : L'.Perm (x :: T)) (hp : Pull H1 x R) (ht : Tail R T A) : H1.Perm (A ++ L') :=
  (hp.perm.trans (((ht.perm.cons x).trans (List.Perm.append_right A hT.symm)).trans List.perm_append_comm))
theorem Sub.back {H1 R H2 T A L' : Hp} {x : Nat × Blk} (hT : L'.Perm (x :: T)) (s : Sub H2 (A ++ L')) (hp : Pull H1 x R := by repeat (first | exact Pull.here | apply Pull.there)) (ht : Tail R T A := by repeat (first | exact Tail.nil | apply Tail.cons)) : Sub H2 H1 :=
  Sub.via (back_perm hT hp ht).symm s
section bk
variable {X : Cx} {Q : PostT} {l : St} {ds : List Deferred} {H : Hp} {ops : Array Oper} {rest : List Oper}
theorem W_back {c : Code} {R T A L' : Hp} {x : Nat × Blk} (hT : L'.Perm (x :: T)) (k : W X c Q l ds (A ++ L')) (hp : Pull H x R := by repeat (first | exact Pull.here | apply Pull.there)) (ht : Tail R T A := by repeat (first | exact Tail.nil | apply Tail.cons)) : W X c Q l ds H :=
  W_perm (back_perm hT hp ht) k
theorem L_back {R T A L' : Hp} {x : Nat × Blk} (hT : L'.Perm (x :: T)) (k : L X ops rest Q l ds (A ++ L')) (hp : Pull H x R := by repeat (first | exact Pull.here | apply Pull.there)) (ht : Tail R T A := by repeat (first | exact Tail.nil | apply Tail.cons)) : L X ops rest Q l ds H :=
  L_perm (back_perm hT hp ht) k
end bk
abbrev tbB (r mb : Nat) (last : Int) : Nat × Blk := (r, .cells [.map (some mb), .int .i64 last] 137)
abbrev kvB (mb : Nat) (L : List PE) (c : Nat) : Nat × Blk := (mb, mapB (L.map PE.kv) c)
abbrev ptrB (r : Nat) : Value := .pointer (some ⟨r, 0, none⟩)
/-- a table: its cell, its map, its processes -/
abbrev psH (r mb : Nat) (last : Int) (L : List PE) (c : Nat) : Hp := tbB r mb last :: kvB mb L c :: prB L
abbrev fnd (L : List PE) (pid : Int) : Value := (findP L pid).elim (.pointer none) PE.ptr
abbrev fndE (L : List PE) (pid : Int) : Int := (findP L pid).elim 60 fun _ => 0
theorem prnew_spec : Spec Tryz.prog 33 [] [] fun v H' => ∃ r mb b, v = ptrB r ∧ H' = psH r mb 1 [⟨b, 0, ⟨1, 0, 1, 0, 0, [], 0, false⟩⟩] 1 := by
  refine Spec_body Tryz.func33 rfl Tryz.ntmps33 rfl (fun w0 => ?_)
  repeat (first | refine stepA ?_ | intro _)
  apply L_makeMap
  · exact rfl
  intro mb
  repeat (first | refine stepA ?_ | intro _)
  rename_i b
  refine L_insNew (v := .pointer (some ⟨b, 0, none⟩)) (i := 1) (Ls := []) (c := 0) evA evA evA rfl repA ?_
  repeat (first | refine stepA ?_ | intro _)
  rename_i r
  (first | refine retA ?_ | refine retB ?_)
  exact ⟨_, ⟨r, mb, b, rfl, rfl⟩, subA⟩
section
variable (r mb : Nat) (last : Int) (L : List PE) (c : Nat)
theorem prfind_spec (pid : Int) : Spec Tryz.prog 43 [ptrB r, .int .i64 pid] [tbB r mb last, kvB mb L c] fun v H' => v = .tuple #[fnd L pid, .int .i64 (fndE L pid)] ∧ H' = [tbB r mb last, kvB mb L c] := by
  refine Spec_body Tryz.func43 rfl Tryz.ntmps43 rfl (fun w0 => ?_)
  repeat (first | refine stepA ?_ | intro _)
  (first | (apply L_P; (· exact rfl); (· exact rfl)) | (apply QL_P; (· exact rfl))); (· (apply P_lookupOk; (· exact evA); (· exact evA); (· exact pullA)))
  rw [getL_kv]
  cases h : findP L pid with
  | none =>
    simp only [Option.map_none, Option.getD_none, Option.isSome_none, fnd, fndE, h, Option.elim]
    repeat (first | refine stepA ?_ | intro _)
    (first | refine retA ?_ | refine retB ?_); exact ⟨_, ⟨rfl, rfl⟩, subA⟩
  | some x =>
    simp only [Option.map_some, Option.getD_some, Option.isSome_some, fnd, fndE, h, Option.elim]
    repeat (first | refine stepA ?_ | intro _)
    (first | refine retA ?_ | refine retB ?_); exact ⟨_, ⟨rfl, rfl⟩, subA⟩
theorem prget_spec (pid : Int) : Spec Tryz.prog 21 [ptrB r, .int .i64 pid] (psH r mb last L c) fun v H' => v = .tuple #[.agg (((findP L pid).map (·.p)).getD pr0).cells.toArray, .int .i64 (fndE L pid)] ∧ H' = psH r mb last L c := by
  refine Spec_body Tryz.func21 rfl Tryz.ntmps21 rfl (fun w0 => ?_)
  repeat (first | refine stepA ?_ | intro _)
  rename_i b4
  refine callA ?_; refine ⟨_, _, prfind_spec r mb last L c pid, _, cutA, ?_⟩
  rintro v H' ⟨rfl, rfl⟩
  simp only [List.cons_append, List.nil_append]
  cases h : findP L pid with
  | none =>
    simp only [fnd, fndE, h, Option.elim, Option.isSome_none, Option.map_none, Option.getD_none]
    repeat (first | refine stepA ?_ | intro _)
    (first | refine retA ?_ | refine retB ?_)
    exact ⟨_, ⟨rfl, rfl⟩, subT⟩
  | some x =>
    obtain ⟨T, hT, -, -⟩ := prB_at h
    simp only [fnd, fndE, h, Option.elim, Option.isSome_some, Option.map_some, Option.getD_some]
    refine L_tail (T := prB L) hT ?_
    simp only [List.cons_append, List.nil_append]
    repeat (first | refine stepA ?_ | intro _)
    (first | refine retA ?_ | refine retB ?_)
    exact ⟨_, ⟨rfl, rfl⟩, (by refine Sub.back hT ?_; simp only [List.cons_append, List.nil_append]; exact subT)⟩
theorem index1_spec (g cap : Nat) (a s : Int) : Spec Tryz.prog 362 [.slice (some ⟨g, 0, none⟩) 1 cap, .int .i64 s] [(g, .cells [.int .i64 a] 3)] fun v H' => v = .int .i64 (if s = a then 0 else -1) ∧ H' = [(g, .cells [.int .i64 a] 3)] := by
  refine Spec_body Tryz.func362 rfl Tryz.ntmps362 rfl (fun w0 => ?_)
  repeat (first | refine stepA ?_ | intro _)
  refine W_loop (fun k : Nat => [(0, .slice (some ⟨g, 0, none⟩) 1 cap), (1, .int .i64 s), (7, .int .i64 1), (8, .int .i64 (k : Int))]) (fun _ => [(g, .cells [.int .i64 a] 3)]) (fun k => k ≤ 1 ∧ (k = 1 → s ≠ a)) (fun k => 1 - k) 0 ⟨by omega, by omega⟩ sublA subA ?_
  rintro k ⟨hk, hne⟩
  by_cases h0 : k = 0
  · subst h0
    by_cases he : s = a
    · subst he
      repeat (first | refine stepA ?_ | intro _)
      (first | refine retA ?_ | refine retB ?_); exact ⟨_, ⟨by rw [if_pos rfl] <;> rfl, rfl⟩, subA⟩
    · repeat (first | refine stepA ?_ | intro _)
      exact ⟨rfl, 1, ⟨by omega, fun _ => he⟩, by omega, sublA, subA⟩
  · obtain rfl : k = 1 := by omega
    have hne := hne rfl
    repeat (first | refine stepA ?_ | intro _)
    (first | refine retA ?_ | refine retB ?_); exact ⟨_, ⟨by rw [if_neg hne] <;> rfl, rfl⟩, subA⟩
theorem contains1_spec (g cap : Nat) (a s : Int) : Spec Tryz.prog 288 [.slice (some ⟨g, 0, none⟩) 1 cap, .int .i64 s] [(g, .cells [.int .i64 a] 3)] fun v H' => v = .bool (decide (s = a)) ∧ H' = [(g, .cells [.int .i64 a] 3)] := by
  refine Spec_body Tryz.func288 rfl Tryz.ntmps288 rfl (fun w0 => ?_)
  repeat (first | refine stepA ?_ | intro _)
  refine callA ?_; refine ⟨_, _, index1_spec g cap a s, _, cutA, ?_⟩
  rintro v H' ⟨rfl, rfl⟩
  simp only [List.cons_append, List.nil_append]
  by_cases he : s = a
  · rw [if_pos he]
    repeat (first | refine stepA ?_ | intro _)
    (first | refine retA ?_ | refine retB ?_); exact ⟨_, ⟨by simp [he] <;> rfl, rfl⟩, subA⟩
  · rw [if_neg he]
    repeat (first | refine stepA ?_ | intro _)
    (first | refine retA ?_ | refine retB ?_); exact ⟨_, ⟨by simp [he] <;> rfl, rfl⟩, subA⟩
theorem isof_spec (b : Nat) (p : PR) (g cap : Nat) (a : Int) : Spec Tryz.prog 165 [ptrB b, .slice (some ⟨g, 0, none⟩) 1 cap] [(g, .cells [.int .i64 a] 3), prK b p] fun v H' => v = .bool (decide (p.state = a)) ∧ H' = [(g, .cells [.int .i64 a] 3), prK b p] := by
  refine Spec_body Tryz.func165 rfl Tryz.ntmps165 rfl (fun w0 => ?_)
  repeat (first | refine stepA ?_ | intro _)
  refine callA ?_; refine ⟨_, _, contains1_spec g cap a p.state, _, cutA, ?_⟩
  rintro v H' ⟨rfl, rfl⟩
  simp only [List.cons_append, List.nil_append]
  repeat (first | refine stepA ?_ | intro _)
  (first | refine retA ?_ | refine retB ?_); exact ⟨_, ⟨rfl, rfl⟩, subA⟩
/-- what running tells -/
abbrev runE (L : List PE) (pid : Int) : Int := (findP L pid).elim 60 fun x => if x.p.state = 1 then 0 else 2
abbrev runV (L : List PE) (pid : Int) : Value := (findP L pid).elim (.pointer none) fun x => if x.p.state = 1 then x.ptr else .pointer none
theorem prrun_spec (pid : Int) : Spec Tryz.prog 75 [ptrB r, .int .i64 pid] (psH r mb last L c) fun v H' => v = .tuple #[runV L pid, .int .i64 (runE L pid)] ∧ H' = psH r mb last L c := by
  refine Spec_body Tryz.func75 rfl Tryz.ntmps75 rfl (fun w0 => ?_)
  repeat (first | refine stepA ?_ | intro _)
  refine callA ?_; refine ⟨_, _, prfind_spec r mb last L c pid, _, cutA, ?_⟩
  rintro v H' ⟨rfl, rfl⟩
  simp only [List.cons_append, List.nil_append]
  cases h : findP L pid with
  | none =>
    simp only [fnd, fndE, runV, runE, h, Option.elim]
    repeat (first | refine stepA ?_ | intro _)
    (first | refine retA ?_ | refine retB ?_)
    exact ⟨_, ⟨rfl, rfl⟩, subT⟩
  | some x =>
    obtain ⟨T, hT, -, -⟩ := prB_at h
    simp only [fnd, fndE, runV, runE, h, Option.elim]
    refine L_tail (T := prB L) hT ?_
    simp only [List.cons_append, List.nil_append]
    repeat (first | refine stepA ?_ | intro _)
    rename_i g
    refine callA ?_; refine ⟨_, _, isof_spec x.b x.p g 1 1, _, cutA, ?_⟩
    rintro v H' ⟨rfl, rfl⟩
    simp only [List.cons_append, List.nil_append]
    by_cases h1 : x.p.state = 1
    · simp only [h1, decide_true, if_true]
      repeat (first | refine stepA ?_ | intro _)
      (first | refine retA ?_ | refine retB ?_)
      exact ⟨_, ⟨rfl, rfl⟩, (by refine Sub.back hT ?_; simp only [List.cons_append, List.nil_append]; exact subT)⟩
    · simp only [h1, decide_false, if_false]
      repeat (first | refine stepA ?_ | intro _)
      (first | refine retA ?_ | refine retB ?_)
      exact ⟨_, ⟨rfl, rfl⟩, (by refine Sub.back hT ?_; simp only [List.cons_append, List.nil_append]; exact subT)⟩
end
end Go.Proofs.YtcpfmjlceoiofaaGreatDoor

/-
  The walk's own small calculus, 25th part: delete as a statement.
-/
namespace Go.Proofs.YtcpfmjlceoiofaaGreatDoor
open Go.RowKit
section rules
variable {X : Cx} {Q : PostT} {l : St} {ds : List Deferred} {H : Hp} {ops : Array Oper} {rest : List Oper}
variable {d ty : Nat} {pos : String} {after : Array Edge}
end rules
end Go.Proofs.YtcpfmjlceoiofaaGreatDoor
