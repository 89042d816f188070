/-
  The walk's own small calculus, tenth part: its steps, laid once: each lemma here looks for what it needs by itself.
-/
import Derived.Test.YtcpfmjlceoiofaaGreatDoorN02
import Derived.Test.YtcpfmjlceoiofaaGreatDoorN01
set_option linter.unusedSimpArgs false
set_option linter.unusedVariables false
set_option linter.unusedSectionVars false
namespace Go.Proofs.YtcpfmjlceoiofaaGreatDoor
open Go.RowKit
attribute [local irreducible] W L QL PureOp thenQ blockQ retQ Spec IterOk YSpec roundQ scopeQ noGoQ
set_option linter.unusedVariables false
section auto
variable {X : Cx} {Q : PostT} {l : St} {ds : List Deferred} {H : Hp} {ops : Array Oper} {rest : List Oper} {K : St → Prop} {d ty : Nat} {pos : String} {after : Array Edge}
theorem evA {x : Operand} {u v : Value} (h : ev l x = some u := by exact rfl) (e : u = v := by with_reducible rfl) : ev l x = some v := ev_of h e
theorem pullA {R : Hp} {x : Nat × Blk} (h : Pull H x R := by repeat (first | exact Pull.here | apply Pull.there)) : Pull H x R := h
theorem repA {b : Nat} {o n : Blk} {H' : Hp} (h : Rep H b o n H' := by repeat (first | exact Rep.here | apply Rep.there)) : Rep H b o n H' := h
theorem cutA {Hf R : Hp} (h : Cut Hf H R := by repeat' (first | exact Cut.nil | (apply Cut.cons; (· repeat (first | exact Pull.here | apply Pull.there))))) : Cut Hf H R := h
theorem subA {H' : Hp} (h : Sub H' H := by repeat' (first | exact Sub.nil | (apply Sub.cons; (· repeat (first | exact Pull.here | apply Pull.there))))) : Sub H' H := h
theorem sublA {l' : St} (h : Subl l' l := by repeat' (first | exact Subl.nil | refine Subl.cons rfl ?_)) : Subl l' l := h
theorem reslA {P : Program} {rs : List ResultVar} {vs : List Value} (h : ResL P l H rs vs := by repeat' (first | exact ResL.nil | apply ResL.tmp rfl | (apply ResL.cell1; (· exact rfl); (· repeat (first | exact Pull.here | apply Pull.there)); (· exact rfl)) | (apply ResL.cellA; (· exact rfl); (· repeat (first | exact Pull.here | apply Pull.there)); (· exact rfl); (· exact rfl)))) : ResL P l H rs vs := h
theorem marksA {H1 : Hp} (h : Marks ds H H1 := by repeat' (first | exact Marks.nil | (apply Marks.cons; (· repeat (first | exact Pull.here | apply Pull.there))))) : Marks ds H H1 := h
theorem purA {o : Oper} {v : Value} (h : PureOp X H l o v := by
  first
  | (apply P_move; (· exact rfl))
  | (apply P_assign; (· exact rfl))
  | (apply P_nilCheck; (· exact ev_of rfl (by with_reducible rfl)))
  | (apply P_nilCheckF; (· exact ev_of rfl (by with_reducible rfl)))
  | (apply P_fieldAddr0; (· exact ev_of rfl (by with_reducible rfl)))
  | (apply P_fieldAddrS; (· exact ev_of rfl (by with_reducible rfl)))
  | (apply P_fieldAddr'; (· exact ev_of rfl (by with_reducible rfl)))
  | (apply P_load1; (· exact ev_of rfl (by with_reducible rfl)); (· repeat (first | exact Pull.here | apply Pull.there)); (· first | exact rfl | assumption))
  | (apply P_load1o; (· exact ev_of rfl (by with_reducible rfl)); (· repeat (first | exact Pull.here | apply Pull.there)); (· assumption))
  | (apply P_loadA; (· exact ev_of rfl (by with_reducible rfl)); (· repeat (first | exact Pull.here | apply Pull.there)); (· first | assumption | exact rfl); (· exact rfl))
  | (apply P_extract; (· exact ev_of rfl (by with_reducible rfl)); (· exact rfl))
  | (apply P_lenSl; (· exact ev_of rfl (by with_reducible rfl)))
  | (apply P_lenStr; (· exact ev_of rfl (by with_reducible rfl)))
  | (apply P_lenArr; (· exact rfl))
  | (apply P_capSl; (· exact ev_of rfl (by with_reducible rfl)))
  | (apply P_notT; (· exact ev_of rfl (by with_reducible rfl)))
  | (apply P_notF; (· exact ev_of rfl (by with_reducible rfl)))
  | (apply P_not; (· exact ev_of rfl (by with_reducible rfl)))
  | (apply P_add; (· exact ev_of rfl (by with_reducible rfl)); (· exact ev_of rfl (by with_reducible rfl)); (· omega))
  | (apply P_sub; (· exact ev_of rfl (by with_reducible rfl)); (· exact ev_of rfl (by with_reducible rfl)); (· omega))
  | (apply P_mul; (· exact ev_of rfl (by with_reducible rfl)); (· exact ev_of rfl (by with_reducible rfl)); (· omega))
  | (apply P_quo; (· exact ev_of rfl (by with_reducible rfl)); (· exact ev_of rfl (by with_reducible rfl)); (· omega))
  | (apply P_rem; (· exact ev_of rfl (by with_reducible rfl)); (· exact ev_of rfl (by with_reducible rfl)); (· omega))
  | (apply P_lssT; (· exact ev_of rfl (by with_reducible rfl)); (· exact ev_of rfl (by with_reducible rfl)); (· omega))
  | (apply P_lssF; (· exact ev_of rfl (by with_reducible rfl)); (· exact ev_of rfl (by with_reducible rfl)); (· omega))
  | (apply P_leqT; (· exact ev_of rfl (by with_reducible rfl)); (· exact ev_of rfl (by with_reducible rfl)); (· omega))
  | (apply P_leqF; (· exact ev_of rfl (by with_reducible rfl)); (· exact ev_of rfl (by with_reducible rfl)); (· omega))
  | (apply P_gtrT; (· exact ev_of rfl (by with_reducible rfl)); (· exact ev_of rfl (by with_reducible rfl)); (· omega))
  | (apply P_gtrF; (· exact ev_of rfl (by with_reducible rfl)); (· exact ev_of rfl (by with_reducible rfl)); (· omega))
  | (apply P_geqT; (· exact ev_of rfl (by with_reducible rfl)); (· exact ev_of rfl (by with_reducible rfl)); (· omega))
  | (apply P_geqF; (· exact ev_of rfl (by with_reducible rfl)); (· exact ev_of rfl (by with_reducible rfl)); (· omega))
  | (apply P_eqiT; (· exact ev_of rfl (by with_reducible rfl)); (· exact ev_of rfl (by with_reducible rfl)); (· omega))
  | (apply P_eqiF; (· exact ev_of rfl (by with_reducible rfl)); (· exact ev_of rfl (by with_reducible rfl)); (· omega))
  | (apply P_neiT; (· exact ev_of rfl (by with_reducible rfl)); (· exact ev_of rfl (by with_reducible rfl)); (· omega))
  | (apply P_neiF; (· exact ev_of rfl (by with_reducible rfl)); (· exact ev_of rfl (by with_reducible rfl)); (· omega))
  | (apply P_lss; (· exact ev_of rfl (by with_reducible rfl)); (· exact ev_of rfl (by with_reducible rfl)))
  | (apply P_leq; (· exact ev_of rfl (by with_reducible rfl)); (· exact ev_of rfl (by with_reducible rfl)))
  | (apply P_gtr; (· exact ev_of rfl (by with_reducible rfl)); (· exact ev_of rfl (by with_reducible rfl)))
  | (apply P_geq; (· exact ev_of rfl (by with_reducible rfl)); (· exact ev_of rfl (by with_reducible rfl)))
  | (apply P_eqi; (· exact ev_of rfl (by with_reducible rfl)); (· exact ev_of rfl (by with_reducible rfl)))
  | (apply P_nei; (· exact ev_of rfl (by with_reducible rfl)); (· exact ev_of rfl (by with_reducible rfl)))
  | (apply P_eqNilT; (· exact ev_of rfl (by with_reducible rfl)); (· exact ev_of rfl (by with_reducible rfl)))
  | (apply P_eqNilF; (· exact ev_of rfl (by with_reducible rfl)); (· exact ev_of rfl (by with_reducible rfl)))
  | (apply P_neNilT; (· exact ev_of rfl (by with_reducible rfl)); (· exact ev_of rfl (by with_reducible rfl)))
  | (apply P_neNilF; (· exact ev_of rfl (by with_reducible rfl)); (· exact ev_of rfl (by with_reducible rfl)))
  | (apply P_eqNil; (· exact ev_of rfl (by with_reducible rfl)); (· exact ev_of rfl (by with_reducible rfl)))
  | (apply P_neNil; (· exact ev_of rfl (by with_reducible rfl)); (· exact ev_of rfl (by with_reducible rfl)))
  | (apply P_eqStrT; (· exact ev_of rfl (by with_reducible rfl)); (· exact ev_of rfl (by with_reducible rfl)); (· with_reducible rfl))
  | (apply P_eqStrF; (· exact ev_of rfl (by with_reducible rfl)); (· exact ev_of rfl (by with_reducible rfl)); (· assumption))
  | (apply P_neStrT; (· exact ev_of rfl (by with_reducible rfl)); (· exact ev_of rfl (by with_reducible rfl)); (· assumption))
  | (apply P_neStrF; (· exact ev_of rfl (by with_reducible rfl)); (· exact ev_of rfl (by with_reducible rfl)); (· with_reducible rfl))
  | (apply P_eqStr; (· exact ev_of rfl (by with_reducible rfl)); (· exact ev_of rfl (by with_reducible rfl)))
  | (apply P_neStr; (· exact ev_of rfl (by with_reducible rfl)); (· exact ev_of rfl (by with_reducible rfl)))
  | (apply P_eqBoolT; (· exact ev_of rfl (by with_reducible rfl)); (· exact ev_of rfl (by with_reducible rfl)); (· exact rfl))
  | (apply P_eqBoolF; (· exact ev_of rfl (by with_reducible rfl)); (· exact ev_of rfl (by with_reducible rfl)); (· exact rfl))
  | (apply P_neBoolT; (· exact ev_of rfl (by with_reducible rfl)); (· exact ev_of rfl (by with_reducible rfl)); (· exact rfl))
  | (apply P_neBoolF; (· exact ev_of rfl (by with_reducible rfl)); (· exact ev_of rfl (by with_reducible rfl)); (· exact rfl))
  | (apply P_eqBool; (· exact ev_of rfl (by with_reducible rfl)); (· exact ev_of rfl (by with_reducible rfl)))
  | (apply P_neBool; (· exact ev_of rfl (by with_reducible rfl)); (· exact ev_of rfl (by with_reducible rfl)))
  | (apply P_indexSl01; (· exact ev_of rfl (by with_reducible rfl)); (· exact ev_of rfl (by with_reducible rfl)); (· omega))
  | (apply P_indexSl0; (· exact ev_of rfl (by with_reducible rfl)); (· exact ev_of rfl (by with_reducible rfl)); (· omega))
  | (apply P_indexSl; (· exact ev_of rfl (by with_reducible rfl)); (· exact ev_of rfl (by with_reducible rfl)); (· omega))
  | (apply P_indexArr01; (· exact ev_of rfl (by with_reducible rfl)); (· exact ev_of rfl (by with_reducible rfl)); (· omega))
  | (apply P_indexArr; (· exact ev_of rfl (by with_reducible rfl)); (· exact ev_of rfl (by with_reducible rfl)); (· omega))
  | (apply P_indexArr'; (· exact ev_of rfl (by with_reducible rfl)); (· exact ev_of rfl (by with_reducible rfl)); (· omega))
  | (apply P_indexSl'; (· exact ev_of rfl (by with_reducible rfl)); (· exact ev_of rfl (by with_reducible rfl)); (· omega))
  | (apply P_pickT; (· exact ev_of rfl (by with_reducible rfl)); (· exact rfl))
  | (apply P_pickF; (· exact ev_of rfl (by with_reducible rfl)); (· exact rfl))
  | (apply P_pick; (· exact ev_of rfl (by with_reducible rfl)); (· exact ev_of rfl (by with_reducible rfl)); (· exact ev_of rfl (by with_reducible rfl)))
  | (apply P_field1; (· exact ev_of rfl (by with_reducible rfl)); (· exact rfl))
  | (apply P_fieldA; (· exact ev_of rfl (by with_reducible rfl)); (· exact rfl))
  | (apply P_makeFunc; (· exact rfl); (· exact rfl))
  | (apply P_convInt; (· exact ev_of rfl (by with_reducible rfl)); (· exact rfl))
  | (apply P_build; (· exact rfl); (· exact rfl); (· simp only [fillL, splice, cellsL, List.getElem?_cons_zero, List.getElem?_cons_succ, Option.getD_some, List.take, List.drop, List.cons_append, List.nil_append, List.append_nil, Nat.zero_add, Nat.reduceAdd, List.toList_toArray]; exact rfl))
  | apply P_buildZ
  | (apply P_min; (· exact ev_of rfl (by with_reducible rfl)); (· exact ev_of rfl (by with_reducible rfl)))
  | (apply P_max; (· exact ev_of rfl (by with_reducible rfl)); (· exact ev_of rfl (by with_reducible rfl)))
  | (apply P_neg; (· exact ev_of rfl (by with_reducible rfl)))
  | (apply P_addStr; (· exact ev_of rfl (by with_reducible rfl)); (· exact ev_of rfl (by with_reducible rfl)); (· first | omega | (simp only [List.length_append, List.length_cons, List.length_nil, List.length_take, List.length_drop]; omega)))
  | (apply P_shr8; (· exact ev_of rfl (by with_reducible rfl)); (· exact ev_of rfl (by with_reducible rfl)))
  | (apply P_shl8; (· exact ev_of rfl (by with_reducible rfl)); (· exact ev_of rfl (by with_reducible rfl)))
  | (apply P_idxStr; (· exact ev_of rfl (by with_reducible rfl)); (· exact rfl); (· exact rfl); (· first | exact rfl | assumption))
  | (apply P_idxArr; (· exact ev_of rfl (by with_reducible rfl)); (· exact ev_of rfl (by with_reducible rfl)); (· omega); (· first | exact rfl | assumption))) : PureOp X H l o v := h
theorem purB {o : Oper} {v : Value} (h : PureOp X H l o v := by
  first | exact purA | (apply P_slStr; (· exact ev_of rfl (by with_reducible rfl)); (· first | exact Bound.none | exact Bound.nat (j := 0) rfl | exact Bound.nat (j := 1) rfl | exact Bound.nat (j := 2) rfl | exact Bound.nat (j := 3) rfl | exact Bound.nat (j := 4) rfl | exact Bound.nat (j := 6) rfl | exact Bound.nat (j := 8) rfl | exact Bound.nat (j := 10) rfl | exact Bound.nat rfl | exact Bound.int rfl (by omega)); (· first | exact Bound.none | exact Bound.nat (j := 0) rfl | exact Bound.nat (j := 1) rfl | exact Bound.nat (j := 2) rfl | exact Bound.nat (j := 3) rfl | exact Bound.nat (j := 4) rfl | exact Bound.nat (j := 6) rfl | exact Bound.nat (j := 8) rfl | exact Bound.nat (j := 10) rfl | exact Bound.nat rfl | exact Bound.int rfl (by omega)); (· omega)) | (apply P_slP0; (· exact ev_of rfl (by with_reducible rfl)); (· first | exact Bound.none | exact Bound.nat (j := 0) rfl | exact Bound.nat (j := 1) rfl | exact Bound.nat (j := 2) rfl | exact Bound.nat (j := 3) rfl | exact Bound.nat (j := 4) rfl | exact Bound.nat (j := 6) rfl | exact Bound.nat (j := 8) rfl | exact Bound.nat (j := 10) rfl | exact Bound.nat rfl | exact Bound.int rfl (by omega)); (· omega)) | (apply P_slSl; (· exact ev_of rfl (by with_reducible rfl)); (· first | exact Bound.none | exact Bound.nat (j := 0) rfl | exact Bound.nat (j := 1) rfl | exact Bound.nat (j := 2) rfl | exact Bound.nat (j := 3) rfl | exact Bound.nat (j := 4) rfl | exact Bound.nat (j := 6) rfl | exact Bound.nat (j := 8) rfl | exact Bound.nat (j := 10) rfl | exact Bound.nat rfl | exact Bound.int rfl (by omega)); (· first | exact Bound.none | exact Bound.nat (j := 0) rfl | exact Bound.nat (j := 1) rfl | exact Bound.nat (j := 2) rfl | exact Bound.nat (j := 3) rfl | exact Bound.nat (j := 4) rfl | exact Bound.nat (j := 6) rfl | exact Bound.nat (j := 8) rfl | exact Bound.nat (j := 10) rfl | exact Bound.nat rfl | exact Bound.int rfl (by omega)); (· omega))) : PureOp X H l o v := h
structure Held (A : Prop) : Prop where
  out : A
theorem stepA {A B : Prop} (a : A) (h : Held A → B := by
  intro hA
  (first | (first
  | apply W_seq
  | apply W_region
  | (apply W_drawQ; (· exact rfl); (· kernel_rfl); (· exact rfl))
  | apply L_nil
  | (apply W_condT; (· exact ev_of rfl (by with_reducible rfl)))
  | (apply W_condF; (· exact ev_of rfl (by with_reducible rfl)))
  | apply W_block
  | apply W_ret
  | apply W_skip
  | apply W_exit
  | apply W_label
  | apply W_goto
  | apply thenQ_n
  | apply thenQ_r
  | apply thenQ_e
  | apply thenQ_g
  | apply W_scope
  | apply scopeQ_n
  | apply scopeQ_r
  | apply scopeQ_e
  | (apply scopeQ_g; (· exact rfl))
  | apply noGoQ_n
  | apply noGoQ_r
  | apply noGoQ_e
  | apply blockQ_n
  | apply blockQ_r
  | apply blockQ_g
  | (apply blockQ_hit; (· exact rfl))
  | (apply blockQ_miss; (· exact rfl))
  | (apply W_condD; (· exact ev_of rfl (by with_reducible rfl)); rotate_left 1; (· exact fun h => absurd (by omega) h))
  | (apply W_condD; (· exact ev_of rfl (by with_reducible rfl)); (· exact fun h => absurd h (by omega)))
  | (apply W_condN; (· exact ev_of rfl (by with_reducible rfl)); rotate_left 1; (· exact fun h => absurd h (by omega)))
  | (apply W_condN; (· exact ev_of rfl (by with_reducible rfl)); (· exact fun h => absurd (by omega) h))) | (first
  | (apply L_P; (· exact rfl); (· exact rfl); (· first
  | (apply P_move; (· exact rfl))
  | (apply P_assign; (· exact rfl))
  | (apply P_nilCheck; (· exact ev_of rfl (by with_reducible rfl)))
  | (apply P_nilCheckF; (· exact ev_of rfl (by with_reducible rfl)))
  | (apply P_fieldAddr0; (· exact ev_of rfl (by with_reducible rfl)))
  | (apply P_fieldAddrS; (· exact ev_of rfl (by with_reducible rfl)))
  | (apply P_fieldAddr'; (· exact ev_of rfl (by with_reducible rfl)))
  | (apply P_load1; (· exact ev_of rfl (by with_reducible rfl)); (· repeat (first | exact Pull.here | apply Pull.there)); (· first | exact rfl | assumption))
  | (apply P_load1o; (· exact ev_of rfl (by with_reducible rfl)); (· repeat (first | exact Pull.here | apply Pull.there)); (· assumption))
  | (apply P_loadA; (· exact ev_of rfl (by with_reducible rfl)); (· repeat (first | exact Pull.here | apply Pull.there)); (· first | assumption | exact rfl); (· exact rfl))
  | (apply P_extract; (· exact ev_of rfl (by with_reducible rfl)); (· exact rfl))
  | (apply P_lenSl; (· exact ev_of rfl (by with_reducible rfl)))
  | (apply P_lenStr; (· exact ev_of rfl (by with_reducible rfl)))
  | (apply P_lenArr; (· exact rfl))
  | (apply P_capSl; (· exact ev_of rfl (by with_reducible rfl)))
  | (apply P_notT; (· exact ev_of rfl (by with_reducible rfl)))
  | (apply P_notF; (· exact ev_of rfl (by with_reducible rfl)))
  | (apply P_not; (· exact ev_of rfl (by with_reducible rfl)))
  | (apply P_add; (· exact ev_of rfl (by with_reducible rfl)); (· exact ev_of rfl (by with_reducible rfl)); (· omega))
  | (apply P_sub; (· exact ev_of rfl (by with_reducible rfl)); (· exact ev_of rfl (by with_reducible rfl)); (· omega))
  | (apply P_mul; (· exact ev_of rfl (by with_reducible rfl)); (· exact ev_of rfl (by with_reducible rfl)); (· omega))
  | (apply P_quo; (· exact ev_of rfl (by with_reducible rfl)); (· exact ev_of rfl (by with_reducible rfl)); (· omega))
  | (apply P_rem; (· exact ev_of rfl (by with_reducible rfl)); (· exact ev_of rfl (by with_reducible rfl)); (· omega))
  | (apply P_lssT; (· exact ev_of rfl (by with_reducible rfl)); (· exact ev_of rfl (by with_reducible rfl)); (· omega))
  | (apply P_lssF; (· exact ev_of rfl (by with_reducible rfl)); (· exact ev_of rfl (by with_reducible rfl)); (· omega))
  | (apply P_leqT; (· exact ev_of rfl (by with_reducible rfl)); (· exact ev_of rfl (by with_reducible rfl)); (· omega))
  | (apply P_leqF; (· exact ev_of rfl (by with_reducible rfl)); (· exact ev_of rfl (by with_reducible rfl)); (· omega))
  | (apply P_gtrT; (· exact ev_of rfl (by with_reducible rfl)); (· exact ev_of rfl (by with_reducible rfl)); (· omega))
  | (apply P_gtrF; (· exact ev_of rfl (by with_reducible rfl)); (· exact ev_of rfl (by with_reducible rfl)); (· omega))
  | (apply P_geqT; (· exact ev_of rfl (by with_reducible rfl)); (· exact ev_of rfl (by with_reducible rfl)); (· omega))
  | (apply P_geqF; (· exact ev_of rfl (by with_reducible rfl)); (· exact ev_of rfl (by with_reducible rfl)); (· omega))
  | (apply P_eqiT; (· exact ev_of rfl (by with_reducible rfl)); (· exact ev_of rfl (by with_reducible rfl)); (· omega))
  | (apply P_eqiF; (· exact ev_of rfl (by with_reducible rfl)); (· exact ev_of rfl (by with_reducible rfl)); (· omega))
  | (apply P_neiT; (· exact ev_of rfl (by with_reducible rfl)); (· exact ev_of rfl (by with_reducible rfl)); (· omega))
  | (apply P_neiF; (· exact ev_of rfl (by with_reducible rfl)); (· exact ev_of rfl (by with_reducible rfl)); (· omega))
  | (apply P_lss; (· exact ev_of rfl (by with_reducible rfl)); (· exact ev_of rfl (by with_reducible rfl)))
  | (apply P_leq; (· exact ev_of rfl (by with_reducible rfl)); (· exact ev_of rfl (by with_reducible rfl)))
  | (apply P_gtr; (· exact ev_of rfl (by with_reducible rfl)); (· exact ev_of rfl (by with_reducible rfl)))
  | (apply P_geq; (· exact ev_of rfl (by with_reducible rfl)); (· exact ev_of rfl (by with_reducible rfl)))
  | (apply P_eqi; (· exact ev_of rfl (by with_reducible rfl)); (· exact ev_of rfl (by with_reducible rfl)))
  | (apply P_nei; (· exact ev_of rfl (by with_reducible rfl)); (· exact ev_of rfl (by with_reducible rfl)))
  | (apply P_eqNilT; (· exact ev_of rfl (by with_reducible rfl)); (· exact ev_of rfl (by with_reducible rfl)))
  | (apply P_eqNilF; (· exact ev_of rfl (by with_reducible rfl)); (· exact ev_of rfl (by with_reducible rfl)))
  | (apply P_neNilT; (· exact ev_of rfl (by with_reducible rfl)); (· exact ev_of rfl (by with_reducible rfl)))
  | (apply P_neNilF; (· exact ev_of rfl (by with_reducible rfl)); (· exact ev_of rfl (by with_reducible rfl)))
  | (apply P_eqNil; (· exact ev_of rfl (by with_reducible rfl)); (· exact ev_of rfl (by with_reducible rfl)))
  | (apply P_neNil; (· exact ev_of rfl (by with_reducible rfl)); (· exact ev_of rfl (by with_reducible rfl)))
  | (apply P_eqStrT; (· exact ev_of rfl (by with_reducible rfl)); (· exact ev_of rfl (by with_reducible rfl)); (· with_reducible rfl))
  | (apply P_eqStrF; (· exact ev_of rfl (by with_reducible rfl)); (· exact ev_of rfl (by with_reducible rfl)); (· assumption))
  | (apply P_neStrT; (· exact ev_of rfl (by with_reducible rfl)); (· exact ev_of rfl (by with_reducible rfl)); (· assumption))
  | (apply P_neStrF; (· exact ev_of rfl (by with_reducible rfl)); (· exact ev_of rfl (by with_reducible rfl)); (· with_reducible rfl))
  | (apply P_eqStr; (· exact ev_of rfl (by with_reducible rfl)); (· exact ev_of rfl (by with_reducible rfl)))
  | (apply P_neStr; (· exact ev_of rfl (by with_reducible rfl)); (· exact ev_of rfl (by with_reducible rfl)))
  | (apply P_eqBoolT; (· exact ev_of rfl (by with_reducible rfl)); (· exact ev_of rfl (by with_reducible rfl)); (· exact rfl))
  | (apply P_eqBoolF; (· exact ev_of rfl (by with_reducible rfl)); (· exact ev_of rfl (by with_reducible rfl)); (· exact rfl))
  | (apply P_neBoolT; (· exact ev_of rfl (by with_reducible rfl)); (· exact ev_of rfl (by with_reducible rfl)); (· exact rfl))
  | (apply P_neBoolF; (· exact ev_of rfl (by with_reducible rfl)); (· exact ev_of rfl (by with_reducible rfl)); (· exact rfl))
  | (apply P_eqBool; (· exact ev_of rfl (by with_reducible rfl)); (· exact ev_of rfl (by with_reducible rfl)))
  | (apply P_neBool; (· exact ev_of rfl (by with_reducible rfl)); (· exact ev_of rfl (by with_reducible rfl)))
  | (apply P_indexSl01; (· exact ev_of rfl (by with_reducible rfl)); (· exact ev_of rfl (by with_reducible rfl)); (· omega))
  | (apply P_indexSl0; (· exact ev_of rfl (by with_reducible rfl)); (· exact ev_of rfl (by with_reducible rfl)); (· omega))
  | (apply P_indexSl; (· exact ev_of rfl (by with_reducible rfl)); (· exact ev_of rfl (by with_reducible rfl)); (· omega))
  | (apply P_indexArr01; (· exact ev_of rfl (by with_reducible rfl)); (· exact ev_of rfl (by with_reducible rfl)); (· omega))
  | (apply P_indexArr; (· exact ev_of rfl (by with_reducible rfl)); (· exact ev_of rfl (by with_reducible rfl)); (· omega))
  | (apply P_indexArr'; (· exact ev_of rfl (by with_reducible rfl)); (· exact ev_of rfl (by with_reducible rfl)); (· omega))
  | (apply P_indexSl'; (· exact ev_of rfl (by with_reducible rfl)); (· exact ev_of rfl (by with_reducible rfl)); (· omega))
  | (apply P_pickT; (· exact ev_of rfl (by with_reducible rfl)); (· exact rfl))
  | (apply P_pickF; (· exact ev_of rfl (by with_reducible rfl)); (· exact rfl))
  | (apply P_pick; (· exact ev_of rfl (by with_reducible rfl)); (· exact ev_of rfl (by with_reducible rfl)); (· exact ev_of rfl (by with_reducible rfl)))
  | (apply P_field1; (· exact ev_of rfl (by with_reducible rfl)); (· exact rfl))
  | (apply P_fieldA; (· exact ev_of rfl (by with_reducible rfl)); (· exact rfl))
  | (apply P_makeFunc; (· exact rfl); (· exact rfl))
  | (apply P_convInt; (· exact ev_of rfl (by with_reducible rfl)); (· exact rfl))
  | (apply P_build; (· exact rfl); (· exact rfl); (· simp only [fillL, splice, cellsL, List.getElem?_cons_zero, List.getElem?_cons_succ, Option.getD_some, List.take, List.drop, List.cons_append, List.nil_append, List.append_nil, Nat.zero_add, Nat.reduceAdd, List.toList_toArray]; exact rfl))
  | apply P_buildZ
  | (apply P_min; (· exact ev_of rfl (by with_reducible rfl)); (· exact ev_of rfl (by with_reducible rfl)))
  | (apply P_max; (· exact ev_of rfl (by with_reducible rfl)); (· exact ev_of rfl (by with_reducible rfl)))
  | (apply P_neg; (· exact ev_of rfl (by with_reducible rfl)))
  | (apply P_addStr; (· exact ev_of rfl (by with_reducible rfl)); (· exact ev_of rfl (by with_reducible rfl)); (· first | omega | (simp only [List.length_append, List.length_cons, List.length_nil, List.length_take, List.length_drop]; omega)))
  | (apply P_shr8; (· exact ev_of rfl (by with_reducible rfl)); (· exact ev_of rfl (by with_reducible rfl)))
  | (apply P_shl8; (· exact ev_of rfl (by with_reducible rfl)); (· exact ev_of rfl (by with_reducible rfl)))
  | (apply P_idxStr; (· exact ev_of rfl (by with_reducible rfl)); (· exact rfl); (· exact rfl); (· first | exact rfl | assumption))
  | (apply P_idxArr; (· exact ev_of rfl (by with_reducible rfl)); (· exact ev_of rfl (by with_reducible rfl)); (· omega); (· first | exact rfl | assumption))))
  | (apply L_store1; (· exact ev_of rfl (by with_reducible rfl)); (· exact rfl); (· exact rfl); (· exact rfl); (· repeat (first | exact Rep.here | apply Rep.there)); (· simp only [List.set_cons_zero, List.set_cons_succ]; exact rfl); (· simp))
  | (apply L_storeAll; (· exact ev_of rfl (by with_reducible rfl)); (· exact rfl); (· repeat (first | exact Rep.here | apply Rep.there)); (· exact rfl); (· exact rfl); (· exact rfl))
  | (apply L_guardT; (· exact rfl); (· exact rfl))
  | (apply L_guardF; (· exact rfl); (· exact rfl))
  | (apply L_guardU; (· exact rfl); (· exact rfl))
  | (apply L_box; (· exact rfl); (· exact rfl); (· exact rfl))
  | (apply L_alloc; (· exact rfl))
  | (apply L_buildSl; (· exact rfl); (· exact rfl); (· decide); (· exact rfl); (· simp only [fill1, List.replicate, List.set]; exact rfl))
  | apply QL_nil
  | (apply QL_P; (· exact rfl); (· first
  | (apply P_move; (· exact rfl))
  | (apply P_assign; (· exact rfl))
  | (apply P_nilCheck; (· exact ev_of rfl (by with_reducible rfl)))
  | (apply P_nilCheckF; (· exact ev_of rfl (by with_reducible rfl)))
  | (apply P_fieldAddr0; (· exact ev_of rfl (by with_reducible rfl)))
  | (apply P_fieldAddrS; (· exact ev_of rfl (by with_reducible rfl)))
  | (apply P_fieldAddr'; (· exact ev_of rfl (by with_reducible rfl)))
  | (apply P_load1; (· exact ev_of rfl (by with_reducible rfl)); (· repeat (first | exact Pull.here | apply Pull.there)); (· first | exact rfl | assumption))
  | (apply P_load1o; (· exact ev_of rfl (by with_reducible rfl)); (· repeat (first | exact Pull.here | apply Pull.there)); (· assumption))
  | (apply P_loadA; (· exact ev_of rfl (by with_reducible rfl)); (· repeat (first | exact Pull.here | apply Pull.there)); (· first | assumption | exact rfl); (· exact rfl))
  | (apply P_extract; (· exact ev_of rfl (by with_reducible rfl)); (· exact rfl))
  | (apply P_lenSl; (· exact ev_of rfl (by with_reducible rfl)))
  | (apply P_lenStr; (· exact ev_of rfl (by with_reducible rfl)))
  | (apply P_lenArr; (· exact rfl))
  | (apply P_capSl; (· exact ev_of rfl (by with_reducible rfl)))
  | (apply P_notT; (· exact ev_of rfl (by with_reducible rfl)))
  | (apply P_notF; (· exact ev_of rfl (by with_reducible rfl)))
  | (apply P_not; (· exact ev_of rfl (by with_reducible rfl)))
  | (apply P_add; (· exact ev_of rfl (by with_reducible rfl)); (· exact ev_of rfl (by with_reducible rfl)); (· omega))
  | (apply P_sub; (· exact ev_of rfl (by with_reducible rfl)); (· exact ev_of rfl (by with_reducible rfl)); (· omega))
  | (apply P_mul; (· exact ev_of rfl (by with_reducible rfl)); (· exact ev_of rfl (by with_reducible rfl)); (· omega))
  | (apply P_quo; (· exact ev_of rfl (by with_reducible rfl)); (· exact ev_of rfl (by with_reducible rfl)); (· omega))
  | (apply P_rem; (· exact ev_of rfl (by with_reducible rfl)); (· exact ev_of rfl (by with_reducible rfl)); (· omega))
  | (apply P_lssT; (· exact ev_of rfl (by with_reducible rfl)); (· exact ev_of rfl (by with_reducible rfl)); (· omega))
  | (apply P_lssF; (· exact ev_of rfl (by with_reducible rfl)); (· exact ev_of rfl (by with_reducible rfl)); (· omega))
  | (apply P_leqT; (· exact ev_of rfl (by with_reducible rfl)); (· exact ev_of rfl (by with_reducible rfl)); (· omega))
  | (apply P_leqF; (· exact ev_of rfl (by with_reducible rfl)); (· exact ev_of rfl (by with_reducible rfl)); (· omega))
  | (apply P_gtrT; (· exact ev_of rfl (by with_reducible rfl)); (· exact ev_of rfl (by with_reducible rfl)); (· omega))
  | (apply P_gtrF; (· exact ev_of rfl (by with_reducible rfl)); (· exact ev_of rfl (by with_reducible rfl)); (· omega))
  | (apply P_geqT; (· exact ev_of rfl (by with_reducible rfl)); (· exact ev_of rfl (by with_reducible rfl)); (· omega))
  | (apply P_geqF; (· exact ev_of rfl (by with_reducible rfl)); (· exact ev_of rfl (by with_reducible rfl)); (· omega))
  | (apply P_eqiT; (· exact ev_of rfl (by with_reducible rfl)); (· exact ev_of rfl (by with_reducible rfl)); (· omega))
  | (apply P_eqiF; (· exact ev_of rfl (by with_reducible rfl)); (· exact ev_of rfl (by with_reducible rfl)); (· omega))
  | (apply P_neiT; (· exact ev_of rfl (by with_reducible rfl)); (· exact ev_of rfl (by with_reducible rfl)); (· omega))
  | (apply P_neiF; (· exact ev_of rfl (by with_reducible rfl)); (· exact ev_of rfl (by with_reducible rfl)); (· omega))
  | (apply P_lss; (· exact ev_of rfl (by with_reducible rfl)); (· exact ev_of rfl (by with_reducible rfl)))
  | (apply P_leq; (· exact ev_of rfl (by with_reducible rfl)); (· exact ev_of rfl (by with_reducible rfl)))
  | (apply P_gtr; (· exact ev_of rfl (by with_reducible rfl)); (· exact ev_of rfl (by with_reducible rfl)))
  | (apply P_geq; (· exact ev_of rfl (by with_reducible rfl)); (· exact ev_of rfl (by with_reducible rfl)))
  | (apply P_eqi; (· exact ev_of rfl (by with_reducible rfl)); (· exact ev_of rfl (by with_reducible rfl)))
  | (apply P_nei; (· exact ev_of rfl (by with_reducible rfl)); (· exact ev_of rfl (by with_reducible rfl)))
  | (apply P_eqNilT; (· exact ev_of rfl (by with_reducible rfl)); (· exact ev_of rfl (by with_reducible rfl)))
  | (apply P_eqNilF; (· exact ev_of rfl (by with_reducible rfl)); (· exact ev_of rfl (by with_reducible rfl)))
  | (apply P_neNilT; (· exact ev_of rfl (by with_reducible rfl)); (· exact ev_of rfl (by with_reducible rfl)))
  | (apply P_neNilF; (· exact ev_of rfl (by with_reducible rfl)); (· exact ev_of rfl (by with_reducible rfl)))
  | (apply P_eqNil; (· exact ev_of rfl (by with_reducible rfl)); (· exact ev_of rfl (by with_reducible rfl)))
  | (apply P_neNil; (· exact ev_of rfl (by with_reducible rfl)); (· exact ev_of rfl (by with_reducible rfl)))
  | (apply P_eqStrT; (· exact ev_of rfl (by with_reducible rfl)); (· exact ev_of rfl (by with_reducible rfl)); (· with_reducible rfl))
  | (apply P_eqStrF; (· exact ev_of rfl (by with_reducible rfl)); (· exact ev_of rfl (by with_reducible rfl)); (· assumption))
  | (apply P_neStrT; (· exact ev_of rfl (by with_reducible rfl)); (· exact ev_of rfl (by with_reducible rfl)); (· assumption))
  | (apply P_neStrF; (· exact ev_of rfl (by with_reducible rfl)); (· exact ev_of rfl (by with_reducible rfl)); (· with_reducible rfl))
  | (apply P_eqStr; (· exact ev_of rfl (by with_reducible rfl)); (· exact ev_of rfl (by with_reducible rfl)))
  | (apply P_neStr; (· exact ev_of rfl (by with_reducible rfl)); (· exact ev_of rfl (by with_reducible rfl)))
  | (apply P_eqBoolT; (· exact ev_of rfl (by with_reducible rfl)); (· exact ev_of rfl (by with_reducible rfl)); (· exact rfl))
  | (apply P_eqBoolF; (· exact ev_of rfl (by with_reducible rfl)); (· exact ev_of rfl (by with_reducible rfl)); (· exact rfl))
  | (apply P_neBoolT; (· exact ev_of rfl (by with_reducible rfl)); (· exact ev_of rfl (by with_reducible rfl)); (· exact rfl))
  | (apply P_neBoolF; (· exact ev_of rfl (by with_reducible rfl)); (· exact ev_of rfl (by with_reducible rfl)); (· exact rfl))
  | (apply P_eqBool; (· exact ev_of rfl (by with_reducible rfl)); (· exact ev_of rfl (by with_reducible rfl)))
  | (apply P_neBool; (· exact ev_of rfl (by with_reducible rfl)); (· exact ev_of rfl (by with_reducible rfl)))
  | (apply P_indexSl01; (· exact ev_of rfl (by with_reducible rfl)); (· exact ev_of rfl (by with_reducible rfl)); (· omega))
  | (apply P_indexSl0; (· exact ev_of rfl (by with_reducible rfl)); (· exact ev_of rfl (by with_reducible rfl)); (· omega))
  | (apply P_indexSl; (· exact ev_of rfl (by with_reducible rfl)); (· exact ev_of rfl (by with_reducible rfl)); (· omega))
  | (apply P_indexArr01; (· exact ev_of rfl (by with_reducible rfl)); (· exact ev_of rfl (by with_reducible rfl)); (· omega))
  | (apply P_indexArr; (· exact ev_of rfl (by with_reducible rfl)); (· exact ev_of rfl (by with_reducible rfl)); (· omega))
  | (apply P_indexArr'; (· exact ev_of rfl (by with_reducible rfl)); (· exact ev_of rfl (by with_reducible rfl)); (· omega))
  | (apply P_indexSl'; (· exact ev_of rfl (by with_reducible rfl)); (· exact ev_of rfl (by with_reducible rfl)); (· omega))
  | (apply P_pickT; (· exact ev_of rfl (by with_reducible rfl)); (· exact rfl))
  | (apply P_pickF; (· exact ev_of rfl (by with_reducible rfl)); (· exact rfl))
  | (apply P_pick; (· exact ev_of rfl (by with_reducible rfl)); (· exact ev_of rfl (by with_reducible rfl)); (· exact ev_of rfl (by with_reducible rfl)))
  | (apply P_field1; (· exact ev_of rfl (by with_reducible rfl)); (· exact rfl))
  | (apply P_fieldA; (· exact ev_of rfl (by with_reducible rfl)); (· exact rfl))
  | (apply P_makeFunc; (· exact rfl); (· exact rfl))
  | (apply P_convInt; (· exact ev_of rfl (by with_reducible rfl)); (· exact rfl))
  | (apply P_build; (· exact rfl); (· exact rfl); (· simp only [fillL, splice, cellsL, List.getElem?_cons_zero, List.getElem?_cons_succ, Option.getD_some, List.take, List.drop, List.cons_append, List.nil_append, List.append_nil, Nat.zero_add, Nat.reduceAdd, List.toList_toArray]; exact rfl))
  | apply P_buildZ
  | (apply P_min; (· exact ev_of rfl (by with_reducible rfl)); (· exact ev_of rfl (by with_reducible rfl)))
  | (apply P_max; (· exact ev_of rfl (by with_reducible rfl)); (· exact ev_of rfl (by with_reducible rfl)))
  | (apply P_neg; (· exact ev_of rfl (by with_reducible rfl)))
  | (apply P_addStr; (· exact ev_of rfl (by with_reducible rfl)); (· exact ev_of rfl (by with_reducible rfl)); (· first | omega | (simp only [List.length_append, List.length_cons, List.length_nil, List.length_take, List.length_drop]; omega)))
  | (apply P_shr8; (· exact ev_of rfl (by with_reducible rfl)); (· exact ev_of rfl (by with_reducible rfl)))
  | (apply P_shl8; (· exact ev_of rfl (by with_reducible rfl)); (· exact ev_of rfl (by with_reducible rfl)))
  | (apply P_idxStr; (· exact ev_of rfl (by with_reducible rfl)); (· exact rfl); (· exact rfl); (· first | exact rfl | assumption))
  | (apply P_idxArr; (· exact ev_of rfl (by with_reducible rfl)); (· exact ev_of rfl (by with_reducible rfl)); (· omega); (· first | exact rfl | assumption))))
  | (apply QL_guardT; (· exact rfl))
  | (apply QL_guardF; (· exact rfl); (· exact rfl))
  | (apply QL_guardU; (· exact rfl); (· exact rfl))))
  exact hA.out) : B := h ⟨a⟩
theorem retA {P : Program} {fn : Func} {R : Value → Hp → Prop} {H1 : Hp} {rs : List ResultVar} {vs : List Value} (q : ∃ H2, R (resVal vs) H2 ∧ Sub H2 H1) (hf : fn.results.toList = rs := by exact rfl) (hm : Marks ds H H1 := by exact marksA)
    (hr : ResL P l H1 rs vs := by exact reslA) : retQ P fn R .ret l ds H := by
  obtain ⟨H2, h, hs⟩ := q
  exact retQ_ret hf hm hr h hs
theorem retB {P : Program} {fn : Func} {R : Value → Hp → Prop} {H1 : Hp} {rs : List ResultVar} {vs : List Value} (q : ∃ H2, R (resVal vs) H2 ∧ Sub H2 H1) (hf : fn.results.toList = rs := by exact rfl) (hm : Marks ds H H1 := by exact marksA)
    (hr : ResL P l H1 rs vs := by exact reslA) : retQ P fn R .normal l ds H := by
  obtain ⟨H2, h, hs⟩ := q
  exact retQ_end hf hm hr h hs
theorem callA {g : Operand} {az : List Operand} {ts : Array TypeId} {f : FuncId} {cap : List Value} {vs : List Value} 
    (q : ∃ Hf R, Spec X.P f (vs ++ cap) Hf R ∧ ∃ R0, Cut Hf H R0 ∧ ∀ v H', R v H' → L X ops rest Q ((d, v) :: l) ds (H' ++ R0))
    (hlt : Nat.blt d X.n = true := by exact rfl) (hg : ev l g = some (.func (.func f) #[] cap.toArray) := by exact evA) (T : FnOk X.P f := by infer_instance) (hx : evs l az = some vs := by exact rfl) :
    L X ops ({ dst := some d, op := .call { callee := .value g, args := az.toArray, argTypes := ts }, type := ty, pos, after, guard := none } :: rest) Q l ds H := by
  obtain ⟨Hf, R, hs, R0, hc, h⟩ := q
  exact L_call hlt hg T hx hs hc h
theorem ldA {x : Operand} {t b o : Nat} [T : Ty X.P t 1 false] {R : Hp} {Lb : List Value} {E : TypeId} (q : ∃ v, Lb[o]? = some v ∧ L X ops rest Q ((d, v) :: l) ds H)
    (hlt : Nat.blt d X.n = true := by exact rfl) (hx : ev l x = some (.pointer (some ⟨b, o, none⟩)) := by exact evA) (hp : Pull H (b, .cells Lb E) R := by exact pullA) :
    L X ops ({ dst := some d, op := .load t x, type := ty, pos, after, guard := none } :: rest) Q l ds H := by
  obtain ⟨v, hv, h⟩ := q
  exact L_P hlt rfl (P_load1 hx hp hv) h
theorem qldA {x : Operand} {t b o : Nat} [T : Ty X.P t 1 false] {R : Hp} {Lb : List Value} {E : TypeId} (q : ∃ v, Lb[o]? = some v ∧ QL X ops rest K ((d, v) :: l) ds H)
    (hlt : Nat.blt d X.n = true := by exact rfl) (hx : ev l x = some (.pointer (some ⟨b, o, none⟩)) := by exact evA) (hp : Pull H (b, .cells Lb E) R := by exact pullA) :
    QL X ops ({ dst := some d, op := .load t x, type := ty, pos, after, guard := none } :: rest) K l ds H := by
  obtain ⟨v, hv, h⟩ := q
  exact QL_P hlt (P_load1 hx hp hv) h
end auto
end Go.Proofs.YtcpfmjlceoiofaaGreatDoor
