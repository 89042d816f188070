/-
  The walk's own small calculus, thirteenth part: calls on an opaque tail of the heap; strings.Builder's operations.
-/
import Derived.Test.YteahdmldipokeaaE12
import Derived.Lib.Builder
import Derived.Lib.UnsafeStr
import Derived.Laws.Externs
namespace Go.Proofs.Yteahdmldipokeaa
open Go.RowKit
section rules
variable {X : Cx} {Q : PostT} {l : St} {ds : List Deferred} {H : Hp} {ops : Array Oper} {rest : List Oper}
variable {d ty : Nat} {pos : String} {after : Array Edge}
/-- an entry without a body, that only gives what it is given -/
theorem P_extern {g : Operand} {as : List Operand} {ts : Array TypeId} {f : FuncId} {vs : List Value} {v : Value} (hg : ev l g = some (.func (.func f) #[] #[])) (hx : evs l as = some vs)
    (he : ∀ w, (callFunc f vs.toArray).run X.P w = .ok (.value v) w) :
    PureOp X H l { dst := some d, op := .call { callee := .value g, args := as.toArray, argTypes := ts }, type := ty, pos, after, guard := none } v :=
  fun ρ hρ w _ => by
    have e1 : as.map ρ = vs := evs_fits hx ρ hρ
    simp only [execOp, resolve, hρ _ _ hg, Deferred.ofValue, Sem.run_bind, Sem.run_pure, Result.andThen_ok, invoke]
    have e2 : (#[] ++ Array.map ρ as.toArray ++ #[] : Array Value) = vs.toArray := by simp [e1]
    rw [e2]
    exact he w
theorem shape_of {H : Hp} {w : World} (h : Has H w) {b : Nat} {Lb : List Value} {E : TypeId} (hm : (b, Blk.cells Lb E) ∈ H) : w.shape? b = some (E, Lb.length) := by
  have := h.rd _ _ hm
  simp only [Blk.obj] at this
  simp [World.shape?, this]
theorem P_toUnsafe {x : Operand} {s t u b o : Nat} {j : TypeInfo} {R : Hp} {Lb : List Value} {E : TypeId} (hx : ev l x = some (.pointer (some ⟨b, o, none⟩))) (hp : Pull H (b, .cells Lb E) R)
    (hs : X.P.underlying s = some (.pointer t)) (hd : X.P.underlying u = some .unsafePointer) (ht : X.P.info? t = some j) (hj : j.size ≠ 0) (ho : o < Lb.length) :
    PureOp X H l { dst := some d, op := .convert s u x, type := ty, pos, after, guard := none } (.pointer (some ⟨b, o, none⟩)) :=
  fun ρ hρ w hw => by
    have hm : (b, Blk.cells Lb E) ∈ H := hp.perm.mem_iff.2 (by simp)
    have e := Lib.run_to_unsafe (P := X.P) w ⟨b, o, none⟩ hs hd ht hj (shape_of hw.has hm) ho
    simp [execOp, hρ x _ hx, Sem.run_bind, e]
theorem P_fromUnsafe {x : Operand} {s t u b o : Nat} {j : TypeInfo} {R : Hp} {Lb : List Value} {E : TypeId} (hx : ev l x = some (.pointer (some ⟨b, o, none⟩))) (hp : Pull H (b, .cells Lb E) R)
    (hs : X.P.underlying s = some .unsafePointer) (hd : X.P.underlying u = some (.pointer t)) (ht : X.P.info? t = some j) (hl : liesAt X.P X.P.depth E (Lb.length / X.P.cellsOf E) o t 1 = true) :
    PureOp X H l { dst := some d, op := .convert s u x, type := ty, pos, after, guard := none } (.pointer (some ⟨b, o, none⟩)) :=
  fun ρ hρ w hw => by
    have hm : (b, Blk.cells Lb E) ∈ H := hp.perm.mem_iff.2 (by simp)
    have e := Lib.run_from_unsafe (P := X.P) w ⟨b, o, none⟩ hs hd ht (shape_of hw.has hm) hl
    simp [execOp, hρ x _ hx, Sem.run_bind, e]
theorem P_neqPtrSame {x y : Operand} {t u e : Nat} {j : TypeInfo} {a : Addr} (hx : ev l x = some (.pointer (some a))) (hy : ev l y = some (.pointer (some a))) (hs : X.P.underlying t = some (.pointer e)) (ht : X.P.info? e = some j) :
    PureOp X H l { dst := some d, op := .binOp .neq t x y u, type := ty, pos, after, guard := none } (.bool false) :=
  P_binq hx hy (fun w => by simp [eqGuard]) (fun w => Lib.run_neq_ptr_same w a hs ht)
theorem P_sliceData {x : Operand} {t n c : Nat} {a : Addr} (hx : ev l x = some (.slice (some a) n c)) (hc : c ≠ 0) :
    PureOp X H l { dst := some d, op := .call { callee := .builtin .unsafeSliceData, args := #[x], argTypes := #[t] }, type := ty, pos, after, guard := none } (.pointer (some a)) :=
  P_builtin (as := [x]) (fits1 hx) (fun cs w => by simp [builtin, Sem.run_bind, Lib.run_unsafeSliceData_row (P := X.P) w #[t] ty a n c hc])
theorem P_sliceDataNil {x : Operand} {t n c : Nat} (hx : ev l x = some (.slice none n c)) :
    PureOp X H l { dst := some d, op := .call { callee := .builtin .unsafeSliceData, args := #[x], argTypes := #[t] }, type := ty, pos, after, guard := none } (.pointer none) :=
  P_builtin (as := [x]) (fits1 hx) (fun cs w => by simp [builtin, Sem.run_bind, Lib.run_unsafeSliceData_nil (P := X.P) w #[t] ty n c])
theorem P_unsafeStringNone {x y : Operand} {t u : Nat} {p : Option Addr} (hx : ev l x = some (.pointer p)) {z : Int} (hy : ev l y = some (.int .i64 z)) (hz : z = 0) :
    PureOp X H l { dst := some d, op := .call { callee := .builtin .unsafeString, args := #[x, y], argTypes := #[t, u] }, type := ty, pos, after, guard := none } (str []) :=
  P_builtin (as := [x, y]) (fits2 hx hy) (fun cs w => by subst hz; simp [builtin, Sem.run_bind, Lib.run_unsafeString_none (P := X.P) w t u ty p]; rfl)
theorem L_unsafeString {x y : Operand} {t u e g n : Nat} {R : Hp} {Lb : List Value} {s : List UInt8} (hlt : Nat.blt d X.n = true) (hx : ev l x = some (.pointer (some ⟨g, 0, none⟩))) (hy : ev l y = some (.int .i64 (n : Int)))
    (hp : Pull H (g, .cells Lb e) R) (ht : X.P.underlying t = some (.pointer e)) (hc : X.P.cellsOf e = 1) (hs : Lb.take n = bts s) (hl : s.length = n) (h0 : s ≠ []) (hm : n ≤ 9223372036854775807)
    (h : L X ops rest Q ((d, str s) :: l) ds R) :
    L X ops ({ dst := some d, op := .call { callee := .builtin .unsafeString, args := #[x, y], argTypes := #[t, u] }, type := ty, pos, after, guard := none } :: rest) Q l ds H :=
  L_val rfl rfl hlt (fun _ e => by cases e) fun ρ hρ w hw => by
    subst hl
    have hmem : (g, Blk.cells Lb e) ∈ H := hp.perm.mem_iff.2 (by simp)
    have hlen : s.length ≤ Lb.length := by
      have := congrArg List.length hs
      simp at this; omega
    have hrun := Lib.run_unsafeString_row (P := X.P) w t u ty e ht hc g Lb.length (shape_of hw.has hmem) s h0 hlen (by omega) (fun j c hj => by
      rw [addr_add, cells_rd hw.has hmem, Nat.zero_add]
      have h1 : (bts s)[j]? = some (.int .u8 c.toNat) := by simp [bts, hj]
      rw [← hs, List.getElem?_take] at h1
      split at h1
      · exact h1
      · cases h1)
    have hw1 := hw.perm hp.perm
    have hg := hw1.has.rd g (.cells Lb e) (by simp)
    simp only [Blk.obj] at hg
    have hgR : g ∉ keys R := fun hk => hw1.has.apart (A := [(g, Blk.cells Lb e)]) (B := R) (by simp [keys]) hk
    have hne : ∀ k, k ≠ g → (w.freeze ⟨g, 0, none⟩ s.length).heap[k]? = w.heap[k]? := fun k hk => by
      unfold World.freeze
      split
      · rfl
      · simp only [Array.getElem?_modify]
        rw [if_neg (fun e => hk e.symm)]
    have hos : (w.freeze ⟨g, 0, none⟩ s.length).os = w.os ∧ (w.freeze ⟨g, 0, none⟩ s.length).tape = w.tape ∧ (w.freeze ⟨g, 0, none⟩ s.length).output = w.output ∧ (w.freeze ⟨g, 0, none⟩ s.length).heap.size = w.heap.size := by
      unfold World.freeze
      split
      · exact ⟨rfl, rfl, rfl, rfl⟩
      · exact ⟨rfl, rfl, rfl, by simp⟩
    refine ⟨str s, w.freeze ⟨g, 0, none⟩ s.length, R, ?_, ?_, h⟩
    · simp only [execOp, resolve, Sem.run_bind, Sem.run_pure, Result.andThen_ok, invoke]
      simp only [List.map_toArray, List.map_cons, List.map_nil, hρ x _ hx, hρ y _ hy, builtin, Sem.run_bind, hrun, Result.andThen_ok, Sem.run_pure]
    · have hr := hw1.right (A := [(g, Blk.cells Lb e)])
      refine ⟨⟨hr.has.nd, fun c k hk => ?_⟩, hw1.fr.trans' (L := [g]) ⟨hos.1, hos.2.1, hos.2.2.1, by rw [hos.2.2.2]; exact Nat.le_refl _, fun k _ hk => hne k (by simpa using hk)⟩ (fun i hi => ?_), hr.own⟩
      · rw [hne c (fun e => hgR (e ▸ mem_keys hk))]
        exact hr.has.rd c k hk
      · simp only [List.mem_singleton] at hi
        subst hi
        exact hw1.own i (by simp [keys])
end rules
end Go.Proofs.Yteahdmldipokeaa
