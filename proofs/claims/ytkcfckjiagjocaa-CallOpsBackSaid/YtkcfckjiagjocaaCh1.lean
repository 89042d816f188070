/-
  Operations: what their bytes are; WriteString.
-/
import Derived.Test.YtkcfckjiagjocaaCg1
import Derived.Test.YtkcfckjiagjocaaE15
namespace Go.Proofs.Ytkcfckjiagjocaa
open Go.RowKit
attribute [local irreducible] W L QL PureOp thenQ blockQ retQ Spec IterOk YSpec roundQ scopeQ noGoQ
attribute [local irreducible] AS ASi
set_option maxHeartbeats 1600000
structure OpV where
  num : Int
  delta : Int
  flags : Int
abbrev OpV.cells (x : OpV) : List Value := [.int .i64 x.num, .int .i64 x.delta, .int .i64 x.flags]
def ocells : List OpV → List Value
  | [] => []
  | x :: l => x.cells ++ ocells l
theorem ocells_append : ∀ (a b : List OpV), ocells (a ++ b) = ocells a ++ ocells b
  | [], _ => rfl
  | x :: a, b => by simp only [List.cons_append, ocells, ocells_append a b]; rfl
theorem ocells_len : ∀ l : List OpV, (ocells l).length = l.length * 3
  | [] => rfl
  | x :: l => by simp [ocells, ocells_len l]; omega
theorem ocells_one : ∀ (l : List OpV), ∀ u ∈ ocells l, u.oneCell' = true
  | [], _, h => by simp [ocells] at h
  | x :: l, u, h => by
    simp only [ocells, List.mem_append] at h
    rcases h with h | h
    · simp at h; rcases h with rfl | rfl | rfl <;> rfl
    · exact ocells_one l u h
theorem ocells_get : ∀ {l : List OpV} {k : Nat} {x : OpV} (ys : List Value), l[k]? = some x → ((ocells l ++ ys).drop (k * 3)).take 3 = x.cells
  | y :: l, 0, x, ys, h => by
    simp at h; subst h; rfl
  | y :: l, k + 1, x, ys, h => by
    have ih := ocells_get (l := l) (k := k) (x := x) ys (by simpa using h)
    rw [show (k + 1) * 3 = 3 + k * 3 by omega, ← List.drop_drop]
    exact ih
/-- ops lie in a block, from o on -/
def OpsAt (M : List Value) (o : Nat) (l : List OpV) : Prop := ∀ (k : Nat) (x : OpV), l[k]? = some x → (M.drop (o + k * 3)).take 3 = x.cells
theorem OpsAt.cell {M : List Value} {o : Nat} {l : List OpV} (h : OpsAt M o l) {k : Nat} {x : OpV} (hx : l[k]? = some x) (j : Nat) (hj : j < 3) : M[o + k * 3 + j]? = x.cells[j]? := by
  rw [← h k x hx, List.getElem?_take, if_pos hj, List.getElem?_drop]
abbrev OpOk (x : OpV) : Prop := Sh x.delta ∧ (0 ≤ x.num ∧ x.num ≤ 255) ∧ (0 ≤ x.flags ∧ x.flags ≤ 255)
abbrev opB (x : OpV) : List UInt8 := [byteOf x.num] ++ twos [x.delta] ++ [byteOf x.flags]
def opsB : List OpV → List UInt8
  | [] => []
  | x :: l => opB x ++ opsB l
theorem opsB_len : ∀ l : List OpV, (opsB l).length = 4 * l.length
  | [] => rfl
  | x :: l => by simp [opsB, opsB_len l, twos]; omega
theorem opsB_snoc (x : OpV) : ∀ l : List OpV, opsB (l ++ [x]) = opsB l ++ opB x
  | [] => by simp [opsB]
  | y :: l => by simp only [List.cons_append, opsB, opsB_snoc x l, List.append_assoc]
def AllOk (l : List OpV) : Prop := ∀ (k : Nat) (x : OpV), l[k]? = some x → OpOk x
theorem wstring (b : Nat) (p a : Option Addr) (n cap : Nat) (t s : List UInt8) (Hs : Hp) (hp : p = none ∨ p = some ⟨b, 0, none⟩) (how : oB a n cap t Hs) (h0 : 0 < s.length) (hn : n + s.length ≤ 100000) :
    Spec Try.prog 37 [pB b, str s] (bld b p a n cap :: Hs) fun u H' => u = .tuple #[.int .i64 (s.length : Int), .nilIface] ∧ ∃ a' cap' Hs', oB a' (n + s.length) cap' (t ++ s) Hs' ∧ H' = bld b (some ⟨b, 0, none⟩) a' (n + s.length) cap' :: Hs' := by
  refine Spec_body Try.func37 rfl Try.ntmps37 rfl (fun w0 => ?_)
  repeat (first | refine stepA ?_ | intro _)
  refine callA ?_; refine ⟨_, _, copy_spec b p _ hp, _, cutA, ?_⟩
  rintro u H' ⟨rfl, rfl⟩
  simp only [List.cons_append, List.nil_append]
  repeat (first | refine stepA ?_ | intro _)
  apply L_appendStr
  · exact rfl
  · exact evA
  · exact evA
  · kernel_rfl
  · exact how
  · exact tailA
  · exact h0
  · omega
  rintro g cap' ys h1 h2 h3
  have hl := how.len
  simp at hl
  repeat (first | refine stepA ?_ | intro _)
  (first | refine retA ?_ | refine retB ?_)
  exact ⟨_, ⟨rfl, _, _, _, Own.blk (ys := ys) (by simp; omega) (by omega) h2 h3, rfl⟩, subT⟩
end Go.Proofs.Ytkcfckjiagjocaa
