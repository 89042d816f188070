/-
  Messages: the law's cut, of a list of the call's own or of one that was handed in (the text's two forms).
-/
import Derived.Test.YthachclpelhaiaaMf5
namespace Go.Proofs.Ythachclpelhaiaa
section rules
variable {X : Cx} {l : St} {H : Hp} {d ty : Nat} {pos : String} {after : Array Edge}
theorem P_slStrC {x : Operand} {lo hi : Option Operand} {t a b : Nat} {s s2 : List UInt8} [T : TyStr X.P t] (hx : ev l x = some (str s)) (hlo : Bound l lo 0 a) (hhi : Bound l hi s.length b) (h : a ≤ b ∧ b ≤ s.length) (e : (s.drop a).take (b - a) = s2) :
    PureOp X H l { dst := some d, op := .slice t x lo hi none, type := ty, pos, after, guard := none } (str s2) := PureOp.cast (P_slStr hx hlo hhi h) (by rw [e])
end rules
theorem take_min (s : List UInt8) (k : Nat) : (s.drop 0).take (min s.length k - 0) = s.take k := by
  rw [List.drop_zero, Nat.sub_zero]
  by_cases h : s.length ≤ k
  · rw [Nat.min_eq_left h, List.take_of_length_le (Nat.le_refl _), List.take_of_length_le h]
  · rw [Nat.min_eq_right (by omega)]
/-- messages that lie in a block from an offset on -/
def MsgsIn (M : List Value) (o : Nat) (l : List MsgV) : Prop := ∀ (k : Nat) (x : MsgV), l[k]? = some x → (M.drop (o + k * 2)).take 2 = x.cells
theorem MsgsIn.cell {M : List Value} {o : Nat} {l : List MsgV} (h : MsgsIn M o l) {k : Nat} {x : MsgV} (hx : l[k]? = some x) (j : Nat) (hj : j < 2) : M[o + k * 2 + j]? = x.cells[j]? := by
  rw [← h k x hx, List.getElem?_take, if_pos hj, List.getElem?_drop]
theorem msgsIn_own (l : List MsgV) (ys : List Value) : MsgsIn (mcells l ++ ys) 0 l := fun k x hk => by
  rw [Nat.zero_add]; exact mcells_get ys hk
abbrev cutL (l : List MsgV) : List MsgV := (l.take 20).map (cutM · 40)
open Go.RowKit
attribute [local irreducible] W L QL PureOp thenQ blockQ retQ Spec IterOk YSpec roundQ scopeQ noGoQ
attribute [local irreducible] AS ASi IterOkC
set_option maxHeartbeats 3200000
abbrev mlkI (M : Array Value) (E : TypeId) (_ : Nat × Nat) : Blk := .cells M.toList E
theorem cut_zero (p : Option Addr) (c : Nat) : Spec Try.prog 11 [.slice p 0 c] [] fun v H' => v = .slice none 0 0 ∧ H' = [] := by
  refine Spec_body Try.func11 rfl Try.ntmps11 rfl (fun w0 => ?_)
  repeat (first | refine stepA ?_ | intro _)
  refine W_loop (fun _ : Nat => [(0, .slice p 0 c), (3, .slice none 0 0), (4, .int .i64 0)]) (fun _ => []) (fun _ => True) (fun _ => 0) 0 trivial sublA subA ?_
  intro _ _
  repeat (first | refine stepA ?_ | intro _)
  (first | refine retA ?_ | refine retB ?_); exact ⟨_, ⟨rfl, rfl⟩, subA⟩
theorem cutAtI (g o len c : Nat) (M : Array Value) (E : TypeId) (fr : Nat × Nat) (l : List MsgV) (hM : MsgsIn M.toList o l) (hl : l.length = len) (hlen : len ≤ 9223372036854775807) (hd : ∀ (k : Nat) (x : MsgV), l[k]? = some x → x.d.length ≤ 9223372036854775807) :
    Spec Try.prog 11 [.slice (some ⟨g, o, none⟩) len c] [(g, mlkI M E fr)] fun v H' => ∃ a cap Hs, v = .slice a (cutL l).length cap ∧ oM a (cutL l).length cap (cutL l) Hs ∧ H' = (g, mlkI M E fr) :: Hs := by
  refine Spec_body Try.func11 rfl Try.ntmps11 rfl (fun w0 => ?_)
  repeat (first | refine stepA ?_ | intro _)
  refine W_loop (fun x : Nat × Option Addr × Nat × Hp => [(0, .slice (some ⟨g, o, none⟩) len c), (3, .slice x.2.1 x.1 x.2.2.1), (4, .int .i64 (x.1 : Int))]) (fun x => (g, mlkI M E fr) :: x.2.2.2)
    (fun x => (x.1 ≤ len ∧ x.1 ≤ 20) ∧ oM x.2.1 x.1 x.2.2.1 ((l.take x.1).map (cutM · 40)) x.2.2.2) (fun x => 20 - x.1) (0, none, 0, []) ⟨⟨by simp only; omega, by simp only; omega⟩, Own.nil⟩ sublA subA ?_
  rintro ⟨k, a, cap, Hs⟩ ⟨⟨hk1, hk2⟩, how⟩
  simp only at hk1 hk2 how ⊢
  have hfin : ¬ (k < len ∧ k < 20) → oM a (cutL l).length cap (cutL l) Hs ∧ k = (cutL l).length := fun h => by
    have e : (cutL l).length = k := by rw [cutL, List.length_map, List.length_take]; omega
    rw [e]
    have e2 : l.take k = l.take 20 := by
      by_cases h20 : k = 20
      · rw [h20]
      · rw [List.take_of_length_le (by omega), List.take_of_length_le (by omega)]
    rw [e2] at how
    exact ⟨how, rfl⟩
  by_cases hlt : k < len
  · by_cases hlt2 : k < 20
    · obtain ⟨x, hx⟩ : ∃ x, l[k]? = some x := ⟨l[k]'(by omega), by simp [hl, hlt]⟩
      have hc0 : M.toList[o + k * 2]? = some (.int .i64 x.t) := hM.cell hx 0 (by omega)
      have hc1 : M.toList[o + k * 2 + 1]? = some (str x.d) := hM.cell hx 1 (by omega)
      have hdx := hd k x hx
      repeat (first | refine stepA ?_ | intro _)
      refine W_any [(g, mlkI M E fr)] [] rfl ?_
      refine AS_at 0 (by decide +kernel) ?_; refine takeA ?_
      refine AS_at 1 (by decide +kernel) ?_; refine takeA ?_
      refine AS_at 2 (by decide +kernel) ?_; refine takeA ?_
      refine AS_at 3 (by decide +kernel) ?_; refine takeA ?_
      refine AS_at 4 (by decide +kernel) ?_; refine takeA ?_
      refine AS_at 5 (by decide +kernel) ?_; refine takeA ?_
      refine AS_at 6 (by decide +kernel) ?_; refine takeA ?_
      refine AS_at 7 (by decide +kernel) ?_; refine takeA ?_
      refine AS_at 8 (by decide +kernel) ?_; refine takeA ?_
      refine AS_at 9 (by decide +kernel) ?_; refine takeA ?_
      refine AS_at 10 (by decide +kernel) ?_; refine takeA ?_
      refine AS_at 11 (by decide +kernel) ?_; refine takeA ?_
      refine AS_at 12 (by decide +kernel) ?_; refine takeA ?_
      refine AS_at 13 (by decide +kernel) ?_; refine takeA ?_
      refine AS_at 14 (by decide +kernel) ?_; refine takeA ?_
      refine AS_at 15 (by decide +kernel) ?_; refine takeA ?_
      refine AS_at 16 (by decide +kernel) ?_; refine takeA ?_
      refine AS_at 17 (by decide +kernel) ?_; refine takeA ?_
      refine AS_one 18 rfl (by decide +kernel) rfl ?_
      (first | (apply L_P; (· exact rfl); (· exact rfl)) | (apply QL_P; (· exact rfl))); (· (apply P_slStrC; (· exact evA); (· exact Bound.none); (· exact Bound.of (j := min x.d.length 40) rfl (by omega)); (· omega); (· exact take_min x.d 40)))
      refine L_nil ?_; refine ⟨rfl, (by first | exact KeepsH.brk (by decide +kernel) | exact KeepsH.sub subA | exact KeepsH.sub subT), ?_⟩
      refine AS_at 19 (by decide +kernel) ?_; refine takeA ?_
      refine AS_one 20 rfl (by decide +kernel) rfl ?_
      apply L_buildSlOne
      · exact rfl
      · exact evA
      · exact rfl
      · exact rfl
      · decide
      intro gb
      refine L_nil ?_; refine ⟨rfl, (by first | exact KeepsH.brk (by decide +kernel) | exact KeepsH.sub subA | exact KeepsH.sub subT), ?_⟩
      refine AS_one 21 rfl (by decide +kernel) rfl ?_
      apply L_append
      · exact rfl
      · exact evA
      · exact evA
      · exact how
      · exact tailA
      · exact Lies.cells (k := 2) (news := (cutM x 40).cells) pullA rfl
      · rfl
      · simp [Value.oneCell']
      · omega
      · simp only [maxLen]; omega
      · omega
      · rfl
      rintro g2 cap' ys h1 h2 h3
      refine L_nil ?_; refine ⟨rfl, (by first | exact KeepsH.brk (by decide +kernel) | exact KeepsH.sub subA | exact KeepsH.sub subT), ?_⟩
      refine AS_at 22 (by decide +kernel) ?_; refine takeA ?_
      refine AS_done (by decide +kernel) ?_
      have ea : mcells ((l.take k).map (cutM · 40)) ++ (cutM x 40).cells = mcells ((l.take (k + 1)).map (cutM · 40)) := by rw [take_next' hx, List.map_append, mcells_append]; rfl
      rw [ea] at h1 ⊢
      repeat (first | refine stepA ?_ | intro _)
      refine ⟨rfl, (k + 1, _, cap', [(g2, .cells (mcells ((l.take (k + 1)).map (cutM · 40)) ++ ys) 29)]), ⟨⟨by simp only; omega, by simp only; omega⟩, Own.blk (by rw [mcells_len, List.length_map, List.length_take]; simp only; omega) h1 h2 h3⟩, by simp only; omega, sublA, subA⟩
    · obtain ⟨h1, h2⟩ := hfin (fun h => hlt2 h.2)
      repeat (first | refine stepA ?_ | intro _)
      (first | refine retA ?_ | refine retB ?_)
      exact ⟨_, ⟨a, cap, Hs, by rw [← h2]; rfl, h1, rfl⟩, subT⟩
  · obtain ⟨h1, h2⟩ := hfin (fun h => hlt h.1)
    repeat (first | refine stepA ?_ | intro _)
    (first | refine retA ?_ | refine retB ?_)
    exact ⟨_, ⟨a, cap, Hs, by rw [← h2]; rfl, h1, rfl⟩, subT⟩
end Go.Proofs.Ythachclpelhaiaa
