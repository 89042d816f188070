/-
  Messages: what the functions do, on a heap with a tail.
-/
import Derived.Test.YthachclpelhaiaaMg2
namespace Go.Proofs.Ythachclpelhaiaa
open Go.RowKit
attribute [local irreducible] W L QL PureOp thenQ blockQ retQ Spec IterOk YSpec roundQ scopeQ noGoQ
attribute [local irreducible] AS ASi IterOkC
theorem Spec.frame {P : Program} {f : FuncId} {args : List Value} {H : Hp} {R : Value → Hp → Prop} (h : Spec P f args H R) (F : Hp) : Spec P f args (H ++ F) (fun v H' => ∃ H1, R v H1 ∧ H' = H1 ++ F) := by
  unfold Spec at h ⊢
  intro w hw
  have hA := hw.left
  have hF := hw.right
  refine (h w hA).mono ?_
  rintro e w' ⟨v, H', rfl, h1, h2, h3, h4⟩
  refine ⟨v, H' ++ F, rfl, ⟨H', h1, rfl⟩, ?_, ⟨h3.os, h3.tape, h3.output, h3.size, fun k hk hn => h3.block k hk (fun q => hn (by rw [keys_append]; exact List.mem_append_left _ q))⟩, fun b hb => ?_⟩
  · have hr : Has F w' := ⟨hF.nd, fun b k hm => by
      rw [h3.block b (hF.lt hm) (fun q => hw.apart q (mem_keys hm))]
      exact hF.rd b k hm⟩
    refine h2.app hr fun b ha hb => ?_
    rcases h4 b ha with q | q
    · exact hw.apart q hb
    · exact absurd (hF.ltk hb) (by omega)
  · rw [keys_append] at hb ⊢
    rcases List.mem_append.1 hb with hb | hb
    · exact (h4 b hb).imp (fun q => List.mem_append_left _ q) id
    · exact .inl (List.mem_append_right _ hb)
theorem Spec.permR {P : Program} {f : FuncId} {args : List Value} {H : Hp} {R R' : Value → Hp → Prop} (h : Spec P f args H R) (hr : ∀ v H1, R v H1 → ∃ H', R' v H' ∧ H1.Perm H') : Spec P f args H R' := by
  unfold Spec at h ⊢
  intro w hw
  refine (h w hw).mono ?_
  rintro e w' ⟨v, H1, rfl, h1, h2, h3, h4⟩
  obtain ⟨H', h5, hp⟩ := hr v H1 h1
  exact ⟨v, H', rfl, h5, h2.perm hp, h3, fun b hb => h4 b ((keys_perm hp).2 hb)⟩
/-- a list of the call's own, on a tail -/
def oT (a : Option Addr) (n cap : Nat) (l : List MsgV) (H0 T : Hp) : Prop := ∃ Hs, oM a n cap l Hs ∧ T = Hs ++ H0
theorem oT.sub {a : Option Addr} {n cap : Nat} {l : List MsgV} {H0 T : Hp} (h : oT a n cap l H0 T) : Sub H0 T := by
  obtain ⟨Hs, how, rfl⟩ := h
  rcases how.inv with ⟨_, _, _, _, rfl⟩ | ⟨g, ys, _, rfl, _⟩
  · exact Sub.refl _
  · exact Sub.skip (Sub.refl _)
structure Few (L : List MsgV) : Prop where
  n : L.length ≤ 20
  d : ∀ (k : Nat) (x : MsgV), L[k]? = some x → x.d.length ≤ 40
  t : ∀ (k : Nat) (x : MsgV), L[k]? = some x → -9223372036854775808 ≤ x.t ∧ x.t ≤ 9223372036854775807
theorem sumD_few (m : Nat) : ∀ L : List MsgV, (∀ (k : Nat) (x : MsgV), L[k]? = some x → x.d.length ≤ m) → sumD (ds_ L) ≤ m * L.length
  | [], _ => by simp [ds_, sumD]
  | x :: L, h => by
    have h1 := h 0 x rfl
    have h2 := sumD_few m L (fun k y hy => h (k + 1) y hy)
    simp only [ds_, List.map_cons, sumD, List.length_cons, Nat.mul_add, Nat.mul_one] at h2 ⊢
    omega
theorem Few.sum {L : List MsgV} (h : Few L) : sumD (ds_ L) ≤ 100000 := by
  have := sumD_few 40 L h.d
  have := h.n
  omega
theorem Few.cut (l : List MsgV) (ht : ∀ (k : Nat) (x : MsgV), l[k]? = some x → -9223372036854775808 ≤ x.t ∧ x.t ≤ 9223372036854775807) : Few (cutL l) := by
  refine ⟨by simp only [cutL, List.length_map, List.length_take]; omega, fun k x hx => ?_, fun k x hx => ?_⟩
  all_goals
    simp only [cutL, List.getElem?_map, Option.map_eq_some_iff] at hx
    obtain ⟨y, hy, rfl⟩ := hx
    rw [List.getElem?_take] at hy
    split at hy
    · first | exact ht k y hy | (simp only [cutM, List.length_take]; omega)
    · cases hy
theorem Few.take {l : List MsgV} (h : Few l) : cutL l = l := by
  have h1 := h.n
  rw [cutL, List.take_of_length_le h1]
  apply List.ext_getElem?
  intro k
  rw [List.getElem?_map]
  cases hx : l[k]? with
  | none => rfl
  | some x =>
    have := h.d k x hx
    simp only [Option.map_some, cutM]
    rw [List.take_of_length_le this]
section
variable {a : Option Addr} {n cap : Nat} {L : List MsgV} {H0 T : Hp}
theorem right_T (h : oT a n cap L H0 T) (hn : n ≤ 100) (hs : sumD (ds_ L) ≤ 100000) : Spec Try.prog 14 [.slice a n cap] T fun v H' => (∃ b : Bool, (b = true ↔ RightM L) ∧ v = .bool b) ∧ H' = T := by
  obtain ⟨Hs, how, rfl⟩ := h
  exact ((right_own a n cap L Hs how (by omega) (by omega)).frame H0).mono fun v H' ⟨H1, ⟨h1, h2⟩, h3⟩ => ⟨h1, by rw [h3, h2]⟩
theorem refRight_T (h : oT a n cap L H0 T) (hn : n ≤ 100) : Spec Try.prog 18 [.slice a n cap] T fun v H' => (∃ b : Bool, (b = true ↔ RightM L) ∧ v = .bool b) ∧ H' = T := by
  obtain ⟨Hs, how, rfl⟩ := h
  exact ((refRight_own a n cap L Hs how (by omega)).frame H0).mono fun v H' ⟨H1, ⟨h1, h2⟩, h3⟩ => ⟨h1, by rw [h3, h2]⟩
theorem room_T (h : oT a n cap L H0 T) (size : Int) (hn : n ≤ 100) (hs : sumD (ds_ L) ≤ 100000) : Spec Try.prog 21 [.slice a n cap, .int .i64 size] T fun v H' => (∃ b : Bool, (b = true ↔ RoomOk L size) ∧ v = .bool b) ∧ H' = T := by
  obtain ⟨Hs, how, rfl⟩ := h
  exact ((room_own a n cap L size Hs how hn hs).frame H0).mono fun v H' ⟨H1, ⟨h1, h2⟩, h3⟩ => ⟨h1, by rw [h3, h2]⟩
theorem refRoom_T (h : oT a n cap L H0 T) (size : Int) (hn : n ≤ 100) : Spec Try.prog 22 [.slice a n cap, .int .i64 size] T fun v H' => (∃ b : Bool, (b = true ↔ RoomOk L size) ∧ v = .bool b) ∧ H' = T := by
  obtain ⟨Hs, how, rfl⟩ := h
  exact ((refRoom_own a n cap L size Hs how hn).frame H0).mono fun v H' ⟨H1, ⟨h1, h2⟩, h3⟩ => ⟨h1, by rw [h3, h2]⟩
open Classical in
/-- what Find answers -/
noncomputable def findR (kind : Int) (L : List MsgV) : Int := if RightM L then findI kind L else -1
theorem find_T (h : oT a n cap L H0 T) (kind : Int) (hn : n ≤ 100) (hs : sumD (ds_ L) ≤ 100000) (hB : ∀ (k : Nat) (x : MsgV), L[k]? = some x → x.t ≤ 9223372036854775807) : Spec Try.prog 19 [.slice a n cap, .int .i64 kind] T fun v H' => v = .int .i64 (findR kind L) ∧ H' = T := by
  obtain ⟨Hs, how, rfl⟩ := h
  by_cases hr : RightM L
  · rw [findR, if_pos hr]
    exact ((find_own a n cap L kind Hs how hn hs hr hB).frame H0).mono fun v H' ⟨H1, ⟨h1, h2⟩, h3⟩ => ⟨h1, by rw [h3, h2]⟩
  · rw [findR, if_neg hr]
    exact ((find_bad a n cap L kind Hs how hn hs hr).frame H0).mono fun v H' ⟨H1, ⟨h1, h2⟩, h3⟩ => ⟨h1, by rw [h3, h2]⟩
theorem refFind_T (h : oT a n cap L H0 T) (kind : Int) (hn : n ≤ 100) (hB : ∀ (k : Nat) (x : MsgV), L[k]? = some x → x.t ≤ 9223372036854775807) : Spec Try.prog 20 [.slice a n cap, .int .i64 kind] T fun v H' => v = .int .i64 (findR kind L) ∧ H' = T := by
  obtain ⟨Hs, how, rfl⟩ := h
  by_cases hr : RightM L
  · rw [findR, if_pos hr]
    exact ((refFind_own a n cap L kind Hs how (by omega) hr hB).frame H0).mono fun v H' ⟨H1, ⟨h1, h2⟩, h3⟩ => ⟨h1, by rw [h3, h2]⟩
  · rw [findR, if_neg hr]
    exact ((refFind_bad a n cap L kind Hs how (by omega) hr).frame H0).mono fun v H' ⟨H1, ⟨h1, h2⟩, h3⟩ => ⟨h1, by rw [h3, h2]⟩
def Sent (L : List MsgV) (m : MsgV) (T : Hp) (v : Value) (H' : Hp) : Prop :=
  (¬ (RightM L ∧ MsgOk m) ∧ v = .tuple #[.slice none 0 0, .int .i64 150] ∧ H' = T) ∨
  ((RightM L ∧ MsgOk m) ∧ ¬ RightM (L ++ [m]) ∧ v = .tuple #[.slice none 0 0, .int .i64 63] ∧ H' = T) ∨
  ((RightM L ∧ MsgOk m) ∧ RightM (L ++ [m]) ∧ ∃ g cap' ys, v = .tuple #[.slice (some ⟨g, 0, none⟩) (L.length + 1) cap', .int .i64 0] ∧ (cap' * 2 ≤ (mcells (L ++ [m]) ++ ys).length ∧ L.length + 1 ≤ cap' ∧ cap' ≤ maxLen) ∧ H' = (g, .cells (mcells (L ++ [m]) ++ ys) 29) :: T)
theorem send_T (h : oT a n cap L H0 T) (m : MsgV) (hn : n ≤ 100) (hs : sumD (ds_ L) ≤ 100000) (hm : m.d.length ≤ 100000) : Spec Try.prog 12 [.slice a n cap, .agg m.cells.toArray] T (Sent L m T) := by
  obtain ⟨Hs, how, rfl⟩ := h
  have hl := oM_len how
  refine ((send_spec a n cap L m Hs how hn hs hm).frame H0).mono ?_
  rintro v H' ⟨H1, ⟨h1, rfl, rfl⟩ | ⟨h1, h2, rfl, rfl⟩ | ⟨h1, h2, g, cap', ys, rfl, h3, rfl⟩, rfl⟩
  · exact .inl ⟨h1, rfl, rfl⟩
  · exact .inr (.inl ⟨h1, h2, rfl, rfl⟩)
  · exact .inr (.inr ⟨h1, h2, g, cap', ys, by rw [hl], by rw [hl]; exact h3, rfl⟩)
theorem refSend_T (h : oT a n cap L H0 T) (m : MsgV) (hn : n ≤ 100) : Spec Try.prog 16 [.slice a n cap, .agg m.cells.toArray] T (Sent L m T) := by
  obtain ⟨Hs, how, rfl⟩ := h
  have hl := oM_len how
  refine ((refSend_spec a n cap L m Hs how hn).frame H0).mono ?_
  rintro v H' ⟨H1, ⟨h1, rfl, rfl⟩ | ⟨h1, h2, rfl, rfl⟩ | ⟨h1, h2, g, cap', ys, rfl, h3, rfl⟩, rfl⟩
  · exact .inl ⟨h1, rfl, rfl⟩
  · exact .inr (.inl ⟨h1, h2, rfl, rfl⟩)
  · exact .inr (.inr ⟨h1, h2, g, cap', ys, by rw [hl], by rw [hl]; exact h3, rfl⟩)
/-- what Receive answers -/
def Got (L : List MsgV) (kind most : Int) (isCut : Bool) (own : Bool) (T : Hp) (v : Value) (H' : Hp) : Prop :=
  (¬ (RightM L ∧ 0 ≤ most) ∧ v = .tuple #[.slice none 0 0, .agg zM.cells.toArray, .int .i64 150] ∧ H' = T) ∨
  ((RightM L ∧ 0 ≤ most) ∧ findI kind L = -1 ∧ v = .tuple #[.slice none 0 0, .agg zM.cells.toArray, .int .i64 63] ∧ H' = T) ∨
  ((RightM L ∧ 0 ≤ most) ∧ ∃ (k : Nat) (x : MsgV), findI kind L = (k : Int) ∧ L[k]? = some x ∧
    (((x.d.length : Int) > most ∧ isCut = false ∧ v = .tuple #[.slice none 0 0, .agg zM.cells.toArray, .int .i64 130] ∧ H' = T) ∨
     (¬ ((x.d.length : Int) > most ∧ isCut = false) ∧
      ((∃ g cap' ys, v = .tuple #[.slice (some ⟨g, 0, none⟩) (L.eraseIdx k).length cap', .agg (cutM x most.toNat).cells.toArray, .int .i64 0] ∧
         (cap' * 2 ≤ (mcells (L.eraseIdx k) ++ ys).length ∧ (L.eraseIdx k).length ≤ cap' ∧ cap' ≤ maxLen) ∧ H' = (g, .cells (mcells (L.eraseIdx k) ++ ys) 29) :: T) ∨
       (own = false ∧ L.eraseIdx k = [] ∧ v = .tuple #[.slice none 0 0, .agg (cutM x most.toNat).cells.toArray, .int .i64 0] ∧ H' = T)))))
theorem erase_len {L : List MsgV} {k : Nat} {x : MsgV} (hx : L[k]? = some x) : (L.eraseIdx k).length = L.length - 1 := List.length_eraseIdx_of_lt (List.getElem?_eq_some_iff.1 hx).1
theorem receive_T (h : oT a n cap L H0 T) (kind most : Int) (isCut : Bool) (hn : n ≤ 100) (hs : sumD (ds_ L) ≤ 100000) (hB : ∀ (k : Nat) (x : MsgV), L[k]? = some x → x.t ≤ 9223372036854775807) :
    Spec Try.prog 13 [.slice a n cap, .int .i64 kind, .int .i64 most, .bool isCut] T (Got L kind most isCut true T) := by
  obtain ⟨Hs, how, rfl⟩ := h
  have hl := oM_len how
  refine ((receive_spec a n cap L kind most isCut Hs how hn hs hB).frame H0).mono ?_
  rintro v H' ⟨H1, ⟨h1, rfl, rfl⟩ | ⟨h1, h2, rfl, rfl⟩ | ⟨h1, k, x, h2, hx, ⟨h3, h4, rfl, rfl⟩ | ⟨h3, g, cap', ys, rfl, h4, rfl⟩⟩, rfl⟩
  · exact .inl ⟨h1, rfl, rfl⟩
  · exact .inr (.inl ⟨h1, h2, rfl, rfl⟩)
  · exact .inr (.inr ⟨h1, k, x, h2, hx, .inl ⟨h3, h4, rfl, rfl⟩⟩)
  · exact .inr (.inr ⟨h1, k, x, h2, hx, .inr ⟨h3, .inl ⟨g, cap', ys, by rw [erase_len hx, hl], by rw [erase_len hx, hl]; exact h4, rfl⟩⟩⟩)
theorem refReceive_T (h : oT a n cap L H0 T) (kind most : Int) (isCut : Bool) (hn : n ≤ 100) (hB : ∀ (k : Nat) (x : MsgV), L[k]? = some x → x.t ≤ 9223372036854775807) :
    Spec Try.prog 17 [.slice a n cap, .int .i64 kind, .int .i64 most, .bool isCut] T (Got L kind most isCut false T) := by
  obtain ⟨Hs, how, rfl⟩ := h
  have hl := oM_len how
  refine ((refReceive_spec a n cap L kind most isCut Hs how hn hB).frame H0).mono ?_
  rintro v H' ⟨H1, ⟨h1, rfl, rfl⟩ | ⟨h1, h2, rfl, rfl⟩ | ⟨h1, k, x, h2, hx, ⟨h3, h4, rfl, rfl⟩ | ⟨h3, a', cap', Hs', rfl, h4, rfl⟩⟩, rfl⟩
  · exact .inl ⟨h1, rfl, rfl⟩
  · exact .inr (.inl ⟨h1, h2, rfl, rfl⟩)
  · exact .inr (.inr ⟨h1, k, x, h2, hx, .inl ⟨h3, h4, rfl, rfl⟩⟩)
  · have hel := erase_len hx
    rcases h4.inv with ⟨rfl, e1, rfl, e2, rfl⟩ | ⟨g, ys, rfl, rfl, _, q1, q2, q3⟩
    · exact .inr (.inr ⟨h1, k, x, h2, hx, .inr ⟨h3, .inr ⟨rfl, List.eq_nil_of_length_eq_zero (by omega), by rw [e1], rfl⟩⟩⟩)
    · exact .inr (.inr ⟨h1, k, x, h2, hx, .inr ⟨h3, .inl ⟨g, cap', ys, by rw [hel, hl], ⟨q1, by omega, q3⟩, rfl⟩⟩⟩)
end
/-- what the law's cut answers, of an argument -/
def CutOf (v : Value) (H0 : Hp) (L : List MsgV) : Prop := Spec Try.prog 11 [v] H0 fun u T => ∃ a cap, u = .slice a L.length cap ∧ oT a L.length cap L H0 T
theorem cutOf_nil (p : Option Addr) (c : Nat) : CutOf (.slice p 0 c) [] [] := (cut_zero p c).mono fun v H' ⟨h1, h2⟩ => ⟨none, 0, h1, [], Own.nil, h2⟩
theorem cutOf_oth (g o len c : Nat) (M : Array Value) (E : TypeId) (fr : Nat × Nat) (l : List MsgV) (hM : MsgsIn M.toList o l) (hl : l.length = len) (hlen : len ≤ 9223372036854775807) (hd : ∀ (k : Nat) (x : MsgV), l[k]? = some x → x.d.length ≤ 9223372036854775807) :
    CutOf (.slice (some ⟨g, o, none⟩) len c) [(g, .oth (.cells M E fr))] (cutL l) := by
  refine (cutAtS g o len c M E fr l hM hl hlen hd).permR ?_
  rintro v H' ⟨a, cap, Hs, h1, h2, rfl⟩
  exact ⟨_, ⟨a, cap, h1, Hs, h2, rfl⟩, List.perm_append_comm (l₁ := [(g, mlkS M E fr)])⟩
/-- cut, of a list of the call's own -/
theorem cut_T {a : Option Addr} {cap : Nat} {L : List MsgV} {H0 T : Hp} (h : oT a L.length cap L H0 T) (hf : Few L) : Spec Try.prog 11 [.slice a L.length cap] T fun u T' => ∃ a' cap', u = .slice a' L.length cap' ∧ oT a' L.length cap' L T T' := by
  obtain ⟨Hs, how, rfl⟩ := h
  have hn := hf.n
  rcases how.inv with ⟨rfl, e1, rfl, e2, rfl⟩ | ⟨g2, ys, rfl, rfl, e1, q1, q2, q3⟩
  · obtain rfl : L = [] := List.eq_nil_of_length_eq_zero e1
    refine ((cut_zero none 0).frame H0).mono ?_
    rintro v H' ⟨H1, ⟨rfl, rfl⟩, rfl⟩
    exact ⟨none, 0, rfl, [], Own.nil, rfl⟩
  · refine ((cutAtI g2 0 L.length cap (mcells L ++ ys).toArray _ (0, 0) L (msgsIn_own L ys) rfl (by omega) (fun k x hx => by have := hf.d k x hx; omega)).frame H0).permR ?_
    rintro v H' ⟨H1, ⟨a, cap, Hs, h1, h2, rfl⟩, rfl⟩
    rw [hf.take] at h1 h2
    exact ⟨_, ⟨a, cap, h1, Hs, h2, rfl⟩, (List.perm_append_comm (l₁ := [(g2, mlkI (mcells L ++ ys).toArray 29 (0, 0))]) (l₂ := Hs)).append_right H0 |>.trans (by rw [List.append_assoc])⟩
end Go.Proofs.Ythachclpelhaiaa
