/-
  Calls: within, areShort, Right; the document's answer: short, Right.
-/
import Derived.Test.YtkcfckjiagjocaaTy
import Derived.Test.YtkcfckjiagjocaaE12
namespace Go.Proofs.Ytkcfckjiagjocaa
open Go.RowKit
attribute [local irreducible] W L QL PureOp thenQ blockQ retQ Spec IterOk YSpec roundQ scopeQ noGoQ
attribute [local irreducible] AS ASi
set_option maxHeartbeats 1600000
abbrev elI (v : Int) : Value := .int .i64 v
structure CallV where
  no : Int
  f : Int
  a : Int
  b : Int
  c : Int
  d : Int
  s : List UInt8
abbrev CallV.cells (x : CallV) : List Value := [.int .i64 x.no, .int .i64 x.f, .int .i64 x.a, .int .i64 x.b, .int .i64 x.c, .int .i64 x.d, str x.s]
abbrev Sh (n : Int) : Prop := -32768 ≤ n ∧ n ≤ 32767
structure RightP (x : CallV) : Prop where
  no : 1 ≤ x.no ∧ x.no ≤ 25
  f : 0 ≤ x.f ∧ x.f ≤ 255
  a : Sh x.a
  b : Sh x.b
  c : Sh x.c
  d : Sh x.d
  s : x.s.length ≤ 600
theorem rightP_iff (x : CallV) : RightP x ↔ (1 ≤ x.no ∧ x.no ≤ 25) ∧ (0 ≤ x.f ∧ x.f ≤ 255) ∧ Sh x.a ∧ Sh x.b ∧ Sh x.c ∧ Sh x.d ∧ x.s.length ≤ 600 :=
  ⟨fun h => ⟨h.no, h.f, h.a, h.b, h.c, h.d, h.s⟩, fun ⟨h1, h2, h3, h4, h5, h6, h7⟩ => ⟨h1, h2, h3, h4, h5, h6, h7⟩⟩
instance (x : CallV) : Decidable (RightP x) := decidable_of_iff _ (rightP_iff x).symm
theorem withinT (least most : Int) (g n : Nat) (E : TypeId) (xs : List Int) (hl : xs.length = n) (hn : n ≤ 1000) (hall : ∀ (k : Nat) (x : Int), xs[k]? = some x → least ≤ x ∧ x ≤ most) :
    Spec Try.prog 30 [.int .i64 least, .int .i64 most, .slice (some ⟨g, 0, none⟩) n n] [(g, .cells (xs.map elI) E)] fun v H' => v = .bool true ∧ H' = [(g, .cells (xs.map elI) E)] := by
  refine Spec_body Try.func30 rfl Try.ntmps30 rfl (fun w0 => ?_)
  repeat (first | refine stepA ?_ | intro _)
  refine W_loop (fun k : Nat => [(0, .int .i64 least), (1, .int .i64 most), (9, .slice (some ⟨g, 0, none⟩) n n), (10, .int .i64 (n : Int)), (11, .int .i64 (k : Int))]) (fun _ => [(g, .cells (xs.map elI) E)]) (fun k => k ≤ n) (fun k => n - k) 0 (by omega) sublA subA ?_
  intro k hk
  by_cases hlt : k < n
  · obtain ⟨x, hx⟩ : ∃ x, xs[k]? = some x := ⟨xs[k]'(by omega), by simp [hl, hlt]⟩
    have e1 : (xs.map elI)[k]? = some (.int .i64 x) := by simp [hx]
    have hb := hall k x hx
    repeat (first | refine stepA ?_ | intro _)
    exact ⟨rfl, k + 1, by omega, by omega, sublA, subA⟩
  · obtain rfl : k = n := by omega
    repeat (first | refine stepA ?_ | intro _)
    (first | refine retA ?_ | refine retB ?_); exact ⟨_, ⟨rfl, rfl⟩, subA⟩
theorem withinF (least most : Int) (g n : Nat) (E : TypeId) (xs : List Int) (hl : xs.length = n) (hn : n ≤ 1000) (hex : ∃ (k : Nat) (x : Int), xs[k]? = some x ∧ ¬ (least ≤ x ∧ x ≤ most)) :
    Spec Try.prog 30 [.int .i64 least, .int .i64 most, .slice (some ⟨g, 0, none⟩) n n] [(g, .cells (xs.map elI) E)] fun v H' => v = .bool false ∧ H' = [(g, .cells (xs.map elI) E)] := by
  obtain ⟨k0, x0, hx0, hbad⟩ := hex
  have hk0 : k0 < n := by have := (List.getElem?_eq_some_iff.1 hx0).1; omega
  refine Spec_body Try.func30 rfl Try.ntmps30 rfl (fun w0 => ?_)
  repeat (first | refine stepA ?_ | intro _)
  refine W_loop (fun k : Nat => [(0, .int .i64 least), (1, .int .i64 most), (9, .slice (some ⟨g, 0, none⟩) n n), (10, .int .i64 (n : Int)), (11, .int .i64 (k : Int))]) (fun _ => [(g, .cells (xs.map elI) E)]) (fun k => k ≤ k0) (fun k => n - k) 0 (by omega) sublA subA ?_
  intro k hk
  obtain ⟨x, hx⟩ : ∃ x, xs[k]? = some x := ⟨xs[k]'(by omega), List.getElem?_eq_getElem (by omega)⟩
  have e1 : (xs.map elI)[k]? = some (.int .i64 x) := by simp [hx]
  by_cases h1 : x < least
  · repeat (first | refine stepA ?_ | intro _)
    (first | refine retA ?_ | refine retB ?_); exact ⟨_, ⟨rfl, rfl⟩, subA⟩
  by_cases h2 : x > most
  · repeat (first | refine stepA ?_ | intro _)
    (first | refine retA ?_ | refine retB ?_); exact ⟨_, ⟨rfl, rfl⟩, subA⟩
  have hne : k ≠ k0 := fun e => by
    subst e
    rw [hx0] at hx
    cases hx
    omega
  repeat (first | refine stepA ?_ | intro _)
  exact ⟨rfl, k + 1, by omega, by omega, sublA, subA⟩
theorem within1T (least most x : Int) (g : Nat) (E : TypeId) (h : least ≤ x ∧ x ≤ most) :
    Spec Try.prog 30 [.int .i64 least, .int .i64 most, .slice (some ⟨g, 0, none⟩) 1 1] [(g, .cells [.int .i64 x] E)] fun v H' => v = .bool true ∧ H' = [(g, .cells [.int .i64 x] E)] :=
  withinT least most g 1 E [x] rfl (by omega) (fun k y hk => by cases k <;> simp at hk; subst hk; exact h)
theorem within1F (least most x : Int) (g : Nat) (E : TypeId) (h : ¬ (least ≤ x ∧ x ≤ most)) :
    Spec Try.prog 30 [.int .i64 least, .int .i64 most, .slice (some ⟨g, 0, none⟩) 1 1] [(g, .cells [.int .i64 x] E)] fun v H' => v = .bool false ∧ H' = [(g, .cells [.int .i64 x] E)] :=
  withinF least most g 1 E [x] rfl (by omega) ⟨0, x, rfl, h⟩
theorem areShortT (g n : Nat) (E : TypeId) (xs : List Int) (hl : xs.length = n) (hn : n ≤ 1000) (hall : ∀ (k : Nat) (x : Int), xs[k]? = some x → Sh x) :
    Spec Try.prog 31 [.slice (some ⟨g, 0, none⟩) n n] [(g, .cells (xs.map elI) E)] fun v H' => v = .bool true ∧ H' = [(g, .cells (xs.map elI) E)] := by
  refine Spec_body Try.func31 rfl Try.ntmps31 rfl (fun w0 => ?_)
  repeat (first | refine stepA ?_ | intro _)
  refine callA ?_; refine ⟨_, _, withinT (-32768) 32767 g n E xs hl hn hall, _, cutA, ?_⟩
  rintro v H' ⟨rfl, rfl⟩
  repeat (first | refine stepA ?_ | intro _)
  (first | refine retA ?_ | refine retB ?_); exact ⟨_, ⟨rfl, rfl⟩, subA⟩
theorem areShortF (g n : Nat) (E : TypeId) (xs : List Int) (hl : xs.length = n) (hn : n ≤ 1000) (hex : ∃ (k : Nat) (x : Int), xs[k]? = some x ∧ ¬ Sh x) :
    Spec Try.prog 31 [.slice (some ⟨g, 0, none⟩) n n] [(g, .cells (xs.map elI) E)] fun v H' => v = .bool false ∧ H' = [(g, .cells (xs.map elI) E)] := by
  refine Spec_body Try.func31 rfl Try.ntmps31 rfl (fun w0 => ?_)
  repeat (first | refine stepA ?_ | intro _)
  refine callA ?_; refine ⟨_, _, withinF (-32768) 32767 g n E xs hl hn hex, _, cutA, ?_⟩
  rintro v H' ⟨rfl, rfl⟩
  repeat (first | refine stepA ?_ | intro _)
  (first | refine retA ?_ | refine retB ?_); exact ⟨_, ⟨rfl, rfl⟩, subA⟩
theorem areShort4T (g : Nat) (E : TypeId) (a b c d : Int) (h : Sh a ∧ Sh b ∧ Sh c ∧ Sh d) :
    Spec Try.prog 31 [.slice (some ⟨g, 0, none⟩) 4 4] [(g, .cells [.int .i64 a, .int .i64 b, .int .i64 c, .int .i64 d] E)] fun v H' => v = .bool true ∧ H' = [(g, .cells [.int .i64 a, .int .i64 b, .int .i64 c, .int .i64 d] E)] :=
  areShortT g 4 E [a, b, c, d] rfl (by omega) (fun k y hk => by
    match k, hk with
    | 0, hk => simp at hk; subst hk; exact h.1
    | 1, hk => simp at hk; subst hk; exact h.2.1
    | 2, hk => simp at hk; subst hk; exact h.2.2.1
    | 3, hk => simp at hk; subst hk; exact h.2.2.2
    | k + 4, hk => simp at hk)
theorem areShort4F (g : Nat) (E : TypeId) (a b c d : Int) (h : ¬ (Sh a ∧ Sh b ∧ Sh c ∧ Sh d)) :
    Spec Try.prog 31 [.slice (some ⟨g, 0, none⟩) 4 4] [(g, .cells [.int .i64 a, .int .i64 b, .int .i64 c, .int .i64 d] E)] fun v H' => v = .bool false ∧ H' = [(g, .cells [.int .i64 a, .int .i64 b, .int .i64 c, .int .i64 d] E)] :=
  areShortF g 4 E [a, b, c, d] rfl (by omega) (by
    by_cases ha : Sh a
    · by_cases hb : Sh b
      · by_cases hc : Sh c
        · exact ⟨3, d, rfl, fun hd => h ⟨ha, hb, hc, hd⟩⟩
        · exact ⟨2, c, rfl, hc⟩
      · exact ⟨1, b, rfl, hb⟩
    · exact ⟨0, a, rfl, ha⟩)
theorem right_spec (x : CallV) : Spec Try.prog 15 [.agg x.cells.toArray] [] fun v H' => v = .bool (decide (RightP x)) ∧ H' = [] := by
  refine Spec_body Try.func15 rfl Try.ntmps15 rfl (fun w0 => ?_)
  by_cases h1 : 1 ≤ x.no ∧ x.no ≤ 25
  · by_cases h2 : 0 ≤ x.f ∧ x.f ≤ 255
    · by_cases h3 : Sh x.a ∧ Sh x.b ∧ Sh x.c ∧ Sh x.d
      · repeat (first | refine stepA ?_ | intro _)
        rename_i g1
        refine callA ?_; refine ⟨_, _, within1T 1 25 x.no g1 _ h1, _, cutA, ?_⟩
        rintro v H' ⟨rfl, rfl⟩
        repeat (first | refine stepA ?_ | intro _)
        rename_i g2
        refine callA ?_; refine ⟨_, _, within1T 0 255 x.f g2 _ h2, _, cutA, ?_⟩
        rintro v H' ⟨rfl, rfl⟩
        repeat (first | refine stepA ?_ | intro _)
        rename_i g3
        refine callA ?_; refine ⟨_, _, areShort4T g3 _ x.a x.b x.c x.d h3, _, cutA, ?_⟩
        rintro v H' ⟨rfl, rfl⟩
        repeat (first | refine stepA ?_ | intro _)
        (first | refine retA ?_ | refine retB ?_); exact ⟨_, ⟨by simp only [resVal, Bool.and_true, Bool.true_and]; congr 1; rw [Bool.eq_iff_iff]; simp only [decide_eq_true_eq, rightP_iff]; omega, rfl⟩, subA⟩
      · repeat (first | refine stepA ?_ | intro _)
        rename_i g1
        refine callA ?_; refine ⟨_, _, within1T 1 25 x.no g1 _ h1, _, cutA, ?_⟩
        rintro v H' ⟨rfl, rfl⟩
        repeat (first | refine stepA ?_ | intro _)
        rename_i g2
        refine callA ?_; refine ⟨_, _, within1T 0 255 x.f g2 _ h2, _, cutA, ?_⟩
        rintro v H' ⟨rfl, rfl⟩
        repeat (first | refine stepA ?_ | intro _)
        rename_i g3
        refine callA ?_; refine ⟨_, _, areShort4F g3 _ x.a x.b x.c x.d h3, _, cutA, ?_⟩
        rintro v H' ⟨rfl, rfl⟩
        repeat (first | refine stepA ?_ | intro _)
        (first | refine retA ?_ | refine retB ?_); exact ⟨_, ⟨by rw [decide_eq_false (fun h : RightP x => h3 ⟨h.a, h.b, h.c, h.d⟩)]; rfl, rfl⟩, subA⟩
    · repeat (first | refine stepA ?_ | intro _)
      rename_i g1
      refine callA ?_; refine ⟨_, _, within1T 1 25 x.no g1 _ h1, _, cutA, ?_⟩
      rintro v H' ⟨rfl, rfl⟩
      repeat (first | refine stepA ?_ | intro _)
      rename_i g2
      refine callA ?_; refine ⟨_, _, within1F 0 255 x.f g2 _ h2, _, cutA, ?_⟩
      rintro v H' ⟨rfl, rfl⟩
      repeat (first | refine stepA ?_ | intro _)
      (first | refine retA ?_ | refine retB ?_); exact ⟨_, ⟨by rw [decide_eq_false (fun h : RightP x => h2 h.f)]; rfl, rfl⟩, subA⟩
  · repeat (first | refine stepA ?_ | intro _)
    rename_i g1
    refine callA ?_; refine ⟨_, _, within1F 1 25 x.no g1 _ h1, _, cutA, ?_⟩
    rintro v H' ⟨rfl, rfl⟩
    repeat (first | refine stepA ?_ | intro _)
    (first | refine retA ?_ | refine retB ?_); exact ⟨_, ⟨by rw [decide_eq_false (fun h : RightP x => h1 h.no)]; rfl, rfl⟩, subA⟩
theorem rshortT (n : Int) (h : Sh n) : Spec Try.prog 32 [.int .i64 n] [] fun v H' => v = .bool true ∧ H' = [] := by
  obtain ⟨h1, h2⟩ := h
  refine Spec_body Try.func32 rfl Try.ntmps32 rfl (fun w0 => ?_)
  repeat (first | refine stepA ?_ | intro _)
  (first | refine retA ?_ | refine retB ?_); exact ⟨_, ⟨rfl, rfl⟩, subA⟩
theorem rshortF (n : Int) (h : ¬ Sh n) : Spec Try.prog 32 [.int .i64 n] [] fun v H' => v = .bool false ∧ H' = [] := by
  refine Spec_body Try.func32 rfl Try.ntmps32 rfl (fun w0 => ?_)
  by_cases h1 : -32768 ≤ n
  · have h2 : n > 32767 := by
      have : ¬ (n ≤ 32767) := fun q => h ⟨h1, q⟩
      omega
    repeat (first | refine stepA ?_ | intro _)
    (first | refine retA ?_ | refine retB ?_); exact ⟨_, ⟨rfl, rfl⟩, subA⟩
  · repeat (first | refine stepA ?_ | intro _)
    (first | refine retA ?_ | refine retB ?_); exact ⟨_, ⟨rfl, rfl⟩, subA⟩
theorem rright_spec (x : CallV) : Spec Try.prog 16 [.agg x.cells.toArray] [] fun v H' => v = .bool (decide (RightP x)) ∧ H' = [] := by
  refine Spec_body Try.func16 rfl Try.ntmps16 rfl (fun w0 => ?_)
  by_cases h1 : x.no < 1
  · repeat (first | refine stepA ?_ | intro _)
    (first | refine retA ?_ | refine retB ?_); exact ⟨_, ⟨by rw [decide_eq_false (fun h : RightP x => by have := h.no; omega)]; rfl, rfl⟩, subA⟩
  by_cases h2 : x.no > 25
  · repeat (first | refine stepA ?_ | intro _)
    (first | refine retA ?_ | refine retB ?_); exact ⟨_, ⟨by rw [decide_eq_false (fun h : RightP x => by have := h.no; omega)]; rfl, rfl⟩, subA⟩
  by_cases h3 : x.f < 0
  · repeat (first | refine stepA ?_ | intro _)
    (first | refine retA ?_ | refine retB ?_); exact ⟨_, ⟨by rw [decide_eq_false (fun h : RightP x => by have := h.f; omega)]; rfl, rfl⟩, subA⟩
  by_cases h4 : x.f > 255
  · repeat (first | refine stepA ?_ | intro _)
    (first | refine retA ?_ | refine retB ?_); exact ⟨_, ⟨by rw [decide_eq_false (fun h : RightP x => by have := h.f; omega)]; rfl, rfl⟩, subA⟩
  by_cases ha : Sh x.a
  · by_cases hb : Sh x.b
    · by_cases hc : Sh x.c
      · by_cases hd : Sh x.d
        · skip
          repeat (first | refine stepA ?_ | intro _)
          refine callA ?_; refine ⟨_, _, rshortT x.a ha, _, cutA, ?_⟩
          rintro v H' ⟨rfl, rfl⟩
          repeat (first | refine stepA ?_ | intro _)
          refine callA ?_; refine ⟨_, _, rshortT x.b hb, _, cutA, ?_⟩
          rintro v H' ⟨rfl, rfl⟩
          repeat (first | refine stepA ?_ | intro _)
          refine callA ?_; refine ⟨_, _, rshortT x.c hc, _, cutA, ?_⟩
          rintro v H' ⟨rfl, rfl⟩
          repeat (first | refine stepA ?_ | intro _)
          refine callA ?_; refine ⟨_, _, rshortT x.d hd, _, cutA, ?_⟩
          rintro v H' ⟨rfl, rfl⟩
          repeat (first | refine stepA ?_ | intro _)
          (first | refine retA ?_ | refine retB ?_); exact ⟨_, ⟨by simp only [resVal, Bool.and_true, Bool.true_and]; congr 1; rw [Bool.eq_iff_iff]; simp only [decide_eq_true_eq, rightP_iff]; omega, rfl⟩, subA⟩
        · skip
          repeat (first | refine stepA ?_ | intro _)
          refine callA ?_; refine ⟨_, _, rshortT x.a ha, _, cutA, ?_⟩
          rintro v H' ⟨rfl, rfl⟩
          repeat (first | refine stepA ?_ | intro _)
          refine callA ?_; refine ⟨_, _, rshortT x.b hb, _, cutA, ?_⟩
          rintro v H' ⟨rfl, rfl⟩
          repeat (first | refine stepA ?_ | intro _)
          refine callA ?_; refine ⟨_, _, rshortT x.c hc, _, cutA, ?_⟩
          rintro v H' ⟨rfl, rfl⟩
          repeat (first | refine stepA ?_ | intro _)
          refine callA ?_; refine ⟨_, _, rshortF x.d hd, _, cutA, ?_⟩
          rintro v H' ⟨rfl, rfl⟩
          repeat (first | refine stepA ?_ | intro _)
          (first | refine retA ?_ | refine retB ?_); exact ⟨_, ⟨by rw [decide_eq_false (fun h : RightP x => hd h.d)]; rfl, rfl⟩, subA⟩
      · skip
        repeat (first | refine stepA ?_ | intro _)
        refine callA ?_; refine ⟨_, _, rshortT x.a ha, _, cutA, ?_⟩
        rintro v H' ⟨rfl, rfl⟩
        repeat (first | refine stepA ?_ | intro _)
        refine callA ?_; refine ⟨_, _, rshortT x.b hb, _, cutA, ?_⟩
        rintro v H' ⟨rfl, rfl⟩
        repeat (first | refine stepA ?_ | intro _)
        refine callA ?_; refine ⟨_, _, rshortF x.c hc, _, cutA, ?_⟩
        rintro v H' ⟨rfl, rfl⟩
        repeat (first | refine stepA ?_ | intro _)
        (first | refine retA ?_ | refine retB ?_); exact ⟨_, ⟨by rw [decide_eq_false (fun h : RightP x => hc h.c)]; rfl, rfl⟩, subA⟩
    · skip
      repeat (first | refine stepA ?_ | intro _)
      refine callA ?_; refine ⟨_, _, rshortT x.a ha, _, cutA, ?_⟩
      rintro v H' ⟨rfl, rfl⟩
      repeat (first | refine stepA ?_ | intro _)
      refine callA ?_; refine ⟨_, _, rshortF x.b hb, _, cutA, ?_⟩
      rintro v H' ⟨rfl, rfl⟩
      repeat (first | refine stepA ?_ | intro _)
      (first | refine retA ?_ | refine retB ?_); exact ⟨_, ⟨by rw [decide_eq_false (fun h : RightP x => hb h.b)]; rfl, rfl⟩, subA⟩
  · skip
    repeat (first | refine stepA ?_ | intro _)
    refine callA ?_; refine ⟨_, _, rshortF x.a ha, _, cutA, ?_⟩
    rintro v H' ⟨rfl, rfl⟩
    repeat (first | refine stepA ?_ | intro _)
    (first | refine retA ?_ | refine retB ?_); exact ⟨_, ⟨by rw [decide_eq_false (fun h : RightP x => ha h.a)]; rfl, rfl⟩, subA⟩
end Go.Proofs.Ytkcfckjiagjocaa
