/-
  Joined texts; each begins with its own sentence.
-/
import Derived.Test.YtcpfmjlceoiofaaGreatDoorN05
import Derived.Test.YtcpfmjlceoiofaaGreatDoorN04
import Derived.Test.YtcpfmjlceoiofaaGreatDoorN09
set_option linter.unusedSimpArgs false
set_option linter.unusedVariables false
set_option linter.unusedSectionVars false
/-
  Calls: within, areShort, Right; the document's answer: short, Right.
-/
namespace Go.Proofs.YtcpfmjlceoiofaaGreatDoor
open Go.RowKit
attribute [local irreducible] W L QL PureOp thenQ blockQ retQ Spec IterOk YSpec roundQ scopeQ noGoQ
attribute [local irreducible] AS ASi
set_option maxHeartbeats 1600000
abbrev elI (v : Int) : Value := .int .i64 v
structure CallV where
  no : Int
  f : Int
  a : Int
  b : Int
  c : Int
  d : Int
  s : List UInt8
abbrev CallV.cells (x : CallV) : List Value := [.int .i64 x.no, .int .i64 x.f, .int .i64 x.a, .int .i64 x.b, .int .i64 x.c, .int .i64 x.d, str x.s]
abbrev Sh (n : Int) : Prop := -32768 ≤ n ∧ n ≤ 32767
structure RightP (x : CallV) : Prop where
  no : 1 ≤ x.no ∧ x.no ≤ 25
  f : 0 ≤ x.f ∧ x.f ≤ 255
  a : Sh x.a
  b : Sh x.b
  c : Sh x.c
  d : Sh x.d
  s : x.s.length ≤ 600
theorem rightP_iff (x : CallV) : RightP x ↔ (1 ≤ x.no ∧ x.no ≤ 25) ∧ (0 ≤ x.f ∧ x.f ≤ 255) ∧ Sh x.a ∧ Sh x.b ∧ Sh x.c ∧ Sh x.d ∧ x.s.length ≤ 600 :=
  ⟨fun h => ⟨h.no, h.f, h.a, h.b, h.c, h.d, h.s⟩, fun ⟨h1, h2, h3, h4, h5, h6, h7⟩ => ⟨h1, h2, h3, h4, h5, h6, h7⟩⟩
instance (x : CallV) : Decidable (RightP x) := decidable_of_iff _ (rightP_iff x).symm
theorem withinT (least most : Int) (g n : Nat) (E : TypeId) (xs : List Int) (hl : xs.length = n) (hn : n ≤ 1000) (hall : ∀ (k : Nat) (x : Int), xs[k]? = some x → least ≤ x ∧ x ≤ most) :
    Spec Tryz.prog 44 [.int .i64 least, .int .i64 most, .slice (some ⟨g, 0, none⟩) n n] [(g, .cells (xs.map elI) E)] fun v H' => v = .bool true ∧ H' = [(g, .cells (xs.map elI) E)] := by
  refine Spec_body Tryz.func44 rfl Tryz.ntmps44 rfl (fun w0 => ?_)
  repeat (first | refine stepA ?_ | intro _)
  refine W_loop (fun k : Nat => [(0, .int .i64 least), (1, .int .i64 most), (9, .slice (some ⟨g, 0, none⟩) n n), (10, .int .i64 (n : Int)), (11, .int .i64 (k : Int))]) (fun _ => [(g, .cells (xs.map elI) E)]) (fun k => k ≤ n) (fun k => n - k) 0 (by omega) sublA subA ?_
  intro k hk
  by_cases hlt : k < n
  · obtain ⟨x, hx⟩ : ∃ x, xs[k]? = some x := ⟨xs[k]'(by omega), by simp [hl, hlt]⟩
    have e1 : (xs.map elI)[k]? = some (.int .i64 x) := by simp [hx]
    have hb := hall k x hx
    repeat (first | refine stepA ?_ | intro _)
    exact ⟨rfl, k + 1, by omega, by omega, sublA, subA⟩
  · obtain rfl : k = n := by omega
    repeat (first | refine stepA ?_ | intro _)
    (first | refine retA ?_ | refine retB ?_); exact ⟨_, ⟨rfl, rfl⟩, subA⟩
theorem withinF (least most : Int) (g n : Nat) (E : TypeId) (xs : List Int) (hl : xs.length = n) (hn : n ≤ 1000) (hex : ∃ (k : Nat) (x : Int), xs[k]? = some x ∧ ¬ (least ≤ x ∧ x ≤ most)) :
    Spec Tryz.prog 44 [.int .i64 least, .int .i64 most, .slice (some ⟨g, 0, none⟩) n n] [(g, .cells (xs.map elI) E)] fun v H' => v = .bool false ∧ H' = [(g, .cells (xs.map elI) E)] := by
  obtain ⟨k0, x0, hx0, hbad⟩ := hex
  have hk0 : k0 < n := by have := (List.getElem?_eq_some_iff.1 hx0).1; omega
  refine Spec_body Tryz.func44 rfl Tryz.ntmps44 rfl (fun w0 => ?_)
  repeat (first | refine stepA ?_ | intro _)
  refine W_loop (fun k : Nat => [(0, .int .i64 least), (1, .int .i64 most), (9, .slice (some ⟨g, 0, none⟩) n n), (10, .int .i64 (n : Int)), (11, .int .i64 (k : Int))]) (fun _ => [(g, .cells (xs.map elI) E)]) (fun k => k ≤ k0) (fun k => n - k) 0 (by omega) sublA subA ?_
  intro k hk
  obtain ⟨x, hx⟩ : ∃ x, xs[k]? = some x := ⟨xs[k]'(by omega), List.getElem?_eq_getElem (by omega)⟩
  have e1 : (xs.map elI)[k]? = some (.int .i64 x) := by simp [hx]
  by_cases h1 : x < least
  · repeat (first | refine stepA ?_ | intro _)
    (first | refine retA ?_ | refine retB ?_); exact ⟨_, ⟨rfl, rfl⟩, subA⟩
  by_cases h2 : x > most
  · repeat (first | refine stepA ?_ | intro _)
    (first | refine retA ?_ | refine retB ?_); exact ⟨_, ⟨rfl, rfl⟩, subA⟩
  have hne : k ≠ k0 := fun e => by
    subst e
    rw [hx0] at hx
    cases hx
    omega
  repeat (first | refine stepA ?_ | intro _)
  exact ⟨rfl, k + 1, by omega, by omega, sublA, subA⟩
theorem within1T (least most x : Int) (g : Nat) (E : TypeId) (h : least ≤ x ∧ x ≤ most) :
    Spec Tryz.prog 44 [.int .i64 least, .int .i64 most, .slice (some ⟨g, 0, none⟩) 1 1] [(g, .cells [.int .i64 x] E)] fun v H' => v = .bool true ∧ H' = [(g, .cells [.int .i64 x] E)] :=
  withinT least most g 1 E [x] rfl (by omega) (fun k y hk => by cases k <;> simp at hk; subst hk; exact h)
theorem within1F (least most x : Int) (g : Nat) (E : TypeId) (h : ¬ (least ≤ x ∧ x ≤ most)) :
    Spec Tryz.prog 44 [.int .i64 least, .int .i64 most, .slice (some ⟨g, 0, none⟩) 1 1] [(g, .cells [.int .i64 x] E)] fun v H' => v = .bool false ∧ H' = [(g, .cells [.int .i64 x] E)] :=
  withinF least most g 1 E [x] rfl (by omega) ⟨0, x, rfl, h⟩
theorem areShortT (g n : Nat) (E : TypeId) (xs : List Int) (hl : xs.length = n) (hn : n ≤ 1000) (hall : ∀ (k : Nat) (x : Int), xs[k]? = some x → Sh x) :
    Spec Tryz.prog 45 [.slice (some ⟨g, 0, none⟩) n n] [(g, .cells (xs.map elI) E)] fun v H' => v = .bool true ∧ H' = [(g, .cells (xs.map elI) E)] := by
  refine Spec_body Tryz.func45 rfl Tryz.ntmps45 rfl (fun w0 => ?_)
  repeat (first | refine stepA ?_ | intro _)
  refine callA ?_; refine ⟨_, _, withinT (-32768) 32767 g n E xs hl hn hall, _, cutA, ?_⟩
  rintro v H' ⟨rfl, rfl⟩
  repeat (first | refine stepA ?_ | intro _)
  (first | refine retA ?_ | refine retB ?_); exact ⟨_, ⟨rfl, rfl⟩, subA⟩
theorem areShortF (g n : Nat) (E : TypeId) (xs : List Int) (hl : xs.length = n) (hn : n ≤ 1000) (hex : ∃ (k : Nat) (x : Int), xs[k]? = some x ∧ ¬ Sh x) :
    Spec Tryz.prog 45 [.slice (some ⟨g, 0, none⟩) n n] [(g, .cells (xs.map elI) E)] fun v H' => v = .bool false ∧ H' = [(g, .cells (xs.map elI) E)] := by
  refine Spec_body Tryz.func45 rfl Tryz.ntmps45 rfl (fun w0 => ?_)
  repeat (first | refine stepA ?_ | intro _)
  refine callA ?_; refine ⟨_, _, withinF (-32768) 32767 g n E xs hl hn hex, _, cutA, ?_⟩
  rintro v H' ⟨rfl, rfl⟩
  repeat (first | refine stepA ?_ | intro _)
  (first | refine retA ?_ | refine retB ?_); exact ⟨_, ⟨rfl, rfl⟩, subA⟩
theorem areShort4T (g : Nat) (E : TypeId) (a b c d : Int) (h : Sh a ∧ Sh b ∧ Sh c ∧ Sh d) :
    Spec Tryz.prog 45 [.slice (some ⟨g, 0, none⟩) 4 4] [(g, .cells [.int .i64 a, .int .i64 b, .int .i64 c, .int .i64 d] E)] fun v H' => v = .bool true ∧ H' = [(g, .cells [.int .i64 a, .int .i64 b, .int .i64 c, .int .i64 d] E)] :=
  areShortT g 4 E [a, b, c, d] rfl (by omega) (fun k y hk => by
    match k, hk with
    | 0, hk => simp at hk; subst hk; exact h.1
    | 1, hk => simp at hk; subst hk; exact h.2.1
    | 2, hk => simp at hk; subst hk; exact h.2.2.1
    | 3, hk => simp at hk; subst hk; exact h.2.2.2
    | k + 4, hk => simp at hk)
theorem areShort4F (g : Nat) (E : TypeId) (a b c d : Int) (h : ¬ (Sh a ∧ Sh b ∧ Sh c ∧ Sh d)) :
    Spec Tryz.prog 45 [.slice (some ⟨g, 0, none⟩) 4 4] [(g, .cells [.int .i64 a, .int .i64 b, .int .i64 c, .int .i64 d] E)] fun v H' => v = .bool false ∧ H' = [(g, .cells [.int .i64 a, .int .i64 b, .int .i64 c, .int .i64 d] E)] :=
  areShortF g 4 E [a, b, c, d] rfl (by omega) (by
    by_cases ha : Sh a
    · by_cases hb : Sh b
      · by_cases hc : Sh c
        · exact ⟨3, d, rfl, fun hd => h ⟨ha, hb, hc, hd⟩⟩
        · exact ⟨2, c, rfl, hc⟩
      · exact ⟨1, b, rfl, hb⟩
    · exact ⟨0, a, rfl, ha⟩)
theorem right_spec (x : CallV) : Spec Tryz.prog 22 [.agg x.cells.toArray] [] fun v H' => v = .bool (decide (RightP x)) ∧ H' = [] := by
  refine Spec_body Tryz.func22 rfl Tryz.ntmps22 rfl (fun w0 => ?_)
  by_cases h1 : 1 ≤ x.no ∧ x.no ≤ 25
  · by_cases h2 : 0 ≤ x.f ∧ x.f ≤ 255
    · by_cases h3 : Sh x.a ∧ Sh x.b ∧ Sh x.c ∧ Sh x.d
      · repeat (first | refine stepA ?_ | intro _)
        rename_i g1
        refine callA ?_; refine ⟨_, _, within1T 1 25 x.no g1 _ h1, _, cutA, ?_⟩
        rintro v H' ⟨rfl, rfl⟩
        repeat (first | refine stepA ?_ | intro _)
        rename_i g2
        refine callA ?_; refine ⟨_, _, within1T 0 255 x.f g2 _ h2, _, cutA, ?_⟩
        rintro v H' ⟨rfl, rfl⟩
        repeat (first | refine stepA ?_ | intro _)
        rename_i g3
        refine callA ?_; refine ⟨_, _, areShort4T g3 _ x.a x.b x.c x.d h3, _, cutA, ?_⟩
        rintro v H' ⟨rfl, rfl⟩
        repeat (first | refine stepA ?_ | intro _)
        (first | refine retA ?_ | refine retB ?_); exact ⟨_, ⟨by simp only [resVal, Bool.and_true, Bool.true_and]; congr 1; rw [Bool.eq_iff_iff]; simp only [decide_eq_true_eq, rightP_iff]; omega, rfl⟩, subA⟩
      · repeat (first | refine stepA ?_ | intro _)
        rename_i g1
        refine callA ?_; refine ⟨_, _, within1T 1 25 x.no g1 _ h1, _, cutA, ?_⟩
        rintro v H' ⟨rfl, rfl⟩
        repeat (first | refine stepA ?_ | intro _)
        rename_i g2
        refine callA ?_; refine ⟨_, _, within1T 0 255 x.f g2 _ h2, _, cutA, ?_⟩
        rintro v H' ⟨rfl, rfl⟩
        repeat (first | refine stepA ?_ | intro _)
        rename_i g3
        refine callA ?_; refine ⟨_, _, areShort4F g3 _ x.a x.b x.c x.d h3, _, cutA, ?_⟩
        rintro v H' ⟨rfl, rfl⟩
        repeat (first | refine stepA ?_ | intro _)
        (first | refine retA ?_ | refine retB ?_); exact ⟨_, ⟨by rw [decide_eq_false (fun h : RightP x => h3 ⟨h.a, h.b, h.c, h.d⟩)]; rfl, rfl⟩, subA⟩
    · repeat (first | refine stepA ?_ | intro _)
      rename_i g1
      refine callA ?_; refine ⟨_, _, within1T 1 25 x.no g1 _ h1, _, cutA, ?_⟩
      rintro v H' ⟨rfl, rfl⟩
      repeat (first | refine stepA ?_ | intro _)
      rename_i g2
      refine callA ?_; refine ⟨_, _, within1F 0 255 x.f g2 _ h2, _, cutA, ?_⟩
      rintro v H' ⟨rfl, rfl⟩
      repeat (first | refine stepA ?_ | intro _)
      (first | refine retA ?_ | refine retB ?_); exact ⟨_, ⟨by rw [decide_eq_false (fun h : RightP x => h2 h.f)]; rfl, rfl⟩, subA⟩
  · repeat (first | refine stepA ?_ | intro _)
    rename_i g1
    refine callA ?_; refine ⟨_, _, within1F 1 25 x.no g1 _ h1, _, cutA, ?_⟩
    rintro v H' ⟨rfl, rfl⟩
    repeat (first | refine stepA ?_ | intro _)
    (first | refine retA ?_ | refine retB ?_); exact ⟨_, ⟨by rw [decide_eq_false (fun h : RightP x => h1 h.no)]; rfl, rfl⟩, subA⟩
end Go.Proofs.YtcpfmjlceoiofaaGreatDoor

/-
  The walk's own small calculus, 27th part: a drawn region as a graph of states.
-/
namespace Go.Proofs.YtcpfmjlceoiofaaGreatDoor
open Go.RowKit
section rules
variable {X : Cx} {ds : List Deferred} {Hs : Hp} {ops : Array Oper} {K : St → List Deferred → Hp → Prop} {nk : List Nat}
theorem AS_st {S α : Type} (lst : S → Array Bool) (rk : S → Nat) (nx : S → List (Nat × S)) (ok : S → α → Prop) (sl : S → α → St) (sh : S → α → Hp) (hro : X.ro = none)
    (hr : ∀ s, nx s ≠ [] → (Region.ready .any ops (lst s) == (nx s).map (·.1)) = true)
    (hl : ∀ s, ∀ p ∈ nx s, (lst s).setIfInBounds p.1 true = lst p.2 ∧ rk s = rk p.2 + 1)
    (step : ∀ s, ∀ p ∈ nx s, ∀ x, ok s x → ∀ KK : St → List Deferred → Hp → Prop, (∀ y l' H', ok p.2 y → Subl (sl p.2 y) l' → Sub (sh p.2 y) H' → KK l' ds H') →
      ∃ o, ops[p.1]? = some o ∧ L X ops [o] (fun e l' ds' H' => e = .normal ∧ KeepsH nk p.1 Hs H' ∧ KK l' ds' H') (sl s x) ds (sh s x))
    (fin : ∀ s, nx s = [] → ∀ x, ok s x → AS X ops K Hs nk (rk s) (lst s) (sl s x) ds (sh s x)) :
    ∀ n s x l H, rk s = n → ok s x → Subl (sl s x) l → Sub (sh s x) H → AS X ops K Hs nk n (lst s) l ds H := by
  intro n
  induction n with
  | zero =>
    intro s x l H hn hok hsl hsh
    have h0 : nx s = [] := by
      cases h : nx s with
      | nil => rfl
      | cons p ps =>
        have := (hl s p (by rw [h]; simp)).2
        omega
    have := fin s h0 x hok
    rw [hn] at this
    exact fun a w ha hw => this a w (ha.weak hsl.get) (hw.sub hsh)
  | succ m ih =>
    intro s x l H hn hok hsl hsh
    by_cases h0 : nx s = []
    · have := fin s h0 x hok
      rw [hn] at this
      exact fun a w ha hw => this a w (ha.weak hsl.get) (hw.sub hsh)
    · refine AS_all ((nx s).map (·.1)) hro (hr s h0) (by simpa using h0) ?_
      intro i hi
      obtain ⟨p, hp, rfl⟩ := List.mem_map.1 hi
      obtain ⟨h1, h2⟩ := hl s p hp
      obtain ⟨o, ho, hL⟩ := step s p hp x hok (AS X ops K Hs nk m ((lst s).setIfInBounds p.1 true)) (fun y l' H' hy q1 q2 => by
        rw [h1]
        exact ih p.2 y l' H' (by omega) hy q1 q2)
      exact ⟨o, ho, L_weakl hsl (L_weakh hsh hL)⟩
end rules
end Go.Proofs.YtcpfmjlceoiofaaGreatDoor

/-
  Copies: parts.
-/
namespace Go.Proofs.YtcpfmjlceoiofaaGreatDoor
open Go.RowKit
attribute [local irreducible] W L QL PureOp thenQ blockQ retQ Spec IterOk YSpec roundQ scopeQ noGoQ
attribute [local irreducible] AS ASi IterOkC retD retE roundY
set_option maxHeartbeats 6400000
set_option maxRecDepth 4000
theorem parts_spec (addr n : Int) : Spec Tryz.prog 178 [.int .i64 addr, .int .i64 n] [] fun v H' => ∃ bn ba, v = .func (.func 300) #[] #[.pointer (some ⟨bn, 0, none⟩), .pointer (some ⟨ba, 0, none⟩)] ∧ H' = [piB bn n, piB ba addr] := by
  refine Spec_body Tryz.func178 rfl Tryz.ntmps178 rfl (fun w0 => ?_)
  repeat (first | refine stepA ?_ | intro _)
  rename_i ba bn
  (first | refine retA ?_ | refine retB ?_)
  exact ⟨_, ⟨bn, ba, rfl, rfl⟩, subA⟩
def pN (addr n : Nat) : Nat := min n (64 - addr % 64)
abbrev ptV (addr n : Nat) : List Value := [.int .i64 ((addr / 64 : Nat) : Int), .int .i64 ((addr % 64 : Nat) : Int), .int .i64 ((pN addr n : Nat) : Int)]
theorem parts_iter (bn ba : Nat) (s0 : Nat × Nat) (hs : s0.1 + s0.2 ≤ 100000) : IterOkC Tryz.prog 300 [.pointer (some ⟨bn, 0, none⟩), .pointer (some ⟨ba, 0, none⟩)]
    (fun (I J : Nat × Nat → Hp → Prop) => (∀ s H, I s H → ∃ R, Cut [piB bn (s.2 : Int), piB ba (s.1 : Int)] H R) ∧
      ∀ s H, 0 < s.2 → J s H → ∃ R H', Cut [piB bn (s.2 : Int), piB ba (s.1 : Int)] H R ∧ I (s.1 + pN s.1 s.2, s.2 - pN s.1 s.2) H' ∧ ([piB bn ((s.2 - pN s.1 s.2 : Nat) : Int), piB ba ((s.1 + pN s.1 s.2 : Nat) : Int)] ++ R).Perm H')
    (fun s => 0 < s.2 ∧ s.1 + s.2 ≤ 100000) (fun s => [.agg (ptV s.1 s.2).toArray]) (fun s => s.2 = 0) s0 := by
  unfold IterOkC
  rintro y I J S ⟨hA, hJ⟩ hy H h0
  obtain ⟨R, hcut⟩ := hA s0 H h0
  refine Spec_body Tryz.func300 rfl Tryz.ntmps300 rfl (fun w0 => ?_)
  refine W_perm hcut.perm ?_
  simp only [List.cons_append, List.nil_append]
  repeat (first | refine stepA ?_ | intro _)
  refine W_loop (fun x : (Nat × Nat) × Hp => [(0, .func (.yield y) #[] #[]), (1, .pointer (some ⟨bn, 0, none⟩)), (2, .pointer (some ⟨ba, 0, none⟩))]) (fun x => x.2) (fun x => x.1.1 + x.1.2 ≤ 100000 ∧ I x.1 x.2) (fun x => x.1.2) (s0, H) ⟨hs, h0⟩ sublA (Sub.ofPerm hcut.perm) ?_
  rintro ⟨⟨addr, n⟩, Hk⟩ ⟨hk, hIk⟩
  simp only at hk hIk ⊢
  obtain ⟨Rk, hck⟩ := hA (addr, n) Hk hIk
  simp only at hck
  refine W_perm hck.perm ?_
  simp only [List.cons_append, List.nil_append]
  by_cases hn : 0 < n
  · have hpn : 0 < pN addr n ∧ pN addr n ≤ n ∧ pN addr n ≤ 64 := by simp only [pN]; omega
    have emin : min (n : Int) (64 - ((addr % 64 : Nat) : Int)) = ((pN addr n : Nat) : Int) := by
      simp only [pN]
      omega
    have ediv : (addr : Int) / 64 = ((addr / 64 : Nat) : Int) := by omega
    have emod : (addr : Int) % 64 = ((addr % 64 : Nat) : Int) := by omega
    repeat (first | refine stepA ?_ | intro _)
    rename_i b4
    rw [ediv, emod, emin]
    have hyk := hy (addr, n) Hk hIk ⟨hn, hk⟩
    simp only at hyk
    refine L_yield rfl (ev_of rfl (by with_reducible rfl)) rfl hyk (R0 := [(b4, .cells (ptV addr n) 215)]) ?_ ?_
    · refine List.Perm.trans ?_ (List.Perm.append_right _ hck.perm.symm)
      simp only [List.cons_append, List.nil_append]
      exact permA
    · rintro b H' hb
      rcases hb with ⟨rfl, hb⟩ | ⟨rfl, hb⟩
      · obtain ⟨R2, H2, hc2, hI2, hp2⟩ := hJ (addr, n) H' hn hb
        simp only at hc2 hI2 hp2
        refine L_perm (H' := piB bn (n : Int) :: piB ba (addr : Int) :: (b4, .cells (ptV addr n) 215) :: R2) ((List.Perm.append_right _ hc2.perm).trans (by simp only [List.cons_append, List.nil_append]; exact permA)) ?_
        repeat (first | refine stepA ?_ | intro _)
        have ea : (addr : Int) + ((pN addr n : Nat) : Int) = ((addr + pN addr n : Nat) : Int) := by omega
        have en : (n : Int) - ((pN addr n : Nat) : Int) = ((n - pN addr n : Nat) : Int) := by omega
        refine W_any [piB bn (n : Int), (b4, .cells (ptV addr n) 215)] [9] rfl ?_
        refine AS_at 1 (by decide +kernel) ?_; refine takeA ?_
        refine AS_at 2 (by decide +kernel) ?_; refine takeA ?_
        refine AS_at 4 (by decide +kernel) ?_; refine takeA ?_
        refine AS_at 5 (by decide +kernel) ?_; refine takeA ?_
        refine AS_at 6 (by decide +kernel) ?_; refine takeA ?_
        refine AS_at 7 (by decide +kernel) ?_; refine takeA ?_
        refine AS_one 0 rfl (by decide +kernel) rfl ?_
        refine stepA ?_
        refine L_nil ?_; refine ⟨rfl, (by first | exact KeepsH.brk (by decide +kernel) | exact KeepsH.sub subA | exact KeepsH.sub subT), ?_⟩
        refine AS_at 3 (by decide +kernel) ?_; refine takeA ?_
        refine AS_one 8 rfl (by decide +kernel) rfl ?_
        refine stepA ?_
        refine L_nil ?_; refine ⟨rfl, (by first | exact KeepsH.brk (by decide +kernel) | exact KeepsH.sub subA | exact KeepsH.sub subT), ?_⟩
        refine AS_one 9 rfl (by decide +kernel) rfl ?_
        refine stepA ?_
        refine L_nil ?_; refine ⟨rfl, (by first | exact KeepsH.brk (by decide +kernel) | exact KeepsH.sub subA | exact KeepsH.sub subT), ?_⟩
        refine AS_done (by decide +kernel) ?_
        rw [ea, en]
        repeat (first | refine stepA ?_ | intro _)
        exact ⟨rfl, ((addr + pN addr n, n - pN addr n), H2), ⟨by simp only; omega, hI2⟩, by simp only; omega, sublA, Sub.ofPermR (R := [(b4, .cells (ptV addr n) 215)]) (List.Perm.trans (List.Perm.append_right _ hp2.symm) (by simp only [List.cons_append, List.nil_append]; exact permA))⟩
      · repeat (first | refine stepA ?_ | intro _)
        (first | refine retA ?_ | refine retB ?_)
        exact ⟨_, .inr hb, Sub.ofPermR (R := [_]) (List.Perm.refl _)⟩
  · obtain rfl : n = 0 := by omega
    repeat (first | refine stepA ?_ | intro _)
    (first | refine retA ?_ | refine retB ?_)
    exact ⟨_, .inl ⟨_, rfl, hIk⟩, Sub.ofPerm (hck.perm.trans permA)⟩
end Go.Proofs.YtcpfmjlceoiofaaGreatDoor

/-
  Copies: Spans from 0 on; the leaves of bytes.
-/
namespace Go.Proofs.YtcpfmjlceoiofaaGreatDoor
open Go.RowKit
attribute [local irreducible] W L QL PureOp thenQ blockQ retQ Spec IterOk YSpec roundQ scopeQ noGoQ
attribute [local irreducible] AS ASi IterOkC retD retE roundY
set_option maxHeartbeats 6400000
set_option maxRecDepth 4000
def spanN (n : Nat) : Nat := (n + 63) / 64
abbrev kB (b : Nat) (n : Nat) : Nat × Blk := (b, .cells [.int .i64 (n : Int)] 3)
theorem spans_sp (n : Nat) (hn : n ≤ 4096) : Spec Tryz.prog 84 [.int .i64 0, .int .i64 (n : Int)] [] fun v H' => v = .int .i64 ((spanN n : Nat) : Int) ∧ H' = [] := by
  refine Spec_body Tryz.func84 rfl Tryz.ntmps84 rfl (fun w0 => ?_)
  repeat (first | refine stepA ?_ | intro _)
  rename_i b5
  refine callA ?_; refine ⟨_, _, parts_spec 0 (n : Int), _, cutA, ?_⟩
  rintro v H' ⟨bn, ba, rfl, rfl⟩
  simp only [List.cons_append, List.nil_append]
  repeat (first | refine stepA ?_ | intro _)
  have inst : FnOk Tryz.prog 300 := inferInstance
  refine W_rangeC rfl (ev_of rfl (by with_reducible rfl)) inst (parts_iter bn ba (0, n) (by simp only; omega)) (fun _ => rfl) (by simp)
    (fun s Hc => (s.1 + s.2 = n ∧ (s.1 % 64 = 0 ∨ s.2 = 0)) ∧ Hc = [piB bn (s.2 : Int), piB ba (s.1 : Int), kB b5 (spanN s.1)])
    (fun s Hc => (s.1 + s.2 = n ∧ s.1 % 64 = 0 ∧ 0 < s.2) ∧ Hc = [piB bn (s.2 : Int), piB ba (s.1 : Int), kB b5 (spanN s.1 + 1)])
    (fun _ _ => False)
    (fun u v => ⟨by
      rintro s H ⟨Hc, ⟨_, rfl⟩, rfl⟩
      exact ⟨_, .cons (.there (.there .here)) (.cons (.there (.there .here)) .nil)⟩, by
      rintro ⟨x, y⟩ H hy ⟨Hc, ⟨⟨h1, h2, h3⟩, rfl⟩, rfl⟩
      simp only at h1 h2 h3 hy ⊢
      have hp : 0 < pN x y ∧ pN x y ≤ y ∧ (pN x y = 64 ∨ (pN x y = y ∧ y ≤ 64)) := by simp only [pN]; omega
      have e : spanN (x + pN x y) = spanN x + 1 := by simp only [spanN]; omega
      refine ⟨[u, v, kB b5 (spanN x + 1)], _, .cons (.there (.there .here)) (.cons (.there (.there .here)) .nil), ⟨_, ⟨⟨?_, ?_⟩, rfl⟩, rfl⟩, ?_⟩
      · first | omega | (simp only; omega)
      · first | omega | (simp only; omega)
      · simp only [e]
        simp only [List.cons_append, List.nil_append]
        exact permA⟩)
    ⟨[piB bn (n : Int), piB ba 0, kB b5 0], ⟨⟨Nat.zero_add n, .inl rfl⟩, (by show _ = [_, _, kB b5 (spanN 0)]; rw [show spanN 0 = 0 from by decide]; rfl)⟩, subA⟩ ?_ ?_ ?_
  · rintro y ⟨x, z⟩ Hc w1 ⟨⟨h1, h2⟩, rfl⟩ ⟨h3, h4⟩
    simp only at h1 h2 h3 h4 ⊢
    repeat (first | refine stepA ?_ | intro _)
    have hb : spanN x ≤ 2000 := by simp only [spanN]; omega
    refine ⟨rfl, fun w2 => ?_⟩
    repeat (first | refine stepA ?_ | intro _)
    have e : ((spanN x : Nat) : Int) + 1 = ((spanN x + 1 : Nat) : Int) := by omega
    rw [e]
    exact roundQ_n (Hc := [piB bn (z : Int), piB ba (x : Int), kB b5 (spanN x + 1)]) ⟨⟨h1, by omega, h3⟩, rfl⟩ subA
  · rintro D ⟨x, z⟩ Hc hz ⟨⟨h1, h2⟩, rfl⟩
    simp only at hz h1 h2 ⊢
    obtain rfl : x = n := by omega
    repeat (first | refine stepA ?_ | intro _)
    (first | refine retA ?_ | refine retB ?_)
    exact ⟨_, ⟨rfl, rfl⟩, subA⟩
  · rintro D c Hc h
    exact h.elim
/-! ### leaves -/
abbrev stB (b : Nat) (s : List UInt8) : Nat × Blk := (b, .cells [str s] 9)
theorem leaves_spec (s : List UInt8) : Spec Tryz.prog 85 [str s] [] fun v H' => ∃ bs, v = .func (.func 179) #[] #[.pointer (some ⟨bs, 0, none⟩)] ∧ H' = [stB bs s] := by
  refine Spec_body Tryz.func85 rfl Tryz.ntmps85 rfl (fun w0 => ?_)
  repeat (first | refine stepA ?_ | intro _)
  rename_i bs
  (first | refine retA ?_ | refine retB ?_)
  exact ⟨_, ⟨bs, rfl, rfl⟩, subA⟩
theorem leaves_iter (bs : Nat) (s0 : List UInt8) (hs : s0.length ≤ 100000) : IterOkC Tryz.prog 179 [.pointer (some ⟨bs, 0, none⟩)]
    (fun (I J : List UInt8 → Hp → Prop) => (∀ s H, I s H → ∃ R, Cut [stB bs s] H R) ∧
      ∀ s H, s ≠ [] → J s H → ∃ R H', Cut [stB bs s] H R ∧ I (s.drop 64) H' ∧ (stB bs (s.drop 64) :: R).Perm H')
    (fun s => s ≠ []) (fun s => [str (s.take 64)]) (fun s => s = []) s0 := by
  unfold IterOkC
  rintro y I J S ⟨hA, hJ⟩ hy H h0
  refine Spec_body Tryz.func179 rfl Tryz.ntmps179 rfl (fun w0 => ?_)
  repeat (first | refine stepA ?_ | intro _)
  refine W_loop (fun x : List UInt8 × Hp => [(0, .func (.yield y) #[] #[]), (1, .pointer (some ⟨bs, 0, none⟩))]) (fun x => x.2) (fun x => x.1.length ≤ 100000 ∧ I x.1 x.2) (fun x => x.1.length) (s0, H) ⟨hs, h0⟩ sublA (Sub.refl _) ?_
  rintro ⟨s, Hk⟩ ⟨hl, hIk⟩
  simp only at hl hIk ⊢
  obtain ⟨Rk, hck⟩ := hA s Hk hIk
  refine W_perm hck.perm ?_
  simp only [List.cons_append, List.nil_append]
  by_cases hn : s = []
  · subst hn
    repeat (first | refine stepA ?_ | intro _)
    (first | refine retA ?_ | refine retB ?_)
    exact ⟨_, .inl ⟨_, rfl, hIk⟩, Sub.ofPerm (hck.perm.trans permA)⟩
  · have hlen : 0 < s.length := List.length_pos_iff.2 hn
    have emin : min (s.length : Int) 64 = ((min s.length 64 : Nat) : Int) := by omega
    repeat (first | refine stepA ?_ | intro _)
    rw [emin]
    (first | (apply L_P; (· exact rfl); (· exact rfl)) | (apply QL_P; (· exact rfl))); (· (apply P_slStr; (· exact evA); (· exact Bound.none); (· exact Bound.nat rfl); (· omega)))
    have e1 : (s.drop 0).take (min s.length 64 - 0) = s.take 64 := by
      rw [List.drop_zero, Nat.sub_zero, Nat.min_comm, ← List.take_take, List.take_length]
    have hyk := hy s Hk hIk hn
    simp only at hyk
    rw [e1]
    refine L_yield rfl (ev_of rfl (by with_reducible rfl)) rfl hyk (R0 := []) ?_ ?_
    · rw [List.append_nil]
      exact List.Perm.trans permA hck.perm.symm
    · rintro b H' hb
      rw [List.append_nil]
      rcases hb with ⟨rfl, hb⟩ | ⟨rfl, hb⟩
      · obtain ⟨R2, H2, hc2, hI2, hp2⟩ := hJ s H' hn hb
        refine L_perm hc2.perm ?_
        simp only [List.cons_append, List.nil_append]
        repeat (first | refine stepA ?_ | intro _)
        (first | (apply L_P; (· exact rfl); (· exact rfl)) | (apply QL_P; (· exact rfl))); (· (apply P_slStr; (· exact evA); (· exact Bound.nat rfl); (· exact Bound.none); (· omega)))
        have e2 : (s.drop (min s.length 64)).take (s.length - min s.length 64) = s.drop 64 := by
          by_cases h : s.length ≤ 64
          · rw [Nat.min_eq_left h, List.drop_length, List.drop_eq_nil_of_le h, List.take_nil]
          · rw [Nat.min_eq_right (by omega), List.take_of_length_le (by simp)]
        rw [e2]
        repeat (first | refine stepA ?_ | intro _)
        exact ⟨rfl, (s.drop 64, H2), ⟨by simp only [List.length_drop]; omega, hI2⟩, by simp only [List.length_drop]; omega, sublA, Sub.ofPerm (hp2.symm.trans permA)⟩
      · repeat (first | refine stepA ?_ | intro _)
        (first | refine retA ?_ | refine retB ?_)
        exact ⟨_, .inr hb, Sub.refl _⟩
end Go.Proofs.YtcpfmjlceoiofaaGreatDoor

/-
  Copies: each.
-/
namespace Go.Proofs.YtcpfmjlceoiofaaGreatDoor
open Go.RowKit
attribute [local irreducible] W L QL PureOp thenQ blockQ retQ Spec IterOk YSpec roundQ scopeQ noGoQ
attribute [local irreducible] AS ASi IterOkC retD retE roundY
set_option maxHeartbeats 6400000
set_option maxRecDepth 4000
/-- how a span's parts are gone through: what lies where (s), from an address on, so many bytes; the error; what lies there then -/
inductive EachR {S : Type} (wk : S → Nat → Int) (R : S → Nat → Nat → Int → S → Prop) : S → Nat → Nat → Int → S → Prop where
  | done (s : S) (a : Nat) : EachR wk R s a 0 0 s
  | fault {s : S} {a n : Nat} (h : 0 < n) (hw : wk s (a / 64) ≠ 0) : EachR wk R s a n 30 s
  | stop {s s2 : S} {a n : Nat} {e : Int} (h : 0 < n) (hw : wk s (a / 64) = 0) (hr : R s a n e s2) (he : e ≠ 0) : EachR wk R s a n e s2
  | next {s s2 s3 : S} {a n : Nat} {e : Int} (h : 0 < n) (hw : wk s (a / 64) = 0) (hr : R s a n 0 s2) (hn : EachR wk R s2 (a + pN a n) (n - pN a n) e s3) : EachR wk R s a n e s3
theorem pN_le (a n : Nat) : pN a n ≤ n := by simp only [pN]; omega
theorem pN_pos {a n : Nat} (h : 0 < n) : 0 < pN a n := by simp only [pN]; omega
abbrev mxB (b : Nat) (m : MemP) : Nat × Blk := (b, .cells [m.ptr] 58)
abbrev ixB (b : Nat) (i : Int) : Nat × Blk := (b, .cells [.int .i64 i] 3)
abbrev wxB (b : Nat) (i : Int) : Nat × Blk := (b, .cells [.int .i64 i] 29)
abbrev dxB (b f : Nat) (caps : List Value) : Nat × Blk := (b, .cells [.func (.func f) #[] caps.toArray] 217)
theorem ceach_spec (m : MemP) {S : Type} (Ms : S → List Frm) (Hs : S → Hp) (root : Int) (hM : ∀ s, WfM (Ms s)) {f : FuncId} (inst : FnOk Tryz.prog f) (caps : List Value) (R : S → Nat → Nat → Int → S → Prop) (ok : S → Nat → Nat → Prop)
    (hd : ∀ s a n, ok s a n → 0 < n → a + n ≤ 16384 → (walkM (Ms s) root (a / 64)).2.2 = 0 → Spec Tryz.prog f (.agg (ptV a n).toArray :: .int .i64 ((walkM (Ms s) root (a / 64)).1 : Int) :: .int .i64 ((walkM (Ms s) root (a / 64)).2.1 : Int) :: caps) (memH m (Ms s) ++ Hs s)
      fun v H' => ∃ e s2, R s a n e s2 ∧ (e = 0 → ok s2 (a + pN a n) (n - pN a n)) ∧ v = .int .i64 e ∧ H' = memH m (Ms s2) ++ Hs s2)
    (s0 : S) (a0 n0 : Nat) (ha : a0 + n0 ≤ 16384) (h0 : ok s0 a0 n0) :
    Spec Tryz.prog 99 [m.ptr, .int .i64 root, .int .i64 (a0 : Int), .int .i64 (n0 : Int), .func (.func f) #[] caps.toArray] (memH m (Ms s0) ++ Hs s0)
      fun v H' => ∃ e s2, EachR (fun s p => (walkM (Ms s) root p).2.2) R s0 a0 n0 e s2 ∧ v = .int .i64 e ∧ H' = memH m (Ms s2) ++ Hs s2 := by
  refine Spec_body Tryz.func99 rfl Tryz.ntmps99 rfl (fun w0 => ?_)
  simp only [List.cons_append, List.nil_append]
  repeat (first | refine stepA ?_ | intro _)
  rename_i b5 b6 b9 b11
  refine callA ?_; refine ⟨_, _, parts_spec (a0 : Int) (n0 : Int), _, cutA, ?_⟩
  rintro v H' ⟨bn, ba, rfl, rfl⟩
  simp only [List.cons_append, List.nil_append]
  repeat (first | refine stepA ?_ | intro _)
  have inst2 : FnOk Tryz.prog 300 := inferInstance
  obtain ⟨K, hK⟩ : ∃ K : S → Int → Hp, K = fun s w => mxB b5 m :: ixB b6 root :: dxB b9 f caps :: wxB b11 w :: (memH m (Ms s) ++ Hs s) := ⟨_, rfl⟩
  obtain ⟨Go, hGo⟩ : ∃ Go : S → Nat → Nat → Prop, Go = fun s a n => a + n = a0 + n0 ∧ ok s a n ∧ ∀ e s2, EachR (fun s p => (walkM (Ms s) root p).2.2) R s a n e s2 → EachR (fun s p => (walkM (Ms s) root p).2.2) R s0 a0 n0 e s2 := ⟨_, rfl⟩
  refine W_rangeC rfl (ev_of rfl (by with_reducible rfl)) inst2 (parts_iter bn ba (a0, n0) (by simp only; omega)) (fun _ => rfl) (by simp)
    (fun x Hc => ∃ s, Go s x.1 x.2 ∧ Hc = piB bn (x.2 : Int) :: piB ba (x.1 : Int) :: K s 0)
    (fun x Hc => ∃ s, Go s (x.1 + pN x.1 x.2) (x.2 - pN x.1 x.2) ∧ Hc = piB bn (x.2 : Int) :: piB ba (x.1 : Int) :: K s 0)
    (fun c Hc => c = .exit 0 ∧ ∃ s e x, EachR (fun s p => (walkM (Ms s) root p).2.2) R s0 a0 n0 e s ∧ Hc = piB bn ((x : Nat × Nat).2 : Int) :: piB ba (x.1 : Int) :: K s e)
    (fun u v => ⟨by
      rintro x H ⟨Hc, ⟨s, _, rfl⟩, rfl⟩
      exact ⟨_, .cons (.there (.there .here)) (.cons (.there (.there .here)) .nil)⟩, by
      rintro x H hy ⟨Hc, ⟨s, hg, rfl⟩, rfl⟩
      refine ⟨u :: v :: K s 0, _, .cons (.there (.there .here)) (.cons (.there (.there .here)) .nil), ⟨_, ⟨s, hg, rfl⟩, rfl⟩, ?_⟩
      simp only [List.cons_append, List.nil_append]
      exact permA⟩)
    ⟨_, ⟨s0, by rw [hGo]; exact ⟨rfl, h0, fun _ _ h => h⟩, rfl⟩, by rw [hK]; exact subT⟩ ?_ ?_ ?_
  · rintro y ⟨a, n⟩ Hc w1 ⟨s, hg, rfl⟩ ⟨hn, hle⟩
    rw [hGo] at hg
    obtain ⟨hg1, hgk, hg2⟩ := hg
    simp only at hg1 hgk hg2 hn hle ⊢
    rw [hK]
    simp only
    repeat (first | refine stepA ?_ | intro _)
    refine ⟨rfl, fun w2 => ?_⟩
    repeat (first | refine stepA ?_ | intro _)
    refine callA ?_; refine ⟨_, _, ptwalk_spec m (hM s) root (a / 64) (by omega), _, cutA, ?_⟩
    rintro v H' ⟨rfl, rfl⟩
    simp only [List.cons_append, List.nil_append]
    by_cases hw : (walkM (Ms s) root (a / 64)).2.2 = 0
    · repeat (first | refine stepA ?_ | intro _)
      refine callT ?_
      refine ⟨_, _, hd s a n hgk hn (by omega) hw, _, cutT, ?_⟩
      rintro v H' ⟨e, s2, hr, hk2, rfl, rfl⟩
      simp only [List.cons_append, List.nil_append]
      by_cases he : e = 0
      · subst he
        repeat (first | refine stepA ?_ | intro _)
        refine roundQ_n (Hc := piB bn (n : Int) :: piB ba (a : Int) :: K s2 0) ⟨s2, ?_, by rw [hK]; rfl⟩ (by rw [hK]; exact subT)
        rw [hGo]
        refine ⟨?_, hk2 rfl, fun e s3 h => hg2 e s3 (.next hn hw hr h)⟩
        have := pN_le a n
        simp only
        omega
      · repeat (first | refine stepA ?_ | intro _)
        exact roundQ_e (Hc := piB bn (n : Int) :: piB ba (a : Int) :: K s2 e) ⟨rfl, s2, e, (a, n), hg2 _ _ (.stop hn hw hr he), by rw [hK]; rfl⟩ (by rw [hK]; exact subT)
    · repeat (first | refine stepA ?_ | intro _)
      exact roundQ_e (Hc := piB bn (n : Int) :: piB ba (a : Int) :: K s 30) ⟨rfl, s, 30, (a, n), hg2 _ _ (.fault hn hw), by rw [hK]; rfl⟩ (by rw [hK]; exact subT)
  · rintro D ⟨a, n⟩ Hc hz ⟨s, hg, rfl⟩
    simp only at hz
    subst hz
    rw [hGo] at hg
    rw [hK]
    simp only
    repeat (first | refine stepA ?_ | intro _)
    (first | refine retA ?_ | refine retB ?_)
    exact ⟨_, ⟨0, s, hg.2.2 _ _ (.done s a), rfl, rfl⟩, subT⟩
  · rintro D c Hc ⟨rfl, s, e, ⟨a, n⟩, hE, rfl⟩
    rw [hK]
    simp only
    repeat (first | refine stepA ?_ | intro _)
    (first | refine retA ?_ | refine retB ?_)
    exact ⟨_, ⟨e, s, hE, rfl, rfl⟩, subT⟩
end Go.Proofs.YtcpfmjlceoiofaaGreatDoor

/-
  Copies: Check.
-/
namespace Go.Proofs.YtcpfmjlceoiofaaGreatDoor
open Go.RowKit
attribute [local irreducible] W L QL PureOp thenQ blockQ retQ Spec IterOk YSpec roundQ scopeQ noGoQ
attribute [local irreducible] AS ASi IterOkC retD retE roundY
set_option maxHeartbeats 6400000
set_option maxRecDepth 4000
/-- a span's parts, each with an error of its page -/
def eachF (ft : Nat → Int) : Nat → Nat → Nat → Int
  | 0, _, _ => 0
  | k + 1, a, n => if n = 0 then 0 else if ft (a / 64) ≠ 0 then ft (a / 64) else eachF ft k (a + pN a n) (n - pN a n)
theorem eachF_of {S : Type} {wk : S → Nat → Int} {R : S → Nat → Nat → Int → S → Prop} {ft : Nat → Int} {P : S → Prop} (h1 : ∀ s p, P s → wk s p ≠ 0 → ft p = 30) (h2 : ∀ s a n e s2, P s → R s a n e s2 → wk s (a / 64) = 0 → ft (a / 64) = e ∧ P s2) :
    ∀ {s a n e s2}, EachR wk R s a n e s2 → P s → ∀ k, n ≤ k → e = eachF ft k a n := by
  intro s a n e s2 h
  induction h with
  | done s a =>
    intro _ k _
    cases k with
    | zero => rfl
    | succ k => rw [eachF, if_pos rfl]
  | fault h hw =>
    intro hp k hk
    cases k with
    | zero => omega
    | succ k =>
      have := h1 _ _ hp hw
      rw [eachF, if_neg (by omega), if_pos (by rw [this]; decide), this]
  | stop h hw hr he =>
    intro hp k hk
    cases k with
    | zero => omega
    | succ k =>
      have := (h2 _ _ _ _ _ hp hr hw).1
      rw [eachF, if_neg (by omega), if_pos (by rw [this]; exact he), this]
  | @next s s2 s3 a n e h hw hr hn ih =>
    intro hp k hk
    cases k with
    | zero => omega
    | succ k =>
      have := h2 _ _ _ _ _ hp hr hw
      have h3 := pN_pos (a := a) h
      rw [eachF, if_neg (by omega), if_neg (by rw [this.1]; simp), ih this.2 k (by omega)]
theorem each_one {S : Type} {wk : S → Nat → Int} {R : S → Nat → Nat → Int → S → Prop} {s s2 : S} {a n : Nat} {e : Int} (h : EachR wk R s a n e s2) (hn : 0 < n) (h1 : a % 64 + n ≤ 64) (hw : wk s (a / 64) = 0) : R s a n e s2 := by
  cases h with
  | done => omega
  | fault _ h2 => exact absurd hw h2
  | stop _ _ hr _ => exact hr
  | next _ _ hr hn2 =>
    have e0 : n - pN a n = 0 := by simp only [pN]; omega
    rw [e0] at hn2
    cases hn2 with
    | done => exact hr
    | fault h => omega
    | stop h => omega
    | next h => omega
theorem each_nil {S : Type} {wk : S → Nat → Int} {R : S → Nat → Nat → Int → S → Prop} {s s2 : S} {a n : Nat} {e : Int} (h : EachR wk R s a n e s2) (hn : n = 0) : e = 0 ∧ s2 = s := by
  cases h with
  | done => exact ⟨rfl, rfl⟩
  | fault h => omega
  | stop h => omega
  | next h => omega
/-- may a page be read, or written? -/
def ftC (M : List Frm) (root : Int) (w : Bool) (p : Nat) : Int := if (walkM M root p).2.2 ≠ 0 then 30 else if w = true ∧ bits .and .i64 ((walkM M root p).2.1 : Int) 2 = 0 then 30 else 0
def checkC (M : List Frm) (root addr n : Int) (w : Bool) : Int :=
  if refsM M root = 0 then 10 else if n < 0 ∨ 4096 < n then 2 else if addr < 0 ∨ 16384 < addr ∨ 16384 - addr < n then 30 else eachF (ftC M root w) n.toNat addr.toNat n.toNat
theorem checkC_walk {M : List Frm} {root : Int} {a n : Nat} {w : Bool} (h : checkC M root (a : Int) (n : Int) w = 0) (hn : 0 < n) : (walkM M root (a / 64)).2.2 = 0 := by
  unfold checkC at h
  split at h
  · cases h
  split at h
  · cases h
  split at h
  · cases h
  rw [Int.toNat_natCast, Int.toNat_natCast] at h
  cases n with
  | zero => omega
  | succ k =>
    rw [eachF, if_neg (by omega)] at h
    by_cases h0 : (walkM M root (a / 64)).2.2 = 0
    · exact h0
    · have e : ftC M root w (a / 64) = 30 := by simp only [ftC]; rw [if_pos h0]
      rw [if_pos (by rw [e]; decide), e] at h
      cases h
abbrev bxB (b : Nat) (w : Bool) : Nat × Blk := (b, .cells [.bool w] 4)
theorem fitPt (a b c : Int) : FitK [.int .i64, .int .i64, .int .i64] [.int .i64 a, .int .i64 b, .int .i64 c] := by
  refine ⟨rfl, fun j k h => ?_⟩
  match j, h with
  | 0, h => cases h; exact ⟨_, rfl, _, rfl⟩
  | 1, h => cases h; exact ⟨_, rfl, _, rfl⟩
  | 2, h => cases h; exact ⟨_, rfl, _, rfl⟩
abbrev ptrV (b : Nat) : Value := .pointer (some ⟨b, 0, none⟩)
theorem check1_spec (bw : Nat) (w : Bool) (a n : Nat) (hn : 0 < n) (fr fl : Int) :
    Spec Tryz.prog 189 [.agg (ptV a n).toArray, .int .i64 fr, .int .i64 fl, ptrV bw] [bxB bw w] fun v H' => v = .int .i64 (if w = true ∧ bits .and .i64 fl 2 = 0 then 30 else 0) ∧ H' = [bxB bw w] := by
  have hp := pN_pos (a := a) hn
  refine Spec_body Tryz.func189 rfl Tryz.ntmps189 rfl (fun w0 => ?_)
  repeat (first | refine stepA ?_ | intro _)
  (first | (apply L_P; (· exact rfl); (· exact rfl)) | (apply QL_P; (· exact rfl)))
  · exact P_eqS (xs := ptV a n) (ys := [.int .i64 0, .int .i64 0, .int .i64 0]) (b := false) (ev_of rfl rfl) (ev_of rfl rfl) (fitPt _ _ _) (fitPt _ _ _) (by simp; omega)
  repeat (first | refine stepA ?_ | intro _)
  cases w with
  | false =>
    repeat (first | refine stepA ?_ | intro _)
    (first | refine retA ?_ | refine retB ?_)
    exact ⟨_, ⟨by rw [if_neg (by simp)]; rfl, rfl⟩, subA⟩
  | true =>
    repeat (first | refine stepA ?_ | intro _)
    (first | (apply L_P; (· exact rfl); (· exact rfl)) | (apply QL_P; (· exact rfl)))
    · exact P_and (ev_of rfl rfl) (ev_of rfl rfl) rfl
    by_cases h : bits .and .i64 fl 2 = 0
    · rw [h]
      repeat (first | refine stepA ?_ | intro _)
      (first | refine retA ?_ | refine retB ?_)
      exact ⟨_, ⟨by rw [if_pos ⟨rfl, rfl⟩]; rfl, rfl⟩, subA⟩
    · repeat (first | refine stepA ?_ | intro _)
      (first | refine retA ?_ | refine retB ?_)
      exact ⟨_, ⟨by rw [if_neg (fun hh => h hh.2)]; rfl, rfl⟩, subA⟩
theorem check_spec (m : MemP) {M : List Frm} (hM : WfM M) (root addr n : Int) (w : Bool) : Spec Tryz.prog 98 [m.ptr, .int .i64 root, .int .i64 addr, .int .i64 n, .bool w] (memH m M) fun v H' => v = .int .i64 (checkC M root addr n w) ∧ H' = memH m M := by
  refine Spec_body Tryz.func98 rfl Tryz.ntmps98 rfl (fun w0 => ?_)
  repeat (first | refine stepA ?_ | intro _)
  refine callA ?_; refine ⟨_, _, refs_spec m hM root, _, cutA, ?_⟩
  rintro v H' ⟨rfl, rfl⟩
  simp only [List.cons_append, List.nil_append]
  rw [checkC]
  by_cases h0 : refsM M root = 0
  · rw [if_pos h0, h0]
    repeat (first | refine stepA ?_ | intro _)
    (first | refine retA ?_ | refine retB ?_); exact ⟨_, ⟨rfl, rfl⟩, subA⟩
  rw [if_neg h0]
  by_cases h1 : n < 0
  · rw [if_pos (.inl h1)]
    repeat (first | refine stepA ?_ | intro _)
    (first | refine retA ?_ | refine retB ?_); exact ⟨_, ⟨rfl, rfl⟩, subA⟩
  by_cases h2 : 4096 < n
  · rw [if_pos (.inr h2)]
    repeat (first | refine stepA ?_ | intro _)
    (first | refine retA ?_ | refine retB ?_); exact ⟨_, ⟨rfl, rfl⟩, subA⟩
  rw [if_neg (by omega)]
  by_cases h3 : addr < 0
  · rw [if_pos (.inl h3)]
    repeat (first | refine stepA ?_ | intro _)
    (first | refine retA ?_ | refine retB ?_); exact ⟨_, ⟨rfl, rfl⟩, subA⟩
  by_cases h4 : 16384 < addr
  · rw [if_pos (.inr (.inl h4))]
    repeat (first | refine stepA ?_ | intro _)
    (first | refine retA ?_ | refine retB ?_); exact ⟨_, ⟨rfl, rfl⟩, subA⟩
  by_cases h5 : 16384 - addr < n
  · rw [if_pos (.inr (.inr h5))]
    repeat (first | refine stepA ?_ | intro _)
    (first | refine retA ?_ | refine retB ?_); exact ⟨_, ⟨rfl, rfl⟩, subA⟩
  rw [if_neg (by omega)]
  obtain ⟨a, rfl⟩ : ∃ a : Nat, addr = (a : Int) := ⟨addr.toNat, by omega⟩
  obtain ⟨k, rfl⟩ : ∃ k : Nat, n = (k : Int) := ⟨n.toNat, by omega⟩
  rw [Int.toNat_natCast, Int.toNat_natCast]
  repeat (first | refine stepA ?_ | intro _)
  rename_i bw
  have inst : FnOk Tryz.prog 189 := inferInstance
  have hE := ceach_spec m (S := Unit) (fun _ => M) (fun _ => [bxB bw w]) root (fun _ => hM) inst [ptrV bw] (fun _ a _ e _ => e = (if w = true ∧ bits .and .i64 ((walkM M root (a / 64)).2.1 : Int) 2 = 0 then 30 else 0)) (fun _ _ _ => True)
    (fun _ a n _ hn _ _ => (Spec.perm List.perm_append_comm ((check1_spec bw w a n hn ((walkM M root (a / 64)).1 : Int) ((walkM M root (a / 64)).2.1 : Int)).frame (memH m M))).permR fun v H1 ⟨H2, ⟨h1, h2⟩, h3⟩ => ⟨_, ⟨_, (), rfl, fun _ => trivial, h1, rfl⟩, by rw [h3, h2]; exact List.perm_append_comm⟩) () a k (by omega) trivial
  refine callA ?_; refine ⟨_, _, hE, _, cutA, ?_⟩
  rintro v H' ⟨e, s2, hr, rfl, rfl⟩
  have he := eachF_of (ft := ftC M root w) (P := fun _ => True) (fun s p _ h => by simp only [ftC]; rw [if_pos h]) (fun s a n e s2 _ hr hw => ⟨by rw [hr]; simp only [ftC]; rw [if_neg (by rw [hw]; decide)], trivial⟩) hr trivial k (Nat.le_refl _)
  rw [← he]
  simp only [List.cons_append, List.nil_append]
  repeat (first | refine stepA ?_ | intro _)
  (first | refine retA ?_ | refine retB ?_); exact ⟨_, ⟨rfl, rfl⟩, subA⟩
end Go.Proofs.YtcpfmjlceoiofaaGreatDoor

/-
  Copies: Out, within one page.
-/
namespace Go.Proofs.YtcpfmjlceoiofaaGreatDoor
open Go.RowKit
attribute [local irreducible] W L QL PureOp thenQ blockQ retQ Spec IterOk YSpec roundQ scopeQ noGoQ
attribute [local irreducible] AS ASi IterOkC retD retE roundY
set_option maxHeartbeats 6400000
set_option maxRecDepth 4000
abbrev sxB (b : Nat) (s : List UInt8) : Nat × Blk := (b, .cells [str s] 9)
/-- what is left to write, in a memory -/
structure OutS where
  M : List Frm
  s : List UInt8
  wf : WfM M
  n : s.length ≤ 4096
theorem out1_spec (m : MemP) (bm bs : Nat) {M : List Frm} (hM : WfM M) (a n : Nat) (s : List UInt8) (hn : n = s.length) (hs : n ≤ 4096) (fr fl : Int) :
    Spec Tryz.prog 213 [.agg (ptV a n).toArray, .int .i64 fr, .int .i64 fl, ptrV bm, ptrV bs] (memH m M ++ [mxB bm m, sxB bs s]) fun v H' => v = .int .i64 (writeM M fr ((a % 64 : Nat) : Int) (s.take (pN a n))).1 ∧ H' = memH m (writeM M fr ((a % 64 : Nat) : Int) (s.take (pN a n))).2 ++ [mxB bm m, sxB bs (s.drop (pN a n))] := by
  have hp := pN_le a n
  refine Spec_body Tryz.func213 rfl Tryz.ntmps213 rfl (fun w0 => ?_)
  simp only [List.cons_append, List.nil_append]
  repeat (first | refine stepA ?_ | intro _)
  rename_i b5
  have e1 : (s.drop 0).take (pN a n - 0) = s.take (pN a n) := by rw [List.drop_zero, Nat.sub_zero]
  refine W_any [(b5, .cells (ptV a n) 215), mxB bm m, sxB bs s] [8] rfl ?_
  refine AS_at 0 (by decide +kernel) ?_; refine takeA ?_
  refine AS_at 1 (by decide +kernel) ?_; refine takeA ?_
  refine AS_at 2 (by decide +kernel) ?_; refine takeA ?_
  refine AS_at 3 (by decide +kernel) ?_; refine takeA ?_
  refine AS_at 4 (by decide +kernel) ?_; refine takeA ?_
  refine AS_at 5 (by decide +kernel) ?_; refine takeA ?_
  refine AS_at 6 (by decide +kernel) ?_; refine takeA ?_
  refine AS_one 7 rfl (by decide +kernel) rfl ?_
  (first | (apply L_P; (· exact rfl); (· exact rfl)) | (apply QL_P; (· exact rfl))); (· (apply P_slStr; (· exact evA); (· exact Bound.none); (· exact Bound.nat rfl); (· omega)))
  rw [e1]
  refine L_nil ?_; refine ⟨rfl, (by first | exact KeepsH.brk (by decide +kernel) | exact KeepsH.sub subA | exact KeepsH.sub subT), ?_⟩
  refine AS_one 8 rfl (by decide +kernel) rfl ?_
  refine callA ?_; refine ⟨_, _, write_spec m hM fr ((a % 64 : Nat) : Int) (s.take (pN a n)), _, cutA, ?_⟩
  rintro v H' ⟨rfl, rfl⟩
  simp only [List.cons_append, List.nil_append]
  refine L_nil ?_; refine ⟨rfl, (by first | exact KeepsH.brk (by decide +kernel) | exact KeepsH.sub subA | exact KeepsH.sub subT), ?_⟩
  refine AS_at 9 (by decide +kernel) ?_; refine takeA ?_
  refine AS_done (by decide +kernel) ?_
  repeat (first | refine stepA ?_ | intro _)
  (first | (apply L_P; (· exact rfl); (· exact rfl)) | (apply QL_P; (· exact rfl))); (· (apply P_slStr; (· exact evA); (· exact Bound.nat rfl); (· exact Bound.none); (· omega)))
  have e2 : (s.drop (pN a n)).take (s.length - pN a n) = s.drop (pN a n) := List.take_of_length_le (by simp)
  rw [e2]
  repeat (first | refine stepA ?_ | intro _)
  (first | refine retA ?_ | refine retB ?_); exact ⟨_, ⟨rfl, rfl⟩, subA⟩
/-- Out, as far as a page goes -/
def outM (M : List Frm) (root : Int) (a : Nat) (s : List UInt8) : Int × List Frm := if s.length = 0 then (0, M) else writeM M (walkM M root (a / 64)).1 ((a % 64 : Nat) : Int) s
theorem out_spec (m : MemP) {M : List Frm} (hM : WfM M) (root : Int) (a : Nat) (s : List UInt8) (hc : checkC M root (a : Int) (s.length : Int) true = 0) (h1 : a % 64 + s.length ≤ 64) (ha : a + s.length ≤ 16384) :
    Spec Tryz.prog 120 [m.ptr, .int .i64 root, .int .i64 (a : Int), str s] (memH m M) fun v H' => v = .int .i64 (outM M root a s).1 ∧ H' = memH m (outM M root a s).2 := by
  refine Spec_body Tryz.func120 rfl Tryz.ntmps120 rfl (fun w0 => ?_)
  repeat (first | refine stepA ?_ | intro _)
  rename_i b4 b7
  have hck := check_spec m hM root (a : Int) (s.length : Int) true
  rw [hc] at hck
  refine callA ?_; refine ⟨_, _, hck, _, cutA, ?_⟩
  rintro v H' ⟨rfl, rfl⟩
  simp only [List.cons_append, List.nil_append]
  repeat (first | refine stepA ?_ | intro _)
  have inst : FnOk Tryz.prog 213 := inferInstance
  have hE := ceach_spec m (S := OutS) (fun x => x.M) (fun x => [mxB b4 m, sxB b7 x.s]) root (fun x => x.wf) inst [ptrV b4, ptrV b7]
    (fun x a n e y => (e, y.M) = writeM x.M (walkM x.M root (a / 64)).1 ((a % 64 : Nat) : Int) (x.s.take (pN a n)) ∧ y.s = x.s.drop (pN a n)) (fun x _ n => n = x.s.length)
    (fun x a n hx hn _ _ => (out1_spec m b4 b7 x.wf a n x.s hx (by have := x.n; omega) _ _).mono fun v H' ⟨h1, h2⟩ => ⟨_, ⟨_, x.s.drop (pN a n), writeM_wf x.wf, by have := x.n; simp only [List.length_drop]; omega⟩, ⟨rfl, rfl⟩, fun _ => by simp only [List.length_drop]; omega, h1, h2⟩) ⟨M, s, hM, by omega⟩ a s.length ha rfl
  refine callA ?_; refine ⟨_, _, hE, _, cutA, ?_⟩
  rintro v H' ⟨e, ⟨M2, s2, hM2, hn2⟩, hr, rfl, rfl⟩
  simp only [List.cons_append, List.nil_append]
  have key : outM M root a s = (e, M2) := by
    by_cases h0 : s.length = 0
    · obtain ⟨rfl, h3⟩ := each_nil hr h0
      cases h3
      rw [outM, if_pos h0]
    · have hw : (walkM M root (a / 64)).2.2 = 0 := checkC_walk hc (by omega)
      have := (each_one hr (by omega) h1 hw).1
      have e3 : pN a s.length = s.length := by simp only [pN]; omega
      simp only [e3, List.take_length] at this
      rw [outM, if_neg h0, this]
  rw [key]
  repeat (first | refine stepA ?_ | intro _)
  (first | refine retA ?_ | refine retB ?_); exact ⟨_, ⟨rfl, rfl⟩, subA⟩
end Go.Proofs.YtcpfmjlceoiofaaGreatDoor

/-
  Copies: In, within one page.
-/
namespace Go.Proofs.YtcpfmjlceoiofaaGreatDoor
open Go.RowKit
attribute [local irreducible] W L QL PureOp thenQ blockQ retQ Spec IterOk YSpec roundQ scopeQ noGoQ
attribute [local irreducible] AS ASi IterOkC retD retE roundY
set_option maxHeartbeats 6400000
set_option maxRecDepth 4000
/-- texts that were read, in a slice of the call's own -/
structure InS where
  l : List (List UInt8)
  a : Option Addr
  cap : Nat
  Hs : Hp
  own : Own 9 1 a l.length cap (l.map str) Hs
abbrev lxB (b : Nat) (a : Option Addr) (n cap : Nat) : Nat × Blk := (b, .cells [.slice a n cap] 52)
theorem in1_spec (m : MemP) (bm bo : Nat) {M : List Frm} (hM : WfM M) (a n : Nat) (x : InS) (hx : x.l.length + n ≤ 4096) (fr fl : Int) :
    Spec Tryz.prog 100 [.agg (ptV a n).toArray, .int .i64 fr, .int .i64 fl, ptrV bm, ptrV bo] (memH m M ++ (mxB bm m :: lxB bo x.a x.l.length x.cap :: x.Hs))
      fun v H' => ∃ y : InS, y.l = x.l ++ [(readM M fr ((a % 64 : Nat) : Int) ((pN a n : Nat) : Int)).1] ∧ v = .int .i64 (readM M fr ((a % 64 : Nat) : Int) ((pN a n : Nat) : Int)).2 ∧ H' = memH m M ++ (mxB bm m :: lxB bo y.a y.l.length y.cap :: y.Hs) := by
  obtain ⟨l, a0, cap, Hs, how⟩ := x
  simp only at hx ⊢
  refine Spec_body Tryz.func100 rfl Tryz.ntmps100 rfl (fun w0 => ?_)
  simp only [List.cons_append, List.nil_append]
  repeat (first | refine stepA ?_ | intro _)
  rename_i b5
  refine callA ?_; refine ⟨_, _, read_spec m hM fr ((a % 64 : Nat) : Int) ((pN a n : Nat) : Int), _, cutA, ?_⟩
  rintro v H' ⟨rfl, rfl⟩
  simp only [List.cons_append, List.nil_append]
  obtain ⟨t, ht⟩ : ∃ t, t = (readM M fr ((a % 64 : Nat) : Int) ((pN a n : Nat) : Int)).1 := ⟨_, rfl⟩
  rw [← ht]
  repeat (first | refine stepA ?_ | intro _)
  have hp := pN_le a n
  apply L_append
  · exact rfl
  · exact evA
  · exact evA
  · exact how
  · exact tailA
  · exact Lies.cells (k := 1) (news := [str t]) pullA rfl
  · rfl
  · simp [Value.oneCell']
  · omega
  · simp only [maxLen]; omega
  · omega
  · rfl
  rintro g2 cap' ys h1' h2' h3'
  have ea : l.map str ++ [str t] = (l ++ [t]).map str := by simp
  rw [ea] at h1' ⊢
  repeat (first | refine stepA ?_ | intro _)
  have how2 : Own 9 1 (some ⟨g2, 0, none⟩) (l ++ [t]).length cap' ((l ++ [t]).map str) [(g2, .cells ((l ++ [t]).map str ++ ys) 9)] := by
    have := Own.blk (e := 9) (size := 1) (g := g2) (by simp) h1' h2' h3'
    rw [List.length_append]
    exact this
  (first | refine retA ?_ | refine retB ?_)
  exact ⟨_, ⟨⟨l ++ [t], _, cap', _, how2⟩, rfl, rfl, rfl⟩, by simp only [List.length_append, List.length_singleton]; exact subT⟩
theorem join0_spec (p : Option Addr) (c : Nat) : Spec Tryz.prog 102 [.slice p 0 c] [] fun v H' => v = str [] ∧ H' = [] := by
  have hj : Spec Tryz.prog 193 [.slice p 0 c, str []] [] fun v H' => v = str [] ∧ H' = [] := by
    refine Spec_body Tryz.func193 rfl Tryz.ntmps193 rfl (fun w0 => ?_)
    repeat (first | refine stepA ?_ | intro _)
    (first | refine retA ?_ | refine retB ?_); exact ⟨_, ⟨rfl, rfl⟩, subA⟩
  refine Spec_body Tryz.func102 rfl Tryz.ntmps102 rfl (fun w0 => ?_)
  repeat (first | refine stepA ?_ | intro _)
  refine callA ?_; refine ⟨_, _, hj, _, cutA, ?_⟩
  rintro v H' ⟨rfl, rfl⟩
  simp only [List.cons_append, List.nil_append]
  repeat (first | refine stepA ?_ | intro _)
  (first | refine retA ?_ | refine retB ?_); exact ⟨_, ⟨rfl, rfl⟩, subA⟩
theorem join1_spec (g c : Nat) (t : List UInt8) (ys : List Value) : Spec Tryz.prog 102 [.slice (some ⟨g, 0, none⟩) 1 c] [(g, .cells (str t :: ys) 9)] fun v H' => v = str t ∧ H' = [(g, .cells (str t :: ys) 9)] := by
  have hj : Spec Tryz.prog 193 [.slice (some ⟨g, 0, none⟩) 1 c, str []] [(g, .cells (str t :: ys) 9)] fun v H' => v = str t ∧ H' = [(g, .cells (str t :: ys) 9)] := by
    refine Spec_body Tryz.func193 rfl Tryz.ntmps193 rfl (fun w0 => ?_)
    repeat (first | refine stepA ?_ | intro _)
    (first | refine retA ?_ | refine retB ?_); exact ⟨_, ⟨rfl, rfl⟩, subA⟩
  refine Spec_body Tryz.func102 rfl Tryz.ntmps102 rfl (fun w0 => ?_)
  repeat (first | refine stepA ?_ | intro _)
  refine callA ?_; refine ⟨_, _, hj, _, cutA, ?_⟩
  rintro v H' ⟨rfl, rfl⟩
  simp only [List.cons_append, List.nil_append]
  repeat (first | refine stepA ?_ | intro _)
  (first | refine retA ?_ | refine retB ?_); exact ⟨_, ⟨rfl, rfl⟩, subA⟩
/-- In, as far as a page goes -/
def inM (M : List Frm) (root : Int) (a n : Nat) : List UInt8 × Int := if n = 0 then ([], 0) else readM M (walkM M root (a / 64)).1 ((a % 64 : Nat) : Int) (n : Int)
theorem in_spec (m : MemP) {M : List Frm} (hM : WfM M) (root : Int) (a n : Nat) (hc : checkC M root (a : Int) (n : Int) false = 0) (h1 : a % 64 + n ≤ 64) (ha : a + n ≤ 16384) :
    Spec Tryz.prog 49 [m.ptr, .int .i64 root, .int .i64 (a : Int), .int .i64 (n : Int)] (memH m M) fun v H' => v = .tuple #[str (inM M root a n).1, .int .i64 (inM M root a n).2] ∧ H' = memH m M := by
  refine Spec_body Tryz.func49 rfl Tryz.ntmps49 rfl (fun w0 => ?_)
  repeat (first | refine stepA ?_ | intro _)
  rename_i b4
  have hck := check_spec m hM root (a : Int) (n : Int) false
  rw [hc] at hck
  refine callA ?_; refine ⟨_, _, hck, _, cutA, ?_⟩
  rintro v H' ⟨rfl, rfl⟩
  simp only [List.cons_append, List.nil_append]
  repeat (first | refine stepA ?_ | intro _)
  rename_i b11
  have inst : FnOk Tryz.prog 100 := inferInstance
  have hE := ceach_spec m (S := InS) (fun _ => M) (fun x => mxB b4 m :: lxB b11 x.a x.l.length x.cap :: x.Hs) root (fun _ => hM) inst [ptrV b4, ptrV b11]
    (fun x a n e y => e = (readM M (walkM M root (a / 64)).1 ((a % 64 : Nat) : Int) ((pN a n : Nat) : Int)).2 ∧ y.l = x.l ++ [(readM M (walkM M root (a / 64)).1 ((a % 64 : Nat) : Int) ((pN a n : Nat) : Int)).1]) (fun x _ n => x.l.length + n ≤ 4096)
    (fun x a n hx hn _ _ => (in1_spec m b4 b11 hM a n x hx _ _).mono fun v H' ⟨y, h1, h2, h3⟩ => ⟨_, y, ⟨rfl, h1⟩, fun _ => by have := pN_pos (a := a) hn; have := pN_le a n; rw [h1, List.length_append, List.length_singleton]; omega, h2, h3⟩) ⟨[], none, 0, [], Own.nil⟩ a n ha (by simp only [List.length_nil]; omega)
  simp only [List.length_nil, List.cons_append, List.nil_append] at hE
  refine callA ?_; refine ⟨_, _, hE, _, cutA, ?_⟩
  rintro v H' ⟨e, ⟨l, a2, cap2, Hs2, how2⟩, hr, rfl, rfl⟩
  simp only [List.cons_append, List.nil_append, List.append_nil]
  by_cases h0 : n = 0
  · obtain ⟨rfl, h3⟩ := each_nil hr h0
    cases h3
    repeat (first | refine stepA ?_ | intro _)
    refine callA ?_; refine ⟨_, _, join0_spec none 0, _, cutA, ?_⟩
    rintro v H' ⟨rfl, rfl⟩
    simp only [List.cons_append, List.nil_append]
    have e1 : inM M root a n = ([], 0) := by rw [inM, if_pos h0]
    rw [e1]
    repeat (first | refine stepA ?_ | intro _)
    (first | refine retA ?_ | refine retB ?_); exact ⟨_, ⟨rfl, rfl⟩, subA⟩
  · have hw : (walkM M root (a / 64)).2.2 = 0 := checkC_walk hc (by omega)
    have e3 : pN a n = n := by simp only [pN]; omega
    obtain ⟨h4, h5⟩ := each_one hr (by omega) h1 hw
    rw [e3] at h4 h5
    simp only [List.nil_append] at h5
    subst h5
    have e1 : inM M root a n = readM M (walkM M root (a / 64)).1 ((a % 64 : Nat) : Int) (n : Int) := by rw [inM, if_neg h0]
    rw [e1, ← h4]
    obtain ⟨t, ht⟩ : ∃ t, t = (readM M (walkM M root (a / 64)).1 ((a % 64 : Nat) : Int) (n : Int)).1 := ⟨_, rfl⟩
    rw [← ht] at how2 ⊢
    rcases how2.inv with ⟨-, h, -⟩ | ⟨g, ys, rfl, rfl, -, -, -, -⟩
    · simp at h
    simp only [List.map_cons, List.map_nil, List.cons_append, List.nil_append, List.length_cons, List.length_nil, Nat.zero_add]
    repeat (first | refine stepA ?_ | intro _)
    refine callA ?_; refine ⟨_, _, join1_spec g cap2 t ys, _, cutA, ?_⟩
    rintro v H' ⟨rfl, rfl⟩
    simp only [List.cons_append, List.nil_append]
    repeat (first | refine stepA ?_ | intro _)
    (first | refine retA ?_ | refine retB ?_); exact ⟨_, ⟨rfl, rfl⟩, subA⟩
end Go.Proofs.YtcpfmjlceoiofaaGreatDoor
