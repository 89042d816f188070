/-
  Operations and bytes are one to one: plain laws; the law CallOps: its walk.
-/
import Derived.Test.YtkcfckjiagjocaaCh7
import Derived.Test.YtkcfckjiagjocaaCh2S
import Derived.Test.YtkcfckjiagjocaaCh3
namespace Go.Proofs.Ytkcfckjiagjocaa
open Go.RowKit
attribute [local irreducible] W L QL PureOp thenQ blockQ retQ Spec IterOk YSpec roundQ scopeQ noGoQ
attribute [local irreducible] AS ASi
set_option maxHeartbeats 6400000
theorem ropBytes_zero (p : Option Addr) (c : Nat) : Spec Try.prog 24 [.slice p 0 c] [] fun v H' => v = .tuple #[str [], .int .i64 0] ∧ H' = [] := by
  refine Spec_body Try.func24 rfl Try.ntmps24 rfl (fun w0 => ?_)
  repeat (first | refine stepA ?_ | intro _)
  refine W_loop (fun _ : Nat => [(0, .slice p 0 c), (4, str []), (5, .int .i64 0)]) (fun _ => []) (fun _ => True) (fun _ => 0) 0 trivial sublA subA ?_
  intro _ _
  repeat (first | refine stepA ?_ | intro _)
  (first | refine retA ?_ | refine retB ?_); exact ⟨_, ⟨rfl, rfl⟩, subA⟩
theorem OpsAt.take {M : List Value} {o : Nat} {l : List OpV} (h : OpsAt M o l) (n : Nat) : OpsAt M o (l.take n) := fun k x hk => by
  rw [List.getElem?_take] at hk
  split at hk
  · exact h k x hk
  · cases hk
theorem opsAt_own (l : List OpV) (ys : List Value) : OpsAt (ocells l ++ ys) 0 l := fun k x hk => by
  rw [Nat.zero_add]; exact ocells_get ys hk
theorem callOps_spec (g o len cap n : Nat) (C : Array Value) (E : TypeId) (fr : Nat × Nat) (l0 : List OpV) (s : List UInt8) (hl0 : l0.length = len) (hx : OpsAt C.toList o l0) (hcap : len ≤ cap) (hlen : len ≤ 9223372036854775807) (h0 : 0 < len) (hn : n = min len 20) (hs : s.length ≤ 9223372036854775807) :
    Spec Try.prog 7 [.slice (some ⟨g, o, none⟩) len cap, str s] [(g, .oth (.cells C E fr))] fun v H' => v = .bool true ∧ H' = [(g, .oth (.cells C E fr))] := by
  have h7 := take700 s
  have hM : OpsAt C.toList o (l0.take n) := hx.take n
  have hl : (l0.take n).length = n := by rw [List.length_take]; omega
  generalize l0.take n = l at hM hl
  refine Spec_body Try.func7 rfl Try.ntmps7 rfl (fun w0 => ?_)
  repeat (first | refine stepA ?_ | intro _)
  refine callA ?_; refine ⟨_, _, shown_spec, _, cutA, ?_⟩
  rintro v H' ⟨rfl, rfl⟩
  try simp only [List.cons_append, List.nil_append]
  repeat (first | refine stepA ?_ | intro _)
  (first | (apply L_P; (· exact rfl); (· exact rfl)) | (apply QL_P; (· exact rfl))); (· (apply P_slP0; (· exact evA); (· exact Bound.of (j := n) rfl (by omega)); (· omega)))
  repeat (first | refine stepA ?_ | intro _)
  refine callA ?_; refine ⟨_, _, cut_spec s hs, _, cutA, ?_⟩
  rintro v H' ⟨rfl, rfl⟩
  try simp only [List.cons_append, List.nil_append]
  repeat (first | refine stepA ?_ | intro _)
  refine callT ?_; refine ⟨_, _, ops_all (s.take 700) (by omega), _, cutT, ?_⟩
  rintro v H1 (⟨hbad, rfl, rfl⟩ | ⟨a1, m, cap1, hm, rfl, how1⟩)
  · try simp only [List.cons_append, List.nil_append, List.append_nil]
    repeat (first | refine stepA ?_ | intro _)
    refine callA ?_; refine ⟨_, _, cut_spec s hs, _, cutA, ?_⟩
    rintro v H' ⟨rfl, rfl⟩
    try simp only [List.cons_append, List.nil_append]
    repeat (first | refine stepA ?_ | intro _)
    refine callA ?_; refine ⟨_, _, rops_bad (s.take 700) hbad (by omega), _, cutA, ?_⟩
    rintro v H' ⟨rfl, rfl⟩
    try simp only [List.cons_append, List.nil_append]
    repeat (first | refine stepA ?_ | intro _)
    refine callA ?_; refine ⟨_, _, opBytesS g o n cap C E fr l hM hl (by omega) (by omega), _, cutA, ?_⟩
    rintro u H' ⟨hb1, rfl⟩
    try simp only [List.cons_append, List.nil_append]
    obtain ⟨bs, er, rfl, hres⟩ : ∃ (bs : List UInt8) (er : Int), u = .tuple #[str bs, .int .i64 er] ∧ ((AllOk l ∧ bs = opsB l ∧ er = 0) ∨ (¬ AllOk l ∧ bs = [] ∧ er = 170)) := by
      rcases hb1 with ⟨h1, rfl⟩ | ⟨h1, rfl⟩
      · exact ⟨_, _, rfl, .inl ⟨h1, rfl, rfl⟩⟩
      · exact ⟨_, _, rfl, .inr ⟨h1, rfl, rfl⟩⟩
    repeat (first | refine stepA ?_ | intro _)
    refine callA ?_; refine ⟨_, _, ropBytes g o n cap C E fr l hM hl (by omega), _, cutA, ?_⟩
    rintro u2 H' ⟨hb2, rfl⟩
    try simp only [List.cons_append, List.nil_append]
    obtain rfl : u2 = .tuple #[str bs, .int .i64 er] := by
      rcases hb2 with ⟨h2, rfl⟩ | ⟨h2, rfl⟩ <;> rcases hres with ⟨h1, rfl, rfl⟩ | ⟨h1, rfl, rfl⟩
      · rfl
      · exact absurd h2 h1
      · exact absurd h1 h2
      · rfl
    repeat (first | refine stepA ?_ | intro _)
    refine callA ?_; refine ⟨_, _, same_zero none none 0 0, _, cutA, ?_⟩
    rintro u H' ⟨rfl, rfl⟩
    try simp only [List.cons_append, List.nil_append]
    repeat (first | refine stepA ?_ | intro _)
    (first | refine retA ?_ | refine retB ?_)
    exact ⟨_, ⟨rfl, rfl⟩, subT⟩
  · try simp only [List.cons_append, List.nil_append]
    by_cases hm0 : m = 0
    · subst hm0
      repeat (first | refine stepA ?_ | intro _)
      refine callA ?_; refine ⟨_, _, cut_spec s hs, _, cutA, ?_⟩
      rintro v H' ⟨rfl, rfl⟩
      try simp only [List.cons_append, List.nil_append]
      repeat (first | refine stepA ?_ | intro _)
      refine callT ?_; refine ⟨_, _, rops_spec (s.take 700) 0 hm (by omega), _, cutT, ?_⟩
      rintro v H2 ⟨a2, cap2, rfl, how2⟩
      try simp only [List.cons_append, List.nil_append, List.append_assoc]
      repeat (first | refine stepA ?_ | intro _)
      refine callA ?_; refine ⟨_, _, opBytesS g o n cap C E fr l hM hl (by omega) (by omega), _, cutA, ?_⟩
      rintro u H' ⟨hb1, rfl⟩
      try simp only [List.cons_append, List.nil_append]
      obtain ⟨bs, er, rfl, hres⟩ : ∃ (bs : List UInt8) (er : Int), u = .tuple #[str bs, .int .i64 er] ∧ ((AllOk l ∧ bs = opsB l ∧ er = 0) ∨ (¬ AllOk l ∧ bs = [] ∧ er = 170)) := by
        rcases hb1 with ⟨h1, rfl⟩ | ⟨h1, rfl⟩
        · exact ⟨_, _, rfl, .inl ⟨h1, rfl, rfl⟩⟩
        · exact ⟨_, _, rfl, .inr ⟨h1, rfl, rfl⟩⟩
      repeat (first | refine stepA ?_ | intro _)
      refine callA ?_; refine ⟨_, _, ropBytes g o n cap C E fr l hM hl (by omega), _, cutA, ?_⟩
      rintro u2 H' ⟨hb2, rfl⟩
      try simp only [List.cons_append, List.nil_append]
      obtain rfl : u2 = .tuple #[str bs, .int .i64 er] := by
        rcases hb2 with ⟨h2, rfl⟩ | ⟨h2, rfl⟩ <;> rcases hres with ⟨h1, rfl, rfl⟩ | ⟨h1, rfl, rfl⟩
        · rfl
        · exact absurd h2 h1
        · exact absurd h1 h2
        · rfl
      repeat (first | refine stepA ?_ | intro _)
      refine callA ?_; refine ⟨_, _, same_zero a1 a2 cap1 cap2, _, cutA, ?_⟩
      rintro u H' ⟨rfl, rfl⟩
      try simp only [List.cons_append, List.nil_append]
      repeat (first | refine stepA ?_ | intro _)
      (first | refine retA ?_ | refine retB ?_)
      exact ⟨_, ⟨rfl, rfl⟩, subT⟩
    · rcases how1.inv with ⟨_, hz, _, _, _⟩ | ⟨g1, ys1, rfl, rfl, hx1, hc1, _, _⟩
      · exact absurd hz hm0
      repeat (first | refine stepA ?_ | intro _)
      refine callA ?_; refine ⟨_, _, cut_spec s hs, _, cutA, ?_⟩
      rintro v H' ⟨rfl, rfl⟩
      try simp only [List.cons_append, List.nil_append]
      repeat (first | refine stepA ?_ | intro _)
      refine callT ?_; refine ⟨_, _, rops_spec (s.take 700) m hm (by omega), _, cutT, ?_⟩
      rintro v H2 ⟨a2, cap2, rfl, how2⟩
      rcases how2.inv with ⟨_, hz, _, _, _⟩ | ⟨g2, ys2, rfl, rfl, hx2, hc2, _, _⟩
      · exact absurd hz hm0
      try simp only [List.cons_append, List.nil_append]
      repeat (first | refine stepA ?_ | intro _)
      refine callA ?_; refine ⟨_, _, opBytesS g o n cap C E fr l hM hl (by omega) (by omega), _, cutA, ?_⟩
      rintro u H' ⟨hb1, rfl⟩
      try simp only [List.cons_append, List.nil_append]
      obtain ⟨bs, er, rfl, hres⟩ : ∃ (bs : List UInt8) (er : Int), u = .tuple #[str bs, .int .i64 er] ∧ ((AllOk l ∧ bs = opsB l ∧ er = 0) ∨ (¬ AllOk l ∧ bs = [] ∧ er = 170)) := by
        rcases hb1 with ⟨h1, rfl⟩ | ⟨h1, rfl⟩
        · exact ⟨_, _, rfl, .inl ⟨h1, rfl, rfl⟩⟩
        · exact ⟨_, _, rfl, .inr ⟨h1, rfl, rfl⟩⟩
      repeat (first | refine stepA ?_ | intro _)
      refine callA ?_; refine ⟨_, _, ropBytes g o n cap C E fr l hM hl (by omega), _, cutA, ?_⟩
      rintro u2 H' ⟨hb2, rfl⟩
      try simp only [List.cons_append, List.nil_append]
      obtain rfl : u2 = .tuple #[str bs, .int .i64 er] := by
        rcases hb2 with ⟨h2, rfl⟩ | ⟨h2, rfl⟩ <;> rcases hres with ⟨h1, rfl, rfl⟩ | ⟨h1, rfl, rfl⟩
        · rfl
        · exact absurd h2 h1
        · exact absurd h1 h2
        · rfl
      repeat (first | refine stepA ?_ | intro _)
      refine callA ?_; refine ⟨_, _, sameI g1 0 cap1 g2 0 cap2 m (ocells (opsOf (s.take 700) m) ++ ys1).toArray (ocells (opsOf (s.take 700) m) ++ ys2) _ _ (0, 0) (opsOf (s.take 700) m) (opsAt_own _ ys1) (opsAt_own _ ys2) (opsOf_len _ m) (by omega), _, cutA, ?_⟩
      rintro u H' ⟨rfl, rfl⟩
      try simp only [List.cons_append, List.nil_append]
      repeat (first | refine stepA ?_ | intro _)
      (first | refine retA ?_ | refine retB ?_)
      exact ⟨_, ⟨rfl, rfl⟩, subT⟩
theorem callOps_nil (p : Option Addr) (cap : Nat) (s : List UInt8) (hs : s.length ≤ 9223372036854775807) :
    Spec Try.prog 7 [.slice p 0 cap, str s] [] fun v H' => v = .bool true ∧ H' = [] := by
  have h7 := take700 s
  refine Spec_body Try.func7 rfl Try.ntmps7 rfl (fun w0 => ?_)
  repeat (first | refine stepA ?_ | intro _)
  refine callA ?_; refine ⟨_, _, shown_spec, _, cutA, ?_⟩
  rintro v H' ⟨rfl, rfl⟩
  try simp only [List.cons_append, List.nil_append]
  repeat (first | refine stepA ?_ | intro _)
  (first | (apply L_P; (· exact rfl); (· exact rfl)) | (apply QL_P; (· exact rfl))); (· (apply P_slP0; (· exact evA); (· exact Bound.of (j := 0) rfl (by omega)); (· omega)))
  repeat (first | refine stepA ?_ | intro _)
  refine callA ?_; refine ⟨_, _, cut_spec s hs, _, cutA, ?_⟩
  rintro v H' ⟨rfl, rfl⟩
  try simp only [List.cons_append, List.nil_append]
  repeat (first | refine stepA ?_ | intro _)
  refine callT ?_; refine ⟨_, _, ops_all (s.take 700) (by omega), _, cutT, ?_⟩
  rintro v H1 (⟨hbad, rfl, rfl⟩ | ⟨a1, m, cap1, hm, rfl, how1⟩)
  · try simp only [List.cons_append, List.nil_append, List.append_nil]
    repeat (first | refine stepA ?_ | intro _)
    refine callA ?_; refine ⟨_, _, cut_spec s hs, _, cutA, ?_⟩
    rintro v H' ⟨rfl, rfl⟩
    try simp only [List.cons_append, List.nil_append]
    repeat (first | refine stepA ?_ | intro _)
    refine callA ?_; refine ⟨_, _, rops_bad (s.take 700) hbad (by omega), _, cutA, ?_⟩
    rintro v H' ⟨rfl, rfl⟩
    try simp only [List.cons_append, List.nil_append]
    repeat (first | refine stepA ?_ | intro _)
    refine callA ?_; refine ⟨_, _, opBytes_zero p cap, _, cutA, ?_⟩
    rintro u H' ⟨rfl, rfl⟩
    try simp only [List.cons_append, List.nil_append]
    repeat (first | refine stepA ?_ | intro _)
    refine callA ?_; refine ⟨_, _, ropBytes_zero p cap, _, cutA, ?_⟩
    rintro u H' ⟨rfl, rfl⟩
    try simp only [List.cons_append, List.nil_append]
    repeat (first | refine stepA ?_ | intro _)
    refine callA ?_; refine ⟨_, _, same_zero none none 0 0, _, cutA, ?_⟩
    rintro u H' ⟨rfl, rfl⟩
    try simp only [List.cons_append, List.nil_append]
    repeat (first | refine stepA ?_ | intro _)
    (first | refine retA ?_ | refine retB ?_)
    exact ⟨_, ⟨rfl, rfl⟩, subT⟩
  · try simp only [List.cons_append, List.nil_append]
    by_cases hm0 : m = 0
    · subst hm0
      repeat (first | refine stepA ?_ | intro _)
      refine callA ?_; refine ⟨_, _, cut_spec s hs, _, cutA, ?_⟩
      rintro v H' ⟨rfl, rfl⟩
      try simp only [List.cons_append, List.nil_append]
      repeat (first | refine stepA ?_ | intro _)
      refine callT ?_; refine ⟨_, _, rops_spec (s.take 700) 0 hm (by omega), _, cutT, ?_⟩
      rintro v H2 ⟨a2, cap2, rfl, how2⟩
      try simp only [List.cons_append, List.nil_append, List.append_assoc]
      repeat (first | refine stepA ?_ | intro _)
      refine callA ?_; refine ⟨_, _, opBytes_zero p cap, _, cutA, ?_⟩
      rintro u H' ⟨rfl, rfl⟩
      try simp only [List.cons_append, List.nil_append]
      repeat (first | refine stepA ?_ | intro _)
      refine callA ?_; refine ⟨_, _, ropBytes_zero p cap, _, cutA, ?_⟩
      rintro u H' ⟨rfl, rfl⟩
      try simp only [List.cons_append, List.nil_append]
      repeat (first | refine stepA ?_ | intro _)
      refine callA ?_; refine ⟨_, _, same_zero a1 a2 cap1 cap2, _, cutA, ?_⟩
      rintro u H' ⟨rfl, rfl⟩
      try simp only [List.cons_append, List.nil_append]
      repeat (first | refine stepA ?_ | intro _)
      (first | refine retA ?_ | refine retB ?_)
      exact ⟨_, ⟨rfl, rfl⟩, subT⟩
    · rcases how1.inv with ⟨_, hz, _, _, _⟩ | ⟨g1, ys1, rfl, rfl, hx1, hc1, _, _⟩
      · exact absurd hz hm0
      repeat (first | refine stepA ?_ | intro _)
      refine callA ?_; refine ⟨_, _, cut_spec s hs, _, cutA, ?_⟩
      rintro v H' ⟨rfl, rfl⟩
      try simp only [List.cons_append, List.nil_append]
      repeat (first | refine stepA ?_ | intro _)
      refine callT ?_; refine ⟨_, _, rops_spec (s.take 700) m hm (by omega), _, cutT, ?_⟩
      rintro v H2 ⟨a2, cap2, rfl, how2⟩
      rcases how2.inv with ⟨_, hz, _, _, _⟩ | ⟨g2, ys2, rfl, rfl, hx2, hc2, _, _⟩
      · exact absurd hz hm0
      try simp only [List.cons_append, List.nil_append]
      repeat (first | refine stepA ?_ | intro _)
      refine callA ?_; refine ⟨_, _, opBytes_zero p cap, _, cutA, ?_⟩
      rintro u H' ⟨rfl, rfl⟩
      try simp only [List.cons_append, List.nil_append]
      repeat (first | refine stepA ?_ | intro _)
      refine callA ?_; refine ⟨_, _, ropBytes_zero p cap, _, cutA, ?_⟩
      rintro u H' ⟨rfl, rfl⟩
      try simp only [List.cons_append, List.nil_append]
      repeat (first | refine stepA ?_ | intro _)
      refine callA ?_; refine ⟨_, _, sameI g1 0 cap1 g2 0 cap2 m (ocells (opsOf (s.take 700) m) ++ ys1).toArray (ocells (opsOf (s.take 700) m) ++ ys2) _ _ (0, 0) (opsOf (s.take 700) m) (opsAt_own _ ys1) (opsAt_own _ ys2) (opsOf_len _ m) (by omega), _, cutA, ?_⟩
      rintro u H' ⟨rfl, rfl⟩
      try simp only [List.cons_append, List.nil_append]
      repeat (first | refine stepA ?_ | intro _)
      (first | refine retA ?_ | refine retB ?_)
      exact ⟨_, ⟨rfl, rfl⟩, subT⟩
end Go.Proofs.Ytkcfckjiagjocaa
