/-
  The law CallOpsBack: its walk.
-/
import Derived.Test.YtkcfckjiagjocaaCi1
import Derived.Test.YtkcfckjiagjocaaCh4S
namespace Go.Proofs.Ytkcfckjiagjocaa
open Go.RowKit
attribute [local irreducible] W L QL PureOp thenQ blockQ retQ Spec IterOk YSpec roundQ scopeQ noGoQ
attribute [local irreducible] AS ASi
set_option maxHeartbeats 6400000
theorem opAt_ok (s : List UInt8) (k : Nat) : OpOk (opAt s k) := by
  have h0 := (bt s (4 * k)).toNat_lt
  have h3 := (bt s (4 * k + 3)).toNat_lt
  refine ⟨⟨?_, ?_⟩, ⟨by simp only; omega, by simp only; omega⟩, ⟨by simp only; omega, by simp only; omega⟩⟩
  · simp only [ofB]; omega
  · simp only [ofB]; omega
theorem opsOf_ok (s : List UInt8) : ∀ n, AllOk (opsOf s n)
  | 0 => fun k x hk => by simp [opsOf] at hk
  | n + 1 => fun k x hk => by
    rw [opsOf] at hk
    by_cases h : k < n
    · rw [List.getElem?_append_left (by rw [opsOf_len]; exact h)] at hk
      exact opsOf_ok s n k x hk
    · rw [List.getElem?_append_right (by rw [opsOf_len]; omega)] at hk
      have h0 : k - (opsOf s n).length = 0 := by
        have := (List.getElem?_eq_some_iff.1 hk).1
        simp at this; omega
      rw [h0] at hk
      simp at hk; subst hk; exact opAt_ok s n
theorem opB_at (s : List UInt8) (k : Nat) : opB (opAt s k) = [bt s (4 * k), bt s (4 * k + 1), bt s (4 * k + 2), bt s (4 * k + 3)] := by
  simp only [opB, twos, List.append_nil]
  rw [byteOf_nat, byteOf_nat, two_of]
  rfl
theorem take_four (s : List UInt8) (k : Nat) (h : 4 * k + 4 ≤ s.length) : s.take (4 * (k + 1)) = s.take (4 * k) ++ [bt s (4 * k), bt s (4 * k + 1), bt s (4 * k + 2), bt s (4 * k + 3)] := by
  rw [show 4 * (k + 1) = 4 * k + 1 + 1 + 1 + 1 by omega, take_next' (bt_get (s := s) (i := 4 * k + 1 + 1 + 1) (by omega)), take_next' (bt_get (s := s) (i := 4 * k + 1 + 1) (by omega)), take_next' (bt_get (s := s) (i := 4 * k + 1) (by omega)), take_next' (bt_get (s := s) (i := 4 * k) (by omega))]
  simp
theorem opsB_of (s : List UInt8) : ∀ n, 4 * n ≤ s.length → opsB (opsOf s n) = s.take (4 * n)
  | 0, _ => by simp [opsOf, opsB]
  | n + 1, h => by
    rw [opsOf, opsB_snoc, opsB_of s n (by omega), opB_at, take_four s n (by omega)]
theorem opsB_bt : ∀ {l : List OpV} {k : Nat} {x : OpV} (j : Nat), l[k]? = some x → j < 4 → (opsB l)[4 * k + j]? = (opB x)[j]?
  | y :: l, 0, x, j, h, hj => by
    simp at h; subst h
    rw [opsB, List.getElem?_append_left (by simp [twos]; omega)]
    congr 1; omega
  | y :: l, k + 1, x, j, h, hj => by
    have ih := opsB_bt (l := l) (k := k) (x := x) j (by simpa using h) hj
    rw [opsB, List.getElem?_append_right (by simp [twos]; omega), ← ih]
    congr 1
    simp [twos]; omega
theorem opAt_opsB {l : List OpV} {k : Nat} {x : OpV} (h : l[k]? = some x) (hok : OpOk x) : opAt (opsB l) k = x := by
  have g : ∀ j b, j < 4 → (opB x)[j]? = some b → bt (opsB l) (4 * k + j) = b := fun j b hj hb => by
    have := opsB_bt j h hj
    rw [hb] at this
    simp [bt, List.getD, this]
  have g0 := g 0 (byteOf x.num) (by omega) rfl
  have g1 := g 1 (byteOf (x.delta / 256)) (by omega) rfl
  have g2 := g 2 (byteOf x.delta) (by omega) rfl
  have g3 := g 3 (byteOf x.flags) (by omega) rfl
  rw [Nat.add_zero] at g0
  obtain ⟨h1, h2, h3⟩ := hok
  rw [opAt, g0, g1, g2, g3, of_two h1, byteOf_toNat, byteOf_toNat, show x.num % 256 = x.num by omega, show x.flags % 256 = x.flags by omega]
theorem opsOf_get (s : List UInt8) : ∀ (n k : Nat), k < n → (opsOf s n)[k]? = some (opAt s k)
  | n + 1, k, h => by
    rw [opsOf]
    by_cases hk : k < n
    · rw [List.getElem?_append_left (by rw [opsOf_len]; exact hk)]; exact opsOf_get s n k hk
    · obtain rfl : k = n := by omega
      rw [List.getElem?_append_right (by rw [opsOf_len]; omega), opsOf_len]; simp
theorem opsOf_opsB {l : List OpV} (h : AllOk l) : opsOf (opsB l) l.length = l := by
  apply List.ext_getElem?
  intro k
  by_cases hk : k < l.length
  · obtain ⟨x, hx⟩ : ∃ x, l[k]? = some x := ⟨l[k], by simp [hk]⟩
    rw [opsOf_get _ _ _ hk, hx, opAt_opsB hx (h k x hx)]
  · rw [List.getElem?_eq_none (by rw [opsOf_len]; omega), List.getElem?_eq_none (by omega)]
theorem callOpsBack_nil (p : Option Addr) (cap : Nat) (s : List UInt8) (hs : s.length ≤ 9223372036854775807) :
    Spec Try.prog 8 [.slice p 0 cap, str s] [] fun v H' => v = .bool true ∧ H' = [] := by
  have h7 := take700 s
  refine Spec_body Try.func8 rfl Try.ntmps8 rfl (fun w0 => ?_)
  repeat (first | refine stepA ?_ | intro _)
  refine callA ?_; refine ⟨_, _, shown_spec, _, cutA, ?_⟩
  rintro v H' ⟨rfl, rfl⟩
  try simp only [List.cons_append, List.nil_append]
  repeat (first | refine stepA ?_ | intro _)
  (first | (apply L_P; (· exact rfl); (· exact rfl)) | (apply QL_P; (· exact rfl))); (· (apply P_slP0; (· exact evA); (· exact Bound.of (j := 0) rfl (by omega)); (· omega)))
  repeat (first | refine stepA ?_ | intro _)
  refine callA ?_; refine ⟨_, _, opBytes_zero p cap, _, cutA, ?_⟩
  rintro v H' ⟨rfl, rfl⟩
  try simp only [List.cons_append, List.nil_append]
  repeat (first | refine stepA ?_ | intro _)
  refine callT ?_; refine ⟨_, _, ops_all [] (by simp), _, cutT, ?_⟩
  rintro v H1 (⟨hbad, rfl, rfl⟩ | ⟨a1, m, cap1, hm, rfl, how1⟩)
  · exact absurd rfl hbad
  obtain rfl : m = 0 := by simp at hm; omega
  try simp only [List.cons_append, List.nil_append]
  repeat (first | refine stepA ?_ | intro _)
  refine callA ?_; refine ⟨_, _, same_zero p a1 cap cap1, _, cutA, ?_⟩
  rintro u H' ⟨rfl, rfl⟩
  try simp only [List.cons_append, List.nil_append]
  repeat (first | refine stepA ?_ | intro _)
  refine L_weakh (H' := []) subT ?_
  refine callA ?_; refine ⟨_, _, cut_spec s hs, _, cutA, ?_⟩
  rintro v H' ⟨rfl, rfl⟩
  try simp only [List.cons_append, List.nil_append]
  repeat (first | refine stepA ?_ | intro _)
  refine callT ?_; refine ⟨_, _, ops_all (s.take 700) (by omega), _, cutT, ?_⟩
  rintro v H9 (⟨hbad, rfl, rfl⟩ | ⟨a9, m, cap9, hm, rfl, how9⟩)
  · try simp only [List.cons_append, List.nil_append, List.append_nil]
    repeat (first | refine stepA ?_ | intro _)
    refine callA ?_; refine ⟨_, _, opBytes_zero none 0, _, cutA, ?_⟩
    rintro v H' ⟨rfl, rfl⟩
    try simp only [List.cons_append, List.nil_append, List.append_nil]
    repeat (first | refine stepA ?_ | intro _)
    refine callA ?_; refine ⟨_, _, cut_spec s hs, _, cutA, ?_⟩
    rintro v H' ⟨rfl, rfl⟩
    try simp only [List.cons_append, List.nil_append, List.append_nil]
    repeat (first | refine stepA ?_ | intro _)
    (first | refine retA ?_ | refine retB ?_)
    exact ⟨_, ⟨rfl, rfl⟩, subT⟩
  · try simp only [List.cons_append, List.nil_append]
    by_cases hm0 : m = 0
    · subst hm0
      have hnil : s.take 700 = [] := List.eq_nil_of_length_eq_zero (by omega)
      have h00 : ([] : List UInt8).length = 0 := rfl
      rw [hnil]
      repeat (first | refine stepA ?_ | intro _)
      refine callA ?_; refine ⟨_, _, opBytes_zero a9 cap9, _, cutA, ?_⟩
      rintro v H' ⟨rfl, rfl⟩
      try simp only [List.cons_append, List.nil_append]
      repeat (first | refine stepA ?_ | intro _)
      refine callA ?_; refine ⟨_, _, cut_spec s hs, _, cutA, ?_⟩
      rintro v H' ⟨rfl, rfl⟩
      rw [hnil]
      try simp only [List.cons_append, List.nil_append]
      repeat (first | refine stepA ?_ | intro _)
      refine callA ?_; refine ⟨_, _, cut_spec s hs, _, cutA, ?_⟩
      rintro v H' ⟨rfl, rfl⟩
      rw [hnil]
      try simp only [List.cons_append, List.nil_append]
      repeat (first | refine stepA ?_ | intro _)
      (first | refine retA ?_ | refine retB ?_)
      exact ⟨_, ⟨rfl, rfl⟩, subT⟩
    · rcases how9.inv with ⟨_, hz, _, _, _⟩ | ⟨g9, ys9, rfl, rfl, hx9, hc9, _, _⟩
      · exact absurd hz hm0
      have hall := opsOf_ok (s.take 700) m
      have hbs : opsB (opsOf (s.take 700) m) = s.take 700 := by rw [opsB_of _ _ (by omega), List.take_of_length_le (by omega)]
      try simp only [List.cons_append, List.nil_append]
      repeat (first | refine stepA ?_ | intro _)
      refine callA ?_; refine ⟨_, _, opBytesI g9 0 m cap9 (ocells (opsOf (s.take 700) m) ++ ys9).toArray _ (0, 0) (opsOf (s.take 700) m) (opsAt_own _ ys9) (opsOf_len _ m) (by omega) (by omega), _, cutA, ?_⟩
      rintro u H' ⟨hb1, rfl⟩
      try simp only [List.cons_append, List.nil_append]
      rcases hb1 with ⟨_, rfl⟩ | ⟨hno, rfl⟩
      rotate_left 1
      · exact absurd hall hno
      rw [hbs]
      repeat (first | refine stepA ?_ | intro _)
      refine callA ?_; refine ⟨_, _, cut_spec s hs, _, cutA, ?_⟩
      rintro v H' ⟨rfl, rfl⟩
      try simp only [List.cons_append, List.nil_append]
      repeat (first | refine stepA ?_ | intro _)
      refine callA ?_; refine ⟨_, _, cut_spec s hs, _, cutA, ?_⟩
      rintro v H' ⟨rfl, rfl⟩
      try simp only [List.cons_append, List.nil_append]
      repeat (first | refine stepA ?_ | intro _)
      (first | refine retA ?_ | refine retB ?_)
      exact ⟨_, ⟨rfl, rfl⟩, subT⟩
theorem callOpsBack_spec (g o len cap n : Nat) (C : Array Value) (E : TypeId) (fr : Nat × Nat) (l0 : List OpV) (s : List UInt8) (hl0 : l0.length = len) (hx : OpsAt C.toList o l0) (hcap : len ≤ cap) (hlen : len ≤ 9223372036854775807) (h0 : 0 < len) (hn : n = min len 20) (hs : s.length ≤ 9223372036854775807) :
    Spec Try.prog 8 [.slice (some ⟨g, o, none⟩) len cap, str s] [(g, .oth (.cells C E fr))] fun v H' => v = .bool true ∧ H' = [(g, .oth (.cells C E fr))] := by
  have h7 := take700 s
  have hM : OpsAt C.toList o (l0.take n) := hx.take n
  have hl : (l0.take n).length = n := by rw [List.length_take]; omega
  generalize l0.take n = l at hM hl
  have hbl := opsB_len l
  refine Spec_body Try.func8 rfl Try.ntmps8 rfl (fun w0 => ?_)
  repeat (first | refine stepA ?_ | intro _)
  refine callA ?_; refine ⟨_, _, shown_spec, _, cutA, ?_⟩
  rintro v H' ⟨rfl, rfl⟩
  try simp only [List.cons_append, List.nil_append]
  repeat (first | refine stepA ?_ | intro _)
  (first | (apply L_P; (· exact rfl); (· exact rfl)) | (apply QL_P; (· exact rfl))); (· (apply P_slP0; (· exact evA); (· exact Bound.of (j := n) rfl (by omega)); (· omega)))
  repeat (first | refine stepA ?_ | intro _)
  refine callA ?_; refine ⟨_, _, opBytesS g o n cap C E fr l hM hl (by omega) (by omega), _, cutA, ?_⟩
  rintro u H' ⟨hb1, rfl⟩
  try simp only [List.cons_append, List.nil_append]
  rcases hb1 with ⟨hok, rfl⟩ | ⟨hno, rfl⟩
  · have hback := opsOf_opsB hok
    rw [hl] at hback
    repeat (first | refine stepA ?_ | intro _)
    refine callT ?_; refine ⟨_, _, ops_all (opsB l) (by omega), _, cutT, ?_⟩
    rintro v H1 (⟨hbad, rfl, rfl⟩ | ⟨a1, m, cap1, hm, rfl, how1⟩)
    · exact absurd hbad (by omega)
    obtain rfl : m = n := by omega
    rw [hback] at how1
    rcases how1.inv with ⟨_, hz, _, _, _⟩ | ⟨g1, ys1, rfl, rfl, hx1, hc1, _, _⟩
    · omega
    try simp only [List.cons_append, List.nil_append]
    repeat (first | refine stepA ?_ | intro _)
    refine callA ?_; refine ⟨_, _, sameS g o cap g1 0 cap1 m C (ocells l ++ ys1) E _ fr l hM (opsAt_own l ys1) hl (by omega), _, cutA, ?_⟩
    rintro u H' ⟨rfl, rfl⟩
    try simp only [List.cons_append, List.nil_append]
    repeat (first | refine stepA ?_ | intro _)
    refine L_weakh (H' := [(g, .oth (.cells C E fr))]) subT ?_
    refine callA ?_; refine ⟨_, _, cut_spec s hs, _, cutA, ?_⟩
    rintro v H' ⟨rfl, rfl⟩
    try simp only [List.cons_append, List.nil_append]
    repeat (first | refine stepA ?_ | intro _)
    refine callT ?_; refine ⟨_, _, ops_all (s.take 700) (by omega), _, cutT, ?_⟩
    rintro v H9 (⟨hbad, rfl, rfl⟩ | ⟨a9, m, cap9, hm, rfl, how9⟩)
    · try simp only [List.cons_append, List.nil_append, List.append_nil]
      repeat (first | refine stepA ?_ | intro _)
      refine callA ?_; refine ⟨_, _, opBytes_zero none 0, _, cutA, ?_⟩
      rintro v H' ⟨rfl, rfl⟩
      try simp only [List.cons_append, List.nil_append, List.append_nil]
      repeat (first | refine stepA ?_ | intro _)
      refine callA ?_; refine ⟨_, _, cut_spec s hs, _, cutA, ?_⟩
      rintro v H' ⟨rfl, rfl⟩
      try simp only [List.cons_append, List.nil_append, List.append_nil]
      repeat (first | refine stepA ?_ | intro _)
      (first | refine retA ?_ | refine retB ?_)
      exact ⟨_, ⟨rfl, rfl⟩, subT⟩
    · try simp only [List.cons_append, List.nil_append]
      by_cases hm0 : m = 0
      · subst hm0
        have hnil : s.take 700 = [] := List.eq_nil_of_length_eq_zero (by omega)
        have h00 : ([] : List UInt8).length = 0 := rfl
        rw [hnil]
        repeat (first | refine stepA ?_ | intro _)
        refine callA ?_; refine ⟨_, _, opBytes_zero a9 cap9, _, cutA, ?_⟩
        rintro v H' ⟨rfl, rfl⟩
        try simp only [List.cons_append, List.nil_append]
        repeat (first | refine stepA ?_ | intro _)
        refine callA ?_; refine ⟨_, _, cut_spec s hs, _, cutA, ?_⟩
        rintro v H' ⟨rfl, rfl⟩
        rw [hnil]
        try simp only [List.cons_append, List.nil_append]
        repeat (first | refine stepA ?_ | intro _)
        refine callA ?_; refine ⟨_, _, cut_spec s hs, _, cutA, ?_⟩
        rintro v H' ⟨rfl, rfl⟩
        rw [hnil]
        try simp only [List.cons_append, List.nil_append]
        repeat (first | refine stepA ?_ | intro _)
        (first | refine retA ?_ | refine retB ?_)
        exact ⟨_, ⟨rfl, rfl⟩, subT⟩
      · rcases how9.inv with ⟨_, hz, _, _, _⟩ | ⟨g9, ys9, rfl, rfl, hx9, hc9, _, _⟩
        · exact absurd hz hm0
        have hall := opsOf_ok (s.take 700) m
        have hbs : opsB (opsOf (s.take 700) m) = s.take 700 := by rw [opsB_of _ _ (by omega), List.take_of_length_le (by omega)]
        try simp only [List.cons_append, List.nil_append]
        repeat (first | refine stepA ?_ | intro _)
        refine callA ?_; refine ⟨_, _, opBytesI g9 0 m cap9 (ocells (opsOf (s.take 700) m) ++ ys9).toArray _ (0, 0) (opsOf (s.take 700) m) (opsAt_own _ ys9) (opsOf_len _ m) (by omega) (by omega), _, cutA, ?_⟩
        rintro u H' ⟨hb1, rfl⟩
        try simp only [List.cons_append, List.nil_append]
        rcases hb1 with ⟨_, rfl⟩ | ⟨hno, rfl⟩
        rotate_left 1
        · exact absurd hall hno
        rw [hbs]
        repeat (first | refine stepA ?_ | intro _)
        refine callA ?_; refine ⟨_, _, cut_spec s hs, _, cutA, ?_⟩
        rintro v H' ⟨rfl, rfl⟩
        try simp only [List.cons_append, List.nil_append]
        repeat (first | refine stepA ?_ | intro _)
        refine callA ?_; refine ⟨_, _, cut_spec s hs, _, cutA, ?_⟩
        rintro v H' ⟨rfl, rfl⟩
        try simp only [List.cons_append, List.nil_append]
        repeat (first | refine stepA ?_ | intro _)
        (first | refine retA ?_ | refine retB ?_)
        exact ⟨_, ⟨rfl, rfl⟩, subT⟩
  · repeat (first | refine stepA ?_ | intro _)
    refine callT ?_; refine ⟨_, _, ops_all [] (by simp), _, cutT, ?_⟩
    rintro v H1 (⟨hbad, rfl, rfl⟩ | ⟨a1, m, cap1, hm, rfl, how1⟩)
    · exact absurd rfl hbad
    obtain rfl : m = 0 := by simp at hm; omega
    try simp only [List.cons_append, List.nil_append]
    repeat (first | refine stepA ?_ | intro _)
    refine L_weakh (H' := [(g, .oth (.cells C E fr))]) subT ?_
    refine callA ?_; refine ⟨_, _, cut_spec s hs, _, cutA, ?_⟩
    rintro v H' ⟨rfl, rfl⟩
    try simp only [List.cons_append, List.nil_append]
    repeat (first | refine stepA ?_ | intro _)
    refine callT ?_; refine ⟨_, _, ops_all (s.take 700) (by omega), _, cutT, ?_⟩
    rintro v H9 (⟨hbad, rfl, rfl⟩ | ⟨a9, m, cap9, hm, rfl, how9⟩)
    · try simp only [List.cons_append, List.nil_append, List.append_nil]
      repeat (first | refine stepA ?_ | intro _)
      refine callA ?_; refine ⟨_, _, opBytes_zero none 0, _, cutA, ?_⟩
      rintro v H' ⟨rfl, rfl⟩
      try simp only [List.cons_append, List.nil_append, List.append_nil]
      repeat (first | refine stepA ?_ | intro _)
      refine callA ?_; refine ⟨_, _, cut_spec s hs, _, cutA, ?_⟩
      rintro v H' ⟨rfl, rfl⟩
      try simp only [List.cons_append, List.nil_append, List.append_nil]
      repeat (first | refine stepA ?_ | intro _)
      (first | refine retA ?_ | refine retB ?_)
      exact ⟨_, ⟨rfl, rfl⟩, subT⟩
    · try simp only [List.cons_append, List.nil_append]
      by_cases hm0 : m = 0
      · subst hm0
        have hnil : s.take 700 = [] := List.eq_nil_of_length_eq_zero (by omega)
        have h00 : ([] : List UInt8).length = 0 := rfl
        rw [hnil]
        repeat (first | refine stepA ?_ | intro _)
        refine callA ?_; refine ⟨_, _, opBytes_zero a9 cap9, _, cutA, ?_⟩
        rintro v H' ⟨rfl, rfl⟩
        try simp only [List.cons_append, List.nil_append]
        repeat (first | refine stepA ?_ | intro _)
        refine callA ?_; refine ⟨_, _, cut_spec s hs, _, cutA, ?_⟩
        rintro v H' ⟨rfl, rfl⟩
        rw [hnil]
        try simp only [List.cons_append, List.nil_append]
        repeat (first | refine stepA ?_ | intro _)
        refine callA ?_; refine ⟨_, _, cut_spec s hs, _, cutA, ?_⟩
        rintro v H' ⟨rfl, rfl⟩
        rw [hnil]
        try simp only [List.cons_append, List.nil_append]
        repeat (first | refine stepA ?_ | intro _)
        (first | refine retA ?_ | refine retB ?_)
        exact ⟨_, ⟨rfl, rfl⟩, subT⟩
      · rcases how9.inv with ⟨_, hz, _, _, _⟩ | ⟨g9, ys9, rfl, rfl, hx9, hc9, _, _⟩
        · exact absurd hz hm0
        have hall := opsOf_ok (s.take 700) m
        have hbs : opsB (opsOf (s.take 700) m) = s.take 700 := by rw [opsB_of _ _ (by omega), List.take_of_length_le (by omega)]
        try simp only [List.cons_append, List.nil_append]
        repeat (first | refine stepA ?_ | intro _)
        refine callA ?_; refine ⟨_, _, opBytesI g9 0 m cap9 (ocells (opsOf (s.take 700) m) ++ ys9).toArray _ (0, 0) (opsOf (s.take 700) m) (opsAt_own _ ys9) (opsOf_len _ m) (by omega) (by omega), _, cutA, ?_⟩
        rintro u H' ⟨hb1, rfl⟩
        try simp only [List.cons_append, List.nil_append]
        rcases hb1 with ⟨_, rfl⟩ | ⟨hno, rfl⟩
        rotate_left 1
        · exact absurd hall hno
        rw [hbs]
        repeat (first | refine stepA ?_ | intro _)
        refine callA ?_; refine ⟨_, _, cut_spec s hs, _, cutA, ?_⟩
        rintro v H' ⟨rfl, rfl⟩
        try simp only [List.cons_append, List.nil_append]
        repeat (first | refine stepA ?_ | intro _)
        refine callA ?_; refine ⟨_, _, cut_spec s hs, _, cutA, ?_⟩
        rintro v H' ⟨rfl, rfl⟩
        try simp only [List.cons_append, List.nil_append]
        repeat (first | refine stepA ?_ | intro _)
        (first | refine retA ?_ | refine retB ?_)
        exact ⟨_, ⟨rfl, rfl⟩, subT⟩
end Go.Proofs.Ytkcfckjiagjocaa
