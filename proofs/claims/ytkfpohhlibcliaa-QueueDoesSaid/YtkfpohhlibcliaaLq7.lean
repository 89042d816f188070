/-
  The law QueueDoes: its walk.
-/
import Derived.Test.YtkfpohhlibcliaaRq2
import Derived.Test.YtkfpohhlibcliaaLq1
namespace Go.Proofs.Ytkfpohhlibcliaa
open Go.RowKit
attribute [local irreducible] W L QL PureOp thenQ blockQ retQ Spec IterOk YSpec roundQ scopeQ noGoQ
attribute [local irreducible] AS ASi
set_option maxHeartbeats 6400000
structure ActV where
  do_ : Int
  n : Int
def ActV.cells (x : ActV) : List Value := [.int .i64 x.do_, .int .i64 x.n]
def ActsAt (C : Array Value) (o : Nat) (xs : List ActV) : Prop := ∀ i x, xs[i]? = some x → (C.toList.drop (o + i * 2)).take 2 = x.cells
theorem acts_get {C : Array Value} {o : Nat} {xs : List ActV} (h : ActsAt C o xs) {i : Nat} {x : ActV} (hx : xs[i]? = some x) (j : Nat) (hj : j < 2) : C.toList[o + i * 2 + j]? = x.cells[j]? := by
  rw [← h i x hx, List.getElem?_take, if_pos hj, List.getElem?_drop]
theorem u64_nonneg (x : Int) : 0 ≤ IntKind.u64.wrap x := by
  unfold IntKind.wrap
  simp [IntKind.signed, IntKind.bits]
  omega
theorem pushI_full64 (p first : Nat) (hs xs : List Int) (v : Int) (h : hs.length = 64) (hn : xs.length = 64) :
    Spec Try.prog 12 [.pointer (some ⟨p, 0, none⟩), .int .i64 v] (qHI p hs first xs.length) fun u H' => u = .int .i64 71 ∧ H' = qHI p hs first xs.length := by
  rw [hn]; exact pushI_full p first hs v h
theorem popI_none0 (p first : Nat) (hs : List Int) (h : hs.length = 64) :
    Spec Try.prog 14 [.pointer (some ⟨p, 0, none⟩)] (qHI p hs first 0) fun v H' => v = .tuple #[.int .i64 0, .int .i64 70] ∧ H' = qHI p hs first 0 := popI_none p first hs h
theorem does_nil (p : Option Addr) (cap : Nat) : Spec Try.prog 7 [.slice p 0 cap] [] fun v H' => v = .bool true ∧ H' = [] := by
  refine Spec_body Try.func7 rfl Try.ntmps7 rfl (fun w0 => ?_)
  repeat (first | refine stepA ?_ | intro _)
  refine callA ?_; refine ⟨_, _, shown_spec, _, cutA, ?_⟩
  rintro v H' ⟨rfl, rfl⟩
  repeat (first | refine stepA ?_ | intro _)
  refine callA ?_; refine ⟨_, _, newI, _, cutA, ?_⟩
  rintro v H' ⟨p1, rfl, rfl⟩
  repeat (first | refine stepA ?_ | intro _)
  refine W_loop (fun i : Nat => [(0, .slice p 0 cap), (3, .bool true), (6, .int .i64 0)]) (fun i => []) (fun _ => True) (fun _ => 0) 0 trivial sublA subA ?_
  intro i _
  repeat (first | refine stepA ?_ | intro _)
  (first | refine retA ?_ | refine retB ?_); exact ⟨_, ⟨rfl, rfl⟩, subA⟩
theorem does_spec (g o len cap0 : Nat) (C : Array Value) (E : TypeId) (fr : Nat × Nat) (acs : List ActV) (hl : acs.length = len) (hx : ActsAt C o acs) (hlen : len ≤ 9223372036854775807) :
    Spec Try.prog 7 [.slice (some ⟨g, o, none⟩) len cap0] [(g, .oth (.cells C E fr))] fun v H' => v = .bool true ∧ H' = [(g, .oth (.cells C E fr))] := by
  refine Spec_body Try.func7 rfl Try.ntmps7 rfl (fun w0 => ?_)
  repeat (first | refine stepA ?_ | intro _)
  refine callA ?_; refine ⟨_, _, shown_spec, _, cutA, ?_⟩
  rintro v H' ⟨rfl, rfl⟩
  repeat (first | refine stepA ?_ | intro _)
  refine callA ?_; refine ⟨_, _, newI, _, cutA, ?_⟩
  rintro v H' ⟨p1, rfl, rfl⟩
  have q0 : QR (List.replicate 64 zeI) 0 ([] : List Int) := QR.new 0
  repeat (first | refine stepA ?_ | intro _)
  refine W_loop (fun x : Nat × List Int × List Int × Nat × Option Addr × Nat × Hp => [(0, .slice (some ⟨g, o, none⟩) len cap0), (3, .bool true), (4, .pointer (some ⟨p1, 0, none⟩)), (5, .slice x.2.2.2.2.1 x.2.1.length x.2.2.2.2.2.1), (6, .int .i64 (x.1 : Int))])
    (fun x => (g, .oth (.cells C E fr)) :: (qHI p1 x.2.2.1 x.2.2.2.1 x.2.1.length ++ x.2.2.2.2.2.2))
    (fun x => x.1 ≤ 300 ∧ QR x.2.2.1 x.2.2.2.1 x.2.1 ∧ oI x.2.2.2.2.1 x.2.1.length x.2.2.2.2.2.1 x.2.1 x.2.2.2.2.2.2) (fun x => 300 - x.1) (0, [], List.replicate 64 zeI, 0, none, 0, [])
    ⟨by simp only; omega, q0, Own.nil⟩ sublA subA ?_
  rintro ⟨i, xs, hI, first, a, cap, Hs⟩ ⟨hi, hq, how⟩
  simp only [List.cons_append, List.nil_append] at hi hq how ⊢
  have hn := hq.n
  by_cases h1 : i < len
  · by_cases h2 : i < 300
    · obtain ⟨x, hxi⟩ : ∃ x, acs[i]? = some x := ⟨acs[i]'(by omega), by simp [hl, h1]⟩
      have g0 := acts_get hx hxi 0 (by omega)
      have g1 := acts_get hx hxi 1 (by omega)
      have hu := u64_nonneg x.do_
      have hc : IntKind.u64.wrap x.do_ % 4 = 0 ∨ IntKind.u64.wrap x.do_ % 4 = 1 ∨ IntKind.u64.wrap x.do_ % 4 = 2 ∨ IntKind.u64.wrap x.do_ % 4 = 3 := by omega
      rcases hc with hc | hc | hc | hc
      · skip
        by_cases hfull : xs.length < 64
        · repeat (first | refine stepA ?_ | intro _)
          refine callA ?_; refine ⟨_, _, pushI_xs p1 first hI xs x.n hq hfull, _, cutA, ?_⟩
          rintro u H' ⟨rfl, hI', hq', rfl⟩
          simp only [List.cons_append, List.nil_append]
          repeat (first | refine stepA ?_ | intro _)
          refine callT ?_; refine ⟨_, _, rpush_own a _ cap xs x.n Hs how hfull, _, cutT, ?_⟩
          rintro u H' ⟨b, c, rfl, how'⟩
          simp only [List.cons_append, List.nil_append]
          have hle : xs.length + 1 = (xs ++ [x.n]).length := by simp
          rw [hle] at how' ⊢
          have hn6 := (hq').n
          repeat (first | refine stepA ?_ | intro _)
          refine callT ?_; refine ⟨_, _, all_n p1 _ _ hI' _ hq' rfl, _, cutT, ?_⟩
          rintro u HA ⟨a2, Hs2, rfl, how2, rfl⟩
          rcases (how').inv with ⟨ea, hz, ec, _, eh⟩ | ⟨g5, y5, ea, eh, hx5, hc5, _, hm5⟩
          · rcases how2.inv with ⟨ea2, hz2, _, _, eh2⟩ | ⟨g6, y6, ea2, eh2, hx6, hc6, _, hm6⟩
            · subst eh eh2
              try (exfalso; omega)
              all_goals
                simp only [List.cons_append, List.nil_append]
                rw [hz]
                repeat (first | refine stepA ?_ | intro _)
                refine callA ?_; refine ⟨_, _, ints_zero a2 b 0 c, _, cutA, ?_⟩
                rintro u H'' ⟨rfl, rfl⟩
                simp only [List.cons_append, List.nil_append]
                repeat (first | refine stepA ?_ | intro _)
                refine callA ?_; refine ⟨_, _, lenI p1 _ 0 hI' (hq').len, _, cutA, ?_⟩
                rintro u H'' ⟨rfl, rfl⟩
                repeat (first | refine stepA ?_ | intro _)
                exact ⟨rfl, (i + 1, (xs ++ [x.n]), hI', first, b, c, []), ⟨by simp only; omega, hq', how'⟩, by simp only; omega, by simp only [hz]; exact sublA, by simp only [hz]; exact subA⟩
            · subst eh eh2
              try (exfalso; omega)
              all_goals
                simp only [List.cons_append, List.nil_append]
                rw [hz]
                repeat (first | refine stepA ?_ | intro _)
                refine callA ?_; refine ⟨_, _, ints_zero a2 b 0 c, _, cutA, ?_⟩
                rintro u H'' ⟨rfl, rfl⟩
                simp only [List.cons_append, List.nil_append]
                repeat (first | refine stepA ?_ | intro _)
                refine callA ?_; refine ⟨_, _, lenI p1 _ 0 hI' (hq').len, _, cutA, ?_⟩
                rintro u H'' ⟨rfl, rfl⟩
                repeat (first | refine stepA ?_ | intro _)
                exact ⟨rfl, (i + 1, (xs ++ [x.n]), hI', first, b, c, []), ⟨by simp only; omega, hq', how'⟩, by simp only; omega, by simp only [hz]; exact sublA, by simp only [hz]; exact subA⟩
          · rcases how2.inv with ⟨ea2, hz2, _, _, eh2⟩ | ⟨g6, y6, ea2, eh2, hx6, hc6, _, hm6⟩
            · subst eh eh2
              try (exfalso; omega)
              all_goals
                simp only [List.cons_append, List.nil_append]
                rw [hz2]
                repeat (first | refine stepA ?_ | intro _)
                refine callA ?_; refine ⟨_, _, ints_zero a2 b 0 c, _, cutA, ?_⟩
                rintro u H'' ⟨rfl, rfl⟩
                simp only [List.cons_append, List.nil_append]
                repeat (first | refine stepA ?_ | intro _)
                refine callA ?_; refine ⟨_, _, lenI p1 _ 0 hI' (hq').len, _, cutA, ?_⟩
                rintro u H'' ⟨rfl, rfl⟩
                repeat (first | refine stepA ?_ | intro _)
                exact ⟨rfl, (i + 1, (xs ++ [x.n]), hI', first, b, c, _), ⟨by simp only; omega, hq', how'⟩, by simp only; omega, by simp only [hz2]; exact sublA, by simp only [hz2]; exact subA⟩
            · subst eh eh2 ea ea2
              simp only [List.cons_append, List.nil_append]
              repeat (first | refine stepA ?_ | intro _)
              refine callA ?_; refine ⟨_, _, ints_oo g6 g5 _ _ c _ _ _ _ ((xs ++ [x.n])) rfl (by omega) (fun j x hj => own_get hj) (fun j x hj => own_get hj), _, cutA, ?_⟩
              rintro u H'' ⟨rfl, rfl⟩
              simp only [List.cons_append, List.nil_append]
              repeat (first | refine stepA ?_ | intro _)
              refine callA ?_; refine ⟨_, _, lenI p1 _ _ hI' (hq').len, _, cutA, ?_⟩
              rintro u H'' ⟨rfl, rfl⟩
              repeat (first | refine stepA ?_ | intro _)
              exact ⟨rfl, (i + 1, (xs ++ [x.n]), hI', first, some ⟨g5, 0, none⟩, c, [(g5, .cells (((xs ++ [x.n])).map elI ++ y5) 3)]), ⟨by simp only; omega, hq', how'⟩, by simp only; omega, sublA, subA⟩
        · repeat (first | refine stepA ?_ | intro _)
          refine callA ?_; refine ⟨_, _, pushI_full64 p1 first hI xs x.n hq.len (by omega), _, cutA, ?_⟩
          rintro u H' ⟨rfl, rfl⟩
          simp only [List.cons_append, List.nil_append]
          repeat (first | refine stepA ?_ | intro _)
          refine callA ?_; refine ⟨_, _, rpush_full a xs.length cap x.n (by omega) (by omega), _, cutA, ?_⟩
          rintro u H' ⟨rfl, rfl⟩
          simp only [List.cons_append, List.nil_append]
          have hn6 := (hq).n
          repeat (first | refine stepA ?_ | intro _)
          refine callT ?_; refine ⟨_, _, all_n p1 _ _ hI _ hq rfl, _, cutT, ?_⟩
          rintro u HA ⟨a2, Hs2, rfl, how2, rfl⟩
          rcases (how).inv with ⟨ea, hz, ec, _, eh⟩ | ⟨g5, y5, ea, eh, hx5, hc5, _, hm5⟩
          · rcases how2.inv with ⟨ea2, hz2, _, _, eh2⟩ | ⟨g6, y6, ea2, eh2, hx6, hc6, _, hm6⟩
            · subst eh eh2
              try (exfalso; omega)
              all_goals
                simp only [List.cons_append, List.nil_append]
                rw [hz]
                repeat (first | refine stepA ?_ | intro _)
                refine callA ?_; refine ⟨_, _, ints_zero a2 a 0 cap, _, cutA, ?_⟩
                rintro u H'' ⟨rfl, rfl⟩
                simp only [List.cons_append, List.nil_append]
                repeat (first | refine stepA ?_ | intro _)
                refine callA ?_; refine ⟨_, _, lenI p1 _ 0 hI (hq).len, _, cutA, ?_⟩
                rintro u H'' ⟨rfl, rfl⟩
                repeat (first | refine stepA ?_ | intro _)
                exact ⟨rfl, (i + 1, xs, hI, first, a, cap, []), ⟨by simp only; omega, hq, how⟩, by simp only; omega, by simp only [hz]; exact sublA, by simp only [hz]; exact subA⟩
            · subst eh eh2
              try (exfalso; omega)
              all_goals
                simp only [List.cons_append, List.nil_append]
                rw [hz]
                repeat (first | refine stepA ?_ | intro _)
                refine callA ?_; refine ⟨_, _, ints_zero a2 a 0 cap, _, cutA, ?_⟩
                rintro u H'' ⟨rfl, rfl⟩
                simp only [List.cons_append, List.nil_append]
                repeat (first | refine stepA ?_ | intro _)
                refine callA ?_; refine ⟨_, _, lenI p1 _ 0 hI (hq).len, _, cutA, ?_⟩
                rintro u H'' ⟨rfl, rfl⟩
                repeat (first | refine stepA ?_ | intro _)
                exact ⟨rfl, (i + 1, xs, hI, first, a, cap, []), ⟨by simp only; omega, hq, how⟩, by simp only; omega, by simp only [hz]; exact sublA, by simp only [hz]; exact subA⟩
          · rcases how2.inv with ⟨ea2, hz2, _, _, eh2⟩ | ⟨g6, y6, ea2, eh2, hx6, hc6, _, hm6⟩
            · subst eh eh2
              try (exfalso; omega)
              all_goals
                simp only [List.cons_append, List.nil_append]
                rw [hz2]
                repeat (first | refine stepA ?_ | intro _)
                refine callA ?_; refine ⟨_, _, ints_zero a2 a 0 cap, _, cutA, ?_⟩
                rintro u H'' ⟨rfl, rfl⟩
                simp only [List.cons_append, List.nil_append]
                repeat (first | refine stepA ?_ | intro _)
                refine callA ?_; refine ⟨_, _, lenI p1 _ 0 hI (hq).len, _, cutA, ?_⟩
                rintro u H'' ⟨rfl, rfl⟩
                repeat (first | refine stepA ?_ | intro _)
                exact ⟨rfl, (i + 1, xs, hI, first, a, cap, _), ⟨by simp only; omega, hq, how⟩, by simp only; omega, by simp only [hz2]; exact sublA, by simp only [hz2]; exact subA⟩
            · subst eh eh2 ea ea2
              simp only [List.cons_append, List.nil_append]
              repeat (first | refine stepA ?_ | intro _)
              refine callA ?_; refine ⟨_, _, ints_oo g6 g5 _ _ cap _ _ _ _ (xs) rfl (by omega) (fun j x hj => own_get hj) (fun j x hj => own_get hj), _, cutA, ?_⟩
              rintro u H'' ⟨rfl, rfl⟩
              simp only [List.cons_append, List.nil_append]
              repeat (first | refine stepA ?_ | intro _)
              refine callA ?_; refine ⟨_, _, lenI p1 _ _ hI (hq).len, _, cutA, ?_⟩
              rintro u H'' ⟨rfl, rfl⟩
              repeat (first | refine stepA ?_ | intro _)
              exact ⟨rfl, (i + 1, xs, hI, first, some ⟨g5, 0, none⟩, cap, [(g5, .cells ((xs).map elI ++ y5) 3)]), ⟨by simp only; omega, hq, how⟩, by simp only; omega, sublA, subA⟩
      · skip
        by_cases hfull : xs.length < 64
        · repeat (first | refine stepA ?_ | intro _)
          refine callA ?_; refine ⟨_, _, pushI_xs p1 first hI xs x.n hq hfull, _, cutA, ?_⟩
          rintro u H' ⟨rfl, hI', hq', rfl⟩
          simp only [List.cons_append, List.nil_append]
          repeat (first | refine stepA ?_ | intro _)
          refine callT ?_; refine ⟨_, _, rpush_own a _ cap xs x.n Hs how hfull, _, cutT, ?_⟩
          rintro u H' ⟨b, c, rfl, how'⟩
          simp only [List.cons_append, List.nil_append]
          have hle : xs.length + 1 = (xs ++ [x.n]).length := by simp
          rw [hle] at how' ⊢
          have hn6 := (hq').n
          repeat (first | refine stepA ?_ | intro _)
          refine callT ?_; refine ⟨_, _, all_n p1 _ _ hI' _ hq' rfl, _, cutT, ?_⟩
          rintro u HA ⟨a2, Hs2, rfl, how2, rfl⟩
          rcases (how').inv with ⟨ea, hz, ec, _, eh⟩ | ⟨g5, y5, ea, eh, hx5, hc5, _, hm5⟩
          · rcases how2.inv with ⟨ea2, hz2, _, _, eh2⟩ | ⟨g6, y6, ea2, eh2, hx6, hc6, _, hm6⟩
            · subst eh eh2
              try (exfalso; omega)
              all_goals
                simp only [List.cons_append, List.nil_append]
                rw [hz]
                repeat (first | refine stepA ?_ | intro _)
                refine callA ?_; refine ⟨_, _, ints_zero a2 b 0 c, _, cutA, ?_⟩
                rintro u H'' ⟨rfl, rfl⟩
                simp only [List.cons_append, List.nil_append]
                repeat (first | refine stepA ?_ | intro _)
                refine callA ?_; refine ⟨_, _, lenI p1 _ 0 hI' (hq').len, _, cutA, ?_⟩
                rintro u H'' ⟨rfl, rfl⟩
                repeat (first | refine stepA ?_ | intro _)
                exact ⟨rfl, (i + 1, (xs ++ [x.n]), hI', first, b, c, []), ⟨by simp only; omega, hq', how'⟩, by simp only; omega, by simp only [hz]; exact sublA, by simp only [hz]; exact subA⟩
            · subst eh eh2
              try (exfalso; omega)
              all_goals
                simp only [List.cons_append, List.nil_append]
                rw [hz]
                repeat (first | refine stepA ?_ | intro _)
                refine callA ?_; refine ⟨_, _, ints_zero a2 b 0 c, _, cutA, ?_⟩
                rintro u H'' ⟨rfl, rfl⟩
                simp only [List.cons_append, List.nil_append]
                repeat (first | refine stepA ?_ | intro _)
                refine callA ?_; refine ⟨_, _, lenI p1 _ 0 hI' (hq').len, _, cutA, ?_⟩
                rintro u H'' ⟨rfl, rfl⟩
                repeat (first | refine stepA ?_ | intro _)
                exact ⟨rfl, (i + 1, (xs ++ [x.n]), hI', first, b, c, []), ⟨by simp only; omega, hq', how'⟩, by simp only; omega, by simp only [hz]; exact sublA, by simp only [hz]; exact subA⟩
          · rcases how2.inv with ⟨ea2, hz2, _, _, eh2⟩ | ⟨g6, y6, ea2, eh2, hx6, hc6, _, hm6⟩
            · subst eh eh2
              try (exfalso; omega)
              all_goals
                simp only [List.cons_append, List.nil_append]
                rw [hz2]
                repeat (first | refine stepA ?_ | intro _)
                refine callA ?_; refine ⟨_, _, ints_zero a2 b 0 c, _, cutA, ?_⟩
                rintro u H'' ⟨rfl, rfl⟩
                simp only [List.cons_append, List.nil_append]
                repeat (first | refine stepA ?_ | intro _)
                refine callA ?_; refine ⟨_, _, lenI p1 _ 0 hI' (hq').len, _, cutA, ?_⟩
                rintro u H'' ⟨rfl, rfl⟩
                repeat (first | refine stepA ?_ | intro _)
                exact ⟨rfl, (i + 1, (xs ++ [x.n]), hI', first, b, c, _), ⟨by simp only; omega, hq', how'⟩, by simp only; omega, by simp only [hz2]; exact sublA, by simp only [hz2]; exact subA⟩
            · subst eh eh2 ea ea2
              simp only [List.cons_append, List.nil_append]
              repeat (first | refine stepA ?_ | intro _)
              refine callA ?_; refine ⟨_, _, ints_oo g6 g5 _ _ c _ _ _ _ ((xs ++ [x.n])) rfl (by omega) (fun j x hj => own_get hj) (fun j x hj => own_get hj), _, cutA, ?_⟩
              rintro u H'' ⟨rfl, rfl⟩
              simp only [List.cons_append, List.nil_append]
              repeat (first | refine stepA ?_ | intro _)
              refine callA ?_; refine ⟨_, _, lenI p1 _ _ hI' (hq').len, _, cutA, ?_⟩
              rintro u H'' ⟨rfl, rfl⟩
              repeat (first | refine stepA ?_ | intro _)
              exact ⟨rfl, (i + 1, (xs ++ [x.n]), hI', first, some ⟨g5, 0, none⟩, c, [(g5, .cells (((xs ++ [x.n])).map elI ++ y5) 3)]), ⟨by simp only; omega, hq', how'⟩, by simp only; omega, sublA, subA⟩
        · repeat (first | refine stepA ?_ | intro _)
          refine callA ?_; refine ⟨_, _, pushI_full64 p1 first hI xs x.n hq.len (by omega), _, cutA, ?_⟩
          rintro u H' ⟨rfl, rfl⟩
          simp only [List.cons_append, List.nil_append]
          repeat (first | refine stepA ?_ | intro _)
          refine callA ?_; refine ⟨_, _, rpush_full a xs.length cap x.n (by omega) (by omega), _, cutA, ?_⟩
          rintro u H' ⟨rfl, rfl⟩
          simp only [List.cons_append, List.nil_append]
          have hn6 := (hq).n
          repeat (first | refine stepA ?_ | intro _)
          refine callT ?_; refine ⟨_, _, all_n p1 _ _ hI _ hq rfl, _, cutT, ?_⟩
          rintro u HA ⟨a2, Hs2, rfl, how2, rfl⟩
          rcases (how).inv with ⟨ea, hz, ec, _, eh⟩ | ⟨g5, y5, ea, eh, hx5, hc5, _, hm5⟩
          · rcases how2.inv with ⟨ea2, hz2, _, _, eh2⟩ | ⟨g6, y6, ea2, eh2, hx6, hc6, _, hm6⟩
            · subst eh eh2
              try (exfalso; omega)
              all_goals
                simp only [List.cons_append, List.nil_append]
                rw [hz]
                repeat (first | refine stepA ?_ | intro _)
                refine callA ?_; refine ⟨_, _, ints_zero a2 a 0 cap, _, cutA, ?_⟩
                rintro u H'' ⟨rfl, rfl⟩
                simp only [List.cons_append, List.nil_append]
                repeat (first | refine stepA ?_ | intro _)
                refine callA ?_; refine ⟨_, _, lenI p1 _ 0 hI (hq).len, _, cutA, ?_⟩
                rintro u H'' ⟨rfl, rfl⟩
                repeat (first | refine stepA ?_ | intro _)
                exact ⟨rfl, (i + 1, xs, hI, first, a, cap, []), ⟨by simp only; omega, hq, how⟩, by simp only; omega, by simp only [hz]; exact sublA, by simp only [hz]; exact subA⟩
            · subst eh eh2
              try (exfalso; omega)
              all_goals
                simp only [List.cons_append, List.nil_append]
                rw [hz]
                repeat (first | refine stepA ?_ | intro _)
                refine callA ?_; refine ⟨_, _, ints_zero a2 a 0 cap, _, cutA, ?_⟩
                rintro u H'' ⟨rfl, rfl⟩
                simp only [List.cons_append, List.nil_append]
                repeat (first | refine stepA ?_ | intro _)
                refine callA ?_; refine ⟨_, _, lenI p1 _ 0 hI (hq).len, _, cutA, ?_⟩
                rintro u H'' ⟨rfl, rfl⟩
                repeat (first | refine stepA ?_ | intro _)
                exact ⟨rfl, (i + 1, xs, hI, first, a, cap, []), ⟨by simp only; omega, hq, how⟩, by simp only; omega, by simp only [hz]; exact sublA, by simp only [hz]; exact subA⟩
          · rcases how2.inv with ⟨ea2, hz2, _, _, eh2⟩ | ⟨g6, y6, ea2, eh2, hx6, hc6, _, hm6⟩
            · subst eh eh2
              try (exfalso; omega)
              all_goals
                simp only [List.cons_append, List.nil_append]
                rw [hz2]
                repeat (first | refine stepA ?_ | intro _)
                refine callA ?_; refine ⟨_, _, ints_zero a2 a 0 cap, _, cutA, ?_⟩
                rintro u H'' ⟨rfl, rfl⟩
                simp only [List.cons_append, List.nil_append]
                repeat (first | refine stepA ?_ | intro _)
                refine callA ?_; refine ⟨_, _, lenI p1 _ 0 hI (hq).len, _, cutA, ?_⟩
                rintro u H'' ⟨rfl, rfl⟩
                repeat (first | refine stepA ?_ | intro _)
                exact ⟨rfl, (i + 1, xs, hI, first, a, cap, _), ⟨by simp only; omega, hq, how⟩, by simp only; omega, by simp only [hz2]; exact sublA, by simp only [hz2]; exact subA⟩
            · subst eh eh2 ea ea2
              simp only [List.cons_append, List.nil_append]
              repeat (first | refine stepA ?_ | intro _)
              refine callA ?_; refine ⟨_, _, ints_oo g6 g5 _ _ cap _ _ _ _ (xs) rfl (by omega) (fun j x hj => own_get hj) (fun j x hj => own_get hj), _, cutA, ?_⟩
              rintro u H'' ⟨rfl, rfl⟩
              simp only [List.cons_append, List.nil_append]
              repeat (first | refine stepA ?_ | intro _)
              refine callA ?_; refine ⟨_, _, lenI p1 _ _ hI (hq).len, _, cutA, ?_⟩
              rintro u H'' ⟨rfl, rfl⟩
              repeat (first | refine stepA ?_ | intro _)
              exact ⟨rfl, (i + 1, xs, hI, first, some ⟨g5, 0, none⟩, cap, [(g5, .cells ((xs).map elI ++ y5) 3)]), ⟨by simp only; omega, hq, how⟩, by simp only; omega, sublA, subA⟩
      · cases xs with
        | nil =>
          have h00 : ([] : List Int).length = 0 := rfl
          repeat (first | refine stepA ?_ | intro _)
          refine callA ?_; refine ⟨_, _, popI_none0 p1 first hI hq.len, _, cutA, ?_⟩
          rintro u H' ⟨rfl, rfl⟩
          simp only [List.cons_append, List.nil_append]
          repeat (first | refine stepA ?_ | intro _)
          refine callA ?_; refine ⟨_, _, rpop_zero a cap, _, cutA, ?_⟩
          rintro u H' ⟨rfl, rfl⟩
          simp only [List.cons_append, List.nil_append]
          have hn6 := (hq).n
          repeat (first | refine stepA ?_ | intro _)
          refine callT ?_; refine ⟨_, _, all_n p1 _ _ hI _ hq rfl, _, cutT, ?_⟩
          rintro u HA ⟨a2, Hs2, rfl, how2, rfl⟩
          rcases (how).inv with ⟨ea, hz, ec, _, eh⟩ | ⟨g5, y5, ea, eh, hx5, hc5, _, hm5⟩
          · rcases how2.inv with ⟨ea2, hz2, _, _, eh2⟩ | ⟨g6, y6, ea2, eh2, hx6, hc6, _, hm6⟩
            · subst eh eh2
              try (exfalso; omega)
              all_goals
                simp only [List.cons_append, List.nil_append]
                rw [hz]
                repeat (first | refine stepA ?_ | intro _)
                refine callA ?_; refine ⟨_, _, ints_zero a2 a 0 cap, _, cutA, ?_⟩
                rintro u H'' ⟨rfl, rfl⟩
                simp only [List.cons_append, List.nil_append]
                repeat (first | refine stepA ?_ | intro _)
                refine callA ?_; refine ⟨_, _, lenI p1 _ 0 hI (hq).len, _, cutA, ?_⟩
                rintro u H'' ⟨rfl, rfl⟩
                repeat (first | refine stepA ?_ | intro _)
                exact ⟨rfl, (i + 1, [], hI, first, a, cap, []), ⟨by simp only; omega, hq, how⟩, by simp only; omega, by simp only [hz]; exact sublA, by simp only [hz]; exact subA⟩
            · subst eh eh2
              try (exfalso; omega)
              all_goals
                simp only [List.cons_append, List.nil_append]
                rw [hz]
                repeat (first | refine stepA ?_ | intro _)
                refine callA ?_; refine ⟨_, _, ints_zero a2 a 0 cap, _, cutA, ?_⟩
                rintro u H'' ⟨rfl, rfl⟩
                simp only [List.cons_append, List.nil_append]
                repeat (first | refine stepA ?_ | intro _)
                refine callA ?_; refine ⟨_, _, lenI p1 _ 0 hI (hq).len, _, cutA, ?_⟩
                rintro u H'' ⟨rfl, rfl⟩
                repeat (first | refine stepA ?_ | intro _)
                exact ⟨rfl, (i + 1, [], hI, first, a, cap, []), ⟨by simp only; omega, hq, how⟩, by simp only; omega, by simp only [hz]; exact sublA, by simp only [hz]; exact subA⟩
          · rcases how2.inv with ⟨ea2, hz2, _, _, eh2⟩ | ⟨g6, y6, ea2, eh2, hx6, hc6, _, hm6⟩
            · subst eh eh2
              try (exfalso; omega)
              all_goals
                simp only [List.cons_append, List.nil_append]
                rw [hz2]
                repeat (first | refine stepA ?_ | intro _)
                refine callA ?_; refine ⟨_, _, ints_zero a2 a 0 cap, _, cutA, ?_⟩
                rintro u H'' ⟨rfl, rfl⟩
                simp only [List.cons_append, List.nil_append]
                repeat (first | refine stepA ?_ | intro _)
                refine callA ?_; refine ⟨_, _, lenI p1 _ 0 hI (hq).len, _, cutA, ?_⟩
                rintro u H'' ⟨rfl, rfl⟩
                repeat (first | refine stepA ?_ | intro _)
                exact ⟨rfl, (i + 1, [], hI, first, a, cap, _), ⟨by simp only; omega, hq, how⟩, by simp only; omega, by simp only [hz2]; exact sublA, by simp only [hz2]; exact subA⟩
            · subst eh eh2 ea ea2
              simp only [List.cons_append, List.nil_append]
              repeat (first | refine stepA ?_ | intro _)
              refine callA ?_; refine ⟨_, _, ints_oo g6 g5 _ _ cap _ _ _ _ ([]) rfl (by omega) (fun j x hj => own_get hj) (fun j x hj => own_get hj), _, cutA, ?_⟩
              rintro u H'' ⟨rfl, rfl⟩
              simp only [List.cons_append, List.nil_append]
              repeat (first | refine stepA ?_ | intro _)
              refine callA ?_; refine ⟨_, _, lenI p1 _ _ hI (hq).len, _, cutA, ?_⟩
              rintro u H'' ⟨rfl, rfl⟩
              repeat (first | refine stepA ?_ | intro _)
              exact ⟨rfl, (i + 1, [], hI, first, some ⟨g5, 0, none⟩, cap, [(g5, .cells (([]).map elI ++ y5) 3)]), ⟨by simp only; omega, hq, how⟩, by simp only; omega, sublA, subA⟩
        | cons y ys =>
          repeat (first | refine stepA ?_ | intro _)
          refine callA ?_; refine ⟨_, _, popI_xs p1 first hI ys y hq, _, cutA, ?_⟩
          rintro u H' ⟨rfl, hI', hq', rfl⟩
          simp only [List.cons_append, List.nil_append]
          repeat (first | refine stepA ?_ | intro _)
          refine callT ?_; refine ⟨_, _, rpop_own a _ cap y ys Hs how hn, _, cutT, ?_⟩
          rintro u H' ⟨b, c, rfl, how'⟩
          simp only [List.cons_append, List.nil_append]
          have hn6 := (hq').n
          repeat (first | refine stepA ?_ | intro _)
          refine callT ?_; refine ⟨_, _, all_n p1 _ _ hI' _ hq' rfl, _, cutT, ?_⟩
          rintro u HA ⟨a2, Hs2, rfl, how2, rfl⟩
          rcases (how').inv with ⟨ea, hz, ec, _, eh⟩ | ⟨g5, y5, ea, eh, hx5, hc5, _, hm5⟩
          · rcases how2.inv with ⟨ea2, hz2, _, _, eh2⟩ | ⟨g6, y6, ea2, eh2, hx6, hc6, _, hm6⟩
            · subst eh eh2
              try (exfalso; omega)
              all_goals
                simp only [List.cons_append, List.nil_append]
                rw [hz]
                repeat (first | refine stepA ?_ | intro _)
                refine callA ?_; refine ⟨_, _, ints_zero a2 b 0 c, _, cutA, ?_⟩
                rintro u H'' ⟨rfl, rfl⟩
                simp only [List.cons_append, List.nil_append]
                repeat (first | refine stepA ?_ | intro _)
                refine callA ?_; refine ⟨_, _, lenI p1 _ 0 hI' (hq').len, _, cutA, ?_⟩
                rintro u H'' ⟨rfl, rfl⟩
                repeat (first | refine stepA ?_ | intro _)
                exact ⟨rfl, (i + 1, ys, hI', ((first + 1) % 64), b, c, []), ⟨by simp only; omega, hq', how'⟩, by simp only; omega, by simp only [hz]; exact sublA, by simp only [hz]; exact subA⟩
            · subst eh eh2
              try (exfalso; omega)
              all_goals
                simp only [List.cons_append, List.nil_append]
                rw [hz]
                repeat (first | refine stepA ?_ | intro _)
                refine callA ?_; refine ⟨_, _, ints_zero a2 b 0 c, _, cutA, ?_⟩
                rintro u H'' ⟨rfl, rfl⟩
                simp only [List.cons_append, List.nil_append]
                repeat (first | refine stepA ?_ | intro _)
                refine callA ?_; refine ⟨_, _, lenI p1 _ 0 hI' (hq').len, _, cutA, ?_⟩
                rintro u H'' ⟨rfl, rfl⟩
                repeat (first | refine stepA ?_ | intro _)
                exact ⟨rfl, (i + 1, ys, hI', ((first + 1) % 64), b, c, []), ⟨by simp only; omega, hq', how'⟩, by simp only; omega, by simp only [hz]; exact sublA, by simp only [hz]; exact subA⟩
          · rcases how2.inv with ⟨ea2, hz2, _, _, eh2⟩ | ⟨g6, y6, ea2, eh2, hx6, hc6, _, hm6⟩
            · subst eh eh2
              try (exfalso; omega)
              all_goals
                simp only [List.cons_append, List.nil_append]
                rw [hz2]
                repeat (first | refine stepA ?_ | intro _)
                refine callA ?_; refine ⟨_, _, ints_zero a2 b 0 c, _, cutA, ?_⟩
                rintro u H'' ⟨rfl, rfl⟩
                simp only [List.cons_append, List.nil_append]
                repeat (first | refine stepA ?_ | intro _)
                refine callA ?_; refine ⟨_, _, lenI p1 _ 0 hI' (hq').len, _, cutA, ?_⟩
                rintro u H'' ⟨rfl, rfl⟩
                repeat (first | refine stepA ?_ | intro _)
                exact ⟨rfl, (i + 1, ys, hI', ((first + 1) % 64), b, c, _), ⟨by simp only; omega, hq', how'⟩, by simp only; omega, by simp only [hz2]; exact sublA, by simp only [hz2]; exact subA⟩
            · subst eh eh2 ea ea2
              simp only [List.cons_append, List.nil_append]
              repeat (first | refine stepA ?_ | intro _)
              refine callA ?_; refine ⟨_, _, ints_oo g6 g5 _ _ c _ _ _ _ (ys) rfl (by omega) (fun j x hj => own_get hj) (fun j x hj => own_get hj), _, cutA, ?_⟩
              rintro u H'' ⟨rfl, rfl⟩
              simp only [List.cons_append, List.nil_append]
              repeat (first | refine stepA ?_ | intro _)
              refine callA ?_; refine ⟨_, _, lenI p1 _ _ hI' (hq').len, _, cutA, ?_⟩
              rintro u H'' ⟨rfl, rfl⟩
              repeat (first | refine stepA ?_ | intro _)
              exact ⟨rfl, (i + 1, ys, hI', ((first + 1) % 64), some ⟨g5, 0, none⟩, c, [(g5, .cells ((ys).map elI ++ y5) 3)]), ⟨by simp only; omega, hq', how'⟩, by simp only; omega, sublA, subA⟩
      · by_cases hv : x.n ∈ xs
        · repeat (first | refine stepA ?_ | intro _)
          refine callA ?_; refine ⟨_, _, drop_er p1 first _ hI xs x.n hq rfl, _, cutA, ?_⟩
          rintro u H' ⟨rfl, hI', hq', rfl⟩
          rw [if_pos hv]
          simp only [List.cons_append, List.nil_append]
          repeat (first | refine stepA ?_ | intro _)
          refine callT ?_; refine ⟨_, _, rdrop_yes a _ cap xs x.n Hs how hn hv, _, cutT, ?_⟩
          rintro u H' ⟨b, c, rfl, how'⟩
          simp only [List.cons_append, List.nil_append]
          have hn6 := (hq').n
          repeat (first | refine stepA ?_ | intro _)
          refine callT ?_; refine ⟨_, _, all_n p1 _ _ hI' _ hq' rfl, _, cutT, ?_⟩
          rintro u HA ⟨a2, Hs2, rfl, how2, rfl⟩
          rcases (how').inv with ⟨ea, hz, ec, _, eh⟩ | ⟨g5, y5, ea, eh, hx5, hc5, _, hm5⟩
          · rcases how2.inv with ⟨ea2, hz2, _, _, eh2⟩ | ⟨g6, y6, ea2, eh2, hx6, hc6, _, hm6⟩
            · subst eh eh2
              try (exfalso; omega)
              all_goals
                simp only [List.cons_append, List.nil_append]
                rw [hz]
                repeat (first | refine stepA ?_ | intro _)
                refine callA ?_; refine ⟨_, _, ints_zero a2 b 0 c, _, cutA, ?_⟩
                rintro u H'' ⟨rfl, rfl⟩
                simp only [List.cons_append, List.nil_append]
                repeat (first | refine stepA ?_ | intro _)
                refine callA ?_; refine ⟨_, _, lenI p1 _ 0 hI' (hq').len, _, cutA, ?_⟩
                rintro u H'' ⟨rfl, rfl⟩
                repeat (first | refine stepA ?_ | intro _)
                exact ⟨rfl, (i + 1, (xs.erase x.n), hI', first, b, c, []), ⟨by simp only; omega, hq', how'⟩, by simp only; omega, by simp only [hz]; exact sublA, by simp only [hz]; exact subA⟩
            · subst eh eh2
              try (exfalso; omega)
              all_goals
                simp only [List.cons_append, List.nil_append]
                rw [hz]
                repeat (first | refine stepA ?_ | intro _)
                refine callA ?_; refine ⟨_, _, ints_zero a2 b 0 c, _, cutA, ?_⟩
                rintro u H'' ⟨rfl, rfl⟩
                simp only [List.cons_append, List.nil_append]
                repeat (first | refine stepA ?_ | intro _)
                refine callA ?_; refine ⟨_, _, lenI p1 _ 0 hI' (hq').len, _, cutA, ?_⟩
                rintro u H'' ⟨rfl, rfl⟩
                repeat (first | refine stepA ?_ | intro _)
                exact ⟨rfl, (i + 1, (xs.erase x.n), hI', first, b, c, []), ⟨by simp only; omega, hq', how'⟩, by simp only; omega, by simp only [hz]; exact sublA, by simp only [hz]; exact subA⟩
          · rcases how2.inv with ⟨ea2, hz2, _, _, eh2⟩ | ⟨g6, y6, ea2, eh2, hx6, hc6, _, hm6⟩
            · subst eh eh2
              try (exfalso; omega)
              all_goals
                simp only [List.cons_append, List.nil_append]
                rw [hz2]
                repeat (first | refine stepA ?_ | intro _)
                refine callA ?_; refine ⟨_, _, ints_zero a2 b 0 c, _, cutA, ?_⟩
                rintro u H'' ⟨rfl, rfl⟩
                simp only [List.cons_append, List.nil_append]
                repeat (first | refine stepA ?_ | intro _)
                refine callA ?_; refine ⟨_, _, lenI p1 _ 0 hI' (hq').len, _, cutA, ?_⟩
                rintro u H'' ⟨rfl, rfl⟩
                repeat (first | refine stepA ?_ | intro _)
                exact ⟨rfl, (i + 1, (xs.erase x.n), hI', first, b, c, _), ⟨by simp only; omega, hq', how'⟩, by simp only; omega, by simp only [hz2]; exact sublA, by simp only [hz2]; exact subA⟩
            · subst eh eh2 ea ea2
              simp only [List.cons_append, List.nil_append]
              repeat (first | refine stepA ?_ | intro _)
              refine callA ?_; refine ⟨_, _, ints_oo g6 g5 _ _ c _ _ _ _ ((xs.erase x.n)) rfl (by omega) (fun j x hj => own_get hj) (fun j x hj => own_get hj), _, cutA, ?_⟩
              rintro u H'' ⟨rfl, rfl⟩
              simp only [List.cons_append, List.nil_append]
              repeat (first | refine stepA ?_ | intro _)
              refine callA ?_; refine ⟨_, _, lenI p1 _ _ hI' (hq').len, _, cutA, ?_⟩
              rintro u H'' ⟨rfl, rfl⟩
              repeat (first | refine stepA ?_ | intro _)
              exact ⟨rfl, (i + 1, (xs.erase x.n), hI', first, some ⟨g5, 0, none⟩, c, [(g5, .cells (((xs.erase x.n)).map elI ++ y5) 3)]), ⟨by simp only; omega, hq', how'⟩, by simp only; omega, sublA, subA⟩
        · repeat (first | refine stepA ?_ | intro _)
          refine callA ?_; refine ⟨_, _, drop_er p1 first _ hI xs x.n hq rfl, _, cutA, ?_⟩
          rintro u H' ⟨rfl, hI', hq', rfl⟩
          rw [if_neg hv]
          rw [List.erase_of_not_mem hv] at hq' ⊢
          simp only [List.cons_append, List.nil_append]
          repeat (first | refine stepA ?_ | intro _)
          refine callT ?_; refine ⟨_, _, rdrop_no a _ cap xs x.n Hs how hn hv, _, cutT, ?_⟩
          rintro u H' ⟨rfl, rfl⟩
          simp only [List.cons_append, List.nil_append]
          have hn6 := (hq').n
          repeat (first | refine stepA ?_ | intro _)
          refine callT ?_; refine ⟨_, _, all_n p1 _ _ hI' _ hq' rfl, _, cutT, ?_⟩
          rintro u HA ⟨a2, Hs2, rfl, how2, rfl⟩
          rcases (how).inv with ⟨ea, hz, ec, _, eh⟩ | ⟨g5, y5, ea, eh, hx5, hc5, _, hm5⟩
          · rcases how2.inv with ⟨ea2, hz2, _, _, eh2⟩ | ⟨g6, y6, ea2, eh2, hx6, hc6, _, hm6⟩
            · subst eh eh2
              try (exfalso; omega)
              all_goals
                simp only [List.cons_append, List.nil_append]
                rw [hz]
                repeat (first | refine stepA ?_ | intro _)
                refine callA ?_; refine ⟨_, _, ints_zero a2 a 0 cap, _, cutA, ?_⟩
                rintro u H'' ⟨rfl, rfl⟩
                simp only [List.cons_append, List.nil_append]
                repeat (first | refine stepA ?_ | intro _)
                refine callA ?_; refine ⟨_, _, lenI p1 _ 0 hI' (hq').len, _, cutA, ?_⟩
                rintro u H'' ⟨rfl, rfl⟩
                repeat (first | refine stepA ?_ | intro _)
                exact ⟨rfl, (i + 1, xs, hI', first, a, cap, []), ⟨by simp only; omega, hq', how⟩, by simp only; omega, by simp only [hz]; exact sublA, by simp only [hz]; exact subA⟩
            · subst eh eh2
              try (exfalso; omega)
              all_goals
                simp only [List.cons_append, List.nil_append]
                rw [hz]
                repeat (first | refine stepA ?_ | intro _)
                refine callA ?_; refine ⟨_, _, ints_zero a2 a 0 cap, _, cutA, ?_⟩
                rintro u H'' ⟨rfl, rfl⟩
                simp only [List.cons_append, List.nil_append]
                repeat (first | refine stepA ?_ | intro _)
                refine callA ?_; refine ⟨_, _, lenI p1 _ 0 hI' (hq').len, _, cutA, ?_⟩
                rintro u H'' ⟨rfl, rfl⟩
                repeat (first | refine stepA ?_ | intro _)
                exact ⟨rfl, (i + 1, xs, hI', first, a, cap, []), ⟨by simp only; omega, hq', how⟩, by simp only; omega, by simp only [hz]; exact sublA, by simp only [hz]; exact subA⟩
          · rcases how2.inv with ⟨ea2, hz2, _, _, eh2⟩ | ⟨g6, y6, ea2, eh2, hx6, hc6, _, hm6⟩
            · subst eh eh2
              try (exfalso; omega)
              all_goals
                simp only [List.cons_append, List.nil_append]
                rw [hz2]
                repeat (first | refine stepA ?_ | intro _)
                refine callA ?_; refine ⟨_, _, ints_zero a2 a 0 cap, _, cutA, ?_⟩
                rintro u H'' ⟨rfl, rfl⟩
                simp only [List.cons_append, List.nil_append]
                repeat (first | refine stepA ?_ | intro _)
                refine callA ?_; refine ⟨_, _, lenI p1 _ 0 hI' (hq').len, _, cutA, ?_⟩
                rintro u H'' ⟨rfl, rfl⟩
                repeat (first | refine stepA ?_ | intro _)
                exact ⟨rfl, (i + 1, xs, hI', first, a, cap, _), ⟨by simp only; omega, hq', how⟩, by simp only; omega, by simp only [hz2]; exact sublA, by simp only [hz2]; exact subA⟩
            · subst eh eh2 ea ea2
              simp only [List.cons_append, List.nil_append]
              repeat (first | refine stepA ?_ | intro _)
              refine callA ?_; refine ⟨_, _, ints_oo g6 g5 _ _ cap _ _ _ _ (xs) rfl (by omega) (fun j x hj => own_get hj) (fun j x hj => own_get hj), _, cutA, ?_⟩
              rintro u H'' ⟨rfl, rfl⟩
              simp only [List.cons_append, List.nil_append]
              repeat (first | refine stepA ?_ | intro _)
              refine callA ?_; refine ⟨_, _, lenI p1 _ _ hI' (hq').len, _, cutA, ?_⟩
              rintro u H'' ⟨rfl, rfl⟩
              repeat (first | refine stepA ?_ | intro _)
              exact ⟨rfl, (i + 1, xs, hI', first, some ⟨g5, 0, none⟩, cap, [(g5, .cells ((xs).map elI ++ y5) 3)]), ⟨by simp only; omega, hq', how⟩, by simp only; omega, sublA, subA⟩
    · repeat (first | refine stepA ?_ | intro _)
      (first | refine retA ?_ | refine retB ?_); exact ⟨_, ⟨rfl, rfl⟩, subA⟩
  · repeat (first | refine stepA ?_ | intro _)
    (first | refine retA ?_ | refine retB ?_); exact ⟨_, ⟨rfl, rfl⟩, subA⟩
end Go.Proofs.Ytkfpohhlibcliaa
