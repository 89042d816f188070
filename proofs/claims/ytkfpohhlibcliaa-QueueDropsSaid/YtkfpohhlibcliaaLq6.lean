/-
  The law QueueDrops: its walk.
-/
import Derived.Test.YtkfpohhlibcliaaLq4
namespace Go.Proofs.Ytkfpohhlibcliaa
open Go.RowKit
attribute [local irreducible] W L QL PureOp thenQ blockQ retQ Spec IterOk YSpec roundQ scopeQ noGoQ
attribute [local irreducible] AS ASi
set_option maxHeartbeats 6400000
theorem place_erase {v : Int} : ∀ {xs : List Int}, (placeOfI v xs = -1 → v ∉ xs) ∧ ∀ k : Nat, placeOfI v xs = (k : Int) → v ∈ xs ∧ xs.eraseIdx k = xs.erase v
  | [] => ⟨fun _ => by simp, fun k h => by simp [placeOfI] at h⟩
  | x :: xs => by
    have ih := place_erase (v := v) (xs := xs)
    by_cases he : x = v
    · subst he
      refine ⟨fun h => by simp [placeOfI] at h, fun k h => ?_⟩
      simp [placeOfI] at h
      obtain rfl : k = 0 := by omega
      simp
    · have hc := placeOfI_cases v xs
      simp only [placeOfI, he, if_false]
      by_cases hn : placeOfI v xs < 0
      · simp only [hn, if_true]
        have h1 : placeOfI v xs = -1 := by rcases hc with h | ⟨k, h, _⟩ <;> omega
        refine ⟨fun _ => ?_, fun k h => by omega⟩
        have := ih.1 h1
        simp [this, Ne.symm he]
      · simp only [hn, if_false]
        refine ⟨fun h => by omega, fun k h => ?_⟩
        obtain ⟨j, rfl⟩ : ∃ j, k = j + 1 := ⟨k - 1, by omega⟩
        obtain ⟨h1, h2⟩ := ih.2 j (by omega)
        refine ⟨by simp [h1], ?_⟩
        rw [List.eraseIdx_cons_succ, h2, List.erase_cons_tail (by simpa using he)]
/-- one more thing: with it -/
theorem erase_next {xs : List Int} {i : Nat} {x v : Int} (h : xs[i]? = some x) (hne : ¬ (x = v ∧ v ∉ xs.take i)) : (xs.take (i + 1)).erase v = (xs.take i).erase v ++ [x] := by
  rw [take_next' h]
  by_cases hm : v ∈ xs.take i
  · rw [List.erase_append_left _ hm]
  · have hx : ¬ x = v := fun e => hne ⟨e, hm⟩
    rw [List.erase_append_right _ hm, List.erase_of_not_mem hm, List.erase_of_not_mem (by simpa using Ne.symm hx)]
theorem erase_here {xs : List Int} {i : Nat} {x v : Int} (h : xs[i]? = some x) (he : x = v) (hm : v ∉ xs.take i) : (xs.take (i + 1)).erase v = (xs.take i).erase v := by
  subst he
  rw [take_next' h, List.erase_append_right _ hm, List.erase_of_not_mem hm]
  simp
theorem drop_er (p first n : Nat) (hs xs : List Int) (v : Int) (hq : QR hs first xs) (hn : xs.length = n) :
    Spec Try.prog 16 [.pointer (some ⟨p, 0, none⟩), .int .i64 v] (qHI p hs first n) fun u H' => u = .int .i64 (if v ∈ xs then 0 else 70) ∧ ∃ hs', QR hs' first (xs.erase v) ∧ H' = qHI p hs' first (xs.erase v).length := by
  subst hn
  rcases placeOfI_cases v xs with hk | ⟨k, hk, hkl⟩
  · have hv := place_erase.1 hk
    refine (dropI_no p first hs xs v hq hk).mono fun u H' ⟨h1, h2⟩ => ⟨by rw [if_neg hv]; exact h1, hs, by rw [List.erase_of_not_mem hv]; exact hq, by rw [List.erase_of_not_mem hv]; exact h2⟩
  · obtain ⟨hv, he⟩ := place_erase.2 k hk
    refine (dropI p first k hs xs v hq hk hkl).mono fun u H' ⟨h1, hs', h2, h3⟩ => ⟨by rw [if_pos hv]; exact h1, hs', by rw [← he]; exact h2, by rw [← he]; exact h3⟩
theorem drops_nil (p : Option Addr) (cap : Nat) (v : Int) : Spec Try.prog 6 [.slice p 0 cap, .int .i64 v] [] fun v H' => v = .bool true ∧ H' = [] := by
  refine Spec_body Try.func6 rfl Try.ntmps6 rfl (fun w0 => ?_)
  repeat (first | refine stepA ?_ | intro _)
  refine callA ?_; refine ⟨_, _, shown_spec, _, cutA, ?_⟩
  rintro u H' ⟨rfl, rfl⟩
  repeat (first | refine stepA ?_ | intro _)
  refine callA ?_; refine ⟨_, _, newI, _, cutA, ?_⟩
  rintro u H' ⟨p1, rfl, rfl⟩
  have q0 : QR (List.replicate 64 zeI) 0 ([] : List Int) := QR.new 0
  repeat (first | refine stepA ?_ | intro _)
  refine W_loop (fun i : Nat => [(0, .slice p 0 cap), (1, .int .i64 v), (5, .bool true), (6, .pointer (some ⟨p1, 0, none⟩)), (7, .int .i64 0)]) (fun i => qHI p1 (List.replicate 64 zeI) 0 0) (fun _ => True) (fun _ => 0) 0 trivial sublA subA ?_
  intro i _
  repeat (first | refine stepA ?_ | intro _)
  refine callA ?_; refine ⟨_, _, drop_er p1 0 0 _ [] v q0 rfl, _, cutA, ?_⟩
  rintro u H' ⟨rfl, hI', q1, rfl⟩
  rw [if_neg (by simp)]
  repeat (first | refine stepA ?_ | intro _)
  refine W_loop (fun i : Nat => [(0, .slice p 0 cap), (1, .int .i64 v), (5, .bool true), (6, .pointer (some ⟨p1, 0, none⟩)), (8, .int .i64 70), (9, .slice none 0 0), (10, .bool false), (11, .int .i64 0)]) (fun i => qHI p1 hI' 0 0) (fun _ => True) (fun _ => 0) 0 trivial sublA subA ?_
  intro i _
  repeat (first | refine stepA ?_ | intro _)
  refine callT ?_; refine ⟨_, _, all_n p1 0 0 _ [] q1 rfl, _, cutT, ?_⟩
  rintro u H' ⟨a2, Hs2, rfl, how2, rfl⟩
  simp only [List.cons_append, List.nil_append]
  repeat (first | refine stepA ?_ | intro _)
  refine callA ?_; refine ⟨_, _, ints_zero a2 none 0 0, _, cutA, ?_⟩
  rintro u H' ⟨rfl, rfl⟩
  repeat (first | refine stepA ?_ | intro _)
  (first | refine retA ?_ | refine retB ?_)
  exact ⟨_, ⟨rfl, rfl⟩, subT⟩
theorem drops_spec (g o len cap : Nat) (C : Array Value) (E : TypeId) (fr : Nat × Nat) (xs : List Int) (v : Int) (hl : xs.length = len) (hx : NumsAt C o xs) (hlen : len ≤ 9223372036854775807) :
    Spec Try.prog 6 [.slice (some ⟨g, o, none⟩) len cap, .int .i64 v] [(g, .oth (.cells C E fr))] fun v H' => v = .bool true ∧ H' = [(g, .oth (.cells C E fr))] := by
  refine Spec_body Try.func6 rfl Try.ntmps6 rfl (fun w0 => ?_)
  repeat (first | refine stepA ?_ | intro _)
  refine callA ?_; refine ⟨_, _, shown_spec, _, cutA, ?_⟩
  rintro u H' ⟨rfl, rfl⟩
  repeat (first | refine stepA ?_ | intro _)
  refine callA ?_; refine ⟨_, _, newI, _, cutA, ?_⟩
  rintro u H' ⟨p1, rfl, rfl⟩
  have q0 : QR (List.replicate 64 zeI) 0 (xs.take 0) := QR.new 0
  repeat (first | refine stepA ?_ | intro _)
  refine W_loop (fun x : Nat × List Int => [(0, .slice (some ⟨g, o, none⟩) len cap), (1, .int .i64 v), (5, .bool true), (6, .pointer (some ⟨p1, 0, none⟩)), (7, .int .i64 (x.1 : Int))])
    (fun x => (g, .oth (.cells C E fr)) :: qHI p1 x.2 0 (xs.take x.1).length)
    (fun x => x.1 ≤ 60 ∧ x.1 ≤ len ∧ QR x.2 0 (xs.take x.1)) (fun x => 60 - x.1) (0, List.replicate 64 zeI)
    ⟨by simp only; omega, by simp only; omega, q0⟩ sublA subA ?_
  rintro ⟨i, hI⟩ ⟨hi, hil, hq⟩
  simp only at hi hil hq ⊢
  have hpl : (xs.take i).length = i := by simp; omega
  by_cases h1 : i < len
  · by_cases h2 : i < 60
    · obtain ⟨x, hxi⟩ : ∃ x, xs[i]? = some x := ⟨xs[i]'(by omega), by simp [hl, h1]⟩
      have g0 := nums_get hx hxi
      repeat (first | refine stepA ?_ | intro _)
      refine callA ?_; refine ⟨_, _, pushI_xs p1 0 hI _ x hq (by rw [hpl]; omega), _, cutA, ?_⟩
      rintro u H' ⟨rfl, hI', hq', rfl⟩
      rw [← take_next' hxi] at hq' ⊢
      repeat (first | refine stepA ?_ | intro _)
      exact ⟨rfl, (i + 1, hI'), ⟨by simp only; omega, by simp only; omega, hq'⟩, by simp only; omega, sublA, subA⟩
    · skip
      repeat (first | refine stepA ?_ | intro _)
      refine callA ?_; refine ⟨_, _, drop_er p1 0 _ hI _ v hq rfl, _, cutA, ?_⟩
      rintro u H' ⟨rfl, hI', q1, rfl⟩
      generalize he : (if v ∈ xs.take i then (0 : Int) else 70) = e
      repeat (first | refine stepA ?_ | intro _)
      refine W_loop (fun x : Nat × Bool × Option Addr × Nat × Hp => [(0, .slice (some ⟨g, o, none⟩) len cap), (1, .int .i64 v), (5, .bool true), (6, .pointer (some ⟨p1, 0, none⟩)), (8, .int .i64 e), (9, .slice x.2.2.1 ((xs.take x.1).erase v).length x.2.2.2.1), (10, .bool x.2.1), (11, .int .i64 (x.1 : Int))])
        (fun x => (g, .oth (.cells C E fr)) :: (qHI p1 hI' 0 ((xs.take i).erase v).length ++ x.2.2.2.2))
        (fun x => x.1 ≤ i ∧ (x.2.1 = true ↔ v ∈ xs.take x.1) ∧ oI x.2.2.1 ((xs.take x.1).erase v).length x.2.2.2.1 ((xs.take x.1).erase v) x.2.2.2.2) (fun x => i - x.1) (0, false, none, 0, [])
        ⟨by simp only; omega, by simp, Own.nil⟩ sublA subA ?_
      rintro ⟨k, b, a, ca, Hs⟩ ⟨hk, hb, how⟩
      simp only [List.cons_append, List.nil_append] at hk hb how ⊢
      have hel : ((xs.take k).erase v).length ≤ 60 := Nat.le_trans List.length_erase_le (by simp; omega)
      by_cases hlt : k < i
      · obtain ⟨x, hxk⟩ : ∃ x, xs[k]? = some x := ⟨xs[k]'(by omega), List.getElem?_eq_getElem (by omega)⟩
        have g0 := nums_get hx hxk
        have htn := take_next' hxk
        by_cases hhit : x = v ∧ b = false
        · obtain ⟨h3, rfl⟩ := hhit
          have hnm : v ∉ xs.take k := fun q => by have := hb.2 q; simp at this
          have hen := erase_here hxk h3 hnm
          rw [← hen] at how ⊢
          repeat (first | refine stepA ?_ | intro _)
          exact ⟨rfl, (k + 1, true, a, ca, Hs), ⟨by simp only; omega, ⟨fun _ => by rw [htn]; simp [h3], fun _ => rfl⟩, how⟩, by simp only; omega, sublA, subT⟩
        · have hne : ¬ (x = v ∧ v ∉ xs.take k) := fun q => hhit ⟨q.1, by
            cases b with
            | false => rfl
            | true => exact absurd (hb.1 rfl) q.2⟩
          have hen := erase_next hxk hne
          have hb' : b = true ↔ v ∈ xs.take (k + 1) := by
            rw [htn, List.mem_append, hb]
            constructor
            · exact .inl
            · rintro (h | h)
              · exact h
              · have hv : x = v := by simp at h; exact h.symm
                exact Classical.byContradiction fun q => hne ⟨hv, q⟩
          by_cases hxv : x = v
          · obtain rfl : b = true := by
              cases b with
              | false => exact absurd ⟨hxv, rfl⟩ hhit
              | true => rfl
            repeat (first | refine stepA ?_ | intro _)
            rename_i gb
            apply L_append
            · exact rfl
            · exact evA
            · exact evA
            · exact how
            · exact tailA
            · exact Lies.cells (k := 1) (news := [elI x]) pullA rfl
            · rfl
            · simp [Value.oneCell']
            · omega
            · simp only [maxLen]; omega
            · omega
            · rfl
            rintro g2 cap' ys h1' h2' h3'
            repeat (first | refine stepA ?_ | intro _)
            have hle : ((xs.take (k + 1)).erase v).length = ((xs.take k).erase v).length + 1 := by rw [hen]; simp
            refine ⟨rfl, (k + 1, _, _, cap', [(g2, .cells (((xs.take k).erase v).map elI ++ [elI x] ++ ys) 3)]), ⟨by simp only; omega, hb', ?_⟩, by simp only; omega, by rw [hle]; exact sublA, subA⟩
            simp only [hle]
            rw [show ((xs.take k).erase v).map elI ++ [elI x] = ((xs.take (k + 1)).erase v).map elI by rw [hen]; simp] at h1' ⊢
            exact Own.blk (by rw [List.length_map, hle]; omega) h1' h2' h3'
          · cases b
            · skip
              repeat (first | refine stepA ?_ | intro _)
              rename_i gb
              apply L_append
              · exact rfl
              · exact evA
              · exact evA
              · exact how
              · exact tailA
              · exact Lies.cells (k := 1) (news := [elI x]) pullA rfl
              · rfl
              · simp [Value.oneCell']
              · omega
              · simp only [maxLen]; omega
              · omega
              · rfl
              rintro g2 cap' ys h1' h2' h3'
              repeat (first | refine stepA ?_ | intro _)
              have hle : ((xs.take (k + 1)).erase v).length = ((xs.take k).erase v).length + 1 := by rw [hen]; simp
              refine ⟨rfl, (k + 1, _, _, cap', [(g2, .cells (((xs.take k).erase v).map elI ++ [elI x] ++ ys) 3)]), ⟨by simp only; omega, hb', ?_⟩, by simp only; omega, by rw [hle]; exact sublA, subA⟩
              simp only [hle]
              rw [show ((xs.take k).erase v).map elI ++ [elI x] = ((xs.take (k + 1)).erase v).map elI by rw [hen]; simp] at h1' ⊢
              exact Own.blk (by rw [List.length_map, hle]; omega) h1' h2' h3'
            · skip
              repeat (first | refine stepA ?_ | intro _)
              rename_i gb
              apply L_append
              · exact rfl
              · exact evA
              · exact evA
              · exact how
              · exact tailA
              · exact Lies.cells (k := 1) (news := [elI x]) pullA rfl
              · rfl
              · simp [Value.oneCell']
              · omega
              · simp only [maxLen]; omega
              · omega
              · rfl
              rintro g2 cap' ys h1' h2' h3'
              repeat (first | refine stepA ?_ | intro _)
              have hle : ((xs.take (k + 1)).erase v).length = ((xs.take k).erase v).length + 1 := by rw [hen]; simp
              refine ⟨rfl, (k + 1, _, _, cap', [(g2, .cells (((xs.take k).erase v).map elI ++ [elI x] ++ ys) 3)]), ⟨by simp only; omega, hb', ?_⟩, by simp only; omega, by rw [hle]; exact sublA, subA⟩
              simp only [hle]
              rw [show ((xs.take k).erase v).map elI ++ [elI x] = ((xs.take (k + 1)).erase v).map elI by rw [hen]; simp] at h1' ⊢
              exact Own.blk (by rw [List.length_map, hle]; omega) h1' h2' h3'
      · obtain rfl : k = i := by omega
        have hfin : e = 0 ∧ b = true ∨ e = 70 ∧ b = false := by
          rw [← he]
          cases b with
          | true => left; rw [if_pos (hb.1 rfl)]; exact ⟨rfl, rfl⟩
          | false => right; rw [if_neg (fun q => by have := hb.2 q; simp at this)]; exact ⟨rfl, rfl⟩
        rcases hfin with ⟨rfl, rfl⟩ | ⟨rfl, rfl⟩
        · skip
          repeat (first | refine stepA ?_ | intro _)
          refine callT ?_; refine ⟨_, _, all_n p1 0 _ hI' _ q1 rfl, _, cutT, ?_⟩
          rintro u H' ⟨a2, Hs2, rfl, how2, rfl⟩
          by_cases hL : ((xs.take k).erase v).length = 0
          · rw [hL]
            simp only [List.cons_append, List.nil_append]
            repeat (first | refine stepA ?_ | intro _)
            refine callA ?_; refine ⟨_, _, ints_zero a2 a 0 ca, _, cutA, ?_⟩
            rintro u H' ⟨rfl, rfl⟩
            repeat (first | refine stepA ?_ | intro _)
            (first | refine retA ?_ | refine retB ?_)
            exact ⟨_, ⟨rfl, rfl⟩, subT⟩
          · rcases how.inv with ⟨_, hz, _, _, _⟩ | ⟨ga, ys, rfl, rfl, hx1, hc1, _, hm1⟩
            · exact absurd hz hL
            rcases how2.inv with ⟨_, hz, _, _, _⟩ | ⟨ga2, ys2, rfl, rfl, hx2, hc2, _, hm2⟩
            · exact absurd hz hL
            simp only [List.cons_append, List.nil_append]
            repeat (first | refine stepA ?_ | intro _)
            refine callA ?_; refine ⟨_, _, ints_oo ga2 ga _ _ ca _ _ _ _ ((xs.take k).erase v) rfl (by omega) (fun j x hj => own_get hj) (fun j x hj => own_get hj), _, cutA, ?_⟩
            rintro u H' ⟨rfl, rfl⟩
            repeat (first | refine stepA ?_ | intro _)
            (first | refine retA ?_ | refine retB ?_)
            exact ⟨_, ⟨rfl, rfl⟩, subT⟩
        · skip
          repeat (first | refine stepA ?_ | intro _)
          refine callT ?_; refine ⟨_, _, all_n p1 0 _ hI' _ q1 rfl, _, cutT, ?_⟩
          rintro u H' ⟨a2, Hs2, rfl, how2, rfl⟩
          by_cases hL : ((xs.take k).erase v).length = 0
          · rw [hL]
            simp only [List.cons_append, List.nil_append]
            repeat (first | refine stepA ?_ | intro _)
            refine callA ?_; refine ⟨_, _, ints_zero a2 a 0 ca, _, cutA, ?_⟩
            rintro u H' ⟨rfl, rfl⟩
            repeat (first | refine stepA ?_ | intro _)
            (first | refine retA ?_ | refine retB ?_)
            exact ⟨_, ⟨rfl, rfl⟩, subT⟩
          · rcases how.inv with ⟨_, hz, _, _, _⟩ | ⟨ga, ys, rfl, rfl, hx1, hc1, _, hm1⟩
            · exact absurd hz hL
            rcases how2.inv with ⟨_, hz, _, _, _⟩ | ⟨ga2, ys2, rfl, rfl, hx2, hc2, _, hm2⟩
            · exact absurd hz hL
            simp only [List.cons_append, List.nil_append]
            repeat (first | refine stepA ?_ | intro _)
            refine callA ?_; refine ⟨_, _, ints_oo ga2 ga _ _ ca _ _ _ _ ((xs.take k).erase v) rfl (by omega) (fun j x hj => own_get hj) (fun j x hj => own_get hj), _, cutA, ?_⟩
            rintro u H' ⟨rfl, rfl⟩
            repeat (first | refine stepA ?_ | intro _)
            (first | refine retA ?_ | refine retB ?_)
            exact ⟨_, ⟨rfl, rfl⟩, subT⟩
  · skip
    repeat (first | refine stepA ?_ | intro _)
    refine callA ?_; refine ⟨_, _, drop_er p1 0 _ hI _ v hq rfl, _, cutA, ?_⟩
    rintro u H' ⟨rfl, hI', q1, rfl⟩
    generalize he : (if v ∈ xs.take i then (0 : Int) else 70) = e
    repeat (first | refine stepA ?_ | intro _)
    refine W_loop (fun x : Nat × Bool × Option Addr × Nat × Hp => [(0, .slice (some ⟨g, o, none⟩) len cap), (1, .int .i64 v), (5, .bool true), (6, .pointer (some ⟨p1, 0, none⟩)), (8, .int .i64 e), (9, .slice x.2.2.1 ((xs.take x.1).erase v).length x.2.2.2.1), (10, .bool x.2.1), (11, .int .i64 (x.1 : Int))])
      (fun x => (g, .oth (.cells C E fr)) :: (qHI p1 hI' 0 ((xs.take i).erase v).length ++ x.2.2.2.2))
      (fun x => x.1 ≤ i ∧ (x.2.1 = true ↔ v ∈ xs.take x.1) ∧ oI x.2.2.1 ((xs.take x.1).erase v).length x.2.2.2.1 ((xs.take x.1).erase v) x.2.2.2.2) (fun x => i - x.1) (0, false, none, 0, [])
      ⟨by simp only; omega, by simp, Own.nil⟩ sublA subA ?_
    rintro ⟨k, b, a, ca, Hs⟩ ⟨hk, hb, how⟩
    simp only [List.cons_append, List.nil_append] at hk hb how ⊢
    have hel : ((xs.take k).erase v).length ≤ 60 := Nat.le_trans List.length_erase_le (by simp; omega)
    by_cases hlt : k < i
    · obtain ⟨x, hxk⟩ : ∃ x, xs[k]? = some x := ⟨xs[k]'(by omega), List.getElem?_eq_getElem (by omega)⟩
      have g0 := nums_get hx hxk
      have htn := take_next' hxk
      by_cases hhit : x = v ∧ b = false
      · obtain ⟨h3, rfl⟩ := hhit
        have hnm : v ∉ xs.take k := fun q => by have := hb.2 q; simp at this
        have hen := erase_here hxk h3 hnm
        rw [← hen] at how ⊢
        repeat (first | refine stepA ?_ | intro _)
        exact ⟨rfl, (k + 1, true, a, ca, Hs), ⟨by simp only; omega, ⟨fun _ => by rw [htn]; simp [h3], fun _ => rfl⟩, how⟩, by simp only; omega, sublA, subT⟩
      · have hne : ¬ (x = v ∧ v ∉ xs.take k) := fun q => hhit ⟨q.1, by
          cases b with
          | false => rfl
          | true => exact absurd (hb.1 rfl) q.2⟩
        have hen := erase_next hxk hne
        have hb' : b = true ↔ v ∈ xs.take (k + 1) := by
          rw [htn, List.mem_append, hb]
          constructor
          · exact .inl
          · rintro (h | h)
            · exact h
            · have hv : x = v := by simp at h; exact h.symm
              exact Classical.byContradiction fun q => hne ⟨hv, q⟩
        by_cases hxv : x = v
        · obtain rfl : b = true := by
            cases b with
            | false => exact absurd ⟨hxv, rfl⟩ hhit
            | true => rfl
          repeat (first | refine stepA ?_ | intro _)
          rename_i gb
          apply L_append
          · exact rfl
          · exact evA
          · exact evA
          · exact how
          · exact tailA
          · exact Lies.cells (k := 1) (news := [elI x]) pullA rfl
          · rfl
          · simp [Value.oneCell']
          · omega
          · simp only [maxLen]; omega
          · omega
          · rfl
          rintro g2 cap' ys h1' h2' h3'
          repeat (first | refine stepA ?_ | intro _)
          have hle : ((xs.take (k + 1)).erase v).length = ((xs.take k).erase v).length + 1 := by rw [hen]; simp
          refine ⟨rfl, (k + 1, _, _, cap', [(g2, .cells (((xs.take k).erase v).map elI ++ [elI x] ++ ys) 3)]), ⟨by simp only; omega, hb', ?_⟩, by simp only; omega, by rw [hle]; exact sublA, subA⟩
          simp only [hle]
          rw [show ((xs.take k).erase v).map elI ++ [elI x] = ((xs.take (k + 1)).erase v).map elI by rw [hen]; simp] at h1' ⊢
          exact Own.blk (by rw [List.length_map, hle]; omega) h1' h2' h3'
        · cases b
          · skip
            repeat (first | refine stepA ?_ | intro _)
            rename_i gb
            apply L_append
            · exact rfl
            · exact evA
            · exact evA
            · exact how
            · exact tailA
            · exact Lies.cells (k := 1) (news := [elI x]) pullA rfl
            · rfl
            · simp [Value.oneCell']
            · omega
            · simp only [maxLen]; omega
            · omega
            · rfl
            rintro g2 cap' ys h1' h2' h3'
            repeat (first | refine stepA ?_ | intro _)
            have hle : ((xs.take (k + 1)).erase v).length = ((xs.take k).erase v).length + 1 := by rw [hen]; simp
            refine ⟨rfl, (k + 1, _, _, cap', [(g2, .cells (((xs.take k).erase v).map elI ++ [elI x] ++ ys) 3)]), ⟨by simp only; omega, hb', ?_⟩, by simp only; omega, by rw [hle]; exact sublA, subA⟩
            simp only [hle]
            rw [show ((xs.take k).erase v).map elI ++ [elI x] = ((xs.take (k + 1)).erase v).map elI by rw [hen]; simp] at h1' ⊢
            exact Own.blk (by rw [List.length_map, hle]; omega) h1' h2' h3'
          · skip
            repeat (first | refine stepA ?_ | intro _)
            rename_i gb
            apply L_append
            · exact rfl
            · exact evA
            · exact evA
            · exact how
            · exact tailA
            · exact Lies.cells (k := 1) (news := [elI x]) pullA rfl
            · rfl
            · simp [Value.oneCell']
            · omega
            · simp only [maxLen]; omega
            · omega
            · rfl
            rintro g2 cap' ys h1' h2' h3'
            repeat (first | refine stepA ?_ | intro _)
            have hle : ((xs.take (k + 1)).erase v).length = ((xs.take k).erase v).length + 1 := by rw [hen]; simp
            refine ⟨rfl, (k + 1, _, _, cap', [(g2, .cells (((xs.take k).erase v).map elI ++ [elI x] ++ ys) 3)]), ⟨by simp only; omega, hb', ?_⟩, by simp only; omega, by rw [hle]; exact sublA, subA⟩
            simp only [hle]
            rw [show ((xs.take k).erase v).map elI ++ [elI x] = ((xs.take (k + 1)).erase v).map elI by rw [hen]; simp] at h1' ⊢
            exact Own.blk (by rw [List.length_map, hle]; omega) h1' h2' h3'
    · obtain rfl : k = i := by omega
      have hfin : e = 0 ∧ b = true ∨ e = 70 ∧ b = false := by
        rw [← he]
        cases b with
        | true => left; rw [if_pos (hb.1 rfl)]; exact ⟨rfl, rfl⟩
        | false => right; rw [if_neg (fun q => by have := hb.2 q; simp at this)]; exact ⟨rfl, rfl⟩
      rcases hfin with ⟨rfl, rfl⟩ | ⟨rfl, rfl⟩
      · skip
        repeat (first | refine stepA ?_ | intro _)
        refine callT ?_; refine ⟨_, _, all_n p1 0 _ hI' _ q1 rfl, _, cutT, ?_⟩
        rintro u H' ⟨a2, Hs2, rfl, how2, rfl⟩
        by_cases hL : ((xs.take k).erase v).length = 0
        · rw [hL]
          simp only [List.cons_append, List.nil_append]
          repeat (first | refine stepA ?_ | intro _)
          refine callA ?_; refine ⟨_, _, ints_zero a2 a 0 ca, _, cutA, ?_⟩
          rintro u H' ⟨rfl, rfl⟩
          repeat (first | refine stepA ?_ | intro _)
          (first | refine retA ?_ | refine retB ?_)
          exact ⟨_, ⟨rfl, rfl⟩, subT⟩
        · rcases how.inv with ⟨_, hz, _, _, _⟩ | ⟨ga, ys, rfl, rfl, hx1, hc1, _, hm1⟩
          · exact absurd hz hL
          rcases how2.inv with ⟨_, hz, _, _, _⟩ | ⟨ga2, ys2, rfl, rfl, hx2, hc2, _, hm2⟩
          · exact absurd hz hL
          simp only [List.cons_append, List.nil_append]
          repeat (first | refine stepA ?_ | intro _)
          refine callA ?_; refine ⟨_, _, ints_oo ga2 ga _ _ ca _ _ _ _ ((xs.take k).erase v) rfl (by omega) (fun j x hj => own_get hj) (fun j x hj => own_get hj), _, cutA, ?_⟩
          rintro u H' ⟨rfl, rfl⟩
          repeat (first | refine stepA ?_ | intro _)
          (first | refine retA ?_ | refine retB ?_)
          exact ⟨_, ⟨rfl, rfl⟩, subT⟩
      · skip
        repeat (first | refine stepA ?_ | intro _)
        refine callT ?_; refine ⟨_, _, all_n p1 0 _ hI' _ q1 rfl, _, cutT, ?_⟩
        rintro u H' ⟨a2, Hs2, rfl, how2, rfl⟩
        by_cases hL : ((xs.take k).erase v).length = 0
        · rw [hL]
          simp only [List.cons_append, List.nil_append]
          repeat (first | refine stepA ?_ | intro _)
          refine callA ?_; refine ⟨_, _, ints_zero a2 a 0 ca, _, cutA, ?_⟩
          rintro u H' ⟨rfl, rfl⟩
          repeat (first | refine stepA ?_ | intro _)
          (first | refine retA ?_ | refine retB ?_)
          exact ⟨_, ⟨rfl, rfl⟩, subT⟩
        · rcases how.inv with ⟨_, hz, _, _, _⟩ | ⟨ga, ys, rfl, rfl, hx1, hc1, _, hm1⟩
          · exact absurd hz hL
          rcases how2.inv with ⟨_, hz, _, _, _⟩ | ⟨ga2, ys2, rfl, rfl, hx2, hc2, _, hm2⟩
          · exact absurd hz hL
          simp only [List.cons_append, List.nil_append]
          repeat (first | refine stepA ?_ | intro _)
          refine callA ?_; refine ⟨_, _, ints_oo ga2 ga _ _ ca _ _ _ _ ((xs.take k).erase v) rfl (by omega) (fun j x hj => own_get hj) (fun j x hj => own_get hj), _, cutA, ?_⟩
          rintro u H' ⟨rfl, rfl⟩
          repeat (first | refine stepA ?_ | intro _)
          (first | refine retA ?_ | refine retB ?_)
          exact ⟨_, ⟨rfl, rfl⟩, subT⟩
end Go.Proofs.Ytkfpohhlibcliaa
