/-
  Drop, as taking out the first equal thing; All, at a length that is known.
-/
import Derived.Test.YtkfpohhlibcliaaQu6
import Derived.Test.YtkfpohhlibcliaaRq1
namespace Go.Proofs.Ytkfpohhlibcliaa
open Go.RowKit
attribute [local irreducible] W L QL PureOp thenQ blockQ retQ Spec IterOk YSpec roundQ scopeQ noGoQ
attribute [local irreducible] AS ASi
set_option maxHeartbeats 6400000
/-- beside other blocks, which are given away -/
theorem Spec.frameL {P : Program} {f : FuncId} {args : List Value} {H : Hp} {R R' : Value → Hp → Prop} (h : Spec P f args [] R) (hr : ∀ v H', R v H' → R' v H') : Spec P f args H R' := by
  unfold Spec at h ⊢
  intro w hw
  refine (h w ⟨List.nodup_nil, fun _ _ h => by cases h⟩).mono ?_
  rintro e w' ⟨v, H', rfl, h1, h2, h3, h4⟩
  exact ⟨v, H', rfl, hr _ _ h1, h2, ⟨h3.os, h3.tape, h3.output, h3.size, fun k hk hn => h3.block k hk (by simp [keys])⟩, fun b hb => (h4 b hb).elim (fun q => by simp [keys] at q) .inr⟩
/-- some of the blocks behind it are given away -/
theorem Spec.dropL {P : Program} {f : FuncId} {args : List Value} {H : Hp} {R R' : Value → Hp → Prop} (h : Spec P f args H R) (hr : ∀ v H', R v H' → ∃ x H2, H' = x :: H2 ∧ R' v H2) : Spec P f args H R' := by
  unfold Spec at h ⊢
  intro w hw
  refine (h w hw).mono ?_
  rintro e w' ⟨v, H', rfl, h1, h2, h3, h4⟩
  obtain ⟨x, H2, rfl, h5⟩ := hr _ _ h1
  exact ⟨v, H2, rfl, h5, h2.drop1, h3, fun b hb => h4 b (by simp only [keys, List.map_cons, List.mem_cons]; exact .inr hb)⟩
theorem place_erase {v : Int} : ∀ {xs : List Int}, (placeOfI v xs = -1 → v ∉ xs) ∧ ∀ k : Nat, placeOfI v xs = (k : Int) → v ∈ xs ∧ xs.eraseIdx k = xs.erase v
  | [] => ⟨fun _ => by simp, fun k h => by simp [placeOfI] at h⟩
  | x :: xs => by
    have ih := place_erase (v := v) (xs := xs)
    by_cases he : x = v
    · subst he
      refine ⟨fun h => by simp [placeOfI] at h, fun k h => ?_⟩
      simp [placeOfI] at h
      obtain rfl : k = 0 := by omega
      simp
    · have hc := placeOfI_cases v xs
      simp only [placeOfI, he, if_false]
      by_cases hn : placeOfI v xs < 0
      · simp only [hn, if_true]
        have h1 : placeOfI v xs = -1 := by rcases hc with h | ⟨k, h, _⟩ <;> omega
        refine ⟨fun _ => ?_, fun k h => by omega⟩
        have := ih.1 h1
        simp [this, Ne.symm he]
      · simp only [hn, if_false]
        refine ⟨fun h => by omega, fun k h => ?_⟩
        obtain ⟨j, rfl⟩ : ∃ j, k = j + 1 := ⟨k - 1, by omega⟩
        obtain ⟨h1, h2⟩ := ih.2 j (by omega)
        refine ⟨by simp [h1], ?_⟩
        rw [List.eraseIdx_cons_succ, h2, List.erase_cons_tail (by simpa using he)]
/-- one more thing: with it -/
theorem erase_next {xs : List Int} {i : Nat} {x v : Int} (h : xs[i]? = some x) (hne : ¬ (x = v ∧ v ∉ xs.take i)) : (xs.take (i + 1)).erase v = (xs.take i).erase v ++ [x] := by
  rw [take_next' h]
  by_cases hm : v ∈ xs.take i
  · rw [List.erase_append_left _ hm]
  · have hx : ¬ x = v := fun e => hne ⟨e, hm⟩
    rw [List.erase_append_right _ hm, List.erase_of_not_mem hm, List.erase_of_not_mem (by simpa using Ne.symm hx)]
theorem erase_here {xs : List Int} {i : Nat} {x v : Int} (h : xs[i]? = some x) (he : x = v) (hm : v ∉ xs.take i) : (xs.take (i + 1)).erase v = (xs.take i).erase v := by
  subst he
  rw [take_next' h, List.erase_append_right _ hm, List.erase_of_not_mem hm]
  simp
theorem drop_er (p first n : Nat) (hs xs : List Int) (v : Int) (hq : QR hs first xs) (hn : xs.length = n) :
    Spec Try.prog 16 [.pointer (some ⟨p, 0, none⟩), .int .i64 v] (qHI p hs first n) fun u H' => u = .int .i64 (if v ∈ xs then 0 else 70) ∧ ∃ hs', QR hs' first (xs.erase v) ∧ H' = qHI p hs' first (xs.erase v).length := by
  subst hn
  rcases placeOfI_cases v xs with hk | ⟨k, hk, hkl⟩
  · have hv := place_erase.1 hk
    refine (dropI_no p first hs xs v hq hk).mono fun u H' ⟨h1, h2⟩ => ⟨by rw [if_neg hv]; exact h1, hs, by rw [List.erase_of_not_mem hv]; exact hq, by rw [List.erase_of_not_mem hv]; exact h2⟩
  · obtain ⟨hv, he⟩ := place_erase.2 k hk
    refine (dropI p first k hs xs v hq hk hkl).mono fun u H' ⟨h1, hs', h2, h3⟩ => ⟨by rw [if_pos hv]; exact h1, hs', by rw [← he]; exact h2, by rw [← he]; exact h3⟩
theorem all_n (p first n : Nat) (hs xs : List Int) (hq : QR hs first xs) (hn : xs.length = n) :
    Spec Try.prog 20 [.pointer (some ⟨p, 0, none⟩)] (qHI p hs first n) fun u H' => ∃ a Hs, u = .slice a n n ∧ oI a n n xs Hs ∧ H' = qHI p hs first n ++ Hs := by
  subst hn; exact all_spec p first hs xs hq
/-! ### the document's answer, on a list of its own -/
theorem rpush_own (a : Option Addr) (n cap : Nat) (xs : List Int) (v : Int) (Hs : Hp) (how : oI a n cap xs Hs) (hn : n < 64) :
    Spec Try.prog 22 [.slice a n cap, .int .i64 v] Hs fun u H' => ∃ b c, u = .tuple #[.slice b (n + 1) c, .int .i64 0] ∧ oI b (n + 1) c (xs ++ [v]) H' := by
  have hl := how.len
  simp at hl
  by_cases h0 : n = 0
  · subst h0
    obtain rfl : xs = [] := by simpa using hl
    exact Spec.frameL (rpush_zero a cap v) fun u H' ⟨b, c, Hs', h1, h2, h3⟩ => ⟨b, c, h1, by rw [h3]; exact h2⟩
  · rcases how.inv with ⟨_, hz, _, _, _⟩ | ⟨g, ys, rfl, rfl, hx, hc, hnc, hm⟩
    · exact absurd hz h0
    · exact Spec.dropL (rpush_spec g n cap xs ys v hl (by omega) hn) fun u H' ⟨b, c, Hs', h1, h2, h3⟩ => ⟨_, Hs', h3, b, c, h1, h2⟩
theorem rpop_own (a : Option Addr) (n cap : Nat) (x : Int) (xs : List Int) (Hs : Hp) (how : oI a n cap (x :: xs) Hs) (hn : n ≤ 64) :
    Spec Try.prog 23 [.slice a n cap] Hs fun u H' => ∃ b c, u = .tuple #[.slice b xs.length c, .int .i64 x, .int .i64 0] ∧ oI b xs.length c xs H' := by
  have hl := how.len
  simp at hl
  rcases how.inv with ⟨_, hz, _, _, _⟩ | ⟨g, ys, rfl, rfl, hx, hc, hnc, hm⟩
  · omega
  · exact Spec.dropL (rpop_spec g n cap x xs ys hl hn hnc) fun u H' ⟨b, c, Hs', h1, h2, h3⟩ => ⟨_, Hs', h3, b, c, h1, h2⟩
theorem rdrop_zero (a : Option Addr) (cap : Nat) (v : Int) : Spec Try.prog 24 [.slice a 0 cap, .int .i64 v] [] fun u H' => u = .tuple #[.slice a 0 cap, .int .i64 70] ∧ H' = [] := by
  refine Spec_body Try.func24 rfl Try.ntmps24 rfl (fun w0 => ?_)
  repeat (first | refine stepA ?_ | intro _)
  refine W_loop (fun _ : Nat => [(0, .slice a 0 cap), (1, .int .i64 v), (6, .slice none 0 0), (7, .bool false), (8, .int .i64 0)]) (fun _ => []) (fun _ => True) (fun _ => 0) 0 trivial sublA subA ?_
  intro _ _
  repeat (first | refine stepA ?_ | intro _)
  (first | refine retA ?_ | refine retB ?_); exact ⟨_, ⟨rfl, rfl⟩, subA⟩
theorem rdrop_spec (g n cap : Nat) (xs : List Int) (ys : List Value) (v : Int) (hx : xs.length = n) (h : n ≤ 64) :
    Spec Try.prog 24 [.slice (some ⟨g, 0, none⟩) n cap, .int .i64 v] [(g, .cells (xs.map elI ++ ys) 3)] fun u H' => (v ∉ xs ∧ u = .tuple #[.slice (some ⟨g, 0, none⟩) n cap, .int .i64 70] ∧ H' = [(g, .cells (xs.map elI ++ ys) 3)]) ∨ (v ∈ xs ∧ ∃ b c Hs, u = .tuple #[.slice b (xs.erase v).length c, .int .i64 0] ∧ oI b (xs.erase v).length c (xs.erase v) Hs ∧ H' = (g, .cells (xs.map elI ++ ys) 3) :: Hs) := by
  refine Spec_body Try.func24 rfl Try.ntmps24 rfl (fun w0 => ?_)
  repeat (first | refine stepA ?_ | intro _)
  refine W_loop (fun x : Nat × Bool × Option Addr × Nat × Hp => [(0, .slice (some ⟨g, 0, none⟩) n cap), (1, .int .i64 v), (6, .slice x.2.2.1 ((xs.take x.1).erase v).length x.2.2.2.1), (7, .bool x.2.1), (8, .int .i64 (x.1 : Int))])
    (fun x => (g, .cells (xs.map elI ++ ys) 3) :: x.2.2.2.2)
    (fun x => x.1 ≤ n ∧ (x.2.1 = true ↔ v ∈ xs.take x.1) ∧ oI x.2.2.1 ((xs.take x.1).erase v).length x.2.2.2.1 ((xs.take x.1).erase v) x.2.2.2.2) (fun x => n - x.1) (0, false, none, 0, [])
    ⟨by simp only; omega, by simp, Own.nil⟩ sublA subA ?_
  rintro ⟨k, b, a, ca, Hs⟩ ⟨hk, hb, how⟩
  simp only [List.cons_append, List.nil_append] at hk hb how ⊢
  have hel : ((xs.take k).erase v).length ≤ 64 := Nat.le_trans List.length_erase_le (by simp; omega)
  by_cases hlt : k < n
  · obtain ⟨x, hxk⟩ : ∃ x, xs[k]? = some x := ⟨xs[k]'(by omega), List.getElem?_eq_getElem (by omega)⟩
    have g0 := own_get (ys := ys) hxk
    have htn := take_next' hxk
    by_cases hhit : x = v ∧ b = false
    · obtain ⟨h3, rfl⟩ := hhit
      have hnm : v ∉ xs.take k := fun q => by have := hb.2 q; simp at this
      have hen := erase_here hxk h3 hnm
      rw [← hen] at how ⊢
      repeat (first | refine stepA ?_ | intro _)
      exact ⟨rfl, (k + 1, true, a, ca, Hs), ⟨by simp only; omega, ⟨fun _ => by rw [htn]; simp [h3], fun _ => rfl⟩, how⟩, by simp only; omega, sublA, subT⟩
    · have hne : ¬ (x = v ∧ v ∉ xs.take k) := fun q => hhit ⟨q.1, by
        cases b with
        | false => rfl
        | true => exact absurd (hb.1 rfl) q.2⟩
      have hen := erase_next hxk hne
      have hb' : b = true ↔ v ∈ xs.take (k + 1) := by
        rw [htn, List.mem_append, hb]
        constructor
        · exact .inl
        · rintro (h | h)
          · exact h
          · have hv : x = v := by simp at h; exact h.symm
            exact Classical.byContradiction fun q => hne ⟨hv, q⟩
      cases b
      · have hxv : ¬ x = v := fun q => hhit ⟨q, rfl⟩
        repeat (first | refine stepA ?_ | intro _)
        rename_i gb
        apply L_append
        · exact rfl
        · exact evA
        · exact evA
        · exact how
        · exact tailA
        · exact Lies.cells (k := 1) (news := [elI x]) pullA rfl
        · rfl
        · simp [Value.oneCell']
        · omega
        · simp only [maxLen]; omega
        · omega
        · rfl
        rintro g2 cap' ys2 h1' h2' h3'
        repeat (first | refine stepA ?_ | intro _)
        have hle : ((xs.take (k + 1)).erase v).length = ((xs.take k).erase v).length + 1 := by rw [hen]; simp
        refine ⟨rfl, (k + 1, _, _, cap', [(g2, .cells (((xs.take k).erase v).map elI ++ [elI x] ++ ys2) 3)]), ⟨by simp only; omega, hb', ?_⟩, by simp only; omega, by rw [hle]; exact sublA, subA⟩
        simp only [hle]
        rw [show ((xs.take k).erase v).map elI ++ [elI x] = ((xs.take (k + 1)).erase v).map elI by rw [hen]; simp] at h1' ⊢
        exact Own.blk (by rw [List.length_map, hle]; omega) h1' h2' h3'
      · skip
        repeat (first | refine stepA ?_ | intro _)
        rename_i gb
        apply L_append
        · exact rfl
        · exact evA
        · exact evA
        · exact how
        · exact tailA
        · exact Lies.cells (k := 1) (news := [elI x]) pullA rfl
        · rfl
        · simp [Value.oneCell']
        · omega
        · simp only [maxLen]; omega
        · omega
        · rfl
        rintro g2 cap' ys2 h1' h2' h3'
        repeat (first | refine stepA ?_ | intro _)
        have hle : ((xs.take (k + 1)).erase v).length = ((xs.take k).erase v).length + 1 := by rw [hen]; simp
        refine ⟨rfl, (k + 1, _, _, cap', [(g2, .cells (((xs.take k).erase v).map elI ++ [elI x] ++ ys2) 3)]), ⟨by simp only; omega, hb', ?_⟩, by simp only; omega, by rw [hle]; exact sublA, subA⟩
        simp only [hle]
        rw [show ((xs.take k).erase v).map elI ++ [elI x] = ((xs.take (k + 1)).erase v).map elI by rw [hen]; simp] at h1' ⊢
        exact Own.blk (by rw [List.length_map, hle]; omega) h1' h2' h3'
  · obtain rfl : k = n := by omega
    rw [List.take_of_length_le (by omega)] at hb how ⊢
    cases b
    · have hnm : v ∉ xs := fun q => by have := hb.2 q; simp at this
      repeat (first | refine stepA ?_ | intro _)
      (first | refine retA ?_ | refine retB ?_)
      exact ⟨_, .inl ⟨hnm, rfl, rfl⟩, subT⟩
    · have hnm : v ∈ xs := hb.1 rfl
      repeat (first | refine stepA ?_ | intro _)
      (first | refine retA ?_ | refine retB ?_)
      exact ⟨_, .inr ⟨hnm, _, _, _, rfl, how, rfl⟩, subT⟩
theorem rdrop_no (a : Option Addr) (n cap : Nat) (xs : List Int) (v : Int) (Hs : Hp) (how : oI a n cap xs Hs) (hn : n ≤ 64) (hv : v ∉ xs) :
    Spec Try.prog 24 [.slice a n cap, .int .i64 v] Hs fun u H' => u = .tuple #[.slice a n cap, .int .i64 70] ∧ H' = Hs := by
  have hl := how.len
  simp at hl
  rcases how.inv with ⟨rfl, rfl, rfl, _, rfl⟩ | ⟨g, ys, rfl, rfl, hx, hc, hnc, hm⟩
  · exact rdrop_zero none 0 v
  · exact (rdrop_spec g n cap xs ys v hl hn).mono fun u H' h => h.elim (fun h => h.2) (fun h => absurd h.1 hv)
theorem rdrop_yes (a : Option Addr) (n cap : Nat) (xs : List Int) (v : Int) (Hs : Hp) (how : oI a n cap xs Hs) (hn : n ≤ 64) (hv : v ∈ xs) :
    Spec Try.prog 24 [.slice a n cap, .int .i64 v] Hs fun u H' => ∃ b c, u = .tuple #[.slice b (xs.erase v).length c, .int .i64 0] ∧ oI b (xs.erase v).length c (xs.erase v) H' := by
  have hl := how.len
  simp at hl
  rcases how.inv with ⟨_, hz, _, _, _⟩ | ⟨g, ys, rfl, rfl, hx, hc, hnc, hm⟩
  · rw [hz] at hl
    rw [List.eq_nil_of_length_eq_zero hl] at hv
    simp at hv
  · exact Spec.dropL (rdrop_spec g n cap xs ys v hl hn) fun u H' h => h.elim (fun h => absurd hv h.1) (fun ⟨_, b, c, Hs', h1, h2, h3⟩ => ⟨_, Hs', h3, b, c, h1, h2⟩)
end Go.Proofs.Ytkfpohhlibcliaa
