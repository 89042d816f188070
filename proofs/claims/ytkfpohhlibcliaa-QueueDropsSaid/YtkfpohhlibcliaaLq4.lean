/-
  The law QueueOwn: its walk.
-/
import Derived.Test.YtkfpohhlibcliaaQu6
import Derived.Test.YtkfpohhlibcliaaLq3
namespace Go.Proofs.Ytkfpohhlibcliaa
open Go.RowKit
attribute [local irreducible] W L QL PureOp thenQ blockQ retQ Spec IterOk YSpec roundQ scopeQ noGoQ
attribute [local irreducible] AS ASi
set_option maxHeartbeats 6400000
theorem own_set {zs : List Int} {ys : List Value} {i : Nat} {x : Int} (h : i < zs.length) : (zs.map elI ++ ys).set i (.int .i64 x) = (zs.set i x).map elI ++ ys := by
  rw [List.set_append_left _ _ (by simpa using h), ← List.map_set]
theorem all_n (p first n : Nat) (hs xs : List Int) (hq : QR hs first xs) (hn : xs.length = n) :
    Spec Try.prog 20 [.pointer (some ⟨p, 0, none⟩)] (qHI p hs first n) fun u H' => ∃ a Hs, u = .slice a n n ∧ oI a n n xs Hs ∧ H' = qHI p hs first n ++ Hs := by
  subst hn; exact all_spec p first hs xs hq
theorem own_nil (p : Option Addr) (cap : Nat) : Spec Try.prog 5 [.slice p 0 cap] [] fun v H' => v = .bool true ∧ H' = [] := by
  refine Spec_body Try.func5 rfl Try.ntmps5 rfl (fun w0 => ?_)
  repeat (first | refine stepA ?_ | intro _)
  refine callA ?_; refine ⟨_, _, shown_spec, _, cutA, ?_⟩
  rintro v H' ⟨rfl, rfl⟩
  repeat (first | refine stepA ?_ | intro _)
  refine callA ?_; refine ⟨_, _, newI, _, cutA, ?_⟩
  rintro v H' ⟨p1, rfl, rfl⟩
  have q0 : QR (List.replicate 64 zeI) 0 ([] : List Int) := QR.new 0
  repeat (first | refine stepA ?_ | intro _)
  refine W_loop (fun i : Nat => [(0, .slice p 0 cap), (3, .bool true), (4, .pointer (some ⟨p1, 0, none⟩)), (5, .int .i64 0)]) (fun i => qHI p1 (List.replicate 64 zeI) 0 0) (fun _ => True) (fun _ => 0) 0 trivial sublA subA ?_
  intro i _
  repeat (first | refine stepA ?_ | intro _)
  refine callT ?_; refine ⟨_, _, all_spec p1 0 _ [] q0, _, cutT, ?_⟩
  rintro v H' ⟨a, Hs, rfl, how, rfl⟩
  simp only [List.cons_append, List.nil_append]
  repeat (first | refine stepA ?_ | intro _)
  refine W_loop (fun i : Nat => [(0, .slice p 0 cap), (3, .bool true), (4, .pointer (some ⟨p1, 0, none⟩)), (6, .slice a 0 0), (7, .int .i64 0)]) (fun i => qHI p1 (List.replicate 64 zeI) 0 0 ++ Hs) (fun _ => True) (fun _ => 0) 0 trivial sublA subT ?_
  intro i _
  simp only [List.cons_append, List.nil_append]
  repeat (first | refine stepA ?_ | intro _)
  rename_i gb
  apply L_append
  · exact rfl
  · exact evA
  · exact evA
  · exact how
  · exact tailA
  · exact Lies.cells (k := 1) (news := [elI 7]) pullA rfl
  · rfl
  · simp [Value.oneCell']
  · simp
  · simp [maxLen]
  · simp
  · rfl
  rintro g2 cap' ys h1 h2 h3
  repeat (first | refine stepA ?_ | intro _)
  refine W_anyH rfl ?_; repeat refine asA ?_
  refine oneA ?_; refine stepA ?_
  refine callT ?_; refine ⟨_, _, all_spec p1 0 _ [] q0, _, cutT, ?_⟩
  rintro v H' ⟨a2, Hs2, rfl, how2, rfl⟩
  simp only [List.cons_append, List.nil_append]
  refine L_nil ?_; refine ⟨rfl, (by first | exact KeepsH.brk (by decide +kernel) | exact KeepsH.sub subA | exact KeepsH.sub subT), ?_⟩; repeat refine asA ?_
  refine oneA ?_; refine stepA ?_
  refine callA ?_; refine ⟨_, _, ints_zero a2 p 0 cap, _, cutA, ?_⟩
  rintro v H' ⟨rfl, rfl⟩
  refine L_nil ?_; refine ⟨rfl, (by first | exact KeepsH.brk (by decide +kernel) | exact KeepsH.sub subA | exact KeepsH.sub subT), ?_⟩; repeat refine asA ?_
  repeat (first | refine stepA ?_ | intro _)
  (first | refine retA ?_ | refine retB ?_)
  exact ⟨_, ⟨rfl, rfl⟩, subT⟩
theorem own_spec (g o len cap : Nat) (C : Array Value) (E : TypeId) (fr : Nat × Nat) (xs : List Int) (hl : xs.length = len) (hx : NumsAt C o xs) (hlen : len ≤ 9223372036854775807) (hcap : len ≤ cap) :
    Spec Try.prog 5 [.slice (some ⟨g, o, none⟩) len cap] [(g, .oth (.cells C E fr))] fun v H' => v = .bool true ∧ H' = [(g, .oth (.cells C E fr))] := by
  refine Spec_body Try.func5 rfl Try.ntmps5 rfl (fun w0 => ?_)
  repeat (first | refine stepA ?_ | intro _)
  refine callA ?_; refine ⟨_, _, shown_spec, _, cutA, ?_⟩
  rintro v H' ⟨rfl, rfl⟩
  repeat (first | refine stepA ?_ | intro _)
  refine callA ?_; refine ⟨_, _, newI, _, cutA, ?_⟩
  rintro v H' ⟨p1, rfl, rfl⟩
  have q0 : QR (List.replicate 64 zeI) 0 (xs.take 0) := QR.new 0
  repeat (first | refine stepA ?_ | intro _)
  refine W_loop (fun x : Nat × List Int => [(0, .slice (some ⟨g, o, none⟩) len cap), (3, .bool true), (4, .pointer (some ⟨p1, 0, none⟩)), (5, .int .i64 (x.1 : Int))])
    (fun x => (g, .oth (.cells C E fr)) :: qHI p1 x.2 0 (xs.take x.1).length)
    (fun x => x.1 ≤ 60 ∧ x.1 ≤ len ∧ QR x.2 0 (xs.take x.1)) (fun x => 60 - x.1) (0, List.replicate 64 zeI)
    ⟨by simp only; omega, by simp only; omega, q0⟩ sublA subA ?_
  rintro ⟨i, hI⟩ ⟨hi, hil, hq⟩
  simp only at hi hil hq ⊢
  have hpl : (xs.take i).length = i := by simp; omega
  by_cases h1 : i < len
  · by_cases h2 : i < 60
    · obtain ⟨x, hxi⟩ : ∃ x, xs[i]? = some x := ⟨xs[i]'(by omega), by simp [hl, h1]⟩
      have g0 := nums_get hx hxi
      repeat (first | refine stepA ?_ | intro _)
      refine callA ?_; refine ⟨_, _, pushI_xs p1 0 hI _ x hq (by rw [hpl]; omega), _, cutA, ?_⟩
      rintro u H' ⟨rfl, hI', hq', rfl⟩
      rw [← take_next' hxi] at hq' ⊢
      repeat (first | refine stepA ?_ | intro _)
      exact ⟨rfl, (i + 1, hI'), ⟨by simp only; omega, by simp only; omega, hq'⟩, by simp only; omega, sublA, subA⟩
    · have hmin : (i : Int) = min (len : Int) 60 := by omega
      have hms : (min (len : Int) 60).toNat = i := by omega
      have hxs : ∀ (j : Nat) (x : Int), (xs.take i)[j]? = some x → C.toList[o + j * 1]? = some (.int .i64 x) := fun j x hj => by
        rw [List.getElem?_take] at hj
        split at hj
        · exact nums_get hx hj
        · cases hj
      repeat (first | refine stepA ?_ | intro _)
      rw [hpl]
      refine callT ?_; refine ⟨_, _, all_n p1 0 i hI _ hq hpl, _, cutT, ?_⟩
      rintro v H' ⟨a, Hs, rfl, how, rfl⟩
      simp only [List.cons_append, List.nil_append]
      rcases how.inv with ⟨rfl, hz, _, _, rfl⟩ | ⟨ga, ys, rfl, rfl, hx1, hc1, _, hm1⟩
      · exact absurd hz (by omega)
      · skip
        repeat (first | refine stepA ?_ | intro _)
        refine W_loop (fun x : Nat × List Int => [(0, .slice (some ⟨g, o, none⟩) len cap), (3, .bool true), (4, .pointer (some ⟨p1, 0, none⟩)), (6, .slice (some ⟨ga, 0, none⟩) i i), (7, .int .i64 (x.1 : Int))]) (fun x => (ga, .cells (x.2.map elI ++ ys) 3) :: (g, .oth (.cells C E fr)) :: qHI p1 hI 0 i)
          (fun x => x.1 ≤ i ∧ x.2.length = i) (fun x => i - x.1) (0, xs.take i) ⟨by simp only; omega, hpl⟩ sublA subA ?_
        rintro ⟨j, zs⟩ ⟨hj, hzl⟩
        simp only [List.cons_append, List.nil_append] at hj hzl ⊢
        by_cases hlt : j < i
        · obtain ⟨z, hz⟩ : ∃ z, zs[j]? = some z := ⟨zs[j]'(by omega), by simp [hzl, hlt]⟩
          have e1 := own_get (ys := ys) hz
          repeat (first | refine stepA ?_ | intro _)
          (first | (apply L_P; (· exact rfl); (· exact rfl)) | (apply QL_P; (· exact rfl))); (· (apply P_addw; (· exact evA); (· exact evA)))
          generalize IntKind.i64.wrap _ = z2
          repeat (first | refine stepA ?_ | intro _)
          apply L_store1; (· exact evA); (· exact rfl); (· exact rfl); (· exact rfl); (· exact repA); (· exact own_set (by omega)); (· simp; omega)
          repeat (first | refine stepA ?_ | intro _)
          exact ⟨rfl, (j + 1, zs.set j z2), ⟨by simp only; omega, by simp [hzl]⟩, by simp only; omega, sublA, subA⟩
        · obtain rfl : j = i := by omega
          repeat (first | refine stepA ?_ | intro _)
          rename_i gb
          apply L_append
          · exact rfl
          · exact evA
          · exact evA
          · exact (Own.blk (xs := zs.map elI) (ys := ys) (by simp [hzl]) (by simp at hc1 ⊢; omega) (Nat.le_refl _) hm1 : Own 3 1 _ j j _ _)
          · exact Cut.perm cutA
          · exact Lies.cells (k := 1) (news := [elI 7]) pullA rfl
          · rfl
          · simp [Value.oneCell']
          · omega
          · simp only [maxLen]; omega
          · omega
          · rfl
          rintro g2 cap' ys2 h1' h2' h3'
          repeat (first | refine stepA ?_ | intro _)
          refine W_anyH rfl ?_; repeat refine asA ?_
          refine oneA ?_; refine stepA ?_
          refine callT ?_; refine ⟨_, _, all_n p1 0 _ hI _ hq hpl, _, cutT, ?_⟩
          rintro v H' ⟨a2, Hs2, rfl, how2, rfl⟩
          rcases how2.inv with ⟨rfl, hz0, _, _, rfl⟩ | ⟨ga2, ys3, rfl, rfl, hx2, hc2, _, hm2⟩
          · simp only [List.cons_append, List.nil_append]
            refine L_nil ?_; refine ⟨rfl, (by first | exact KeepsH.brk (by decide +kernel) | exact KeepsH.sub subA | exact KeepsH.sub subT), ?_⟩; repeat refine asA ?_
            rw [hms]
            try subst hz0
            refine oneA ?_; refine stepA ?_
            refine callA ?_; refine ⟨_, _, ints_zero none (some ⟨g, o, none⟩) 0 cap, _, cutA, ?_⟩
            rintro v H' ⟨rfl, rfl⟩
            refine L_nil ?_; refine ⟨rfl, (by first | exact KeepsH.brk (by decide +kernel) | exact KeepsH.sub subA | exact KeepsH.sub subT), ?_⟩; repeat refine asA ?_
            repeat (first | refine stepA ?_ | intro _)
            (first | refine retA ?_ | refine retB ?_)
            exact ⟨_, ⟨rfl, rfl⟩, subT⟩
          · simp only [List.cons_append, List.nil_append]
            refine L_nil ?_; refine ⟨rfl, (by first | exact KeepsH.brk (by decide +kernel) | exact KeepsH.sub subA | exact KeepsH.sub subT), ?_⟩; repeat refine asA ?_
            rw [hms]
            refine oneA ?_; refine stepA ?_
            refine callA ?_; refine ⟨_, _, ints_ot ga2 g _ _ cap o _ C _ E fr (xs.take _) hpl (by omega) (fun j x hj => own_get hj) hxs, _, cutA, ?_⟩
            rintro v H' ⟨rfl, rfl⟩
            refine L_nil ?_; refine ⟨rfl, (by first | exact KeepsH.brk (by decide +kernel) | exact KeepsH.sub subA | exact KeepsH.sub subT), ?_⟩; repeat refine asA ?_
            repeat (first | refine stepA ?_ | intro _)
            (first | refine retA ?_ | refine retB ?_)
            exact ⟨_, ⟨rfl, rfl⟩, subT⟩
  · have hmin : (i : Int) = min (len : Int) 60 := by omega
    have hms : (min (len : Int) 60).toNat = i := by omega
    have hxs : ∀ (j : Nat) (x : Int), (xs.take i)[j]? = some x → C.toList[o + j * 1]? = some (.int .i64 x) := fun j x hj => by
      rw [List.getElem?_take] at hj
      split at hj
      · exact nums_get hx hj
      · cases hj
    repeat (first | refine stepA ?_ | intro _)
    rw [hpl]
    refine callT ?_; refine ⟨_, _, all_n p1 0 i hI _ hq hpl, _, cutT, ?_⟩
    rintro v H' ⟨a, Hs, rfl, how, rfl⟩
    simp only [List.cons_append, List.nil_append]
    rcases how.inv with ⟨rfl, hz, _, _, rfl⟩ | ⟨ga, ys, rfl, rfl, hx1, hc1, _, hm1⟩
    · subst hz
      repeat (first | refine stepA ?_ | intro _)
      refine W_loop (fun _ : Nat => [(0, .slice (some ⟨g, o, none⟩) len cap), (3, .bool true), (4, .pointer (some ⟨p1, 0, none⟩)), (6, .slice none 0 0), (7, .int .i64 0)]) (fun _ => (g, .oth (.cells C E fr)) :: qHI p1 hI 0 0) (fun _ => True) (fun _ => 0) 0 trivial sublA subA ?_
      intro _ _
      try simp only [List.cons_append, List.nil_append]
      repeat (first | refine stepA ?_ | intro _)
      rename_i gb
      apply L_append
      · exact rfl
      · exact evA
      · exact evA
      · exact (Own.nil : Own 3 1 none 0 0 [] [])
      · exact Cut.perm cutA
      · exact Lies.cells (k := 1) (news := [elI 7]) pullA rfl
      · rfl
      · simp [Value.oneCell']
      · omega
      · simp only [maxLen]; omega
      · omega
      · rfl
      rintro g2 cap' ys2 h1' h2' h3'
      repeat (first | refine stepA ?_ | intro _)
      refine W_anyH rfl ?_; repeat refine asA ?_
      refine oneA ?_; refine stepA ?_
      refine callT ?_; refine ⟨_, _, all_n p1 0 _ hI _ hq hpl, _, cutT, ?_⟩
      rintro v H' ⟨a2, Hs2, rfl, how2, rfl⟩
      rcases how2.inv with ⟨rfl, hz0, _, _, rfl⟩ | ⟨ga2, ys3, rfl, rfl, hx2, hc2, _, hm2⟩
      · simp only [List.cons_append, List.nil_append]
        refine L_nil ?_; refine ⟨rfl, (by first | exact KeepsH.brk (by decide +kernel) | exact KeepsH.sub subA | exact KeepsH.sub subT), ?_⟩; repeat refine asA ?_
        rw [hms]
        try subst hz0
        refine oneA ?_; refine stepA ?_
        refine callA ?_; refine ⟨_, _, ints_zero none (some ⟨g, o, none⟩) 0 cap, _, cutA, ?_⟩
        rintro v H' ⟨rfl, rfl⟩
        refine L_nil ?_; refine ⟨rfl, (by first | exact KeepsH.brk (by decide +kernel) | exact KeepsH.sub subA | exact KeepsH.sub subT), ?_⟩; repeat refine asA ?_
        repeat (first | refine stepA ?_ | intro _)
        (first | refine retA ?_ | refine retB ?_)
        exact ⟨_, ⟨rfl, rfl⟩, subT⟩
      · simp only [List.cons_append, List.nil_append]
        refine L_nil ?_; refine ⟨rfl, (by first | exact KeepsH.brk (by decide +kernel) | exact KeepsH.sub subA | exact KeepsH.sub subT), ?_⟩; repeat refine asA ?_
        rw [hms]
        refine oneA ?_; refine stepA ?_
        refine callA ?_; refine ⟨_, _, ints_ot ga2 g _ _ cap o _ C _ E fr (xs.take _) hpl (by omega) (fun j x hj => own_get hj) hxs, _, cutA, ?_⟩
        rintro v H' ⟨rfl, rfl⟩
        refine L_nil ?_; refine ⟨rfl, (by first | exact KeepsH.brk (by decide +kernel) | exact KeepsH.sub subA | exact KeepsH.sub subT), ?_⟩; repeat refine asA ?_
        repeat (first | refine stepA ?_ | intro _)
        (first | refine retA ?_ | refine retB ?_)
        exact ⟨_, ⟨rfl, rfl⟩, subT⟩
    · skip
      repeat (first | refine stepA ?_ | intro _)
      refine W_loop (fun x : Nat × List Int => [(0, .slice (some ⟨g, o, none⟩) len cap), (3, .bool true), (4, .pointer (some ⟨p1, 0, none⟩)), (6, .slice (some ⟨ga, 0, none⟩) i i), (7, .int .i64 (x.1 : Int))]) (fun x => (ga, .cells (x.2.map elI ++ ys) 3) :: (g, .oth (.cells C E fr)) :: qHI p1 hI 0 i)
        (fun x => x.1 ≤ i ∧ x.2.length = i) (fun x => i - x.1) (0, xs.take i) ⟨by simp only; omega, hpl⟩ sublA subA ?_
      rintro ⟨j, zs⟩ ⟨hj, hzl⟩
      simp only [List.cons_append, List.nil_append] at hj hzl ⊢
      by_cases hlt : j < i
      · obtain ⟨z, hz⟩ : ∃ z, zs[j]? = some z := ⟨zs[j]'(by omega), by simp [hzl, hlt]⟩
        have e1 := own_get (ys := ys) hz
        repeat (first | refine stepA ?_ | intro _)
        (first | (apply L_P; (· exact rfl); (· exact rfl)) | (apply QL_P; (· exact rfl))); (· (apply P_addw; (· exact evA); (· exact evA)))
        generalize IntKind.i64.wrap _ = z2
        repeat (first | refine stepA ?_ | intro _)
        apply L_store1; (· exact evA); (· exact rfl); (· exact rfl); (· exact rfl); (· exact repA); (· exact own_set (by omega)); (· simp; omega)
        repeat (first | refine stepA ?_ | intro _)
        exact ⟨rfl, (j + 1, zs.set j z2), ⟨by simp only; omega, by simp [hzl]⟩, by simp only; omega, sublA, subA⟩
      · obtain rfl : j = i := by omega
        repeat (first | refine stepA ?_ | intro _)
        rename_i gb
        apply L_append
        · exact rfl
        · exact evA
        · exact evA
        · exact (Own.blk (xs := zs.map elI) (ys := ys) (by simp [hzl]) (by simp at hc1 ⊢; omega) (Nat.le_refl _) hm1 : Own 3 1 _ j j _ _)
        · exact Cut.perm cutA
        · exact Lies.cells (k := 1) (news := [elI 7]) pullA rfl
        · rfl
        · simp [Value.oneCell']
        · omega
        · simp only [maxLen]; omega
        · omega
        · rfl
        rintro g2 cap' ys2 h1' h2' h3'
        repeat (first | refine stepA ?_ | intro _)
        refine W_anyH rfl ?_; repeat refine asA ?_
        refine oneA ?_; refine stepA ?_
        refine callT ?_; refine ⟨_, _, all_n p1 0 _ hI _ hq hpl, _, cutT, ?_⟩
        rintro v H' ⟨a2, Hs2, rfl, how2, rfl⟩
        rcases how2.inv with ⟨rfl, hz0, _, _, rfl⟩ | ⟨ga2, ys3, rfl, rfl, hx2, hc2, _, hm2⟩
        · simp only [List.cons_append, List.nil_append]
          refine L_nil ?_; refine ⟨rfl, (by first | exact KeepsH.brk (by decide +kernel) | exact KeepsH.sub subA | exact KeepsH.sub subT), ?_⟩; repeat refine asA ?_
          rw [hms]
          try subst hz0
          refine oneA ?_; refine stepA ?_
          refine callA ?_; refine ⟨_, _, ints_zero none (some ⟨g, o, none⟩) 0 cap, _, cutA, ?_⟩
          rintro v H' ⟨rfl, rfl⟩
          refine L_nil ?_; refine ⟨rfl, (by first | exact KeepsH.brk (by decide +kernel) | exact KeepsH.sub subA | exact KeepsH.sub subT), ?_⟩; repeat refine asA ?_
          repeat (first | refine stepA ?_ | intro _)
          (first | refine retA ?_ | refine retB ?_)
          exact ⟨_, ⟨rfl, rfl⟩, subT⟩
        · simp only [List.cons_append, List.nil_append]
          refine L_nil ?_; refine ⟨rfl, (by first | exact KeepsH.brk (by decide +kernel) | exact KeepsH.sub subA | exact KeepsH.sub subT), ?_⟩; repeat refine asA ?_
          rw [hms]
          refine oneA ?_; refine stepA ?_
          refine callA ?_; refine ⟨_, _, ints_ot ga2 g _ _ cap o _ C _ E fr (xs.take _) hpl (by omega) (fun j x hj => own_get hj) hxs, _, cutA, ?_⟩
          rintro v H' ⟨rfl, rfl⟩
          refine L_nil ?_; refine ⟨rfl, (by first | exact KeepsH.brk (by decide +kernel) | exact KeepsH.sub subA | exact KeepsH.sub subT), ?_⟩; repeat refine asA ?_
          repeat (first | refine stepA ?_ | intro _)
          (first | refine retA ?_ | refine retB ?_)
          exact ⟨_, ⟨rfl, rfl⟩, subT⟩
end Go.Proofs.Ytkfpohhlibcliaa
