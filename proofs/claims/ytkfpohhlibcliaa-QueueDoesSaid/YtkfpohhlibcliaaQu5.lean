/-
  Queues of numbers: All; nil queues.
-/
import Derived.Test.YtkfpohhlibcliaaQu4I
import Derived.Test.YtkfpohhlibcliaaE12
namespace Go.Proofs.Ytkfpohhlibcliaa
open Go.RowKit
attribute [local irreducible] W L QL PureOp thenQ blockQ retQ Spec IterOk YSpec roundQ scopeQ noGoQ
attribute [local irreducible] AS ASi
set_option maxHeartbeats 1600000
theorem all_nil : Spec Try.prog 20 [.pointer none] [] fun u H' => u = .slice none 0 0 ∧ H' = [] := by
  refine Spec_body Try.func20 rfl Try.ntmps20 rfl (fun w0 => ?_)
  repeat (first | refine stepA ?_ | intro _)
  (first | refine retA ?_ | refine retB ?_); exact ⟨_, ⟨rfl, rfl⟩, subA⟩
abbrev oI (p : Option Addr) (n cap : Nat) (xs : List Int) (Hs : Hp) : Prop := Own 3 1 p n cap (xs.map elI) Hs
theorem take_next' {α : Type} {M : List α} {k : Nat} {f : α} (hk : M[k]? = some f) : M.take (k + 1) = M.take k ++ [f] := by
  obtain ⟨hl, rfl⟩ := List.getElem?_eq_some_iff.1 hk
  rw [List.take_succ_eq_append_getElem hl]
theorem all_spec (p first : Nat) (hs xs : List Int) (hq : QR hs first xs) :
    Spec Try.prog 20 [.pointer (some ⟨p, 0, none⟩)] (qHI p hs first xs.length) fun u H' => ∃ a Hs, u = .slice a xs.length xs.length ∧ oI a xs.length xs.length xs Hs ∧ H' = qHI p hs first xs.length ++ Hs := by
  have hn := hq.n
  refine Spec_body Try.func20 rfl Try.ntmps20 rfl (fun w0 => ?_)
  repeat (first | refine stepA ?_ | intro _)
  rename_i b3
  refine callA ?_; refine ⟨_, _, eachI p first xs.length hs, _, cutA, ?_⟩
  rintro u H' ⟨bx, rfl, rfl⟩
  repeat (first | refine stepA ?_ | intro _)
  have inst : FnOk Try.prog 31 := inferInstance
  refine W_range rfl (ev_of rfl (by with_reducible rfl)) inst (iterI bx p first hs xs hq) (fun _ => rfl) (by simp)
    (fun s Hc => ∃ a cap Hs, oI a s cap (xs.take s) Hs ∧ Hc = bHI bx p hs first xs.length ++ (b3, .cells [.slice a s cap] 41) :: Hs)
    (fun _ _ => False)
    ?_ ⟨_, ⟨none, 0, [], Own.nil, rfl⟩, subA⟩ ?_ ?_ ?_
  · rintro s Hc u w ⟨a, cap, Hs, _, rfl⟩
    exact ⟨_, by exact cutA⟩
  · rintro y s Hc w1 ⟨a, cap, Hs, how, rfl⟩ hok
    obtain ⟨x, hx⟩ : ∃ x, xs[s]? = some x := ⟨xs[s], by simp [hok]⟩
    have hgd : xs.getD s zeI = x := by simp [List.getD, hx]
    rw [hgd]
    simp only [List.cons_append, List.nil_append]
    repeat (first | refine stepA ?_ | intro _)
    refine ⟨rfl, fun w2 => ?_⟩
    repeat (first | refine stepA ?_ | intro _)
    rename_i gb
    apply L_append
    · exact rfl
    · exact evA
    · exact evA
    · exact how
    · exact tailA
    · exact Lies.cells (k := 1) (news := [elI x]) pullA rfl
    · rfl
    · simp [Value.oneCell']
    · omega
    · simp only [maxLen]; omega
    · omega
    · rfl
    rintro g cap' ys h1 h2 h3
    repeat (first | refine stepA ?_ | intro _)
    refine roundQ_n (Hc := bHI bx p hs first xs.length ++ (b3, .cells [.slice (some ⟨g, 0, none⟩) (s + 1) cap'] 41) :: [(g, .cells ((xs.take s).map elI ++ [elI x] ++ ys) 3)]) ⟨_, cap', _, ?_, rfl⟩ subA
    rw [show (xs.take s).map elI ++ [elI x] = (xs.take (s + 1)).map elI by rw [take_next' hx]; simp] at h1 ⊢
    exact Own.blk (by rw [List.length_map, List.length_take]; omega) h1 h2 h3
  · rintro D s Hc hfin ⟨a, cap, Hs, how, rfl⟩
    subst hfin
    rw [List.take_length] at how
    simp only [List.cons_append, List.nil_append]
    have hcap := how.cap
    repeat (first | refine stepA ?_ | intro _)
    (first | (apply L_P; (· exact rfl); (· exact rfl)) | (apply QL_P; (· exact rfl))); (· (apply P_sl3; (· exact evA); (· exact evA); (· exact evA); (· exact Nat.le_refl _); (· exact hcap.1)))
    repeat (first | refine stepA ?_ | intro _)
    (first | refine retA ?_ | refine retB ?_)
    exact ⟨_, ⟨a, Hs, rfl, how.fit, rfl⟩, subT⟩
  · rintro D c Hc hf
    exact hf.elim
end Go.Proofs.Ytkfpohhlibcliaa
