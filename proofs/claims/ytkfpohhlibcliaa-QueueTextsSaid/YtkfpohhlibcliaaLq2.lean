/-
  The law QueueTexts: its walk.
-/
import Derived.Test.YtkfpohhlibcliaaLq1
namespace Go.Proofs.Ytkfpohhlibcliaa
open Go.RowKit
attribute [local irreducible] W L QL PureOp thenQ blockQ retQ Spec IterOk YSpec roundQ scopeQ noGoQ
attribute [local irreducible] AS ASi
set_option maxHeartbeats 6400000

/-! ### acts in a slice that was handed in -/
structure ActV where
  do_ : Int
  n : Int
def ActV.cells (x : ActV) : List Value := [.int .i64 x.do_, .int .i64 x.n]
def ActsAt (C : Array Value) (o : Nat) (xs : List ActV) : Prop := ∀ i x, xs[i]? = some x → (C.toList.drop (o + i * 2)).take 2 = x.cells
theorem acts_get {C : Array Value} {o : Nat} {xs : List ActV} (h : ActsAt C o xs) {i : Nat} {x : ActV} (hx : xs[i]? = some x) (j : Nat) (hj : j < 2) : C.toList[o + i * 2 + j]? = x.cells[j]? := by
  rw [← h i x hx, List.getElem?_take, if_pos hj, List.getElem?_drop]
theorem u64_nonneg (x : Int) : 0 ≤ IntKind.u64.wrap x := by
  unfold IntKind.wrap
  simp [IntKind.signed, IntKind.bits]
  omega
theorem small_i64 {x : Int} (h : 0 ≤ x ∧ x < 100) : IntKind.i64.wrap x = x := wrap_i64 (by omega)

/-! ### names -/
def namesB : List (List UInt8) := [[], [97], [98], [97, 98], [97, 32, 108, 111, 110, 103, 101, 114, 32, 111, 110, 101]]
def nm (n : Nat) : List UInt8 := namesB.getD n []
theorem nm_get {n : Nat} (h : n ≤ 4) : (namesB.map str)[n]? = some (str (nm n)) := by
  match n, h with
  | 0, _ => rfl
  | 1, _ => rfl
  | 2, _ => rfl
  | 3, _ => rfl
  | 4, _ => rfl
theorem nm_inj {m n : Nat} (hm : m ≤ 4) (hn : n ≤ 4) (h : nm m = nm n) : m = n := by
  have key : ∀ m : Fin 5, ∀ n : Fin 5, nm m = nm n → m = n := by decide
  have := key ⟨m, by omega⟩ ⟨n, by omega⟩ h
  simpa using this
abbrev cI (ns : List Nat) : List Int := ns.map (Nat.cast : Nat → Int)
abbrev cS (ns : List Nat) : List (List UInt8) := ns.map nm
theorem place_same {n : Nat} (hn : n ≤ 4) : ∀ {ns : List Nat}, (∀ x ∈ ns, x ≤ 4) → placeOfS (nm n) (cS ns) = placeOfI (n : Int) (cI ns)
  | [], _ => rfl
  | x :: ns, h => by
    have ih := place_same hn (ns := ns) (fun y hy => h y (by simp [hy]))
    have hx := h x (by simp)
    simp only [cS, cI, List.map_cons, placeOfS, placeOfI] at ih ⊢
    rw [ih]
    by_cases he : x = n
    · subst he; simp
    · have e1 : ¬ (nm x = nm n) := fun h => he (nm_inj hx hn h)
      have e2 : ¬ ((x : Int) = (n : Int)) := by omega
      simp only [e1, e2, if_false]
theorem erase_mem {ns : List Nat} {k : Nat} (h : ∀ x ∈ ns, x ≤ 4) : ∀ x ∈ ns.eraseIdx k, x ≤ 4 := fun x hx => h x (List.mem_of_mem_eraseIdx hx)

theorem erase_map {α β : Type} (f : α → β) : ∀ (l : List α) (k : Nat), (l.map f).eraseIdx k = (l.eraseIdx k).map f
  | [], _ => by simp
  | x :: l, 0 => by simp
  | x :: l, k + 1 => by simp [erase_map f l k]
theorem pushI_fullx (p first : Nat) (hs xs : List Int) (v : Int) (h : hs.length = 64) (hn : xs.length = 64) :
    Spec Try.prog 12 [.pointer (some ⟨p, 0, none⟩), .int .i64 v] (qHI p hs first xs.length) fun u H' => u = .int .i64 71 ∧ H' = qHI p hs first xs.length := by
  rw [hn]; exact pushI_full p first hs v h
theorem pushS_fullx (p first : Nat) (hs xs : List (List UInt8)) (v : List UInt8) (h : hs.length = 64) (hn : xs.length = 64) :
    Spec Try.prog 13 [.pointer (some ⟨p, 0, none⟩), str v] (qHS p hs first xs.length) fun u H' => u = .int .i64 71 ∧ H' = qHS p hs first xs.length := by
  rw [hn]; exact pushS_full p first hs v h
abbrev nmH (g : Nat) : Nat × Blk := (g, .cells (namesB.map str) 9)
theorem texts_nil (p : Option Addr) (cap : Nat) : Spec Try.prog 3 [.slice p 0 cap] [] fun v H' => v = .bool true ∧ H' = [] := by
  refine Spec_body Try.func3 rfl Try.ntmps3 rfl (fun w0 => ?_)
  repeat (first | refine stepA ?_ | intro _)
  refine callA ?_; refine ⟨_, _, shown_spec, _, cutA, ?_⟩
  rintro v H' ⟨rfl, rfl⟩
  repeat (first | refine stepA ?_ | intro _)
  refine callA ?_; refine ⟨_, _, newI, _, cutA, ?_⟩
  rintro v H' ⟨p1, rfl, rfl⟩
  repeat (first | refine stepA ?_ | intro _)
  refine callA ?_; refine ⟨_, _, newS, _, cutA, ?_⟩
  rintro v H' ⟨p2, rfl, rfl⟩
  repeat (first | refine stepA ?_ | intro _)
  refine W_loop (fun i : Nat => [(0, .slice p 0 cap), (3, .bool true), (7, .int .i64 0)]) (fun i => []) (fun _ => True) (fun _ => 0) 0 trivial sublA subA ?_
  intro i _
  repeat (first | refine stepA ?_ | intro _)
  (first | refine retA ?_ | refine retB ?_); exact ⟨_, ⟨rfl, rfl⟩, subA⟩
theorem texts_spec (g o len cap : Nat) (C : Array Value) (E : TypeId) (fr : Nat × Nat) (xs : List ActV) (hl : xs.length = len) (hx : ActsAt C o xs) (hlen : len ≤ 9223372036854775807) :
    Spec Try.prog 3 [.slice (some ⟨g, o, none⟩) len cap] [(g, .oth (.cells C E fr))] fun v H' => v = .bool true ∧ H' = [(g, .oth (.cells C E fr))] := by
  refine Spec_body Try.func3 rfl Try.ntmps3 rfl (fun w0 => ?_)
  repeat (first | refine stepA ?_ | intro _)
  refine callA ?_; refine ⟨_, _, shown_spec, _, cutA, ?_⟩
  rintro v H' ⟨rfl, rfl⟩
  repeat (first | refine stepA ?_ | intro _)
  rename_i gn
  refine callA ?_; refine ⟨_, _, newI, _, cutA, ?_⟩
  rintro v H' ⟨p1, rfl, rfl⟩
  repeat (first | refine stepA ?_ | intro _)
  refine callA ?_; refine ⟨_, _, newS, _, cutA, ?_⟩
  rintro v H' ⟨p2, rfl, rfl⟩
  repeat (first | refine stepA ?_ | intro _)
  have q0 : QR (List.replicate 64 zeI) 0 (cI []) := QR.new 0
  have r0 : QR (List.replicate 64 zeS) 0 (cS []) := QR.new []
  refine W_loop (fun x : Nat × List Nat × List Int × Nat × List (List UInt8) × Nat => [(0, .slice (some ⟨g, o, none⟩) len cap), (3, .bool true), (4, .slice (some ⟨gn, 0, none⟩) 5 5), (5, .pointer (some ⟨p1, 0, none⟩)), (6, .pointer (some ⟨p2, 0, none⟩)), (7, .int .i64 (x.1 : Int))])
    (fun x => (g, .oth (.cells C E fr)) :: nmH gn :: (qHI p1 x.2.2.1 x.2.2.2.1 (cI x.2.1).length ++ qHS p2 x.2.2.2.2.1 x.2.2.2.2.2 (cS x.2.1).length))
    (fun x => x.1 ≤ 200 ∧ QR x.2.2.1 x.2.2.2.1 (cI x.2.1) ∧ QR x.2.2.2.2.1 x.2.2.2.2.2 (cS x.2.1) ∧ ∀ n ∈ x.2.1, n ≤ 4) (fun x => 200 - x.1) (0, [], List.replicate 64 zeI, 0, List.replicate 64 zeS, 0)
    ⟨by simp only; omega, q0, r0, fun n hn => by simp at hn⟩ sublA subA ?_
  rintro ⟨i, ns, hI, fI, hS, fS⟩ ⟨hi, hqI, hqS, hns⟩
  simp only [List.cons_append, List.nil_append] at hi hqI hqS hns ⊢
  by_cases h1 : i < len
  · by_cases h2 : i < 200
    · obtain ⟨x, hxi⟩ : ∃ x, xs[i]? = some x := ⟨xs[i]'(by omega), by simp [hl, h1]⟩
      have g0 := acts_get hx hxi 0 (by omega)
      have g1 := acts_get hx hxi 1 (by omega)
      have hu := u64_nonneg x.do_
      have hv := u64_nonneg x.n
      obtain ⟨n, hn, hn4⟩ : ∃ n : Nat, IntKind.i64.wrap (IntKind.u64.wrap x.n % 5) = (n : Int) ∧ n ≤ 4 := ⟨(IntKind.u64.wrap x.n % 5).toNat, by rw [small_i64 (by omega)]; omega, by omega⟩
      have hnm := nm_get hn4
      repeat (first | refine stepA ?_ | intro _)
      rw [hn]
      have hc : IntKind.u64.wrap x.do_ % 4 = 0 ∨ IntKind.u64.wrap x.do_ % 4 = 1 ∨ IntKind.u64.wrap x.do_ % 4 = 2 ∨ IntKind.u64.wrap x.do_ % 4 = 3 := by omega
      rcases hc with hc | hc | hc | hc
      rotate_left 2
      · cases ns with
        | nil =>
          repeat (first | refine stepA ?_ | intro _)
          refine callA ?_; refine ⟨_, _, popI_none p1 fI hI hqI.len, _, cutA, ?_⟩
          rintro u H' ⟨rfl, rfl⟩
          repeat (first | refine stepA ?_ | intro _)
          refine callA ?_; refine ⟨_, _, popS_none p2 fS hS hqS.len, _, cutA, ?_⟩
          rintro u H' ⟨rfl, rfl⟩
          repeat (first | refine stepA ?_ | intro _)
          refine callA ?_; refine ⟨_, _, lenI p1 fI (cI []).length hI hqI.len, _, cutA, ?_⟩
          rintro u H' ⟨rfl, rfl⟩
          repeat (first | refine stepA ?_ | intro _)
          refine callA ?_; refine ⟨_, _, lenS p2 fS (cS []).length hS hqS.len, _, cutA, ?_⟩
          rintro u H' ⟨rfl, rfl⟩
          have el : (cI []).length = (cS []).length := by simp
          repeat (first | refine stepA ?_ | intro _)
          exact ⟨rfl, (i + 1, [], hI, fI, hS, fS), ⟨by simp only; omega, hqI, hqS, hns⟩, by simp only; omega, sublA, subA⟩
        | cons m ns =>
          have hm4 := hns m (by simp)
          have hnm2 := nm_get hm4
          repeat (first | refine stepA ?_ | intro _)
          refine callA ?_; refine ⟨_, _, popI_xs p1 fI hI (cI ns) m hqI, _, cutA, ?_⟩
          rintro u H' ⟨rfl, hI', hqI', rfl⟩
          repeat (first | refine stepA ?_ | intro _)
          refine callA ?_; refine ⟨_, _, popS_xs p2 fS hS (cS ns) (nm m) hqS, _, cutA, ?_⟩
          rintro u H' ⟨rfl, hS', hqS', rfl⟩
          have hns' : ∀ n ∈ ns, n ≤ 4 := fun y hy => hns y (by simp [hy])
          repeat (first | refine stepA ?_ | intro _)
          refine callA ?_; refine ⟨_, _, lenI p1 ((fI + 1) % 64) (cI ns).length hI' hqI'.len, _, cutA, ?_⟩
          rintro u H' ⟨rfl, rfl⟩
          repeat (first | refine stepA ?_ | intro _)
          refine callA ?_; refine ⟨_, _, lenS p2 ((fS + 1) % 64) (cS ns).length hS' hqS'.len, _, cutA, ?_⟩
          rintro u H' ⟨rfl, rfl⟩
          have el : (cI ns).length = (cS ns).length := by simp
          repeat (first | refine stepA ?_ | intro _)
          exact ⟨rfl, (i + 1, ns, hI', ((fI + 1) % 64), hS', ((fS + 1) % 64)), ⟨by simp only; omega, hqI', hqS', hns'⟩, by simp only; omega, sublA, subA⟩
      · have hps := place_same hn4 hns
        rcases placeOfI_cases (n : Int) (cI ns) with hk | ⟨k, hk, hkl⟩
        · rw [hk] at hps
          repeat (first | refine stepA ?_ | intro _)
          refine W_any [nmH gn] [] rfl ?_
          repeat refine asA ?_
          refine oneA ?_
          refine callA ?_; refine ⟨_, _, dropI_no p1 fI hI (cI ns) n hqI hk, _, cutA, ?_⟩
          rintro u H' ⟨rfl, rfl⟩
          refine L_nil ?_; refine ⟨rfl, (by first | exact KeepsH.brk (by decide +kernel) | exact KeepsH.sub subA), ?_⟩; repeat refine asA ?_
          refine oneA ?_
          refine callA ?_; refine ⟨_, _, dropS_no p2 fS hS (cS ns) (nm n) hqS hps, _, cutA, ?_⟩
          rintro u H' ⟨rfl, rfl⟩
          refine L_nil ?_; refine ⟨rfl, (by first | exact KeepsH.brk (by decide +kernel) | exact KeepsH.sub subA), ?_⟩; repeat refine asA ?_
          repeat (first | refine stepA ?_ | intro _)
          refine callA ?_; refine ⟨_, _, lenI p1 fI (cI ns).length hI hqI.len, _, cutA, ?_⟩
          rintro u H' ⟨rfl, rfl⟩
          repeat (first | refine stepA ?_ | intro _)
          refine callA ?_; refine ⟨_, _, lenS p2 fS (cS ns).length hS hqS.len, _, cutA, ?_⟩
          rintro u H' ⟨rfl, rfl⟩
          have el : (cI ns).length = (cS ns).length := by simp
          repeat (first | refine stepA ?_ | intro _)
          exact ⟨rfl, (i + 1, ns, hI, fI, hS, fS), ⟨by simp only; omega, hqI, hqS, hns⟩, by simp only; omega, sublA, subA⟩
        · rw [hk] at hps
          have hkl2 : k < (cS ns).length := by simpa using hkl
          have hns' := erase_mem (k := k) hns
          repeat (first | refine stepA ?_ | intro _)
          refine W_any [nmH gn] [] rfl ?_
          repeat refine asA ?_
          refine oneA ?_
          refine callA ?_; refine ⟨_, _, dropI p1 fI k hI (cI ns) n hqI hk hkl, _, cutA, ?_⟩
          rintro u H' ⟨rfl, hI', hqI', rfl⟩
          refine L_nil ?_; refine ⟨rfl, (by first | exact KeepsH.brk (by decide +kernel) | exact KeepsH.sub subA), ?_⟩; repeat refine asA ?_
          refine oneA ?_
          refine callA ?_; refine ⟨_, _, dropS p2 fS k hS (cS ns) (nm n) hqS hps hkl2, _, cutA, ?_⟩
          rintro u H' ⟨rfl, hS', hqS', rfl⟩
          rw [show (cI ns).eraseIdx k = cI (ns.eraseIdx k) by simp only [cI, cS, erase_map]] at hqI' ⊢
          rw [show (cS ns).eraseIdx k = cS (ns.eraseIdx k) by simp only [cI, cS, erase_map]] at hqS' ⊢
          refine L_nil ?_; refine ⟨rfl, (by first | exact KeepsH.brk (by decide +kernel) | exact KeepsH.sub subA), ?_⟩; repeat refine asA ?_
          repeat (first | refine stepA ?_ | intro _)
          refine callA ?_; refine ⟨_, _, lenI p1 fI (cI (ns.eraseIdx k)).length hI' hqI'.len, _, cutA, ?_⟩
          rintro u H' ⟨rfl, rfl⟩
          repeat (first | refine stepA ?_ | intro _)
          refine callA ?_; refine ⟨_, _, lenS p2 fS (cS (ns.eraseIdx k)).length hS' hqS'.len, _, cutA, ?_⟩
          rintro u H' ⟨rfl, rfl⟩
          have el : (cI (ns.eraseIdx k)).length = (cS (ns.eraseIdx k)).length := by simp
          repeat (first | refine stepA ?_ | intro _)
          exact ⟨rfl, (i + 1, (ns.eraseIdx k), hI', fI, hS', fS), ⟨by simp only; omega, hqI', hqS', hns'⟩, by simp only; omega, sublA, subA⟩
      all_goals
        repeat (first | refine stepA ?_ | intro _)
        refine W_any [nmH gn] [] rfl ?_
        repeat refine asA ?_
        by_cases hfull : ns.length < 64
        · refine oneA ?_
          refine callA ?_; refine ⟨_, _, pushI_xs p1 fI hI (cI ns) n hqI (by simpa using hfull), _, cutA, ?_⟩
          rintro u H' ⟨rfl, hI', hqI', rfl⟩
          refine L_nil ?_; refine ⟨rfl, (by first | exact KeepsH.brk (by decide +kernel) | exact KeepsH.sub subA), ?_⟩; repeat refine asA ?_
          refine oneA ?_
          refine callA ?_; refine ⟨_, _, pushS_xs p2 fS hS (cS ns) (nm n) hqS (by simpa using hfull), _, cutA, ?_⟩
          rintro u H' ⟨rfl, hS', hqS', rfl⟩
          rw [show cI ns ++ [(n : Int)] = cI (ns ++ [n]) by simp] at hqI' ⊢
          rw [show cS ns ++ [nm n] = cS (ns ++ [n]) by simp] at hqS' ⊢
          have hns' : ∀ y ∈ ns ++ [n], y ≤ 4 := fun y hy => by
            rcases List.mem_append.1 hy with hy | hy
            · exact hns y hy
            · simp at hy; omega
          refine L_nil ?_; refine ⟨rfl, (by first | exact KeepsH.brk (by decide +kernel) | exact KeepsH.sub subA), ?_⟩; repeat refine asA ?_
          repeat (first | refine stepA ?_ | intro _)
          refine callA ?_; refine ⟨_, _, lenI p1 fI (cI (ns ++ [n])).length hI' hqI'.len, _, cutA, ?_⟩
          rintro u H' ⟨rfl, rfl⟩
          repeat (first | refine stepA ?_ | intro _)
          refine callA ?_; refine ⟨_, _, lenS p2 fS (cS (ns ++ [n])).length hS' hqS'.len, _, cutA, ?_⟩
          rintro u H' ⟨rfl, rfl⟩
          have el : (cI (ns ++ [n])).length = (cS (ns ++ [n])).length := by simp
          repeat (first | refine stepA ?_ | intro _)
          exact ⟨rfl, (i + 1, (ns ++ [n]), hI', fI, hS', fS), ⟨by simp only; omega, hqI', hqS', hns'⟩, by simp only; omega, sublA, subA⟩
        · have h64 : ns.length = 64 := by
            have := hqI.n
            simp only [List.length_map] at this
            omega
          have e1 : (cI ns).length = 64 := by simpa using h64
          have e2 : (cS ns).length = 64 := by simpa using h64
          refine oneA ?_
          refine callA ?_; refine ⟨_, _, pushI_fullx p1 fI hI (cI ns) n hqI.len e1, _, cutA, ?_⟩
          rintro u H' ⟨rfl, rfl⟩
          refine L_nil ?_; refine ⟨rfl, (by first | exact KeepsH.brk (by decide +kernel) | exact KeepsH.sub subA), ?_⟩; repeat refine asA ?_
          refine oneA ?_
          refine callA ?_; refine ⟨_, _, pushS_fullx p2 fS hS (cS ns) (nm n) hqS.len e2, _, cutA, ?_⟩
          rintro u H' ⟨rfl, rfl⟩
          refine L_nil ?_; refine ⟨rfl, (by first | exact KeepsH.brk (by decide +kernel) | exact KeepsH.sub subA), ?_⟩; repeat refine asA ?_
          repeat (first | refine stepA ?_ | intro _)
          refine callA ?_; refine ⟨_, _, lenI p1 fI (cI ns).length hI hqI.len, _, cutA, ?_⟩
          rintro u H' ⟨rfl, rfl⟩
          repeat (first | refine stepA ?_ | intro _)
          refine callA ?_; refine ⟨_, _, lenS p2 fS (cS ns).length hS hqS.len, _, cutA, ?_⟩
          rintro u H' ⟨rfl, rfl⟩
          have el : (cI ns).length = (cS ns).length := by simp
          repeat (first | refine stepA ?_ | intro _)
          exact ⟨rfl, (i + 1, ns, hI, fI, hS, fS), ⟨by simp only; omega, hqI, hqS, hns⟩, by simp only; omega, sublA, subA⟩
    · repeat (first | refine stepA ?_ | intro _)
      (first | refine retA ?_ | refine retB ?_); exact ⟨_, ⟨rfl, rfl⟩, subA⟩
  · repeat (first | refine stepA ?_ | intro _)
    (first | refine retA ?_ | refine retB ?_); exact ⟨_, ⟨rfl, rfl⟩, subA⟩
end Go.Proofs.Ytkfpohhlibcliaa
