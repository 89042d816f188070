/-
  Joined texts; each begins with its own sentence.
-/
import Derived.Test.YtcpfmjlceoiofaaGreatDoorM18
import Derived.Test.YtcpfmjlceoiofaaGreatDoorRows
import Derived.Test.YtcpfmjlceoiofaaGreatDoorM11
import Derived.WalkKit
import Derived.ProofKit
import Derived.OpenShut
import Derived.WideKeyArgs
import Derived.Deep.Slices
import Derived.JoinedOf
import Derived.Test.YtcpfmjlceoiofaaGreatDoorM19
import Derived.Test.YtcpfmjlceoiofaaGreatDoorM20
import Derived.Test.YtcpfmjlceoiofaaGreatDoorM21
import Derived.Test.YtcpfmjlceoiofaaGreatDoorM22
import Derived.Test.YtcpfmjlceoiofaaGreatDoorM23
import Derived.Test.YtcpfmjlceoiofaaGreatDoorM24
import Derived.Test.YtcpfmjlceoiofaaGreatDoorM25
set_option linter.unusedSimpArgs false
set_option linter.unusedVariables false
set_option linter.unusedSectionVars false
/-
  Copies: parts.
-/
namespace Go.Proofs.YtcpfmjlceoiofaaGreatDoor
open Go.RowKit
attribute [local irreducible] W L QL PureOp thenQ blockQ retQ Spec IterOk YSpec roundQ scopeQ noGoQ
attribute [local irreducible] AS ASi IterOkC retD retE roundY
set_option maxHeartbeats 6400000
set_option maxRecDepth 4000
theorem parts_spec (addr n : Int) : Spec Tryz.prog 178 [.int .i64 addr, .int .i64 n] [] fun v H' => ∃ bn ba, v = .func (.func 300) #[] #[.pointer (some ⟨bn, 0, none⟩), .pointer (some ⟨ba, 0, none⟩)] ∧ H' = [piB bn n, piB ba addr] := by
  refine Spec_body Tryz.func178 rfl Tryz.ntmps178 rfl (fun w0 => ?_)
  repeat (first | refine stepA ?_ | intro _)
  rename_i ba bn
  (first | refine retA ?_ | refine retB ?_)
  exact ⟨_, ⟨bn, ba, rfl, rfl⟩, subA⟩
def pN (addr n : Nat) : Nat := min n (64 - addr % 64)
abbrev ptV (addr n : Nat) : List Value := [.int .i64 ((addr / 64 : Nat) : Int), .int .i64 ((addr % 64 : Nat) : Int), .int .i64 ((pN addr n : Nat) : Int)]
theorem parts_iter (bn ba : Nat) (s0 : Nat × Nat) (hs : s0.1 + s0.2 ≤ 100000) : IterOkC Tryz.prog 300 [.pointer (some ⟨bn, 0, none⟩), .pointer (some ⟨ba, 0, none⟩)]
    (fun (I J : Nat × Nat → Hp → Prop) => (∀ s H, I s H → ∃ R, Cut [piB bn (s.2 : Int), piB ba (s.1 : Int)] H R) ∧
      ∀ s H, 0 < s.2 → J s H → ∃ R H', Cut [piB bn (s.2 : Int), piB ba (s.1 : Int)] H R ∧ I (s.1 + pN s.1 s.2, s.2 - pN s.1 s.2) H' ∧ ([piB bn ((s.2 - pN s.1 s.2 : Nat) : Int), piB ba ((s.1 + pN s.1 s.2 : Nat) : Int)] ++ R).Perm H')
    (fun s => 0 < s.2 ∧ s.1 + s.2 ≤ 100000) (fun s => [.agg (ptV s.1 s.2).toArray]) (fun s => s.2 = 0) s0 := by
  unfold IterOkC
  rintro y I J S ⟨hA, hJ⟩ hy H h0
  obtain ⟨R, hcut⟩ := hA s0 H h0
  refine Spec_body Tryz.func300 rfl Tryz.ntmps300 rfl (fun w0 => ?_)
  refine W_perm hcut.perm ?_
  simp only [List.cons_append, List.nil_append]
  repeat (first | refine stepA ?_ | intro _)
  refine W_loop (fun x : (Nat × Nat) × Hp => [(0, .func (.yield y) #[] #[]), (1, .pointer (some ⟨bn, 0, none⟩)), (2, .pointer (some ⟨ba, 0, none⟩))]) (fun x => x.2) (fun x => x.1.1 + x.1.2 ≤ 100000 ∧ I x.1 x.2) (fun x => x.1.2) (s0, H) ⟨hs, h0⟩ sublA (Sub.ofPerm hcut.perm) ?_
  rintro ⟨⟨addr, n⟩, Hk⟩ ⟨hk, hIk⟩
  simp only at hk hIk ⊢
  obtain ⟨Rk, hck⟩ := hA (addr, n) Hk hIk
  simp only at hck
  refine W_perm hck.perm ?_
  simp only [List.cons_append, List.nil_append]
  by_cases hn : 0 < n
  · have hpn : 0 < pN addr n ∧ pN addr n ≤ n ∧ pN addr n ≤ 64 := by simp only [pN]; omega
    have emin : min (n : Int) (64 - ((addr % 64 : Nat) : Int)) = ((pN addr n : Nat) : Int) := by
      simp only [pN]
      omega
    have ediv : (addr : Int) / 64 = ((addr / 64 : Nat) : Int) := by omega
    have emod : (addr : Int) % 64 = ((addr % 64 : Nat) : Int) := by omega
    repeat (first | refine stepA ?_ | intro _)
    rename_i b4
    rw [ediv, emod, emin]
    have hyk := hy (addr, n) Hk hIk ⟨hn, hk⟩
    simp only at hyk
    refine L_yield rfl (ev_of rfl (by with_reducible rfl)) rfl hyk (R0 := [(b4, .cells (ptV addr n) 215)]) ?_ ?_
    · refine List.Perm.trans ?_ (List.Perm.append_right _ hck.perm.symm)
      simp only [List.cons_append, List.nil_append]
      exact permA
    · rintro b H' hb
      rcases hb with ⟨rfl, hb⟩ | ⟨rfl, hb⟩
      · obtain ⟨R2, H2, hc2, hI2, hp2⟩ := hJ (addr, n) H' hn hb
        simp only at hc2 hI2 hp2
        refine L_perm (H' := piB bn (n : Int) :: piB ba (addr : Int) :: (b4, .cells (ptV addr n) 215) :: R2) ((List.Perm.append_right _ hc2.perm).trans (by simp only [List.cons_append, List.nil_append]; exact permA)) ?_
        repeat (first | refine stepA ?_ | intro _)
        have ea : (addr : Int) + ((pN addr n : Nat) : Int) = ((addr + pN addr n : Nat) : Int) := by omega
        have en : (n : Int) - ((pN addr n : Nat) : Int) = ((n - pN addr n : Nat) : Int) := by omega
        refine W_any [piB bn (n : Int), (b4, .cells (ptV addr n) 215)] [9] rfl ?_
        refine AS_at 1 (by decide +kernel) ?_; refine takeA ?_
        refine AS_at 2 (by decide +kernel) ?_; refine takeA ?_
        refine AS_at 4 (by decide +kernel) ?_; refine takeA ?_
        refine AS_at 5 (by decide +kernel) ?_; refine takeA ?_
        refine AS_at 6 (by decide +kernel) ?_; refine takeA ?_
        refine AS_at 7 (by decide +kernel) ?_; refine takeA ?_
        refine AS_one 0 rfl (by decide +kernel) rfl ?_
        refine stepA ?_
        refine L_nil ?_; refine ⟨rfl, (by first | exact KeepsH.brk (by decide +kernel) | exact KeepsH.sub subA | exact KeepsH.sub subT), ?_⟩
        refine AS_at 3 (by decide +kernel) ?_; refine takeA ?_
        refine AS_one 8 rfl (by decide +kernel) rfl ?_
        refine stepA ?_
        refine L_nil ?_; refine ⟨rfl, (by first | exact KeepsH.brk (by decide +kernel) | exact KeepsH.sub subA | exact KeepsH.sub subT), ?_⟩
        refine AS_one 9 rfl (by decide +kernel) rfl ?_
        refine stepA ?_
        refine L_nil ?_; refine ⟨rfl, (by first | exact KeepsH.brk (by decide +kernel) | exact KeepsH.sub subA | exact KeepsH.sub subT), ?_⟩
        refine AS_done (by decide +kernel) ?_
        rw [ea, en]
        repeat (first | refine stepA ?_ | intro _)
        exact ⟨rfl, ((addr + pN addr n, n - pN addr n), H2), ⟨by simp only; omega, hI2⟩, by simp only; omega, sublA, Sub.ofPermR (R := [(b4, .cells (ptV addr n) 215)]) (List.Perm.trans (List.Perm.append_right _ hp2.symm) (by simp only [List.cons_append, List.nil_append]; exact permA))⟩
      · repeat (first | refine stepA ?_ | intro _)
        (first | refine retA ?_ | refine retB ?_)
        exact ⟨_, .inr hb, Sub.ofPermR (R := [_]) (List.Perm.refl _)⟩
  · obtain rfl : n = 0 := by omega
    repeat (first | refine stepA ?_ | intro _)
    (first | refine retA ?_ | refine retB ?_)
    exact ⟨_, .inl ⟨_, rfl, hIk⟩, Sub.ofPerm (hck.perm.trans permA)⟩
end Go.Proofs.YtcpfmjlceoiofaaGreatDoor

/-
  Copies: Spans from 0 on; the leaves of bytes.
-/
namespace Go.Proofs.YtcpfmjlceoiofaaGreatDoor
open Go.RowKit
attribute [local irreducible] W L QL PureOp thenQ blockQ retQ Spec IterOk YSpec roundQ scopeQ noGoQ
attribute [local irreducible] AS ASi IterOkC retD retE roundY
set_option maxHeartbeats 6400000
set_option maxRecDepth 4000
def spanN (n : Nat) : Nat := (n + 63) / 64
abbrev kB (b : Nat) (n : Nat) : Nat × Blk := (b, .cells [.int .i64 (n : Int)] 3)
theorem spans_sp (n : Nat) (hn : n ≤ 4096) : Spec Tryz.prog 84 [.int .i64 0, .int .i64 (n : Int)] [] fun v H' => v = .int .i64 ((spanN n : Nat) : Int) ∧ H' = [] := by
  refine Spec_body Tryz.func84 rfl Tryz.ntmps84 rfl (fun w0 => ?_)
  repeat (first | refine stepA ?_ | intro _)
  rename_i b5
  refine callA ?_; refine ⟨_, _, parts_spec 0 (n : Int), _, cutA, ?_⟩
  rintro v H' ⟨bn, ba, rfl, rfl⟩
  simp only [List.cons_append, List.nil_append]
  repeat (first | refine stepA ?_ | intro _)
  have inst : FnOk Tryz.prog 300 := inferInstance
  refine W_rangeC rfl (ev_of rfl (by with_reducible rfl)) inst (parts_iter bn ba (0, n) (by simp only; omega)) (fun _ => rfl) (by simp)
    (fun s Hc => (s.1 + s.2 = n ∧ (s.1 % 64 = 0 ∨ s.2 = 0)) ∧ Hc = [piB bn (s.2 : Int), piB ba (s.1 : Int), kB b5 (spanN s.1)])
    (fun s Hc => (s.1 + s.2 = n ∧ s.1 % 64 = 0 ∧ 0 < s.2) ∧ Hc = [piB bn (s.2 : Int), piB ba (s.1 : Int), kB b5 (spanN s.1 + 1)])
    (fun _ _ => False)
    (fun u v => ⟨by
      rintro s H ⟨Hc, ⟨_, rfl⟩, rfl⟩
      exact ⟨_, .cons (.there (.there .here)) (.cons (.there (.there .here)) .nil)⟩, by
      rintro ⟨x, y⟩ H hy ⟨Hc, ⟨⟨h1, h2, h3⟩, rfl⟩, rfl⟩
      simp only at h1 h2 h3 hy ⊢
      have hp : 0 < pN x y ∧ pN x y ≤ y ∧ (pN x y = 64 ∨ (pN x y = y ∧ y ≤ 64)) := by simp only [pN]; omega
      have e : spanN (x + pN x y) = spanN x + 1 := by simp only [spanN]; omega
      refine ⟨[u, v, kB b5 (spanN x + 1)], _, .cons (.there (.there .here)) (.cons (.there (.there .here)) .nil), ⟨_, ⟨⟨?_, ?_⟩, rfl⟩, rfl⟩, ?_⟩
      · first | omega | (simp only; omega)
      · first | omega | (simp only; omega)
      · simp only [e]
        simp only [List.cons_append, List.nil_append]
        exact permA⟩)
    ⟨[piB bn (n : Int), piB ba 0, kB b5 0], ⟨⟨Nat.zero_add n, .inl rfl⟩, (by show _ = [_, _, kB b5 (spanN 0)]; rw [show spanN 0 = 0 from by decide]; rfl)⟩, subA⟩ ?_ ?_ ?_
  · rintro y ⟨x, z⟩ Hc w1 ⟨⟨h1, h2⟩, rfl⟩ ⟨h3, h4⟩
    simp only at h1 h2 h3 h4 ⊢
    repeat (first | refine stepA ?_ | intro _)
    have hb : spanN x ≤ 2000 := by simp only [spanN]; omega
    refine ⟨rfl, fun w2 => ?_⟩
    repeat (first | refine stepA ?_ | intro _)
    have e : ((spanN x : Nat) : Int) + 1 = ((spanN x + 1 : Nat) : Int) := by omega
    rw [e]
    exact roundQ_n (Hc := [piB bn (z : Int), piB ba (x : Int), kB b5 (spanN x + 1)]) ⟨⟨h1, by omega, h3⟩, rfl⟩ subA
  · rintro D ⟨x, z⟩ Hc hz ⟨⟨h1, h2⟩, rfl⟩
    simp only at hz h1 h2 ⊢
    obtain rfl : x = n := by omega
    repeat (first | refine stepA ?_ | intro _)
    (first | refine retA ?_ | refine retB ?_)
    exact ⟨_, ⟨rfl, rfl⟩, subA⟩
  · rintro D c Hc h
    exact h.elim
/-! ### leaves -/
abbrev stB (b : Nat) (s : List UInt8) : Nat × Blk := (b, .cells [str s] 9)
theorem leaves_spec (s : List UInt8) : Spec Tryz.prog 85 [str s] [] fun v H' => ∃ bs, v = .func (.func 179) #[] #[.pointer (some ⟨bs, 0, none⟩)] ∧ H' = [stB bs s] := by
  refine Spec_body Tryz.func85 rfl Tryz.ntmps85 rfl (fun w0 => ?_)
  repeat (first | refine stepA ?_ | intro _)
  rename_i bs
  (first | refine retA ?_ | refine retB ?_)
  exact ⟨_, ⟨bs, rfl, rfl⟩, subA⟩
theorem leaves_iter (bs : Nat) (s0 : List UInt8) (hs : s0.length ≤ 100000) : IterOkC Tryz.prog 179 [.pointer (some ⟨bs, 0, none⟩)]
    (fun (I J : List UInt8 → Hp → Prop) => (∀ s H, I s H → ∃ R, Cut [stB bs s] H R) ∧
      ∀ s H, s ≠ [] → J s H → ∃ R H', Cut [stB bs s] H R ∧ I (s.drop 64) H' ∧ (stB bs (s.drop 64) :: R).Perm H')
    (fun s => s ≠ []) (fun s => [str (s.take 64)]) (fun s => s = []) s0 := by
  unfold IterOkC
  rintro y I J S ⟨hA, hJ⟩ hy H h0
  refine Spec_body Tryz.func179 rfl Tryz.ntmps179 rfl (fun w0 => ?_)
  repeat (first | refine stepA ?_ | intro _)
  refine W_loop (fun x : List UInt8 × Hp => [(0, .func (.yield y) #[] #[]), (1, .pointer (some ⟨bs, 0, none⟩))]) (fun x => x.2) (fun x => x.1.length ≤ 100000 ∧ I x.1 x.2) (fun x => x.1.length) (s0, H) ⟨hs, h0⟩ sublA (Sub.refl _) ?_
  rintro ⟨s, Hk⟩ ⟨hl, hIk⟩
  simp only at hl hIk ⊢
  obtain ⟨Rk, hck⟩ := hA s Hk hIk
  refine W_perm hck.perm ?_
  simp only [List.cons_append, List.nil_append]
  by_cases hn : s = []
  · subst hn
    repeat (first | refine stepA ?_ | intro _)
    (first | refine retA ?_ | refine retB ?_)
    exact ⟨_, .inl ⟨_, rfl, hIk⟩, Sub.ofPerm (hck.perm.trans permA)⟩
  · have hlen : 0 < s.length := List.length_pos_iff.2 hn
    have emin : min (s.length : Int) 64 = ((min s.length 64 : Nat) : Int) := by omega
    repeat (first | refine stepA ?_ | intro _)
    rw [emin]
    (first | (apply L_P; (· exact rfl); (· exact rfl)) | (apply QL_P; (· exact rfl))); (· (apply P_slStr; (· exact evA); (· exact Bound.none); (· exact Bound.nat rfl); (· omega)))
    have e1 : (s.drop 0).take (min s.length 64 - 0) = s.take 64 := by
      rw [List.drop_zero, Nat.sub_zero, Nat.min_comm, ← List.take_take, List.take_length]
    have hyk := hy s Hk hIk hn
    simp only at hyk
    rw [e1]
    refine L_yield rfl (ev_of rfl (by with_reducible rfl)) rfl hyk (R0 := []) ?_ ?_
    · rw [List.append_nil]
      exact List.Perm.trans permA hck.perm.symm
    · rintro b H' hb
      rw [List.append_nil]
      rcases hb with ⟨rfl, hb⟩ | ⟨rfl, hb⟩
      · obtain ⟨R2, H2, hc2, hI2, hp2⟩ := hJ s H' hn hb
        refine L_perm hc2.perm ?_
        simp only [List.cons_append, List.nil_append]
        repeat (first | refine stepA ?_ | intro _)
        (first | (apply L_P; (· exact rfl); (· exact rfl)) | (apply QL_P; (· exact rfl))); (· (apply P_slStr; (· exact evA); (· exact Bound.nat rfl); (· exact Bound.none); (· omega)))
        have e2 : (s.drop (min s.length 64)).take (s.length - min s.length 64) = s.drop 64 := by
          by_cases h : s.length ≤ 64
          · rw [Nat.min_eq_left h, List.drop_length, List.drop_eq_nil_of_le h, List.take_nil]
          · rw [Nat.min_eq_right (by omega), List.take_of_length_le (by simp)]
        rw [e2]
        repeat (first | refine stepA ?_ | intro _)
        exact ⟨rfl, (s.drop 64, H2), ⟨by simp only [List.length_drop]; omega, hI2⟩, by simp only [List.length_drop]; omega, sublA, Sub.ofPerm (hp2.symm.trans permA)⟩
      · repeat (first | refine stepA ?_ | intro _)
        (first | refine retA ?_ | refine retB ?_)
        exact ⟨_, .inr hb, Sub.refl _⟩
end Go.Proofs.YtcpfmjlceoiofaaGreatDoor

/-
  From a walk to a row: a law that returns true and leaves each block as it was: its arguments read as they did.
-/
namespace Go.Proofs.YtcpfmjlceoiofaaGreatDoor
open Go.ChangeShapes Go.WideShapes Go.ChangeAt Go.RowKit

section
variable {H : Type} {enc : TypeId × Value → H} {P : Program} {base : Nat}
theorem trodAll_stays (hl : laidOutB P = true) {W W' : World} {sp' : Nat → Bool} : ∀ {ts : List TypeId} {vs : List Value} {ds : List (DataW H)} {ps : List MemPlace},
    DataW.TrodAll enc P W base (fun _ => true) true ts vs ds ps → (∀ t ∈ ts, P.readableRec t = true ∧ t < P.types.size) → (∀ p ∈ ps, W.sameAt W' p) → (∀ p ∈ ps, sp' p.block = true) →
    DataW.TrodAll enc P W' base sp' true ts vs ds ps
  | [], [], [], ps, h, _, _, _ => h
  | t :: ts, v :: vs, d :: ds, ps, h, hr, hs, hb => by
    obtain ⟨p, q, h1, h2, rfl⟩ := h
    have hr1 := hr t (by simp)
    exact ⟨p, q, WideElems.Trod_stays hl hr1.1 hr1.2 h1 (fun x hx => hs x (by simp [hx])) (fun x hx => hb x (by simp [hx])),
      trodAll_stays hl h2 (fun u hu => hr u (by simp [hu])) (fun x hx => hs x (by simp [hx])) (fun x hx => hb x (by simp [hx])), rfl⟩
  | [], [], _ :: _, _, h, _, _, _ => h.elim
  | [], _ :: _, _, _, h, _, _, _ => h.elim
  | _ :: _, [], _, _, h, _, _, _ => h.elim
  | _ :: _, _ :: _, [], _, h, _, _, _ => h.elim
end
theorem Fr.same {W W' : World} (h : Fr [] W W') {p : MemPlace} (hp : p.block < W.heap.size) : W.sameAt W' p := by
  have hb := h.block p.block hp (by simp)
  cases p with
  | cell b off =>
    simp only [MemPlace.block] at hb hp
    simp only [World.sameAt, World.cell?]
    rw [hb]
  | map b => exact hb
theorem Fr.keptBut {W W' : World} (h : Fr [] W W') (may : MemPlace → Prop) : W.keptBut W' may := by
  refine ⟨h.os, h.output, fun i hi => ?_⟩
  have hb := h.block i hi (by simp)
  rw [hb]
  cases hq : W.heap[i]? with
  | none => rfl
  | some o => cases o <;> simp
section
variable {H : Type} {enc : TypeId × Value → H} {P : Program}
theorem post_true {f : Func} {s : ChangeSpec} {apart fresh handsOn : Bool} {W W' : World} {args : Array Value} {ds gs : List (DataW H)} {before : List MemPlace} {tb : TypeId}
    (hW : DataW.Whole enc P f.params.toList s.vars apart W args.toList ds gs before) (hv : s.vars = []) (hfn : s.fn H (ds ++ gs) = { results := [.lit (.bool true)], args := ds, vars := [] })
    (hrt : f.resultTypes = #[tb]) (htb : P.underlying tb = some .bool) (hl : laidOutB P = true) (hr : ∀ t ∈ f.params.toList, P.readableRec t = true ∧ t < P.types.size) (hfr : Fr [] W W') :
    s.post enc P f apart fresh handsOn false W args (.bool true) W' := by
  have hlt : ∀ p ∈ before, p.block < W.heap.size := fun p hp => hW.lt p hp
  have hW2 := hW
  obtain ⟨p, q, hA, hV, rfl, hfz, hnd⟩ := hW2
  have hp2 : ∀ x ∈ p, x.block < W.heap.size := fun x hx => hlt x (by simp [hx])
  refine ⟨ds, gs, _, [], p, [], hW, ?_, ?_, ?_, hfr.keptBut _, fun h => by cases h⟩
  · rw [hfn, hrt]
    exact trodAll_cons_mk (shut_bool htb _) trodAll_mk0
  · rw [hfn]
    exact trodAll_stays hl hA hr (fun x hx => hfr.same (hp2 x hx)) (fun x hx => by simpa using hp2 x hx)
  · rw [hfn, hv]; rfl
end
end Go.Proofs.YtcpfmjlceoiofaaGreatDoor

/-
  Arguments opened: plain cells, structs of plain cells, slices of either.
-/
namespace Go.Proofs.YtcpfmjlceoiofaaGreatDoor
open Go.ChangeShapes Go.WideShapes Go.ChangeAt Go.RowKit

/-- a plain cell's kind -/
inductive CK where
  | int (k : IntKind)
  | str
  | bool
def CK.desc : CK → TypeDesc
  | .int k => .int k
  | .str => .string
  | .bool => .bool
def CK.fit : CK → Value → Prop
  | .int k, v => ∃ n, v = .int k n ∧ (Lit.int k n).wf = true
  | .str, v => ∃ s : List UInt8, v = Go.Proofs.YtcpfmjlceoiofaaGreatDoor.str s ∧ s.length ≤ maxLen
  | .bool, v => ∃ b, v = .bool b
def FitAll (ks : List CK) (cs : List Value) : Prop := cs.length = ks.length ∧ ∀ (j : Nat) (c : CK), ks[j]? = some c → ∃ v, cs[j]? = some v ∧ c.fit v
section
variable {H : Type} {enc : TypeId × Value → H} {P : Program} {w : World} {base : Nat} {spare : Nat → Bool} {held : Bool} {fuel : Nat} {cs : List Value} {x : DataW H × List MemPlace} {t : TypeId}
theorem fit_cell {c : CK} (ht : P.underlying t = some c.desc) (h : DataW.trod enc P w base spare held fuel t cs = some x) : ∃ v, cs = [v] ∧ c.fit v := by
  cases c with
  | int k => obtain ⟨n, rfl, _, hw⟩ := DataW.trod_int ht h; exact ⟨_, rfl, n, rfl, hw⟩
  | str =>
    obtain ⟨s, rfl, _, hs⟩ := DataW.trod_string ht h
    refine ⟨_, rfl, s.data.toList, ?_, ?_⟩
    · obtain ⟨⟨b⟩⟩ := s; rfl
    · obtain ⟨⟨b⟩⟩ := s; simpa [ByteArray.size] using hs
  | bool => obtain ⟨b, rfl, _⟩ := DataW.trod_bool ht h; exact ⟨_, rfl, b, rfl⟩
theorem fit_one {c : CK} (ht : P.underlying t = some c.desc) (h : DataW.trod enc P w base spare held fuel t cs = some x) : FitAll [c] cs := by
  obtain ⟨v, rfl, hv⟩ := fit_cell ht h
  refine ⟨rfl, fun j d hj => ?_⟩
  match j with
  | 0 => simp at hj; subst hj; exact ⟨v, rfl, hv⟩
  | j + 1 => simp at hj
theorem fit_struct {fs : Array Field} {ks : List CK} (ht : P.underlying t = some (.struct fs)) (hc : P.cellsOf t = ks.length)
    (hk : fs.toList.map (fun f => (f.offset, P.cellsOf f.type, P.underlying f.type)) = ks.mapIdx (fun i c => (i, 1, some c.desc)))
    (h : DataW.trod enc P w base spare held fuel t cs = some x) : FitAll ks cs := by
  obtain ⟨xs, n, rfl, _, hl, hxl, hx⟩ := DataW.trod_struct ht h
  refine ⟨hl.trans hc, fun j c hj => ?_⟩
  have hj2 : (ks.mapIdx (fun i c => (i, 1, some c.desc)))[j]? = some (j, 1, some c.desc) := by simp [hj]
  rw [← hk, List.getElem?_map] at hj2
  cases hf : fs.toList[j]? with
  | none => simp [hf] at hj2
  | some f =>
    simp only [hf, Option.map_some, Option.some.injEq, Prod.mk.injEq] at hj2
    obtain ⟨h1, h2, h3⟩ := hj2
    have h4 := hx j f (by simpa using hf)
    have hjl : j < xs.length := by
      rw [hxl]
      have := (List.getElem?_eq_some_iff.1 hf).1
      simpa using this
    rw [h1, h2, List.getElem?_eq_getElem hjl] at h4
    obtain ⟨v, hv, hfit⟩ := fit_cell h3 h4
    refine ⟨v, ?_, hfit⟩
    have : ((cs.drop j).take 1)[0]? = some v := by rw [hv]; rfl
    simpa [List.getElem?_take, List.getElem?_drop] using this
end
/-- a slice that was handed in: it holds nothing, or it lies in a block -/
def SlIn (W : World) (p : Option Addr) (len : Nat) (ks : List CK) : Prop :=
  len = 0 ∨ ∃ g o C E fr, p = some ⟨g, o, none⟩ ∧ W.heap[g]? = some (.cells C E fr) ∧ ∀ i, i < len → ∀ (j : Nat) (c : CK), ks[j]? = some c → ∃ v, C.toList[o + i * ks.length + j]? = some v ∧ c.fit v
section
variable {H : Type} {enc : TypeId × Value → H} {P : Program} {W : World}
theorem add_off (g o n : Nat) : (⟨g, o, none⟩ : Addr).add n = ⟨g, o + n, none⟩ := by unfold Addr.add; split <;> simp_all
theorem open_sl {t e : TypeId} {r : Reach} {b0 base : Nat} {v : Value} {d : DataW H} {ps : List MemPlace} {held : Bool} {ks : List CK} {sp : Nat → Bool} (ht : P.underlying t = some (.slice e)) (hc : P.cellsOf e = ks.length) (h0 : 0 < ks.length)
    (hfit : ∀ n cs x, DataW.trod enc P W base sp held n e cs = some x → FitAll ks cs)
    (hval : Value.okWide P W r b0 t v) (hd : DataW.Trod enc P W base sp held t v d ps) : ∃ p len cap, v = .slice p len cap ∧ len ≤ cap ∧ cap ≤ maxLen ∧ SlIn W p len ks := by
  obtain ⟨a, len, cap, rfl⟩ := okWide_slice ht hval
  obtain ⟨fuel, hf⟩ := hd
  rcases Go.Deep.open_slice ht hf with ⟨h1, _⟩ | ⟨a', len', cap', m, n, D, Pl, h1, hb, hl, hm, hmm, _, hx⟩
  · simp [Value.cells] at h1
    obtain ⟨rfl, rfl, rfl⟩ := h1
    exact ⟨_, _, _, rfl, Nat.le_refl _, Nat.zero_le _, .inl rfl⟩
  · simp [Value.cells] at h1
    obtain ⟨rfl, rfl, rfl⟩ := h1
    refine ⟨_, _, _, rfl, hl, hm, ?_⟩
    by_cases hz : len = 0
    · exact .inl hz
    · right
      have hlm : len ≤ m := by rw [hmm]; split <;> omega
      have key : ∀ i, i < len → ∀ (j : Nat) (c : CK), ks[j]? = some c → ∃ v, W.cell? ((a'.add (i * ks.length)).add j) = some v ∧ c.fit v := by
        intro i hi j c hj
        obtain ⟨cs', h2, h3⟩ := hx i (by omega)
        rw [hc] at h2
        obtain ⟨_, hcl, hcell⟩ := World.cells?_some h2
        obtain ⟨v, hv, hfv⟩ := (hfit _ _ _ h3).2 j c hj
        have hjk : j < ks.length := (List.getElem?_eq_some_iff.1 hj).1
        exact ⟨v, by rw [hcell j hjk, hv], hfv⟩
      obtain ⟨c0, hc0⟩ : ∃ c, ks[0]? = some c := ⟨ks[0], by simp⟩
      obtain ⟨v0, hv0, _⟩ := key 0 (by omega) 0 c0 hc0
      obtain ⟨g, o, spot⟩ := a'
      have e0 : ((⟨g, o, spot⟩ : Addr).add (0 * ks.length)).add 0 = ⟨g, o, spot⟩ := by simp [Addr.add]
      rw [e0] at hv0
      unfold World.cell? at hv0
      simp only at hv0
      cases hh : W.heap[g]? with
      | none => simp [hh] at hv0
      | some ob =>
        cases ob with
        | cells C E fr =>
          simp only [hh] at hv0
          cases hs : spot with
          | some q => simp [hs] at hv0
          | none =>
            subst hs
            refine ⟨g, o, C, E, fr, rfl, hh, fun i hi j c hj => ?_⟩
            obtain ⟨v, hv, hfv⟩ := key i hi j c hj
            rw [add_off, add_off] at hv
            unfold World.cell? at hv
            simp [hh] at hv
            exact ⟨v, by simpa using hv, hfv⟩
        | _ => simp [hh] at hv0
theorem open_agg {t : TypeId} {fs : Array Field} {r : Reach} {b0 base : Nat} {v : Value} {d : DataW H} {ps : List MemPlace} {held : Bool} {ks : List CK} {sp : Nat → Bool} (ht : P.underlying t = some (.struct fs))
    (hfit : ∀ n cs x, DataW.trod enc P W base sp held n t cs = some x → FitAll ks cs)
    (hval : Value.okWide P W r b0 t v) (hd : DataW.Trod enc P W base sp held t v d ps) : ∃ cs : List Value, v = .agg cs.toArray ∧ FitAll ks cs := by
  obtain ⟨cs, rfl, _⟩ := okWide_struct ht hval
  obtain ⟨n, hn⟩ := hd
  exact ⟨cs.toList, by simp, hfit _ _ _ hn⟩
theorem open_str {t : TypeId} {r : Reach} {b0 base : Nat} {v : Value} {d : DataW H} {ps : List MemPlace} {held : Bool} {sp : Nat → Bool} (ht : P.underlying t = some .string)
    (hval : Value.okWide P W r b0 t v) (hd : DataW.Trod enc P W base sp held t v d ps) : ∃ s : List UInt8, v = str s ∧ s.length ≤ maxLen := by
  obtain ⟨s, rfl⟩ := okWide_string ht hval
  obtain ⟨n, hn⟩ := hd
  obtain ⟨v, hv, s', hs', hl⟩ := fit_cell (c := .str) ht hn
  simp [Value.cells] at hv
  exact ⟨s', by rw [hv]; exact hs', hl⟩
end
/-- the world holds the block; a walk that leaves the block as it was leaves all as it was -/
theorem has_one {W : World} {g : Nat} {C : Array Value} {E : TypeId} {fr : Nat × Nat} (h : W.heap[g]? = some (.cells C E fr)) : Has [(g, .oth (.cells C E fr))] W :=
  ⟨by simp [keys], fun b k hm => by simp at hm; obtain ⟨rfl, rfl⟩ := hm; exact h⟩
theorem calls_kept {P : Program} {f : FuncId} {args : List Value} {W : World} {Hs : Hp} (hs : Spec P f args Hs fun v H' => v = .bool true ∧ H' = Hs) (hh : Has Hs W) :
    Calls P f args.toArray W fun e w' => e = .returned (.bool true) ∧ Fr [] W w' := by
  refine Calls.mono (hs W hh) ?_
  rintro e w' ⟨v, H', rfl, ⟨rfl, rfl⟩, h1, h2, h3⟩
  refine ⟨rfl, h2.os, h2.tape, h2.output, h2.size, fun k hk _ => ?_⟩
  by_cases hm : k ∈ keys H'
  · obtain ⟨⟨b, o⟩, hx, rfl⟩ := List.mem_map.1 hm
    exact (h1.rd b o hx).trans (hh.rd b o hx).symm
  · exact h2.block k hk hm
end Go.Proofs.YtcpfmjlceoiofaaGreatDoor

/-
  TopOrphans: closed facts of the row.
-/
namespace Go.Proofs.YtcpfmjlceoiofaaGreatDoor.topOrphans
theorem j0 : (Rows.topOrphansRow.wf (OpenSpec.ofChange Rows.topOrphansSpec)) = true := by kernel_rfl
theorem j3 : (Tryz.f5.params.all (Tryz.prog.readableRec ·)) = true := by kernel_rfl
theorem j4 : (namedTie Tryz.prog Rows.topOrphansRow.named Rows.topOrphansSpec.vars) = true := by kernel_rfl
theorem j5 : ((Rows.topOrphansRow.stops == [])) = true := by kernel_rfl
theorem j7 : ((Rows.topOrphansRow.knobs == [])) = true := by kernel_rfl
theorem j13 : ((Rows.topOrphansRow.maps == (Tryz.f5.params.toList ++ Rows.topOrphansSpec.plain.varTypes Tryz.prog).any (Tryz.prog.mapsRec ·))) = true := by kernel_rfl
theorem j14 : ((Rows.topOrphansRow.ifaces == (Tryz.f5.params.toList ++ Rows.topOrphansSpec.plain.varTypes Tryz.prog).any (Tryz.prog.ifacesRec ·))) = true := by kernel_rfl
theorem j15 : ((Rows.topOrphansRow.mapsOut == Tryz.prog.mapsAmong Tryz.f5.resultTypes.toList)) = true := by kernel_rfl
theorem j16 : ((Rows.topOrphansRow.loops == (Tryz.f5.params.toList ++ Rows.topOrphansSpec.plain.varTypes Tryz.prog).any (Tryz.prog.loopsFrom ·))) = true := by kernel_rfl
theorem j17 : ((Rows.topOrphansRow.wideKeys == (Tryz.f5.params.toList ++ Rows.topOrphansSpec.plain.varTypes Tryz.prog ++ Tryz.f5.resultTypes.toList).any (Tryz.prog.wideKeysFrom ·))) = true := by kernel_rfl
theorem j18 : (Rows.topOrphansSpec.vars.all (Tryz.prog.varReadable ·)) = true := by kernel_rfl
theorem j19 : (Tryz.f5.resultTypes.all (fun t => Tryz.prog.readableRec t && decide (t < Tryz.prog.types.size))) = true := by kernel_rfl
theorem j20 : ((Rows.topOrphansRow.ifacesOut == Tryz.f5.resultTypes.toList.any (Tryz.prog.ifacesRec ·))) = true := by kernel_rfl
theorem j21 : ((Rows.topOrphansRow.loopsOut == Tryz.f5.resultTypes.toList.any (Tryz.prog.loopsFrom ·))) = true := by kernel_rfl
theorem j23 : (Rows.topOrphansRow.shortTexts.isNone) = true := by kernel_rfl
theorem j28 : ((Rows.topOrphansRow.kinds == (if Rows.topOrphansRow.domain.isEmpty then [] else Tryz.f5.params.toList.map fun t => match Tryz.prog.underlying t with | some (.int k) => some k | _ => none))) = true := by kernel_rfl
theorem j29 : ((Rows.topOrphansRow.pinned == Rows.topOrphansRow.pinnedBy)) = true := by kernel_rfl
theorem j30 : ((Rows.topOrphansRow.veiled == (Tryz.f5.params.toList ++ Rows.topOrphansSpec.plain.varTypes Tryz.prog ++ Tryz.f5.resultTypes.toList).any (Tryz.prog.veiledRec ·))) = true := by kernel_rfl
theorem j31 : (Rows.topOrphansRow.veiledFits Tryz.prog Tryz.f5.params.toList (Tryz.f5.params.toList ++ Rows.topOrphansSpec.plain.varTypes Tryz.prog ++ Tryz.f5.resultTypes.toList)) = true := by kernel_rfl
end Go.Proofs.YtcpfmjlceoiofaaGreatDoor.topOrphans

/-
  TopOrphans: the closed facts of the row, put together.
-/
namespace Go.Proofs.YtcpfmjlceoiofaaGreatDoor.topOrphans
theorem andT {a b : Bool} (h1 : a = true) (h2 : b = true) : (a && b) = true := by rw [h1, h2]; rfl
set_option maxRecDepth 100000 in
theorem closed : joinedFacts Tryz.prog 5 Tryz.f5 Rows.topOrphansSpec Rows.topOrphansRow = true := by
  unfold joinedFacts
  exact andT (andT (andT (andT (andT (andT (andT (andT (andT (andT (andT (andT (andT (andT (andT (andT (andT (andT (andT (andT (andT (andT (andT (andT (andT (andT (andT (andT (andT (andT (andT j0 j1) j2) j3) j4) j5) j6) j7) j8) j9) j10) j11) j12) j13) j14) j15) j16) j17) j18) j19) j20) j21) j22) j23) j24) j25) j26) j27) j28) j29) j30) j31
end Go.Proofs.YtcpfmjlceoiofaaGreatDoor.topOrphans
