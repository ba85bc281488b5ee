/- Contracts of library functions, from the kit's shelf. -/
import Derived.Test.YtpgikdaeicidaaaGreatDoorDvC
import Derived.Shelf.Spec.SlicesGrow
import Derived.Shelf.Small.Strs
import Derived.Shelf.SlLaysN
import Derived.Shelf.RegionOpenPlain
import Derived.Deep.LoopGhost
import Derived.Lib.Walk
import Derived.Lib.SliceRun
import Derived.Laws.AppendOwn
import Derived.Shelf.Spec.SlicesInsert
import Derived.Shelf.Spec.SlicesInsertGrow
import Derived.ProofKit
import Derived.Laws.BitsLemmas
import Derived.OpenShut
import Derived.ShutString
import Derived.ChangeOld
import Derived.Below
import Derived.SizedLaws
set_option linter.all false
namespace Go.Dv
open Go.RowKit
variable [LTab]
theorem z1t {P : Program} {f : FuncId} {fn : Func} {c : Code} (hf : P.funcs[f]? = some fn) (hb : fn.body = some c) (hname : (fn.name == "runtime.NumGoroutine") = false) (w' : World) (args : Array Value) : (callFunc f args).run P w' = .ok (.enter f args) w' := by
  simp [callFunc, Sem.run_bind, run_program, Result.andThen_ok, hf, hb, (by simpa using hname : ¬ fn.name = "runtime.NumGoroutine")]
theorem xd5 {w : World} {S : Nat → Prop} (hlow : ∀ b, S b → b < w.heap.size) : MemRel w S g0 m0 (fun k => k < w.heap.size) :=
  ⟨fun n q hq => (by cases hq), hlow, fun n n' q q' b hq => (by cases hq), fun n q b hq => (by cases hq)⟩
theorem zz1 {w : World} {S : Nat → Prop} (hlow : ∀ b, S b → b < w.heap.size) {ash : Sh} {o : RS} {l : List RS} {F : ash.T → Option (resT o l)} {avs : List AV} {vals : List Value} {r : AV} (hrep : RepAs w S g0 m0 avs vals) (h : (X0 ash o l F).run avs some = some r) :
    ∃ v t, F v = some t ∧ yqo o l t some = some r ∧ RepAs w S g0 m0 (mkL ash v) vals := by
  simp only [Ctr.run, X0] at h
  split at h
  · rename_i o' ho'
    split at ho'
    · rename_i v hv
      cases ho'
      split at h
      · rename_i t ht
        have hren : Ren g0 m0 [] m0 g0 := ⟨fun n d h => (by cases h), fun n h => (by cases h)⟩
        obtain ⟨xs1, xs2, vs1, e1, e2, k1, k2, k3⟩ := y5a (xd5 hlow) hren ash avs [] v vals (z1x hv) hrep
        rw [show xs2 = [] from k2, List.append_nil] at e1
        subst e1
        exact ⟨v, t, ht, h, k1⟩
      · cases h
    · cases ho'
  · cases h
def xdz (ty : Ty) (b : Nat) (v : Unit × Int) : Option (List ty.T) := gd (decide (0 ≤ v.2) && fits v.2.toNat b) (some [])
theorem x5w {P : Program} {ρ : Shelf.Ren} (L : Proofs.Lays8.n4 P ρ) {ei : TI} {ty : Ty} (h1 : TIok P (ρ.t 25) ei) (h2 : ei.ty = some ty) {fn : Func} {c : Code} (hf : P.funcs[ρ.f 4]? = some fn) (hb : fn.body = some c) (hname : (fn.name == "runtime.NumGoroutine") = false) :
    Y7 P (ρ.f 4) fun avs => (X0 (.cons .nils (.int .i64)) (.fresh ty) [] (xdz ty ei.bytes)).run avs some := by
  intro w S avs vals r hlow hrep h
  refine ⟨z1t hf hb hname, ?_⟩
  obtain ⟨v, t, hF, hout, hvals⟩ := zz1 hlow hrep h
  obtain ⟨v1, n⟩ := v
  obtain ⟨u, us, rfl, k1, u2, us2, rfl, k2, k3⟩ := hvals
  rw [show us2 = [] from k3]
  simp only [RepA] at k1 k2
  subst k1; subst k2
  obtain ⟨hc, hF⟩ := W2 hF
  cases hF
  simp only [Bool.and_eq_true, decide_eq_true_eq, fits] at hc
  obtain ⟨n0, n1, n2⟩ := hc
  obtain ⟨i, z, z1, z2, z3, z4, z5, z6⟩ := h1.inf
  obtain ⟨y1, y2, y3, y4⟩ := h1.ty ty h2
  have hr : r = .fresh ty [] := by
    have : some (AV.fresh ty []) = some r := hout
    cases this; rfl
  subst hr
  have n0 : (0 : Int) ≤ n := n0
  obtain ⟨k, hk0⟩ : ∃ k : Nat, (n : Int) = (k : Int) := ⟨Int.toNat n, (Int.toNat_of_nonneg n0).symm⟩
  subst hk0
  simp only [Int.toNat_natCast] at n1 n2
  have mx : maxB = 4398046511104 := rfl
  by_cases hk : k = 0
  · subst hk
    refine (Proofs.Any8.slices_Grow_room L none 0 0 0 w (by omega) (by omega) (by omega) (by omega)).mono fun e w' => ?_
    rintro ⟨rfl, rfl⟩
    refine ⟨_, S, [⟨none, 0⟩], rfl, Below.refl _ _, fun _ h => h, fun _ h => .inl h, ⟨_, rfl, rfl, ⟨Nat.le_refl _, Nat.zero_le _, fun _ => rfl, fun a ha => (by cases ha)⟩⟩, ⟨fun l hl b hb => ?_, List.pairwise_singleton _ _⟩⟩
    simp only [List.mem_singleton] at hl
    subst hl; cases hb
  · refine (Proofs.Any8.slices_Grow_grow L i z z1 z4 (by omega) none 0 0 k [] w (by omega) (by omega) (by rw [z3, Nat.zero_add]; omega) (by omega) (by simp) (fun _ => rfl) (fun a ha => (by cases ha))).mono fun e w' => ?_
    rintro ⟨rfl, rfl⟩
    have hge := grownCap_ge w (0 + k) 0 (ρ.t 25)
    have hle := grownCap_le_maxLen w (0 + k) 0 (ρ.t 25) (by unfold maxLen; omega)
    have hbel : Below w.heap.size w (w.drew.alloc (.cells (#[] ++ Builtin.zeroCells z.cells (0 + k - 0) ++ Builtin.zeroCells z.cells (grownCap w (0 + k) 0 (ρ.t 25) - (0 + k))) (ρ.t 25))) := (Below.refl _ _).drew.alloc (Nat.le_refl _) _
    have hheap := heap_alloc_new w.drew (.cells (#[] ++ Builtin.zeroCells z.cells (0 + k - 0) ++ Builtin.zeroCells z.cells (grownCap w (0 + k) 0 (ρ.t 25) - (0 + k))) (ρ.t 25))
    refine ⟨_, S, [⟨some ⟨w.heap.size, 0, none⟩, grownCap w (0 + k) 0 (ρ.t 25)⟩], rfl, hbel, fun _ h => h, fun _ h => .inl h, ⟨_, rfl, rfl, ⟨Nat.zero_le _, hle, fun e => (by cases e), fun a ea => ?_⟩⟩, ⟨fun l hl b hb => ?_, List.pairwise_singleton _ _⟩⟩
    · cases ea
      refine ⟨w.heap.size, _, ρ.t 25, (0, 0), rfl, hheap, ?_, fun i _ hi => by simp at hi, fun i x hx => by simp [getq] at hx, fun _ hs => ?_, fun e => (by cases e)⟩
      · simp only [Array.size_append, size_zeroCells, z6, ← y1, ← Nat.add_mul]
        simp only [List.size_toArray, List.length_nil, Array.size_empty, Nat.zero_add, ← Nat.add_mul]
        congr 1
        have e0 : (0 : Nat) + k = k := Nat.zero_add k
        rw [e0] at hge
        omega
      · have := hlow _ hs; omega
    · simp only [List.mem_singleton] at hl
      subst hl
      simp [Loc.blk] at hb
      have h : ¬ b < w.heap.size := by omega
      exact h
def cmpS (a b : List UInt8) : Int := Lib.compareBytes a b
theorem x8x {P : Program} {ρ : Shelf.Ren} (L : Proofs.Lays.n213 P ρ) {fn : Func} {c : Code} (hf : P.funcs[ρ.f 213]? = some fn) (hb : fn.body = some c) (hname : (fn.name == "runtime.NumGoroutine") = false) :
    Y7 P (ρ.f 213) fun avs => (X0 (.cons .str .str) (.int .i64) [] (fun v => some (cmpS v.1 v.2))).run avs some := by
  intro w S avs vals r hlow hrep h
  refine ⟨z1t hf hb hname, ?_⟩
  obtain ⟨v, t, hF, hout, hvals⟩ := zz1 hlow hrep h
  obtain ⟨a, b⟩ := v
  obtain ⟨u, us, rfl, k1, u2, us2, rfl, k2, k3⟩ := hvals
  rw [show us2 = [] from k3]
  simp only [RepA] at k1 k2
  subst k1; subst k2
  cases hF
  have hr : r = .int .i64 (cmpS a b) := by
    have : some (AV.int .i64 (cmpS a b)) = some r := hout
    cases this; rfl
  subst hr
  refine (Proofs.Any.bytealg_CompareString L _ _ w).mono fun e w' => ?_
  rintro ⟨rfl, rfl⟩
  exact ⟨_, S, [], rfl, Below.refl _ _, fun _ h => h, fun _ h => .inl h, ⟨rfl, rfl⟩, ⟨fun l hl => (by cases hl), List.Pairwise.nil⟩⟩
end Go.Dv

/- slices.Clone, at any type of elements: what it does, and its contract. -/
namespace Go.Dv
open Go.RowKit Go.Lib Go.Shelf Go.Proofs
structure CloneL (P : Program) (ρ : Shelf.Ren) : Prop where
  mixed : P.follows .mixedOrders = true
  f41 : Bears P (ρ.f 41) (SlBodyN.n41 ρ)
  t4 : P.underlying (ρ.t 4) = some .bool
  a4 : ∀ w, (isAgg (ρ.t 4)).run P w = .ok false w
  z4 : ∀ w, (Go.sizeOf (ρ.t 4)).run P w = .ok 1 w
  v4 : ∀ w, (zeroValue (ρ.t 4)).run P w = .ok (Value.bool false) w
  t22 : P.underlying (ρ.t 22) = some (.slice (ρ.t 23))
  a22 : ∀ w, (isAgg (ρ.t 22)).run P w = .ok false w
  z22 : ∀ w, (Go.sizeOf (ρ.t 22)).run P w = .ok 1 w
  v22 : ∀ w, (zeroValue (ρ.t 22)).run P w = .ok (Value.slice none 0 0) w
section
variable {P : Program} {ρ : Shelf.Ren}
set_option maxHeartbeats 2000000 in
set_option maxRecDepth 100000 in
theorem x69 (L : CloneL P ρ) (i0 : TypeInfo) (z : Value) (k by' : Nat) (hi : P.info? (ρ.t 23) = some i0) (hz0 : i0.zero = some z) (hz1 : i0.size = k) (hz2 : i0.bytes = by') (hzs : z.cells.size = k) (hk : 0 < k)
    (b off n c : Nat) (news : List Value) (w : World) (hl : news.length = n * k) (hbig : n * by' ≤ 140737488355328) (h63 : n ≤ maxLen) (h1 : ∀ u ∈ news, u.oneCell' = true) (hc : ∀ j u, news[j]? = some u → w.cell? ⟨b, off + j, none⟩ = some u) :
    Calls P (ρ.f 41) #[.slice (some ⟨b, off, none⟩) n c] w fun e w' => ∃ v', e = .returned v' ∧ w'.ownsRow w.heap.size (ρ.t 23) k v' n news ∧ v' ≠ .slice none 0 0 ∧ Below w.heap.size w w' := by
  have mixed := L.mixed; have t4 := L.t4; have a4 := L.a4; have z4 := L.z4; have v4 := L.v4; have t22 := L.t22; have a22 := L.a22; have z22 := L.z22; have v22 := L.v22
  have q22 : ∀ (w : World) (a : Option Addr) (n c n' c' : Nat), (binOp .eql (ρ.t 22) (.slice a n c) (.slice none n' c')).run P w = .ok (.bool a.isNone) w := fun w a n c n' c' => Lib.run_eql_slice_nil w _ _ a n c n' c' L.t22
  have u22 : ∀ w, Sem.run P (underlying (ρ.t 22)) w = .ok (TypeDesc.slice (ρ.t 23)) w := run_underlying t22
  have z23 : ∀ w, (Go.sizeOf (ρ.t 23)).run P w = .ok k w := fun w => by simp [Go.sizeOf, typeInfo, hi, hz1]
  have A : Aside (∀ j u, news[j]? = some u → w.cell? ⟨b, off + j, none⟩ = some u) := hc
  have A1 : Aside (∀ u ∈ news, u.oneCell' = true) := h1
  clear hc h1
  obtain ⟨_, _, FG⟩ := L.f41
  go_enter FG, SlBodyN.n41_ntmps ρ
  go_wp2_with (at_builtin; refine wpList_append_own _ rfl _ _ (ρ.t 22) rfl w.heap.size (ρ.t 23) i0 z k by' t22 hi hz0 hz1 hz2 hzs hk _ _ _ rfl (World.ownsRow_made w #[] 0 (Nat.le_refl _) (Nat.zero_le _) (by simp)) ⟨b, off, none⟩ n c news rfl ?qc1 ?qc2 ?qc3 ?qc4 ?qc5 ?qc6 ?_)
  case qc1 => exact hl
  case qc2 =>
    intro j u hj
    rw [Addr.add_lit]
    exact Lib.cell?_alloc_some _ (A.out j u hj)
  case qc3 => exact A1.out
  case qc4 => omega
  case qc5 => rw [Nat.zero_add]; exact hbig
  case qc6 => simp
  intro v' w1 hown hgrow hnil
  go_wp2
  go_ret
  refine ⟨v', rfl, by simpa using hown, ?_, ?_⟩
  · exact hnil
  · exact ((Below.refl _ w).alloc (Nat.le_refl _) _).grown hgrow (by simp) (by intro k hk; simp [Value.ownBlock] at hk; omega)
set_option maxHeartbeats 1000000 in
theorem x8y (L : CloneL P ρ) (n c : Nat) (w : World) : Calls P (ρ.f 41) #[.slice none n c] w fun e w' => e = .returned (.slice none 0 0) ∧ w' = w := by
  have mixed := L.mixed; have t4 := L.t4; have a4 := L.a4; have z4 := L.z4; have v4 := L.v4; have t22 := L.t22; have a22 := L.a22; have z22 := L.z22; have v22 := L.v22
  have q22 : ∀ (w : World) (a : Option Addr) (n c n' c' : Nat), (binOp .eql (ρ.t 22) (.slice a n c) (.slice none n' c')).run P w = .ok (.bool a.isNone) w := fun w a n c n' c' => Lib.run_eql_slice_nil w _ _ a n c n' c' L.t22
  obtain ⟨_, _, FG⟩ := L.f41
  go_enter FG, SlBodyN.n41_ntmps ρ
  go_wp2
  go_ret
  exact ⟨rfl, rfl⟩
end
section
variable [LTab] {P : Program} {ρ : Shelf.Ren}
theorem x5q {w : World} {S : Nat → Prop} {t : Ty} {xs : List t.T} {b off n cap : Nat} (ht : 0 < t.size) (h : RepT w S (.list t) xs [.slice (some ⟨b, off, none⟩) n cap]) :
    ∃ news, news.length = List.length xs * t.size ∧ (∀ j u, news[j]? = some u → w.cell? ⟨b, off + j, none⟩ = some u) ∧ Rows w S t news xs ∧ ∀ u ∈ news, u.oneCell' = true := by
  obtain ⟨ao, cap', hu, hle, hnil, hsp, hel⟩ := h
  simp only [List.cons.injEq, Value.slice.injEq, and_true] at hu
  obtain ⟨rfl, _, _⟩ := hu
  have hcell : ∀ q, q < List.length xs * t.size → ∃ u, w.cell? ⟨b, off + q, none⟩ = some u ∧ u.oneCell' = true := by
    intro q hq
    have hi : q / t.size < List.length xs := by rw [Nat.div_lt_iff_lt_mul ht]; exact hq
    have hj : q % t.size < t.size := Nat.mod_lt _ ht
    obtain ⟨a', c, e1, _, e2, e3⟩ := hel (q / t.size) (xs[q / t.size]'hi) (List.getElem?_eq_getElem hi)
    cases e1
    have hcl := e2.length
    have hjc : q % t.size < c.length := by omega
    refine ⟨c[q % t.size], ?_, e2.one _ (List.getElem_mem hjc)⟩
    have := e3 (q % t.size) c[q % t.size] (List.getElem?_eq_getElem hjc)
    rw [← this]
    congr 2
    have := Nat.div_add_mod q t.size
    rw [Nat.mul_comm] at this
    simp only at *
    omega
  refine ⟨(List.range (List.length xs * t.size)).map fun q => (w.cell? ⟨b, off + q, none⟩).getD undef, by simp, ?_, ?_, ?_⟩
  · intro j v hj
    have hjl := (List.getElem?_eq_some_iff.1 hj).1
    simp only [List.length_map, List.length_range] at hjl
    obtain ⟨u, hu, _⟩ := hcell j hjl
    have hj' : some u = some v := by rw [← hj]; simp [hjl, hu]
    rw [hu]; exact hj'
  · intro i y hy
    obtain ⟨a', c, e1, _, e2, e3⟩ := hel i y hy
    cases e1
    refine ⟨c, e2, fun j u hj => ?_⟩
    have hjl := (List.getElem?_eq_some_iff.1 hj).1
    have hcl := e2.length
    have hle := z6r (s := t.size) (zg5 hy)
    have := e3 j u hj
    have hlt : i * t.size + j < List.length xs * t.size := by omega
    simp only [Nat.add_assoc] at this
    simp [hlt, this]
  · intro u hu
    simp only [List.mem_map, List.mem_range] at hu
    obtain ⟨q, hq, rfl⟩ := hu
    obtain ⟨u, hu, h1⟩ := hcell q hq
    rw [hu]; exact h1
theorem x2x (L : CloneL P ρ) {ei : TI} {ty : Ty} (h1 : TIok P (ρ.t 23) ei) (h2 : ei.ty = some ty) {fn : Func} {c : Code} (hf : P.funcs[ρ.f 41]? = some fn) (hb : fn.body = some c) (hname : (fn.name == "runtime.NumGoroutine") = false) :
    Y7 P (ρ.f 41) fun avs => (X0 (.list ty) (.fresh ty) [] (fun (xs : List ty.T) => gd (fits xs.length ei.bytes) (some xs))).run avs some := by
  intro w S avs vals r hlow hrep h
  refine ⟨z1t hf hb hname, ?_⟩
  obtain ⟨xs, t, hF, hout, hvals⟩ := zz1 hlow hrep h
  obtain ⟨u, us, rfl, k1, k2⟩ := hvals
  rw [show us = [] from k2]
  obtain ⟨hc, hF⟩ := W2 hF
  cases hF
  have hr : r = .fresh ty xs := by
    have : some (AV.fresh ty xs) = some r := hout
    cases this; rfl
  subst hr
  obtain ⟨i, z, z1, z2, z3, z4, z5, z6⟩ := h1.inf
  obtain ⟨y1, y2, y3, y4⟩ := h1.ty ty h2
  have k1 : RepT w S (.list ty) xs [u] := k1
  have hfit : List.length xs < maxB ∧ List.length xs * ei.bytes < maxB := by simpa [fits] using hc
  have mx : maxB = 4398046511104 := rfl
  have k1' := k1
  obtain ⟨ao, cap, hu, hle, hnil, hsp, hel⟩ := k1
  simp only [List.cons.injEq, and_true] at hu
  subst hu
  cases ao with
  | none =>
    have hx : xs = [] := List.eq_nil_of_length_eq_zero (by have := hnil rfl; omega)
    subst hx
    refine (x8y L _ _ w).mono fun e w' => ?_
    rintro ⟨rfl, rfl⟩
    refine ⟨_, S, [⟨none, 0⟩], rfl, Below.refl _ _, fun _ h => h, fun _ h => .inl h, ⟨_, rfl, rfl, ⟨Nat.le_refl _, Nat.zero_le _, fun _ => rfl, fun a ha => (by cases ha)⟩⟩, ⟨fun l hl b hb => ?_, List.pairwise_singleton _ _⟩⟩
    simp only [List.mem_singleton] at hl
    subst hl
    exact absurd hb (by simp [Loc.blk])
  | some a =>
    have hs := hsp a rfl
    obtain ⟨b, off, sp⟩ := a
    simp only at hs
    subst hs
    obtain ⟨news, n1, n2, n3, n4⟩ := x5q (show 0 < ty.size by omega) k1'
    refine (x69 L i z ei.size ei.bytes z1 z4 z2 z3 z6 y2 b off (List.length xs) cap news w (by rw [n1, y1]) (by omega) (by unfold maxLen; omega) n4 n2).mono fun e w' => ?_
    rintro ⟨v', rfl, hown, hnn, bel⟩
    obtain ⟨ol, ho⟩ := hown
    rcases ho with ⟨ho, _⟩ | ⟨g, cp, cur, rfl, hg, hheap, hn, hm, hsz, htk⟩
    · exact absurd ho hnn
    · refine ⟨_, S, [⟨some ⟨g, 0, none⟩, cp⟩], rfl, bel, fun _ h => h, fun _ h => .inl h, ⟨_, rfl, rfl, ⟨hn, hm, fun e => (by cases e), fun a ea => ?_⟩⟩, ⟨fun l hl b' hb' => ?_, List.pairwise_singleton _ _⟩⟩
      · cases ea
        refine ⟨g, cur, _, (0, 0), rfl, hheap, by rw [hsz, y1], fun i _ hi => by simp at hi, fun i x hx => ?_, fun _ hS => by have := hlow _ hS; omega, fun e => (by cases e)⟩
        obtain ⟨c', c1, c2⟩ := n3 i x hx
        refine ⟨c', RepT.mono (fun b hb => bel.block b (hlow b hb)) (fun _ h => h) _ _ _ c1, fun j u hj => ?_⟩
        have hnj := c2 j u hj
        rw [← htk, List.getElem?_take] at hnj
        split at hnj
        · simpa using hnj
        · cases hnj
      · simp only [List.mem_singleton] at hl
        subst hl
        simp [Loc.blk] at hb'
        subst hb'
        show ¬ _ < _
        omega
end
end Go.Dv

/- slices.Insert, at any type of elements: what it does (four roads). -/
namespace Go.Dv
open Go.RowKit Go.Lib Go.Shelf Go.Proofs
structure InsertL (P : Program) (ρ : Shelf.Ren) : Prop where
  mixed : P.follows .mixedOrders = true
  f22 : Bears P (ρ.f 22) (Body2.n22 ρ)
  over : ∃ fn, P.funcs[ρ.f 29]? = some fn ∧ (fn.name == "runtime.NumGoroutine") = false ∧ fn.body.isNone = true ∧ Extern.findNext fn = none ∧ Extern.find fn = some (Extern.SlicesOverlaps.overlaps #[(ρ.t 24), (ρ.t 24)] #[(ρ.t 4)])
  t0 : P.underlying (ρ.t 0) = some (.tuple #[])
  a0 : ∀ w, (isAgg (ρ.t 0)).run P w = .ok false w
  z0 : ∀ w, (Go.sizeOf (ρ.t 0)).run P w = .ok 1 w
  v0 : ∀ w, (zeroValue (ρ.t 0)).run P w = .ok (Value.tuple #[]) w
  t3 : P.underlying (ρ.t 3) = some (.int .i64)
  a3 : ∀ w, (isAgg (ρ.t 3)).run P w = .ok false w
  z3 : ∀ w, (Go.sizeOf (ρ.t 3)).run P w = .ok 1 w
  v3 : ∀ w, (zeroValue (ρ.t 3)).run P w = .ok (Value.int .i64 0) w
  t4 : P.underlying (ρ.t 4) = some .bool
  a4 : ∀ w, (isAgg (ρ.t 4)).run P w = .ok false w
  z4 : ∀ w, (Go.sizeOf (ρ.t 4)).run P w = .ok 1 w
  v4 : ∀ w, (zeroValue (ρ.t 4)).run P w = .ok (Value.bool false) w
  t24 : P.underlying (ρ.t 24) = some (.slice (ρ.t 9))
  a24 : ∀ w, (isAgg (ρ.t 24)).run P w = .ok false w
  z24 : ∀ w, (Go.sizeOf (ρ.t 24)).run P w = .ok 1 w
  v24 : ∀ w, (zeroValue (ρ.t 24)).run P w = .ok (Value.slice none 0 0) w
section
variable {P : Program} {ρ : Shelf.Ren}
theorem zhi (w : World) (dT sT ty elem : TypeId) (k b o dLen dCap : Nat) (a : Addr) (sLen sCap : Nat) (cs : List Value)
    (hu : P.underlying dT = some (.slice elem)) (hs : (P.info? elem).map (·.size) = some k) (hn : cs.length = Nat.min sLen dLen * k)
    (hsrc : ∀ j v, cs[j]? = some v → w.cell? (a.add j) = some v) (hc : ∀ j, j < cs.length → (w.cell? ⟨b, o + j, none⟩).isSome = true) (hf : ∀ j, j < cs.length → w.frozen? ⟨b, o + j, none⟩ = false) (h1 : ∀ v ∈ cs, v.oneCell' = true) :
    (Builtin.copy_ #[dT, sT] ty #[.slice (some ⟨b, o, none⟩) dLen dCap, .slice (some a) sLen sCap]).run P w = .ok (goInt (Nat.min sLen dLen)) (w.setCells b o cs) := by
  have hl := run_loadCells_list (P := P) w a cs hsrc
  have hst := run_storeCells_cells (P := P) b o cs 0 w (by simpa using hc) (by simpa using hf) h1
  cases hq : P.info? elem with
  | none => simp [hq] at hs
  | some i =>
    have hi : i.size = k := by simpa [hq] using hs
    simp [Builtin.copy_, run_underlying hu, Builtin.lenOf, Builtin.firstCells, sizeOf, typeInfo, hq, hi, ← hn, hl, hst]
set_option maxHeartbeats 4000000 in
set_option maxRecDepth 100000 in
theorem x01 (L : InsertL P ρ) (k : Nat) (hk : 0 < k) (hsz : (P.info? (ρ.t 9)).map (·.size) = some k) (b off n c i vb voff m vc : Nat) (cs vs : List Value) (w : World) (hi : i < n) (hm : 0 < m) (hroom : n + m ≤ c) (hc63 : c ≤ 9223372036854775807) (hvb : vb ≠ b)
    (hcl : cs.length = n * k) (hvl : vs.length = m * k)
    (hcs : ∀ j v, cs[j]? = some v → w.cell? ⟨b, off + j, none⟩ = some v) (hsp : ∀ j, j < (n + m) * k → (w.cell? ⟨b, off + j, none⟩).isSome = true) (hfz : ∀ j, j < (n + m) * k → w.frozen? ⟨b, off + j, none⟩ = false)
    (hvs : ∀ j v, vs[j]? = some v → w.cell? ⟨vb, voff + j, none⟩ = some v) (h1c : ∀ v ∈ cs, v.oneCell' = true) (h1v : ∀ v ∈ vs, v.oneCell' = true)
    (tA tB : TypeId) (kA kB : Nat) (hsa : w.shape? vb = some (tA, kA)) (hsb : w.shape? b = some (tB, kB)) (hkB : kB ≠ 0) (hfa : w.frozen? ⟨vb, voff, none⟩ = false) (hfe : w.frozen? ⟨vb, kA, none⟩ = false) :
    Calls P (ρ.f 22) #[.slice (some ⟨b, off, none⟩) n c, .int .i64 i, .slice (some ⟨vb, voff, none⟩) m vc] w fun e w' =>
      e = .returned (.slice (some ⟨b, off, none⟩) (n + m) c) ∧ w' = (w.drew.setCells b (off + (i + m) * k) (cs.drop (i * k))).setCells b (off + i * k) vs := by
  have t0 := L.t0; have a0 := L.a0; have z0 := L.z0; have v0 := L.v0; have t3 := L.t3; have a3 := L.a3; have z3 := L.z3; have v3 := L.v3; have t4 := L.t4; have a4 := L.a4; have z4 := L.z4; have v4 := L.v4; have t24 := L.t24; have a24 := L.a24; have z24 := L.z24; have v24 := L.v24
  have u0 := run_underlying L.t0; have u3 := run_underlying L.t3; have u4 := run_underlying L.t4; have u24 := run_underlying L.t24
  have z9 : ∀ w, (Go.sizeOf (ρ.t 9)).run P w = .ok k w := fun w => by
    cases hq : P.info? (ρ.t 9) with
    | none => simp [hq] at hsz
    | some i =>
      have hi : i.size = k := by simpa [hq] using hsz
      simp [Go.sizeOf, typeInfo, hq, hi]
  have hz1 : ¬ ((m : Int) = 0) := by omega
  have hz2 : ¬ ((i : Int) = (n : Int)) := by omega
  have hov : ∀ lb cb, (callFunc (ρ.f 29) #[.slice (some ⟨vb, voff, none⟩) m vc, .slice (some ⟨b, off + (i + m) * k, none⟩) lb cb]).run P w = .ok (.value (.bool false)) w := fun lb cb => by
    obtain ⟨fn, g1, g2, g3, g4, g5⟩ := L.over
    rw [run_callFunc_extern g1 g2 g3 g4 g5, Lib.run_overlaps_apart w (ρ.t 24) (ρ.t 4) (ρ.t 9) L.t24 k z9 ⟨vb, voff, none⟩ ⟨b, off + (i + m) * k, none⟩ m vc lb cb hvb tA tB kA kB hsa hsb hkB hfa hfe]
    rfl
  have hmk : (i + m) * k + (n - i) * k = (n + m) * k := by rw [← Nat.add_mul]; congr 1; omega
  have hik : i * k + m * k + (n - i) * k = (n + m) * k := by rw [← Nat.add_mul]; exact hmk
  have hdl : (cs.drop (i * k)).length = (n - i) * k := by rw [List.length_drop, hcl, Nat.sub_mul]
  have mixed := L.mixed
  have hw1 : IntKind.i64.wrap ((i : Int) + (m : Int)) = (i : Int) + (m : Int) := by rw [IntKind.wrap_i64]; omega
  have hb1 : (0 : Int) ≤ (i : Int) + (m : Int) := by omega
  have hin : i ≤ n := by omega
  have htn : ((i : Int) + (m : Int)).toNat = i + m := by omega
  have hb2 : ¬ (c = i + m) := by omega
  have hb3 : (i : Int) ≤ (n : Int) + (m : Int) := by omega
  have hb4 : ¬ (c = i) := by omega
  have hcp1 : ∀ ty dc sc, (Builtin.copy_ #[(ρ.t 24), (ρ.t 24)] ty #[.slice (some ⟨b, off + (i + m) * k, none⟩) (n + m - (i + m)) dc, .slice (some ⟨b, off + i * k, none⟩) (n + m - i) sc]).run P w.drew = .ok (goInt ((n - i : Nat) : Int)) (w.drew.setCells b (off + (i + m) * k) (cs.drop (i * k))) := fun ty dc sc => by
    have hmin : Nat.min (n + m - i) (n + m - (i + m)) = n - i := by simp only [Nat.min_def]; split <;> omega
    have h := zhi (P := P) w.drew (ρ.t 24) (ρ.t 24) ty (ρ.t 9) k b (off + (i + m) * k) (n + m - (i + m)) dc ⟨b, off + i * k, none⟩ (n + m - i) sc (cs.drop (i * k)) L.t24 hsz (by rw [hdl, hmin])
      (fun j v hj => by rw [Addr.add_lit, Nat.add_assoc]; exact hcs (i * k + j) v (by rwa [List.getElem?_drop] at hj))
      (fun j hj => by rw [Nat.add_assoc]; exact hsp _ (by omega)) (fun j hj => by rw [Nat.add_assoc]; exact hfz _ (by omega)) (fun v hv => h1c v (List.mem_of_mem_drop hv))
    rw [hmin] at h
    exact h
  obtain ⟨W1, hW1⟩ : ∃ W1, W1 = w.drew.setCells b (off + (i + m) * k) (cs.drop (i * k)) := ⟨_, rfl⟩
  have hsp1 : ∀ q, q < (n + m) * k → (W1.cell? ⟨b, off + q, none⟩).isSome = true := fun q hq => by
    rw [hW1]
    exact isSome_setCells b _ _ _ (fun j hj => by rw [Nat.add_assoc]; exact hsp _ (by omega)) _ (hsp q hq)
  have hcp2 : ∀ (W : World), (∀ x, W.cell? x = W1.cell? x) → (∀ x, W.frozen? x = W1.frozen? x) → ∀ ty dc, (Builtin.copy_ #[(ρ.t 24), (ρ.t 24)] ty #[.slice (some ⟨b, off + i * k, none⟩) (n + m - i) dc, .slice (some ⟨vb, voff, none⟩) m vc]).run P W = .ok (goInt m) (W.setCells b (off + i * k) vs) := fun W hWc hWf ty dc => by
    have hmin : Nat.min m (n + m - i) = m := by simp only [Nat.min_def]; split <;> omega
    have h := zhi (P := P) W (ρ.t 24) (ρ.t 24) ty (ρ.t 9) k b (off + i * k) (n + m - i) dc ⟨vb, voff, none⟩ m vc vs L.t24 hsz (by rw [hvl, hmin])
      (fun j v hj => by
        rw [Addr.add_lit, hWc, hW1, World.cell?_setCells_out b _ _ _ _ (fun h _ => absurd h hvb)]
        exact hvs j v hj)
      (fun j hj => by rw [hWc, Nat.add_assoc]; exact hsp1 _ (by omega)) (fun j hj => by rw [hWf, hW1, World.frozen?_setCells, Nat.add_assoc]; exact hfz _ (by omega)) h1v
    rw [hmin] at h
    exact h
  rw [← hW1] at hcp1
  obtain ⟨_, _, FG⟩ := L.f22
  clear hmk hik hdl hsp1 hsp hfz hcs hvs h1c h1v
  go_enter FG, Body2.n22_ntmps ρ
  go_wp2_with (simp only [hov])
  go_region_law_o (refine step_copy_runI rfl _ _ (ρ.t 24) (ρ.t 24) rfl _ _ (by simp [Act.eval, Act.put]) (by simp [Act.eval, Act.put]) (hcp1 _ _ _) ?_)
  go_wp2_with (at_builtin; refine wpList_copy_runI _ rfl _ _ (ρ.t 24) (ρ.t 24) rfl _ _ rfl rfl (hcp2 _ (fun _ => rfl) (fun _ => rfl) _ _) ?_)
  go_ret
  first | exact ⟨rfl, rfl⟩ | exact ⟨rfl, by rw [hW1]⟩
set_option maxHeartbeats 4000000 in
set_option maxRecDepth 100000 in
theorem you (L : InsertL P ρ) (k : Nat) (i0 : TypeInfo) (hi0 : P.info? (ρ.t 9) = some i0) (hzs : i0.size = k) (b off n c vb voff m vc : Nat) (vs : List Value) (w : World) (hm : 0 < m) (hroom : n + m ≤ c) (hc63 : c ≤ 9223372036854775807)
    (hvl : vs.length = m * k) (hsp : ∀ j, j < m * k → (w.cell? ⟨b, off + n * k + j, none⟩).isSome = true) (hfz : ∀ j, j < m * k → w.frozen? ⟨b, off + n * k + j, none⟩ = false)
    (hvs : ∀ j v, vs[j]? = some v → w.cell? ⟨vb, voff + j, none⟩ = some v) (h1v : ∀ v ∈ vs, v.oneCell' = true) :
    Calls P (ρ.f 22) #[.slice (some ⟨b, off, none⟩) n c, .int .i64 n, .slice (some ⟨vb, voff, none⟩) m vc] w fun e w' =>
      e = .returned (.slice (some ⟨b, off, none⟩) (n + m) c) ∧ w' = w.setCells b (off + n * k) vs := by
  have t0 := L.t0; have a0 := L.a0; have z0 := L.z0; have v0 := L.v0; have t3 := L.t3; have a3 := L.a3; have z3 := L.z3; have v3 := L.v3; have t4 := L.t4; have a4 := L.a4; have z4 := L.z4; have v4 := L.v4; have t24 := L.t24; have a24 := L.a24; have z24 := L.z24; have v24 := L.v24
  have u0 := run_underlying L.t0; have u3 := run_underlying L.t3; have u4 := run_underlying L.t4; have u24 := run_underlying L.t24
  have mixed := L.mixed
  have z9 : ∀ w, (Go.sizeOf (ρ.t 9)).run P w = .ok k w := fun w => by simp [Go.sizeOf, typeInfo, hi0, hzs]
  have hz1 : ¬ ((m : Int) = 0) := by omega
  have hsrc : Go.Src P i0.size (ρ.t 24) (.slice (some ⟨vb, voff, none⟩) m vc) m vs w := by
    rw [hzs]
    exact Go.Src.ofSlice w L.t24 ⟨vb, voff, none⟩ m vc vs hvl (fun j u hj => by rw [Addr.add_lit]; exact hvs j u hj) h1v
  have hrun : ∀ ty, (Builtin.append_ #[(ρ.t 24), (ρ.t 24)] ty #[.slice (some ⟨b, off, none⟩) n c, .slice (some ⟨vb, voff, none⟩) m vc]).run P w = .ok (.slice (some ⟨b, off, none⟩) (n + m) c) (w.setCells b (off + n * k) vs) := fun ty => by
    have h := run_append_room_src (P := P) w (ρ.t 24) (ρ.t 24) ty (ρ.t 9) i0 L.t24 hi0 b off n c _ m vs hsrc hroom (by rw [hvl, hzs]; exact hsp) (by rw [hvl, hzs]; exact hfz)
    rw [hzs] at h
    exact h
  clear hsp hfz hvs h1v hsrc
  obtain ⟨_, _, FG⟩ := L.f22
  go_enter FG, Body2.n22_ntmps ρ
  go_wp2_with (at_builtin; refine Lib.wpList_append_run _ rfl _ _ _ _ rfl _ _ rfl rfl _ _ (hrun _) ?_)
  go_ret
  exact ⟨rfl, rfl⟩
set_option maxHeartbeats 4000000 in
set_option maxRecDepth 100000 in
theorem yov (L : InsertL P ρ) (k by' : Nat) (i0 : TypeInfo) (z : Value) (hi0 : P.info? (ρ.t 9) = some i0) (hzs : i0.size = k) (hzb : i0.bytes = by') (hz0 : i0.zero = some z) (base : Option Addr) (n c vb voff m vc : Nat) (cs vs : List Value) (w : World) (hm : 0 < m) (hnc : n ≤ c) (hroom : c < n + m) (hbig : (n + m) * by' ≤ 140737488355328) (h63 : n + m ≤ 4611686018427387904)
    (hcl : cs.length = n * k) (hvl : vs.length = m * k) (hnil : base = none → n = 0)
    (hcs : ∀ a, base = some a → ∀ j v, cs[j]? = some v → w.cell? (a.add j) = some v)
    (hvs : ∀ j v, vs[j]? = some v → w.cell? ⟨vb, voff + j, none⟩ = some v) (h1v : ∀ v ∈ vs, v.oneCell' = true) :
    Calls P (ρ.f 22) #[.slice base n c, .int .i64 n, .slice (some ⟨vb, voff, none⟩) m vc] w fun e w' =>
      e = .returned (.slice (some ⟨w.heap.size, 0, none⟩) (n + m) (grownCap w (n + m) c (ρ.t 9))) ∧
      w' = w.drew.alloc (.cells ((cs ++ vs).toArray ++ Builtin.zeroCells z.cells (grownCap w (n + m) c (ρ.t 9) - (n + m))) (ρ.t 9)) := by
  have t0 := L.t0; have a0 := L.a0; have z0 := L.z0; have v0 := L.v0; have t3 := L.t3; have a3 := L.a3; have z3 := L.z3; have v3 := L.v3; have t4 := L.t4; have a4 := L.a4; have z4 := L.z4; have v4 := L.v4; have t24 := L.t24; have a24 := L.a24; have z24 := L.z24; have v24 := L.v24
  have u0 := run_underlying L.t0; have u3 := run_underlying L.t3; have u4 := run_underlying L.t4; have u24 := run_underlying L.t24
  have mixed := L.mixed
  have z9 : ∀ w, (Go.sizeOf (ρ.t 9)).run P w = .ok k w := fun w => by simp [Go.sizeOf, typeInfo, hi0, hzs]
  have hz1 : ¬ ((m : Int) = 0) := by omega
  have hsrc : Go.Src P i0.size (ρ.t 24) (.slice (some ⟨vb, voff, none⟩) m vc) m vs w := by
    rw [hzs]
    exact Go.Src.ofSlice w L.t24 ⟨vb, voff, none⟩ m vc vs hvl (fun j u hj => by rw [Addr.add_lit]; exact hvs j u hj) h1v
  have hold : (Builtin.firstCells i0.size n (.slice base n c)).run P w.drew = .ok cs.toArray w.drew := by
    rw [hzs]
    cases base with
    | none =>
      have h0 := hnil rfl
      subst h0
      have hcs0 : cs = [] := List.length_eq_zero_iff.1 (by rw [hcl]; simp)
      rw [hcs0]
      exact run_firstCells_none w.drew k 0 0 c
    | some a => exact run_firstCells_some w.drew k n a n c cs hcl (fun j v hj => hcs a rfl j v hj)
  have hrun : ∀ ty, (Builtin.append_ #[(ρ.t 24), (ρ.t 24)] ty #[.slice base n c, .slice (some ⟨vb, voff, none⟩) m vc]).run P w = _ := fun ty =>
    run_append_grow_src w (ρ.t 24) (ρ.t 24) ty (ρ.t 9) i0 z L.t24 hi0 hz0 base n c cs hold _ m vs hsrc hroom (by omega) (by rw [hzb]; exact growslice_fits hroom hbig)
  clear hold hsrc hcs hvs h1v
  obtain ⟨_, _, FG⟩ := L.f22
  go_enter FG, Body2.n22_ntmps ρ
  cases base with
  | none =>
    have h0 := hnil rfl
    subst h0
    go_wp2_with (at_builtin; refine Lib.wpList_append_run _ rfl _ _ _ _ rfl _ _ rfl rfl _ _ (hrun _) ?_)
    all_goals (go_ret; exact ⟨rfl, rfl⟩)
  | some a =>
    obtain ⟨ab, ao, asp⟩ := a
    go_wp2_with (at_builtin; refine Lib.wpList_append_run _ rfl _ _ _ _ rfl _ _ rfl rfl _ _ (hrun _) ?_)
    all_goals (go_ret; exact ⟨rfl, rfl⟩)
set_option maxHeartbeats 4000000 in
set_option maxRecDepth 100000 in
theorem x2s (L : InsertL P ρ) (k by' : Nat) (i0 : TypeInfo) (z : Value) (hk : 0 < k) (hi0 : P.info? (ρ.t 9) = some i0) (hzs : i0.size = k) (hzb : i0.bytes = by') (hz0 : i0.zero = some z) (hzc : z.cells.size = k) (b off n c i vb voff m vc : Nat) (cs vs : List Value) (w : World) (hi : i < n) (hm : 0 < m) (hnc : n ≤ c) (hroom : c < n + m) (hbig : (n + m) * by' ≤ 140737488355328) (h63 : n + m ≤ 4611686018427387904)
    (hcl : cs.length = n * k) (hvl : vs.length = m * k)
    (hcs : ∀ j v, cs[j]? = some v → w.cell? ⟨b, off + j, none⟩ = some v)
    (hvs : ∀ j v, vs[j]? = some v → w.cell? ⟨vb, voff + j, none⟩ = some v) (h1c : ∀ v ∈ cs, v.oneCell' = true) (h1v : ∀ v ∈ vs, v.oneCell' = true) :
    Calls P (ρ.f 22) #[.slice (some ⟨b, off, none⟩) n c, .int .i64 i, .slice (some ⟨vb, voff, none⟩) m vc] w fun e w' =>
      e = .returned (.slice (some ⟨w.heap.size, 0, none⟩) (n + m) (grownCap w (n + m) c (ρ.t 9))) ∧
      w' = (((w.alloc (.cells ((cs.take (i * k)).toArray ++ Builtin.zeroCells z.cells (n + m - i) ++ Builtin.zeroCells z.cells (grownCap w (n + m) c (ρ.t 9) - (n + m))) (ρ.t 9))).drew.setCells w.heap.size (i * k) vs).drew).setCells w.heap.size ((i + m) * k) (cs.drop (i * k)) := by
  have t0 := L.t0; have a0 := L.a0; have z0 := L.z0; have v0 := L.v0; have t3 := L.t3; have a3 := L.a3; have z3 := L.z3; have v3 := L.v3; have t4 := L.t4; have a4 := L.a4; have z4 := L.z4; have v4 := L.v4; have t24 := L.t24; have a24 := L.a24; have z24 := L.z24; have v24 := L.v24
  have u0 := run_underlying L.t0; have u3 := run_underlying L.t3; have u4 := run_underlying L.t4; have u24 := run_underlying L.t24
  have mixed := L.mixed
  have z9 : ∀ w, (Go.sizeOf (ρ.t 9)).run P w = .ok k w := fun w => by simp [Go.sizeOf, typeInfo, hi0, hzs]
  have hz1 : ¬ ((m : Int) = 0) := by omega
  have hz2 : ¬ ((i : Int) = (n : Int)) := by omega
  have hz3 : (c : Int) < (n : Int) + (m : Int) := by omega
  have hsz : (P.info? (ρ.t 9)).map (·.size) = some k := by rw [hi0]; simp [hzs]
  have hnk : 0 < n * k := Nat.mul_pos (by omega) hk
  have hmk0 : 0 < m * k := Nat.mul_pos hm hk
  have hbw : b < w.heap.size := block_lt_of_cell (hcs 0 _ (List.getElem?_eq_getElem (by omega)))
  have hvw : vb < w.heap.size := block_lt_of_cell (hvs 0 _ (List.getElem?_eq_getElem (by omega)))
  have hkk : (n : Int) + (m : Int) - (i : Int) = ((n + m - i : Nat) : Int) := by omega
  have hik : i + (n + m - i) = n + m := by omega
  have hle : i * k ≤ n * k := Nat.mul_le_mul_right k (by omega)
  have hold : (Builtin.firstCells i0.size i (.slice (some ⟨b, off, none⟩) i c)).run P w.drew = .ok (cs.take (i * k)).toArray w.drew := by
    rw [hzs]
    exact run_firstCells_some w.drew k i ⟨b, off, none⟩ i c (cs.take (i * k)) (by rw [List.length_take]; omega) (fun j v hj => by
      rw [Addr.add_lit]
      rw [List.getElem?_take] at hj
      split at hj
      · exact hcs j v hj
      · cases hj)
  have hrz : ∀ ty, (Builtin.append_ #[(ρ.t 24), (ρ.t 3)] ty #[.slice (some ⟨b, off, none⟩) i c, .int .i64 ((n : Int) + (m : Int) - (i : Int))]).run P w =
      .ok (.slice (some ⟨w.heap.size, 0, none⟩) (n + m) (grownCap w (n + m) c (ρ.t 9))) (w.drew.alloc (.cells ((cs.take (i * k)).toArray ++ Builtin.zeroCells z.cells (n + m - i) ++ Builtin.zeroCells z.cells (grownCap w (n + m) c (ρ.t 9) - (n + m))) (ρ.t 9))) := fun ty => by
    have hb' : (n + m - i) * i0.bytes ≤ (n + m) * i0.bytes := Nat.mul_le_mul_right _ (by omega)
    have h := Lib.run_append_grow_zeros w (ρ.t 24) (ρ.t 3) ty (ρ.t 9) i0 z .i64 .i64 L.t24 L.t3 hi0 hz0 (some ⟨b, off, none⟩) i c (cs.take (i * k)) hold (n + m - i) (by omega) (by omega) (by omega) (by omega) (by rw [hzb] at hb' ⊢; omega) (by rw [hzb, hik]; exact growslice_fits hroom hbig)
    rw [hik] at h
    rw [hkk]
    exact h
  obtain ⟨G, hG⟩ : ∃ G, G = grownCap w (n + m) c (ρ.t 9) := ⟨_, rfl⟩
  obtain ⟨ROW, hROW⟩ : ∃ ROW : Array Value, ROW = (cs.take (i * k)).toArray ++ Builtin.zeroCells z.cells (n + m - i) ++ Builtin.zeroCells z.cells (G - (n + m)) := ⟨_, rfl⟩
  rw [← hG] at hrz ⊢
  rw [← hROW] at hrz ⊢
  have hmk : i * k + (n + m - i) * k = (n + m) * k := by rw [← Nat.add_mul]; congr 1
  have him : (i + m) * k = i * k + m * k := Nat.add_mul _ _ _
  have hnm : (n + m) * k = n * k + m * k := Nat.add_mul _ _ _
  have hni : i * k + (n - i) * k = n * k := by rw [← Nat.add_mul]; congr 1; omega
  have hRl : (n + m) * k ≤ ROW.size := by
    rw [hROW]
    simp only [Array.size_append, List.size_toArray, List.length_take, size_zeroCells, hzc]
    omega
  obtain ⟨W1, hW1⟩ : ∃ W1, W1 = w.drew.alloc (.cells ROW (ρ.t 9)) := ⟨_, rfl⟩
  rw [← hW1] at hrz
  have hN : ∀ j, j < (n + m) * k → (W1.cell? ⟨w.heap.size, j, none⟩).isSome = true := fun j hj => by
    rw [hW1, World.cell?_alloc_at (w := w.drew) ROW _ w.heap.size j rfl, Array.getElem?_eq_getElem (by omega)]; rfl
  have hNf : ∀ j, W1.frozen? ⟨w.heap.size, j, none⟩ = false := fun j => by rw [hW1]; exact World.frozen?_alloc_at (w := w.drew) ROW _ w.heap.size j rfl
  have hOb : ∀ j v, w.cell? ⟨b, j, none⟩ = some v → W1.cell? ⟨b, j, none⟩ = some v := fun j v h => by rw [hW1, World.cell?_alloc_past (w := w.drew) _ b j hbw]; exact h
  have hOv : ∀ j v, w.cell? ⟨vb, j, none⟩ = some v → W1.cell? ⟨vb, j, none⟩ = some v := fun j v h => by rw [hW1, World.cell?_alloc_past (w := w.drew) _ vb j hvw]; exact h
  have hcpA : ∀ (W : World), (∀ x, W.cell? x = W1.cell? x) → (∀ x, W.frozen? x = W1.frozen? x) → ∀ ty dc, (Builtin.copy_ #[(ρ.t 24), (ρ.t 24)] ty #[.slice (some ⟨w.heap.size, i * k, none⟩) (n + m - i) dc, .slice (some ⟨vb, voff, none⟩) m vc]).run P W = .ok (goInt m) (W.setCells w.heap.size (i * k) vs) := fun W hWc hWf ty dc => by
    have hmin : Nat.min m (n + m - i) = m := by simp only [Nat.min_def]; split <;> omega
    have h := zhi (P := P) W (ρ.t 24) (ρ.t 24) ty (ρ.t 9) k w.heap.size (i * k) (n + m - i) dc ⟨vb, voff, none⟩ m vc vs L.t24 hsz (by rw [hvl, hmin])
      (fun j v hj => by rw [Addr.add_lit, hWc]; exact hOv _ v (hvs j v hj))
      (fun j hj => by rw [hWc]; exact hN _ (by omega)) (fun j hj => by rw [hWf]; exact hNf _) h1v
    rw [hmin] at h
    exact h
  have hGn : n + m ≤ G := by rw [hG]; exact grownCap_ge w _ _ _
  have hG63 : G ≤ 9223372036854775807 := by
    have := grownCap_le_maxLen w (n + m) c (ρ.t 9) (by unfold maxLen; omega)
    rw [← hG] at this
    unfold maxLen at this
    omega
  have hGi : ¬ (G = i) := by omega
  have hGim : ¬ (G = i + m) := by omega
  have hci : ¬ (c = i) := by omega
  have hbN : b ≠ w.heap.size := by omega
  have hdl : (cs.drop (i * k)).length = (n - i) * k := by rw [List.length_drop, hcl, Nat.sub_mul]
  have hcpB : ∀ (W : World), (∀ x, W.cell? x = (W1.setCells w.heap.size (i * k) vs).cell? x) → (∀ x, W.frozen? x = (W1.setCells w.heap.size (i * k) vs).frozen? x) → ∀ ty dc sc, (Builtin.copy_ #[(ρ.t 24), (ρ.t 24)] ty #[.slice (some ⟨w.heap.size, (i + m) * k, none⟩) (n + m - (i + m)) dc, .slice (some ⟨b, off + i * k, none⟩) (n - i) sc]).run P W = .ok (goInt ((n - i : Nat) : Int)) (W.setCells w.heap.size ((i + m) * k) (cs.drop (i * k))) := fun W hWc hWf ty dc sc => by
    have hmin : Nat.min (n - i) (n + m - (i + m)) = n - i := by simp only [Nat.min_def]; split <;> omega
    have h := zhi (P := P) W (ρ.t 24) (ρ.t 24) ty (ρ.t 9) k w.heap.size ((i + m) * k) (n + m - (i + m)) dc ⟨b, off + i * k, none⟩ (n - i) sc (cs.drop (i * k)) L.t24 hsz (by rw [hdl, hmin])
      (fun j v hj => by
        rw [Addr.add_lit, hWc, World.cell?_setCells_out _ _ _ _ _ (fun h _ => absurd h hbN), Nat.add_assoc]
        exact hOb _ v (hcs (i * k + j) v (by rwa [List.getElem?_drop] at hj)))
      (fun j hj => by rw [hWc]; exact isSome_setCells _ _ _ _ (fun t ht => hN _ (by omega)) _ (hN _ (by omega)))
      (fun j hj => by rw [hWf, World.frozen?_setCells]; exact hNf _) (fun v hv => h1c v (List.mem_of_mem_drop hv))
    rw [hmin] at h
    exact h
  subst hW1
  have hE1 : ∀ x, ((w.alloc (.cells ROW (ρ.t 9))).drew).cell? x = (w.drew.alloc (.cells ROW (ρ.t 9))).cell? x := fun x => rfl
  have hE2 : ∀ x, ((w.alloc (.cells ROW (ρ.t 9))).drew).frozen? x = (w.drew.alloc (.cells ROW (ρ.t 9))).frozen? x := fun x => rfl
  have hF1 : ∀ x, (((w.alloc (.cells ROW (ρ.t 9))).drew.setCells w.heap.size (i * k) vs).drew).cell? x = ((w.drew.alloc (.cells ROW (ρ.t 9))).setCells w.heap.size (i * k) vs).cell? x := fun x => rfl
  have hF2 : ∀ x, (((w.alloc (.cells ROW (ρ.t 9))).drew.setCells w.heap.size (i * k) vs).drew).frozen? x = ((w.drew.alloc (.cells ROW (ρ.t 9))).setCells w.heap.size (i * k) vs).frozen? x := fun x => rfl
  have hw1 : IntKind.i64.wrap ((i : Int) + (m : Int)) = (i : Int) + (m : Int) := by rw [IntKind.wrap_i64]; omega
  have hb1 : (0 : Int) ≤ (i : Int) + (m : Int) := by omega
  have hin : i ≤ n := by omega
  have htn : ((i : Int) + (m : Int)).toNat = i + m := by omega
  have hb3 : (i : Int) ≤ (n : Int) := by omega
  clear hkk hik hold hROW hG hRl hmk him hnm hni hle hnk hmk0 hN hNf hOb hOv hdl hcs hvs h1c h1v
  obtain ⟨_, _, FG⟩ := L.f22
  go_enter FG, Body2.n22_ntmps ρ
  go_wp2_with (first
    | (at_builtin; refine Lib.wpList_append_run _ rfl _ _ _ _ rfl _ _ rfl rfl _ _ (hrz _) ?_)
    | (at_builtin; refine wpList_copy_runI _ rfl _ _ (ρ.t 24) (ρ.t 24) rfl _ _ rfl rfl (hcpA _ hE1 hE2 _ _) ?_)
    | (at_builtin; refine wpList_copy_runI _ rfl _ _ (ρ.t 24) (ρ.t 24) rfl _ _ rfl rfl (hcpB _ (fun _ => rfl) (fun _ => rfl) _ _ _) ?_))
  go_region_law_o (refine step_copy_runI rfl _ _ (ρ.t 24) (ρ.t 24) rfl (.slice (some ⟨w.heap.size, (i + m) * k, none⟩) (n + m - (i + m)) (G - (i + m))) (.slice (some ⟨b, off + i * k, none⟩) (n - i) (c - i)) (by simp [Act.eval, Act.put]) (by simp [Act.eval, Act.put]) (hcpB _ hF1 hF2 (ρ.t 3) (G - (i + m)) (c - i)) ?_)
  go_wp2
  go_ret
  exact ⟨rfl, rfl⟩
end
end Go.Dv

/- slices.Insert: its contract, with lent rows. -/
namespace Go.Dv
open Go.RowKit
def putL {α : Type} (o : Nat) (vs L : List α) : List α := L.take o ++ vs ++ L.drop (o + vs.length)
theorem zbv (b : Nat) (t : TypeId) (fr : Nat × Nat) : ∀ (vs : List Value) (o : Nat) (w : World) (arr : Array Value), w.heap[b]? = some (.cells arr t fr) → o + vs.length ≤ arr.size →
    w.setCells b o vs = w.setRow b (putL o vs arr.toList).toArray
  | [], o, w, arr, h, hl => by
    have : (putL o ([] : List Value) arr.toList).toArray = arr := by simp [putL]
    rw [this]
    exact (setRow_self w b arr t fr h).symm
  | v :: r, o, w, arr, h, hl => by
    simp only [List.length_cons] at hl
    have h1 := setCell_eq_setRow w b o arr t fr v h
    have ih := zbv b t fr r (o + 1) (w.setRow b (arr.setIfInBounds o v)) (arr.setIfInBounds o v) (setRow_heap w b arr _ t fr h) (by simp; omega)
    show (w.setCell ⟨b, o, none⟩ v).setCells b (o + 1) r = _
    rw [h1, ih, setRow_setRow]
    congr 2
    have ho : o < arr.toList.length := by simp; omega
    simp only [putL, Array.toList_setIfInBounds, List.length_cons]
    rw [List.set_eq_take_append_cons_drop, if_pos ho]
    have e1 : (List.take o arr.toList).length = o := by simp; omega
    have a1 : List.take (o + 1) (List.take o arr.toList ++ v :: List.drop (o + 1) arr.toList) = List.take o arr.toList ++ [v] := by
      rw [List.take_append, e1, List.take_of_length_le (by omega)]
      simp
    have a2 : List.drop (o + 1 + r.length) (List.take o arr.toList ++ v :: List.drop (o + 1) arr.toList) = List.drop (o + (r.length + 1)) arr.toList := by
      rw [List.drop_append, e1, List.drop_eq_nil_of_le (by omega), show o + 1 + r.length - o = r.length + 1 by omega]
      simp only [List.nil_append, List.drop_succ_cons, List.drop_drop]
      congr 1; omega
    rw [a1, a2]
    simp [List.append_assoc]
theorem ywo {α : Type} {A R vs : List α} {o : Nat} (h : A.length = o) : putL o vs (A ++ R) = A ++ vs ++ R.drop vs.length := by
  subst h
  simp [putL, List.take_left, List.drop_append]
section
variable [LTab] {w : World} {S : Nat → Prop} {t : Ty} {xs : List t.T} {l : Loc} {s : Stat}
theorem yyn (h : RowRel w S l t xs s) (hk : 0 < t.size) {a : Addr} (ha : l.a = some a) :
    ∃ b arr el fz, a = ⟨b, 0, none⟩ ∧ w.heap[b]? = some (.cells arr el fz) ∧ arr.size = l.cap * t.size ∧ fzOK t arr.size fz ∧ (s = .live → ¬ S b) ∧
      (arr.toList.take (xs.length * t.size)).length = xs.length * t.size ∧ (∀ j v, (arr.toList.take (xs.length * t.size))[j]? = some v → w.cell? ⟨b, 0 + j, none⟩ = some v) ∧
      Rows w S t (arr.toList.take (xs.length * t.size)) xs ∧ ∀ v ∈ arr.toList.take (xs.length * t.size), v.oneCell' = true := by
  obtain ⟨b, arr, el, fz, h1, h2, h3, h4, h5, h6, _⟩ := h.row a ha
  have hle : xs.length * t.size ≤ arr.size := by rw [h3]; exact Nat.mul_le_mul_right _ h.len
  have hrows : Rows w S t (arr.toList.take (xs.length * t.size)) xs := by
    intro i x hx
    obtain ⟨c, c1, c2⟩ := h5 i x hx
    refine ⟨c, c1, fun j u hj => ?_⟩
    have hjl := (List.getElem?_eq_some_iff.1 hj).1
    rw [RepT.length c1] at hjl
    have := z6r (s := t.size) (zg5 hx)
    rw [List.getElem?_take, if_pos (by omega)]
    simpa using c2 j u hj
  refine ⟨b, arr, el, fz, h1, h2, h3, h4, h6, by simp; omega, ?_, hrows, ?_⟩
  · intro j v hj
    rw [List.getElem?_take] at hj
    split at hj
    · simp [World.cell?, h2]
      simpa using hj
    · cases hj
  · intro v hv
    obtain ⟨j, hj⟩ := List.getElem?_of_mem hv
    have hjl := (List.getElem?_eq_some_iff.1 hj).1
    simp only [List.length_take, Array.length_toList] at hjl
    have hj' : j < xs.length * t.size := by omega
    have hi : j / t.size < xs.length := by rw [Nat.div_lt_iff_lt_mul hk]; exact hj'
    obtain ⟨c, c1, c2⟩ := hrows (j / t.size) (xs[j / t.size]'hi) (List.getElem?_eq_getElem hi)
    have hm : j % t.size < c.length := by rw [RepT.length c1]; exact Nat.mod_lt _ hk
    have := c2 (j % t.size) _ (List.getElem?_eq_getElem hm)
    have hd := Nat.div_add_mod j t.size
    rw [Nat.mul_comm] at hd
    rw [hd, hj] at this
    cases this
    exact c1.one _ (List.getElem_mem hm)
theorem Rows.take {A : List Value} {xs : List t.T} (h : Rows w S t A xs) (i : Nat) : Rows w S t (A.take (i * t.size)) (xs.take i) := by
  intro q x hx
  have hq : (xs.take i)[q]? = some x := hx
  rw [List.getElem?_take] at hq
  split at hq
  · rename_i hqi
    obtain ⟨c, c1, c2⟩ := h q x hq
    refine ⟨c, c1, fun j u hj => ?_⟩
    have hjl := (List.getElem?_eq_some_iff.1 hj).1
    rw [RepT.length c1] at hjl
    have := z6r (s := t.size) hqi
    rw [List.getElem?_take, if_pos (by omega)]
    exact c2 j u hj
  · cases hq
theorem Rows.drop {A : List Value} {xs : List t.T} (h : Rows w S t A xs) (i : Nat) : Rows w S t (A.drop (i * t.size)) (xs.drop i) := by
  intro q x hx
  have hq : (xs.drop i)[q]? = some x := hx
  rw [List.getElem?_drop] at hq
  obtain ⟨c, c1, c2⟩ := h (i + q) x hq
  refine ⟨c, c1, fun j u hj => ?_⟩
  rw [List.getElem?_drop, ← Nat.add_assoc, ← Nat.add_mul]
  exact c2 j u hj
end
section
variable [LTab]
def yow (ty : Ty) : Cut := { tms := [0, 1, 2], sh := (.cons (.own 5000000) (.cons (.int .i64) (.own 5000001))), objs := [(5000000, [0], .sl ty), (5000001, [2], .sl ty)], sts := [] }
def y09 (ty : Ty) : Cut := { tms := [0], sh := .own 2000000, objs := [(2000000, [0], .sl ty)], sts := [] }
def insL {α : Type} (xs : List α) (i : Int) (ys : List α) : List α := xs.take i.toNat ++ ys ++ xs.drop i.toNat
def insF (ty : Ty) (b : Nat) (v : (yow ty).T) : Option (OutM (y09 ty) []) :=
  gd (decide (0 ≤ (show Int from v.1.2.1)) && (decide ((show Int from v.1.2.1) ≤ ((show List ty.T from v.2.1).length : Int)) && (Nat.blt 0 (show List ty.T from v.2.2.1).length && fits ((show List ty.T from v.2.1).length + (show List ty.T from v.2.2.1).length) b)))
    (some ((), (insL (show List ty.T from v.2.1) v.1.2.1 (show List ty.T from v.2.2.1), ())))
theorem zjc {α : Type} {o : Nat} {vs L : List α} (h : o + vs.length ≤ L.length) : (putL o vs L).length = L.length := by
  simp [putL]; omega
theorem x1j {B : Nat → Prop} {w w' : World} {S : Nat → Prop} {γ : Nat → Loc} {m : Nat → Option MO} {ty : Ty} {zs : List ty.T} {g cap : Nat} {arr : Array Value} {el : TypeId} {fz : Nat × Nat} (hm : ∀ n, m n ≠ none → 5000000 ≤ n)
    (hlow : ∀ b, S b → b < w.heap.size) (hbel : Bel B w w') (hS : ∀ b, S b → w'.heap[b]? = w.heap[b]?) (hh : w'.heap[g]? = some (.cells arr el fz)) (hsz : arr.size = cap * ty.size) (hfz : fzOK ty arr.size fz) (hcap : cap ≤ maxLen) (hlen : zs.length ≤ cap)
    (hrows : Rows w S ty arr.toList zs) (hgS : ¬ S g) (hgB : ¬ B g) {R : Type} {K : St → List Nat → Option R} {r : R} (hK : K (mkC (y09 ty) ((), (zs, ()))) [2000000] = some r) :
    ∃ x S' γ' τ ns, Ending.returned (.slice (some ⟨g, 0, none⟩) zs.length cap) = .returned x ∧ K τ ns = some r ∧ BackOk (fun _ => False) B w S γ m w' S' γ' τ ns x := by
  have hmo : ∀ n q, (mkC (y09 ty) ((), (zs, ()))).m n = some q → n = 2000000 ∧ q = .sl ty zs .live := by
    intro n q hq
    have hq : mofO (y09 ty).objs (zs, ()) n = some q := hq
    simp only [y09, mofO] at hq
    cases hb : Nat.beq n 2000000 with
    | true =>
      rw [hb] at hq
      simp only [cond_true] at hq
      exact ⟨Nat.eq_of_beq_eq_true hb, (Option.some.inj hq).symm⟩
    | false => rw [hb] at hq; cases hq
  refine ⟨_, S, fun _ => ⟨some ⟨g, 0, none⟩, cap⟩, _, _, rfl, hK, ?_⟩
  refine ⟨hbel.weak fun k hk => hk.1, fun _ h => h, fun _ h => .inl h, ⟨fun n q hq => ?_, fun b hb => Nat.lt_of_lt_of_le (hlow b hb) hbel.size, fun n n' q q' b hq hq' _ _ hne _ _ => hne ((hmo n q hq).1.trans (hmo n' q' hq').1.symm), fun n q b hq _ hb => ?_⟩, ?_, fun n q q' h1 h2 => ?_, fun n hn => ?_⟩
  · obtain ⟨rfl, rfl⟩ := hmo n q hq
    refine ⟨hlen, hcap, fun e => (by cases e), fun a ha => ?_⟩
    cases ha
    exact ⟨g, arr, el, fz, rfl, hh, hsz, hfz, fun i x hx => by
      obtain ⟨c, c1, c2⟩ := hrows i x hx
      exact ⟨c, RepT.mono hS (fun _ h => h) _ _ _ c1, fun j u hj => by simpa using c2 j u hj⟩, fun _ => hgS, fun e => (by cases e)⟩
  · have hb : some g = some b := hb
    cases hb
    exact hgB
  · exact ⟨ty, zs, .live, rfl, rfl⟩
  · have := (hmo n q' h2).1
    have h5 := hm n (by rw [h1]; simp)
    omega
  · cases hq : (mkC (y09 ty) ((), (zs, ()))).m n with
    | none => exact absurd hq hn
    | some q => rw [(hmo n q hq).1]; simp
theorem x00 {P : Program} {ρ : Shelf.Ren} (L : InsertL P ρ) {ei : TI} {ty : Ty} (h1 : TIok P (ρ.t 9) ei) (h2 : ei.ty = some ty) {fn : Func} {c : Code} (hf : P.funcs[ρ.f 22]? = some fn) (hb : fn.body = some c) (hname : (fn.name == "runtime.NumGoroutine") = false) (he : xe2 ty = true) :
    z03 P (ρ.f 22) (ctrM (yow ty) (y09 ty) [] (insF ty ei.bytes)) := by
  intro w S γ B v vals R t K r hm hB hrep hF hout
  refine ⟨z1t hf hb hname, ?_⟩
  obtain ⟨⟨u0, i, u2⟩, xs, ys, u3⟩ := v
  have hF : insF ty ei.bytes ((u0, i, u2), xs, ys, u3) = some t := hF
  obtain ⟨hc, hF⟩ := W2 hF
  cases hF
  have hK : K (mkC (y09 ty) ((), (insL (show List ty.T from xs) i (show List ty.T from ys), ()))) [2000000] = some r := hout
  simp only [Bool.and_eq_true, decide_eq_true_eq, Nat.blt_eq, fits] at hc
  obtain ⟨i0, i1, hy0, hb1, hb2⟩ := hc
  obtain ⟨inf, z, z1, z2, z3, z4, z5, z6⟩ := h1.inf
  obtain ⟨y1, y2, y3, y4⟩ := h1.ty ty h2
  have hkp : 0 < ty.size := by omega
  have xs0 : ∃ xs' : List ty.T, xs' = xs := ⟨xs, rfl⟩
  obtain ⟨xs', rfl⟩ := xs0
  have ys0 : ∃ ys' : List ty.T, ys' = ys := ⟨ys, rfl⟩
  obtain ⟨ys', rfl⟩ := ys0
  have mx : mofO (yow ty).objs (xs', ys', u3) 5000000 = some (.sl ty xs' .live) := rfl
  have my : mofO (yow ty).objs (xs', ys', u3) 5000001 = some (.sl ty ys' .live) := rfl
  have hx : RowRel w S (γ 5000000) ty xs' .live := hm.obj _ _ mx
  have hy : RowRel w S (γ 5000001) ty ys' .live := hm.obj _ _ my
  have hm5 : ∀ n, mofO (yow ty).objs (xs', ys', u3) n ≠ none → 5000000 ≤ n := by
    intro n hn
    have := y48 hn
    simp [yow] at this
    omega
  obtain ⟨a0, as1, rfl, k0, a1, as2, rfl, k1, a2, as3, rfl, k2, k3⟩ := hrep
  rw [show as3 = [] from k3]
  obtain ⟨t0, q0, s0, e0, k0⟩ := k0
  have e0 : some (MO.sl ty xs' .live) = some (MO.sl t0 q0 s0) := e0
  cases e0
  obtain ⟨t2, q2, s2, e2, k2⟩ := k2
  have e2 : some (MO.sl ty ys' .live) = some (MO.sl t2 q2 s2) := e2
  cases e2
  have k1 : a1 = .int .i64 i := k1
  subst k0; subst k1; subst k2
  have i0 : (0 : Int) ≤ (show Int from i) := i0
  have i1 : (show Int from i) ≤ (xs'.length : Int) := i1
  obtain ⟨ii, hii⟩ : ∃ n : Nat, (show Int from i) = (n : Int) := ⟨Int.toNat (show Int from i), (Int.toNat_of_nonneg i0).symm⟩
  have hi : ii ≤ xs'.length := by rw [hii] at i1; omega
  have hii : i = (ii : Int) := hii
  subst hii
  have hy0 : 0 < ys'.length := hy0
  have hb1 : xs'.length + ys'.length < maxB := hb1
  have hb2 : (xs'.length + ys'.length) * ei.bytes < maxB := hb2
  have mxb : maxB = 4398046511104 := rfl
  obtain ⟨va, hva⟩ : ∃ va, (γ 5000001).a = some va := by
    cases hv : (γ 5000001).a with
    | none => have := hy.nil hv; have := hy.len; omega
    | some va => exact ⟨va, rfl⟩
  obtain ⟨vb, varr, vel, vfz, rfl, v2, v3, v4, v5, v6, v7, v8, v9⟩ := yyn hy hkp hva
  obtain ⟨vs, hvs⟩ : ∃ vs, vs = varr.toList.take (ys'.length * ty.size) := ⟨_, rfl⟩
  rw [← hvs] at v6 v7 v8 v9
  have hzl : (insL xs' (ii : Int) ys').length = xs'.length + ys'.length := by
    simp [insL]; omega
  have hrw : ∀ (cs : List Value), cs.length = xs'.length * ty.size → Rows w S ty cs xs' → ∀ Z, Rows w S ty (cs.take (ii * ty.size) ++ vs ++ cs.drop (ii * ty.size) ++ Z) (insL xs' (ii : Int) ys') := by
    intro cs hl hr Z
    have hle : ii * ty.size ≤ xs'.length * ty.size := Nat.mul_le_mul_right _ hi
    have r1 : Rows w S ty (cs.take (ii * ty.size) ++ vs ++ []) (xs'.take ii ++ ys') := Rows.app (hr.take ii) (by simp; rw [Nat.min_eq_left (by omega), Nat.min_eq_left hi]) v8 v6
    rw [List.append_nil] at r1
    have r2 := Rows.app (Z := Z) r1 (by simp only [List.length_append, List.length_take, v6, Nat.add_mul]; rw [Nat.min_eq_left (by omega), Nat.min_eq_left hi]) (hr.drop ii) (by simp only [List.length_drop, hl, Nat.sub_mul])
    simpa [insL] using r2
  have hgrow : ∀ (g : Nat), grownCap w (xs'.length + ys'.length) g (ρ.t 9) ≤ maxLen := fun g => grownCap_le_maxLen w _ _ _ (by unfold maxLen; omega)
  have kpos : 0 < (xs'.length + ys'.length) * ty.size := Nat.mul_pos (by omega) hkp
  have endGrow : ∀ (base : Option Addr) (cs : List Value), (γ 5000000).a = base → ii = xs'.length → (γ 5000000).cap < xs'.length + ys'.length → cs.length = xs'.length * ty.size → Rows w S ty cs xs' → (base = none → xs'.length = 0) → (∀ a, base = some a → ∀ j v, cs[j]? = some v → w.cell? (a.add j) = some v) →
      Calls P (ρ.f 22) #[.slice (γ 5000000).a xs'.length (γ 5000000).cap, .int .i64 (ii : Int), .slice (some ⟨vb, 0, none⟩) ys'.length (γ 5000001).cap] w fun e w' => ∃ x S' γ' τ ns, e = .returned x ∧ K τ ns = some r ∧ BackOk (fun _ => False) B w S γ (mofO (yow ty).objs (xs', ys', u3)) w' S' γ' τ ns x := by
    intro base cs hbase hin hroom hl hr hnil hcs
    rw [hbase, hin]
    refine (yov L ty.size ei.bytes inf z z1 (by omega) z3 z4 base xs'.length (γ 5000000).cap vb 0 ys'.length (γ 5000001).cap cs vs w hy0 hx.len hroom (by omega) (by omega) hl v6 hnil hcs v7 v9).mono fun e w' => ?_
    rintro ⟨rfl, rfl⟩
    have hcap := grownCap_ge w (xs'.length + ys'.length) (γ 5000000).cap (ρ.t 9)
    have hbel : Below w.heap.size w (w.drew.alloc (.cells ((cs ++ vs).toArray ++ Builtin.zeroCells z.cells (grownCap w (xs'.length + ys'.length) (γ 5000000).cap (ρ.t 9) - (xs'.length + ys'.length))) (ρ.t 9))) := (Below.refl _ _).drew.alloc (Nat.le_refl _) _
    have hheap := heap_alloc_new w.drew (.cells ((cs ++ vs).toArray ++ Builtin.zeroCells z.cells (grownCap w (xs'.length + ys'.length) (γ 5000000).cap (ρ.t 9) - (xs'.length + ys'.length))) (ρ.t 9))
    have key := x1j (zs := insL xs' (ii : Int) ys') (g := w.heap.size) (cap := grownCap w (xs'.length + ys'.length) (γ 5000000).cap (ρ.t 9)) (r := r) (K := K) (γ := γ) hm5 hm.low (Below.bel hbel hB) (fun b hb => hbel.block b (hm.low b hb)) hheap ?_ (fun i _ h => by simp at h) (hgrow _) (by rw [hzl]; exact hcap) ?_ (fun h => by have := hm.low _ h; omega) (fun h => by have := hB _ h; omega) hK
    · rw [hzl] at key
      exact key
    · simp only [Array.size_append, List.size_toArray, List.length_append, size_zeroCells, hl, v6, z6, ← y1, ← Nat.add_mul]
      congr 1; omega
    · have := hrw cs hl hr (Builtin.zeroCells z.cells (grownCap w (xs'.length + ys'.length) (γ 5000000).cap (ρ.t 9) - (xs'.length + ys'.length))).toList
      rw [hin, List.take_of_length_le (by omega), List.drop_eq_nil_of_le (by omega)] at this
      rw [hin]
      simpa using this
  have hcase : (γ 5000000).a = none ∨ ∃ a, (γ 5000000).a = some a := by
    cases (γ 5000000).a with
    | none => exact .inl rfl
    | some a => exact .inr ⟨a, rfl⟩
  rcases hcase with ha | ⟨a, ha⟩
  · have hc0 := hx.nil ha
    have hl0 : xs'.length = 0 := by have := hx.len; omega
    have hxs : xs' = [] := List.eq_nil_of_length_eq_zero hl0
    rw [hva]
    exact endGrow none [] ha (by omega) (by omega) (by rw [hl0]; simp) (fun i x hx => by rw [hxs] at hx; simp [getq] at hx) (fun _ => hl0) (fun a h => by cases h)
  · obtain ⟨b, arr, el, fz, rfl, x2, x3, x4, x5, x6, x7, x8, x9⟩ := yyn hx hkp ha
    obtain ⟨cs, hcs⟩ : ∃ cs, cs = arr.toList.take (xs'.length * ty.size) := ⟨_, rfl⟩
    rw [← hcs] at x6 x7 x8 x9
    have hblk : (γ 5000000).blk = some b := by rw [Loc.blk, ha]; rfl
    have hvblk : (γ 5000001).blk = some vb := by rw [Loc.blk, hva]; rfl
    have hvb : vb ≠ b := fun e => hm.apart 5000001 5000000 _ _ b my mx rfl rfl (by omega) (by rw [hvblk, e]) hblk
    have hbB : ¬ B b := hm.high 5000000 _ b mx rfl hblk
    have hbS : ¬ S b := x5 rfl
    by_cases hroom : (γ 5000000).cap < xs'.length + ys'.length
    · by_cases hin : ii = xs'.length
      · rw [hva]
        exact endGrow _ cs ha hin hroom x6 x8 (fun h => by cases h) (fun a h j v hj => by cases h; rw [Addr.add_lit]; exact x7 j v hj)
      · rw [hva, ha]
        refine (x2s L ty.size ei.bytes inf z hkp z1 (by omega) z3 z4 (by omega) b 0 xs'.length (γ 5000000).cap ii vb 0 ys'.length (γ 5000001).cap cs vs w (by omega) hy0 hx.len hroom (by omega) (by omega) x6 v6 x7 v7 x9 v9).mono fun e w' => ?_
        rintro ⟨rfl, rfl⟩
        have hik : ii * ty.size ≤ xs'.length * ty.size := Nat.mul_le_mul_right _ hi
        have hD : (cs.drop (ii * ty.size)).length = (xs'.length - ii) * ty.size := by rw [List.length_drop, x6, Nat.sub_mul]
        have hsub : (xs'.length - ii) * ty.size = xs'.length * ty.size - ii * ty.size := Nat.sub_mul _ _ _
        have him : (ii + ys'.length) * ty.size = ii * ty.size + ys'.length * ty.size := Nat.add_mul _ _ _
        have hA : (cs.take (ii * ty.size)).length = ii * ty.size := by rw [List.length_take]; omega
        obtain ⟨G, hG⟩ : ∃ G, G = grownCap w (xs'.length + ys'.length) (γ 5000000).cap (ρ.t 9) := ⟨_, rfl⟩
        have hGm := hgrow (γ 5000000).cap
        have hGn := grownCap_ge w (xs'.length + ys'.length) (γ 5000000).cap (ρ.t 9)
        rw [← hG] at hGm hGn ⊢
        obtain ⟨Z1, hZ1⟩ : ∃ Z1, Z1 = (Builtin.zeroCells z.cells (xs'.length + ys'.length - ii)).toList ++ (Builtin.zeroCells z.cells (G - (xs'.length + ys'.length))).toList := ⟨_, rfl⟩
        obtain ⟨ROW, hROW⟩ : ∃ ROW : Array Value, ROW = (cs.take (ii * ty.size)).toArray ++ Builtin.zeroCells z.cells (xs'.length + ys'.length - ii) ++ Builtin.zeroCells z.cells (G - (xs'.length + ys'.length)) := ⟨_, rfl⟩
        have hROWl : ROW.toList = cs.take (ii * ty.size) ++ Z1 := by rw [hROW, hZ1]; simp [List.append_assoc]
        have hzsz : z.cells.size = ty.size := by omega
        have hROWs : ROW.size = G * ty.size := by
          rw [hROW]
          simp only [Array.size_append, List.size_toArray, hA, size_zeroCells, hzsz, ← Nat.add_mul]
          congr 1; omega
        have hZl : Z1.length = G * ty.size - ii * ty.size := by
          have : ROW.toList.length = ii * ty.size + Z1.length := by rw [hROWl, List.length_append, hA]
          simp only [Array.length_toList] at this
          omega
        have hGk : (xs'.length + ys'.length) * ty.size ≤ G * ty.size := Nat.mul_le_mul_right _ hGn
        have hadd : (xs'.length + ys'.length) * ty.size = xs'.length * ty.size + ys'.length * ty.size := Nat.add_mul _ _ _
        rw [← hROW]
        have g1 : (w.alloc (.cells ROW (ρ.t 9))).drew.heap[w.heap.size]? = some (.cells ROW (ρ.t 9) (0, 0)) := heap_alloc_new w _
        have l1 : ii * ty.size + vs.length ≤ ROW.toList.length := by rw [v6]; simp only [Array.length_toList, hROWs]; omega
        have g2 : ((w.alloc (.cells ROW (ρ.t 9))).drew.setRow w.heap.size (putL (ii * ty.size) vs ROW.toList).toArray).drew.heap[w.heap.size]? = some (.cells (putL (ii * ty.size) vs ROW.toList).toArray (ρ.t 9) (0, 0)) := setRow_heap _ _ _ _ _ _ g1
        have l2 : (ii + ys'.length) * ty.size + (cs.drop (ii * ty.size)).length ≤ (putL (ii * ty.size) vs ROW.toList).length := by rw [zjc l1]; simp only [Array.length_toList, hROWs]; omega
        have row1 : putL (ii * ty.size) vs ROW.toList = (cs.take (ii * ty.size) ++ vs) ++ Z1.drop vs.length := by rw [hROWl, ywo hA]
        have row2 : putL ((ii + ys'.length) * ty.size) (cs.drop (ii * ty.size)) (putL (ii * ty.size) vs ROW.toList) = cs.take (ii * ty.size) ++ vs ++ cs.drop (ii * ty.size) ++ (Z1.drop vs.length).drop (cs.drop (ii * ty.size)).length := by
          rw [row1, ywo (by rw [List.length_append, hA, v6, him])]
        rw [zbv w.heap.size (ρ.t 9) (0, 0) vs _ _ ROW g1 (by simpa using l1), zbv w.heap.size (ρ.t 9) (0, 0) _ _ _ _ g2 (by simpa using l2)]
        have hbel : Below w.heap.size w ((((w.alloc (.cells ROW (ρ.t 9))).drew.setRow w.heap.size (putL (ii * ty.size) vs ROW.toList).toArray).drew).setRow w.heap.size (putL ((ii + ys'.length) * ty.size) (cs.drop (ii * ty.size)) (putL (ii * ty.size) vs ROW.toList).toArray.toList).toArray) :=
          ⟨rfl, rfl, rfl, by
            have h1 : w.heap.size ≤ (w.alloc (.cells ROW (ρ.t 9))).heap.size := ((Below.refl w.heap.size w).alloc (Nat.le_refl _) _).size
            have e1 := setRow_size (w.alloc (.cells ROW (ρ.t 9))).drew w.heap.size (putL (ii * ty.size) vs ROW.toList).toArray
            have e2 := setRow_size ((w.alloc (.cells ROW (ρ.t 9))).drew.setRow w.heap.size (putL (ii * ty.size) vs ROW.toList).toArray).drew w.heap.size (putL ((ii + ys'.length) * ty.size) (cs.drop (ii * ty.size)) (putL (ii * ty.size) vs ROW.toList).toArray.toList).toArray
            rw [e2]
            show _ ≤ ((w.alloc (.cells ROW (ρ.t 9))).drew.setRow w.heap.size (putL (ii * ty.size) vs ROW.toList).toArray).heap.size
            rw [e1]
            exact h1, fun q hq => by
            rw [setRow_other _ _ _ _ (by omega)]
            show ((w.alloc (.cells ROW (ρ.t 9))).drew.setRow w.heap.size (putL (ii * ty.size) vs ROW.toList).toArray).heap[q]? = _
            rw [setRow_other _ _ _ _ (by omega)]
            exact ((Below.refl w.heap.size w).alloc (Nat.le_refl _) _).block q hq⟩
        have key := x1j (zs := insL xs' (ii : Int) ys') (g := w.heap.size) (cap := G) (r := r) (K := K) (γ := γ) hm5 hm.low (Below.bel hbel hB) (fun b hb => hbel.block b (hm.low b hb)) (setRow_heap _ _ _ _ _ _ g2) (by simp only [List.size_toArray, List.toList_toArray]; rw [zjc l2, zjc l1]; simpa using hROWs) (fun i _ h => by simp at h) hGm (by rw [hzl]; exact hGn) (by simp only [List.toList_toArray]; rw [row2]; exact hrw cs x6 x8 _) (fun h => by have := hm.low _ h; omega) (fun h => by have := hB _ h; omega) hK
        rw [hzl] at key
        exact key
    · have hroom : xs'.length + ys'.length ≤ (γ 5000000).cap := by omega
      have hle : (xs'.length + ys'.length) * ty.size ≤ arr.size := by rw [x3]; exact Nat.mul_le_mul_right _ hroom
      have hadd : (xs'.length + ys'.length) * ty.size = xs'.length * ty.size + ys'.length * ty.size := Nat.add_mul _ _ _
      have hik : ii * ty.size ≤ xs'.length * ty.size := Nat.mul_le_mul_right _ hi
      have hsplit : arr.toList = cs ++ arr.toList.drop (xs'.length * ty.size) := by rw [hcs, List.take_append_drop]
      have inPlace : ∀ (w' : World) (row Z : List Value), Wrote b w w' → w'.heap[b]? = some (.cells row.toArray el fz) → row.length = arr.size → row = cs.take (ii * ty.size) ++ vs ++ cs.drop (ii * ty.size) ++ Z →
          ∃ x S' γ' τ ns, Ending.returned (.slice (some ⟨b, 0, none⟩) (xs'.length + ys'.length) (γ 5000000).cap) = .returned x ∧ K τ ns = some r ∧ BackOk (fun _ => False) B w S γ (mofO (yow ty).objs (xs', ys', u3)) w' S' γ' τ ns x := by
        intro w' row Z hW hh hrl hrow
        have key := x1j (zs := insL xs' (ii : Int) ys') (g := b) (cap := (γ 5000000).cap) (r := r) (K := K) (γ := γ) hm5 hm.low (Wrote.below hW hbB) (fun b' hb' => hW.block b' (fun e => hbS (e ▸ hb'))) hh (by simp only [List.size_toArray]; rw [hrl, x3]) (by simp only [List.size_toArray]; rw [hrl]; exact x4) hx.cap (by rw [hzl]; exact hroom) (by simp only [List.toList_toArray]; rw [hrow]; exact hrw cs x6 x8 Z) hbS hbB hK
        rw [hzl] at key
        exact key
      by_cases hin : ii = xs'.length
      · rw [hva, ha, hin]
        refine (you L ty.size inf z1 (by omega) b 0 xs'.length (γ 5000000).cap vb 0 ys'.length (γ 5000001).cap vs w hy0 hroom (by have := hx.cap; unfold maxLen at this; omega) v6 (fun j hj => ?_) (fun j hj => ?_) v7 v9).mono fun e w' => ?_
        · have hlt : 0 + xs'.length * ty.size + j < arr.size := by omega
          simp [World.cell?, x2]
          omega
        · have := x4 (0 + xs'.length * ty.size + j) (.inl (by omega))
          simp only [World.frozen?, x2]
          obtain ⟨lo, hi'⟩ := fz
          simpa using this
        · rintro ⟨rfl, rfl⟩
          rw [Nat.zero_add, zbv b el fz vs _ w arr x2 (by omega)]
          refine inPlace _ (putL (xs'.length * ty.size) vs arr.toList) ((arr.toList.drop (xs'.length * ty.size)).drop vs.length) (Wrote.setRow w b _ x2) (setRow_heap w b arr _ el fz x2) (by rw [zjc (by simp; omega)]; simp) ?_
          rw [hin]
          have e1 : cs.take (xs'.length * ty.size) = cs := List.take_of_length_le (by omega)
          have e2 : cs.drop (xs'.length * ty.size) = [] := List.drop_eq_nil_of_le (by omega)
          rw [e1, e2, List.append_nil]
          conv => lhs; rw [hsplit]
          exact ywo x6
      · rw [hva, ha]
        have hshape : w.shape? vb = some (vel, varr.size) := by simp [World.shape?, v2]
        have hshapeb : w.shape? b = some (el, arr.size) := by simp [World.shape?, x2]
        refine (x01 L ty.size hkp (by rw [z1]; simp; omega) b 0 xs'.length (γ 5000000).cap ii vb 0 ys'.length (γ 5000001).cap cs vs w (by omega) hy0 hroom (by have := hx.cap; unfold maxLen at this; omega) hvb x6 v6 x7 (fun j hj => ?_) (fun j hj => ?_) v7 x9 v9 vel el varr.size arr.size hshape hshapeb (by omega) ?_ ?_).mono fun e w' => ?_
        · have hlt : 0 + j < arr.size := by omega
          simp [World.cell?, x2]
          omega
        · have := x4 (0 + j) (.inl (by omega))
          simp only [World.frozen?, x2]
          obtain ⟨lo, hi'⟩ := fz
          simpa using this
        · have hvpos : 0 < varr.size := by
            rw [v3]; exact Nat.mul_pos (by have := hy.len; omega) hkp
          have := v4 0 (.inl hvpos)
          simp only [World.frozen?, v2]
          obtain ⟨lo, hi'⟩ := vfz
          simpa using this
        · have := v4 varr.size (.inr ⟨rfl, he⟩)
          simp only [World.frozen?, v2]
          obtain ⟨lo, hi'⟩ := vfz
          simpa using this
        · rintro ⟨rfl, rfl⟩
          have g1 : w.drew.heap[b]? = some (.cells arr el fz) := x2
          have hD : (cs.drop (ii * ty.size)).length = (xs'.length - ii) * ty.size := by rw [List.length_drop, x6, Nat.sub_mul]
          have hsub : (xs'.length - ii) * ty.size = xs'.length * ty.size - ii * ty.size := Nat.sub_mul _ _ _
          have him : (ii + ys'.length) * ty.size = ii * ty.size + ys'.length * ty.size := Nat.add_mul _ _ _
          have l1 : (ii + ys'.length) * ty.size + (cs.drop (ii * ty.size)).length ≤ arr.toList.length := by simp only [Array.length_toList]; omega
          have hA : (cs.take (ii * ty.size)).length = ii * ty.size := by rw [List.length_take]; omega
          obtain ⟨rest, hrest⟩ : ∃ rest, rest = arr.toList.drop (xs'.length * ty.size) := ⟨_, rfl⟩
          have hrl : rest.length = arr.size - xs'.length * ty.size := by rw [hrest]; simp
          have harr : arr.toList = cs.take (ii * ty.size) ++ (cs.drop (ii * ty.size) ++ rest) := by rw [← List.append_assoc, List.take_append_drop, hrest]; exact hsplit
          obtain ⟨X, hX⟩ : ∃ X, X = cs.drop (ii * ty.size) ++ rest := ⟨_, rfl⟩
          have hXl : ys'.length * ty.size ≤ X.length := by rw [hX, List.length_append, hD, hrl]; omega
          have row1 : putL ((ii + ys'.length) * ty.size) (cs.drop (ii * ty.size)) arr.toList = cs.take (ii * ty.size) ++ (X.take (ys'.length * ty.size) ++ cs.drop (ii * ty.size) ++ (X.drop (ys'.length * ty.size)).drop (cs.drop (ii * ty.size)).length) := by
            have : arr.toList = (cs.take (ii * ty.size) ++ X.take (ys'.length * ty.size)) ++ X.drop (ys'.length * ty.size) := by
              rw [List.append_assoc, List.take_append_drop, hX]; exact harr
            rw [this, ywo (by rw [List.length_append, hA, List.length_take, Nat.min_eq_left hXl, him])]
            simp [List.append_assoc]
          rw [Nat.zero_add, Nat.zero_add, zbv b el fz _ _ w.drew arr g1 (by simpa using l1), zbv b el fz vs _ _ _ (setRow_heap w.drew b arr _ el fz g1) (by simp only [List.size_toArray]; rw [zjc l1]; simp only [Array.length_toList]; omega), setRow_setRow]
          refine inPlace _ (putL (ii * ty.size) vs (putL ((ii + ys'.length) * ty.size) (cs.drop (ii * ty.size)) arr.toList)) (((X.drop (ys'.length * ty.size)).drop (cs.drop (ii * ty.size)).length)) ⟨rfl, rfl, rfl, by simp, fun q hq => setRow_other w.drew b q _ hq, arr, el, fz, x2⟩ (by simpa using setRow_heap w.drew b arr _ el fz g1) (by rw [zjc (by rw [zjc l1]; simp only [Array.length_toList]; omega), zjc l1]; simp) ?_
          rw [row1, ywo hA]
          have e3 : (X.take (ys'.length * ty.size)).length = vs.length := by rw [List.length_take, Nat.min_eq_left hXl, v6]
          rw [List.append_assoc (X.take _), ← e3, List.drop_left]
          simp [List.append_assoc]
end
end Go.Dv

/- Plain laws: loops by an invariant, guards, whole numbers. -/
namespace Go.Dv
theorem yvn {A R : Type} {f : (A → Option R) → A → Option R} (I : A → Prop) (Q : R → Prop) (μ : A → Nat)
    (h : ∀ rec a, I a → (∀ a', I a' → μ a' < μ a → ∃ r, rec a' = some r ∧ Q r) → ∃ r, f rec a = some r ∧ Q r) : ∀ n a, I a → μ a < n → ∃ r, iter f n a = some r ∧ Q r
  | 0, _, _, hn => absurd hn (Nat.not_lt_zero _)
  | n + 1, a, ha, hn => h _ a ha fun a' ha' hm => yvn I Q μ h n a' ha' (by omega)
variable {R : Type}
theorem gd_t {b : Bool} (h : b = true) (k : Option R) : gd b k = k := by rw [h]; rfl
theorem gd_p {p : Prop} [Decidable p] (h : p) (k : Option R) : gd (decide p) k = k := gd_t (decide_eq_true h) k
theorem z6t {i : Int} {n : Nat} (h0 : 0 ≤ i) (h1 : i < n) : inB i n = true := by simp [inB, h0, h1]
theorem x25 {n b : Nat} (h : n < maxB) (h' : n * b < maxB) : fits n b = true := by simp [fits, h, h']
theorem w64 {n : Int} (h0 : -9223372036854775808 ≤ n) (h1 : n < 9223372036854775808) : IntKind.wrap .i64 n = n := by
  rw [IntKind.wrap_i64]; omega
theorem z9u {α : Type} {b : Bool} {x y : α} (h : b = true) : (bif b then x else y) = x := by rw [h]; rfl
theorem z5e {α : Type} {b : Bool} {x y : α} (h : b = false) : (bif b then x else y) = y := by rw [h]; rfl
theorem w7 {a b : Int} : eqi a b = true ↔ a = b := by simp [eqi]
theorem y0a {a b : Int} (h : a ≠ b) : eqi a b = false := by simp [eqi, h]
theorem z1d {a b : List UInt8} : eqs a b = true ↔ a = b := by simp [eqs]
theorem z6c {a b : List UInt8} (h : a ≠ b) : eqs a b = false := by simp [eqs, h]
@[simp] theorem zje (a : Int) : eqi a a = true := by simp [eqi]
@[simp] theorem z4l (a : List UInt8) : eqs a a = true := by simp [eqs]
theorem z6k {n : Int} (h : (Lit.int .u8 n).wf = true) : 0 ≤ n ∧ n < 256 := by
  simp [Lit.wf, IntKind.min, IntKind.max, IntKind.signed, IntKind.bits] at h
  omega
theorem xb9 {p : Int → Bool} (h : ((List.range 256).all fun n => p (n : Int)) = true) {n : Int} (h0 : 0 ≤ n) (h1 : n < 256) : p n = true := by
  have := List.all_eq_true.1 h n.toNat (by simp; omega)
  rwa [Int.toNat_of_nonneg h0] at this
def okO {α : Type} (o : Option α) (p : α → Bool) : Bool := match o with | some x => p x | none => false
theorem y47 {α : Type} {o : Option α} {p : α → Bool} (h : okO o p = true) : ∃ x, o = some x ∧ p x = true := by
  cases o with
  | none => cases h
  | some x => exact ⟨x, rfl, h⟩
theorem x1q {α : Type} {f : Int → Option α} {p : α → Bool} (h : ((List.range 256).all fun n => okO (f (n : Int)) p) = true) {n : Int} (h0 : 0 ≤ n) (h1 : n < 256) : ∃ x, f n = some x ∧ p x = true :=
  y47 (xb9 (p := fun n => okO (f n) p) h h0 h1)
theorem xbb {a b : Int} (h : 0 ≤ a) (hb : 0 < b) : 0 ≤ Int.tmod a b ∧ Int.tmod a b < b := by
  rw [Int.tmod_eq_emod_of_nonneg h]
  exact ⟨Int.emod_nonneg _ (by omega), Int.emod_lt_of_pos _ hb⟩
section walk
variable {α : Type} {pre post : List α} {q d : α}
theorem z3n : rdL (pre ++ q :: post) (pre.length : Int) d = q := by simp [rdL]
theorem yuc {y : α} : setL (pre ++ q :: post) (pre.length : Int) y = pre ++ y :: post := by simp [setL]
theorem z7m : inB (pre.length : Int) (pre ++ q :: post).length = true := z6t (by omega) (by simp; omega)
theorem zk3 : decide ((pre.length : Int) < ((pre ++ q :: post).length : Int)) = true := by simp; omega
theorem y82 : decide ((pre.length : Int) < ((pre ++ ([] : List α)).length : Int)) = false := by simp
theorem zjw (h : pre.length < 9223372036854775807) : IntKind.wrap .i64 ((pre.length : Int) + (1 : Int)) = ((pre ++ [q]).length : Int) := by
  rw [w64 (by omega) (by omega)]; simp
theorem z2j : pre ++ q :: post = (pre ++ [q]) ++ post := by simp
theorem xbi {xs : List α} {i : Int} {x : α} (h0 : 0 ≤ i) (h : xs[i.toNat]? = some x) : rdL xs i d = x := by simp [rdL, List.getD, h]
theorem xcp {x : α} {xs : List α} : rdL (x :: xs) 0 d = x := rfl
end walk
theorem z8e {n b : Nat} (h : n < 4294967296) (hb : b < 1024) : fits n b = true := by
  refine x25 (by simp only [maxB]; omega) ?_
  have : n * b ≤ 4294967295 * 1023 := Nat.mul_le_mul (by omega) (by omega)
  simp only [maxB]; omega
end Go.Dv

/- From a row of 'for every input the law returns true' to a plain law: arguments are opened by their types' looks. -/
namespace Go.Dv
open Go.RowKit Go.ChangeShapes Go.WideShapes Go.ChangeAt
variable [LTab]
def Ty.bytes : Ty → Nat
  | .int k => match k with | .i8 => 1 | .u8 => 1 | .i16 => 2 | .u16 => 2 | .i32 => 4 | .u32 => 4 | _ => 8
  | .bool => 1
  | .str => 16
  | .unit => 0
  | .pair a b => a.bytes + b.bytes
  | .list _ => 24
def okT : (t : Ty) → t.T → Prop
  | .int k, n => (Lit.int k n).wf = true
  | .bool, _ => True
  | .str, s => List.length s ≤ reachBytes
  | .unit, _ => True
  | .pair a b, x => okT a x.1 ∧ okT b x.2
  | .list t, xs => List.length xs * t.bytes ≤ reachBytes ∧ ∀ (i : Nat) (x : t.T), getq (α := t.T) xs i = some x → okT t x
def yd8 (P : Program) (F : TypeId → Ty → Bool) : List (TypeId × Nat) → Nat → Ty → Bool
  | [], _, t => match t with | .unit => true | _ => false
  | p :: r, off, t => Nat.beq p.2 off && match r with
    | [] => F p.1 t && Nat.beq (P.cellsOf p.1) t.size
    | _ :: _ => match t with
      | .pair a b => F p.1 a && Nat.beq (P.cellsOf p.1) a.size && yd8 P F r (off + a.size) b
      | _ => false
def y76 (P : Program) : Nat → TypeId → Ty → Bool
  | 0, _, _ => false
  | k + 1, t, τ => match P.underlying t with
    | some d => match d with
      | .bool => match τ with | .bool => true | _ => false
      | .int i => match τ with | .int j => decide (i = j) | _ => false
      | .string => match τ with | .str => true | _ => false
      | .struct fs => Nat.beq (P.cellsOf t) τ.size && yd8 P (y76 P k) (fs.toList.map fun f => (f.type, f.offset)) 0 τ
      | .array n e => Nat.beq (P.cellsOf t) τ.size && yd8 P (y76 P k) ((List.range n).map fun i => (e, i * P.cellsOf e)) 0 τ
      | _ => false
    | none => false
def xc8 (P : Program) (k : Nat) (t : TypeId) (s : Sh) : Bool := match P.underlying t with
  | some d => match d with
    | .bool => match s with | .bool => true | _ => false
    | .int i => match s with | .int j => decide (i = j) | _ => false
    | .string => match s with | .str => true | _ => false
    | .struct _ => match s with | .val τ => y76 P k t τ | _ => false
    | .array _ _ => match s with | .val τ => y76 P k t τ | _ => false
    | .slice e => match s with | .list τ => !Nat.beq τ.size 0 && y76 P k e τ && Nat.beq (P.cellsOf e) τ.size && Nat.ble τ.bytes (P.bytesOf e) | _ => false
    | _ => false
  | none => false
section
variable {H : Type} {enc : TypeId × Value → H} {P : Program} {w : World} {base : Nat} {spare : Nat → Bool} {held : Bool} {S : Nat → Prop}
theorem zij {α : Type} (e : TypeId) : ∀ (l : List α) (ds : List (DataW H)), ds.length = l.length → DataW.weightsEach P (l.map fun _ => e) ds = DataW.weightsAll P e ds
  | [], [], _ => by simp [DataW.weightsEach, DataW.weightsAll]
  | _ :: l, d :: ds, h => by
    simp only [List.map_cons, DataW.weightsEach, DataW.weightsAll]
    rw [zij e l ds (by simpa using h)]
  | [], _ :: _, h => by simp at h
  | _ :: _, [], h => by simp at h
theorem ymp {α : Type} {n : Nat} {p : Nat → α → Prop} (h : ∀ i, i < n → ∃ x, p i x) : ∃ xs : List α, xs.length = n ∧ ∀ (i : Nat) (x : α), getq xs i = some x → p i x := by
  induction n with
  | zero => exact ⟨[], rfl, fun i x h => by simp [getq] at h⟩
  | succ n ih =>
    obtain ⟨xs, h1, h2⟩ := ih fun i hi => h i (by omega)
    obtain ⟨y, hy⟩ := h n (by omega)
    refine ⟨xs ++ [y], by simp [h1], fun i x hx => ?_⟩
    simp only [getq] at hx h2
    by_cases hi : i < xs.length
    · rw [List.getElem?_append_left hi] at hx
      exact h2 i x hx
    · rw [List.getElem?_append_right (by omega)] at hx
      have : i - xs.length = 0 := by
        have := (List.getElem?_eq_some_iff.1 hx).1
        simp at this; omega
      rw [this] at hx
      have e : i = n := by omega
      subst e
      simp at hx; subst hx; exact hy
theorem y8o {W W' : World} (laid : laidOutB P = true) (bel : Below W.heap.size W W') : ∀ (ts : List TypeId) (vs : List Value) (ds : List (DataW H)) (ps : List MemPlace),
    (∀ t, t ∈ ts → P.readableRec t = true ∧ t < P.types.size) → DataW.TrodAll enc P W 0 (fun _ => true) true ts vs ds ps → DataW.TrodAll enc P W' 0 (fun b => decide (b < W.heap.size)) true ts vs ds ps
  | [], vs, ds, ps, _, h => by
    obtain ⟨rfl, rfl, rfl⟩ := trodAll_nil h
    exact trodAll_mk0
  | t :: ts, vs, ds, ps, hr, h => by
    obtain ⟨v, vs, d, ds, p, q, rfl, rfl, rfl, h0, h1⟩ := trodAll_cons h
    have lt : ∀ x ∈ p, x.block < W.heap.size := by obtain ⟨m, hm⟩ := h0; exact DataW.trod_lt m _ _ _ hm
    exact ⟨p, q, Below.trod laid (hr t (by simp)).1 (hr t (by simp)).2 h0 bel lt, y8o laid bel ts vs ds q (fun t ht => hr t (by simp [ht])) h1, rfl⟩
theorem ymd : ∀ (ts : List TypeId) (vs : List Value) (ds : List (DataW H)) (ps : List MemPlace), DataW.TrodAll enc P w base spare held ts vs ds ps → ds.length = ts.length
  | [], vs, ds, ps, h => by
    obtain ⟨rfl, rfl, rfl⟩ := trodAll_nil h
    rfl
  | t :: ts, vs, ds, ps, h => by
    obtain ⟨v, vs, d, ds, p, q, rfl, rfl, rfl, h0, h1⟩ := trodAll_cons h
    simp [ymd ts vs ds q h1]
end
end Go.Dv
