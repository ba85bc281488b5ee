/- Contracts of library functions, from the kit's shelf. -/
import Derived.Test.YtobejbgkfmpoeaaDvC
import Derived.Shelf.Spec.SlicesGrow
import Derived.Shelf.Small.Strs
import Derived.Shelf.SlLaysN
import Derived.Shelf.RegionOpenPlain
import Derived.Deep.LoopGhost
import Derived.Lib.Walk
import Derived.Lib.SliceRun
import Derived.Laws.AppendOwn
import Derived.ProofKit
import Derived.Laws.BitsLemmas
import Derived.OpenShut
import Derived.ShutString
import Derived.ChangeOld
import Derived.Below
import Derived.SizedLaws
import Derived.Shelf.Sort.Plain
import Derived.Shelf.Slices.In.SortNone
set_option linter.all false
namespace Go.Dv
open Go.RowKit

variable [LTab]

theorem callFunc_enter {P : Program} {f : FuncId} {fn : Func} {c : Code} (hf : P.funcs[f]? = some fn) (hb : fn.body = some c) (hname : (fn.name == "runtime.NumGoroutine") = false) (w' : World) (args : Array Value) : (callFunc f args).run P w' = .ok (.enter f args) w' := by
  simp [callFunc, Sem.run_bind, run_program, Result.andThen_ok, hf, hb, (by simpa using hname : ¬ fn.name = "runtime.NumGoroutine")]

theorem memRel0 {w : World} {S : Nat → Prop} (hlow : ∀ b, S b → b < w.heap.size) : MemRel w S g0 m0 (fun k => k < w.heap.size) :=
  ⟨fun n q hq => (by cases hq), hlow, fun n n' q q' b hq => (by cases hq), fun n q b hq => (by cases hq)⟩

/-- arguments of a look that a contract asks for -/
theorem args_ok {w : World} {S : Nat → Prop} (hlow : ∀ b, S b → b < w.heap.size) {ash : Sh} {o : RS} {l : List RS} {F : ash.T → Option (resT o l)} {avs : List AV} {vals : List Value} {r : AV} (hrep : RepAs w S g0 m0 avs vals) (h : (ctrOf ash o l F).run avs some = some r) :
    ∃ v t, F v = some t ∧ outRes o l t some = some r ∧ RepAs w S g0 m0 (mkL ash v) vals := by
  simp only [Ctr.run, ctrOf] at h
  split at h
  · rename_i o' ho'
    split at ho'
    · rename_i v hv
      cases ho'
      split at h
      · rename_i t ht
        have hren : Ren g0 m0 [] m0 g0 := ⟨fun n d h => (by cases h), fun n h => (by cases h)⟩
        obtain ⟨xs1, xs2, vs1, e1, e2, k1, k2, k3⟩ := getP_rep (memRel0 hlow) hren ash avs [] v vals (allDone_some hv) hrep
        rw [show xs2 = [] from k2, List.append_nil] at e1
        subst e1
        exact ⟨v, t, ht, h, k1⟩
      · cases h
    · cases ho'
  · cases h

/-- slices.Grow of the nil slice -/
def growF (ty : Ty) (b : Nat) (v : Unit × Int) : Option (List ty.T) := gd (decide (0 ≤ v.2) && fits v.2.toNat b) (some [])

theorem grow_sound {P : Program} {ρ : Shelf.Ren} (L : Proofs.Lays8.n4 P ρ) {ei : TI} {ty : Ty} (h1 : TIok P (ρ.t 25) ei) (h2 : ei.ty = some ty) {fn : Func} {c : Code} (hf : P.funcs[ρ.f 4]? = some fn) (hb : fn.body = some c) (hname : (fn.name == "runtime.NumGoroutine") = false) :
    SoundF P (ρ.f 4) fun avs => (ctrOf (.cons .nils (.int .i64)) (.fresh ty) [] (growF ty ei.bytes)).run avs some := by
  intro w S avs vals r hlow hrep h
  refine ⟨callFunc_enter hf hb hname, ?_⟩
  obtain ⟨v, t, hF, hout, hvals⟩ := args_ok hlow hrep h
  obtain ⟨v1, n⟩ := v
  obtain ⟨u, us, rfl, k1, u2, us2, rfl, k2, k3⟩ := hvals
  rw [show us2 = [] from k3]
  simp only [RepA] at k1 k2
  subst k1; subst k2
  obtain ⟨hc, hF⟩ := gd_some hF
  cases hF
  simp only [Bool.and_eq_true, decide_eq_true_eq, fits] at hc
  obtain ⟨n0, n1, n2⟩ := hc
  obtain ⟨i, z, z1, z2, z3, z4, z5, z6⟩ := h1.inf
  obtain ⟨y1, y2, y3, y4⟩ := h1.ty ty h2
  have hr : r = .fresh ty [] := by
    have : some (AV.fresh ty []) = some r := hout
    cases this; rfl
  subst hr
  have n0 : (0 : Int) ≤ n := n0
  obtain ⟨k, hk0⟩ : ∃ k : Nat, (n : Int) = (k : Int) := ⟨Int.toNat n, (Int.toNat_of_nonneg n0).symm⟩
  subst hk0
  simp only [Int.toNat_natCast] at n1 n2
  have mx : maxB = 4398046511104 := rfl
  by_cases hk : k = 0
  · subst hk
    refine (Proofs.Any8.slices_Grow_room L none 0 0 0 w (by omega) (by omega) (by omega) (by omega)).mono fun e w' => ?_
    rintro ⟨rfl, rfl⟩
    refine ⟨_, S, [⟨none, 0⟩], rfl, Below.refl _ _, fun _ h => h, fun _ h => .inl h, ⟨_, rfl, rfl, ⟨Nat.le_refl _, Nat.zero_le _, fun _ => rfl, fun a ha => (by cases ha)⟩⟩, ⟨fun l hl b hb => ?_, List.pairwise_singleton _ _⟩⟩
    simp only [List.mem_singleton] at hl
    subst hl; cases hb
  · refine (Proofs.Any8.slices_Grow_grow L i z z1 z4 (by omega) none 0 0 k [] w (by omega) (by omega) (by rw [z3, Nat.zero_add]; omega) (by omega) (by simp) (fun _ => rfl) (fun a ha => (by cases ha))).mono fun e w' => ?_
    rintro ⟨rfl, rfl⟩
    have hge := grownCap_ge w (0 + k) 0 (ρ.t 25)
    have hle := grownCap_le_maxLen w (0 + k) 0 (ρ.t 25) (by unfold maxLen; omega)
    have hbel : Below w.heap.size w (w.drew.alloc (.cells (#[] ++ Builtin.zeroCells z.cells (0 + k - 0) ++ Builtin.zeroCells z.cells (grownCap w (0 + k) 0 (ρ.t 25) - (0 + k))) (ρ.t 25))) := (Below.refl _ _).drew.alloc (Nat.le_refl _) _
    have hheap := heap_alloc_new w.drew (.cells (#[] ++ Builtin.zeroCells z.cells (0 + k - 0) ++ Builtin.zeroCells z.cells (grownCap w (0 + k) 0 (ρ.t 25) - (0 + k))) (ρ.t 25))
    refine ⟨_, S, [⟨some ⟨w.heap.size, 0, none⟩, grownCap w (0 + k) 0 (ρ.t 25)⟩], rfl, hbel, fun _ h => h, fun _ h => .inl h, ⟨_, rfl, rfl, ⟨Nat.zero_le _, hle, fun e => (by cases e), fun a ea => ?_⟩⟩, ⟨fun l hl b hb => ?_, List.pairwise_singleton _ _⟩⟩
    · cases ea
      refine ⟨w.heap.size, _, ρ.t 25, (0, 0), rfl, hheap, ?_, fun i _ hi => by simp at hi, fun i x hx => by simp [getq] at hx, fun _ hs => ?_, fun e => (by cases e)⟩
      · simp only [Array.size_append, size_zeroCells, z6, ← y1, ← Nat.add_mul]
        simp only [List.size_toArray, List.length_nil, Array.size_empty, Nat.zero_add, ← Nat.add_mul]
        congr 1
        have e0 : (0 : Nat) + k = k := Nat.zero_add k
        rw [e0] at hge
        omega
      · have := hlow _ hs; omega
    · simp only [List.mem_singleton] at hl
      subst hl
      simp [Loc.blk] at hb
      have h : ¬ b < w.heap.size := by omega
      exact h

/-- the order of strings, as a number -/
def cmpS (a b : List UInt8) : Int := Lib.compareBytes a b

theorem cmp_sound {P : Program} {ρ : Shelf.Ren} (L : Proofs.Lays.n213 P ρ) {fn : Func} {c : Code} (hf : P.funcs[ρ.f 213]? = some fn) (hb : fn.body = some c) (hname : (fn.name == "runtime.NumGoroutine") = false) :
    SoundF P (ρ.f 213) fun avs => (ctrOf (.cons .str .str) (.int .i64) [] (fun v => some (cmpS v.1 v.2))).run avs some := by
  intro w S avs vals r hlow hrep h
  refine ⟨callFunc_enter hf hb hname, ?_⟩
  obtain ⟨v, t, hF, hout, hvals⟩ := args_ok hlow hrep h
  obtain ⟨a, b⟩ := v
  obtain ⟨u, us, rfl, k1, u2, us2, rfl, k2, k3⟩ := hvals
  rw [show us2 = [] from k3]
  simp only [RepA] at k1 k2
  subst k1; subst k2
  cases hF
  have hr : r = .int .i64 (cmpS a b) := by
    have : some (AV.int .i64 (cmpS a b)) = some r := hout
    cases this; rfl
  subst hr
  refine (Proofs.Any.bytealg_CompareString L _ _ w).mono fun e w' => ?_
  rintro ⟨rfl, rfl⟩
  exact ⟨_, S, [], rfl, Below.refl _ _, fun _ h => h, fun _ h => .inl h, ⟨rfl, rfl⟩, ⟨fun l hl => (by cases hl), List.Pairwise.nil⟩⟩

end Go.Dv

/- slices.Clone, at any type of elements: what it does, and its contract. -/
namespace Go.Dv
open Go.RowKit Go.Lib Go.Shelf Go.Proofs

/-- what a program bears of slices.Clone -/
structure CloneL (P : Program) (ρ : Shelf.Ren) : Prop where
  mixed : P.follows .mixedOrders = true
  f41 : Bears P (ρ.f 41) (SlBodyN.n41 ρ)
  t4 : P.underlying (ρ.t 4) = some .bool
  a4 : ∀ w, (isAgg (ρ.t 4)).run P w = .ok false w
  z4 : ∀ w, (Go.sizeOf (ρ.t 4)).run P w = .ok 1 w
  v4 : ∀ w, (zeroValue (ρ.t 4)).run P w = .ok (Value.bool false) w
  t22 : P.underlying (ρ.t 22) = some (.slice (ρ.t 23))
  a22 : ∀ w, (isAgg (ρ.t 22)).run P w = .ok false w
  z22 : ∀ w, (Go.sizeOf (ρ.t 22)).run P w = .ok 1 w
  v22 : ∀ w, (zeroValue (ρ.t 22)).run P w = .ok (Value.slice none 0 0) w

section
variable {P : Program} {ρ : Shelf.Ren}

set_option maxHeartbeats 2000000 in
set_option maxRecDepth 100000 in
theorem clone_some (L : CloneL P ρ) (i0 : TypeInfo) (z : Value) (k by' : Nat) (hi : P.info? (ρ.t 23) = some i0) (hz0 : i0.zero = some z) (hz1 : i0.size = k) (hz2 : i0.bytes = by') (hzs : z.cells.size = k) (hk : 0 < k)
    (b off n c : Nat) (news : List Value) (w : World) (hl : news.length = n * k) (hbig : n * by' ≤ 140737488355328) (h63 : n ≤ maxLen) (h1 : ∀ u ∈ news, u.oneCell' = true) (hc : ∀ j u, news[j]? = some u → w.cell? ⟨b, off + j, none⟩ = some u) :
    Calls P (ρ.f 41) #[.slice (some ⟨b, off, none⟩) n c] w fun e w' => ∃ v', e = .returned v' ∧ w'.ownsRow w.heap.size (ρ.t 23) k v' n news ∧ v' ≠ .slice none 0 0 ∧ Below w.heap.size w w' := by
  have mixed := L.mixed; have t4 := L.t4; have a4 := L.a4; have z4 := L.z4; have v4 := L.v4; have t22 := L.t22; have a22 := L.a22; have z22 := L.z22; have v22 := L.v22
  have q22 : ∀ (w : World) (a : Option Addr) (n c n' c' : Nat), (binOp .eql (ρ.t 22) (.slice a n c) (.slice none n' c')).run P w = .ok (.bool a.isNone) w := fun w a n c n' c' => Lib.run_eql_slice_nil w _ _ a n c n' c' L.t22
  have u22 : ∀ w, Sem.run P (underlying (ρ.t 22)) w = .ok (TypeDesc.slice (ρ.t 23)) w := run_underlying t22
  have z23 : ∀ w, (Go.sizeOf (ρ.t 23)).run P w = .ok k w := fun w => by simp [Go.sizeOf, typeInfo, hi, hz1]
  have A : Aside (∀ j u, news[j]? = some u → w.cell? ⟨b, off + j, none⟩ = some u) := hc
  have A1 : Aside (∀ u ∈ news, u.oneCell' = true) := h1
  clear hc h1
  obtain ⟨_, _, FG⟩ := L.f41
  go_enter FG, SlBodyN.n41_ntmps ρ
  go_wp2_with (at_builtin; refine wpList_append_own _ rfl _ _ (ρ.t 22) rfl w.heap.size (ρ.t 23) i0 z k by' t22 hi hz0 hz1 hz2 hzs hk _ _ _ rfl (World.ownsRow_made w #[] 0 (Nat.le_refl _) (Nat.zero_le _) (by simp)) ⟨b, off, none⟩ n c news rfl ?qc1 ?qc2 ?qc3 ?qc4 ?qc5 ?qc6 ?_)
  case qc1 => exact hl
  case qc2 =>
    intro j u hj
    rw [Addr.add_lit]
    exact Lib.cell?_alloc_some _ (A.out j u hj)
  case qc3 => exact A1.out
  case qc4 => omega
  case qc5 => rw [Nat.zero_add]; exact hbig
  case qc6 => simp
  intro v' w1 hown hgrow hnil
  go_wp2
  go_ret
  refine ⟨v', rfl, by simpa using hown, ?_, ?_⟩
  · exact hnil
  · exact ((Below.refl _ w).alloc (Nat.le_refl _) _).grown hgrow (by simp) (by intro k hk; simp [Value.ownBlock] at hk; omega)

set_option maxHeartbeats 1000000 in
theorem clone_nil (L : CloneL P ρ) (n c : Nat) (w : World) : Calls P (ρ.f 41) #[.slice none n c] w fun e w' => e = .returned (.slice none 0 0) ∧ w' = w := by
  have mixed := L.mixed; have t4 := L.t4; have a4 := L.a4; have z4 := L.z4; have v4 := L.v4; have t22 := L.t22; have a22 := L.a22; have z22 := L.z22; have v22 := L.v22
  have q22 : ∀ (w : World) (a : Option Addr) (n c n' c' : Nat), (binOp .eql (ρ.t 22) (.slice a n c) (.slice none n' c')).run P w = .ok (.bool a.isNone) w := fun w a n c n' c' => Lib.run_eql_slice_nil w _ _ a n c n' c' L.t22
  obtain ⟨_, _, FG⟩ := L.f41
  go_enter FG, SlBodyN.n41_ntmps ρ
  go_wp2
  go_ret
  exact ⟨rfl, rfl⟩
end

section
variable [LTab] {P : Program} {ρ : Shelf.Ren}

theorem list_cells {w : World} {S : Nat → Prop} {t : Ty} {xs : List t.T} {b off n cap : Nat} (ht : 0 < t.size) (h : RepT w S (.list t) xs [.slice (some ⟨b, off, none⟩) n cap]) :
    ∃ news, news.length = List.length xs * t.size ∧ (∀ j u, news[j]? = some u → w.cell? ⟨b, off + j, none⟩ = some u) ∧ Rows w S t news xs ∧ ∀ u ∈ news, u.oneCell' = true := by
  obtain ⟨ao, cap', hu, hle, hnil, hsp, hel⟩ := h
  simp only [List.cons.injEq, Value.slice.injEq, and_true] at hu
  obtain ⟨rfl, _, _⟩ := hu
  have hcell : ∀ q, q < List.length xs * t.size → ∃ u, w.cell? ⟨b, off + q, none⟩ = some u ∧ u.oneCell' = true := by
    intro q hq
    have hi : q / t.size < List.length xs := by rw [Nat.div_lt_iff_lt_mul ht]; exact hq
    have hj : q % t.size < t.size := Nat.mod_lt _ ht
    obtain ⟨a', c, e1, _, e2, e3⟩ := hel (q / t.size) (xs[q / t.size]'hi) (List.getElem?_eq_getElem hi)
    cases e1
    have hcl := e2.length
    have hjc : q % t.size < c.length := by omega
    refine ⟨c[q % t.size], ?_, e2.one _ (List.getElem_mem hjc)⟩
    have := e3 (q % t.size) c[q % t.size] (List.getElem?_eq_getElem hjc)
    rw [← this]
    congr 2
    have := Nat.div_add_mod q t.size
    rw [Nat.mul_comm] at this
    simp only at *
    omega
  refine ⟨(List.range (List.length xs * t.size)).map fun q => (w.cell? ⟨b, off + q, none⟩).getD undef, by simp, ?_, ?_, ?_⟩
  · intro j v hj
    have hjl := (List.getElem?_eq_some_iff.1 hj).1
    simp only [List.length_map, List.length_range] at hjl
    obtain ⟨u, hu, _⟩ := hcell j hjl
    have hj' : some u = some v := by rw [← hj]; simp [hjl, hu]
    rw [hu]; exact hj'
  · intro i y hy
    obtain ⟨a', c, e1, _, e2, e3⟩ := hel i y hy
    cases e1
    refine ⟨c, e2, fun j u hj => ?_⟩
    have hjl := (List.getElem?_eq_some_iff.1 hj).1
    have hcl := e2.length
    have hle := mul_step (s := t.size) (getq_mem hy)
    have := e3 j u hj
    have hlt : i * t.size + j < List.length xs * t.size := by omega
    simp only [Nat.add_assoc] at this
    simp [hlt, this]
  · intro u hu
    simp only [List.mem_map, List.mem_range] at hu
    obtain ⟨q, hq, rfl⟩ := hu
    obtain ⟨u, hu, h1⟩ := hcell q hq
    rw [hu]; exact h1

/-- slices.Clone of a list: a new row with the same elements -/
theorem clone_sound (L : CloneL P ρ) {ei : TI} {ty : Ty} (h1 : TIok P (ρ.t 23) ei) (h2 : ei.ty = some ty) {fn : Func} {c : Code} (hf : P.funcs[ρ.f 41]? = some fn) (hb : fn.body = some c) (hname : (fn.name == "runtime.NumGoroutine") = false) :
    SoundF P (ρ.f 41) fun avs => (ctrOf (.list ty) (.fresh ty) [] (fun (xs : List ty.T) => gd (fits xs.length ei.bytes) (some xs))).run avs some := by
  intro w S avs vals r hlow hrep h
  refine ⟨callFunc_enter hf hb hname, ?_⟩
  obtain ⟨xs, t, hF, hout, hvals⟩ := args_ok hlow hrep h
  obtain ⟨u, us, rfl, k1, k2⟩ := hvals
  rw [show us = [] from k2]
  obtain ⟨hc, hF⟩ := gd_some hF
  cases hF
  have hr : r = .fresh ty xs := by
    have : some (AV.fresh ty xs) = some r := hout
    cases this; rfl
  subst hr
  obtain ⟨i, z, z1, z2, z3, z4, z5, z6⟩ := h1.inf
  obtain ⟨y1, y2, y3, y4⟩ := h1.ty ty h2
  have k1 : RepT w S (.list ty) xs [u] := k1
  have hfit : List.length xs < maxB ∧ List.length xs * ei.bytes < maxB := by simpa [fits] using hc
  have mx : maxB = 4398046511104 := rfl
  have k1' := k1
  obtain ⟨ao, cap, hu, hle, hnil, hsp, hel⟩ := k1
  simp only [List.cons.injEq, and_true] at hu
  subst hu
  cases ao with
  | none =>
    have hx : xs = [] := List.eq_nil_of_length_eq_zero (by have := hnil rfl; omega)
    subst hx
    refine (clone_nil L _ _ w).mono fun e w' => ?_
    rintro ⟨rfl, rfl⟩
    refine ⟨_, S, [⟨none, 0⟩], rfl, Below.refl _ _, fun _ h => h, fun _ h => .inl h, ⟨_, rfl, rfl, ⟨Nat.le_refl _, Nat.zero_le _, fun _ => rfl, fun a ha => (by cases ha)⟩⟩, ⟨fun l hl b hb => ?_, List.pairwise_singleton _ _⟩⟩
    simp only [List.mem_singleton] at hl
    subst hl
    exact absurd hb (by simp [Loc.blk])
  | some a =>
    have hs := hsp a rfl
    obtain ⟨b, off, sp⟩ := a
    simp only at hs
    subst hs
    obtain ⟨news, n1, n2, n3, n4⟩ := list_cells (show 0 < ty.size by omega) k1'
    refine (clone_some L i z ei.size ei.bytes z1 z4 z2 z3 z6 y2 b off (List.length xs) cap news w (by rw [n1, y1]) (by omega) (by unfold maxLen; omega) n4 n2).mono fun e w' => ?_
    rintro ⟨v', rfl, hown, hnn, bel⟩
    obtain ⟨ol, ho⟩ := hown
    rcases ho with ⟨ho, _⟩ | ⟨g, cp, cur, rfl, hg, hheap, hn, hm, hsz, htk⟩
    · exact absurd ho hnn
    · refine ⟨_, S, [⟨some ⟨g, 0, none⟩, cp⟩], rfl, bel, fun _ h => h, fun _ h => .inl h, ⟨_, rfl, rfl, ⟨hn, hm, fun e => (by cases e), fun a ea => ?_⟩⟩, ⟨fun l hl b' hb' => ?_, List.pairwise_singleton _ _⟩⟩
      · cases ea
        refine ⟨g, cur, _, (0, 0), rfl, hheap, by rw [hsz, y1], fun i _ hi => by simp at hi, fun i x hx => ?_, fun _ hS => by have := hlow _ hS; omega, fun e => (by cases e)⟩
        obtain ⟨c', c1, c2⟩ := n3 i x hx
        refine ⟨c', RepT.mono (fun b hb => bel.block b (hlow b hb)) (fun _ h => h) _ _ _ c1, fun j u hj => ?_⟩
        have hnj := c2 j u hj
        rw [← htk, List.getElem?_take] at hnj
        split at hnj
        · simpa using hnj
        · cases hnj
      · simp only [List.mem_singleton] at hl
        subst hl
        simp [Loc.blk] at hb'
        subst hb'
        show ¬ _ < _
        omega
end
end Go.Dv

/- Plain laws: loops by an invariant, guards, whole numbers. -/
namespace Go.Dv

theorem iter_inv {A R : Type} {f : (A → Option R) → A → Option R} (I : A → Prop) (Q : R → Prop) (μ : A → Nat)
    (h : ∀ rec a, I a → (∀ a', I a' → μ a' < μ a → ∃ r, rec a' = some r ∧ Q r) → ∃ r, f rec a = some r ∧ Q r) : ∀ n a, I a → μ a < n → ∃ r, iter f n a = some r ∧ Q r
  | 0, _, _, hn => absurd hn (Nat.not_lt_zero _)
  | n + 1, a, ha, hn => h _ a ha fun a' ha' hm => iter_inv I Q μ h n a' ha' (by omega)

variable {R : Type}

theorem gd_t {b : Bool} (h : b = true) (k : Option R) : gd b k = k := by rw [h]; rfl
theorem gd_p {p : Prop} [Decidable p] (h : p) (k : Option R) : gd (decide p) k = k := gd_t (decide_eq_true h) k
theorem inB_t {i : Int} {n : Nat} (h0 : 0 ≤ i) (h1 : i < n) : inB i n = true := by simp [inB, h0, h1]
theorem fits_t {n b : Nat} (h : n < maxB) (h' : n * b < maxB) : fits n b = true := by simp [fits, h, h']
theorem w64 {n : Int} (h0 : -9223372036854775808 ≤ n) (h1 : n < 9223372036854775808) : IntKind.wrap .i64 n = n := by
  rw [IntKind.wrap_i64]; omega
theorem bif_t {α : Type} {b : Bool} {x y : α} (h : b = true) : (bif b then x else y) = x := by rw [h]; rfl
theorem bif_f {α : Type} {b : Bool} {x y : α} (h : b = false) : (bif b then x else y) = y := by rw [h]; rfl
theorem eqi_iff {a b : Int} : eqi a b = true ↔ a = b := by simp [eqi]
theorem eqi_ne {a b : Int} (h : a ≠ b) : eqi a b = false := by simp [eqi, h]
theorem eqs_iff {a b : List UInt8} : eqs a b = true ↔ a = b := by simp [eqs]
theorem eqs_ne {a b : List UInt8} (h : a ≠ b) : eqs a b = false := by simp [eqs, h]
@[simp] theorem eqi_self (a : Int) : eqi a a = true := by simp [eqi]
@[simp] theorem eqs_self (a : List UInt8) : eqs a a = true := by simp [eqs]

theorem u8_of_wf {n : Int} (h : (Lit.int .u8 n).wf = true) : 0 ≤ n ∧ n < 256 := by
  simp [Lit.wf, IntKind.min, IntKind.max, IntKind.signed, IntKind.bits] at h
  omega

/-- a finite look at a byte -/
theorem u8_all {p : Int → Bool} (h : ((List.range 256).all fun n => p (n : Int)) = true) {n : Int} (h0 : 0 ≤ n) (h1 : n < 256) : p n = true := by
  have := List.all_eq_true.1 h n.toNat (by simp; omega)
  rwa [Int.toNat_of_nonneg h0] at this

def okO {α : Type} (o : Option α) (p : α → Bool) : Bool := match o with | some x => p x | none => false
theorem okO_some {α : Type} {o : Option α} {p : α → Bool} (h : okO o p = true) : ∃ x, o = some x ∧ p x = true := by
  cases o with
  | none => cases h
  | some x => exact ⟨x, rfl, h⟩

theorem u8_opt {α : Type} {f : Int → Option α} {p : α → Bool} (h : ((List.range 256).all fun n => okO (f (n : Int)) p) = true) {n : Int} (h0 : 0 ≤ n) (h1 : n < 256) : ∃ x, f n = some x ∧ p x = true :=
  okO_some (u8_all (p := fun n => okO (f n) p) h h0 h1)

theorem all_opt {α β : Type} {l : List β} {f : β → Option α} {p : β → α → Bool} (h : (l.all fun b => okO (f b) (p b)) = true) {b : β} (hb : b ∈ l) : ∃ x, f b = some x ∧ p b x = true :=
  okO_some (List.all_eq_true.1 h b hb)

theorem tmod_b {a b : Int} (h : 0 ≤ a) (hb : 0 < b) : 0 ≤ Int.tmod a b ∧ Int.tmod a b < b := by
  rw [Int.tmod_eq_emod_of_nonneg h]
  exact ⟨Int.emod_nonneg _ (by omega), Int.emod_lt_of_pos _ hb⟩

/-! walking along a list -/
section walk
variable {α : Type} {pre post : List α} {q d : α}
theorem rd_mid : rdL (pre ++ q :: post) (pre.length : Int) d = q := by simp [rdL]
theorem getD_mid : List.getD (pre ++ q :: post) (Int.toNat (pre.length : Int)) d = q := by simp
theorem set_mid {y : α} : setL (pre ++ q :: post) (pre.length : Int) y = pre ++ y :: post := by simp [setL]
theorem in_mid : inB (pre.length : Int) (pre ++ q :: post).length = true := inB_t (by omega) (by simp; omega)
theorem lt_mid : decide ((pre.length : Int) < ((pre ++ q :: post).length : Int)) = true := by simp; omega
theorem lt_end : decide ((pre.length : Int) < ((pre ++ ([] : List α)).length : Int)) = false := by simp
theorem wr_mid (h : pre.length < 9223372036854775807) : IntKind.wrap .i64 ((pre.length : Int) + (1 : Int)) = ((pre ++ [q]).length : Int) := by
  rw [w64 (by omega) (by omega)]; simp
theorem app_mid : pre ++ q :: post = (pre ++ [q]) ++ post := by simp
theorem rd_get {xs : List α} {i : Int} {x : α} (h0 : 0 ≤ i) (h : xs[i.toNat]? = some x) : rdL xs i d = x := by simp [rdL, List.getD, h]
theorem rd_zero {x : α} {xs : List α} : rdL (x :: xs) 0 d = x := rfl
end walk

theorem fits_p {n b : Nat} (h : n < 4294967296) (hb : b < 1024) : fits n b = true := by
  refine fits_t (by simp only [maxB]; omega) ?_
  have : n * b ≤ 4294967295 * 1023 := Nat.mul_le_mul (by omega) (by omega)
  simp only [maxB]; omega
end Go.Dv

/- From a row of 'for every input the law returns true' to a plain law: arguments are opened by their types' looks. -/
namespace Go.Dv
open Go.RowKit Go.ChangeShapes Go.WideShapes Go.ChangeAt

variable [LTab]

/-- a lower bound of the bytes of a value -/
def Ty.bytes : Ty → Nat
  | .int k => match k with | .i8 => 1 | .u8 => 1 | .i16 => 2 | .u16 => 2 | .i32 => 4 | .u32 => 4 | _ => 8
  | .bool => 1
  | .str => 16
  | .unit => 0
  | .pair a b => a.bytes + b.bytes
  | .list _ => 24

/-- what the model says of a value's scalars -/
def okT : (t : Ty) → t.T → Prop
  | .int k, n => (Lit.int k n).wf = true
  | .bool, _ => True
  | .str, s => List.length s ≤ reachBytes
  | .unit, _ => True
  | .pair a b, x => okT a x.1 ∧ okT b x.2
  | .list t, xs => List.length xs * t.bytes ≤ reachBytes ∧ ∀ (i : Nat) (x : t.T), getq (α := t.T) xs i = some x → okT t x

def okSh : (s : Sh) → s.T → Prop
  | .int k, n => (Lit.int k n).wf = true
  | .str, s => List.length s ≤ reachBytes
  | .list t, xs => okT (.list t) xs
  | .val t, x => okT t x
  | .cons a b, x => okSh a x.1 ∧ okSh b x.2
  | _, _ => True

/-- fields and elements, one behind the other -/
def fitsL (P : Program) (F : TypeId → Ty → Bool) : List (TypeId × Nat) → Nat → Ty → Bool
  | [], _, t => match t with | .unit => true | _ => false
  | p :: r, off, t => Nat.beq p.2 off && match r with
    | [] => F p.1 t && Nat.beq (P.cellsOf p.1) t.size
    | _ :: _ => match t with
      | .pair a b => F p.1 a && Nat.beq (P.cellsOf p.1) a.size && fitsL P F r (off + a.size) b
      | _ => false

def fitsT (P : Program) : Nat → TypeId → Ty → Bool
  | 0, _, _ => false
  | k + 1, t, τ => match P.underlying t with
    | some d => match d with
      | .bool => match τ with | .bool => true | _ => false
      | .int i => match τ with | .int j => decide (i = j) | _ => false
      | .string => match τ with | .str => true | _ => false
      | .struct fs => Nat.beq (P.cellsOf t) τ.size && fitsL P (fitsT P k) (fs.toList.map fun f => (f.type, f.offset)) 0 τ
      | .array n e => Nat.beq (P.cellsOf t) τ.size && fitsL P (fitsT P k) ((List.range n).map fun i => (e, i * P.cellsOf e)) 0 τ
      | _ => false
    | none => false

def fitsA (P : Program) (k : Nat) (t : TypeId) (s : Sh) : Bool := match P.underlying t with
  | some d => match d with
    | .bool => match s with | .bool => true | _ => false
    | .int i => match s with | .int j => decide (i = j) | _ => false
    | .string => match s with | .str => true | _ => false
    | .struct _ => match s with | .val τ => fitsT P k t τ | _ => false
    | .array _ _ => match s with | .val τ => fitsT P k t τ | _ => false
    | .slice e => match s with | .list τ => !Nat.beq τ.size 0 && fitsT P k e τ && Nat.beq (P.cellsOf e) τ.size && Nat.ble τ.bytes (P.bytesOf e) | _ => false
    | _ => false
  | none => false

def fitsArgs (P : Program) (k : Nat) : List TypeId → Sh → Bool
  | [], s => match s with | .nil => true | _ => false
  | t :: ts, s => match ts with
    | [] => fitsA P k t s
    | _ :: _ => match s with | .cons a b => fitsA P k t a && fitsArgs P k ts b | _ => false

section
variable {H : Type} {enc : TypeId × Value → H} {P : Program} {w : World} {base : Nat} {spare : Nat → Bool} {held : Bool} {S : Nat → Prop}

theorem weightsEach_map {α : Type} (e : TypeId) : ∀ (l : List α) (ds : List (DataW H)), ds.length = l.length → DataW.weightsEach P (l.map fun _ => e) ds = DataW.weightsAll P e ds
  | [], [], _ => by simp [DataW.weightsEach, DataW.weightsAll]
  | _ :: l, d :: ds, h => by
    simp only [List.map_cons, DataW.weightsEach, DataW.weightsAll]
    rw [weightsEach_map e l ds (by simpa using h)]
  | [], _ :: _, h => by simp at h
  | _ :: _, [], h => by simp at h

theorem open_parts {F : TypeId → Ty → Bool} {m : Nat}
    (ih : ∀ (t : TypeId) (τ : Ty) (cs : List Value) (x : DataW H × List MemPlace), F t τ = true → DataW.trod enc P w base spare held m t cs = some x → (x.1.weights P t).all (· ≤ reachBytes) = true → ∃ v, RepT w S τ v cs ∧ okT τ v) :
    ∀ (l : List (TypeId × Nat)) (off : Nat) (τ : Ty) (cs : List Value) (xs : List (DataW H × List MemPlace)), fitsL P F l off τ = true → xs.length = l.length → cs.length = off + τ.size →
      (∀ (i : Nat) (p : TypeId × Nat), l[i]? = some p → DataW.trod enc P w base spare held m p.1 ((cs.drop p.2).take (P.cellsOf p.1)) = xs[i]?) →
      (DataW.weightsEach P (l.map (·.1)) (xs.map (·.1))).all (· ≤ reachBytes) = true → ∃ v, RepT w S τ v (cs.drop off) ∧ okT τ v
  | [], off, τ, cs, xs, hf, _, hl, _, _ => by
    cases τ <;> simp only [fitsL, Bool.false_eq_true] at hf
    exact ⟨(), List.drop_eq_nil_of_le (by simp [Ty.size] at hl; omega), trivial⟩
  | p :: r, off, τ, cs, [], hf, hx, _, _, _ => by simp at hx
  | p :: r, off, τ, cs, x :: xs, hf, hx, hl, ht, hw => by
    simp only [fitsL, Bool.and_eq_true] at hf
    obtain ⟨h0, hf⟩ := hf
    have h0 := Nat.eq_of_beq_eq_true h0
    simp only [List.map_cons, DataW.weightsEach, List.all_append, Bool.and_eq_true] at hw
    obtain ⟨hw1, hw2⟩ := hw
    have hp := ht 0 p rfl
    rw [h0] at hp
    cases r with
    | nil =>
      simp only [Bool.and_eq_true] at hf
      have hc := Nat.eq_of_beq_eq_true hf.2
      rw [hc, List.take_of_length_le (by simp; omega)] at hp
      exact ih _ _ _ _ hf.1 hp hw1
    | cons q r =>
      cases τ <;> simp only [Bool.false_eq_true] at hf
      rename_i a b
      simp only [Bool.and_eq_true] at hf
      obtain ⟨⟨hf1, hc⟩, hf2⟩ := hf
      have hc := Nat.eq_of_beq_eq_true hc
      rw [hc] at hp
      obtain ⟨v, hv, ov⟩ := ih _ _ _ _ hf1 hp hw1
      obtain ⟨u, hu, ou⟩ := open_parts ih (q :: r) (off + a.size) b cs xs hf2 (by simpa using hx) (by simp only [Ty.size] at hl; omega) (fun i p' hp' => by simpa using ht (i + 1) p' (by simpa using hp')) hw2
      refine ⟨(v, u), ⟨(cs.drop off).take a.size, cs.drop (off + a.size), ?_, hv, hu⟩, ov, ou⟩
      rw [← List.drop_drop, List.take_append_drop]

theorem open_fits : ∀ (k : Nat) (t : TypeId) (τ : Ty) (m : Nat) (cs : List Value) (x : DataW H × List MemPlace), fitsT P k t τ = true → DataW.trod enc P w base spare held m t cs = some x →
    (x.1.weights P t).all (· ≤ reachBytes) = true → ∃ v, RepT w S τ v cs ∧ okT τ v
  | 0, _, _, _, _, _, h, _, _ => by simp [fitsT] at h
  | k + 1, t, τ, m, cs, x, hf, h, hw => by
    simp only [fitsT] at hf
    split at hf
    · rename_i d hd
      split at hf
      · split at hf
        · obtain ⟨b, rfl, rfl⟩ := DataW.trod_bool hd h
          exact ⟨b, rfl, trivial⟩
        · cases hf
      · split at hf
        · have hf := of_decide_eq_true hf
          subst hf
          obtain ⟨n, rfl, rfl, hn⟩ := DataW.trod_int hd h
          exact ⟨n, rfl, hn⟩
        · cases hf
      · split at hf
        · obtain ⟨s, rfl, rfl, hs⟩ := DataW.trod_string hd h
          refine ⟨s.data.toList, by simp [RepT], ?_⟩
          simpa [DataW.weights, okT] using hw
        · cases hf
      · rename_i fs
        simp only [Bool.and_eq_true] at hf
        obtain ⟨hc, hf⟩ := hf
        have hc := Nat.eq_of_beq_eq_true hc
        obtain ⟨xs, n, rfl, rfl, hl, hxl, hx⟩ := DataW.trod_struct hd h
        simp only [DataW.weights, hd] at hw
        have := open_parts (S := S) (fun t τ cs x a b c => open_fits k t τ n cs x a b c) _ 0 τ cs xs hf (by simpa using hxl) (by omega)
          (fun i p hp => by
            simp only [List.getElem?_map, Option.map_eq_some_iff] at hp
            obtain ⟨f, hf', rfl⟩ := hp
            exact hx i f (by simpa using hf'))
          (by simpa [List.map_map, Function.comp_def] using hw)
        simpa using this
      · rename_i n' e
        simp only [Bool.and_eq_true] at hf
        obtain ⟨hc, hf⟩ := hf
        have hc := Nat.eq_of_beq_eq_true hc
        obtain ⟨xs, n, rfl, rfl, hl, hxl, hx⟩ := DataW.trod_array hd h
        simp only [DataW.weights, hd] at hw
        have := open_parts (S := S) (fun t τ cs x a b c => open_fits k t τ n cs x a b c) _ 0 τ cs xs hf (by simpa using hxl) (by omega)
          (fun i p hp => by
            simp only [List.getElem?_map, Option.map_eq_some_iff] at hp
            obtain ⟨j, hj, rfl⟩ := hp
            have hj' := (List.getElem?_eq_some_iff.1 hj)
            obtain ⟨hlt, hj'⟩ := hj'
            simp at hj' hlt
            subst hj'
            exact hx i hlt)
          (by
            rw [List.map_map]
            have := weightsEach_map (P := P) (H := H) e (List.range n') (xs.map (·.1)) (by simpa using hxl)
            simp only [Function.comp_def]
            rw [this]; exact hw)
        simpa using this
      · cases hf
    · cases hf

theorem exists_list {α : Type} {n : Nat} {p : Nat → α → Prop} (h : ∀ i, i < n → ∃ x, p i x) : ∃ xs : List α, xs.length = n ∧ ∀ (i : Nat) (x : α), getq xs i = some x → p i x := by
  induction n with
  | zero => exact ⟨[], rfl, fun i x h => by simp [getq] at h⟩
  | succ n ih =>
    obtain ⟨xs, h1, h2⟩ := ih fun i hi => h i (by omega)
    obtain ⟨y, hy⟩ := h n (by omega)
    refine ⟨xs ++ [y], by simp [h1], fun i x hx => ?_⟩
    simp only [getq] at hx h2
    by_cases hi : i < xs.length
    · rw [List.getElem?_append_left hi] at hx
      exact h2 i x hx
    · rw [List.getElem?_append_right (by omega)] at hx
      have : i - xs.length = 0 := by
        have := (List.getElem?_eq_some_iff.1 hx).1
        simp at this; omega
      rw [this] at hx
      have e : i = n := by omega
      subst e
      simp at hx; subst hx; exact hy

theorem open_list {k : Nat} {t e : TypeId} {τ : Ty} {v : Value} {d : DataW H} {ps : List MemPlace} (ht : P.underlying t = some (.slice e)) (hf : fitsT P k e τ = true) (hz : τ.size ≠ 0) (hc : P.cellsOf e = τ.size) (hb : τ.bytes ≤ P.bytesOf e)
    (hval : Value.okWide P w .any base t v) (h : DataW.Trod enc P w 0 spare held t v d ps) (hw : (d.weights P t).all (· ≤ reachBytes) = true) :
    ∃ xs : List τ.T, RepT w (fun b => b < w.heap.size) (.list τ) xs [v] ∧ okT (.list τ) xs := by
  obtain ⟨a0, len0, cap0, rfl⟩ := okWide_slice ht hval
  obtain ⟨fuel, h⟩ := h
  rcases DataW.trod_slice ht h with ⟨hcs, _⟩ | ⟨a, len, cap, elems, rest, n, _, hcs, hx, _, hl, hm, hlen, hel, _, _⟩
  · simp [Value.cells] at hcs
    obtain ⟨rfl, rfl, rfl⟩ := hcs
    exact ⟨([] : List τ.T), ⟨none, 0, rfl, Nat.le_refl _, fun _ => rfl, fun a h => (by cases h), fun i x hx => (by simp [getq] at hx)⟩, by simp, fun i x hx => (by simp [getq] at hx)⟩
  · simp [Value.cells] at hcs
    obtain ⟨rfl, rfl, rfl⟩ := hcs
    obtain ⟨rfl, -⟩ := Prod.mk.inj hx
    simp only [DataW.weights, ht, List.all_cons, List.all_append, Bool.and_eq_true, decide_eq_true_eq, List.length_map] at hw
    obtain ⟨hw0, hw1, _⟩ := hw
    have spot : a.spot = none := by
      simp only [Value.okWide, ht, Cell.okWide, Cell.ok] at hval
      exact hval.2.2.2.1
    have wAll : ∀ (l : List (DataW H × List MemPlace)) (i : Nat) (y : DataW H × List MemPlace), (DataW.weightsAll P e (l.map (·.1))).all (· ≤ reachBytes) = true → l[i]? = some y → (y.1.weights P e).all (· ≤ reachBytes) = true := by
      intro l
      induction l with
      | nil => intro i y _ h; simp at h
      | cons z l ih =>
        intro i y hw h
        simp only [List.map_cons, DataW.weightsAll, List.all_append, Bool.and_eq_true] at hw
        cases i with
        | zero => simp at h; subst h; exact hw.1
        | succ i => exact ih i y hw.2 (by simpa using h)
    have each : ∀ i : Nat, i < len0 → ∃ (x : τ.T), ∃ c : List Value, RepT w (fun b => b < w.heap.size) τ x c ∧ okT τ x ∧ a.block < w.heap.size ∧ CellsAt w a.block (a.off + i * τ.size) c := by
      intro i hi
      have hi' : i < elems.length := by omega
      have h1 := hel i hi
      rw [List.getElem?_eq_getElem hi', Option.bind_eq_some_iff] at h1
      obtain ⟨cs, h1, h2⟩ := h1
      obtain ⟨_, hcl, hcs⟩ := World.cells?_some h1
      obtain ⟨x, hx, ox⟩ := open_fits (S := fun b => b < w.heap.size) k e τ n cs _ hf h2 (wAll elems i _ hw1 (List.getElem?_eq_getElem hi'))
      have hcell : ∀ j u, cs[j]? = some u → w.cell? ⟨a.block, a.off + i * τ.size + j, none⟩ = some u := by
        intro j u hu
        have hj := (List.getElem?_eq_some_iff.1 hu).1
        have := hcs j (by omega)
        rw [hu, hc] at this
        obtain ⟨a1, a2, a3⟩ := a
        simp only at spot
        subst spot
        have ad : ∀ (b o i : Nat), (⟨b, o, none⟩ : Addr).add i = ⟨b, o + i, none⟩ := by
          intro b o i
          unfold Addr.add
          split
          · rename_i h; subst h; rfl
          · rfl
        rw [ad, ad] at this
        exact this
      refine ⟨x, cs, hx, ox, ?_, hcell⟩
      have hz' : 0 < cs.length := by rw [RepT.length hx]; omega
      have := hcell 0 _ (List.getElem?_eq_getElem hz')
      unfold World.cell? at this
      split at this
      · rename_i hb
        exact (Array.getElem?_eq_some_iff.1 hb).1
      · cases this
    obtain ⟨xs, hxl, hxs⟩ := exists_list each
    subst hxl
    refine ⟨xs, ⟨some a, cap0, rfl, hl, fun h => (by cases h), fun a' h => by cases h; exact spot, fun i x hx => ?_⟩, ?_, fun i x hx => ?_⟩
    · obtain ⟨c, h1, _, h3, h4⟩ := hxs i x hx
      exact ⟨a, c, rfl, h3, h1, h4⟩
    · have : List.length xs * τ.bytes ≤ (elems.length + rest.length) * P.bytesOf e := Nat.mul_le_mul (by omega) hb
      omega
    · obtain ⟨c, _, h2, _⟩ := hxs i x hx
      exact h2

theorem open_arg {k : Nat} {t : TypeId} {s : Sh} {v : Value} {d : DataW H} {ps : List MemPlace} (hf : fitsA P k t s = true)
    (hval : Value.okWide P w .any base t v) (h : DataW.Trod enc P w 0 spare held t v d ps) (hw : (d.weights P t).all (· ≤ reachBytes) = true) :
    ∃ x : s.T, RepAs w (fun b => b < w.heap.size) g0 m0 (mkL s x) [v] ∧ okSh s x := by
  have one : ∀ {τ : Ty} {x : τ.T} {cs : Array Value}, v = .agg cs → RepT w (fun b => b < w.heap.size) τ x cs.toList → RepAs w (fun b => b < w.heap.size) g0 m0 [.agg (Dv.enc τ x)] [v] := by
    intro τ x cs hv hr
    exact ⟨v, [], rfl, ⟨cs.toList, by rw [hv], hr.enc, allOne_enc _ _⟩, rfl⟩
  simp only [fitsA] at hf
  split at hf
  · rename_i dd hd
    split at hf
    · split at hf
      · obtain ⟨b, rfl⟩ := okWide_bool hd hval
        exact ⟨b, ⟨_, [], rfl, rfl, rfl⟩, trivial⟩
      · cases hf
    · split at hf
      · have hf := of_decide_eq_true hf
        subst hf
        obtain ⟨n, rfl, _, _, hn⟩ := open_int hd hval h
        exact ⟨n, ⟨_, [], rfl, rfl, rfl⟩, hn⟩
      · cases hf
    · split at hf
      · obtain ⟨fuel, h⟩ := h
        obtain ⟨b, rfl⟩ := okWide_string hd hval
        obtain ⟨s, h1, h2, hs⟩ := DataW.trod_string hd h
        simp [Value.cells] at h1
        subst h1
        obtain ⟨rfl, -⟩ := Prod.mk.inj h2
        refine ⟨b.data.toList, ⟨_, [], rfl, by simp [RepA], rfl⟩, ?_⟩
        simpa [DataW.weights, okSh] using hw
      · cases hf
    · split at hf
      · obtain ⟨fuel, h⟩ := h
        obtain ⟨cs, rfl, _⟩ := okWide_struct hd hval
        obtain ⟨x, hx, ox⟩ := open_fits (S := fun b => b < w.heap.size) _ _ _ _ _ _ hf h hw
        exact ⟨x, one rfl hx, ox⟩
      · cases hf
    · split at hf
      · obtain ⟨fuel, h⟩ := h
        have hv : ∃ cs, v = .agg cs := by
          simp only [Value.okWide, hd] at hval
          obtain ⟨cs, h, _⟩ := hval
          exact ⟨cs, h⟩
        obtain ⟨cs, rfl⟩ := hv
        obtain ⟨x, hx, ox⟩ := open_fits (S := fun b => b < w.heap.size) _ _ _ _ _ _ hf h hw
        exact ⟨x, one rfl hx, ox⟩
      · cases hf
    · split at hf
      · simp only [Bool.and_eq_true, Bool.not_eq_true'] at hf
        obtain ⟨⟨⟨h1, h2⟩, h3⟩, h4⟩ := hf
        obtain ⟨xs, hx, ox⟩ := open_list hd h2 (Nat.ne_of_beq_eq_false h1) (Nat.eq_of_beq_eq_true h3) (Nat.le_of_ble_eq_true h4) hval h hw
        exact ⟨xs, ⟨_, [], rfl, hx, rfl⟩, ox⟩
      · cases hf
    · cases hf
  · cases hf

theorem open_args {k : Nat} : ∀ (ts : List TypeId) (s : Sh) (vs : List Value) (ds : List (DataW H)) (ps : List MemPlace), fitsArgs P k ts s = true → DataW.TrodAll enc P w 0 spare held ts vs ds ps →
    (∀ (j : Nat) t v, ts[j]? = some t → vs[j]? = some v → Value.okWide P w .any base t v) → (DataW.weightsEach P ts ds).all (· ≤ reachBytes) = true →
    ∃ x : s.T, RepAs w (fun b => b < w.heap.size) g0 m0 (mkL s x) vs ∧ okSh s x
  | [], s, vs, ds, ps, hf, h, _, _ => by
    simp only [fitsArgs] at hf
    split at hf
    · obtain ⟨rfl, rfl, rfl⟩ := trodAll_nil h
      exact ⟨(), rfl, trivial⟩
    · cases hf
  | t :: ts, s, vs, ds, ps, hf, h, hval, hw => by
    obtain ⟨v, vs, d, ds, p, q, rfl, rfl, rfl, h0, h1⟩ := trodAll_cons h
    simp only [DataW.weightsEach, List.all_append, Bool.and_eq_true] at hw
    cases ts with
    | nil =>
      simp only [fitsArgs] at hf
      obtain ⟨rfl, rfl, rfl⟩ := trodAll_nil h1
      exact open_arg hf (hval 0 t v rfl rfl) h0 hw.1
    | cons t' ts =>
      simp only [fitsArgs] at hf
      split at hf
      · rename_i a b
        simp only [Bool.and_eq_true] at hf
        obtain ⟨x, hx, ox⟩ := open_arg hf.1 (hval 0 t v rfl rfl) h0 hw.1
        obtain ⟨y, hy, oy⟩ := open_args (t' :: ts) b vs ds q (by simpa [fitsArgs] using hf.2) h1 (fun j t v ht hv => hval (j + 1) t v (by simpa using ht) (by simpa using hv)) hw.2
        exact ⟨(x, y), RepAs.append hx hy, ox, oy⟩
      · cases hf

theorem below_trodAll {W W' : World} (laid : laidOutB P = true) (bel : Below W.heap.size W W') : ∀ (ts : List TypeId) (vs : List Value) (ds : List (DataW H)) (ps : List MemPlace),
    (∀ t, t ∈ ts → P.readableRec t = true ∧ t < P.types.size) → DataW.TrodAll enc P W 0 (fun _ => true) true ts vs ds ps → DataW.TrodAll enc P W' 0 (fun b => decide (b < W.heap.size)) true ts vs ds ps
  | [], vs, ds, ps, _, h => by
    obtain ⟨rfl, rfl, rfl⟩ := trodAll_nil h
    exact trodAll_mk0
  | t :: ts, vs, ds, ps, hr, h => by
    obtain ⟨v, vs, d, ds, p, q, rfl, rfl, rfl, h0, h1⟩ := trodAll_cons h
    have lt : ∀ x ∈ p, x.block < W.heap.size := by obtain ⟨m, hm⟩ := h0; exact DataW.trod_lt m _ _ _ hm
    exact ⟨p, q, Below.trod laid (hr t (by simp)).1 (hr t (by simp)).2 h0 bel lt, below_trodAll laid bel ts vs ds q (fun t ht => hr t (by simp [ht])) h1, rfl⟩

theorem trodAll_len : ∀ (ts : List TypeId) (vs : List Value) (ds : List (DataW H)) (ps : List MemPlace), DataW.TrodAll enc P w base spare held ts vs ds ps → ds.length = ts.length
  | [], vs, ds, ps, h => by
    obtain ⟨rfl, rfl, rfl⟩ := trodAll_nil h
    rfl
  | t :: ts, vs, ds, ps, h => by
    obtain ⟨v, vs, d, ds, p, q, rfl, rfl, rfl, h0, h1⟩ := trodAll_cons h
    simp [trodAll_len ts vs ds q h1]
end

/-- the row of a law that returns true -/
theorem law_lifted {H : Type} {enc : TypeId × Value → H} {C : Checked} {os : Os} {f : FuncId} {fn : Func} {s : ChangeSpec} {conds : List PathCond} {u : TypeId} {sh : Sh} {F : sh.T → Option Bool} {k : Nat}
    (own : ownKnob C.prog.godebug = none) (started : os.Started) (noInit : C.prog.inits.idxOf? f = none) (hfn : C.prog.funcs[f]? = some fn)
    (witness : ∃ (w : World) (tape : Tape) (i : Input), w.os = os ∧ (w.forCall tape i).Shaped C.prog ∧ i.vars = [] ∧ Input.okWide C.prog (w.forCall tape i) .any w.heap.size f i ∧
      s.pre6 enc C.prog fn conds false (w.forCall tape i).memory i.args ∧ Assume.holds {} C.prog (lone (Frame.enter C.prog f i.args .normal) [] (w.forCall tape i)))
    (laid : laidOutB C.prog = true) (hread : (fn.params.toList.all fun t => C.prog.readableRec t && Nat.blt t C.prog.types.size) = true)
    (hres : fn.resultTypes = #[u]) (hu : C.prog.underlying u = some .bool) (hvars : s.vars = [])
    (hspec : ∀ (ds : List (DataW H)), ds.length = fn.params.size → s.fn H ds = { results := [.lit (.bool true)], args := ds })
    (hs : SoundF C.prog f fun avs => (ctrOf sh .bool [] F).run avs some)
    (hfit : fitsArgs C.prog k fn.params.toList sh = true) (hget : ∀ x, allDone (getP m0 [] sh (mkL sh x)) = some x)
    (law : ∀ x, okSh sh x → F x = some true) :
    ReturnsInHanded {} C os f .any (s.pre6 enc C.prog fn conds false) (s.post enc C.prog fn false true false false) := by
  refine returnsInHanded_of_change_sized own started noInit hfn witness ?_
  intro W base args ds gs before hval hW hcnd hsz _
  have hW' := hW
  obtain ⟨p, q, hA, hV, rfl, hfz, hnd⟩ := hW
  rw [hvars] at hV
  obtain ⟨rfl, rfl⟩ := trodVars_none hV
  have hlen := trodAll_len _ _ _ _ hA
  have hwe : (DataW.weightsEach C.prog fn.params.toList ds).all (· ≤ reachBytes) = true := by
    have : ∀ (ts us : List TypeId) (ds : List (DataW H)), ds.length = ts.length → DataW.weightsEach C.prog (ts ++ us) ds = DataW.weightsEach C.prog ts ds := by
      intro ts
      induction ts with
      | nil => intro us ds h; simp at h; subst h; cases us <;> simp [DataW.weightsEach]
      | cons t ts ih =>
        intro us ds h
        cases ds with
        | nil => simp at h
        | cons d ds => simp only [List.cons_append, DataW.weightsEach]; rw [ih us ds (by simpa using h)]
    rw [List.append_nil, this _ _ _ hlen] at hsz
    exact hsz
  obtain ⟨x, hx, ox⟩ := open_args (k := k) (base := base) _ sh _ _ _ hfit hA (fun j t v ht hv => hval j t v (by simpa using ht) (by simpa using hv)) hwe
  have hF := law x ox
  have hrun : (ctrOf sh .bool [] F).run (mkL sh x) some = some (.bool true) := by
    simp only [Ctr.run, ctrOf, hget, hF]
    rfl
  obtain ⟨_, hc⟩ := hs W (fun b => b < W.heap.size) (mkL sh x) args.toList (.bool true) (fun b h => h) hx hrun
  refine hc.mono fun e W' he => ?_
  obtain ⟨v, S', ls, rfl, bel, _, _, hv, _⟩ := he
  obtain ⟨rfl, hv⟩ := hv
  have hv : v = .bool true := hv
  subst hv
  refine ⟨_, rfl, ds, [], p ++ [], [], p, [], hW', ?_, ?_, ?_, bel.frame _, fun h => by cases h⟩
  · rw [List.append_nil, hspec ds (by simpa using hlen), hres]
    exact trodAll_mk1 (shut_bool hu _)
  · rw [List.append_nil, hspec ds (by simpa using hlen)]
    refine below_trodAll laid bel _ _ _ _ (fun t ht => ?_) hA
    have := List.all_eq_true.1 hread t ht
    simp only [Bool.and_eq_true] at this
    exact ⟨this.1, by simpa using this.2⟩
  · rw [List.append_nil, hspec ds (by simpa using hlen), hvars]
    rfl
end Go.Dv

/- slices.Sort of numbers: its contract, with a lent row. -/
namespace Go.Dv
open Go.RowKit

variable [LTab]

/-- a list of numbers in order -/
def sortI (xs : List Int) : List Int := xs.mergeSort fun x y => decide (x ≤ y)

theorem sortI_length (xs : List Int) : (sortI xs).length = xs.length := List.length_mergeSort ..

def sortIn : Cut := { tms := [0], sh := .own 5000000, objs := [(5000000, [0], .sl (.int .i64))], sts := [] }
def sortOut : Cut := { tms := [0], sh := .tup .nil, objs := [(5000000, [5000000], .sl (.int .i64))], sts := [] }

def sortF (v : sortIn.T) : Option (OutM sortOut []) := gd (Nat.blt (show List Int from v.2.1).length 4611686018427387904) (some ((), (sortI (show List Int from v.2.1), ())))

theorem grow_get {w : World} {os : Array Obj} {k : Nat} (h : k < w.heap.size) : (Sort.grow w os).heap[k]? = w.heap[k]? := by
  show (w.heap ++ os)[k]? = _
  rw [Array.getElem?_append_left h]

theorem putRow_get {α : Type} [Inhabited α] {enc : α → Value} {w : World} {blk off : Nat} {d : Array α} {k : Nat} (h : k ≠ blk) : (Sort.putRow enc w blk off d).heap[k]? = w.heap[k]? := by
  show (w.heap.modify blk _)[k]? = _
  rw [Array.getElem?_modify, if_neg (fun e => h e.symm)]

theorem putRow_at {α : Type} [Inhabited α] {enc : α → Value} {w : World} {blk off : Nat} {d : Array α} {arr : Array Value} {el : TypeId} {fz : Nat × Nat} (h : w.heap[blk]? = some (.cells arr el fz)) :
    (Sort.putRow enc w blk off d).heap[blk]? = some (.cells (Sort.putCells enc off d arr) el fz) := by
  show (w.heap.modify blk _)[blk]? = _
  rw [Array.getElem?_modify, if_pos rfl, h]
  rfl

theorem sort_sound {P : Program} {ρ : Shelf.Ren} (L : Proofs.Lays.n189 P ρ) {fn : Func} {c : Code} (hf : P.funcs[ρ.f 189]? = some fn) (hb : fn.body = some c) (hname : (fn.name == "runtime.NumGoroutine") = false) :
    SoundM P (ρ.f 189) (ctrM sortIn sortOut [] sortF) := by
  intro w S γ B v vals R t K r hm hB hrep hF hout
  refine ⟨callFunc_enter hf hb hname, ?_⟩
  obtain ⟨u0, xs, u1⟩ := v
  have hF : sortF (u0, xs, u1) = some t := hF
  obtain ⟨hbig, hF⟩ := gd_some hF
  simp only [Nat.blt_eq] at hbig
  cases hF
  obtain ⟨xs', hxs⟩ : ∃ xs' : List Int, xs' = (show List Int from xs) := ⟨_, rfl⟩
  have hbig : List.length (α := Int) xs' < 4611686018427387904 := by rw [hxs]; exact hbig
  have hK : K (mkC sortOut ((), (sortI xs', ()))) [5000000] = some r := by rw [hxs]; exact hout
  have hm5 : mofO sortIn.objs (xs, u1) 5000000 = some (.sl (.int .i64) xs' .live) := by rw [hxs]; rfl
  obtain ⟨va, us, rfl, k1, k2⟩ := hrep
  rw [show us = [] from k2]
  obtain ⟨t0, zs0, s0, z1, hva⟩ := k1
  have z1 : mofO sortIn.objs (xs, u1) 5000000 = some (.sl t0 zs0 s0) := z1
  rw [hm5] at z1; cases z1
  have hob : RowRel w S (γ 5000000) (.int .i64) xs' .live := hm.obj 5000000 _ hm5
  have hmo : ∀ n q, (mkC sortOut ((), (sortI xs', ()))).m n = some q → n = 5000000 ∧ q = .sl (.int .i64) (sortI xs') .live := by
    intro n q hq
    have hq : mofO sortOut.objs (sortI xs', ()) n = some q := hq
    simp only [sortOut, mofO] at hq
    cases hb : Nat.beq n 5000000 with
    | true =>
      rw [hb] at hq
      simp only [cond_true] at hq
      exact ⟨Nat.eq_of_beq_eq_true hb, (Option.some.inj hq).symm⟩
    | false => rw [hb] at hq; cases hq
  have hmi : ∀ n q, mofO sortIn.objs (xs, u1) n = some q → n = 5000000 ∧ q = .sl (.int .i64) xs' .live := by
    intro n q hq
    have hq0 := hq
    simp only [sortIn, mofO] at hq
    cases hb : Nat.beq n 5000000 with
    | true =>
      have e := Nat.eq_of_beq_eq_true hb
      subst e
      rw [hm5] at hq0
      exact ⟨rfl, (Option.some.inj hq0).symm⟩
    | false => rw [hb] at hq; cases hq
  have hso : (mkC sortOut ((), (sortI xs', ()))).m 5000000 = some (.sl (.int .i64) (sortI xs') .live) := rfl
  have fin : ∀ (w' : World), Bel B w w' → (∀ b, S b → w'.heap[b]? = w.heap[b]?) → RowRel w' S (γ 5000000) (.int .i64) (sortI xs') .live →
      ∃ x S' γ' τ ns, Ending.returned (Value.tuple #[]) = .returned x ∧ K τ ns = some r ∧ BackOk (fun _ => False) B w S γ (mofO sortIn.objs (xs, u1)) w' S' γ' τ ns x := by
    intro w' hbel hS hrow
    refine ⟨_, S, γ, _, _, rfl, hK, hbel.weak fun k hk => hk.1, fun _ h => h, fun _ h => .inl h, ⟨fun n q hq => ?_, fun b hb => Nat.lt_of_lt_of_le (hm.low b hb) hbel.size, fun n n' q q' b hq hq' _ _ hne _ _ => hne ((hmo n q hq).1.trans (hmo n' q' hq').1.symm), fun n q b hq _ hb => ?_⟩, ?_, fun n q q' h1 h2 => ?_, fun n hn => ?_⟩
    · obtain ⟨rfl, rfl⟩ := hmo n q hq
      exact hrow
    · obtain ⟨rfl, rfl⟩ := hmo n q hq
      exact hm.high 5000000 _ b hm5 rfl hb
    · exact ⟨[], rfl, rfl⟩
    · obtain ⟨rfl, rfl⟩ := hmo n q' h2
      obtain ⟨_, rfl⟩ := hmi _ q h1
      refine ⟨rfl, ?_⟩
      show (1 + _, List.length (α := Int) (sortI xs')) = (1 + _, List.length (α := Int) xs')
      rw [sortI_length]
    · cases hq : (mkC sortOut ((), (sortI xs', ()))).m n with
      | none => exact absurd hq hn
      | some q => rw [(hmo n q hq).1]; simp
  have hva : va = .slice (γ 5000000).a (List.length (α := Int) xs') (γ 5000000).cap := hva
  have hblen : List.length (α := Int) xs' ≤ (γ 5000000).cap := hob.len
  rw [hva]
  by_cases h0 : List.length (α := Int) xs' = 0
  · have hnil : xs' = [] := List.eq_nil_of_length_eq_zero h0
    rw [h0]
    refine (Proofs.Any.slices_Sort_int_none L (γ 5000000).a (γ 5000000).cap w).mono fun e w' => ?_
    rintro ⟨rfl, rfl⟩
    have es : sortI xs' = xs' := by rw [hnil]; exact List.mergeSort_nil
    exact fin w' (Bel.refl _ _) (fun _ _ => rfl) (by rw [es]; exact hob)
  · cases hla : (γ 5000000).a with
    | none =>
      have h1 := hob.nil hla
      omega
    | some ad =>
      obtain ⟨g, arr, el, fz, a1, a2, a3, a4, a5, a6, a7⟩ := hob.row _ hla
      subst a1
      have hS := a6 rfl
      have hlt := heap_lt a2
      have hblk : (γ 5000000).blk = some g := by simp [Loc.blk, hla]
      have hgB := hm.high 5000000 _ g hm5 rfl hblk
      have hsz : arr.size = (γ 5000000).cap := by rw [a3]; exact Nat.mul_one _
      have hle : List.length (α := Int) xs' ≤ arr.size := by rw [hsz]; exact hblen
      have hcell : ∀ j (hj : j < List.length (α := Int) xs'), arr[j]? = some (.int .i64 (xs'[j])) := by
        intro j hj
        obtain ⟨c, c1, c2⟩ := a5 j (xs'[j]) (show xs'[j]? = some xs'[j] from List.getElem?_eq_getElem hj)
        have c1 : c = [Value.int .i64 (xs'[j])] := c1
        subst c1
        have := c2 0 _ rfl
        have e1 : j * (Ty.int .i64).size + 0 = j := by show j * 1 + 0 = j; omega
        rw [e1] at this
        exact this
      have hH : Sort.Holds (Value.int .i64) w g 0 xs'.toArray := by
        intro j hj
        have hj' : j < List.length (α := Int) xs' := by simpa using hj
        refine ⟨?_, ?_⟩
        · rw [Nat.zero_add, cell_of_row w g _ _ _ _ a2, hcell j hj']
          congr 2
          simp [hj']
        · have := a4.weak (0 + j) (by omega)
          simp only [World.frozen?, a2]
          obtain ⟨lo, hi'⟩ := fz
          simpa using this
      refine (Proofs.Any.slices_Sort_int L g 0 (γ 5000000).cap xs' w hH hlt hbig).mono fun e w' => ?_
      rintro ⟨rfl, n, os, rfl⟩
      show ∃ x S' γ' τ ns, _ ∧ _ ∧ BackOk (fun _ => False) B w S γ _ (Sort.grow (Sort.putRow (Value.int .i64) (Sort.ahead w n) g 0 (sortI xs').toArray) os) S' γ' τ ns x
      have hget : ∀ k, k < w.heap.size → k ≠ g → (Sort.grow (Sort.putRow (Value.int .i64) (Sort.ahead w n) g 0 (sortI xs').toArray) os).heap[k]? = w.heap[k]? := by
        intro k hk hne
        rw [grow_get (by show k < (w.heap.modify g _).size; simpa using hk), putRow_get hne]
        rfl
      have hput : (Sort.grow (Sort.putRow (Value.int .i64) (Sort.ahead w n) g 0 (sortI xs').toArray) os).heap[g]? = some (.cells (Sort.putCells (Value.int .i64) 0 (sortI xs').toArray arr) el fz) := by
        rw [grow_get (by show g < (w.heap.modify g _).size; simpa using hlt)]
        exact putRow_at a2
      refine fin _ ⟨rfl, rfl, rfl, ?_, fun k hk => hget k (hB k hk) (fun e => hgB (e ▸ hk)), fun k ds hk => ?_⟩ (fun b hb => hget b (hm.low b hb) (fun e => hS (e ▸ hb))) ?_
      · show _ ≤ ((w.heap.modify g _) ++ os).size
        simp
      · rw [hget k (heap_lt hk) (fun e => by rw [e, a2] at hk; cases hk)]
        exact hk
      · have hps : (Sort.putCells (Value.int .i64) 0 (sortI xs').toArray arr).size = arr.size := by simp [Sort.putCells]
        refine ⟨(show List.length (α := Int) (sortI xs') ≤ _ by rw [sortI_length]; exact hblen), hob.cap, hob.nil, fun a ha => ?_⟩
        rw [hla] at ha; cases ha
        refine ⟨g, _, el, fz, rfl, hput, by rw [hps]; exact a3, by rw [hps]; exact a4, fun i x hx => ?_, fun _ => hS, fun e => (by cases e)⟩
        refine ⟨[.int .i64 x], rfl, fun j u hj => ?_⟩
        have hx' : (sortI xs')[i]? = some x := hx
        have hil := (List.getElem?_eq_some_iff.1 hx').1
        rw [sortI_length] at hil
        cases j with
        | succ j => simp at hj
        | zero =>
          simp only [List.getElem?_cons_zero, Option.some.injEq] at hj
          subst hj
          have e1 : i * (Ty.int .i64).size + 0 = i := by show i * 1 + 0 = i; omega
          rw [e1]
          unfold Sort.putCells
          rw [Array.getElem?_mapIdx, hcell i hil]
          have hs := sortI_length xs'
          have hi2 : i < (sortI xs').length := by omega
          simp only [Option.map_some, Nat.zero_le, true_and, Nat.zero_add, List.size_toArray, hi2, if_true, Nat.sub_zero]
          congr 2
          have hg : (sortI xs')[i] = x := (List.getElem?_eq_some_iff.1 hx').2
          have hg2 : (sortI xs').toArray[i]! = x := by
            rw [getElem!_pos (sortI xs').toArray i (by simpa using hi2)]
            simpa using hg
          exact hg2

end Go.Dv
