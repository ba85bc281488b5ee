/- slices.Clone, at any type of elements: what it does, and its contract. -/
import Derived.Test.YtmffojmbfphidaaDoorDvExt
import Derived.Shelf.SlLaysN
import Derived.Shelf.RegionOpenPlain
import Derived.Deep.LoopGhost
import Derived.Lib.Walk
import Derived.Lib.SliceRun
import Derived.Laws.AppendOwn
set_option linter.all false
namespace Go.Dv
open Go.RowKit Go.Lib Go.Shelf Go.Proofs

/-- what a program bears of slices.Clone -/
structure CloneL (P : Program) (ρ : Shelf.Ren) : Prop where
  mixed : P.follows .mixedOrders = true
  f41 : Bears P (ρ.f 41) (SlBodyN.n41 ρ)
  t4 : P.underlying (ρ.t 4) = some .bool
  a4 : ∀ w, (isAgg (ρ.t 4)).run P w = .ok false w
  z4 : ∀ w, (Go.sizeOf (ρ.t 4)).run P w = .ok 1 w
  v4 : ∀ w, (zeroValue (ρ.t 4)).run P w = .ok (Value.bool false) w
  t22 : P.underlying (ρ.t 22) = some (.slice (ρ.t 23))
  a22 : ∀ w, (isAgg (ρ.t 22)).run P w = .ok false w
  z22 : ∀ w, (Go.sizeOf (ρ.t 22)).run P w = .ok 1 w
  v22 : ∀ w, (zeroValue (ρ.t 22)).run P w = .ok (Value.slice none 0 0) w

section
variable {P : Program} {ρ : Shelf.Ren}

set_option maxHeartbeats 2000000 in
set_option maxRecDepth 100000 in
theorem clone_some (L : CloneL P ρ) (i0 : TypeInfo) (z : Value) (k by' : Nat) (hi : P.info? (ρ.t 23) = some i0) (hz0 : i0.zero = some z) (hz1 : i0.size = k) (hz2 : i0.bytes = by') (hzs : z.cells.size = k) (hk : 0 < k)
    (b off n c : Nat) (news : List Value) (w : World) (hl : news.length = n * k) (hbig : n * by' ≤ 140737488355328) (h63 : n ≤ maxLen) (h1 : ∀ u ∈ news, u.oneCell' = true) (hc : ∀ j u, news[j]? = some u → w.cell? ⟨b, off + j, none⟩ = some u) :
    Calls P (ρ.f 41) #[.slice (some ⟨b, off, none⟩) n c] w fun e w' => ∃ v', e = .returned v' ∧ w'.ownsRow w.heap.size (ρ.t 23) k v' n news ∧ v' ≠ .slice none 0 0 ∧ Below w.heap.size w w' := by
  have mixed := L.mixed; have t4 := L.t4; have a4 := L.a4; have z4 := L.z4; have v4 := L.v4; have t22 := L.t22; have a22 := L.a22; have z22 := L.z22; have v22 := L.v22
  have q22 : ∀ (w : World) (a : Option Addr) (n c n' c' : Nat), (binOp .eql (ρ.t 22) (.slice a n c) (.slice none n' c')).run P w = .ok (.bool a.isNone) w := fun w a n c n' c' => Lib.run_eql_slice_nil w _ _ a n c n' c' L.t22
  have u22 : ∀ w, Sem.run P (underlying (ρ.t 22)) w = .ok (TypeDesc.slice (ρ.t 23)) w := run_underlying t22
  have z23 : ∀ w, (Go.sizeOf (ρ.t 23)).run P w = .ok k w := fun w => by simp [Go.sizeOf, typeInfo, hi, hz1]
  have A : Aside (∀ j u, news[j]? = some u → w.cell? ⟨b, off + j, none⟩ = some u) := hc
  have A1 : Aside (∀ u ∈ news, u.oneCell' = true) := h1
  clear hc h1
  obtain ⟨_, _, FG⟩ := L.f41
  go_enter FG, SlBodyN.n41_ntmps ρ
  go_wp2_with (at_builtin; refine wpList_append_own _ rfl _ _ (ρ.t 22) rfl w.heap.size (ρ.t 23) i0 z k by' t22 hi hz0 hz1 hz2 hzs hk _ _ _ rfl (World.ownsRow_made w #[] 0 (Nat.le_refl _) (Nat.zero_le _) (by simp)) ⟨b, off, none⟩ n c news rfl ?qc1 ?qc2 ?qc3 ?qc4 ?qc5 ?qc6 ?_)
  case qc1 => exact hl
  case qc2 =>
    intro j u hj
    rw [Addr.add_lit]
    exact Lib.cell?_alloc_some _ (A.out j u hj)
  case qc3 => exact A1.out
  case qc4 => omega
  case qc5 => rw [Nat.zero_add]; exact hbig
  case qc6 => simp
  intro v' w1 hown hgrow hnil
  go_wp2
  go_ret
  refine ⟨v', rfl, by simpa using hown, ?_, ?_⟩
  · exact hnil
  · exact ((Below.refl _ w).alloc (Nat.le_refl _) _).grown hgrow (by simp) (by intro k hk; simp [Value.ownBlock] at hk; omega)

set_option maxHeartbeats 1000000 in
theorem clone_nil (L : CloneL P ρ) (n c : Nat) (w : World) : Calls P (ρ.f 41) #[.slice none n c] w fun e w' => e = .returned (.slice none 0 0) ∧ w' = w := by
  have mixed := L.mixed; have t4 := L.t4; have a4 := L.a4; have z4 := L.z4; have v4 := L.v4; have t22 := L.t22; have a22 := L.a22; have z22 := L.z22; have v22 := L.v22
  have q22 : ∀ (w : World) (a : Option Addr) (n c n' c' : Nat), (binOp .eql (ρ.t 22) (.slice a n c) (.slice none n' c')).run P w = .ok (.bool a.isNone) w := fun w a n c n' c' => Lib.run_eql_slice_nil w _ _ a n c n' c' L.t22
  obtain ⟨_, _, FG⟩ := L.f41
  go_enter FG, SlBodyN.n41_ntmps ρ
  go_wp2
  go_ret
  exact ⟨rfl, rfl⟩
end

section
variable [LTab] {P : Program} {ρ : Shelf.Ren}

theorem list_cells {w : World} {S : Nat → Prop} {t : Ty} {xs : List t.T} {b off n cap : Nat} (ht : 0 < t.size) (h : RepT w S (.list t) xs [.slice (some ⟨b, off, none⟩) n cap]) :
    ∃ news, news.length = List.length xs * t.size ∧ (∀ j u, news[j]? = some u → w.cell? ⟨b, off + j, none⟩ = some u) ∧ Rows w S t news xs ∧ ∀ u ∈ news, u.oneCell' = true := by
  obtain ⟨ao, cap', hu, hle, hnil, hsp, hel⟩ := h
  simp only [List.cons.injEq, Value.slice.injEq, and_true] at hu
  obtain ⟨rfl, _, _⟩ := hu
  have hcell : ∀ q, q < List.length xs * t.size → ∃ u, w.cell? ⟨b, off + q, none⟩ = some u ∧ u.oneCell' = true := by
    intro q hq
    have hi : q / t.size < List.length xs := by rw [Nat.div_lt_iff_lt_mul ht]; exact hq
    have hj : q % t.size < t.size := Nat.mod_lt _ ht
    obtain ⟨a', c, e1, _, e2, e3⟩ := hel (q / t.size) (xs[q / t.size]'hi) (List.getElem?_eq_getElem hi)
    cases e1
    have hcl := e2.length
    have hjc : q % t.size < c.length := by omega
    refine ⟨c[q % t.size], ?_, e2.one _ (List.getElem_mem hjc)⟩
    have := e3 (q % t.size) c[q % t.size] (List.getElem?_eq_getElem hjc)
    rw [← this]
    congr 2
    have := Nat.div_add_mod q t.size
    rw [Nat.mul_comm] at this
    simp only at *
    omega
  refine ⟨(List.range (List.length xs * t.size)).map fun q => (w.cell? ⟨b, off + q, none⟩).getD undef, by simp, ?_, ?_, ?_⟩
  · intro j v hj
    have hjl := (List.getElem?_eq_some_iff.1 hj).1
    simp only [List.length_map, List.length_range] at hjl
    obtain ⟨u, hu, _⟩ := hcell j hjl
    have hj' : some u = some v := by rw [← hj]; simp [hjl, hu]
    rw [hu]; exact hj'
  · intro i y hy
    obtain ⟨a', c, e1, _, e2, e3⟩ := hel i y hy
    cases e1
    refine ⟨c, e2, fun j u hj => ?_⟩
    have hjl := (List.getElem?_eq_some_iff.1 hj).1
    have hcl := e2.length
    have hle := mul_step (s := t.size) (getq_mem hy)
    have := e3 j u hj
    have hlt : i * t.size + j < List.length xs * t.size := by omega
    simp only [Nat.add_assoc] at this
    simp [hlt, this]
  · intro u hu
    simp only [List.mem_map, List.mem_range] at hu
    obtain ⟨q, hq, rfl⟩ := hu
    obtain ⟨u, hu, h1⟩ := hcell q hq
    rw [hu]; exact h1

/-- slices.Clone of a list: a new row with the same elements -/
theorem clone_sound (L : CloneL P ρ) {ei : TI} {ty : Ty} (h1 : TIok P (ρ.t 23) ei) (h2 : ei.ty = some ty) {fn : Func} {c : Code} (hf : P.funcs[ρ.f 41]? = some fn) (hb : fn.body = some c) (hname : (fn.name == "runtime.NumGoroutine") = false) :
    SoundF P (ρ.f 41) fun avs => (ctrOf (.list ty) (.fresh ty) [] (fun (xs : List ty.T) => gd (fits xs.length ei.bytes) (some xs))).run avs some := by
  intro w S avs vals r hlow hrep h
  refine ⟨callFunc_enter hf hb hname, ?_⟩
  obtain ⟨xs, t, hF, hout, hvals⟩ := args_ok hlow hrep h
  obtain ⟨u, us, rfl, k1, k2⟩ := hvals
  rw [show us = [] from k2]
  obtain ⟨hc, hF⟩ := gd_some hF
  cases hF
  have hr : r = .fresh ty xs := by
    have : some (AV.fresh ty xs) = some r := hout
    cases this; rfl
  subst hr
  obtain ⟨i, z, z1, z2, z3, z4, z5, z6⟩ := h1.inf
  obtain ⟨y1, y2, y3, y4⟩ := h1.ty ty h2
  have k1 : RepT w S (.list ty) xs [u] := k1
  have hfit : List.length xs < maxB ∧ List.length xs * ei.bytes < maxB := by simpa [fits] using hc
  have mx : maxB = 4398046511104 := rfl
  have k1' := k1
  obtain ⟨ao, cap, hu, hle, hnil, hsp, hel⟩ := k1
  simp only [List.cons.injEq, and_true] at hu
  subst hu
  cases ao with
  | none =>
    have hx : xs = [] := List.eq_nil_of_length_eq_zero (by have := hnil rfl; omega)
    subst hx
    refine (clone_nil L _ _ w).mono fun e w' => ?_
    rintro ⟨rfl, rfl⟩
    refine ⟨_, S, [⟨none, 0⟩], rfl, Below.refl _ _, fun _ h => h, fun _ h => .inl h, ⟨_, rfl, rfl, ⟨Nat.le_refl _, Nat.zero_le _, fun _ => rfl, fun a ha => (by cases ha)⟩⟩, ⟨fun l hl b hb => ?_, List.pairwise_singleton _ _⟩⟩
    simp only [List.mem_singleton] at hl
    subst hl
    exact absurd hb (by simp [Loc.blk])
  | some a =>
    have hs := hsp a rfl
    obtain ⟨b, off, sp⟩ := a
    simp only at hs
    subst hs
    obtain ⟨news, n1, n2, n3, n4⟩ := list_cells (show 0 < ty.size by omega) k1'
    refine (clone_some L i z ei.size ei.bytes z1 z4 z2 z3 z6 y2 b off (List.length xs) cap news w (by rw [n1, y1]) (by omega) (by unfold maxLen; omega) n4 n2).mono fun e w' => ?_
    rintro ⟨v', rfl, hown, hnn, bel⟩
    obtain ⟨ol, ho⟩ := hown
    rcases ho with ⟨ho, _⟩ | ⟨g, cp, cur, rfl, hg, hheap, hn, hm, hsz, htk⟩
    · exact absurd ho hnn
    · refine ⟨_, S, [⟨some ⟨g, 0, none⟩, cp⟩], rfl, bel, fun _ h => h, fun _ h => .inl h, ⟨_, rfl, rfl, ⟨hn, hm, fun e => (by cases e), fun a ea => ?_⟩⟩, ⟨fun l hl b' hb' => ?_, List.pairwise_singleton _ _⟩⟩
      · cases ea
        refine ⟨g, cur, _, (0, 0), rfl, hheap, by rw [hsz, y1], fun i _ hi => by simp at hi, fun i x hx => ?_, fun _ hS => by have := hlow _ hS; omega, fun e => (by cases e)⟩
        obtain ⟨c', c1, c2⟩ := n3 i x hx
        refine ⟨c', RepT.mono (fun b hb => bel.block b (hlow b hb)) (fun _ h => h) _ _ _ c1, fun j u hj => ?_⟩
        have hnj := c2 j u hj
        rw [← htk, List.getElem?_take] at hnj
        split at hnj
        · simpa using hnj
        · cases hnj
      · simp only [List.mem_singleton] at hl
        subst hl
        simp [Loc.blk] at hb'
        subst hb'
        show ¬ _ < _
        omega
end
end Go.Dv
