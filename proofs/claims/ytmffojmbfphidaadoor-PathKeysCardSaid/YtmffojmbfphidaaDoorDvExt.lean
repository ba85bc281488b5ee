/- Contracts of library functions, from the kit's shelf. -/
import Derived.Test.YtmffojmbfphidaaDoorDvFn
import Derived.Shelf.Spec.SlicesGrow
import Derived.Shelf.Small.Strs
set_option linter.all false
namespace Go.Dv
open Go.RowKit

variable [LTab]

theorem callFunc_enter {P : Program} {f : FuncId} {fn : Func} {c : Code} (hf : P.funcs[f]? = some fn) (hb : fn.body = some c) (hname : (fn.name == "runtime.NumGoroutine") = false) (w' : World) (args : Array Value) : (callFunc f args).run P w' = .ok (.enter f args) w' := by
  simp [callFunc, Sem.run_bind, run_program, Result.andThen_ok, hf, hb, (by simpa using hname : ¬ fn.name = "runtime.NumGoroutine")]

theorem memRel0 {w : World} {S : Nat → Prop} (hlow : ∀ b, S b → b < w.heap.size) : MemRel w S g0 m0 (fun k => k < w.heap.size) :=
  ⟨fun n q hq => (by cases hq), hlow, fun n n' q q' b hq => (by cases hq), fun n q b hq => (by cases hq)⟩

/-- arguments of a look that a contract asks for -/
theorem args_ok {w : World} {S : Nat → Prop} (hlow : ∀ b, S b → b < w.heap.size) {ash : Sh} {o : RS} {l : List RS} {F : ash.T → Option (resT o l)} {avs : List AV} {vals : List Value} {r : AV} (hrep : RepAs w S g0 m0 avs vals) (h : (ctrOf ash o l F).run avs some = some r) :
    ∃ v t, F v = some t ∧ outRes o l t some = some r ∧ RepAs w S g0 m0 (mkL ash v) vals := by
  simp only [Ctr.run, ctrOf] at h
  split at h
  · rename_i o' ho'
    split at ho'
    · rename_i v hv
      cases ho'
      split at h
      · rename_i t ht
        have hren : Ren g0 m0 [] m0 g0 := ⟨fun n d h => (by cases h), fun n h => (by cases h)⟩
        obtain ⟨xs1, xs2, vs1, e1, e2, k1, k2, k3⟩ := getP_rep (memRel0 hlow) hren ash avs [] v vals (allDone_some hv) hrep
        rw [show xs2 = [] from k2, List.append_nil] at e1
        subst e1
        exact ⟨v, t, ht, h, k1⟩
      · cases h
    · cases ho'
  · cases h

/-- slices.Grow of the nil slice -/
def growF (ty : Ty) (b : Nat) (v : Unit × Int) : Option (List ty.T) := gd (decide (0 ≤ v.2) && fits v.2.toNat b) (some [])

theorem grow_sound {P : Program} {ρ : Shelf.Ren} (L : Proofs.Lays8.n4 P ρ) {ei : TI} {ty : Ty} (h1 : TIok P (ρ.t 25) ei) (h2 : ei.ty = some ty) {fn : Func} {c : Code} (hf : P.funcs[ρ.f 4]? = some fn) (hb : fn.body = some c) (hname : (fn.name == "runtime.NumGoroutine") = false) :
    SoundF P (ρ.f 4) fun avs => (ctrOf (.cons .nils (.int .i64)) (.fresh ty) [] (growF ty ei.bytes)).run avs some := by
  intro w S avs vals r hlow hrep h
  refine ⟨callFunc_enter hf hb hname, ?_⟩
  obtain ⟨v, t, hF, hout, hvals⟩ := args_ok hlow hrep h
  obtain ⟨v1, n⟩ := v
  obtain ⟨u, us, rfl, k1, u2, us2, rfl, k2, k3⟩ := hvals
  rw [show us2 = [] from k3]
  simp only [RepA] at k1 k2
  subst k1; subst k2
  obtain ⟨hc, hF⟩ := gd_some hF
  cases hF
  simp only [Bool.and_eq_true, decide_eq_true_eq, fits] at hc
  obtain ⟨n0, n1, n2⟩ := hc
  obtain ⟨i, z, z1, z2, z3, z4, z5, z6⟩ := h1.inf
  obtain ⟨y1, y2, y3, y4⟩ := h1.ty ty h2
  have hr : r = .fresh ty [] := by
    have : some (AV.fresh ty []) = some r := hout
    cases this; rfl
  subst hr
  have n0 : (0 : Int) ≤ n := n0
  obtain ⟨k, hk0⟩ : ∃ k : Nat, (n : Int) = (k : Int) := ⟨Int.toNat n, (Int.toNat_of_nonneg n0).symm⟩
  subst hk0
  simp only [Int.toNat_natCast] at n1 n2
  have mx : maxB = 4398046511104 := rfl
  by_cases hk : k = 0
  · subst hk
    refine (Proofs.Any8.slices_Grow_room L none 0 0 0 w (by omega) (by omega) (by omega) (by omega)).mono fun e w' => ?_
    rintro ⟨rfl, rfl⟩
    refine ⟨_, S, [⟨none, 0⟩], rfl, Below.refl _ _, fun _ h => h, fun _ h => .inl h, ⟨_, rfl, rfl, ⟨Nat.le_refl _, Nat.zero_le _, fun _ => rfl, fun a ha => (by cases ha)⟩⟩, ⟨fun l hl b hb => ?_, List.pairwise_singleton _ _⟩⟩
    simp only [List.mem_singleton] at hl
    subst hl; cases hb
  · refine (Proofs.Any8.slices_Grow_grow L i z z1 z4 (by omega) none 0 0 k [] w (by omega) (by omega) (by rw [z3, Nat.zero_add]; omega) (by omega) (by simp) (fun _ => rfl) (fun a ha => (by cases ha))).mono fun e w' => ?_
    rintro ⟨rfl, rfl⟩
    have hge := grownCap_ge w (0 + k) 0 (ρ.t 25)
    have hle := grownCap_le_maxLen w (0 + k) 0 (ρ.t 25) (by unfold maxLen; omega)
    have hbel : Below w.heap.size w (w.drew.alloc (.cells (#[] ++ Builtin.zeroCells z.cells (0 + k - 0) ++ Builtin.zeroCells z.cells (grownCap w (0 + k) 0 (ρ.t 25) - (0 + k))) (ρ.t 25))) := (Below.refl _ _).drew.alloc (Nat.le_refl _) _
    have hheap := heap_alloc_new w.drew (.cells (#[] ++ Builtin.zeroCells z.cells (0 + k - 0) ++ Builtin.zeroCells z.cells (grownCap w (0 + k) 0 (ρ.t 25) - (0 + k))) (ρ.t 25))
    refine ⟨_, S, [⟨some ⟨w.heap.size, 0, none⟩, grownCap w (0 + k) 0 (ρ.t 25)⟩], rfl, hbel, fun _ h => h, fun _ h => .inl h, ⟨_, rfl, rfl, ⟨Nat.zero_le _, hle, fun e => (by cases e), fun a ea => ?_⟩⟩, ⟨fun l hl b hb => ?_, List.pairwise_singleton _ _⟩⟩
    · cases ea
      refine ⟨w.heap.size, _, ρ.t 25, (0, 0), rfl, hheap, ?_, fun i _ hi => by simp at hi, fun i x hx => by simp [getq] at hx, fun _ hs => ?_, fun e => (by cases e)⟩
      · simp only [Array.size_append, size_zeroCells, z6, ← y1, ← Nat.add_mul]
        simp only [List.size_toArray, List.length_nil, Array.size_empty, Nat.zero_add, ← Nat.add_mul]
        congr 1
        have e0 : (0 : Nat) + k = k := Nat.zero_add k
        rw [e0] at hge
        omega
      · have := hlow _ hs; omega
    · simp only [List.mem_singleton] at hl
      subst hl
      simp [Loc.blk] at hb
      have h : ¬ b < w.heap.size := by omega
      exact h

/-- the order of strings, as a number -/
def cmpS (a b : List UInt8) : Int := Lib.compareBytes a b

theorem cmp_sound {P : Program} {ρ : Shelf.Ren} (L : Proofs.Lays.n213 P ρ) {fn : Func} {c : Code} (hf : P.funcs[ρ.f 213]? = some fn) (hb : fn.body = some c) (hname : (fn.name == "runtime.NumGoroutine") = false) :
    SoundF P (ρ.f 213) fun avs => (ctrOf (.cons .str .str) (.int .i64) [] (fun v => some (cmpS v.1 v.2))).run avs some := by
  intro w S avs vals r hlow hrep h
  refine ⟨callFunc_enter hf hb hname, ?_⟩
  obtain ⟨v, t, hF, hout, hvals⟩ := args_ok hlow hrep h
  obtain ⟨a, b⟩ := v
  obtain ⟨u, us, rfl, k1, u2, us2, rfl, k2, k3⟩ := hvals
  rw [show us2 = [] from k3]
  simp only [RepA] at k1 k2
  subst k1; subst k2
  cases hF
  have hr : r = .int .i64 (cmpS a b) := by
    have : some (AV.int .i64 (cmpS a b)) = some r := hout
    cases this; rfl
  subst hr
  refine (Proofs.Any.bytealg_CompareString L _ _ w).mono fun e w' => ?_
  rintro ⟨rfl, rfl⟩
  exact ⟨_, S, [], rfl, Below.refl _ _, fun _ h => h, fun _ h => .inl h, ⟨rfl, rfl⟩, ⟨fun l hl => (by cases hl), List.Pairwise.nil⟩⟩

end Go.Dv
