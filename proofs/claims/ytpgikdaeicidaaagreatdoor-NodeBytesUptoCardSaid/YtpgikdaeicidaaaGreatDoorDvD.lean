/- Contracts of library functions, from the kit's shelf. -/
import Derived.Test.YtpgikdaeicidaaaGreatDoorDvC
import Derived.Shelf.Spec.SlicesGrow
import Derived.Shelf.Small.Strs
import Derived.Shelf.SlLaysN
import Derived.Shelf.RegionOpenPlain
import Derived.Deep.LoopGhost
import Derived.Lib.Walk
import Derived.Lib.SliceRun
import Derived.Laws.AppendOwn
import Derived.ProofKit
import Derived.Laws.BitsLemmas
import Derived.OpenShut
import Derived.ShutString
import Derived.ChangeOld
import Derived.Below
import Derived.SizedLaws
set_option linter.all false
namespace Go.Dv
open Go.RowKit
variable [LTab]
theorem callFunc_enter {P : Program} {f : FuncId} {fn : Func} {c : Code} (hf : P.funcs[f]? = some fn) (hb : fn.body = some c) (hname : (fn.name == "runtime.NumGoroutine") = false) (w' : World) (args : Array Value) : (callFunc f args).run P w' = .ok (.enter f args) w' := by
  simp [callFunc, Sem.run_bind, run_program, Result.andThen_ok, hf, hb, (by simpa using hname : ¬ fn.name = "runtime.NumGoroutine")]
theorem memRel0 {w : World} {S : Nat → Prop} (hlow : ∀ b, S b → b < w.heap.size) : MemRel w S g0 m0 (fun k => k < w.heap.size) :=
  ⟨fun n q hq => (by cases hq), hlow, fun n n' q q' b hq => (by cases hq), fun n q b hq => (by cases hq)⟩
theorem args_ok {w : World} {S : Nat → Prop} (hlow : ∀ b, S b → b < w.heap.size) {ash : Sh} {o : RS} {l : List RS} {F : ash.T → Option (resT o l)} {avs : List AV} {vals : List Value} {r : AV} (hrep : RepAs w S g0 m0 avs vals) (h : (ctrOf ash o l F).run avs some = some r) :
    ∃ v t, F v = some t ∧ outRes o l t some = some r ∧ RepAs w S g0 m0 (mkL ash v) vals := by
  simp only [Ctr.run, ctrOf] at h
  split at h
  · rename_i o' ho'
    split at ho'
    · rename_i v hv
      cases ho'
      split at h
      · rename_i t ht
        have hren : Ren g0 m0 [] m0 g0 := ⟨fun n d h => (by cases h), fun n h => (by cases h)⟩
        obtain ⟨xs1, xs2, vs1, e1, e2, k1, k2, k3⟩ := getP_rep (memRel0 hlow) hren ash avs [] v vals (allDone_some hv) hrep
        rw [show xs2 = [] from k2, List.append_nil] at e1
        subst e1
        exact ⟨v, t, ht, h, k1⟩
      · cases h
    · cases ho'
  · cases h
end Go.Dv

/- slices.Clone, at any type of elements: what it does, and its contract. -/
namespace Go.Dv
open Go.RowKit Go.Lib Go.Shelf Go.Proofs
section
variable {P : Program} {ρ : Shelf.Ren}
end
section
variable [LTab] {P : Program} {ρ : Shelf.Ren}
end
end Go.Dv

/- Plain laws: loops by an invariant, guards, whole numbers. -/
namespace Go.Dv
theorem iter_inv {A R : Type} {f : (A → Option R) → A → Option R} (I : A → Prop) (Q : R → Prop) (μ : A → Nat)
    (h : ∀ rec a, I a → (∀ a', I a' → μ a' < μ a → ∃ r, rec a' = some r ∧ Q r) → ∃ r, f rec a = some r ∧ Q r) : ∀ n a, I a → μ a < n → ∃ r, iter f n a = some r ∧ Q r
  | 0, _, _, hn => absurd hn (Nat.not_lt_zero _)
  | n + 1, a, ha, hn => h _ a ha fun a' ha' hm => iter_inv I Q μ h n a' ha' (by omega)
variable {R : Type}
theorem gd_t {b : Bool} (h : b = true) (k : Option R) : gd b k = k := by rw [h]; rfl
theorem gd_p {p : Prop} [Decidable p] (h : p) (k : Option R) : gd (decide p) k = k := gd_t (decide_eq_true h) k
theorem inB_t {i : Int} {n : Nat} (h0 : 0 ≤ i) (h1 : i < n) : inB i n = true := by simp [inB, h0, h1]
theorem fits_t {n b : Nat} (h : n < maxB) (h' : n * b < maxB) : fits n b = true := by simp [fits, h, h']
theorem w64 {n : Int} (h0 : -9223372036854775808 ≤ n) (h1 : n < 9223372036854775808) : IntKind.wrap .i64 n = n := by
  rw [IntKind.wrap_i64]; omega
theorem bif_t {α : Type} {b : Bool} {x y : α} (h : b = true) : (bif b then x else y) = x := by rw [h]; rfl
theorem bif_f {α : Type} {b : Bool} {x y : α} (h : b = false) : (bif b then x else y) = y := by rw [h]; rfl
theorem eqi_iff {a b : Int} : eqi a b = true ↔ a = b := by simp [eqi]
theorem eqi_ne {a b : Int} (h : a ≠ b) : eqi a b = false := by simp [eqi, h]
theorem eqs_iff {a b : List UInt8} : eqs a b = true ↔ a = b := by simp [eqs]
theorem eqs_ne {a b : List UInt8} (h : a ≠ b) : eqs a b = false := by simp [eqs, h]
@[simp] theorem eqi_self (a : Int) : eqi a a = true := by simp [eqi]
@[simp] theorem eqs_self (a : List UInt8) : eqs a a = true := by simp [eqs]
theorem u8_of_wf {n : Int} (h : (Lit.int .u8 n).wf = true) : 0 ≤ n ∧ n < 256 := by
  simp [Lit.wf, IntKind.min, IntKind.max, IntKind.signed, IntKind.bits] at h
  omega
theorem u8_all {p : Int → Bool} (h : ((List.range 256).all fun n => p (n : Int)) = true) {n : Int} (h0 : 0 ≤ n) (h1 : n < 256) : p n = true := by
  have := List.all_eq_true.1 h n.toNat (by simp; omega)
  rwa [Int.toNat_of_nonneg h0] at this
def okO {α : Type} (o : Option α) (p : α → Bool) : Bool := match o with | some x => p x | none => false
theorem okO_some {α : Type} {o : Option α} {p : α → Bool} (h : okO o p = true) : ∃ x, o = some x ∧ p x = true := by
  cases o with
  | none => cases h
  | some x => exact ⟨x, rfl, h⟩
theorem u8_opt {α : Type} {f : Int → Option α} {p : α → Bool} (h : ((List.range 256).all fun n => okO (f (n : Int)) p) = true) {n : Int} (h0 : 0 ≤ n) (h1 : n < 256) : ∃ x, f n = some x ∧ p x = true :=
  okO_some (u8_all (p := fun n => okO (f n) p) h h0 h1)
theorem tmod_b {a b : Int} (h : 0 ≤ a) (hb : 0 < b) : 0 ≤ Int.tmod a b ∧ Int.tmod a b < b := by
  rw [Int.tmod_eq_emod_of_nonneg h]
  exact ⟨Int.emod_nonneg _ (by omega), Int.emod_lt_of_pos _ hb⟩
section walk
variable {α : Type} {pre post : List α} {q d : α}
theorem rd_mid : rdL (pre ++ q :: post) (pre.length : Int) d = q := by simp [rdL]
theorem set_mid {y : α} : setL (pre ++ q :: post) (pre.length : Int) y = pre ++ y :: post := by simp [setL]
theorem in_mid : inB (pre.length : Int) (pre ++ q :: post).length = true := inB_t (by omega) (by simp; omega)
theorem lt_mid : decide ((pre.length : Int) < ((pre ++ q :: post).length : Int)) = true := by simp; omega
theorem lt_end : decide ((pre.length : Int) < ((pre ++ ([] : List α)).length : Int)) = false := by simp
theorem wr_mid (h : pre.length < 9223372036854775807) : IntKind.wrap .i64 ((pre.length : Int) + (1 : Int)) = ((pre ++ [q]).length : Int) := by
  rw [w64 (by omega) (by omega)]; simp
theorem app_mid : pre ++ q :: post = (pre ++ [q]) ++ post := by simp
end walk
theorem fits_p {n b : Nat} (h : n < 4294967296) (hb : b < 1024) : fits n b = true := by
  refine fits_t (by simp only [maxB]; omega) ?_
  have : n * b ≤ 4294967295 * 1023 := Nat.mul_le_mul (by omega) (by omega)
  simp only [maxB]; omega
end Go.Dv

/- From a row of 'for every input the law returns true' to a plain law: arguments are opened by their types' looks. -/
namespace Go.Dv
open Go.RowKit Go.ChangeShapes Go.WideShapes Go.ChangeAt
variable [LTab]
def Ty.bytes : Ty → Nat
  | .int k => match k with | .i8 => 1 | .u8 => 1 | .i16 => 2 | .u16 => 2 | .i32 => 4 | .u32 => 4 | _ => 8
  | .bool => 1
  | .str => 16
  | .unit => 0
  | .pair a b => a.bytes + b.bytes
  | .list _ => 24
def okT : (t : Ty) → t.T → Prop
  | .int k, n => (Lit.int k n).wf = true
  | .bool, _ => True
  | .str, s => List.length s ≤ reachBytes
  | .unit, _ => True
  | .pair a b, x => okT a x.1 ∧ okT b x.2
  | .list t, xs => List.length xs * t.bytes ≤ reachBytes ∧ ∀ (i : Nat) (x : t.T), getq (α := t.T) xs i = some x → okT t x
def fitsL (P : Program) (F : TypeId → Ty → Bool) : List (TypeId × Nat) → Nat → Ty → Bool
  | [], _, t => match t with | .unit => true | _ => false
  | p :: r, off, t => Nat.beq p.2 off && match r with
    | [] => F p.1 t && Nat.beq (P.cellsOf p.1) t.size
    | _ :: _ => match t with
      | .pair a b => F p.1 a && Nat.beq (P.cellsOf p.1) a.size && fitsL P F r (off + a.size) b
      | _ => false
def fitsT (P : Program) : Nat → TypeId → Ty → Bool
  | 0, _, _ => false
  | k + 1, t, τ => match P.underlying t with
    | some d => match d with
      | .bool => match τ with | .bool => true | _ => false
      | .int i => match τ with | .int j => decide (i = j) | _ => false
      | .string => match τ with | .str => true | _ => false
      | .struct fs => Nat.beq (P.cellsOf t) τ.size && fitsL P (fitsT P k) (fs.toList.map fun f => (f.type, f.offset)) 0 τ
      | .array n e => Nat.beq (P.cellsOf t) τ.size && fitsL P (fitsT P k) ((List.range n).map fun i => (e, i * P.cellsOf e)) 0 τ
      | _ => false
    | none => false
def fitsA (P : Program) (k : Nat) (t : TypeId) (s : Sh) : Bool := match P.underlying t with
  | some d => match d with
    | .bool => match s with | .bool => true | _ => false
    | .int i => match s with | .int j => decide (i = j) | _ => false
    | .string => match s with | .str => true | _ => false
    | .struct _ => match s with | .val τ => fitsT P k t τ | _ => false
    | .array _ _ => match s with | .val τ => fitsT P k t τ | _ => false
    | .slice e => match s with | .list τ => !Nat.beq τ.size 0 && fitsT P k e τ && Nat.beq (P.cellsOf e) τ.size && Nat.ble τ.bytes (P.bytesOf e) | _ => false
    | _ => false
  | none => false
section
variable {H : Type} {enc : TypeId × Value → H} {P : Program} {w : World} {base : Nat} {spare : Nat → Bool} {held : Bool} {S : Nat → Prop}
theorem weightsEach_map {α : Type} (e : TypeId) : ∀ (l : List α) (ds : List (DataW H)), ds.length = l.length → DataW.weightsEach P (l.map fun _ => e) ds = DataW.weightsAll P e ds
  | [], [], _ => by simp [DataW.weightsEach, DataW.weightsAll]
  | _ :: l, d :: ds, h => by
    simp only [List.map_cons, DataW.weightsEach, DataW.weightsAll]
    rw [weightsEach_map e l ds (by simpa using h)]
  | [], _ :: _, h => by simp at h
  | _ :: _, [], h => by simp at h
theorem exists_list {α : Type} {n : Nat} {p : Nat → α → Prop} (h : ∀ i, i < n → ∃ x, p i x) : ∃ xs : List α, xs.length = n ∧ ∀ (i : Nat) (x : α), getq xs i = some x → p i x := by
  induction n with
  | zero => exact ⟨[], rfl, fun i x h => by simp [getq] at h⟩
  | succ n ih =>
    obtain ⟨xs, h1, h2⟩ := ih fun i hi => h i (by omega)
    obtain ⟨y, hy⟩ := h n (by omega)
    refine ⟨xs ++ [y], by simp [h1], fun i x hx => ?_⟩
    simp only [getq] at hx h2
    by_cases hi : i < xs.length
    · rw [List.getElem?_append_left hi] at hx
      exact h2 i x hx
    · rw [List.getElem?_append_right (by omega)] at hx
      have : i - xs.length = 0 := by
        have := (List.getElem?_eq_some_iff.1 hx).1
        simp at this; omega
      rw [this] at hx
      have e : i = n := by omega
      subst e
      simp at hx; subst hx; exact hy
theorem below_trodAll {W W' : World} (laid : laidOutB P = true) (bel : Below W.heap.size W W') : ∀ (ts : List TypeId) (vs : List Value) (ds : List (DataW H)) (ps : List MemPlace),
    (∀ t, t ∈ ts → P.readableRec t = true ∧ t < P.types.size) → DataW.TrodAll enc P W 0 (fun _ => true) true ts vs ds ps → DataW.TrodAll enc P W' 0 (fun b => decide (b < W.heap.size)) true ts vs ds ps
  | [], vs, ds, ps, _, h => by
    obtain ⟨rfl, rfl, rfl⟩ := trodAll_nil h
    exact trodAll_mk0
  | t :: ts, vs, ds, ps, hr, h => by
    obtain ⟨v, vs, d, ds, p, q, rfl, rfl, rfl, h0, h1⟩ := trodAll_cons h
    have lt : ∀ x ∈ p, x.block < W.heap.size := by obtain ⟨m, hm⟩ := h0; exact DataW.trod_lt m _ _ _ hm
    exact ⟨p, q, Below.trod laid (hr t (by simp)).1 (hr t (by simp)).2 h0 bel lt, below_trodAll laid bel ts vs ds q (fun t ht => hr t (by simp [ht])) h1, rfl⟩
theorem trodAll_len : ∀ (ts : List TypeId) (vs : List Value) (ds : List (DataW H)) (ps : List MemPlace), DataW.TrodAll enc P w base spare held ts vs ds ps → ds.length = ts.length
  | [], vs, ds, ps, h => by
    obtain ⟨rfl, rfl, rfl⟩ := trodAll_nil h
    rfl
  | t :: ts, vs, ds, ps, h => by
    obtain ⟨v, vs, d, ds, p, q, rfl, rfl, rfl, h0, h1⟩ := trodAll_cons h
    simp [trodAll_len ts vs ds q h1]
end
end Go.Dv
