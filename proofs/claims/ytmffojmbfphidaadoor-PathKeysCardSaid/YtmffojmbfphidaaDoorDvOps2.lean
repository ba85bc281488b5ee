/- More operations that write nothing that is there already. -/
import Derived.Test.YtmffojmbfphidaaDoorDvOps
import Derived.Laws.StructEq
import Derived.Laws.BytesArg
import Derived.Lib.ConvBytes
set_option linter.all false
namespace Go.Dv
open Go.RowKit

variable [LTab]

variable {R : Type}

theorem below_alloc (w : World) (o : Obj) : Below w.heap.size w (w.alloc o) := (Below.refl _ _).alloc (Nat.le_refl _) _

theorem CoreOk.newBox {w w' : World} {S : Nat → Prop} {γ : Nat → Loc} {m : Nat → Option MO} {base : Nat → Prop} (hm : MemRel w S γ m base) {dst : Option Nat} {d : Nat} {run : Result Next} {K : AV → Option MO → Option R} {r : R}
    {cs : List AV} {vs : List Value} {el : TypeId} (hd : dst = some d)
    (hr : run = .ok (.value (.pointer (some ⟨w.heap.size, 0, none⟩))) w') (hb : Below w.heap.size w w') (hh : w'.heap[w.heap.size]? = some (.cells vs.toArray el (0, 0)))
    (hc : RepAs w S γ m cs vs) (ha : allOne cs = true) (hk : K (.ptr d 0) (some (.box cs .live)) = some r) : CoreOk w S γ m dst run K r := by
  refine ⟨_, w', _, _, hr, hb, hk, d, ⟨some ⟨w.heap.size, 0, none⟩, 0⟩, hd, rfl, ?_, fun hmd => ⟨?_, ?_⟩⟩
  · intro b e
    simp [Loc.blk] at e
    omega
  · refine ⟨w.heap.size, vs, el, by rw [gupd_same], hh, ?_, ha, fun _ hs => ?_, fun e => absurd rfl e⟩
    · exact RepAs.mono (fun b hs => hb.block b (hm.low b hs)) (fun _ h => h) (Keeps.new hmd) cs vs hc
    · have := hm.low _ hs; omega
  · exact ⟨cs, .live, w.heap.size, mupd_same _ _ _, by rw [gupd_same], rfl⟩

theorem CoreOk.newRow {w w' : World} {S : Nat → Prop} {γ : Nat → Loc} {m : Nat → Option MO} {base : Nat → Prop} (hm : MemRel w S γ m base) {dst : Option Nat} {d : Nat} {run : Result Next} {K : AV → Option MO → Option R} {r : R}
    {t : Ty} {xs : List t.T} {arr : Array Value} {el : TypeId} {fz : Nat × Nat} {cap : Nat} (hd : dst = some d)
    (hr : run = .ok (.value (.slice (some ⟨w.heap.size, 0, none⟩) xs.length cap)) w') (hb : Below w.heap.size w w') (hh : w'.heap[w.heap.size]? = some (.cells arr el fz))
    (hsz : arr.size = cap * t.size) (hlen : xs.length ≤ cap) (hcap : cap ≤ maxLen) (hfz : fzOK t arr.size fz)
    (hc : ∀ i (x : t.T), getq xs i = some x → ∃ c, RepT w S t x c ∧ ∀ j u, c[j]? = some u → arr[i * t.size + j]? = some u)
    (hk : K (.own d) (some (.sl t xs .live)) = some r) : CoreOk w S γ m dst run K r := by
  refine ⟨_, w', _, _, hr, hb, hk, d, ⟨some ⟨w.heap.size, 0, none⟩, cap⟩, hd, rfl, ?_, fun hmd => ⟨?_, ?_⟩⟩
  · intro b e
    simp [Loc.blk] at e
    omega
  · show RowRel w' S (gupd γ d _ d) t xs .live
    rw [gupd_same]
    refine ⟨hlen, hcap, fun e => (by cases e), fun a e => ?_⟩
    simp only [Option.some.injEq] at e
    refine ⟨w.heap.size, arr, el, fz, e.symm, hh, hsz, hfz, fun i x hx => ?_, fun _ hs => ?_, fun e => (by cases e)⟩
    · obtain ⟨c, h1, h2⟩ := hc i x hx
      exact ⟨c, RepT.mono (fun b hs => hb.block b (hm.low b hs)) (fun _ h => h) t x c h1, h2⟩
    · have := hm.low _ hs; omega
  · exact ⟨t, xs, .live, mupd_same _ _ _, by rw [gupd_same]⟩

section core
variable {P : Program} {E : Env} (hE : ∀ t ti, E.ty t = some ti → TIok P t ti) {w : World} {S : Nat → Prop} {γ : Nat → Loc} {m : Nat → Option MO} {base : Nat → Prop} (hm : MemRel w S γ m base)
  {ev : Operand → AV} {el : Operand → Value} (hev : ∀ x, RepA w S γ m (ev x) (el x)) {K : AV → Option MO → Option R} {r : R}

include hE hm in
theorem core_alloc {o : Oper} {t : TypeId} (ho : o.op = .alloc t) (h : coreA E o.dst o.op ev m K = some r) : CoreOk w S γ m o.dst ((execOp el o).run P w) K r := by
  rw [ho] at h
  simp only [coreA] at h
  split at h
  · rename_i ti d hti hd
    obtain ⟨z, h1, h2, h3⟩ := run_zero_ty hE w hti
    have hz : z.cells = z.cells.toList.toArray := by simp
    refine CoreOk.newBox (w' := w.alloc (.cells z.cells t)) hm hd ?_ (below_alloc _ _) (by rw [← hz]; exact heap_alloc_new w _) (zsEq_rep h2) (allOne_zero _) h
    simp [execOp, ho, Instr.alloc, h1, newVar, newRow]
  · cases h

theorem cells_rep {v : AV} {x : Value} (h : RepA w S γ m v x) (ha : allOne v.cells = true) : RepAs w S γ m v.cells x.cells.toList := by
  cases v with
  | agg cs =>
    obtain ⟨vs, rfl, h2, _⟩ := h
    simpa [AV.cells, Value.cells] using h2
  | undef => simp [AV.cells, allOne, AV.one] at ha
  | tup vs => simp [AV.cells, allOne, AV.one] at ha
  | fresh t xs => simp [AV.cells, allOne, AV.one] at ha
  | _ =>
    have h1 : x.oneCell' = true := one_cell (by simpa [AV.cells, allOne] using ha) h
    have hx : x.cells.toList = [x] := by cases x <;> simp_all [Value.cells, Value.oneCell']
    rw [hx]
    exact ⟨x, [], rfl, h, rfl⟩

include hm hev in
theorem core_box {o : Oper} {t : TypeId} {x : Operand} (ho : o.op = .box t x) (h : coreA E o.dst o.op ev m K = some r) : CoreOk w S γ m o.dst ((execOp el o).run P w) K r := by
  rw [ho] at h
  simp only [coreA] at h
  split at h
  · rename_i d hd
    obtain ⟨ha, h⟩ := gd_some h
    have hc := cells_rep (hev x) ha
    have hz : (el x).cells = (el x).cells.toList.toArray := by simp
    refine CoreOk.newBox (w' := w.alloc (.cells (el x).cells t)) hm hd ?_ (below_alloc _ _) (by rw [← hz]; exact heap_alloc_new w _) hc ha h
    simp [execOp, ho, Instr.box, newVar, newRow]
  · cases h

/-- what is asked of a type whose values are compared cell by cell -/
def EqOk (P : Program) (t : TypeId) (n : List Nat) : Prop :=
  ∀ (w : World) (S : Nat → Prop) (γ : Nat → Loc) (m : Nat → Option MO) (cs ds : List AV) (vs us : List Value) (b : Bool), kindsOf cs = n → RepAs w S γ m cs vs → RepAs w S γ m ds us → eqCells cs ds = some b →
    (Op.equalIn 10000 t (.agg vs.toArray) (.agg us.toArray)).run P w = .ok b w

theorem ik_some {a b : IntKind} {x : PLift (a = b)} (_h : ikEq a b = some x) : a = b := x.down

set_option maxHeartbeats 1000000 in
include hE in
theorem bin_ok (hq : ∀ t (n : List Nat), E.eqt t n = true → EqOk P t n ∧ P.eqGuardType P.depth t = false) {op : BinOp} {t : TypeId} {x y : Operand} {a b : AV} {u v : Value} (ha : RepA w S γ m a u) (hb : RepA w S γ m b v) {c : AV} (hn : nilG x y a b = true) (h : binA E op t a b = some c) :
    ∃ z, ((do eqGuard op t x y u v; binOp op t u v : Sem Value)).run P w = .ok z w ∧ RepA w S γ m c z := by
  unfold binA at h
  split at h
  · rename_i k a l b
    simp only [RepA] at ha hb
    subst ha; subst hb
    split at h
    · rcases bif_some h with ⟨h1, h⟩ | ⟨_, h⟩
      · have h1' : ¬ b < 0 := by have := of_decide_eq_true h1; omega
        cases h
        exact ⟨_, by simp [eqGuard, binOp, Op.shift, h1'], rfl⟩
      · cases h
    · rcases bif_some h with ⟨h1, h⟩ | ⟨_, h⟩
      · have h1' : ¬ b < 0 := by have := of_decide_eq_true h1; omega
        cases h
        exact ⟨_, by simp [eqGuard, binOp, Op.shift, h1'], rfl⟩
      · cases h
    · split at h
      · cases h
      · rename_i hk
        have hk := ik_some hk
        subst hk
        split at h
        case h_4 =>
          rcases bif_some h with ⟨h1, h⟩ | ⟨_, h⟩
          · have h1' : b ≠ 0 := by simpa [eqi] using h1
            cases h
            exact ⟨_, by simp [eqGuard, binOp, Op.intDiv, h1'], rfl⟩
          · cases h
        case h_5 =>
          rcases bif_some h with ⟨h1, h⟩ | ⟨_, h⟩
          · have h1' : b ≠ 0 := by simpa [eqi] using h1
            cases h
            exact ⟨_, by simp [eqGuard, binOp, Op.intDiv, h1'], rfl⟩
          · cases h
        all_goals first | (cases h; done) | (cases h; exact ⟨_, by simp [eqGuard, binOp, Op.intArith, Op.intBits, Op.intCmp, eqi, bne], rfl⟩)
  · rename_i a b
    simp only [RepA] at ha hb
    subst ha; subst hb
    split at h
    case h_3 =>
      rcases bif_some h with ⟨h1, h⟩ | ⟨_, h⟩
      · have h1' : a.length + b.length < maxS := of_decide_eq_true h1
        have h2 : ¬ ((9223372036854775807 : Int) < (a.length : Int) + (b.length : Int)) := by unfold maxS at h1'; omega
        cases h
        refine ⟨_, by simp [eqGuard, binOp, Op.stringOp, ByteArray.size, h2]; rfl, ?_⟩
        show Value.string _ = _
        congr 1
      · cases h
    all_goals first | (cases h; done) | (cases h; exact ⟨_, by simp [eqGuard, binOp, Op.stringOp, eqs, lts], rfl⟩)
  · rename_i a b
    simp only [RepA] at ha hb
    subst ha; subst hb
    split at h
    · rename_i hti
      obtain ⟨d, hd1, hd2⟩ := (hE t _ hti).und
      have hd : d = .bool := by cases d <;> first | rfl | simp [tdOf] at hd2
      subst hd
      have he : (Op.equal t (.bool a) (.bool b)).run P w = .ok (a == b) w := run_equalIn_bool' w 9999 t a b hd1
      split at h
      all_goals first | (cases h; done) | (cases h; exact ⟨_, by simp [eqGuard, binOp, he, eqb], rfl⟩)
    · cases h
  · rename_i xs ys
    rcases bif_some h with ⟨h1, h⟩ | ⟨_, h⟩
    · obtain ⟨vs, rfl, k1, _⟩ := ha
      obtain ⟨us, rfl, k2, _⟩ := hb
      obtain ⟨q1, q2⟩ := hq t _ h1
      split at h
      · split at h
        · rename_i b hb
          cases h
          have := q1 w S γ m xs ys vs us b rfl k1 k2 hb
          exact ⟨_, by rw [Sem.run_bind, run_eqGuard_agg w _ t x y _ _ q2, Result.andThen_ok, run_eql_struct, this]; rfl, rfl⟩
        · cases h
      · split at h
        · rename_i b hb
          cases h
          have := q1 w S γ m xs ys vs us b rfl k1 k2 hb
          exact ⟨_, by rw [Sem.run_bind, run_eqGuard_agg w _ t x y _ _ q2, Result.andThen_ok, run_neq_struct, this]; rfl, rfl⟩
        · cases h
      · cases h
    · cases h
  · rename_i T x'
    obtain ⟨u', rfl, _⟩ := ha
    simp only [RepA] at hb
    subst hb
    split at h
    · rename_i hti
      obtain ⟨d, hd1, hd2⟩ := run_und_ty hE w hti
      have hd : ∃ ms, d = .interface ms := by cases d <;> first | exact ⟨_, rfl⟩ | simp [tdOf] at hd2
      obtain ⟨ms, rfl⟩ := hd
      have he : (Op.equal t (.iface T u') .nilIface).run P w = .ok false w := by
        show (Op.equalIn (9999 + 1) t _ _).run P w = _
        rw [Op.equalIn]
        simp [hd1]
      split at h
      all_goals first | (cases h; done) | (cases h; exact ⟨_, by simp [eqGuard, binOp, he], rfl⟩)
    · cases h
  · simp only [RepA] at ha hb
    subst ha; subst hb
    split at h
    · rename_i hti
      obtain ⟨d, hd1, hd2⟩ := run_und_ty hE w hti
      have hd : ∃ ms, d = .interface ms := by cases d <;> first | exact ⟨_, rfl⟩ | simp [tdOf] at hd2
      obtain ⟨ms, rfl⟩ := hd
      have he : (Op.equal t .nilIface .nilIface).run P w = .ok true w := by
        show (Op.equalIn (9999 + 1) t _ _).run P w = _
        rw [Op.equalIn]
        simp [hd1]
      have hg : ∀ op, (eqGuard op t x y .nilIface .nilIface).run P w = .ok () w := by
        intro op
        simp only [nilG, Bool.or_eq_true] at hn
        cases op <;> simp only [eqGuard] <;> first | rfl | skip
        all_goals
          rcases hn with hn | hn
          · cases x <;> first | rfl | cases hn
          · cases y <;> first | (cases x <;> rfl) | cases hn
      split at h
      all_goals first | (cases h; done) | (cases h; exact ⟨_, by rw [Sem.run_bind, hg]; simp [binOp, he], rfl⟩)
    · cases h
  · cases h

include hE hev in
theorem core_binOp (hq : ∀ t (n : List Nat), E.eqt t n = true → EqOk P t n ∧ P.eqGuardType P.depth t = false) {o : Oper} {op : BinOp} {t y' : TypeId} {x y : Operand} (ho : o.op = .binOp op t x y y') (h : coreA E o.dst o.op ev m K = some r) :
    CoreOk w S γ m o.dst ((execOp el o).run P w) K r := by
  rw [ho] at h
  simp only [coreA] at h
  obtain ⟨hn, h⟩ := gd_some h
  rw [bin_eq (K := fun v => K v none)] at h
  split at h
  · rename_i v hv
    obtain ⟨z, h1, h2⟩ := bin_ok hE hq (x := x) (y := y) (hev x) (hev y) hn hv
    refine .pure (x := z) ?_ h2 h
    simp only [execOp, ho]
    rw [Sem.run_bind, h1]
    rfl
  · cases h

include hev in
theorem core_unOp {o : Oper} {op : UnOp} {t : TypeId} {x : Operand} (ho : o.op = .unOp op t x) (h : coreA E o.dst o.op ev m K = some r) : CoreOk w S γ m o.dst ((execOp el o).run P w) K r := by
  rw [ho] at h
  have hx := hev x
  cases op with
  | not =>
    simp only [coreA] at h
    split at h
    · rename_i b hb
      rw [hb] at hx; simp only [RepA] at hx
      exact .pure (v := .bool (!b)) (x := .bool (!b)) (by simp [execOp, ho, hx, Op.unary]) rfl h
    · cases h
  | neg =>
    simp only [coreA] at h
    split at h
    · rename_i k n hb
      rw [hb] at hx; simp only [RepA] at hx
      exact .pure (v := .int k (k.wrap (0 - n))) (x := .int k (k.wrap (0 - n))) (by simp [execOp, ho, hx, Op.unary, Op.intArith]) rfl h
    · cases h
  | _ => simp [coreA] at h

include hE hev in
theorem core_makeInterface {o : Oper} {t : TypeId} {x : Operand} (ho : o.op = .makeInterface t x) (h : coreA E o.dst o.op ev m K = some r) : CoreOk w S γ m o.dst ((execOp el o).run P w) K r := by
  rw [ho] at h
  simp only [coreA] at h
  split at h
  · rename_i ti hti
    obtain ⟨d, hd1, hd2⟩ := run_und_ty hE w hti
    split at h
    · cases h
    · rename_i hne
      refine .pure (v := .iface t (ev x)) (x := .iface t (el x)) ?_ ⟨_, rfl, hev x⟩ h
      cases d <;> first | (exact absurd hd2.symm hne) | simp [execOp, ho, Instr.makeInterface, hd1]
  · cases h

include hev in
theorem core_makeFunc {o : Oper} {fn : Fn} {first caps : Array Operand} (ho : o.op = .makeFunc fn first caps) (h : coreA E o.dst o.op ev m K = some r) : CoreOk w S γ m o.dst ((execOp el o).run P w) K r := by
  rw [ho] at h
  cases fn with
  | func f =>
    simp only [coreA] at h
    obtain ⟨h1, h2⟩ := gd_some h
    clear h
    simp only [Bool.and_eq_true] at h1
    have hf : first = #[] := by simpa using h1.1
    subst hf
    refine .pure (v := .clo f (caps.toList.map ev)) (x := .func (.func f) #[] (caps.map el)) (by simp [execOp, ho, Instr.makeFunc]) ⟨caps.toList.map el, congrArg _ (Array.ext' (by simp)), RepAs.map hev _⟩ h2
  | _ => simp [coreA] at h

include hev in
theorem core_extract {o : Oper} {x : Operand} {i : Nat} (ho : o.op = .extract x i) (h : coreA E o.dst o.op ev m K = some r) : CoreOk w S γ m o.dst ((execOp el o).run P w) K r := by
  rw [ho] at h
  simp only [coreA] at h
  have hx := hev x
  split at h
  · rename_i vs he
    rw [he] at hx
    obtain ⟨us, h1, h2⟩ := hx
    split at h
    · rename_i v hv
      obtain ⟨u, h3, h4⟩ := h2.get hv
      exact .pure (x := u) (by simp [execOp, ho, h1, Instr.extract, h3]) h4 h
    · cases h
  · cases h

end core
end Go.Dv
