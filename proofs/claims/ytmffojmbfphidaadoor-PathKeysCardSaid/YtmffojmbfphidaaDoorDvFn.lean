/- Functions. -/
import Derived.Test.YtmffojmbfphidaaDoorDvRes
import Derived.RangeFuncLeaves
import Derived.Test.YtmffojmbfphidaaDoorDvEq
set_option linter.all false
namespace Go.Dv
open Go.RowKit

variable [LTab]

variable {R : Type}

def ldA (E : Env) (m : Nat → Option MO) (t : TypeId) (a : AV) : Option AV :=
  match E.ty t with
  | none => none
  | some ti => match a with
    | .ptr n off => match m n with
      | some (.box cs _) => readCells ti off cs
      | _ => none
    | .bx cs off => readCells ti off cs
    | _ => none

def rv1 (E : Env) (σ : St) : ResultVar → Option AV
  | .tmp t => some (σ.ρ t)
  | .cell a t => ldA E σ.m t (σ.ρ a)

def mapR (E : Env) (σ : St) : List ResultVar → Option (List AV)
  | [] => some []
  | x :: xs => match rv1 E σ x with
    | some v => match mapR E σ xs with
      | some vs => some (v :: vs)
      | none => none
    | none => none

def retV : List AV → AV
  | [v] => v
  | vs => .tup vs

def endKey : Nat := 1000000

def finA (E : Env) (rs : List ResultVar) (σ : St) (K : (Nat → Option MO) → AV → Option R) : Option R :=
  match mapR E ⟨σ.ρ, stillL σ.m (E.still endKey)⟩ rs with
  | some vs => K (stillL σ.m (E.still endKey)) (retV vs)
  | none => none

def evalF (E : Env) (Λ : Lps) (c : Code) (rs : List ResultVar) (nt : Nat) (as : List AV) (o : RS) (l : List RS) : Option (resT o l) :=
  gd ((Nat.ble as.length nt && Nat.ble nt 4096) && Nat.ble rs.length 4) (codeA E Λ c 1 ⟨argsA 0 as, m0⟩ fun e σ => match e with
    | .normal => finA E rs σ fun m v => getRes m o l v
    | .ret => finA E rs σ fun m v => getRes m o l v
    | .exit _ => none)

def ctrOf (ash : Sh) (o : RS) (l : List RS) (F : ash.T → Option (resT o l)) : Ctr where
  T := resT o l
  dom := fun as => match allDone (getP m0 [] ash as) with | some v => some (F v) | none => none
  out := fun x K => outRes o l x K
  nat := fun x K => outRes_nat K l o x

def Ctr.run (c : Ctr) (as : List AV) (K : AV → Option R) : Option R :=
  match c.dom as with
  | some o => match o with
    | some t => c.out t K
    | none => none
  | none => none

theorem callK_eq (E : Env) (f : FuncId) (as : List AV) (K : AV → Option R) : E.callK f as K = match E.call f as with | some c => c.run as K | none => none := rfl

/-- contracts by their functions' numbers; of two for one function the first that fits is taken -/
def findC : List (Nat × Ctr) → FuncId → List AV → Option Ctr
  | [], _, _ => none
  | (g, c) :: r, f, as => bif Nat.beq f g then (match c.dom as with | some _ => some c | none => findC r f as) else findC r f as

theorem findC_mem {f : FuncId} {as : List AV} {c : Ctr} : ∀ {l : List (Nat × Ctr)}, findC l f as = some c → (f, c) ∈ l
  | [], h => by cases h
  | (g, c') :: r, h => by
    simp only [findC] at h
    cases hb : Nat.beq f g with
    | true =>
      rw [hb] at h
      simp only [cond_true] at h
      have e := Nat.eq_of_beq_eq_true hb
      split at h
      · cases h; rw [e]; simp
      · exact List.mem_cons_of_mem _ (findC_mem h)
    | false =>
      rw [hb] at h
      exact List.mem_cons_of_mem _ (findC_mem h)

/-- what a table of contracts must keep -/
def TabOk (P : Program) : List (Nat × Ctr) → Prop
  | [] => True
  | (g, c) :: r => (SoundF P g fun as => c.run as some) ∧ TabOk P r

theorem TabOk.mem {P : Program} {f : FuncId} {c : Ctr} : ∀ {l : List (Nat × Ctr)}, TabOk P l → (f, c) ∈ l → SoundF P f fun as => c.run as some
  | (g, c') :: r, h, hm => by
    rcases List.mem_cons.1 hm with e | hm
    · cases e; exact h.1
    · exact TabOk.mem h.2 hm

theorem tab_call {P : Program} {E : Env} {l : List (Nat × Ctr)} (he : E.call = findC l) (h : TabOk P l) (f : FuncId) : SoundF P f fun as => E.callK f as some := by
  intro w S as vals r hlow hrep hc
  simp only [callK_eq, he] at hc
  split at hc
  · rename_i c hf
    exact h.mem (findC_mem hf) w S as vals r hlow hrep hc
  · cases hc

def findT : List (Nat × TI) → TypeId → Option TI
  | [], _ => none
  | (k, ti) :: r, t => bif Nat.beq t k then some ti else findT r t

theorem findT_ok {P : Program} : ∀ {l : List (Nat × TI)}, (l.all fun r => tiOk P r.1 r.2) = true → ∀ t ti, findT l t = some ti → TIok P t ti
  | [], _, _, _, h => by cases h
  | (k, q) :: r, ha, t, ti, h => by
    simp only [List.all_cons, Bool.and_eq_true] at ha
    rcases bif_some (by simpa only [findT] using h) with ⟨hb, h2⟩ | ⟨_, h2⟩
    · have e := Nat.eq_of_beq_eq_true hb
      cases h2
      rw [e]; exact tiOk_spec ha.1
    · exact findT_ok ha.2 t ti h2

def findM : List (Nat × String × Nat) → TypeId → String → Option FuncId
  | [], _, _ => none
  | (k, s, f) :: r, t, n => bif Nat.beq t k then (match decEq n s with | isTrue _ => some f | isFalse _ => findM r t n) else findM r t n

def MethOk (P : Program) : List (Nat × String × Nat) → Prop
  | [] => True
  | (k, s, f) :: r => (∀ (v : Value) (w : World), (method (P.types.size + Made.depth) k v s).run P w = .ok (f, v) w) ∧ MethOk P r

theorem findM_ok {P : Program} : ∀ {l : List (Nat × String × Nat)}, MethOk P l → ∀ t n f, findM l t n = some f → ∀ (v : Value) (w : World), (method (P.types.size + Made.depth) t v n).run P w = .ok (f, v) w
  | [], _, _, _, _, h => by cases h
  | (k, s, g) :: r, hm, t, n, f, h => by
    simp only [findM] at h
    rcases bif_some h with ⟨hb, h2⟩ | ⟨_, h2⟩
    · have e := Nat.eq_of_beq_eq_true hb
      split at h2
      · rename_i e2 _
        cases h2
        rw [e, e2]; exact hm.1
      · exact findM_ok hm.2 t n f h2
    · exact findM_ok hm.2 t n f h2

def hasT (t : Nat) (n : List Nat) : List (Nat × List Nat) → Bool
  | [] => false
  | k :: r => (Nat.beq t k.1 && nlEq n k.2) || hasT t n r

theorem hasT_ok {P : Program} : ∀ {l : List (Nat × List Nat)}, (l.all fun r => eqB P r.1 r.2) = true → ∀ t n, hasT t n l = true → EqOk P t n ∧ P.eqGuardType P.depth t = false
  | [], _, _, _, h => by cases h
  | k :: r, hq, t, n, h => by
    simp only [List.all_cons, Bool.and_eq_true] at hq
    simp only [hasT, Bool.or_eq_true, Bool.and_eq_true] at h
    rcases h with h | h
    · rw [Nat.eq_of_beq_eq_true h.1, nlEq_ok h.2]; exact eqB_ok hq.1
    · exact hasT_ok hq.2 t n h

def findCM : List (Nat × CtrM) → FuncId → List CtrM
  | [], _ => []
  | (g, c) :: r, f => bif Nat.beq f g then c :: findCM r f else findCM r f

def TabMOk (P : Program) : List (Nat × CtrM) → Prop
  | [] => True
  | (g, c) :: r => SoundM P g c ∧ TabMOk P r

theorem findCM_ok {P : Program} : ∀ {l : List (Nat × CtrM)}, TabMOk P l → ∀ f c, c ∈ findCM l f → SoundM P f c
  | [], _, _, _, h => by cases h
  | (g, c') :: r, ht, f, c, h => by
    simp only [findCM] at h
    cases hb : Nat.beq f g with
    | true =>
      rw [hb] at h
      rcases List.mem_cons.1 h with e | h
      · rw [e, Nat.eq_of_beq_eq_true hb]; exact ht.1
      · exact findCM_ok ht.2 f c h
    | false => rw [hb] at h; exact findCM_ok ht.2 f c h

def findR : List (Nat × CtrR) → Nat → Option CtrR
  | [], _ => none
  | (g, c) :: r, f => bif Nat.beq f g then some c else findR r f

def TabROk (P : Program) : List (Nat × CtrR) → Prop
  | [] => True
  | (g, c) :: r => SoundR P g c ∧ TabROk P r

theorem findR_ok {P : Program} : ∀ {l : List (Nat × CtrR)}, TabROk P l → ∀ f c, findR l f = some c → SoundR P f c
  | [], _, _, _, h => by cases h
  | (g, c') :: r, ht, f, c, h => by
    simp only [findR] at h
    cases hb : Nat.beq f g with
    | true =>
      rw [hb] at h
      cases h
      rw [Nat.eq_of_beq_eq_true hb]; exact ht.1
    | false => rw [hb] at h; exact findR_ok ht.2 f c h

/-- the environment of a function body -/
def mkEnv (ty : List (Nat × TI)) (eqs : List (Nat × List Nat)) (ms : List (Nat × String × Nat)) (still : List (Nat × List Nat)) (pre : List Nat) (tab : List (Nat × Ctr)) (tabM : List (Nat × CtrM) := []) (tabR : List (Nat × CtrR) := []) : Env where
  ty := findT ty
  call := findC tab
  callM := findCM tabM
  rounds := findR tabR
  meth := findM ms
  eqt := fun t n => hasT t n eqs
  still := fun r => (still.find? fun p => Nat.beq p.1 r).elim [] fun p => p.2
  pre := fun d => pre.any fun k => Nat.beq d k

theorem mkEnv_ok {P : Program} {ty : List (Nat × TI)} {eqs : List (Nat × List Nat)} {ms : List (Nat × String × Nat)} {still : List (Nat × List Nat)} {pre : List Nat} {tab : List (Nat × Ctr)} {tabM : List (Nat × CtrM)} {tabR : List (Nat × CtrR)} (h1 : (ty.all fun r => tiOk P r.1 r.2) = true) (h2 : (eqs.all fun r => eqB P r.1 r.2) = true) (h3 : MethOk P ms) (h4 : TabOk P tab) (h5 : TabMOk P tabM := by trivial) (h6 : TabROk P tabR := by trivial) : EnvOk P (mkEnv ty eqs ms still pre tab tabM tabR) :=
  ⟨findT_ok h1, fun t n h => hasT_ok h2 t n h, tab_call rfl h4, findCM_ok h5, findR_ok h6, findM_ok h3⟩

/-- the code at a place -/
def codeAt : Code → List Bool → Code
  | c, [] => c
  | .seq a b, x :: l => bif x then codeAt b l else codeAt a l
  | .cond _ a b, x :: l => bif x then codeAt b l else codeAt a l
  | .block _ c, _ :: l => codeAt c l
  | .scope c, _ :: l => codeAt c l
  | .loop c, _ :: l => codeAt c l
  | .rangeFunc _ _ a b, x :: l => bif x then codeAt b l else codeAt a l
  | c, _ => c

theorem obsNil {Q : Lp × Code → Prop} : ∀ x, x ∈ ([] : List (Lp × Code)) → Q x := fun _ h => by cases h
theorem obsCons {Q : Lp × Code → Prop} {a : Lp × Code} {l : List (Lp × Code)} (h : Q a) (hl : ∀ x, x ∈ l → Q x) : ∀ x, x ∈ a :: l → Q x := List.forall_mem_cons.2 ⟨h, hl⟩

theorem obs_ok {P : Program} {ro : Option Nat} {n : Nat} {Λ : Lps} {c : Code} {p : Nat} {l : List (Lp × Code)} (h : obs Λ c p = l) (hl : ∀ x, x ∈ l → LpOk P n ro x.1 x.2) : ∀ x, x ∈ obs Λ c p → LpOk P n ro x.1 x.2 := by rw [h]; exact hl

/-! ## the marks at a function's end -/
theorem ObjRel.lives {w : World} {S : Nat → Prop} {γ : Nat → Loc} {m : Nat → Option MO} {n : Nat} {o : MO} (h : ObjRel w S γ m n o) {w' : World} (hw : o.live = true → ∀ b, (γ n).blk = some b → w'.heap[b]? = w.heap[b]?) (hS : ∀ b, S b → w'.heap[b]? = w.heap[b]?) : ObjRel w' S γ m n o :=
  ObjRel.later h hS (fun _ h => h) (Keeps.refl _ _) rfl fun hl b hb => ⟨hw hl b hb, (ObjRel.notS h hl hb).1⟩

theorem Rel.unmark {X : Cx} {w : World} {S : Nat → Prop} {γ : Nat → Loc} {σ : St} {a : Act} {d : Deferred} {ds : List Deferred} (h : Rel X w S γ σ a) (hd : a.defers = d :: ds) (hN : X.w0.heap.size ≤ X.N) :
    ∃ D, d = { target := .collected D, args := #[] } ∧ w.heap[D]? = some (.deferred (some [])) ∧ Rel X (w.putObj D (.deferred none)) S γ σ { a with defers := ds } := by
  have hm := h.defers
  rw [hd] at hm
  obtain ⟨⟨D, h1, h2, h3, h4⟩, h5, h6⟩ := hm
  have hw : ∀ n o, σ.m n = some o → o.live = true → ∀ b, (γ n).blk = some b → (w.putObj D (.deferred none)).heap[b]? = w.heap[b]? := fun n o ho hl b hb => World.putObj_heap_other fun e => by
    obtain ⟨_, o', g1, g2⟩ := ObjRel.notS (h.mem.obj n o ho) hl hb
    rw [e, h2] at g1; cases g1
    exact absurd rfl (g2 _)
  have hS : ∀ b, S b → (w.putObj D (.deferred none)).heap[b]? = w.heap[b]? := fun b hb => World.putObj_heap_other (fun e => h3 (e ▸ hb))
  have hbel : Bel X.B X.w0 (w.putObj D (.deferred none)) := by
    have hb := h.below
    refine ⟨hb.os, hb.tape, hb.output, ?_, fun k hk => (World.putObj_heap_other (fun e => by have := h.base_le k hk; omega)).trans (hb.block k hk), fun k ds hk => ?_⟩
    · rw [World.putObj_size]; exact hb.size
    · have hlt := (Array.getElem?_eq_some_iff.1 hk).1
      rw [World.putObj_heap_other (by omega)]; exact hb.others k ds hk
  refine ⟨D, h1, h2, ⟨⟨fun n o ho => ObjRel.lives (h.mem.obj n o ho) (hw n o ho) hS, fun b hb => by rw [World.putObj_size]; exact h.mem.low b hb, h.mem.apart, h.mem.high⟩, fun t => RepA.mono hS (fun _ h => h) (Keeps.refl _ _) _ _ (h.tm t), hbel, h.base_le, h.s0, h.snew, ?_, h.pin, h.pnhi, h.small⟩⟩
  have go : ∀ {l : List Deferred}, (∀ d', d' ∈ l → d' ≠ d) → MarksOk X.N w S l → MarksOk X.N (w.putObj D (.deferred none)) S l := by
    intro l
    induction l with
    | nil => intro _ _; trivial
    | cons e l ih =>
      rintro hn ⟨⟨D', e1, e2, e3, e4⟩, e5, e6⟩
      refine ⟨⟨D', e1, ?_, e3, e4⟩, e5, ih (fun d' hd' => hn d' (List.mem_cons_of_mem _ hd')) e6⟩
      have : D' ≠ D := fun q => hn e (by simp) (by rw [e1, h1, q])
      rw [World.putObj_heap_other this]; exact e2
  exact go h5 h6

section fn
variable {P : Program} {E : Env} (hE : EnvOk P E) (hmix : P.follows .mixedOrders = true) {Λ : Lps}

include hE in
theorem ldA_ok {w : World} {S : Nat → Prop} {γ : Nat → Loc} {m : Nat → Option MO} {base : Nat → Prop} (hm : MemRel w S γ m base) {t : TypeId} {a v : AV} {x : Value} (h : ldA E m t a = some v) (hx : RepA w S γ m a x) :
    ∃ y, (do loadVar t (← asAddr x) : Sem Value).run P w = .ok y w ∧ RepA w S γ m v y := by
  unfold ldA at h
  split at h
  · cases h
  · rename_i ti hti
    split at h
    · rename_i n off
      obtain ⟨cs0, s0, b, k1, k2, k3⟩ := hx
      split at h
      · rename_i cs s hn
        obtain ⟨b', vs, el', g1, g2, g3, g4, g5, g6⟩ := hm.obj n _ hn
        rw [k2] at g1; cases g1
        obtain ⟨y, h1, h2⟩ := read_ok (P := P) hE.ty hti g3 g4 (b := b) (o := 0) (fun j u hj => by rw [Nat.zero_add, cell_of_row w b j _ _ _ g2]; simpa using hj) h
        refine ⟨y, ?_, h2⟩
        rw [Nat.zero_add] at h1
        subst k3
        simp [asAddr, h1]
      · cases h
    · rename_i cs off
      obtain ⟨b, vs, k1, k2, k3, k4, k5⟩ := hx
      obtain ⟨y, h1, h2⟩ := read_ok (P := P) hE.ty hti k3 k4 (b := b) (o := 0) k5 h
      refine ⟨y, ?_, h2⟩
      rw [Nat.zero_add] at h1
      subst k1
      simp [asAddr, h1]
    · cases h

def rvM (tmps : Array Value) : ResultVar → Sem Value
  | .tmp t => pure (tmps.getD t undef)
  | .cell a t => do loadVar t (← asAddr (tmps.getD a undef))

theorem results_rvM (fn : Func) (tmps : Array Value) : results fn tmps = (do
    let vs ← fn.results.mapM (rvM tmps)
    pure (if h : vs.size = 1 then vs[0] else .tuple vs)) := by
  unfold results
  congr 1

include hE in
theorem rv1_ok {X : Cx} {w : World} {S : Nat → Prop} {γ : Nat → Loc} {σ : St} {a : Act} (h : Rel X w S γ σ a) {x : ResultVar} {v : AV} (hv : rv1 E σ x = some v) :
    ∃ y, (rvM a.tmps x).run P w = .ok y w ∧ RepA w S γ σ.m v y := by
  cases x with
  | tmp t =>
    cases hv
    exact ⟨_, rfl, h.tm t⟩
  | cell p t => exact ldA_ok hE h.mem hv (h.tm p)

inductive Runs (P : Program) (w : World) (tmps : Array Value) : List ResultVar → List Value → Prop
  | nil : Runs P w tmps [] []
  | cons {x : ResultVar} {y : Value} {xs : List ResultVar} {ys : List Value} (h : (rvM tmps x).run P w = .ok y w) (t : Runs P w tmps xs ys) : Runs P w tmps (x :: xs) (y :: ys)

include hE in
theorem mapR_ok {X : Cx} {w : World} {S : Nat → Prop} {γ : Nat → Loc} {σ : St} {a : Act} (h : Rel X w S γ σ a) : ∀ {xs : List ResultVar} {vs : List AV}, mapR E σ xs = some vs →
    ∃ ys, RepAs w S γ σ.m vs ys ∧ Runs P w a.tmps xs ys
  | [], vs, hv => by cases hv; exact ⟨[], rfl, .nil⟩
  | x :: xs, vs, hv => by
    simp only [mapR] at hv
    split at hv
    · rename_i v h1
      split at hv
      · rename_i vs' h2
        cases hv
        obtain ⟨y, k1, k2⟩ := rv1_ok (P := P) hE h h1
        obtain ⟨ys, l1, l2⟩ := mapR_ok h h2
        exact ⟨y :: ys, ⟨y, ys, rfl, k2, l1⟩, .cons k1 l2⟩
      · cases hv
    · cases hv

def retVal : List Value → Value
  | [v] => v
  | vs => .tuple (List.toArray vs)

theorem retV_rep {w : World} {S : Nat → Prop} {γ : Nat → Loc} {m : Nat → Option MO} {vs : List AV} {ys : List Value} (h : RepAs w S γ m vs ys) : RepA w S γ m (retV vs) (retVal ys) := by
  match vs, h with
  | [], h => rw [show ys = [] from h]; exact ⟨[], rfl, rfl⟩
  | [v], h =>
    obtain ⟨u, us, rfl, h1, h2⟩ := h
    rw [show us = [] from h2]; exact h1
  | v :: v' :: vs, h =>
    have h0 := h
    obtain ⟨u, us, rfl, h1, u', us', rfl, h2, h3⟩ := h
    exact ⟨_, rfl, h0⟩

theorem results_ok {fn : Func} {tmps : Array Value} {w : World} {ys : List Value} (h : Runs P w tmps fn.results.toList ys) (hl : fn.results.toList.length ≤ 4) : (results fn tmps).run P w = .ok (retVal ys) w := by
  rw [results_rvM]
  have e : fn.results = fn.results.toList.toArray := by simp
  generalize fn.results.toList = xs at h hl e
  rw [e]
  match xs, ys, h, hl with
  | [], [], _, _ => simp [retVal]
  | [x], [y], .cons h1 .nil, _ => simp [retVal, h1]
  | [x, x2], [y, y2], .cons h1 (.cons h2 .nil), _ => simp [retVal, h1, h2]
  | [x, x2, x3], [y, y2, y3], .cons h1 (.cons h2 (.cons h3 .nil)), _ => simp [retVal, h1, h2, h3]
  | [x, x2, x3, x4], [y, y2, y3, y4], .cons h1 (.cons h2 (.cons h3 (.cons h4 .nil))), _ => simp [retVal, h1, h2, h3, h4]
  | _ :: _ :: _ :: _ :: _ :: _, _, _, hl => simp only [List.length_cons] at hl; omega

include hE hmix in
/-- a function is as the plain function says that stands for it -/
theorem fn_sound {f : FuncId} {fn : Func} {c : Code} (hf : P.funcs[f]? = some fn) (hb : fn.body = some c) (hname : (fn.name == "runtime.NumGoroutine") = false) (hobs : ∀ x, x ∈ obs Λ c 1 → LpOk P fn.ntmps none x.1 x.2) (hd : dstsOk fn.ntmps c = true)
    {ash : Sh} {o : RS} {l : List RS} {F : ash.T → Option (resT o l)} (hF : ∀ v, F v = evalF E Λ c fn.results.toList fn.ntmps (mkL ash v) o l) : SoundF P f fun as => (ctrOf ash o l F).run as some := by
  intro w S as vals r hlow hrep h
  refine ⟨fun w' args => by simp [callFunc, Sem.run_bind, run_program, Result.andThen_ok, hf, hb, (by simpa using hname : ¬ fn.name = "runtime.NumGoroutine")], ?_⟩
  simp only [Ctr.run, ctrOf] at h
  split at h
  · rename_i o' ho'
    split at ho'
    · rename_i v hv
      cases ho'
      split at h
      · rename_i t ht
        rw [hF] at ht
        have hm0 : MemRel w S g0 m0 (fun k => k < w.heap.size) := ⟨fun n q hq => (by cases hq), hlow, fun n n' q q' b hq => (by cases hq), fun n q b hq => (by cases hq)⟩
        have hren : Ren g0 m0 [] m0 g0 := ⟨fun n d h => (by cases h), fun n h => (by cases h)⟩
        obtain ⟨xs1, xs2, vs1, e1, e2, k1, k2, k3⟩ := getP_rep hm0 hren ash as [] v vals (allDone_some hv) hrep
        rw [show xs2 = [] from k2, List.append_nil] at e1
        subst e1
        unfold evalF at ht
        obtain ⟨hlen, ht⟩ := gd_some ht
        simp only [Bool.and_eq_true, Nat.ble_eq] at hlen
        have hvl := k1.length
        have hrel : Rel ⟨fun k => k < w.heap.size, w, S, fun _ => none, w.heap.size, Nat.le_refl _⟩ w S g0 ⟨argsA 0 (mkL ash v), m0⟩ { tmps := vals.toArray ++ Array.replicate (fn.ntmps - vals.toArray.size) undef, defers := [] } := by
          refine ⟨hm0, fun t => ?_, Bel.refl _ _, fun _ h => h, fun _ h => h, fun _ h => .inl h, trivial, fun n o l hq => (by cases hq), fun n l hl => (by cases hl), by simp; omega⟩
          have := argsA_rep (rest := List.replicate (fn.ntmps - vals.length) undef) 0 t k1
          have e : vals.toArray ++ Array.replicate (fn.ntmps - vals.toArray.size) undef = (vals ++ List.replicate (fn.ntmps - vals.length) undef).toArray := by
            apply Array.ext'; simp
          show RepA w S g0 m0 _ ((vals.toArray ++ Array.replicate (fn.ntmps - vals.toArray.size) undef).getD t undef)
          rw [e]
          simpa [Array.getD_eq_getD_getElem?, List.getD_eq_getElem?_getD] using this
        refine callsIn_wide.1 (callsIn_of_wp_marks (n := 0) hf hb trivial (wpIn_mono (code_sound (ro := none) hE hmix c 1 hobs hd hrel (by simp; omega) ht) ?_))
        have fin : ∀ (ds : List Deferred) {a' : Act} {w' : World} {S' : Nat → Prop} {γ' : Nat → Loc} {σ' : St}, Rel ⟨fun k => k < w.heap.size, w, S, fun _ => none, w.heap.size, Nat.le_refl _⟩ w' S' γ' σ' a' → a'.defers = ds → (finA E fn.results.toList σ' fun m v => getRes m o l v) = some t →
            LeavesInM (RF none) 0 P fn a'.tmps (fun e w' => ∃ x S'' ls, e = .returned x ∧ Below w.heap.size w w' ∧ (∀ b, S b → S'' b) ∧ (∀ b, S'' b → S b ∨ (w.heap.size ≤ b ∧ b < w'.heap.size)) ∧ RepX w' S'' r x ls ∧ Locs (fun k => k < w.heap.size) ls) ds .returning w' := by
          intro ds
          induction ds with
          | nil =>
            intro a' w' S' γ' σ' h1 hdn h2
            obtain ⟨S2, h1⟩ := Rel.stillL (E.still endKey) h1
            unfold finA at h2
            split at h2
            · rename_i vs hvs
              obtain ⟨ys, j1, j2⟩ := mapR_ok (P := P) hE h1 hvs
              obtain ⟨v', ls, i1, i2, i3⟩ := getRes_ok h1.mem (retV_rep j1) h2 h
              cases i1
              refine ⟨_, results_ok j2 hlen.2, _, S2, ls, rfl, h1.below.below, h1.s0, fun b hb => (h1.snew b hb).imp id fun h => ⟨?_, h1.mem.low b hb⟩, i2, i3⟩
              have h : ¬ b < w.heap.size := h
              omega
            · cases h2
          | cons d ds ih =>
            intro a' w' S' γ' σ' h1 hdn h2
            obtain ⟨D, e1, e2, h1⟩ := h1.unmark hdn (Nat.le_refl _)
            refine ⟨by simp, .inl ⟨D, _, by rw [e1], run_takeDeferred e2, ?_⟩⟩
            exact ih (a' := { a' with defers := ds }) h1 rfl h2
        rintro e a' w' ⟨e', σ', S', γ', rfl, h1, h2, h3⟩
        cases e' with
        | normal => exact fin _ h1 rfl h3
        | ret => exact fin _ h1 rfl h3
        | exit i => cases h3
      · cases h
    · cases ho'
  · cases h

end fn

/-! ## functions that are lent objects -/
def OutM (o : Cut) : List Cut → Type
  | [] => o.T
  | o' :: r => o.T ⊕ OutM o' r

def resS (m : Nat → Option MO) (v : AV) : St := ⟨fun i => bif Nat.beq i 0 then v else .undef, m⟩

def getMR (m : Nat → Option MO) (v : AV) (o : Cut) : (l : List Cut) → Option (OutM o l)
  | [] => getM o (resS m v).ρ m
  | o' :: r => match getM o (resS m v).ρ m with
    | some x => some (.inl x)
    | none => match getMR m v o' r with | some x => some (.inr x) | none => none

def outMR (o : Cut) : (l : List Cut) → OutM o l → (St → List Nat → Option R) → Option R
  | [], x, K => K (mkC o x) (o.objs.map (·.1))
  | o' :: r, x, K => match x with
    | .inl x => K (mkC o x) (o.objs.map (·.1))
    | .inr x => outMR o' r x K

theorem outMR_nat (K : St → List Nat → Option R) : ∀ (l : List Cut) (o : Cut) (x : OutM o l), outMR o l x K = (outMR o l x fun τ ns => some (τ, ns)).bind fun p => K p.1 p.2
  | [], o, x => rfl
  | o' :: r, o, x => by
    cases x with
    | inl x => rfl
    | inr x => exact outMR_nat K r o' x

def ctrM (cin o : Cut) (l : List Cut) (F : cin.T → Option (OutM o l)) : CtrM where
  cin := cin
  T := OutM o l
  F := F
  out := fun x K => outMR o l x K
  nat := fun x K => outMR_nat K l o x

def evalM (E : Env) (Λ : Lps) (c : Code) (rs : List ResultVar) (nt : Nat) (cin : Cut) (v : cin.T) (o : Cut) (l : List Cut) : Option (OutM o l) :=
  gd (((Nat.ble (mkL cin.sh v.1).length nt && Nat.ble nt 4096) && Nat.ble rs.length 4) && cin.objs.all fun p => Nat.ble 5000000 p.1) (codeA E Λ c 1 ⟨argsA 0 (mkL cin.sh v.1), mofO cin.objs v.2⟩ fun e σ => match e with
    | .normal => finA E rs σ fun m r => getMR m r o l
    | .ret => finA E rs σ fun m r => getMR m r o l
    | .exit _ => none)

theorem mofO_mem {n : Nat} : ∀ {l : List (Nat × List Nat × OK)} {v : OT l}, mofO l v n ≠ none → n ∈ l.map (·.1)
  | [], _, h => absurd rfl h
  | (k, src, ok) :: l, v, h => by
    simp only [mofO] at h
    cases hb : Nat.beq n k with
    | true => rw [Nat.eq_of_beq_eq_true hb]; simp
    | false => rw [hb] at h; simp only [List.map_cons, List.mem_cons]; exact .inr (mofO_mem h)

theorem getMR_ok {X : Cx} {w : World} {S : Nat → Prop} {γ : Nat → Loc} {m : Nat → Option MO} {v : AV} {u : Value} (h : Rel X w S γ (resS m v) { tmps := #[u], defers := [] }) {K : St → List Nat → Option R} {r : R} : ∀ {l : List Cut} {o : Cut} {x : OutM o l}, getMR m v o l = some x → outMR o l x K = some r →
    ∃ γ' τ ns, Rel X w S γ' τ { tmps := #[u], defers := [] } ∧ K τ ns = some r ∧ ∀ n, τ.m n ≠ none → n ∈ ns
  | [], o, x, hg, ho => by
    obtain ⟨γ', h'⟩ := cutM_ok h hg
    exact ⟨γ', _, _, h', ho, fun n hn => mofO_mem hn⟩
  | o' :: l, o, x, hg, ho => by
    simp only [getMR] at hg
    split at hg
    · rename_i y hy
      cases hg
      obtain ⟨γ', h'⟩ := cutM_ok h hy
      exact ⟨γ', _, _, h', ho, fun n hn => mofO_mem hn⟩
    · split at hg
      · rename_i y hy
        cases hg
        exact getMR_ok h hy ho
      · cases hg

section fnM
variable {P : Program} {E : Env} (hE : EnvOk P E) (hmix : P.follows .mixedOrders = true) {Λ : Lps}

include hE hmix in
/-- a function that is lent objects is as the plain function says that stands for it -/
theorem fnM_sound {f : FuncId} {fn : Func} {c : Code} (hf : P.funcs[f]? = some fn) (hb : fn.body = some c) (hname : (fn.name == "runtime.NumGoroutine") = false) (hobs : ∀ x, x ∈ obs Λ c 1 → LpOk P fn.ntmps none x.1 x.2) (hd : dstsOk fn.ntmps c = true)
    {cin o : Cut} {l : List Cut} {F : cin.T → Option (OutM o l)} (hF : ∀ v, F v = evalM E Λ c fn.results.toList fn.ntmps cin v o l) : SoundM P f (ctrM cin o l F) := by
  intro w S γ B (v : cin.T) vals R (t : OutM o l) K r hm hBs hrep ht hout
  refine ⟨fun w' args => by simp [callFunc, Sem.run_bind, run_program, Result.andThen_ok, hf, hb, (by simpa using hname : ¬ fn.name = "runtime.NumGoroutine")], ?_⟩
  have ht : F v = some t := ht
  have hout : outMR o l t K = some r := hout
  have hm : MemRel w S γ (mofO cin.objs v.2) B := hm
  have hrep : RepAs w S γ (mofO cin.objs v.2) (mkL cin.sh v.1) vals := hrep
  rw [hF] at ht
  unfold evalM at ht
  obtain ⟨hlen, ht⟩ := gd_some ht
  simp only [Bool.and_eq_true, Nat.ble_eq, List.all_eq_true] at hlen
  obtain ⟨⟨⟨hl1, hl2⟩, hl3⟩, hl4⟩ := hlen
  have hvl := hrep.length
  have hhi : ∀ n, mofO cin.objs v.2 n ≠ none → 5000000 ≤ n := fun n hn => by
    obtain ⟨p, h1, h2⟩ := List.mem_map.1 (mofO_mem hn)
    rw [← h2]; exact hl4 p h1
  have hrel : Rel ⟨B, w, S, fun n => (mofO cin.objs v.2 n).map fun q => (γ n, q.kind), w.heap.size, Nat.le_refl _⟩ w S γ ⟨argsA 0 (mkL cin.sh v.1), mofO cin.objs v.2⟩ { tmps := vals.toArray ++ Array.replicate (fn.ntmps - vals.toArray.size) undef, defers := [] } := by
    refine ⟨hm, fun t => ?_, Bel.refl _ _, hBs, fun _ h => h, fun _ h => .inl h, trivial, fun n o l hq hl => ?_, fun n l hl => ?_, by simp; omega⟩
    · have := argsA_rep (rest := List.replicate (fn.ntmps - vals.length) undef) 0 t hrep
      have e : vals.toArray ++ Array.replicate (fn.ntmps - vals.toArray.size) undef = (vals ++ List.replicate (fn.ntmps - vals.length) undef).toArray := by
        apply Array.ext'; simp
      show RepA w S γ _ _ ((vals.toArray ++ Array.replicate (fn.ntmps - vals.toArray.size) undef).getD t undef)
      rw [e]
      simpa [Array.getD_eq_getD_getElem?, List.getD_eq_getElem?_getD] using this
    · have hq : mofO cin.objs v.2 n = some o := hq
      simp only [hq, Option.map_some, Option.some.injEq] at hl
      subst hl; exact ⟨rfl, rfl⟩
    · refine hhi n fun h => ?_
      simp only [h] at hl; cases hl
  refine callsIn_wide.1 (callsIn_of_wp_marks (n := 0) hf hb trivial (wpIn_mono (code_sound (ro := none) hE hmix c 1 hobs hd hrel (by simp; omega) ht) ?_))
  have fin : ∀ (ds : List Deferred) {a' : Act} {w' : World} {S' : Nat → Prop} {γ' : Nat → Loc} {σ' : St}, Rel ⟨B, w, S, fun n => (mofO cin.objs v.2 n).map fun q => (γ n, q.kind), w.heap.size, Nat.le_refl _⟩ w' S' γ' σ' a' → a'.defers = ds → (finA E fn.results.toList σ' fun m r => getMR m r o l) = some t →
      LeavesInM (RF none) 0 P fn a'.tmps (fun e w' => ∃ x S' γ' τ ns, e = .returned x ∧ K τ ns = some r ∧ BackOk (fun _ => False) B w S γ (mofO cin.objs v.2) w' S' γ' τ ns x) ds .returning w' := by
    intro ds
    induction ds with
    | nil =>
      intro a' w' S' γ' σ' h1 hdn h2
      obtain ⟨S2, h1⟩ := Rel.stillL (E.still endKey) h1
      unfold finA at h2
      split at h2
      · rename_i vs hvs
        obtain ⟨ys, j1, j2⟩ := mapR_ok (P := P) hE h1 hvs
        have hres := retV_rep j1
        have h3 : Rel ⟨B, w, S, fun n => (mofO cin.objs v.2 n).map fun q => (γ n, q.kind), w.heap.size, Nat.le_refl _⟩ w' S2 γ' (resS (stillL σ'.m (E.still endKey)) (retV vs)) { tmps := #[retVal ys], defers := [] } := by
          refine ⟨h1.mem, fun t => ?_, h1.below, h1.base_le, h1.s0, h1.snew, trivial, h1.pin, h1.pnhi, by simp⟩
          show RepA _ _ _ _ (bif Nat.beq t 0 then retV vs else .undef) _
          cases t with
          | zero => exact hres
          | succ t => trivial
        obtain ⟨γ3, τ, ns, i1, i2, i3⟩ := getMR_ok h3 h2 hout
        refine ⟨_, results_ok j2 hl3, _, S2, γ3, τ, ns, rfl, i2, ⟨i1.below.weak (fun k h => h.1), i1.s0, i1.snew, i1.mem, i1.tm 0, fun n q q' hq hq' => ?_, i3⟩⟩
        exact i1.pin n q' (γ n, q.kind) hq' (by simp only [hq, Option.map_some])
      · cases h2
    | cons d ds ih =>
      intro a' w' S' γ' σ' h1 hdn h2
      obtain ⟨D, e1, e2, h1⟩ := h1.unmark hdn (Nat.le_refl _)
      refine ⟨by simp, .inl ⟨D, _, by rw [e1], run_takeDeferred e2, ?_⟩⟩
      exact ih (a' := { a' with defers := ds }) h1 rfl h2
  rintro e a' w' ⟨e', σ', S', γ', rfl, h1, h2, h3⟩
  cases e' with
  | normal => exact fin _ h1 rfl h3
  | ret => exact fin _ h1 rfl h3
  | exit i => cases h3

end fnM
end Go.Dv
