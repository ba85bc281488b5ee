/- Objects of a call's own, the relation between an abstract state and the model's state, and what the evaluator is told of types. -/
import Derived.Test.YtmffojmbfphidaaDoorDvRep
import Derived.RangeFuncOwn
set_option linter.all false
namespace Go.Dv
open Go.RowKit

def Loc.blk (l : Loc) : Option Nat := l.a.map (·.block)

def MO.live : MO → Bool
  | .box _ .live => true
  | .sl _ _ .live => true
  | .rng _ _ (some _) => true
  | _ => false

/-- loops over functions by their numbers: what their text is, and which of the slots their rounds know -/
structure LInfo where
  ps : Array Tmp
  tms : List Nat
  assign : Code
  body : Code
  nt : Nat

class LTab where
  tab : Nat → LInfo

def stOf : Nat → LoopState × Option Code
  | 0 => (.ready, none)
  | 1 => (.done, some .ret)
  | i + 2 => (.done, some (.exit i))

variable [LTab]

def fzW (n : Nat) (fz : Nat × Nat) : Prop := ∀ i, i < n → ¬ (fz.1 ≤ i ∧ i < fz.2)

/-- behind a row of bytes there may be a mark -/
def endOk : Ty → Bool
  | .int k => match k with | .u8 => false | _ => true
  | _ => true

def fzOK (t : Ty) (n : Nat) (fz : Nat × Nat) : Prop := ∀ i, (i < n ∨ (i = n ∧ endOk t = true)) → ¬ (fz.1 ≤ i ∧ i < fz.2)

theorem fzOK.weak {t : Ty} {n : Nat} {fz : Nat × Nat} (h : fzOK t n fz) : fzW n fz := fun i hi => h i (.inl hi)

structure RowRel (w : World) (S : Nat → Prop) (l : Loc) (t : Ty) (xs : List t.T) (s : Stat) : Prop where
  len : xs.length ≤ l.cap
  cap : l.cap ≤ maxLen
  nil : l.a = none → l.cap = 0
  row : ∀ a, l.a = some a → ∃ b arr el fz, a = ⟨b, 0, none⟩ ∧ w.heap[b]? = some (.cells arr el fz) ∧ arr.size = l.cap * t.size ∧ fzOK t arr.size fz ∧
    (∀ i (x : t.T), getq xs i = some x → ∃ c, RepT w S t x c ∧ ∀ j u, c[j]? = some u → arr[i * t.size + j]? = some u) ∧
    (s = .live → ¬ S b) ∧ (s = .still → S b)

structure RngRel (w : World) (S : Nat → Prop) (γ : Nat → Loc) (m : Nat → Option MO) (n : Nat) (id : Nat) (caps : List AV) (e : Nat) (l : Nat) (rec : Loop) : Prop where
  loc : (γ n).a = some ⟨l, 0, none⟩
  heap : w.heap[l]? = some (.loop rec)
  state : rec.state = (stOf e).1
  pending : rec.pending = (stOf e).2
  ps : rec.params = (LTab.tab id).ps
  assign : rec.assign = (LTab.tab id).assign
  body : rec.body = (LTab.tab id).body
  size : rec.tmps.size = (LTab.tab id).nt
  caps : RepAs w S γ m caps ((LTab.tab id).tms.map fun t => rec.tmps.getD t undef)
  notS : ¬ S l

def ObjRel (w : World) (S : Nat → Prop) (γ : Nat → Loc) (m : Nat → Option MO) (n : Nat) : MO → Prop
  | .box cs s => ∃ b vs el, (γ n).a = some ⟨b, 0, none⟩ ∧ w.heap[b]? = some (.cells (List.toArray vs) el (0, 0)) ∧ RepAs w S γ m cs vs ∧ allOne cs = true ∧
      (s = .live → ¬ S b) ∧ (s ≠ .live → S b)
  | .sl _ _ .dead => True
  | .sl t xs s => RowRel w S (γ n) t xs s
  | .rng _ _ none => True
  | .rng id caps (some e) => ∃ l rec, RngRel w S γ m n id caps e l rec

/-- what is left as it was: the blocks of `B`, and whatever holds no cells -/
structure Bel (B : Nat → Prop) (w w' : World) : Prop where
  os : w'.os = w.os
  tape : w'.tape = w.tape
  output : w'.output = w.output
  size : w.heap.size ≤ w'.heap.size
  block : ∀ k, B k → w'.heap[k]? = w.heap[k]?
  others : ∀ (k : Nat) (ds : Option (List Deferred)), w.heap[k]? = some (.deferred ds) → w'.heap[k]? = some (.deferred ds)

theorem Bel.refl (B : Nat → Prop) (w : World) : Bel B w w := ⟨rfl, rfl, rfl, Nat.le_refl _, fun _ _ => rfl, fun _ _ h => h⟩
theorem Bel.trans {B : Nat → Prop} {a b c : World} (h : Bel B a b) (k : Bel B b c) : Bel B a c :=
  ⟨k.os.trans h.os, k.tape.trans h.tape, k.output.trans h.output, Nat.le_trans h.size k.size, fun i hi => (k.block i hi).trans (h.block i hi), fun i o hi => k.others i o (h.others i o hi)⟩
theorem Bel.weak {B B' : Nat → Prop} {w w' : World} (h : Bel B w w') (hB : ∀ k, B' k → B k) : Bel B' w w' :=
  ⟨h.os, h.tape, h.output, h.size, fun k hk => h.block k (hB k hk), h.others⟩
theorem Below.bel {B : Nat → Prop} {w w' : World} (h : Below w.heap.size w w') (hB : ∀ k, B k → k < w.heap.size) : Bel B w w' :=
  ⟨h.os, h.tape, h.output, h.size, fun k hk => h.block k (hB k hk), fun k _ hk => (h.block k (Array.getElem?_eq_some_iff.1 hk).1).trans hk⟩
theorem Bel.below {w w' : World} (h : Bel (fun k => k < w.heap.size) w w') : Below w.heap.size w w' := ⟨h.os, h.tape, h.output, h.size, h.block⟩

structure MemRel (w : World) (S : Nat → Prop) (γ : Nat → Loc) (m : Nat → Option MO) (base : Nat → Prop) : Prop where
  obj : ∀ n o, m n = some o → ObjRel w S γ m n o
  low : ∀ b, S b → b < w.heap.size
  apart : ∀ n n' o o' b, m n = some o → m n' = some o' → o.live = true → o'.live = true → n ≠ n' → (γ n).blk = some b → (γ n').blk = some b → False
  high : ∀ n o b, m n = some o → o.live = true → (γ n).blk = some b → ¬ base b

theorem heap_lt {w : World} {b : Nat} {o : Obj} (h : w.heap[b]? = some o) : b < w.heap.size := (Array.getElem?_eq_some_iff.1 h).1

theorem ObjRel.notS {w : World} {S : Nat → Prop} {γ : Nat → Loc} {m : Nat → Option MO} {n b : Nat} {q : MO} (h : ObjRel w S γ m n q) (hl : q.live = true) (hb : (γ n).blk = some b) : ¬ S b ∧ ∃ o, w.heap[b]? = some o ∧ ∀ ds, o ≠ .deferred ds := by
  cases q with
  | box cs s =>
    cases s <;> first | cases hl | skip
    obtain ⟨b', vs, el, g1, g2, g3, g4, g5, g6⟩ := h
    rw [Loc.blk, g1] at hb; cases hb
    exact ⟨g5 rfl, _, g2, fun _ h => by cases h⟩
  | sl t xs s =>
    cases s <;> first | cases hl | skip
    have h : RowRel w S (γ n) t xs .live := h
    cases ha : (γ n).a with
    | none => rw [Loc.blk, ha] at hb; cases hb
    | some a0 =>
      obtain ⟨b', arr, el, fz, g1, g2, g3, g4, g5, g6, g7⟩ := h.row a0 ha
      rw [Loc.blk, ha, g1] at hb; cases hb
      exact ⟨g6 rfl, _, g2, fun _ h => by cases h⟩
  | rng id cs e =>
    cases e with
    | none => cases hl
    | some e =>
      obtain ⟨l, rec, h⟩ := h
      rw [Loc.blk, h.loc] at hb; cases hb
      exact ⟨h.notS, _, h.heap, fun _ h => by cases h⟩

theorem ObjRel.lt {w : World} {S : Nat → Prop} {γ : Nat → Loc} {m : Nat → Option MO} {n : Nat} {o : MO} {b : Nat} (h : ObjRel w S γ m n o) (hl : o.live = true) (hb : (γ n).blk = some b) : b < w.heap.size := by
  obtain ⟨_, _, h, _⟩ := ObjRel.notS h hl hb
  exact heap_lt h

/-- an object in a later world -/
theorem ObjRel.later {w w' : World} {S S' : Nat → Prop} {γ γ' : Nat → Loc} {m m' : Nat → Option MO} {n : Nat} {o : MO} (h : ObjRel w S γ m n o) (hS : ∀ b, S b → w'.heap[b]? = w.heap[b]?) (hSS : ∀ b, S b → S' b) (hk : Keeps m γ m' γ') (hn : γ' n = γ n)
    (hl : o.live = true → ∀ b, (γ n).blk = some b → w'.heap[b]? = w.heap[b]? ∧ ¬ S' b) : ObjRel w' S' γ' m' n o := by
  cases o with
  | box cs s =>
    obtain ⟨b, vs, el, h1, h2, h3, h4, h5, h6⟩ := h
    have hb : (γ n).blk = some b := by rw [Loc.blk, h1]; rfl
    have hw : w'.heap[b]? = w.heap[b]? := by
      cases s with
      | live => exact (hl rfl b hb).1
      | still => exact hS b (h6 (by simp))
      | dead => exact hS b (h6 (by simp))
    exact ⟨b, vs, el, by rw [hn]; exact h1, hw.trans h2, RepAs.mono hS hSS hk cs vs h3, h4, fun e => by subst e; exact (hl rfl b hb).2, fun e => hSS b (h6 e)⟩
  | sl t xs s =>
    have go : ∀ {s : Stat}, RowRel w S (γ n) t xs s → (∀ b, (γ n).blk = some b → w'.heap[b]? = w.heap[b]?) → (s = .live → ∀ b, (γ n).blk = some b → ¬ S' b) → RowRel w' S' (γ' n) t xs s := by
      intro s h hw hl
      rw [hn]
      refine ⟨h.len, h.cap, h.nil, fun a ha => ?_⟩
      obtain ⟨b, arr, el, fz, h1, h2, h3, h4, h5, h6, h7⟩ := h.row a ha
      have hb : (γ n).blk = some b := by rw [Loc.blk, ha, h1]; rfl
      refine ⟨b, arr, el, fz, h1, (hw b hb).trans h2, h3, h4, fun i x hx => ?_, fun e => hl e b hb, fun e => hSS b (h7 e)⟩
      obtain ⟨c, k1, k2⟩ := h5 i x hx
      exact ⟨c, RepT.mono hS hSS t x c k1, k2⟩
    cases s with
    | dead => trivial
    | live => exact go h (fun b hb => (hl rfl b hb).1) fun _ b hb => (hl rfl b hb).2
    | still =>
      have h : RowRel w S (γ n) t xs .still := h
      refine go h (fun b hb => ?_) (fun e => by cases e)
      cases ha : (γ n).a with
      | none => rw [Loc.blk, ha] at hb; cases hb
      | some a0 =>
        obtain ⟨b', arr, el, fz, g1, g2, g3, g4, g5, g6, g7⟩ := h.row a0 ha
        rw [Loc.blk, ha, g1] at hb; cases hb
        exact hS _ (g7 rfl)
  | rng id cs e =>
    cases e with
    | none => trivial
    | some e =>
      obtain ⟨l, rec, h⟩ := h
      have hb : (γ n).blk = some l := by rw [Loc.blk, h.loc]; rfl
      obtain ⟨k1, k2⟩ := hl rfl l hb
      exact ⟨l, rec, by rw [hn]; exact h.loc, k1.trans h.heap, h.state, h.pending, h.ps, h.assign, h.body, h.size, RepAs.mono hS hSS hk _ _ h.caps, k2⟩

theorem ObjRel.grow {w w' : World} {S : Nat → Prop} {γ γ' : Nat → Loc} {m m' : Nat → Option MO} {n : Nat} {o : MO} (h : ObjRel w S γ m n o) (hl : ∀ b, S b → b < w.heap.size) (hb : Below w.heap.size w w')
    (hk : Keeps m γ m' γ') (hn : γ' n = γ n) : ObjRel w' S γ' m' n o :=
  ObjRel.later h (fun b hs => hb.block b (hl b hs)) (fun _ h => h) hk hn fun hlv b hbk => ⟨hb.block b (ObjRel.lt h hlv hbk), (ObjRel.notS h hlv hbk).1⟩

theorem MemRel.grow {w w' : World} {S : Nat → Prop} {γ : Nat → Loc} {m : Nat → Option MO} {base : Nat → Prop} (h : MemRel w S γ m base) (hb : Below w.heap.size w w') : MemRel w' S γ m base :=
  ⟨fun n o ho => ObjRel.grow (h.obj n o ho) h.low hb (Keeps.refl _ _) rfl, fun b hs => Nat.lt_of_lt_of_le (h.low b hs) hb.size, h.apart, h.high⟩

def gupd (γ : Nat → Loc) (d : Nat) (l : Loc) : Nat → Loc := fun i => if i = d then l else γ i

theorem nbeq {n d : Nat} (h : n ≠ d) : Nat.beq n d = false := by
  cases hb : Nat.beq n d with
  | false => rfl
  | true => exact absurd (Nat.eq_of_beq_eq_true hb) h

theorem mupd_same (m : Nat → Option MO) (d : Nat) (o : MO) : mupd m d o d = some o := by simp [mupd]
theorem mupd_ne (m : Nat → Option MO) {d n : Nat} (o : MO) (h : n ≠ d) : mupd m d o n = m n := by
  have : Nat.beq n d = false := nbeq h
  simp [mupd, this]
theorem gupd_same (γ : Nat → Loc) (d : Nat) (l : Loc) : gupd γ d l d = l := by simp [gupd]
theorem gupd_ne (γ : Nat → Loc) {d n : Nat} (l : Loc) (h : n ≠ d) : gupd γ d l n = γ n := by simp [gupd, h]
theorem upd_same (ρ : Nat → AV) (d : Nat) (v : AV) : upd ρ d v d = v := by simp [upd]
theorem upd_ne (ρ : Nat → AV) {d n : Nat} (v : AV) (h : n ≠ d) : upd ρ d v n = ρ n := by
  have : Nat.beq n d = false := nbeq h
  simp [upd, this]

theorem Keeps.new {m : Nat → Option MO} {γ : Nat → Loc} {d : Nat} {ob : MO} {l : Loc} (h : m d = none) : Keeps m γ (mupd m d ob) (gupd γ d l) := by
  intro n o ho
  have hne : n ≠ d := fun e => by rw [e, h] at ho; cases ho
  exact ⟨o, by rw [mupd_ne _ _ hne]; exact ho, rfl, gupd_ne _ _ hne⟩

/-- a new object -/
theorem MemRel.add {w w' : World} {S : Nat → Prop} {γ : Nat → Loc} {m : Nat → Option MO} {base : Nat → Prop} {d : Nat} {ob : MO} {l : Loc} (h : MemRel w S γ m base) (hb : Below w.heap.size w w') (hd : m d = none)
    (ho : ObjRel w' S (gupd γ d l) (mupd m d ob) d ob) (hbase : ∀ k, base k → k < w.heap.size) (hnew : ∀ b, l.blk = some b → w.heap.size ≤ b) : MemRel w' S (gupd γ d l) (mupd m d ob) base := by
  refine ⟨fun n o hn => ?_, fun b hs => Nat.lt_of_lt_of_le (h.low b hs) hb.size, ?_, ?_⟩
  · by_cases e : n = d
    · subst e; rw [mupd_same] at hn; cases hn; exact ho
    · rw [mupd_ne _ _ e] at hn
      exact ObjRel.grow (h.obj n o hn) h.low hb (Keeps.new hd) (gupd_ne _ _ e)
  · intro n n' o o' b hn hn' hl hl' hne hbn hbn'
    by_cases e : n = d
    · subst e
      have e' : n' ≠ n := fun e => hne e.symm
      rw [gupd_same] at hbn
      rw [mupd_ne _ _ e'] at hn'; rw [gupd_ne _ _ e'] at hbn'
      have := hnew b hbn
      have := ObjRel.lt (h.obj n' o' hn') hl' hbn'
      omega
    · by_cases e' : n' = d
      · subst e'
        rw [gupd_same] at hbn'
        rw [mupd_ne _ _ e] at hn; rw [gupd_ne _ _ e] at hbn
        have := hnew b hbn'
        have := ObjRel.lt (h.obj n o hn) hl hbn
        omega
      · rw [mupd_ne _ _ e] at hn; rw [gupd_ne _ _ e] at hbn; rw [mupd_ne _ _ e'] at hn'; rw [gupd_ne _ _ e'] at hbn'
        exact h.apart n n' o o' b hn hn' hl hl' hne hbn hbn'
  · intro n o b hn hl hbn
    by_cases e : n = d
    · subst e; rw [gupd_same] at hbn; exact fun hb => absurd (hbase b hb) (by have := hnew b hbn; omega)
    · rw [mupd_ne _ _ e] at hn; rw [gupd_ne _ _ e] at hbn; exact h.high n o b hn hl hbn

/-! ## the states -/
/-- what is fixed while a piece of code runs: the protected blocks, the world and the still blocks at the start, the places of lent objects -/
structure Cx where
  B : Nat → Prop
  w0 : World
  S0 : Nat → Prop
  pn : Nat → Option (Loc × Nat × Nat)
  /-- marks lie from here on -/
  N : Nat
  nle : N ≤ w0.heap.size

/-- the marks that ranges over functions leave on the deferred calls -/
def MarksOk (B : Nat) (w : World) (S : Nat → Prop) : List Deferred → Prop
  | [] => True
  | d :: ds => (∃ D, d = { target := .collected D, args := #[] } ∧ w.heap[D]? = some (.deferred (some [])) ∧ ¬ S D ∧ B ≤ D) ∧ (∀ d', d' ∈ ds → d' ≠ d) ∧ MarksOk B w S ds

theorem MarksOk.mono {B : Nat} {w w' : World} {S S' : Nat → Prop} (hw : ∀ (k : Nat) (ds : Option (List Deferred)), w.heap[k]? = some (.deferred ds) → w'.heap[k]? = some (.deferred ds)) (hS : ∀ D, w.heap[D]? = some (.deferred (some [])) → S' D → S D) : ∀ {l : List Deferred}, MarksOk B w S l → MarksOk B w' S' l
  | [], _ => trivial
  | _ :: _, ⟨⟨D, h1, h2, h3, h4⟩, h5, h6⟩ => ⟨⟨D, h1, hw D _ h2, fun h => h3 (hS D h2 h), h4⟩, h5, MarksOk.mono hw hS h6⟩

structure Rel (X : Cx) (w : World) (S : Nat → Prop) (γ : Nat → Loc) (σ : St) (a : Act) : Prop where
  mem : MemRel w S γ σ.m X.B
  tm : ∀ t, RepA w S γ σ.m (σ.ρ t) (a.tmps.getD t undef)
  below : Bel X.B X.w0 w
  base_le : ∀ k, X.B k → k < X.w0.heap.size
  s0 : ∀ b, X.S0 b → S b
  snew : ∀ b, S b → X.S0 b ∨ ¬ X.B b
  defers : MarksOk X.N w S a.defers
  pin : ∀ n o l, σ.m n = some o → X.pn n = some l → γ n = l.1 ∧ o.kind = l.2
  pnhi : ∀ n l, X.pn n = some l → 5000000 ≤ n
  small : a.tmps.size ≤ 4096

theorem Rel.size_le {X : Cx} {w : World} {S : Nat → Prop} {γ : Nat → Loc} {σ : St} {a : Act} (h : Rel X w S γ σ a) : ∀ k, X.B k → k < w.heap.size :=
  fun k hk => Nat.lt_of_lt_of_le (h.base_le k hk) h.below.size

/-- lent objects stay at their places -/
theorem pin_keep {pn : Nat → Option (Loc × Nat × Nat)} {m m' : Nat → Option MO} {γ γ' : Nat → Loc} (hp : ∀ n o l, m n = some o → pn n = some l → γ n = l.1 ∧ o.kind = l.2) (hk : Keeps m γ m' γ') (hd : ∀ n l, pn n = some l → m' n ≠ none → m n ≠ none) :
    ∀ n o l, m' n = some o → pn n = some l → γ' n = l.1 ∧ o.kind = l.2 := by
  intro n o l ho hl
  cases hq : m n with
  | none => exact absurd hq (hd n l hl (by rw [ho]; simp))
  | some q =>
    obtain ⟨o', h1, h2, h3⟩ := hk n q hq
    rw [ho] at h1; cases h1
    obtain ⟨k1, k2⟩ := hp n q l hq hl
    exact ⟨h3.trans k1, h2.trans k2⟩

theorem put_tmps_same (a : Act) (d : Nat) (x : Value) (h : d < a.tmps.size) : (a.put (some d) x).tmps.getD d undef = x := by
  simp [Act.put, h]
theorem put_tmps_ne (a : Act) {d t : Nat} (x : Value) (h : t ≠ d) : (a.put (some d) x).tmps.getD t undef = a.tmps.getD t undef := by
  simp [Act.put, Ne.symm h]
theorem put_size (a : Act) (d : Option Nat) (x : Value) : (a.put d x).tmps.size = a.tmps.size := by cases d <;> simp [Act.put]
theorem put_defers (a : Act) (d : Option Nat) (x : Value) : (a.put d x).defers = a.defers := by cases d <;> rfl

def dstLt (n : Nat) : Option Nat → Prop
  | some d => d < n
  | none => True

theorem Rel.val {X : Cx} {w w' : World} {S : Nat → Prop} {γ : Nat → Loc} {σ : St} {a : Act} (h : Rel X w S γ σ a) (hb : Below w.heap.size w w') {dst : Option Nat} {v : AV} {x : Value}
    (hv : RepA w' S γ σ.m v x) (hd : dstLt a.tmps.size dst) : Rel X w' S γ (σ.put dst v) (a.put dst x) := by
  have hmono : ∀ v x, RepA w S γ σ.m v x → RepA w' S γ σ.m v x := RepA.mono (fun b hs => hb.block b (h.mem.low b hs)) (fun _ h => h) (Keeps.refl _ _)
  have hbel := Below.bel hb h.size_le
  refine ⟨h.mem.grow hb, ?_, h.below.trans hbel, h.base_le, h.s0, h.snew, by rw [put_defers]; exact h.defers.mono hbel.others (fun _ _ h => h), h.pin, h.pnhi, by rw [put_size]; exact h.small⟩
  intro t
  cases dst with
  | none => exact hmono _ _ (h.tm t)
  | some d =>
    by_cases e : t = d
    · subst e
      rw [put_tmps_same a t x hd]
      show RepA w' S γ σ.m (upd σ.ρ t v t) x
      rw [upd_same]; exact hv
    · rw [put_tmps_ne a x e]
      show RepA w' S γ σ.m (upd σ.ρ d v t) _
      rw [upd_ne _ _ e]; exact hmono _ _ (h.tm t)

theorem Rel.new {X : Cx} {w w' : World} {S : Nat → Prop} {γ : Nat → Loc} {σ : St} {a : Act} (h : Rel X w S γ σ a) (hb : Below w.heap.size w w') {d : Nat} {v : AV} {x : Value} {ob : MO} {l : Loc}
    (hm : σ.m d = none) (ho : ObjRel w' S (gupd γ d l) (mupd σ.m d ob) d ob) (hnew : ∀ b, l.blk = some b → w.heap.size ≤ b)
    (hv : RepA w' S (gupd γ d l) (mupd σ.m d ob) v x) (hd : d < a.tmps.size) : Rel X w' S (gupd γ d l) ⟨upd σ.ρ d v, mupd σ.m d ob⟩ (a.put (some d) x) := by
  have hmono : ∀ v x, RepA w S γ σ.m v x → RepA w' S (gupd γ d l) (mupd σ.m d ob) v x := RepA.mono (fun b hs => hb.block b (h.mem.low b hs)) (fun _ h => h) (Keeps.new hm)
  have hbel := Below.bel hb h.size_le
  refine ⟨h.mem.add hb hm ho h.size_le hnew, ?_, h.below.trans hbel, h.base_le, h.s0, h.snew, by rw [put_defers]; exact h.defers.mono hbel.others (fun _ _ h => h), pin_keep h.pin (Keeps.new hm) (fun n l hl hn => ?_), h.pnhi, by rw [put_size]; exact h.small⟩
  rotate_left
  · have := h.pnhi n l hl
    have := h.small
    have hn : mupd σ.m d ob n ≠ none := hn
    rwa [mupd_ne _ _ (show n ≠ d by omega)] at hn
  intro t
  by_cases e : t = d
  · subst e
    rw [put_tmps_same a t x hd]
    show RepA _ _ _ _ (upd σ.ρ t v t) x
    rw [upd_same]; exact hv
  · rw [put_tmps_ne a x e]
    show RepA _ _ _ _ (upd σ.ρ d v t) _
    rw [upd_ne _ _ e]; exact hmono _ _ (h.tm t)

theorem ofV_rep {w : World} {S : Nat → Prop} {γ : Nat → Loc} {m : Nat → Option MO} : ∀ v : Value, RepA w S γ m (ofV v) v := by
  intro v
  unfold ofV
  split <;> simp [RepA]

theorem Rel.ev {X : Cx} {w : World} {S : Nat → Prop} {γ : Nat → Loc} {σ : St} {a : Act} (h : Rel X w S γ σ a) (x : Operand) : RepA w S γ σ.m (σ.ev x) (a.eval x) := by
  cases x with
  | tmp t => exact h.tm t
  | const v => exact ofV_rep v
  | global g => trivial
  | func f => exact ⟨[], rfl, rfl⟩

/-! ## what the evaluator is told of types -/
def tdOf : TypeDesc → TD
  | .bool => .bool
  | .int k => .int k
  | .string => .str
  | .pointer _ => .ptr
  | .slice e => .slice e
  | .array n e => .arr n e
  | .struct fs => .struct (fs.toList.map fun f => (f.offset, f.type))
  | .func _ _ _ => .func
  | .interface _ => .iface
  | _ => .other

def fsEq : List (Nat × TypeId) → List (Nat × TypeId) → Bool
  | [], [] => true
  | a :: as, b :: bs => Nat.beq a.1 b.1 && (Nat.beq a.2 b.2 && fsEq as bs)
  | _, _ => false

theorem fsEq_spec : ∀ {a b : List (Nat × TypeId)}, fsEq a b = true → a = b
  | [], [], _ => rfl
  | [], _ :: _, h => by simp [fsEq] at h
  | _ :: _, [], h => by simp [fsEq] at h
  | (a, c) :: as, (b, d) :: bs, h => by
    simp only [fsEq, Bool.and_eq_true, Nat.beq_eq] at h
    obtain ⟨h1, h2, h3⟩ := h
    subst h1; subst h2; rw [fsEq_spec h3]

def TD.eq : TD → TD → Bool
  | .int k, .int l => (ikEq k l).isSome
  | .bool, .bool => true
  | .str, .str => true
  | .ptr, .ptr => true
  | .slice e, .slice f => Nat.beq e f
  | .struct a, .struct b => fsEq a b
  | .arr n e, .arr k f => Nat.beq n k && Nat.beq e f
  | .func, .func => true
  | .iface, .iface => true
  | _, _ => false

theorem ikEq_spec {a b : IntKind} (h : (ikEq a b).isSome = true) : a = b := by
  unfold ikEq at h
  split at h
  · assumption
  · simp at h

theorem TD.eq_spec {a b : TD} (h : TD.eq a b = true) : a = b := by
  unfold TD.eq at h
  split at h
  case h_1 => rw [ikEq_spec h]
  case h_2 => rfl
  case h_3 => rfl
  case h_4 => rfl
  case h_5 => rw [Nat.eq_of_beq_eq_true h]
  case h_6 => rw [fsEq_spec h]
  case h_7 => simp only [Bool.and_eq_true, Nat.beq_eq] at h; rw [h.1, h.2]
  case h_8 => rfl
  case h_9 => rfl
  case h_10 => simp at h

def zEq : Value → Z → Bool
  | .int k n, .int l => (ikEq k l).isSome && eqi n 0
  | .bool false, .bool => true
  | .string s, .str => s.data.toList.isEmpty
  | .slice none 0 0, .slice => true
  | .pointer none, .ptr => true
  | .nilFunc, .func => true
  | .nilIface, .iface => true
  | _, _ => false

def zsEq : List Value → List Z → Bool
  | [], [] => true
  | v :: vs, z :: zs => zEq v z && zsEq vs zs
  | _, _ => false

theorem zEq_rep {w : World} {S : Nat → Prop} {γ : Nat → Loc} {m : Nat → Option MO} {v : Value} {z : Z} (h : zEq v z = true) : RepA w S γ m z.av v := by
  unfold zEq at h
  split at h
  case h_1 k n l =>
    simp only [Bool.and_eq_true] at h
    have e := ikEq_spec h.1
    have e2 : n = 0 := by simpa [eqi] using h.2
    subst e; subst e2; rfl
  case h_2 => rfl
  case h_3 s =>
    have e : s.data = #[] := by simpa using h
    cases s with
    | mk d => simp only at e; subst e; rfl
  case h_4 => rfl
  case h_5 => rfl
  case h_6 => rfl
  case h_7 => rfl
  case h_8 => simp at h

theorem zsEq_rep {w : World} {S : Nat → Prop} {γ : Nat → Loc} {m : Nat → Option MO} : ∀ {vs : List Value} {zs : List Z}, zsEq vs zs = true → RepAs w S γ m (zs.map Z.av) vs
  | [], [], _ => rfl
  | [], _ :: _, h => by simp [zsEq] at h
  | _ :: _, [], h => by simp [zsEq] at h
  | v :: vs, z :: zs, h => by
    simp only [zsEq, Bool.and_eq_true] at h
    exact ⟨v, vs, rfl, zEq_rep h.1, zsEq_rep h.2⟩

theorem allOne_zero (zs : List Z) : allOne (zs.map Z.av) = true := by
  induction zs with
  | nil => rfl
  | cons z zs ih => simp only [allOne, List.map_cons, List.all_cons, Bool.and_eq_true]; exact ⟨by cases z <;> rfl, by simpa [allOne] using ih⟩

def tyD (y : Ty) (d : TD) : Bool := match y with | .int k => TD.eq d (.int k) | _ => true

def zTy : Ty → List Z
  | .int k => [.int k]
  | .bool => [.bool]
  | .str => [.str]
  | .unit => []
  | .pair a b => zTy a ++ zTy b
  | .list _ => [.slice]

def zzEq : Z → Z → Bool
  | .int k, .int l => (ikEq k l).isSome
  | .bool, .bool => true
  | .str, .str => true
  | .slice, .slice => true
  | .ptr, .ptr => true
  | .func, .func => true
  | .iface, .iface => true
  | _, _ => false

def zzsEq : List Z → List Z → Bool
  | [], [] => true
  | a :: as, b :: bs => zzEq a b && zzsEq as bs
  | _, _ => false

theorem zzEq_spec {a b : Z} (h : zzEq a b = true) : a = b := by
  unfold zzEq at h
  split at h <;> first | rfl | (rw [ikEq_spec h]) | (simp at h; done)

theorem zzsEq_spec : ∀ {a b : List Z}, zzsEq a b = true → a = b
  | [], [], _ => rfl
  | [], _ :: _, h => by simp [zzsEq] at h
  | _ :: _, [], h => by simp [zzsEq] at h
  | a :: as, b :: bs, h => by
    simp only [zzsEq, Bool.and_eq_true] at h
    rw [zzEq_spec h.1, zzsEq_spec h.2]

theorem zsEq_append : ∀ {a b : List Z} {vs : List Value}, zsEq vs (a ++ b) = true → ∃ c d, vs = c ++ d ∧ zsEq c a = true ∧ zsEq d b = true
  | [], b, vs, h => ⟨[], vs, rfl, rfl, h⟩
  | z :: a, b, [], h => by simp [zsEq] at h
  | z :: a, b, v :: vs, h => by
    simp only [List.cons_append, zsEq, Bool.and_eq_true] at h
    obtain ⟨c, d, rfl, h1, h2⟩ := zsEq_append h.2
    exact ⟨v :: c, d, rfl, by simp only [zsEq, Bool.and_eq_true]; exact ⟨h.1, h1⟩, h2⟩

theorem zero_one {z : Z} {vs : List Value} (h : zsEq vs [z] = true) : ∃ v, vs = [v] ∧ zEq v z = true := by
  cases vs with
  | nil => simp [zsEq] at h
  | cons v vs =>
    cases vs with
    | nil => simp only [zsEq, Bool.and_eq_true, and_true] at h; exact ⟨v, rfl, h⟩
    | cons _ _ => simp [zsEq] at h

theorem zero_rep {w : World} {S : Nat → Prop} : ∀ {t : Ty} {vs : List Value}, zsEq vs (zTy t) = true → RepT w S t t.dflt vs
  | .int k, vs, h => by
    obtain ⟨v, rfl, h'⟩ := zero_one h
    have := zEq_rep (w := w) (S := S) (γ := fun _ => ⟨none, 0⟩) (m := fun _ => none) h'
    simp only [Z.av, RepA] at this; subst this; rfl
  | .bool, vs, h => by
    obtain ⟨v, rfl, h'⟩ := zero_one h
    have := zEq_rep (w := w) (S := S) (γ := fun _ => ⟨none, 0⟩) (m := fun _ => none) h'
    simp only [Z.av, RepA] at this; subst this; rfl
  | .str, vs, h => by
    obtain ⟨v, rfl, h'⟩ := zero_one h
    have := zEq_rep (w := w) (S := S) (γ := fun _ => ⟨none, 0⟩) (m := fun _ => none) h'
    simp only [Z.av, RepA] at this; subst this; rfl
  | .unit, vs, h => by
    cases vs with
    | nil => rfl
    | cons _ _ => simp [zTy, zsEq] at h
  | .pair a b, vs, h => by
    obtain ⟨c, d, rfl, h1, h2⟩ := zsEq_append h
    exact ⟨c, d, rfl, zero_rep h1, zero_rep h2⟩
  | .list t, vs, h => by
    obtain ⟨v, rfl, h'⟩ := zero_one h
    have := zEq_rep (w := w) (S := S) (γ := fun _ => ⟨none, 0⟩) (m := fun _ => none) h'
    simp only [Z.av, RepA] at this; subst this
    exact ⟨none, 0, rfl, Nat.le_refl _, fun _ => rfl, fun a e => (by cases e), fun i x e => (by simp [getq, Ty.dflt] at e)⟩

/-- the check of one row on a type -/
def tiOk (P : Program) (t : TypeId) (ti : TI) : Bool :=
  match P.underlying t, P.info? t with
  | some d, some i =>
    TD.eq (tdOf d) ti.d && (Nat.beq i.size ti.size && (Nat.beq i.bytes ti.bytes && ((match i.zero with | some z => zsEq z.cells.toList ti.zero && (Nat.beq z.cells.size ti.size) | none => false) &&
      ((match ti.ty with | some y => Nat.beq y.size ti.size && (Nat.blt 0 ti.size && (tyD y ti.d && zzsEq ti.zero (zTy y))) | none => true) && (ti.d.agg || Nat.beq ti.size 1)))))
  | _, _ => false

structure TIok (P : Program) (t : TypeId) (ti : TI) : Prop where
  und : ∃ d, P.underlying t = some d ∧ tdOf d = ti.d
  inf : ∃ i z, P.info? t = some i ∧ i.size = ti.size ∧ i.bytes = ti.bytes ∧ i.zero = some z ∧ zsEq z.cells.toList ti.zero = true ∧ z.cells.size = ti.size
  ty : ∀ y, ti.ty = some y → y.size = ti.size ∧ 0 < ti.size ∧ tyD y ti.d = true ∧ ti.zero = zTy y
  one : ti.d.agg = false → ti.size = 1

theorem tiOk_spec {P : Program} {t : TypeId} {ti : TI} (h : tiOk P t ti = true) : TIok P t ti := by
  unfold tiOk at h
  split at h
  · rename_i d i hd hi
    simp only [Bool.and_eq_true, Nat.beq_eq, Bool.or_eq_true] at h
    obtain ⟨h1, h2, h3, h4, h5, h6⟩ := h
    refine ⟨⟨d, hd, TD.eq_spec h1⟩, ?_, ?_, ?_⟩
    · cases hz : i.zero with
      | none => rw [hz] at h4; simp at h4
      | some z =>
        rw [hz] at h4
        simp only [Bool.and_eq_true, Nat.beq_eq] at h4
        exact ⟨i, z, hi, h2, h3, hz, h4.1, h4.2⟩
    · intro y hy
      rw [hy] at h5
      simp only [Bool.and_eq_true, Nat.beq_eq, Nat.blt_eq] at h5
      exact ⟨h5.1, h5.2.1, h5.2.2.1, zzsEq_spec h5.2.2.2⟩
    · intro hf
      rcases h6 with h6 | h6
      · rw [hf] at h6; cases h6
      · exact h6
  · simp at h

end Go.Dv
