/- append. -/
import Derived.Test.YtmffojmbfphidaaDoorDvW
set_option linter.all false
namespace Go.Dv
open Go.RowKit

variable [LTab]

variable {R : Type}

/-- a slice as it is read now: its elements' own parts are written no more -/
def RepSee (w : World) (S : Nat → Prop) (t : Ty) (xs : List t.T) (x : Value) : Prop :=
  ∃ ao cap, x = .slice ao xs.length cap ∧ xs.length ≤ cap ∧ (ao = none → cap = 0) ∧ (∀ a, ao = some a → a.spot = none) ∧
    ∀ i (y : t.T), getq xs i = some y → ∃ a c, ao = some a ∧ RepT w S t y c ∧ CellsAt w a.block (a.off + i * t.size) c

theorem RepSee.of {w : World} {S : Nat → Prop} {t : Ty} {xs : List t.T} {x : Value} (h : RepT w S (.list t) xs [x]) : RepSee w S t xs x := by
  obtain ⟨ao, cap, k1, k2, k3, k4, k5⟩ := h
  simp only [List.cons.injEq, and_true] at k1
  refine ⟨ao, cap, k1, k2, k3, k4, fun i y hy => ?_⟩
  obtain ⟨a, c, h1, _, h2, h3⟩ := k5 i y hy
  exact ⟨a, c, h1, h2, h3⟩

theorem RowRel.see {w : World} {S : Nat → Prop} {l : Loc} {t : Ty} {xs : List t.T} {s : Stat} (h : RowRel w S l t xs s) : RepSee w S t xs (.slice l.a xs.length l.cap) := by
  refine ⟨l.a, l.cap, rfl, h.len, h.nil, fun a e => ?_, fun i x e => ?_⟩
  · obtain ⟨b, arr, el, fz, e1, _⟩ := h.row a e
    subst e1; rfl
  · cases ha : l.a with
    | none =>
      have h1 := h.nil ha
      have h2 := h.len
      have := getq_mem e
      omega
    | some a =>
      obtain ⟨b, arr, el, fz, e1, e2, e3, e4, e5, e6⟩ := h.row a ha
      obtain ⟨c, k1, k2⟩ := e5 i x e
      refine ⟨a, c, rfl, k1, ?_⟩
      subst e1
      intro j u hj
      rw [cell_of_row w b _ _ _ _ e2]
      have := k2 j u hj
      simpa using this

theorem seeList_see {w : World} {S : Nat → Prop} {γ : Nat → Loc} {m : Nat → Option MO} {base : Nat → Prop} (hm : MemRel w S γ m base) {t : Ty} {v : AV} {x : Value} {xs : List t.T} (h : seeList m t v = some xs) (hv : RepA w S γ m v x) : RepSee w S t xs x := by
  unfold seeList at h
  split at h
  · obtain ⟨e, rfl⟩ := castL_some h
    subst e; exact .of hv
  · obtain ⟨e, rfl⟩ := castL_some h
    subst e; exact .of hv.2
  · cases h
    simp only [RepA] at hv; subst hv
    exact .of rep_nils
  · rename_i n
    obtain ⟨t0, xs0, s0, k1, k2⟩ := hv
    have fin : ∀ {s : Stat}, s ≠ .dead → m n = some (.sl t0 xs0 s) → RepSee w S t0 xs0 x := by
      intro s hs hn
      have hob : ObjRel w S γ m n (.sl t0 xs0 s) := hm.obj n _ hn
      have hob : RowRel w S (γ n) t0 xs0 s := by cases s <;> first | exact hob | exact absurd rfl hs
      rw [k2]
      exact hob.see
    split at h
    · rename_i t' xs' hn
      obtain ⟨e, rfl⟩ := castL_some h
      rw [k1] at hn; cases hn
      subst e
      exact fin (by simp) k1
    · rename_i t' xs' hn
      obtain ⟨e, rfl⟩ := castL_some h
      rw [k1] at hn; cases hn
      subst e
      exact fin (by simp) k1
    · cases h
  · cases h

/-- what is appended -/
structure Src (P : Program) (w : World) (S : Nat → Prop) (t : Ty) (ys : List t.T) (x : Value) (news : List Value) : Prop where
  len : news.length = ys.length * t.size
  lenOf : ∀ w', (Builtin.lenOf x).run P w' = .ok ys.length w'
  cells : ∀ w', (∀ a, w'.cell? a = w.cell? a) → (Builtin.firstCells t.size ys.length x).run P w' = .ok news.toArray w'
  rows : Rows w S t news ys
  one : ∀ u ∈ news, u.oneCell' = true

theorem RepT.one {w : World} {S : Nat → Prop} {t : Ty} {x : t.T} {c : List Value} (h : RepT w S t x c) : ∀ u ∈ c, u.oneCell' = true :=
  all_one_cell (γ := fun _ => ⟨none, 0⟩) (m := fun _ => none) (allOne_enc t x) h.enc

theorem src_see {P : Program} {w : World} {S : Nat → Prop} {t : Ty} {ys : List t.T} {x : Value} (ht : 0 < t.size) (h : RepSee w S t ys x) : ∃ news, Src P w S t ys x news := by
  obtain ⟨ao, cap, rfl, k2, k3, k4, k5⟩ := h
  cases ao with
  | none =>
    have hys : ys = [] := List.eq_nil_of_length_eq_zero (by have := k3 rfl; omega)
    subst hys
    refine ⟨[], by simp, fun w' => by simp [Builtin.lenOf], fun w' _ => by simp [Builtin.firstCells], fun i y hy => by simp [getq] at hy, by simp⟩
  | some a =>
    have ha := addr_eta (k4 a rfl)
    have hcell : ∀ q, q < ys.length * t.size → ∃ u, w.cell? ⟨a.block, a.off + q, none⟩ = some u ∧ u.oneCell' = true := by
      intro q hq
      have hi : q / t.size < ys.length := by rw [Nat.div_lt_iff_lt_mul ht]; exact hq
      have hj : q % t.size < t.size := Nat.mod_lt _ ht
      obtain ⟨a', c, e1, e2, e3⟩ := k5 (q / t.size) ys[q / t.size] (by simp [getq, hi])
      cases e1
      have hcl := e2.length
      have hjc : q % t.size < c.length := by omega
      refine ⟨c[q % t.size], ?_, e2.one _ (List.getElem_mem hjc)⟩
      have := e3 (q % t.size) c[q % t.size] (List.getElem?_eq_getElem hjc)
      rw [← this]
      congr 2
      have := Nat.div_add_mod q t.size
      rw [Nat.mul_comm] at this
      omega
    refine ⟨(List.range (ys.length * t.size)).map fun q => (w.cell? ⟨a.block, a.off + q, none⟩).getD undef, by simp, fun w' => by simp [Builtin.lenOf], ?_, ?_, ?_⟩
    · intro w' hw'
      refine run_firstCells_some w' t.size ys.length a _ cap _ (by simp) fun j v hj => ?_
      have hjl := (List.getElem?_eq_some_iff.1 hj).1
      simp only [List.length_map, List.length_range] at hjl
      obtain ⟨u, hu, _⟩ := hcell j hjl
      have hj' : some u = some v := by rw [← hj]; simp [hjl, hu]
      rw [ha, add_none, hw', hu]
      exact hj'
    · intro i y hy
      obtain ⟨a', c, e1, e2, e3⟩ := k5 i y hy
      cases e1
      refine ⟨c, e2, fun j u hj => ?_⟩
      have hjl := (List.getElem?_eq_some_iff.1 hj).1
      have hcl := e2.length
      have hle := mul_step (s := t.size) (getq_mem hy)
      have := e3 j u hj
      have hlt : i * t.size + j < ys.length * t.size := by omega
      rw [Nat.add_assoc] at this
      simp [hlt, this]
    · intro u hu
      simp only [List.mem_map, List.mem_range] at hu
      obtain ⟨q, hq, rfl⟩ := hu
      obtain ⟨u, h1, h2⟩ := hcell q hq
      rw [h1]; exact h2

theorem src_str {P : Program} {w : World} {S : Nat → Prop} (s : List UInt8) : Src P w S (.int .u8) (bytesI s) (.string ⟨s.toArray⟩) (s.map fun b => Value.int .u8 b.toNat) := by
  have hl : (bytesI s).length = s.length := by simp [bytesI]
  refine ⟨?_, fun w' => ?_, fun w' _ => ?_, ?_, by simp [Value.oneCell']⟩
  · exact (by rw [hl]; simp : (s.map fun b => Value.int .u8 b.toNat).length = (bytesI s).length * 1)
  · exact (by rw [hl]; simp [Builtin.lenOf, ByteArray.size] : (Builtin.lenOf (.string ⟨s.toArray⟩)).run P w' = .ok (bytesI s).length w')
  · have : (Builtin.firstCells 1 s.length (.string ⟨s.toArray⟩)).run P w' = .ok (s.map fun b => Value.int .u8 b.toNat).toArray w' := by
      simp [Builtin.firstCells]
    rw [← hl] at this
    exact this
  · intro i y hy
    have hy' : (bytesI s)[i]? = some y := hy
    unfold bytesI at hy'
    rw [List.getElem?_map] at hy'
    cases hs : s[i]? with
    | none => rw [hs] at hy'; cases hy'
    | some b =>
      rw [hs] at hy'
      have hy' : (b.toNat : Int) = y := Option.some.inj hy'
      subst hy'
      refine ⟨[.int .u8 (b.toNat : Int)], rfl, fun j u hj => ?_⟩
      cases j with
      | succ j => simp at hj
      | zero =>
        simp only [List.getElem?_cons_zero] at hj
        simp [Ty.size, hs]
        exact Option.some.inj hj

theorem Rows.app {w : World} {S : Nat → Prop} {t : Ty} {A B Z : List Value} {xs ys : List t.T} (hA : Rows w S t A xs) (hl : A.length = xs.length * t.size) (hB : Rows w S t B ys) (hlB : B.length = ys.length * t.size) : Rows w S t (A ++ B ++ Z) (xs ++ ys) := by
  intro i y hy
  have hy' : (xs ++ ys)[i]? = some y := hy
  by_cases hi : i < xs.length
  · rw [List.getElem?_append_left hi] at hy'
    obtain ⟨c, c1, c2⟩ := hA i y hy'
    have := mul_step (s := t.size) hi
    have hcl := c1.length
    refine ⟨c, c1, fun j u hj => ?_⟩
    have hjl := (List.getElem?_eq_some_iff.1 hj).1
    rw [List.append_assoc, List.getElem?_append_left (by omega)]
    exact c2 j u hj
  · rw [List.getElem?_append_right (by omega)] at hy'
    obtain ⟨c, c1, c2⟩ := hB (i - xs.length) y hy'
    have hcl := c1.length
    have hlt : i - xs.length < ys.length := (List.getElem?_eq_some_iff.1 hy').1
    have hm := mul_step (s := t.size) hlt
    refine ⟨c, c1, fun j u hj => ?_⟩
    have hjl := (List.getElem?_eq_some_iff.1 hj).1
    have e : i * t.size = xs.length * t.size + (i - xs.length) * t.size := by rw [← Nat.add_mul]; congr 1; omega
    rw [List.append_assoc, List.getElem?_append_right (by omega), List.getElem?_append_left (by omega)]
    have := c2 j u hj
    rw [← this]; congr 1; omega

theorem Rows.mono {w w' : World} {S : Nat → Prop} {t : Ty} {A : List Value} {xs : List t.T} (h : Rows w S t A xs) (hw : ∀ b, S b → w'.heap[b]? = w.heap[b]?) : Rows w' S t A xs := by
  intro i y hy
  obtain ⟨c, c1, c2⟩ := h i y hy
  exact ⟨c, RepT.mono hw (fun _ h => h) t y c c1, c2⟩

section runs
variable {P : Program} (w : World) {t u e : TypeId} {ty : TypeId} {i : TypeInfo} {z : Value} {du : TypeDesc} (ht : P.underlying t = some (.slice e)) (hu : P.underlying u = some du) (hdu : (∃ e', du = .slice e') ∨ du = .string) (hi : P.info? e = some i) (hz : i.zero = some z)
include ht hu hdu hi

theorem run_append_room' {g sLen sCap n : Nat} {cur : Array Value} {el : TypeId} {fz : Nat × Nat} (hg : w.heap[g]? = some (.cells cur el fz)) (hfz : fzW cur.size fz) {x : Value} {news : List Value}
    (hlen : (Builtin.lenOf x).run P w = .ok n w) (hcells : (Builtin.firstCells i.size n x).run P w = .ok news.toArray w) (h1 : ∀ u ∈ news, u.oneCell' = true) (hroom : sLen + n ≤ sCap) (hfit : sLen * i.size + news.length ≤ cur.size) :
    (Builtin.append_ #[t, u] ty #[.slice (some ⟨g, 0, none⟩) sLen sCap, x]).run P w =
      .ok (.slice (some ⟨g, 0, none⟩) (sLen + n) sCap) (w.setRow g (cur.toList.take (sLen * i.size) ++ news ++ cur.toList.drop (sLen * i.size + news.length)).toArray) := by
  have hst := run_storeCells_fz P g (sLen * i.size) el fz news 0 cur w hg hfz (by simpa using hfit) h1
  simp only [Nat.add_zero] at hst
  rcases hdu with ⟨e', rfl⟩ | rfl <;> simp [Builtin.append_, run_underlying ht, run_underlying hu, sizeOf, typeInfo, hi, hlen, hroom, hcells, Addr.add_lit, hst]

include hz in
theorem run_append_grow' {ao : Option Addr} {sLen sCap n : Nat} {x : Value} {olds news : List Value}
    (hlen : (Builtin.lenOf x).run P w = .ok n w) (hcells : (Builtin.firstCells i.size n x).run P w.drew = .ok news.toArray w.drew) (holds : (Builtin.firstCells i.size sLen (.slice ao sLen sCap)).run P w.drew = .ok olds.toArray w.drew)
    (hg : sCap < sLen + n) (h63 : ((sLen + n : Nat) : Int) ≤ 9223372036854775807) (hfit : Builtin.nextslicecap (sLen + n) sCap * i.bytes ≤ 281474976710656) :
    (Builtin.append_ #[t, u] ty #[.slice ao sLen sCap, x]).run P w =
      .ok (.slice (some ⟨w.heap.size, 0, none⟩) (sLen + n) (grownCap w (sLen + n) sCap e))
        (w.drew.alloc (.cells (olds.toArray ++ news.toArray ++ Builtin.zeroCells z.cells (grownCap w (sLen + n) sCap e - (sLen + n))) e)) := by
  have hn : ¬ (sLen + n ≤ sCap) := by omega
  have h63' : ¬ (9223372036854775807 < ((sLen : Int) + (n : Int))) := by omega
  have h48' : ¬ (281474976710656 < Builtin.nextslicecap (sLen + n) sCap * i.bytes) := by omega
  rcases hdu with ⟨e', rfl⟩ | rfl <;>
  · simp [Builtin.append_, run_underlying ht, run_underlying hu, sizeOf, typeInfo, zeroValue, hi, hz, hlen, hn, h63', h48', Question.forced, hcells, holds, newRow, grownCap]
    congr 2
    apply Array.ext'
    simp [List.append_assoc]
end runs

/-! ## the evaluator's append -/
def appSrc (E : Env) (m : Nat → Option MO) (t : Ty) (u : TypeId) (b : AV) : Option (List t.T) :=
  match E.ty u with
  | some ui => match ui.d with
    | .str => match b with
      | .str s => castL (.int .u8) t (bytesI s)
      | _ => none
    | .slice _ => seeList m t b
    | _ => none
  | none => none

/-- may a slice have so many elements of so many bytes? -/
def fits (n bytes : Nat) : Bool := decide (n < maxB) && decide (n * bytes < maxB)

def appA (E : Env) (m : Nat → Option MO) (d : Nat) (t u : TypeId) (a b : AV) (K : AV → (Nat → Option MO) → Option R) : Option R :=
  match elemTy E t with
  | none => none
  | some (_, ei, ty) =>
    match appSrc E m ty u b with
    | none => none
    | some ys =>
      match m d with
      | some _ => none
      | none =>
        match a with
        | .nils => gd (fits ys.length ei.bytes) (K (.own d) (mupd m d (.sl ty ys .live)))
        | .own n => match m n with
          | some (.sl t' xs .live) => match castL t' ty xs with
            | some xs => gd (fits (xs.length + ys.length) ei.bytes) (K (.own d) (mupd (mupd m n (.sl ty xs .dead)) d (.sl ty (xs ++ ys) .live)))
            | none => none
          | _ => none
        | .clip t' xs => match castL t' ty xs with
          | some xs => gd (Nat.blt 0 ys.length && fits (xs.length + ys.length) ei.bytes) (K (.own d) (mupd m d (.sl ty (xs ++ ys) .live)))
          | none => none
        | _ => none

theorem appSrc_ok {P : Program} {E : Env} (hE : ∀ t ti, E.ty t = some ti → TIok P t ti) {w : World} {S : Nat → Prop} {γ : Nat → Loc} {m : Nat → Option MO} {base : Nat → Prop} (hm : MemRel w S γ m base) {t : Ty} (ht : 0 < t.size) {u : TypeId} {b : AV} {x : Value} {ys : List t.T}
    (h : appSrc E m t u b = some ys) (hb : RepA w S γ m b x) : (∃ du, P.underlying u = some du ∧ ((∃ e', du = .slice e') ∨ du = .string)) ∧ ∃ news, Src P w S t ys x news := by
  unfold appSrc at h
  split at h
  · rename_i ui hui
    obtain ⟨d, hd1, hd2⟩ := (hE u _ hui).und
    split at h
    · rename_i hd
      rw [hd] at hd2
      have := tdOf_str hd2; subst this
      split at h
      · rename_i s
        obtain ⟨e, rfl⟩ := castL_some h
        subst e
        simp only [RepA] at hb; subst hb
        exact ⟨⟨_, hd1, .inr rfl⟩, _, src_str s⟩
      · cases h
    · rename_i e hd
      rw [hd] at hd2
      have := tdOf_slice hd2; subst this
      exact ⟨⟨_, hd1, .inl ⟨_, rfl⟩⟩, src_see ht (seeList_see hm h hb)⟩
    · cases h
  · cases h

theorem MemRel.kill {w : World} {S : Nat → Prop} {γ : Nat → Loc} {m : Nat → Option MO} {base : Nat → Prop} {n : Nat} {t : Ty} {xs : List t.T} (h : MemRel w S γ m base) (hn : m n = some (.sl t xs .live)) : MemRel w S γ (mupd m n (.sl t xs .dead)) base := by
  have hk : Keeps m γ (mupd m n (.sl t xs .dead)) γ := keeps_write hn rfl
  have get : ∀ {k : Nat} {q : MO}, mupd m n (.sl t xs .dead) k = some q → q.live = true → m k = some q := by
    intro k q hq hl
    by_cases e : k = n
    · subst e; rw [mupd_same] at hq; cases hq; simp [MO.live] at hl
    · rwa [mupd_ne _ _ e] at hq
  refine ⟨fun k q hq => ?_, h.low, fun k k' q q' c hq hq' hl hl' hne hc hc' => h.apart k k' q q' c (get hq hl) (get hq' hl') hl hl' hne hc hc', fun k q c hq hl hc => h.high k q c (get hq hl) hl hc⟩
  by_cases e : k = n
  · subst e; rw [mupd_same] at hq; cases hq; trivial
  · rw [mupd_ne _ _ e] at hq
    exact ObjRel.grow (h.obj k q hq) h.low (Below.refl _ _) hk rfl

theorem MemRel.addAt {w w' : World} {S : Nat → Prop} {γ : Nat → Loc} {m : Nat → Option MO} {base : Nat → Prop} {d g : Nat} {ob : MO} {l : Loc} (h : MemRel w S γ m base) (hW : Wrote g w w') (hfree : ∀ k q, m k = some q → q.live = true → (γ k).blk ≠ some g)
    (hstill : ∀ k q, m k = some q → ObjRel w' S γ m k q) (hbase : ¬ base g) (hd : m d = none) (hl : l.blk = some g) (ho : ObjRel w' S (gupd γ d l) (mupd m d ob) d ob) : MemRel w' S (gupd γ d l) (mupd m d ob) base := by
  refine ⟨fun k q hq => ?_, fun b hb => by rw [hW.size]; exact h.low b hb, ?_, ?_⟩
  · by_cases e : k = d
    · subst e; rw [mupd_same] at hq; cases hq; exact ho
    · rw [mupd_ne _ _ e] at hq
      exact ObjRel.grow (hstill k q hq) (fun b hb => by rw [hW.size]; exact h.low b hb) (Below.refl _ _) (Keeps.new hd) (gupd_ne _ _ e)
  · intro k k' q q' c hq hq' hlq hlq' hne hc hc'
    by_cases e : k = d
    · subst e
      have e' : k' ≠ k := fun e => hne e.symm
      rw [gupd_same] at hc; rw [mupd_ne _ _ e'] at hq'; rw [gupd_ne _ _ e'] at hc'
      rw [hl] at hc; cases hc
      exact hfree k' q' hq' hlq' hc'
    · by_cases e' : k' = d
      · subst e'
        rw [gupd_same] at hc'; rw [mupd_ne _ _ e] at hq; rw [gupd_ne _ _ e] at hc
        rw [hl] at hc'; cases hc'
        exact hfree k q hq hlq hc
      · rw [mupd_ne _ _ e] at hq; rw [gupd_ne _ _ e] at hc; rw [mupd_ne _ _ e'] at hq'; rw [gupd_ne _ _ e'] at hc'
        exact h.apart k k' q q' c hq hq' hlq hlq' hne hc hc'
  · intro k q c hq hlq hc
    by_cases e : k = d
    · subst e; rw [gupd_same, hl] at hc; cases hc; exact hbase
    · rw [mupd_ne _ _ e] at hq; rw [gupd_ne _ _ e] at hc; exact h.high k q c hq hlq hc

/-- what is no live object's block is not theirs -/
theorem ObjRel.other {w w' : World} {S : Nat → Prop} {γ : Nat → Loc} {m : Nat → Option MO} {g k : Nat} {q : MO} (h : ObjRel w S γ m k q) (hW : Wrote g w w') (hS : ¬ S g) (hne : q.live = true → (γ k).blk ≠ some g) : ObjRel w' S γ m k q :=
  ObjRel.later h (fun c hc => hW.block c (fun e => hS (e ▸ hc))) (fun _ h => h) (Keeps.refl _ _) rfl fun hlq c hc => ⟨hW.block c (fun e => hne hlq (e ▸ hc)), (ObjRel.notS h hlq hc).1⟩

theorem castL_self_eq {t' t : Ty} {xs : List t'.T} {ys : List t.T} (h : castL t' t xs = some ys) {s : Stat} : MO.sl t' xs s = MO.sl t ys s := by
  obtain ⟨e, rfl⟩ := castL_some h
  subst e; rfl

theorem zero_cells_nil {z : Value} {n : Nat} (h : n = 0) : Builtin.zeroCells z.cells n = #[] := by subst h; simp [Builtin.zeroCells, Array.range_zero']

/-- the growth of a row: a new one -/
theorem grow_ok {P : Program} {E : Env} (hE : ∀ t ti, E.ty t = some ti → TIok P t ti) {w : World} {S : Nat → Prop} {γ : Nat → Loc} {m : Nat → Option MO} {base : Nat → Prop} (hm : MemRel w S γ m base) (hbw : ∀ k, base k → k < w.heap.size) {t u e : TypeId} {ei : TI} {ty : Ty} {du : TypeDesc}
    (e1 : P.underlying t = some (.slice e)) (e2 : E.ty e = some ei) (e3 : ei.ty = some ty) (hu : P.underlying u = some du) (hdu : (∃ e', du = .slice e') ∨ du = .string) {d : Nat} (hd : m d = none) {ao : Option Addr} {cap : Nat} {x : Value} {xs ys : List ty.T} {news olds : List Value}
    (hsrc : Src P w S ty ys x news) (holds : (Builtin.firstCells ty.size xs.length (.slice ao xs.length cap)).run P w.drew = .ok olds.toArray w.drew) (hol : olds.length = xs.length * ty.size) (hor : Rows w S ty olds xs) (hg : cap < xs.length + ys.length)
    (hfit : fits (xs.length + ys.length) ei.bytes = true) {rt : TypeId} :
    WOk (fun n => n = d) base w S γ m (((Builtin.append_ #[t, u] rt #[.slice ao xs.length cap, x]).run P w).andThen fun v w' => .ok (.value v) w') (some (.own d)) (mupd m d (.sl ty (xs ++ ys) .live)) := by
  obtain ⟨i, z, z1, z2, z3, z4, z5, z6⟩ := (hE e _ e2).inf
  obtain ⟨y1, y2, y3, y4⟩ := (hE e _ e2).ty _ e3
  simp only [fits, Bool.and_eq_true, decide_eq_true_eq] at hfit
  obtain ⟨f1, f2⟩ := hfit
  have hsz : i.size = ty.size := by omega
  have hrun := run_append_grow' (P := P) w (ty := rt) e1 hu hdu z1 z4 (ao := ao) (sLen := xs.length) (sCap := cap) (n := ys.length) (x := x) (olds := olds) (news := news) (hsrc.lenOf w) (by rw [hsz]; exact hsrc.cells w.drew (fun _ => rfl)) (by rw [hsz]; exact holds) hg
    (by unfold maxB at f1; omega) (growslice_fits hg (by rw [z3]; unfold maxB at f2; omega))
  have hge := grownCap_ge w (xs.length + ys.length) cap e
  have hle := grownCap_le_maxLen w (xs.length + ys.length) cap e (by unfold maxLen; unfold maxB at f1; omega)
  have hbel : Below w.heap.size w (w.drew.alloc (.cells (olds.toArray ++ news.toArray ++ Builtin.zeroCells z.cells (grownCap w (xs.length + ys.length) cap e - (xs.length + ys.length))) e)) :=
    (Below.refl _ _).drew.alloc (Nat.le_refl _) _
  have hheap := heap_alloc_new w.drew (.cells (olds.toArray ++ news.toArray ++ Builtin.zeroCells z.cells (grownCap w (xs.length + ys.length) cap e - (xs.length + ys.length))) e)
  refine ⟨_, gupd γ d ⟨some ⟨w.heap.size, 0, none⟩, grownCap w (xs.length + ys.length) cap e⟩, _, by rw [hrun]; rfl, Below.bel hbel hbw, dom_new, ?_, Keeps.new hd, fun b hb => hbel.block b (hm.low b hb), _, rfl, ?_⟩
  · refine hm.add hbel hd ?_ hbw ?_
    · show RowRel _ S (gupd γ d _ d) ty (xs ++ ys) .live
      rw [gupd_same]
      refine ⟨by simpa using hge, hle, fun e => (by cases e), fun a ea => ?_⟩
      cases ea
      refine ⟨w.heap.size, _, e, (0, 0), rfl, hheap, ?_, fun i _ hi => by simp at hi, ?_, fun _ hs => ?_, fun e => (by cases e)⟩
      · simp only [Array.size_append, List.size_toArray, size_zeroCells, hol, hsrc.len, z6, ← y1, ← Nat.add_mul]
        congr 1
        omega
      · have hr := Rows.app hor hol hsrc.rows hsrc.len (Z := (Builtin.zeroCells z.cells (grownCap w (xs.length + ys.length) cap e - (xs.length + ys.length))).toList)
        have hr := hr.mono (w' := w.drew.alloc (.cells (olds.toArray ++ news.toArray ++ Builtin.zeroCells z.cells (grownCap w (xs.length + ys.length) cap e - (xs.length + ys.length))) e)) fun b hb => hbel.block b (hm.low b hb)
        intro k y hy
        obtain ⟨c, c1, c2⟩ := hr k y hy
        refine ⟨c, c1, fun j u hj => ?_⟩
        rw [← Array.getElem?_toList, Array.toList_append, Array.toList_append, List.toList_toArray, List.toList_toArray]
        exact c2 j u hj
      · have := hm.low _ hs; omega
    · intro b hb
      simp [Loc.blk] at hb
      omega
  · exact ⟨ty, xs ++ ys, .live, mupd_same _ _ _, by rw [gupd_same]; simp⟩

theorem app_ok {P : Program} {E : Env} (hE : ∀ t ti, E.ty t = some ti → TIok P t ti) {w : World} {S : Nat → Prop} {γ : Nat → Loc} {m : Nat → Option MO} {base : Nat → Prop} (hm : MemRel w S γ m base) (hbw : ∀ k, base k → k < w.heap.size) {ev : Operand → AV} {el : Operand → Value} (hev : ∀ x, RepA w S γ m (ev x) (el x))
    {o : Oper} {a b : Operand} {t u : TypeId} (ho : o.op = .call ⟨.builtin .append, #[a, b], #[t, u]⟩) {d : Nat} {K : AV → (Nat → Option MO) → Option R} {r : R} (h : appA E m d t u (ev a) (ev b) K = some r) :
    ∃ v m', K v m' = some r ∧ WOk (fun n => n = d) base w S γ m ((execOp el o).run P w) (some v) m' := by
  unfold appA at h
  have ha := hev a
  have hb := hev b
  split at h
  · cases h
  · rename_i e ei ty he
    obtain ⟨e1, e2, e3⟩ := elemTy_some hE he
    obtain ⟨i, z, z1, z2, z3, z4, z5, z6⟩ := (hE e _ e2).inf
    obtain ⟨y1, y2, y3, y4⟩ := (hE e _ e2).ty _ e3
    have hsz : i.size = ty.size := by omega
    split at h
    · cases h
    · rename_i ys hys
      obtain ⟨⟨du, hu, hdu⟩, news, hsrc⟩ := appSrc_ok (P := P) hE hm (by omega) hys hb
      split at h
      · cases h
      · rename_i hd
        have hexec : ∀ v, el a = v → (execOp el o).run P w = ((Builtin.append_ #[t, u] o.type #[v, el b]).run P w).andThen fun v w' => .ok (.value v) w' := by
          intro v hv
          simp [execOp, ho, resolve, invoke, builtin, hv]
        split at h
        · -- nil
          rename_i hea
          rw [hea] at ha; simp only [RepA] at ha
          obtain ⟨hfit, h⟩ := gd_some h
          refine ⟨_, _, h, ?_⟩
          rw [hexec _ ha]
          by_cases hn : ys.length = 0
          · have : ys = [] := List.eq_nil_of_length_eq_zero hn
            subst this
            have hl := hsrc.lenOf w
            have hc := hsrc.cells w (fun _ => rfl)
            have hnews : news = [] := List.eq_nil_of_length_eq_zero (by have := hsrc.len; simpa using this)
            subst hnews
            have hrun : (Builtin.append_ #[t, u] o.type #[.slice none 0 0, el b]).run P w = .ok (.slice none 0 0) w := by
              have hl' : (Builtin.lenOf (el b)).run P w = .ok 0 w := hl
              have hc' : (Builtin.firstCells i.size 0 (el b)).run P w = .ok #[] w := by rw [hsz]; exact hc
              rcases hdu with ⟨e', rfl⟩ | rfl <;> simp [Builtin.append_, run_underlying e1, run_underlying hu, sizeOf, typeInfo, z1, hl', hc']
            refine ⟨w, gupd γ d ⟨none, 0⟩, _, by rw [hrun]; rfl, Bel.refl _ _, dom_new, ?_, Keeps.new hd, fun _ _ => rfl, _, rfl, ⟨ty, [], .live, mupd_same _ _ _, by rw [gupd_same]; rfl⟩⟩
            refine hm.add (Below.refl _ _) hd ?_ hbw (fun b hb => by simp [Loc.blk] at hb)
            show RowRel w S (gupd γ d _ d) ty [] .live
            rw [gupd_same]
            exact ⟨Nat.le_refl _, Nat.zero_le _, fun _ => rfl, fun a e => (by cases e)⟩
          · have := grow_ok (P := P) hE hm hbw e1 e2 e3 hu hdu hd (ao := none) (cap := 0) (xs := []) (olds := []) hsrc (by simp [Builtin.firstCells]) (by simp) (fun i y hy => by simp [getq] at hy) (by simp; omega) (by simpa using hfit) (rt := o.type)
            simpa using this
        · -- the call's own
          rename_i n hea
          rw [hea] at ha
          split at h
          · rename_i t' xs' hmn
            split at h
            · rename_i xs hxs
              rw [castL_self_eq hxs] at hmn
              obtain ⟨hfit, h⟩ := gd_some h
              obtain ⟨t0, xs0, s0, k1, k2⟩ := ha
              rw [hmn] at k1; cases k1
              have hob : RowRel w S (γ n) ty xs .live := hm.obj n _ hmn
              refine ⟨_, _, h, ?_⟩
              rw [hexec _ k2]
              have hkill := hm.kill hmn
              have hkk : Keeps m γ (mupd m n (.sl ty xs .dead)) γ := keeps_write hmn rfl
              have hnd : d ≠ n := fun e => by rw [e, hmn] at hd; cases hd
              have hd' : mupd m n (.sl ty xs .dead) d = none := by rw [mupd_ne _ _ hnd]; exact hd
              have fin : ∀ {run : Result Next} {v : AV} {m' : Nat → Option MO}, WOk (fun n => n = d) base w S γ (mupd m n (.sl ty xs .dead)) run (some v) m' → WOk (fun n => n = d) base w S γ m run (some v) m' := by
                rintro run v m' ⟨w', γ', nx, c1, c2, c0, c3, c4, c5, c6⟩
                exact ⟨w', γ', nx, c1, c2, dom_kill hmn c0, c3, hkk.trans c4, c5, c6⟩
              apply fin
              by_cases hroom : xs.length + ys.length ≤ (γ n).cap
              · cases hla : (γ n).a with
                | none =>
                  have hcap := hob.nil hla
                  have hx0 : xs = [] := List.eq_nil_of_length_eq_zero (by omega)
                  have hy0 : ys = [] := List.eq_nil_of_length_eq_zero (by omega)
                  subst hx0; subst hy0
                  have hl' : (Builtin.lenOf (el b)).run P w = .ok 0 w := hsrc.lenOf w
                  have hnews : news = [] := List.eq_nil_of_length_eq_zero (by have := hsrc.len; simpa using this)
                  subst hnews
                  have hc' : (Builtin.firstCells i.size 0 (el b)).run P w = .ok #[] w := by rw [hsz]; exact hsrc.cells w (fun _ => rfl)
                  have hrun : (Builtin.append_ #[t, u] o.type #[.slice none 0 (γ n).cap, el b]).run P w = .ok (.slice none 0 0) w := by
                    rw [hcap]
                    rcases hdu with ⟨e', rfl⟩ | rfl <;> simp [Builtin.append_, run_underlying e1, run_underlying hu, sizeOf, typeInfo, z1, hl', hc']
                  refine ⟨w, gupd γ d ⟨none, 0⟩, _, by rw [List.length_nil, hrun]; rfl, Bel.refl _ _, dom_new, ?_, Keeps.new hd', fun _ _ => rfl, _, rfl, ⟨ty, [], .live, mupd_same _ _ _, by rw [gupd_same]; rfl⟩⟩
                  refine hkill.add (Below.refl _ _) hd' ?_ hbw (fun b hb => by simp [Loc.blk] at hb)
                  show RowRel w S (gupd γ d _ d) ty [] .live
                  rw [gupd_same]
                  exact ⟨Nat.le_refl _, Nat.zero_le _, fun _ => rfl, fun a e => (by cases e)⟩
                | some ad =>
                  obtain ⟨g, arr, el', fz, a1, a2, a3, a4, a5, a6, a7⟩ := hob.row _ hla
                  subst a1
                  have hS := a6 rfl
                  have hblk : (γ n).blk = some g := by simp [Loc.blk, hla]
                  have hfitarr : xs.length * ty.size + news.length ≤ arr.size := by rw [hsrc.len, a3, ← Nat.add_mul]; exact Nat.mul_le_mul_right _ hroom
                  have hrun := run_append_room' (P := P) w (ty := o.type) e1 hu hdu z1 (sLen := xs.length) (sCap := (γ n).cap) a2 a4.weak (hsrc.lenOf w) (by rw [hsz]; exact hsrc.cells w (fun _ => rfl)) hsrc.one hroom (by rw [hsz]; exact hfitarr)
                  rw [hsz] at hrun
                  have hW := Wrote.setRow w g (arr.toList.take (xs.length * ty.size) ++ news ++ arr.toList.drop (xs.length * ty.size + news.length)).toArray a2
                  have hlow := hm.high n _ g hmn rfl hblk
                  have hfree : ∀ k q, mupd m n (.sl ty xs .dead) k = some q → q.live = true → (γ k).blk ≠ some g := by
                    intro k q hq hl hbk
                    by_cases e : k = n
                    · subst e; rw [mupd_same] at hq; cases hq; simp [MO.live] at hl
                    · rw [mupd_ne _ _ e] at hq
                      exact hm.apart k n q _ g hq hmn hl rfl e hbk hblk
                  have harr : (arr.toList.take (xs.length * ty.size) ++ news ++ arr.toList.drop (xs.length * ty.size + news.length)).length = arr.size := by simp; omega
                  refine ⟨_, gupd γ d ⟨some ⟨g, 0, none⟩, (γ n).cap⟩, _, by rw [hrun]; rfl, hW.below hlow, dom_new, ?_, Keeps.new hd', fun k hk => hW.block k (fun e => hS (e ▸ hk)), _, rfl, ⟨ty, xs ++ ys, .live, mupd_same _ _ _, by rw [gupd_same]; simp⟩⟩
                  refine hkill.addAt hW hfree (fun k q hq => (hkill.obj k q hq).other hW hS (hfree k q hq)) hlow hd' rfl ?_
                  show RowRel _ S (gupd γ d _ d) ty (xs ++ ys) .live
                  rw [gupd_same]
                  refine ⟨by simpa using hroom, hob.cap, fun e => (by cases e), fun a ea => ?_⟩
                  cases ea
                  refine ⟨g, _, el', fz, rfl, setRow_heap w g _ _ _ _ a2, by rw [← a3]; simpa using harr, ?_, ?_, fun _ => hS, fun e => (by cases e)⟩
                  · have : (arr.toList.take (xs.length * ty.size) ++ news ++ arr.toList.drop (xs.length * ty.size + news.length)).toArray.size = arr.size := by simpa using harr
                    rw [this]; exact a4
                  · have hA : Rows w S ty (arr.toList.take (xs.length * ty.size)) xs := by
                      intro k y hy
                      obtain ⟨c, c1, c2⟩ := a5 k y hy
                      refine ⟨c, c1, fun j u hj => ?_⟩
                      have hjl := (List.getElem?_eq_some_iff.1 hj).1
                      have hcl := c1.length
                      have := mul_step (s := ty.size) (getq_mem hy)
                      rw [List.getElem?_take, if_pos (by omega)]
                      have := c2 j u hj
                      simpa using this
                    have hr := Rows.app hA (by simp; omega) hsrc.rows hsrc.len (Z := arr.toList.drop (xs.length * ty.size + news.length))
                    have hr := hr.mono (w' := w.setRow g (arr.toList.take (xs.length * ty.size) ++ news ++ arr.toList.drop (xs.length * ty.size + news.length)).toArray) fun k hk => hW.block k (fun e => hS (e ▸ hk))
                    intro k y hy
                    obtain ⟨c, c1, c2⟩ := hr k y hy
                    exact ⟨c, c1, fun j u hj => by have := c2 j u hj; simpa using this⟩
              · have hsee := hob.see
                obtain ⟨olds, hso⟩ := src_see (P := P) (by omega) hsee
                exact grow_ok (P := P) hE hkill hbw e1 e2 e3 hu hdu hd' (xs := xs) (olds := olds) hsrc (hso.cells w.drew (fun _ => rfl)) hso.len hso.rows (by omega) hfit (rt := o.type)
            · cases h
          · cases h
        · -- no room behind its end
          rename_i t' xs' hea
          rw [hea] at ha
          split at h
          · rename_i xs hxs
            obtain ⟨hfit, h⟩ := gd_some h
            simp only [Bool.and_eq_true, Nat.blt_eq] at hfit
            obtain ⟨hpos, hfit⟩ := hfit
            obtain ⟨e, rfl⟩ := castL_some hxs
            subst e
            obtain ⟨⟨ao, k1⟩, hrep⟩ := ha
            refine ⟨_, _, h, ?_⟩
            rw [hexec _ k1]
            rw [k1] at hrep
            obtain ⟨olds, hso⟩ := src_see (P := P) (by omega) (RepSee.of hrep)
            exact grow_ok (P := P) hE hm hbw e1 e2 e3 hu hdu hd (olds := olds) hsrc (hso.cells w.drew (fun _ => rfl)) hso.len hso.rows (by omega) hfit (rt := o.type)
          · cases h
        · cases h

end Go.Dv
