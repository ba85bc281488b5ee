/- slices.Insert: its contract, with lent rows. -/
import Derived.Test.YtmffojmbfphidaaDoorDvInsert
import Derived.Test.YtmffojmbfphidaaDoorDvFn
set_option linter.all false
namespace Go.Dv
open Go.RowKit

/-- a list with a part overwritten -/
def putL {α : Type} (o : Nat) (vs L : List α) : List α := L.take o ++ vs ++ L.drop (o + vs.length)

theorem setCells_row (b : Nat) (t : TypeId) (fr : Nat × Nat) : ∀ (vs : List Value) (o : Nat) (w : World) (arr : Array Value), w.heap[b]? = some (.cells arr t fr) → o + vs.length ≤ arr.size →
    w.setCells b o vs = w.setRow b (putL o vs arr.toList).toArray
  | [], o, w, arr, h, hl => by
    have : (putL o ([] : List Value) arr.toList).toArray = arr := by simp [putL]
    rw [this]
    exact (setRow_self w b arr t fr h).symm
  | v :: r, o, w, arr, h, hl => by
    simp only [List.length_cons] at hl
    have h1 := setCell_eq_setRow w b o arr t fr v h
    have ih := setCells_row b t fr r (o + 1) (w.setRow b (arr.setIfInBounds o v)) (arr.setIfInBounds o v) (setRow_heap w b arr _ t fr h) (by simp; omega)
    show (w.setCell ⟨b, o, none⟩ v).setCells b (o + 1) r = _
    rw [h1, ih, setRow_setRow]
    congr 2
    have ho : o < arr.toList.length := by simp; omega
    simp only [putL, Array.toList_setIfInBounds, List.length_cons]
    rw [List.set_eq_take_append_cons_drop, if_pos ho]
    have e1 : (List.take o arr.toList).length = o := by simp; omega
    have a1 : List.take (o + 1) (List.take o arr.toList ++ v :: List.drop (o + 1) arr.toList) = List.take o arr.toList ++ [v] := by
      rw [List.take_append, e1, List.take_of_length_le (by omega)]
      simp
    have a2 : List.drop (o + 1 + r.length) (List.take o arr.toList ++ v :: List.drop (o + 1) arr.toList) = List.drop (o + (r.length + 1)) arr.toList := by
      rw [List.drop_append, e1, List.drop_eq_nil_of_le (by omega), show o + 1 + r.length - o = r.length + 1 by omega]
      simp only [List.nil_append, List.drop_succ_cons, List.drop_drop]
      congr 1; omega
    rw [a1, a2]
    simp [List.append_assoc]

theorem put_in {α : Type} {A R vs : List α} {o : Nat} (h : A.length = o) : putL o vs (A ++ R) = A ++ vs ++ R.drop vs.length := by
  subst h
  simp [putL, List.take_left, List.drop_append]

section
variable [LTab] {w : World} {S : Nat → Prop} {t : Ty} {xs : List t.T} {l : Loc} {s : Stat}

theorem row_cells (h : RowRel w S l t xs s) (hk : 0 < t.size) {a : Addr} (ha : l.a = some a) :
    ∃ b arr el fz, a = ⟨b, 0, none⟩ ∧ w.heap[b]? = some (.cells arr el fz) ∧ arr.size = l.cap * t.size ∧ fzOK t arr.size fz ∧ (s = .live → ¬ S b) ∧
      (arr.toList.take (xs.length * t.size)).length = xs.length * t.size ∧ (∀ j v, (arr.toList.take (xs.length * t.size))[j]? = some v → w.cell? ⟨b, 0 + j, none⟩ = some v) ∧
      Rows w S t (arr.toList.take (xs.length * t.size)) xs ∧ ∀ v ∈ arr.toList.take (xs.length * t.size), v.oneCell' = true := by
  obtain ⟨b, arr, el, fz, h1, h2, h3, h4, h5, h6, _⟩ := h.row a ha
  have hle : xs.length * t.size ≤ arr.size := by rw [h3]; exact Nat.mul_le_mul_right _ h.len
  have hrows : Rows w S t (arr.toList.take (xs.length * t.size)) xs := by
    intro i x hx
    obtain ⟨c, c1, c2⟩ := h5 i x hx
    refine ⟨c, c1, fun j u hj => ?_⟩
    have hjl := (List.getElem?_eq_some_iff.1 hj).1
    rw [RepT.length c1] at hjl
    have := mul_step (s := t.size) (getq_mem hx)
    rw [List.getElem?_take, if_pos (by omega)]
    simpa using c2 j u hj
  refine ⟨b, arr, el, fz, h1, h2, h3, h4, h6, by simp; omega, ?_, hrows, ?_⟩
  · intro j v hj
    rw [List.getElem?_take] at hj
    split at hj
    · simp [World.cell?, h2]
      simpa using hj
    · cases hj
  · intro v hv
    obtain ⟨j, hj⟩ := List.getElem?_of_mem hv
    have hjl := (List.getElem?_eq_some_iff.1 hj).1
    simp only [List.length_take, Array.length_toList] at hjl
    have hj' : j < xs.length * t.size := by omega
    have hi : j / t.size < xs.length := by rw [Nat.div_lt_iff_lt_mul hk]; exact hj'
    obtain ⟨c, c1, c2⟩ := hrows (j / t.size) (xs[j / t.size]'hi) (List.getElem?_eq_getElem hi)
    have hm : j % t.size < c.length := by rw [RepT.length c1]; exact Nat.mod_lt _ hk
    have := c2 (j % t.size) _ (List.getElem?_eq_getElem hm)
    have hd := Nat.div_add_mod j t.size
    rw [Nat.mul_comm] at hd
    rw [hd, hj] at this
    cases this
    exact c1.one _ (List.getElem_mem hm)

theorem Rows.take {A : List Value} {xs : List t.T} (h : Rows w S t A xs) (i : Nat) : Rows w S t (A.take (i * t.size)) (xs.take i) := by
  intro q x hx
  have hq : (xs.take i)[q]? = some x := hx
  rw [List.getElem?_take] at hq
  split at hq
  · rename_i hqi
    obtain ⟨c, c1, c2⟩ := h q x hq
    refine ⟨c, c1, fun j u hj => ?_⟩
    have hjl := (List.getElem?_eq_some_iff.1 hj).1
    rw [RepT.length c1] at hjl
    have := mul_step (s := t.size) hqi
    rw [List.getElem?_take, if_pos (by omega)]
    exact c2 j u hj
  · cases hq

theorem Rows.drop {A : List Value} {xs : List t.T} (h : Rows w S t A xs) (i : Nat) : Rows w S t (A.drop (i * t.size)) (xs.drop i) := by
  intro q x hx
  have hq : (xs.drop i)[q]? = some x := hx
  rw [List.getElem?_drop] at hq
  obtain ⟨c, c1, c2⟩ := h (i + q) x hq
  refine ⟨c, c1, fun j u hj => ?_⟩
  rw [List.getElem?_drop, ← Nat.add_assoc, ← Nat.add_mul]
  exact c2 j u hj
end

section
variable [LTab]

def insIn (ty : Ty) : Cut := { tms := [0, 1, 2], sh := (.cons (.own 5000000) (.cons (.int .i64) (.own 5000001))), objs := [(5000000, [0], .sl ty), (5000001, [2], .sl ty)], sts := [] }
def insOut (ty : Ty) : Cut := { tms := [0], sh := .own 2000000, objs := [(2000000, [0], .sl ty)], sts := [] }

/-- a list with others put in -/
def insL {α : Type} (xs : List α) (i : Int) (ys : List α) : List α := xs.take i.toNat ++ ys ++ xs.drop i.toNat

def insF (ty : Ty) (b : Nat) (v : (insIn ty).T) : Option (OutM (insOut ty) []) :=
  gd (decide (0 ≤ (show Int from v.1.2.1)) && (decide ((show Int from v.1.2.1) ≤ ((show List ty.T from v.2.1).length : Int)) && (Nat.blt 0 (show List ty.T from v.2.2.1).length && fits ((show List ty.T from v.2.1).length + (show List ty.T from v.2.2.1).length) b)))
    (some ((), (insL (show List ty.T from v.2.1) v.1.2.1 (show List ty.T from v.2.2.1), ())))

theorem putL_len {α : Type} {o : Nat} {vs L : List α} (h : o + vs.length ≤ L.length) : (putL o vs L).length = L.length := by
  simp [putL]; omega

theorem ins_fin {B : Nat → Prop} {w w' : World} {S : Nat → Prop} {γ : Nat → Loc} {m : Nat → Option MO} {ty : Ty} {zs : List ty.T} {g cap : Nat} {arr : Array Value} {el : TypeId} {fz : Nat × Nat} (hm : ∀ n, m n ≠ none → 5000000 ≤ n)
    (hlow : ∀ b, S b → b < w.heap.size) (hbel : Bel B w w') (hS : ∀ b, S b → w'.heap[b]? = w.heap[b]?) (hh : w'.heap[g]? = some (.cells arr el fz)) (hsz : arr.size = cap * ty.size) (hfz : fzOK ty arr.size fz) (hcap : cap ≤ maxLen) (hlen : zs.length ≤ cap)
    (hrows : Rows w S ty arr.toList zs) (hgS : ¬ S g) (hgB : ¬ B g) {R : Type} {K : St → List Nat → Option R} {r : R} (hK : K (mkC (insOut ty) ((), (zs, ()))) [2000000] = some r) :
    ∃ x S' γ' τ ns, Ending.returned (.slice (some ⟨g, 0, none⟩) zs.length cap) = .returned x ∧ K τ ns = some r ∧ BackOk (fun _ => False) B w S γ m w' S' γ' τ ns x := by
  have hmo : ∀ n q, (mkC (insOut ty) ((), (zs, ()))).m n = some q → n = 2000000 ∧ q = .sl ty zs .live := by
    intro n q hq
    have hq : mofO (insOut ty).objs (zs, ()) n = some q := hq
    simp only [insOut, mofO] at hq
    cases hb : Nat.beq n 2000000 with
    | true =>
      rw [hb] at hq
      simp only [cond_true] at hq
      exact ⟨Nat.eq_of_beq_eq_true hb, (Option.some.inj hq).symm⟩
    | false => rw [hb] at hq; cases hq
  refine ⟨_, S, fun _ => ⟨some ⟨g, 0, none⟩, cap⟩, _, _, rfl, hK, ?_⟩
  refine ⟨hbel.weak fun k hk => hk.1, fun _ h => h, fun _ h => .inl h, ⟨fun n q hq => ?_, fun b hb => Nat.lt_of_lt_of_le (hlow b hb) hbel.size, fun n n' q q' b hq hq' _ _ hne _ _ => hne ((hmo n q hq).1.trans (hmo n' q' hq').1.symm), fun n q b hq _ hb => ?_⟩, ?_, fun n q q' h1 h2 => ?_, fun n hn => ?_⟩
  · obtain ⟨rfl, rfl⟩ := hmo n q hq
    refine ⟨hlen, hcap, fun e => (by cases e), fun a ha => ?_⟩
    cases ha
    exact ⟨g, arr, el, fz, rfl, hh, hsz, hfz, fun i x hx => by
      obtain ⟨c, c1, c2⟩ := hrows i x hx
      exact ⟨c, RepT.mono hS (fun _ h => h) _ _ _ c1, fun j u hj => by simpa using c2 j u hj⟩, fun _ => hgS, fun e => (by cases e)⟩
  · have hb : some g = some b := hb
    cases hb
    exact hgB
  · exact ⟨ty, zs, .live, rfl, rfl⟩
  · have := (hmo n q' h2).1
    have h5 := hm n (by rw [h1]; simp)
    omega
  · cases hq : (mkC (insOut ty) ((), (zs, ()))).m n with
    | none => exact absurd hq hn
    | some q => rw [(hmo n q hq).1]; simp

theorem insert_sound {P : Program} {ρ : Shelf.Ren} (L : InsertL P ρ) {ei : TI} {ty : Ty} (h1 : TIok P (ρ.t 9) ei) (h2 : ei.ty = some ty) {fn : Func} {c : Code} (hf : P.funcs[ρ.f 22]? = some fn) (hb : fn.body = some c) (hname : (fn.name == "runtime.NumGoroutine") = false) (he : endOk ty = true) :
    SoundM P (ρ.f 22) (ctrM (insIn ty) (insOut ty) [] (insF ty ei.bytes)) := by
  intro w S γ B v vals R t K r hm hB hrep hF hout
  refine ⟨callFunc_enter hf hb hname, ?_⟩
  obtain ⟨⟨u0, i, u2⟩, xs, ys, u3⟩ := v
  have hF : insF ty ei.bytes ((u0, i, u2), xs, ys, u3) = some t := hF
  obtain ⟨hc, hF⟩ := gd_some hF
  cases hF
  have hK : K (mkC (insOut ty) ((), (insL (show List ty.T from xs) i (show List ty.T from ys), ()))) [2000000] = some r := hout
  simp only [Bool.and_eq_true, decide_eq_true_eq, Nat.blt_eq, fits] at hc
  obtain ⟨i0, i1, hy0, hb1, hb2⟩ := hc
  obtain ⟨inf, z, z1, z2, z3, z4, z5, z6⟩ := h1.inf
  obtain ⟨y1, y2, y3, y4⟩ := h1.ty ty h2
  have hkp : 0 < ty.size := by omega
  have xs0 : ∃ xs' : List ty.T, xs' = xs := ⟨xs, rfl⟩
  obtain ⟨xs', rfl⟩ := xs0
  have ys0 : ∃ ys' : List ty.T, ys' = ys := ⟨ys, rfl⟩
  obtain ⟨ys', rfl⟩ := ys0
  have mx : mofO (insIn ty).objs (xs', ys', u3) 5000000 = some (.sl ty xs' .live) := rfl
  have my : mofO (insIn ty).objs (xs', ys', u3) 5000001 = some (.sl ty ys' .live) := rfl
  have hx : RowRel w S (γ 5000000) ty xs' .live := hm.obj _ _ mx
  have hy : RowRel w S (γ 5000001) ty ys' .live := hm.obj _ _ my
  have hm5 : ∀ n, mofO (insIn ty).objs (xs', ys', u3) n ≠ none → 5000000 ≤ n := by
    intro n hn
    have := mofO_mem hn
    simp [insIn] at this
    omega
  obtain ⟨a0, as1, rfl, k0, a1, as2, rfl, k1, a2, as3, rfl, k2, k3⟩ := hrep
  rw [show as3 = [] from k3]
  obtain ⟨t0, q0, s0, e0, k0⟩ := k0
  have e0 : some (MO.sl ty xs' .live) = some (MO.sl t0 q0 s0) := e0
  cases e0
  obtain ⟨t2, q2, s2, e2, k2⟩ := k2
  have e2 : some (MO.sl ty ys' .live) = some (MO.sl t2 q2 s2) := e2
  cases e2
  have k1 : a1 = .int .i64 i := k1
  subst k0; subst k1; subst k2
  have i0 : (0 : Int) ≤ (show Int from i) := i0
  have i1 : (show Int from i) ≤ (xs'.length : Int) := i1
  obtain ⟨ii, hii⟩ : ∃ n : Nat, (show Int from i) = (n : Int) := ⟨Int.toNat (show Int from i), (Int.toNat_of_nonneg i0).symm⟩
  have hi : ii ≤ xs'.length := by rw [hii] at i1; omega
  have hii : i = (ii : Int) := hii
  subst hii
  have hy0 : 0 < ys'.length := hy0
  have hb1 : xs'.length + ys'.length < maxB := hb1
  have hb2 : (xs'.length + ys'.length) * ei.bytes < maxB := hb2
  have mxb : maxB = 4398046511104 := rfl
  obtain ⟨va, hva⟩ : ∃ va, (γ 5000001).a = some va := by
    cases hv : (γ 5000001).a with
    | none => have := hy.nil hv; have := hy.len; omega
    | some va => exact ⟨va, rfl⟩
  obtain ⟨vb, varr, vel, vfz, rfl, v2, v3, v4, v5, v6, v7, v8, v9⟩ := row_cells hy hkp hva
  obtain ⟨vs, hvs⟩ : ∃ vs, vs = varr.toList.take (ys'.length * ty.size) := ⟨_, rfl⟩
  rw [← hvs] at v6 v7 v8 v9
  have hzl : (insL xs' (ii : Int) ys').length = xs'.length + ys'.length := by
    simp [insL]; omega
  have hrw : ∀ (cs : List Value), cs.length = xs'.length * ty.size → Rows w S ty cs xs' → ∀ Z, Rows w S ty (cs.take (ii * ty.size) ++ vs ++ cs.drop (ii * ty.size) ++ Z) (insL xs' (ii : Int) ys') := by
    intro cs hl hr Z
    have hle : ii * ty.size ≤ xs'.length * ty.size := Nat.mul_le_mul_right _ hi
    have r1 : Rows w S ty (cs.take (ii * ty.size) ++ vs ++ []) (xs'.take ii ++ ys') := Rows.app (hr.take ii) (by simp; rw [Nat.min_eq_left (by omega), Nat.min_eq_left hi]) v8 v6
    rw [List.append_nil] at r1
    have r2 := Rows.app (Z := Z) r1 (by simp only [List.length_append, List.length_take, v6, Nat.add_mul]; rw [Nat.min_eq_left (by omega), Nat.min_eq_left hi]) (hr.drop ii) (by simp only [List.length_drop, hl, Nat.sub_mul])
    simpa [insL] using r2
  have hgrow : ∀ (g : Nat), grownCap w (xs'.length + ys'.length) g (ρ.t 9) ≤ maxLen := fun g => grownCap_le_maxLen w _ _ _ (by unfold maxLen; omega)
  have kpos : 0 < (xs'.length + ys'.length) * ty.size := Nat.mul_pos (by omega) hkp
  -- a new row at the end
  have endGrow : ∀ (base : Option Addr) (cs : List Value), (γ 5000000).a = base → ii = xs'.length → (γ 5000000).cap < xs'.length + ys'.length → cs.length = xs'.length * ty.size → Rows w S ty cs xs' → (base = none → xs'.length = 0) → (∀ a, base = some a → ∀ j v, cs[j]? = some v → w.cell? (a.add j) = some v) →
      Calls P (ρ.f 22) #[.slice (γ 5000000).a xs'.length (γ 5000000).cap, .int .i64 (ii : Int), .slice (some ⟨vb, 0, none⟩) ys'.length (γ 5000001).cap] w fun e w' => ∃ x S' γ' τ ns, e = .returned x ∧ K τ ns = some r ∧ BackOk (fun _ => False) B w S γ (mofO (insIn ty).objs (xs', ys', u3)) w' S' γ' τ ns x := by
    intro base cs hbase hin hroom hl hr hnil hcs
    rw [hbase, hin]
    refine (insert_end_grow L ty.size ei.bytes inf z z1 (by omega) z3 z4 base xs'.length (γ 5000000).cap vb 0 ys'.length (γ 5000001).cap cs vs w hy0 hx.len hroom (by omega) (by omega) hl v6 hnil hcs v7 v9).mono fun e w' => ?_
    rintro ⟨rfl, rfl⟩
    have hcap := grownCap_ge w (xs'.length + ys'.length) (γ 5000000).cap (ρ.t 9)
    have hbel : Below w.heap.size w (w.drew.alloc (.cells ((cs ++ vs).toArray ++ Builtin.zeroCells z.cells (grownCap w (xs'.length + ys'.length) (γ 5000000).cap (ρ.t 9) - (xs'.length + ys'.length))) (ρ.t 9))) := (Below.refl _ _).drew.alloc (Nat.le_refl _) _
    have hheap := heap_alloc_new w.drew (.cells ((cs ++ vs).toArray ++ Builtin.zeroCells z.cells (grownCap w (xs'.length + ys'.length) (γ 5000000).cap (ρ.t 9) - (xs'.length + ys'.length))) (ρ.t 9))
    have key := ins_fin (zs := insL xs' (ii : Int) ys') (g := w.heap.size) (cap := grownCap w (xs'.length + ys'.length) (γ 5000000).cap (ρ.t 9)) (r := r) (K := K) (γ := γ) hm5 hm.low (Below.bel hbel hB) (fun b hb => hbel.block b (hm.low b hb)) hheap ?_ (fun i _ h => by simp at h) (hgrow _) (by rw [hzl]; exact hcap) ?_ (fun h => by have := hm.low _ h; omega) (fun h => by have := hB _ h; omega) hK
    · rw [hzl] at key
      exact key
    · simp only [Array.size_append, List.size_toArray, List.length_append, size_zeroCells, hl, v6, z6, ← y1, ← Nat.add_mul]
      congr 1; omega
    · have := hrw cs hl hr (Builtin.zeroCells z.cells (grownCap w (xs'.length + ys'.length) (γ 5000000).cap (ρ.t 9) - (xs'.length + ys'.length))).toList
      rw [hin, List.take_of_length_le (by omega), List.drop_eq_nil_of_le (by omega)] at this
      rw [hin]
      simpa using this
  have hcase : (γ 5000000).a = none ∨ ∃ a, (γ 5000000).a = some a := by
    cases (γ 5000000).a with
    | none => exact .inl rfl
    | some a => exact .inr ⟨a, rfl⟩
  rcases hcase with ha | ⟨a, ha⟩
  · have hc0 := hx.nil ha
    have hl0 : xs'.length = 0 := by have := hx.len; omega
    have hxs : xs' = [] := List.eq_nil_of_length_eq_zero hl0
    rw [hva]
    exact endGrow none [] ha (by omega) (by omega) (by rw [hl0]; simp) (fun i x hx => by rw [hxs] at hx; simp [getq] at hx) (fun _ => hl0) (fun a h => by cases h)
  · obtain ⟨b, arr, el, fz, rfl, x2, x3, x4, x5, x6, x7, x8, x9⟩ := row_cells hx hkp ha
    obtain ⟨cs, hcs⟩ : ∃ cs, cs = arr.toList.take (xs'.length * ty.size) := ⟨_, rfl⟩
    rw [← hcs] at x6 x7 x8 x9
    have hblk : (γ 5000000).blk = some b := by rw [Loc.blk, ha]; rfl
    have hvblk : (γ 5000001).blk = some vb := by rw [Loc.blk, hva]; rfl
    have hvb : vb ≠ b := fun e => hm.apart 5000001 5000000 _ _ b my mx rfl rfl (by omega) (by rw [hvblk, e]) hblk
    have hbB : ¬ B b := hm.high 5000000 _ b mx rfl hblk
    have hbS : ¬ S b := x5 rfl
    by_cases hroom : (γ 5000000).cap < xs'.length + ys'.length
    · by_cases hin : ii = xs'.length
      · rw [hva]
        exact endGrow _ cs ha hin hroom x6 x8 (fun h => by cases h) (fun a h j v hj => by cases h; rw [Addr.add_lit]; exact x7 j v hj)
      · rw [hva, ha]
        refine (insert_grow L ty.size ei.bytes inf z hkp z1 (by omega) z3 z4 (by omega) b 0 xs'.length (γ 5000000).cap ii vb 0 ys'.length (γ 5000001).cap cs vs w (by omega) hy0 hx.len hroom (by omega) (by omega) x6 v6 x7 v7 x9 v9).mono fun e w' => ?_
        rintro ⟨rfl, rfl⟩
        have hik : ii * ty.size ≤ xs'.length * ty.size := Nat.mul_le_mul_right _ hi
        have hD : (cs.drop (ii * ty.size)).length = (xs'.length - ii) * ty.size := by rw [List.length_drop, x6, Nat.sub_mul]
        have hsub : (xs'.length - ii) * ty.size = xs'.length * ty.size - ii * ty.size := Nat.sub_mul _ _ _
        have him : (ii + ys'.length) * ty.size = ii * ty.size + ys'.length * ty.size := Nat.add_mul _ _ _
        have hA : (cs.take (ii * ty.size)).length = ii * ty.size := by rw [List.length_take]; omega
        obtain ⟨G, hG⟩ : ∃ G, G = grownCap w (xs'.length + ys'.length) (γ 5000000).cap (ρ.t 9) := ⟨_, rfl⟩
        have hGm := hgrow (γ 5000000).cap
        have hGn := grownCap_ge w (xs'.length + ys'.length) (γ 5000000).cap (ρ.t 9)
        rw [← hG] at hGm hGn ⊢
        obtain ⟨Z1, hZ1⟩ : ∃ Z1, Z1 = (Builtin.zeroCells z.cells (xs'.length + ys'.length - ii)).toList ++ (Builtin.zeroCells z.cells (G - (xs'.length + ys'.length))).toList := ⟨_, rfl⟩
        obtain ⟨ROW, hROW⟩ : ∃ ROW : Array Value, ROW = (cs.take (ii * ty.size)).toArray ++ Builtin.zeroCells z.cells (xs'.length + ys'.length - ii) ++ Builtin.zeroCells z.cells (G - (xs'.length + ys'.length)) := ⟨_, rfl⟩
        have hROWl : ROW.toList = cs.take (ii * ty.size) ++ Z1 := by rw [hROW, hZ1]; simp [List.append_assoc]
        have hzsz : z.cells.size = ty.size := by omega
        have hROWs : ROW.size = G * ty.size := by
          rw [hROW]
          simp only [Array.size_append, List.size_toArray, hA, size_zeroCells, hzsz, ← Nat.add_mul]
          congr 1; omega
        have hZl : Z1.length = G * ty.size - ii * ty.size := by
          have : ROW.toList.length = ii * ty.size + Z1.length := by rw [hROWl, List.length_append, hA]
          simp only [Array.length_toList] at this
          omega
        have hGk : (xs'.length + ys'.length) * ty.size ≤ G * ty.size := Nat.mul_le_mul_right _ hGn
        have hadd : (xs'.length + ys'.length) * ty.size = xs'.length * ty.size + ys'.length * ty.size := Nat.add_mul _ _ _
        rw [← hROW]
        have g1 : (w.alloc (.cells ROW (ρ.t 9))).drew.heap[w.heap.size]? = some (.cells ROW (ρ.t 9) (0, 0)) := heap_alloc_new w _
        have l1 : ii * ty.size + vs.length ≤ ROW.toList.length := by rw [v6]; simp only [Array.length_toList, hROWs]; omega
        have g2 : ((w.alloc (.cells ROW (ρ.t 9))).drew.setRow w.heap.size (putL (ii * ty.size) vs ROW.toList).toArray).drew.heap[w.heap.size]? = some (.cells (putL (ii * ty.size) vs ROW.toList).toArray (ρ.t 9) (0, 0)) := setRow_heap _ _ _ _ _ _ g1
        have l2 : (ii + ys'.length) * ty.size + (cs.drop (ii * ty.size)).length ≤ (putL (ii * ty.size) vs ROW.toList).length := by rw [putL_len l1]; simp only [Array.length_toList, hROWs]; omega
        have row1 : putL (ii * ty.size) vs ROW.toList = (cs.take (ii * ty.size) ++ vs) ++ Z1.drop vs.length := by rw [hROWl, put_in hA]
        have row2 : putL ((ii + ys'.length) * ty.size) (cs.drop (ii * ty.size)) (putL (ii * ty.size) vs ROW.toList) = cs.take (ii * ty.size) ++ vs ++ cs.drop (ii * ty.size) ++ (Z1.drop vs.length).drop (cs.drop (ii * ty.size)).length := by
          rw [row1, put_in (by rw [List.length_append, hA, v6, him])]
        rw [setCells_row w.heap.size (ρ.t 9) (0, 0) vs _ _ ROW g1 (by simpa using l1), setCells_row w.heap.size (ρ.t 9) (0, 0) _ _ _ _ g2 (by simpa using l2)]
        have hbel : Below w.heap.size w ((((w.alloc (.cells ROW (ρ.t 9))).drew.setRow w.heap.size (putL (ii * ty.size) vs ROW.toList).toArray).drew).setRow w.heap.size (putL ((ii + ys'.length) * ty.size) (cs.drop (ii * ty.size)) (putL (ii * ty.size) vs ROW.toList).toArray.toList).toArray) :=
          ⟨rfl, rfl, rfl, by
            have h1 : w.heap.size ≤ (w.alloc (.cells ROW (ρ.t 9))).heap.size := ((Below.refl w.heap.size w).alloc (Nat.le_refl _) _).size
            have e1 := setRow_size (w.alloc (.cells ROW (ρ.t 9))).drew w.heap.size (putL (ii * ty.size) vs ROW.toList).toArray
            have e2 := setRow_size ((w.alloc (.cells ROW (ρ.t 9))).drew.setRow w.heap.size (putL (ii * ty.size) vs ROW.toList).toArray).drew w.heap.size (putL ((ii + ys'.length) * ty.size) (cs.drop (ii * ty.size)) (putL (ii * ty.size) vs ROW.toList).toArray.toList).toArray
            rw [e2]
            show _ ≤ ((w.alloc (.cells ROW (ρ.t 9))).drew.setRow w.heap.size (putL (ii * ty.size) vs ROW.toList).toArray).heap.size
            rw [e1]
            exact h1, fun q hq => by
            rw [setRow_other _ _ _ _ (by omega)]
            show ((w.alloc (.cells ROW (ρ.t 9))).drew.setRow w.heap.size (putL (ii * ty.size) vs ROW.toList).toArray).heap[q]? = _
            rw [setRow_other _ _ _ _ (by omega)]
            exact ((Below.refl w.heap.size w).alloc (Nat.le_refl _) _).block q hq⟩
        have key := ins_fin (zs := insL xs' (ii : Int) ys') (g := w.heap.size) (cap := G) (r := r) (K := K) (γ := γ) hm5 hm.low (Below.bel hbel hB) (fun b hb => hbel.block b (hm.low b hb)) (setRow_heap _ _ _ _ _ _ g2) (by simp only [List.size_toArray, List.toList_toArray]; rw [putL_len l2, putL_len l1]; simpa using hROWs) (fun i _ h => by simp at h) hGm (by rw [hzl]; exact hGn) (by simp only [List.toList_toArray]; rw [row2]; exact hrw cs x6 x8 _) (fun h => by have := hm.low _ h; omega) (fun h => by have := hB _ h; omega) hK
        rw [hzl] at key
        exact key
    · have hroom : xs'.length + ys'.length ≤ (γ 5000000).cap := by omega
      have hle : (xs'.length + ys'.length) * ty.size ≤ arr.size := by rw [x3]; exact Nat.mul_le_mul_right _ hroom
      have hadd : (xs'.length + ys'.length) * ty.size = xs'.length * ty.size + ys'.length * ty.size := Nat.add_mul _ _ _
      have hik : ii * ty.size ≤ xs'.length * ty.size := Nat.mul_le_mul_right _ hi
      have hsplit : arr.toList = cs ++ arr.toList.drop (xs'.length * ty.size) := by rw [hcs, List.take_append_drop]
      have inPlace : ∀ (w' : World) (row Z : List Value), Wrote b w w' → w'.heap[b]? = some (.cells row.toArray el fz) → row.length = arr.size → row = cs.take (ii * ty.size) ++ vs ++ cs.drop (ii * ty.size) ++ Z →
          ∃ x S' γ' τ ns, Ending.returned (.slice (some ⟨b, 0, none⟩) (xs'.length + ys'.length) (γ 5000000).cap) = .returned x ∧ K τ ns = some r ∧ BackOk (fun _ => False) B w S γ (mofO (insIn ty).objs (xs', ys', u3)) w' S' γ' τ ns x := by
        intro w' row Z hW hh hrl hrow
        have key := ins_fin (zs := insL xs' (ii : Int) ys') (g := b) (cap := (γ 5000000).cap) (r := r) (K := K) (γ := γ) hm5 hm.low (Wrote.below hW hbB) (fun b' hb' => hW.block b' (fun e => hbS (e ▸ hb'))) hh (by simp only [List.size_toArray]; rw [hrl, x3]) (by simp only [List.size_toArray]; rw [hrl]; exact x4) hx.cap (by rw [hzl]; exact hroom) (by simp only [List.toList_toArray]; rw [hrow]; exact hrw cs x6 x8 Z) hbS hbB hK
        rw [hzl] at key
        exact key
      by_cases hin : ii = xs'.length
      · rw [hva, ha, hin]
        refine (insert_end_room L ty.size inf z1 (by omega) b 0 xs'.length (γ 5000000).cap vb 0 ys'.length (γ 5000001).cap vs w hy0 hroom (by have := hx.cap; unfold maxLen at this; omega) v6 (fun j hj => ?_) (fun j hj => ?_) v7 v9).mono fun e w' => ?_
        · have hlt : 0 + xs'.length * ty.size + j < arr.size := by omega
          simp [World.cell?, x2]
          omega
        · have := x4 (0 + xs'.length * ty.size + j) (.inl (by omega))
          simp only [World.frozen?, x2]
          obtain ⟨lo, hi'⟩ := fz
          simpa using this
        · rintro ⟨rfl, rfl⟩
          rw [Nat.zero_add, setCells_row b el fz vs _ w arr x2 (by omega)]
          refine inPlace _ (putL (xs'.length * ty.size) vs arr.toList) ((arr.toList.drop (xs'.length * ty.size)).drop vs.length) (Wrote.setRow w b _ x2) (setRow_heap w b arr _ el fz x2) (by rw [putL_len (by simp; omega)]; simp) ?_
          rw [hin]
          have e1 : cs.take (xs'.length * ty.size) = cs := List.take_of_length_le (by omega)
          have e2 : cs.drop (xs'.length * ty.size) = [] := List.drop_eq_nil_of_le (by omega)
          rw [e1, e2, List.append_nil]
          conv => lhs; rw [hsplit]
          exact put_in x6
      · rw [hva, ha]
        have hshape : w.shape? vb = some (vel, varr.size) := by simp [World.shape?, v2]
        have hshapeb : w.shape? b = some (el, arr.size) := by simp [World.shape?, x2]
        refine (insert_shift L ty.size hkp (by rw [z1]; simp; omega) b 0 xs'.length (γ 5000000).cap ii vb 0 ys'.length (γ 5000001).cap cs vs w (by omega) hy0 hroom (by have := hx.cap; unfold maxLen at this; omega) hvb x6 v6 x7 (fun j hj => ?_) (fun j hj => ?_) v7 x9 v9 vel el varr.size arr.size hshape hshapeb (by omega) ?_ ?_).mono fun e w' => ?_
        · have hlt : 0 + j < arr.size := by omega
          simp [World.cell?, x2]
          omega
        · have := x4 (0 + j) (.inl (by omega))
          simp only [World.frozen?, x2]
          obtain ⟨lo, hi'⟩ := fz
          simpa using this
        · have hvpos : 0 < varr.size := by
            rw [v3]; exact Nat.mul_pos (by have := hy.len; omega) hkp
          have := v4 0 (.inl hvpos)
          simp only [World.frozen?, v2]
          obtain ⟨lo, hi'⟩ := vfz
          simpa using this
        · have := v4 varr.size (.inr ⟨rfl, he⟩)
          simp only [World.frozen?, v2]
          obtain ⟨lo, hi'⟩ := vfz
          simpa using this
        · rintro ⟨rfl, rfl⟩
          have g1 : w.drew.heap[b]? = some (.cells arr el fz) := x2
          have hD : (cs.drop (ii * ty.size)).length = (xs'.length - ii) * ty.size := by rw [List.length_drop, x6, Nat.sub_mul]
          have hsub : (xs'.length - ii) * ty.size = xs'.length * ty.size - ii * ty.size := Nat.sub_mul _ _ _
          have him : (ii + ys'.length) * ty.size = ii * ty.size + ys'.length * ty.size := Nat.add_mul _ _ _
          have l1 : (ii + ys'.length) * ty.size + (cs.drop (ii * ty.size)).length ≤ arr.toList.length := by simp only [Array.length_toList]; omega
          have hA : (cs.take (ii * ty.size)).length = ii * ty.size := by rw [List.length_take]; omega
          obtain ⟨rest, hrest⟩ : ∃ rest, rest = arr.toList.drop (xs'.length * ty.size) := ⟨_, rfl⟩
          have hrl : rest.length = arr.size - xs'.length * ty.size := by rw [hrest]; simp
          have harr : arr.toList = cs.take (ii * ty.size) ++ (cs.drop (ii * ty.size) ++ rest) := by rw [← List.append_assoc, List.take_append_drop, hrest]; exact hsplit
          obtain ⟨X, hX⟩ : ∃ X, X = cs.drop (ii * ty.size) ++ rest := ⟨_, rfl⟩
          have hXl : ys'.length * ty.size ≤ X.length := by rw [hX, List.length_append, hD, hrl]; omega
          have row1 : putL ((ii + ys'.length) * ty.size) (cs.drop (ii * ty.size)) arr.toList = cs.take (ii * ty.size) ++ (X.take (ys'.length * ty.size) ++ cs.drop (ii * ty.size) ++ (X.drop (ys'.length * ty.size)).drop (cs.drop (ii * ty.size)).length) := by
            have : arr.toList = (cs.take (ii * ty.size) ++ X.take (ys'.length * ty.size)) ++ X.drop (ys'.length * ty.size) := by
              rw [List.append_assoc, List.take_append_drop, hX]; exact harr
            rw [this, put_in (by rw [List.length_append, hA, List.length_take, Nat.min_eq_left hXl, him])]
            simp [List.append_assoc]
          rw [Nat.zero_add, Nat.zero_add, setCells_row b el fz _ _ w.drew arr g1 (by simpa using l1), setCells_row b el fz vs _ _ _ (setRow_heap w.drew b arr _ el fz g1) (by simp only [List.size_toArray]; rw [putL_len l1]; simp only [Array.length_toList]; omega), setRow_setRow]
          refine inPlace _ (putL (ii * ty.size) vs (putL ((ii + ys'.length) * ty.size) (cs.drop (ii * ty.size)) arr.toList)) (((X.drop (ys'.length * ty.size)).drop (cs.drop (ii * ty.size)).length)) ⟨rfl, rfl, rfl, by simp, fun q hq => setRow_other w.drew b q _ hq, arr, el, fz, x2⟩ (by simpa using setRow_heap w.drew b arr _ el fz g1) (by rw [putL_len (by rw [putL_len l1]; simp only [Array.length_toList]; omega), putL_len l1]; simp) ?_
          rw [row1, put_in hA]
          have e3 : (X.take (ys'.length * ty.size)).length = vs.length := by rw [List.length_take, Nat.min_eq_left hXl, v6]
          rw [List.append_assoc (X.take _), ← e3, List.drop_left]
          simp [List.append_assoc]
end
end Go.Dv
