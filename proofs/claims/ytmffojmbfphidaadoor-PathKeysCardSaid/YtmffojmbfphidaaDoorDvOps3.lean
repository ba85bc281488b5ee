/- Operations on slices, strings, structs and arrays that write nothing that is there already. -/
import Derived.Test.YtmffojmbfphidaaDoorDvOps2
set_option linter.all false
namespace Go.Dv
open Go.RowKit

variable [LTab]

variable {R : Type}

theorem add_none (b o n : Nat) : (⟨b, o, none⟩ : Addr).add n = ⟨b, o + n, none⟩ := by unfold Addr.add; split <;> simp_all

theorem addr_eta {a : Addr} (h : a.spot = none) : a = ⟨a.block, a.off, none⟩ := by cases a; simp at h; subst h; rfl

theorem castL_some {t' t : Ty} {xs : List t'.T} {ys : List t.T} (h : castL t' t xs = some ys) : ∃ e : t' = t, ys = e ▸ xs := by
  unfold castL at h
  split at h
  · rename_i e _
    cases h
    exact ⟨e, rfl⟩
  · cases h

section lists
variable {w : World} {S : Nat → Prop} {γ : Nat → Loc} {m : Nat → Option MO} {base : Nat → Prop} (hm : MemRel w S γ m base)

theorem rep_nils {t : Ty} : RepT w S (.list t) ([] : List t.T) [.slice none 0 0] :=
  ⟨none, 0, rfl, Nat.le_refl _, fun _ => rfl, fun a e => (by cases e), fun i x e => (by simp [getq] at e)⟩

theorem row_rep {l : Loc} {t : Ty} {xs : List t.T} {s : Stat} {S' : Nat → Prop} (h : RowRel w S l t xs s) (hS : ∀ b, S b → S' b) (hb : ∀ a, l.a = some a → S' a.block) : RepT w S' (.list t) xs [.slice l.a xs.length l.cap] := by
  refine ⟨l.a, l.cap, rfl, h.len, h.nil, fun a e => ?_, fun i x e => ?_⟩
  · obtain ⟨b, arr, el, fz, e1, _⟩ := h.row a e
    subst e1; rfl
  · cases ha : l.a with
    | none =>
      have h1 := h.nil ha
      have h2 := h.len
      have : (xs : List t.T) = [] := List.eq_nil_of_length_eq_zero (by omega)
      subst this
      simp [getq] at e
    | some a =>
      obtain ⟨b, arr, el, fz, e1, e2, e3, e4, e5, e6⟩ := h.row a ha
      obtain ⟨c, k1, k2⟩ := e5 i x e
      refine ⟨a, c, rfl, hb a ha, RepT.mono (fun _ _ => rfl) hS t x c k1, ?_⟩
      subst e1
      intro j u hj
      rw [cell_of_row w b _ _ _ _ e2]
      have := k2 j u hj
      simpa using this

include hm in
theorem asList_rep {t : Ty} {v : AV} {x : Value} {xs : List t.T} (h : asList m t v = some xs) (hv : RepA w S γ m v x) : RepT w S (.list t) xs [x] := by
  unfold asList at h
  split at h
  · obtain ⟨e, rfl⟩ := castL_some h
    subst e; exact hv
  · obtain ⟨e, rfl⟩ := castL_some h
    subst e; exact hv.2
  · cases h
    simp only [RepA] at hv; subst hv
    exact rep_nils
  · rename_i n
    obtain ⟨t0, xs0, s0, k1, k2⟩ := hv
    split at h
    · rename_i t' xs' hn
      obtain ⟨e, rfl⟩ := castL_some h
      subst e
      rw [k1] at hn; cases hn
      have hob : RowRel w S (γ n) _ _ .still := hm.obj n _ k1
      rw [k2]
      refine row_rep hob (fun _ h => h) fun a ha => ?_
      obtain ⟨b, _, _, _, e1, _, _, _, _, _, e7⟩ := hob.row a ha
      subst e1; exact e7 rfl
    · cases h
  · cases h

include hm in
theorem seeList_rep {t : Ty} {v : AV} {x : Value} {xs : List t.T} (h : seeList m t v = some xs) (hv : RepA w S γ m v x) : RepT w (fun b => b < w.heap.size) (.list t) xs [x] := by
  unfold seeList at h
  split at h
  · obtain ⟨e, rfl⟩ := castL_some h
    subst e; exact RepT.mono (fun _ _ => rfl) hm.low _ _ _ hv
  · obtain ⟨e, rfl⟩ := castL_some h
    subst e; exact RepT.mono (fun _ _ => rfl) hm.low _ _ _ hv.2
  · cases h
    simp only [RepA] at hv; subst hv
    exact rep_nils
  · rename_i n
    obtain ⟨t0, xs0, s0, k1, k2⟩ := hv
    have fin : ∀ {s : Stat}, s ≠ .dead → m n = some (.sl t0 xs0 s) → RepT w (fun b => b < w.heap.size) (.list t0) xs0 [x] := by
      intro s hs hn
      have hob : ObjRel w S γ m n (.sl t0 xs0 s) := hm.obj n _ hn
      have hob : RowRel w S (γ n) t0 xs0 s := by cases s <;> first | exact hob | exact absurd rfl hs
      rw [k2]
      refine row_rep hob hm.low fun a ha => ?_
      obtain ⟨b, _, _, _, e1, e2, _⟩ := hob.row a ha
      subst e1; exact heap_lt e2
    split at h
    · rename_i t' xs' hn
      obtain ⟨e, rfl⟩ := castL_some h
      rw [k1] at hn; cases hn
      subst e
      exact fin (by simp) k1
    · rename_i t' xs' hn
      obtain ⟨e, rfl⟩ := castL_some h
      rw [k1] at hn; cases hn
      subst e
      exact fin (by simp) k1
    · cases h
  · cases h

include hm in
theorem decP_rep : ∀ {t : Ty} {cs : List AV} {vs : List Value} {x : t.T} {rest : List AV}, decP m t cs = some (x, rest) → RepAs w S γ m cs vs → ∃ c us, vs = c ++ us ∧ RepT w S t x c ∧ RepAs w S γ m rest us
  | .int k, [], _, _, _, h, _ => by simp [decP] at h
  | .int k, v :: r, vs, x, rest, h, hr => by
    cases v <;> simp only [decP] at h <;> try (cases h; done)
    rename_i k' n
    split at h
    · rename_i hk
      have := ik_some hk; subst this
      cases h
      obtain ⟨u, us, rfl, h2, h3⟩ := hr
      exact ⟨[u], us, rfl, by simp only [RepA] at h2; subst h2; rfl, h3⟩
    · cases h
  | .bool, [], _, _, _, h, _ => by simp [decP] at h
  | .bool, v :: r, vs, x, rest, h, hr => by
    cases v <;> simp only [decP] at h <;> try (cases h; done)
    cases h
    obtain ⟨u, us, rfl, h2, h3⟩ := hr
    exact ⟨[u], us, rfl, by simp only [RepA] at h2; subst h2; rfl, h3⟩
  | .str, [], _, _, _, h, _ => by simp [decP] at h
  | .str, v :: r, vs, x, rest, h, hr => by
    cases v <;> simp only [decP] at h <;> try (cases h; done)
    cases h
    obtain ⟨u, us, rfl, h2, h3⟩ := hr
    exact ⟨[u], us, rfl, by simp only [RepA] at h2; subst h2; rfl, h3⟩
  | .unit, cs, vs, x, rest, h, hr => by
    simp only [decP] at h
    cases h
    exact ⟨[], vs, rfl, rfl, hr⟩
  | .pair a b, cs, vs, x, rest, h, hr => by
    simp only [decP] at h
    split at h
    · rename_i y r' h1
      split at h
      · rename_i z r'' h2
        cases h
        obtain ⟨c, us, rfl, k1, k2⟩ := decP_rep h1 hr
        obtain ⟨d, ts, rfl, k3, k4⟩ := decP_rep h2 k2
        exact ⟨c ++ d, ts, by simp, ⟨c, d, rfl, k1, k3⟩, k4⟩
      · cases h
    · cases h
  | .list t, [], _, _, _, h, _ => by simp [decP] at h
  | .list t, v :: r, vs, x, rest, h, hr => by
    simp only [decP] at h
    split at h
    · rename_i xs hx
      cases h
      obtain ⟨u, us, rfl, h2, h3⟩ := hr
      exact ⟨[u], us, rfl, asList_rep hm hx h2, h3⟩
    · cases h

include hm in
theorem dec_rep {t : Ty} {cs : List AV} {vs : List Value} {x : t.T} (h : dec m t cs = some x) (hr : RepAs w S γ m cs vs) : RepT w S t x vs := by
  unfold dec at h
  split at h
  · rename_i y hy
    cases h
    obtain ⟨c, us, rfl, h1, h2⟩ := decP_rep hm hy hr
    simp only [RepAs] at h2; subst h2
    simpa using h1
  · cases h

theorem asList_one {t : Ty} {v : AV} {xs : List t.T} (h : asList m t v = some xs) : v.one = true := by
  cases v <;> first | rfl | simp [asList] at h

theorem decP_one : ∀ {t : Ty} {cs : List AV} {x : t.T} {rest : List AV}, decP m t cs = some (x, rest) → ∃ c, cs = c ++ rest ∧ allOne c = true
  | .int k, [], _, _, h => by simp [decP] at h
  | .int k, v :: r, x, rest, h => by
    cases v <;> simp only [decP] at h <;> try (cases h; done)
    split at h
    · cases h; exact ⟨[_], rfl, rfl⟩
    · cases h
  | .bool, [], _, _, h => by simp [decP] at h
  | .bool, v :: r, x, rest, h => by
    cases v <;> simp only [decP] at h <;> try (cases h; done)
    cases h; exact ⟨[_], rfl, rfl⟩
  | .str, [], _, _, h => by simp [decP] at h
  | .str, v :: r, x, rest, h => by
    cases v <;> simp only [decP] at h <;> try (cases h; done)
    cases h; exact ⟨[_], rfl, rfl⟩
  | .unit, cs, x, rest, h => by
    simp only [decP] at h
    cases h
    exact ⟨[], rfl, rfl⟩
  | .pair a b, cs, x, rest, h => by
    simp only [decP] at h
    split at h
    · rename_i y r' h1
      split at h
      · rename_i z r'' h2
        cases h
        obtain ⟨c, rfl, k1⟩ := decP_one h1
        obtain ⟨d, rfl, k2⟩ := decP_one h2
        exact ⟨c ++ d, by simp, by rw [allOne_append, k1, k2]; rfl⟩
      · cases h
    · cases h
  | .list t, [], _, _, h => by simp [decP] at h
  | .list t, v :: r, x, rest, h => by
    simp only [decP] at h
    split at h
    · rename_i xs hx
      cases h
      exact ⟨[v], rfl, by simp [allOne, asList_one hx]⟩
    · cases h

theorem dec_one {t : Ty} {cs : List AV} {x : t.T} (h : dec m t cs = some x) : allOne cs = true := by
  unfold dec at h
  split at h
  · rename_i y hy
    obtain ⟨c, rfl, k⟩ := decP_one hy
    simpa using k
  · cases h

end lists

theorem getq_mem {α : Type} {xs : List α} {i : Nat} {x : α} (h : getq xs i = some x) : i < xs.length := (List.getElem?_eq_some_iff.1 h).1

theorem rd_getq {t : Ty} {xs : List t.T} {i : Int} (h : inB i xs.length = true) : getq xs i.toNat = some (rd t xs i) := by
  simp only [inB, Bool.and_eq_true, decide_eq_true_eq] at h
  have : i.toNat < xs.length := by omega
  simp [getq, rd, this]

section core
variable {P : Program} {E : Env} (hE : ∀ t ti, E.ty t = some ti → TIok P t ti) {w : World} {S : Nat → Prop} {γ : Nat → Loc} {m : Nat → Option MO} {base : Nat → Prop} (hm : MemRel w S γ m base)
  {ev : Operand → AV} {el : Operand → Value} (hev : ∀ x, RepA w S γ m (ev x) (el x)) {K : AV → Option MO → Option R} {r : R}

include hE in
theorem elemTy_some {t e : TypeId} {ei : TI} {ty : Ty} (h : elemTy E t = some (e, ei, ty)) : P.underlying t = some (.slice e) ∧ E.ty e = some ei ∧ ei.ty = some ty := by
  unfold elemTy at h
  split at h
  · rename_i hti
    obtain ⟨d, hd1, hd2⟩ := (hE t _ hti).und
    split at h
    · rename_i he
      split at h
      · rename_i hy
        cases h
        refine ⟨?_, he, hy⟩
        cases d <;> simp [tdOf] at hd2
        subst hd2; exact hd1
      · cases h
    · cases h
  · cases h

theorem tdOf_int {d : TypeDesc} {k : IntKind} (h : tdOf d = .int k) : d = .int k := by
  cases d <;> simp [tdOf] at h
  subst h; rfl
theorem tdOf_str {d : TypeDesc} (h : tdOf d = .str) : d = .string := by cases d <;> first | rfl | simp [tdOf] at h
theorem tdOf_slice {d : TypeDesc} {e : TypeId} (h : tdOf d = .slice e) : d = .slice e := by
  cases d <;> simp [tdOf] at h
  subst h; rfl
theorem tdOf_arr {d : TypeDesc} {n : Nat} {e : TypeId} (h : tdOf d = .arr n e) : d = .array n e := by
  cases d <;> simp [tdOf] at h
  obtain ⟨rfl, rfl⟩ := h; rfl
theorem tdOf_struct {d : TypeDesc} {fs : List (Nat × TypeId)} (h : tdOf d = .struct fs) : ∃ a : Array Field, d = .struct a ∧ fs = a.toList.map fun f => (f.offset, f.type) := by
  cases d <;> simp [tdOf] at h
  exact ⟨_, rfl, h.symm⟩

theorem field_get {a : Array Field} {f fo : Nat} {ft : TypeId} (h : (a.toList.map fun f => (f.offset, f.type))[f]? = some (fo, ft)) : ∃ fd, a[f]? = some fd ∧ fd.offset = fo ∧ fd.type = ft := by
  rw [List.getElem?_map] at h
  cases hf : a.toList[f]? with
  | none => rw [hf] at h; cases h
  | some fd =>
    rw [hf] at h
    simp only [Option.map_some, Option.some.injEq, Prod.mk.injEq] at h
    exact ⟨fd, by simpa using hf, h.1, h.2⟩

theorem conv_bytes {P : Program} (w : World) {q t e : TypeId} (e1 : P.underlying q = some (.slice e)) (hby : P.underlying e = some (.int .u8)) (hd1 : P.underlying t = some .string) {S : Nat → Prop} {xs : List Int} {x : Value}
    (hrep : RepT w S (.list (.int .u8)) xs [x]) : (convert q t x).run P w = .ok (.string (strOfNums xs)) w := by
  obtain ⟨ao, cap, k1, k2, k3, k4, k5⟩ := hrep
  simp only [List.cons.injEq, and_true] at k1
  subst k1
  cases ao with
  | none =>
    have hcap := k3 rfl
    have k2' : xs.length ≤ cap := k2
    have : xs = [] := List.eq_nil_of_length_eq_zero (by omega)
    subst this
    exact run_convert_bytes_nil w q e e1 hby _ _ t hd1
  | some a =>
    have ha := addr_eta (k4 a rfl)
    rw [ha]
    refine run_convert_bytes_arg w q e e1 hby a.block a.off _ cap xs rfl ?_ t hd1
    intro i hi
    obtain ⟨a', c, f1, f2, f3, f4⟩ := k5 i xs[i] (List.getElem?_eq_getElem hi)
    cases f1
    simp only [RepT] at f3; subst f3
    have := f4 0 _ rfl
    simp only [Ty.size, Nat.mul_one, Nat.add_zero] at this
    rw [this]
    simp [hi]

theorem conv_string {P : Program} (w : World) {q t e : TypeId} (s : List UInt8) (hlen : s.length < maxB) {u : TypeDesc} (hu1 : P.underlying q = some u) (e1 : P.underlying t = some (.slice e)) (hby : P.underlying e = some (.int .u8)) :
    ∃ w' cap arr fz, (convert q t (.string ⟨s.toArray⟩)).run P w = .ok (.slice (some ⟨w.heap.size, 0, none⟩) (bytesI s).length cap) w' ∧ Below w.heap.size w w' ∧
      w'.heap[w.heap.size]? = some (.cells arr e fz) ∧ arr.size = cap * (Ty.int .u8).size ∧ (bytesI s).length ≤ cap ∧ cap ≤ maxLen ∧ fzOK (.int .u8) arr.size fz ∧
      (∀ i (x : (Ty.int .u8).T), getq (α := Int) (bytesI s) i = some x → ∃ c, ∀ {S : Nat → Prop}, RepT w S (.int .u8) x c ∧ ∀ j u, c[j]? = some u → arr[i * (Ty.int .u8).size + j]? = some u) := by
  have hrun := Lib.run_convert_string_bytes (P := P) w q t e ⟨s.toArray⟩ hu1 e1 hby
  have hsz : (ByteArray.mk s.toArray).size = s.length := by simp [ByteArray.size]
  have hge := grownCap_ge w s.length 0 e
  refine ⟨Lib.bytesWorld w e ⟨s.toArray⟩, grownCap w s.length 0 e, Lib.bytesCells w e ⟨s.toArray⟩, _, ?_, ?_, Lib.bytesWorld_at_new _ _ _, ?_, ?_, ?_, ?_, ?_⟩
  · rw [hrun, hsz]; simp [bytesI]
  · exact ⟨rfl, rfl, rfl, by rw [Lib.bytesWorld_size]; omega, fun k hk => Lib.bytesWorld_at_old _ _ _ k hk⟩
  · simp [Lib.bytesCells, hsz, Ty.size]
    omega
  · simpa [bytesI] using hge
  · exact grownCap_le_maxLen w s.length 0 e (by unfold maxLen; unfold maxB at hlen; omega)
  · intro i hi
    rcases hi with hi | ⟨_, hi⟩
    · simp only
      omega
    · cases hi
  · intro i x hx
    have hi := getq_mem hx
    refine ⟨[.int .u8 x], rfl, fun j u hj => ?_⟩
    cases j with
    | succ j => simp at hj
    | zero =>
      simp only [List.getElem?_cons_zero, Option.some.injEq] at hj
      subst hj
      simp only [bytesI, List.length_map] at hi
      simp only [bytesI, getq, List.getElem?_map, List.getElem?_eq_getElem hi, Option.map_some] at hx
      have hx := Option.some.inj hx
      subst hx
      simp [Lib.bytesCells, Array.getElem?_append, hi, Ty.size]

include hE hm hev in
theorem core_convert {o : Oper} {q t : TypeId} {x : Operand} (ho : o.op = .convert q t x) (h : coreA E o.dst o.op ev m K = some r) : CoreOk w S γ m o.dst ((execOp el o).run P w) K r := by
  rw [ho] at h
  simp only [coreA] at h
  have hx := hev x
  split at h
  · rename_i qi ti hq ht
    obtain ⟨du, hu1, _⟩ := (hE q _ hq).und
    obtain ⟨d, hd1, hd2⟩ := (hE t _ ht).und
    split at h
    · rename_i k _ n hk hx'
      rw [hx'] at hx; simp only [RepA] at hx
      rw [hk] at hd2
      have := tdOf_int hd2; subst this
      refine .pure (v := .int k (k.wrap n)) (x := .int k (k.wrap n)) ?_ rfl h
      simp only [execOp, ho, hx]
      cases du <;> simp [convert, run_underlying hu1, run_underlying hd1, Conv.intToInt]
    · rename_i _ n hk hx'
      rw [hx'] at hx; simp only [RepA] at hx
      rw [hk] at hd2
      have := tdOf_str hd2; subst this
      refine .pure (v := .str (Utf8.encode n).data.toList) (x := .string (Utf8.encode n)) ?_ (by simp [RepA]) h
      simp only [execOp, ho, hx]
      cases du <;> simp [convert, run_underlying hu1, run_underlying hd1, Conv.intToString]
    · rename_i s hk hx'
      rw [hx'] at hx
      have hx2 := hx
      simp only [RepA] at hx
      rw [hk] at hd2
      have := tdOf_str hd2; subst this
      refine .pure (v := .str s) (x := .string ⟨s.toArray⟩) ?_ rfl h
      simp only [execOp, ho, hx]
      cases du <;> simp [convert, run_underlying hu1, run_underlying hd1]
    · rename_i v hk hx1 hx2
      rw [hk] at hd2
      have := tdOf_str hd2; subst this
      split at h
      · rename_i e ei he
        obtain ⟨e1, e2, e3⟩ := elemTy_some hE he
        split at h
        · rename_i xs hxs
          have hrep := seeList_rep hm hxs hx
          obtain ⟨dd, dd1, dd2⟩ := (hE e _ e2).und
          have hby : P.underlying e = some (.int .u8) := by
            have := ((hE e _ e2).ty _ e3).2.2.1
            simp only [tyD] at this
            have := TD.eq_spec this
            rw [this] at dd2
            rw [tdOf_int dd2] at dd1; exact dd1
          refine .pure (v := .str (bytesU xs)) (x := .string (strOfNums xs)) ?_ rfl h
          simp only [execOp, ho]
          rw [Sem.run_bind, conv_bytes w e1 hby hd1 hrep]
          rfl
        · cases h
      · cases h
    · rename_i s hk hx'
      rw [hx'] at hx; simp only [RepA] at hx
      split at h
      · rename_i e ei d he hd
        obtain ⟨e1, e2, e3⟩ := elemTy_some hE he
        obtain ⟨hlen, h⟩ := gd_some h
        have hlen := of_decide_eq_true hlen
        obtain ⟨dd, dd1, dd2⟩ := (hE e _ e2).und
        have hby : P.underlying e = some (.int .u8) := by
          have := ((hE e _ e2).ty _ e3).2.2.1
          simp only [tyD] at this
          have := TD.eq_spec this
          rw [this] at dd2
          rw [tdOf_int dd2] at dd1; exact dd1
        obtain ⟨w', cap, arr, fz, c1, c2, c3, c4, c5, c6, c7, c8⟩ := conv_string (q := q) w s hlen hu1 e1 hby
        refine CoreOk.newRow (t := .int .u8) (xs := bytesI s) (arr := arr) (cap := cap) hm hd (w' := w') ?_ c2 c3 c4 c5 c6 c7 (fun i x hx => let ⟨c, hc⟩ := c8 i x hx; ⟨c, hc⟩) h
        simp only [execOp, ho, hx]
        rw [Sem.run_bind, c1]
        rfl
      · cases h
    · cases h
  · cases h

end core
end Go.Dv
