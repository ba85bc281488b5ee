/- Arguments that are structs and arrays with slices in them, opened by their types' looks. -/
import Derived.Test.YtmffojmbfphidaaDoorDvLaid
set_option linter.all false
namespace Go.Dv
open Go.RowKit Go.ChangeShapes Go.WideShapes Go.ChangeAt

variable [LTab]

def fitsS (P : Program) : Nat → TypeId → Ty → Bool
  | 0, _, _ => false
  | k + 1, t, τ => match P.underlying t with
    | some d => match d with
      | .struct fs => Nat.beq (P.cellsOf t) τ.size && fitsL P (fitsS P k) (fs.toList.map fun f => (f.type, f.offset)) 0 τ
      | .array n e => Nat.beq (P.cellsOf t) τ.size && fitsL P (fitsS P k) ((List.range n).map fun i => (e, i * P.cellsOf e)) 0 τ
      | .slice e => match τ with | .list σ => !Nat.beq σ.size 0 && fitsT P k e σ && Nat.beq (P.cellsOf e) σ.size && Nat.ble σ.bytes (P.bytesOf e) | _ => false
      | _ => fitsT P (k + 1) t τ
    | none => false

def fitsA2 (P : Program) (k : Nat) (t : TypeId) (s : Sh) : Bool := match P.underlying t with
  | some d => match d with
    | .struct _ => match s with | .val τ => fitsS P k t τ | _ => false
    | .array _ _ => match s with | .val τ => fitsS P k t τ | _ => false
    | _ => fitsA P k t s
  | none => false

def fitsArgs2 (P : Program) (k : Nat) : List TypeId → Sh → Bool
  | [], s => match s with | .nil => true | _ => false
  | t :: ts, s => match ts with
    | [] => fitsA2 P k t s
    | _ :: _ => match s with | .cons a b => fitsA2 P k t a && fitsArgs2 P k ts b | _ => false

section
variable {H : Type} {enc : TypeId × Value → H} {P : Program} {w : World} {base : Nat} {spare : Nat → Bool} {held : Bool} {S : Nat → Prop}

def spotOk (v : Value) : Prop := ∀ a l c, v = .slice (some a) l c → a.spot = none

theorem spot_cell {t : TypeId} {v : Value} (h : Cell.okWide P w .any base t v) : spotOk v := by
  rintro a l c rfl
  unfold Cell.okWide at h
  split at h
  all_goals first | contradiction | skip
  unfold Cell.ok at h
  split at h
  all_goals first | contradiction | (rename_i e2; cases e2; done) | skip
  rename_i e1 e2
  have e3 := Option.some.inj (Value.slice.inj e2).1
  rw [e3]
  exact h.2.2.2.1

theorem open_partsS {F : TypeId → Ty → Bool} {m : Nat} {C : Value → Prop}
    (ih : ∀ (t : TypeId) (τ : Ty) (cs : List Value) (x : DataW H × List MemPlace), F t τ = true → DataW.trod enc P w base spare held m t cs = some x → (x.1.weights P t).all (· ≤ reachBytes) = true → (∀ v ∈ cs, C v) → ∃ v, RepT w S τ v cs ∧ okT τ v) :
    ∀ (l : List (TypeId × Nat)) (off : Nat) (τ : Ty) (cs : List Value) (xs : List (DataW H × List MemPlace)), fitsL P F l off τ = true → xs.length = l.length → cs.length = off + τ.size →
      (∀ (i : Nat) (p : TypeId × Nat), l[i]? = some p → DataW.trod enc P w base spare held m p.1 ((cs.drop p.2).take (P.cellsOf p.1)) = xs[i]?) →
      (DataW.weightsEach P (l.map (·.1)) (xs.map (·.1))).all (· ≤ reachBytes) = true → (∀ v ∈ cs, C v) → ∃ v, RepT w S τ v (cs.drop off) ∧ okT τ v
  | [], off, τ, cs, xs, hf, _, hl, _, _, _ => by
    cases τ <;> simp only [fitsL, Bool.false_eq_true] at hf
    exact ⟨(), List.drop_eq_nil_of_le (by simp [Ty.size] at hl; omega), trivial⟩
  | p :: r, off, τ, cs, [], hf, hx, _, _, _, _ => by simp at hx
  | p :: r, off, τ, cs, x :: xs, hf, hx, hl, ht, hw, hC => by
    simp only [fitsL, Bool.and_eq_true] at hf
    obtain ⟨h0, hf⟩ := hf
    have h0 := Nat.eq_of_beq_eq_true h0
    simp only [List.map_cons, DataW.weightsEach, List.all_append, Bool.and_eq_true] at hw
    obtain ⟨hw1, hw2⟩ := hw
    have hp := ht 0 p rfl
    rw [h0] at hp
    have hC' : ∀ v ∈ (cs.drop off).take (P.cellsOf p.1), C v := fun v hv => hC v (List.mem_of_mem_drop (List.mem_of_mem_take hv))
    cases r with
    | nil =>
      simp only [Bool.and_eq_true] at hf
      have hc := Nat.eq_of_beq_eq_true hf.2
      rw [hc, List.take_of_length_le (by simp; omega)] at hp
      exact ih _ _ _ _ hf.1 hp hw1 fun v hv => hC v (List.mem_of_mem_drop hv)
    | cons q r =>
      cases τ <;> simp only [Bool.false_eq_true] at hf
      rename_i a b
      simp only [Bool.and_eq_true] at hf
      obtain ⟨⟨hf1, hc⟩, hf2⟩ := hf
      have hc := Nat.eq_of_beq_eq_true hc
      rw [hc] at hp hC'
      obtain ⟨v, hv, ov⟩ := ih _ _ _ _ hf1 hp hw1 hC'
      obtain ⟨u, hu, ou⟩ := open_partsS ih (q :: r) (off + a.size) b cs xs hf2 (by simpa using hx) (by simp only [Ty.size] at hl; omega) (fun i p' hp' => by simpa using ht (i + 1) p' (by simpa using hp')) hw2 hC
      refine ⟨(v, u), ⟨(cs.drop off).take a.size, cs.drop (off + a.size), ?_, hv, hu⟩, ov, ou⟩
      rw [← List.drop_drop, List.take_append_drop]

theorem open_slice {k : Nat} {t e : TypeId} {τ : Ty} {m : Nat} {cs : List Value} {x : DataW H × List MemPlace} (ht : P.underlying t = some (.slice e)) (hf : fitsT P k e τ = true) (hz : τ.size ≠ 0) (hc : P.cellsOf e = τ.size) (hb : τ.bytes ≤ P.bytesOf e)
    (hsp : ∀ v ∈ cs, spotOk v) (h : DataW.trod enc P w 0 spare held m t cs = some x) (hw : (x.1.weights P t).all (· ≤ reachBytes) = true) :
    ∃ xs : List τ.T, RepT w (fun b => b < w.heap.size) (.list τ) xs cs ∧ okT (.list τ) xs := by
  rcases DataW.trod_slice ht h with ⟨rfl, _⟩ | ⟨a, len0, cap0, elems, rest, n, _, rfl, hx, _, hl, hm, hlen, hel, _, _⟩
  · exact ⟨([] : List τ.T), ⟨none, 0, rfl, Nat.le_refl _, fun _ => rfl, fun a h => (by cases h), fun i x hx => (by simp [getq] at hx)⟩, by simp, fun i x hx => (by simp [getq] at hx)⟩
  · subst hx
    simp only [DataW.weights, ht, List.all_cons, List.all_append, Bool.and_eq_true, decide_eq_true_eq, List.length_map] at hw
    obtain ⟨hw0, hw1, _⟩ := hw
    have spot : a.spot = none := hsp _ (by simp) a len0 cap0 rfl
    have wAll : ∀ (l : List (DataW H × List MemPlace)) (i : Nat) (y : DataW H × List MemPlace), (DataW.weightsAll P e (l.map (·.1))).all (· ≤ reachBytes) = true → l[i]? = some y → (y.1.weights P e).all (· ≤ reachBytes) = true := by
      intro l
      induction l with
      | nil => intro i y _ h; simp at h
      | cons z l ih =>
        intro i y hw h
        simp only [List.map_cons, DataW.weightsAll, List.all_append, Bool.and_eq_true] at hw
        cases i with
        | zero => simp at h; subst h; exact hw.1
        | succ i => exact ih i y hw.2 (by simpa using h)
    have each : ∀ i : Nat, i < len0 → ∃ (x : τ.T), ∃ c : List Value, RepT w (fun b => b < w.heap.size) τ x c ∧ okT τ x ∧ a.block < w.heap.size ∧ CellsAt w a.block (a.off + i * τ.size) c := by
      intro i hi
      have hi' : i < elems.length := by omega
      have h1 := hel i hi
      rw [List.getElem?_eq_getElem hi', Option.bind_eq_some_iff] at h1
      obtain ⟨cs, h1, h2⟩ := h1
      obtain ⟨_, hcl, hcs⟩ := World.cells?_some h1
      obtain ⟨x, hx, ox⟩ := open_fits (S := fun b => b < w.heap.size) k e τ n cs _ hf h2 (wAll elems i _ hw1 (List.getElem?_eq_getElem hi'))
      have hcell : ∀ j u, cs[j]? = some u → w.cell? ⟨a.block, a.off + i * τ.size + j, none⟩ = some u := by
        intro j u hu
        have hj := (List.getElem?_eq_some_iff.1 hu).1
        have := hcs j (by omega)
        rw [hu, hc] at this
        obtain ⟨a1, a2, a3⟩ := a
        simp only at spot
        subst spot
        have ad : ∀ (b o i : Nat), (⟨b, o, none⟩ : Addr).add i = ⟨b, o + i, none⟩ := by
          intro b o i
          unfold Addr.add
          split
          · rename_i h; subst h; rfl
          · rfl
        rw [ad, ad] at this
        exact this
      refine ⟨x, cs, hx, ox, ?_, hcell⟩
      have hz' : 0 < cs.length := by rw [RepT.length hx]; omega
      have := hcell 0 _ (List.getElem?_eq_getElem hz')
      unfold World.cell? at this
      split at this
      · rename_i hb
        exact (Array.getElem?_eq_some_iff.1 hb).1
      · cases this
    obtain ⟨xs, hxl, hxs⟩ := exists_list each
    subst hxl
    refine ⟨xs, ⟨some a, cap0, rfl, hl, fun h => (by cases h), fun a' h => by cases h; exact spot, fun i x hx => ?_⟩, ?_, fun i x hx => ?_⟩
    · obtain ⟨c, h1, _, h3, h4⟩ := hxs i x hx
      exact ⟨a, c, rfl, h3, h1, h4⟩
    · have : List.length xs * τ.bytes ≤ (elems.length + rest.length) * P.bytesOf e := Nat.mul_le_mul (by omega) hb
      omega
    · obtain ⟨c, _, h2, _⟩ := hxs i x hx
      exact h2

theorem open_fitsS : ∀ (k : Nat) (t : TypeId) (τ : Ty) (m : Nat) (cs : List Value) (x : DataW H × List MemPlace), fitsS P k t τ = true → DataW.trod enc P w 0 spare held m t cs = some x →
    (x.1.weights P t).all (· ≤ reachBytes) = true → (∀ v ∈ cs, spotOk v) → ∃ v, RepT w (fun b => b < w.heap.size) τ v cs ∧ okT τ v
  | 0, _, _, _, _, _, h, _, _, _ => by simp [fitsS] at h
  | k + 1, t, τ, m, cs, x, hf, h, hw, hsp => by
    simp only [fitsS] at hf
    split at hf
    · rename_i d hd
      split at hf
      · rename_i fs
        simp only [Bool.and_eq_true] at hf
        obtain ⟨hc, hf⟩ := hf
        have hc := Nat.eq_of_beq_eq_true hc
        obtain ⟨xs, n, rfl, rfl, hl, hxl, hx⟩ := DataW.trod_struct hd h
        simp only [DataW.weights, hd] at hw
        have := open_partsS (S := fun b => b < w.heap.size) (C := spotOk) (fun t τ cs x a b c d => open_fitsS k t τ n cs x a b c d) _ 0 τ cs xs hf (by simpa using hxl) (by omega)
          (fun i p hp => by
            simp only [List.getElem?_map, Option.map_eq_some_iff] at hp
            obtain ⟨f, hf', rfl⟩ := hp
            exact hx i f (by simpa using hf'))
          (by simpa [List.map_map, Function.comp_def] using hw) hsp
        simpa using this
      · rename_i n' e
        simp only [Bool.and_eq_true] at hf
        obtain ⟨hc, hf⟩ := hf
        have hc := Nat.eq_of_beq_eq_true hc
        obtain ⟨xs, n, rfl, rfl, hl, hxl, hx⟩ := DataW.trod_array hd h
        simp only [DataW.weights, hd] at hw
        have := open_partsS (S := fun b => b < w.heap.size) (C := spotOk) (fun t τ cs x a b c d => open_fitsS k t τ n cs x a b c d) _ 0 τ cs xs hf (by simpa using hxl) (by omega)
          (fun i p hp => by
            simp only [List.getElem?_map, Option.map_eq_some_iff] at hp
            obtain ⟨j, hj, rfl⟩ := hp
            have hj' := (List.getElem?_eq_some_iff.1 hj)
            obtain ⟨hlt, hj'⟩ := hj'
            simp at hj' hlt
            subst hj'
            exact hx i hlt)
          (by
            rw [List.map_map]
            have := weightsEach_map (P := P) (H := H) e (List.range n') (xs.map (·.1)) (by simpa using hxl)
            simp only [Function.comp_def]
            rw [this]; exact hw) hsp
        simpa using this
      · split at hf
        · simp only [Bool.and_eq_true, Bool.not_eq_true'] at hf
          obtain ⟨⟨⟨h1, h2⟩, h3⟩, h4⟩ := hf
          exact open_slice hd h2 (Nat.ne_of_beq_eq_false h1) (Nat.eq_of_beq_eq_true h3) (Nat.le_of_ble_eq_true h4) hsp h hw
        · cases hf
      · exact open_fits (S := fun b => b < w.heap.size) (k + 1) t τ m cs x hf h hw
    · cases hf

theorem open_arg2 {k : Nat} {t : TypeId} {s : Sh} {v : Value} {d : DataW H} {ps : List MemPlace} (hf : fitsA2 P k t s = true)
    (hval : Value.okWide P w .any base t v) (h : DataW.Trod enc P w 0 spare held t v d ps) (hw : (d.weights P t).all (· ≤ reachBytes) = true) :
    ∃ x : s.T, RepAs w (fun b => b < w.heap.size) g0 m0 (mkL s x) [v] ∧ okSh s x := by
  have one : ∀ {τ : Ty} {x : τ.T} {cs : Array Value}, v = .agg cs → RepT w (fun b => b < w.heap.size) τ x cs.toList → RepAs w (fun b => b < w.heap.size) g0 m0 [.agg (Dv.enc τ x)] [v] := by
    intro τ x cs hv hr
    exact ⟨v, [], rfl, ⟨cs.toList, by rw [hv], hr.enc, allOne_enc _ _⟩, rfl⟩
  have row : ∀ {cs : Array Value}, Row.okWide P w .any base t cs → ∀ u ∈ cs.toList, spotOk u := by
    rintro cs ⟨ts, _, _, hr⟩ u hu
    obtain ⟨i, hi, rfl⟩ := List.getElem_of_mem hu
    obtain ⟨u', _, hok⟩ := hr i cs.toList[i] (by
      have hi' : i < cs.size := by simpa using hi
      rw [Array.getElem?_eq_getElem hi']
      simp)
    exact spot_cell hok
  simp only [fitsA2] at hf
  split at hf
  · rename_i dd hd
    split at hf
    · split at hf
      · obtain ⟨fuel, h⟩ := h
        simp only [Value.okWide, hd] at hval
        obtain ⟨cs, rfl, _, hr⟩ := hval
        obtain ⟨x, hx, ox⟩ := open_fitsS _ _ _ _ _ _ hf h hw (row hr)
        exact ⟨x, one rfl hx, ox⟩
      · cases hf
    · split at hf
      · obtain ⟨fuel, h⟩ := h
        simp only [Value.okWide, hd] at hval
        obtain ⟨cs, rfl, _, hr⟩ := hval
        obtain ⟨x, hx, ox⟩ := open_fitsS _ _ _ _ _ _ hf h hw (row hr)
        exact ⟨x, one rfl hx, ox⟩
      · cases hf
    · exact open_arg hf hval h hw
  · cases hf

theorem open_args2 {k : Nat} : ∀ (ts : List TypeId) (s : Sh) (vs : List Value) (ds : List (DataW H)) (ps : List MemPlace), fitsArgs2 P k ts s = true → DataW.TrodAll enc P w 0 spare held ts vs ds ps →
    (∀ (j : Nat) t v, ts[j]? = some t → vs[j]? = some v → Value.okWide P w .any base t v) → (DataW.weightsEach P ts ds).all (· ≤ reachBytes) = true →
    ∃ x : s.T, RepAs w (fun b => b < w.heap.size) g0 m0 (mkL s x) vs ∧ okSh s x
  | [], s, vs, ds, ps, hf, h, _, _ => by
    simp only [fitsArgs2] at hf
    split at hf
    · obtain ⟨rfl, rfl, rfl⟩ := trodAll_nil h
      exact ⟨(), rfl, trivial⟩
    · cases hf
  | t :: ts, s, vs, ds, ps, hf, h, hval, hw => by
    obtain ⟨v, vs, d, ds, p, q, rfl, rfl, rfl, h0, h1⟩ := trodAll_cons h
    simp only [DataW.weightsEach, List.all_append, Bool.and_eq_true] at hw
    cases ts with
    | nil =>
      simp only [fitsArgs2] at hf
      obtain ⟨rfl, rfl, rfl⟩ := trodAll_nil h1
      exact open_arg2 hf (hval 0 t v rfl rfl) h0 hw.1
    | cons t' ts =>
      simp only [fitsArgs2] at hf
      split at hf
      · rename_i a b
        simp only [Bool.and_eq_true] at hf
        obtain ⟨x, hx, ox⟩ := open_arg2 hf.1 (hval 0 t v rfl rfl) h0 hw.1
        obtain ⟨y, hy, oy⟩ := open_args2 (t' :: ts) b vs ds q (by simpa [fitsArgs2] using hf.2) h1 (fun j t v ht hv => hval (j + 1) t v (by simpa using ht) (by simpa using hv)) hw.2
        exact ⟨(x, y), RepAs.append hx hy, ox, oy⟩
      · cases hf
end

/-- the like, for arguments with slices in structs and arrays -/
theorem law_lifted_laid2 {H : Type} {enc : TypeId × Value → H} {C : Checked} {os : Os} {f : FuncId} {fn : Func} {s : ChangeSpec} {conds : List PathCond} {u : TypeId} {sh : Sh} {F : sh.T → Option Bool} {k : Nat} {X : World → Array Value → Prop}
    (hX : ∀ (w w' : World) (args : Array Value), w.heap = w'.heap → X w args → X w' args)
    (own : ownKnob C.prog.godebug = none) (started : os.Started) (noInit : C.prog.inits.idxOf? f = none) (hfn : C.prog.funcs[f]? = some fn)
    (witness : ∃ (w : World) (tape : Tape) (i : Input), w.os = os ∧ (w.forCall tape i).Shaped C.prog ∧ i.vars = [] ∧ Input.okWide C.prog (w.forCall tape i) .any w.heap.size f i ∧
      ((s.pre enc C.prog fn conds false (w.forCall tape i).memory i.args ∧ X (w.forCall tape i).memory i.args) ∧ sizedMet enc C.prog fn (OpenSpec.ofChange s) false (w.forCall tape i).memory i.args) ∧ Assume.holds {} C.prog (lone (Frame.enter C.prog f i.args .normal) [] (w.forCall tape i)))
    (laid : laidOutB C.prog = true) (hread : (fn.params.toList.all fun t => C.prog.readableRec t && Nat.blt t C.prog.types.size) = true)
    (hres : fn.resultTypes = #[u]) (hu : C.prog.underlying u = some .bool) (hvars : s.vars = [])
    (hspec : ∀ (ds : List (DataW H)), ds.length = fn.params.size → s.fn H ds = { results := [.lit (.bool true)], args := ds })
    (hs : SoundF C.prog f fun avs => (ctrOf sh .bool [] F).run avs some)
    (hfit : fitsArgs2 C.prog k fn.params.toList sh = true) (hget : ∀ x, allDone (getP m0 [] sh (mkL sh x)) = some x)
    (law : ∀ x, okSh sh x → F x = some true) :
    ReturnsInHanded {} C os f .any (fun w args => (s.pre enc C.prog fn conds false w args ∧ X w args) ∧ sizedMet enc C.prog fn (OpenSpec.ofChange s) false w args) (s.post enc C.prog fn false true false false) := by
  refine returnsInHanded_of_change_and hX own started noInit hfn witness ?_
  intro W base args ds gs before hval hW hcnd hsz _ _
  have hW' := hW
  obtain ⟨p, q, hA, hV, rfl, hfz, hnd⟩ := hW
  rw [hvars] at hV
  obtain ⟨rfl, rfl⟩ := trodVars_none hV
  have hlen := trodAll_len _ _ _ _ hA
  have hwe : (DataW.weightsEach C.prog fn.params.toList ds).all (· ≤ reachBytes) = true := by
    have : ∀ (ts us : List TypeId) (ds : List (DataW H)), ds.length = ts.length → DataW.weightsEach C.prog (ts ++ us) ds = DataW.weightsEach C.prog ts ds := by
      intro ts
      induction ts with
      | nil => intro us ds h; simp at h; subst h; cases us <;> simp [DataW.weightsEach]
      | cons t ts ih =>
        intro us ds h
        cases ds with
        | nil => simp at h
        | cons d ds => simp only [List.cons_append, DataW.weightsEach]; rw [ih us ds (by simpa using h)]
    rw [List.append_nil, this _ _ _ hlen] at hsz
    exact hsz
  obtain ⟨x, hx, ox⟩ := open_args2 (k := k) (base := base) _ sh _ _ _ hfit hA (fun j t v ht hv => hval j t v (by simpa using ht) (by simpa using hv)) hwe
  have hF := law x ox
  have hrun : (ctrOf sh .bool [] F).run (mkL sh x) some = some (.bool true) := by
    simp only [Ctr.run, ctrOf, hget, hF]
    rfl
  obtain ⟨_, hc⟩ := hs W (fun b => b < W.heap.size) (mkL sh x) args.toList (.bool true) (fun b h => h) hx hrun
  refine hc.mono fun e W' he => ?_
  obtain ⟨v, S', ls, rfl, bel, _, _, hv, _⟩ := he
  obtain ⟨rfl, hv⟩ := hv
  have hv : v = .bool true := hv
  subst hv
  refine ⟨_, rfl, ds, [], p ++ [], [], p, [], hW', ?_, ?_, ?_, bel.frame _, fun h => by cases h⟩
  · rw [List.append_nil, hspec ds (by simpa using hlen), hres]
    exact trodAll_mk1 (shut_bool hu _)
  · rw [List.append_nil, hspec ds (by simpa using hlen)]
    refine below_trodAll laid bel _ _ _ _ (fun t ht => ?_) hA
    have := List.all_eq_true.1 hread t ht
    simp only [Bool.and_eq_true] at this
    exact ⟨this.1, by simpa using this.2⟩
  · rw [List.append_nil, hspec ds (by simpa using hlen), hvars]
    rfl
end Go.Dv
