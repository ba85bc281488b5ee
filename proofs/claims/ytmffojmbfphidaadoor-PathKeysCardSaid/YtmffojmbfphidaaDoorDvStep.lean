/- One operation: where the evaluator has a next state, the model comes to a state that is related to it. -/
import Derived.Test.YtmffojmbfphidaaDoorDvStill
import Derived.OrdersIn
import Derived.RangeFuncCalls
set_option linter.all false
namespace Go.Dv
open Go.RowKit

variable [LTab]

variable {R : Type}

theorem callsIn_RF (ro : Option Nat) {P : Program} {f : FuncId} {args : Array Value} {w : World} {R : Ending → World → Prop} {n : Nat} (h : Calls P f args w R) : CallsIn (RF ro) n P f args w R := by
  have h : CallsIn (RF none) n P f args w R := callsIn_wide.2 h
  cases ro with
  | none => exact h
  | some l => exact CallsIn.inRound l h

theorem mupdL_hi {d : Nat} : ∀ {os : List MO} {m : Nat → Option MO} {k n : Nat}, nm d (k + os.length) ≤ n → mupdL m d k os n = m n
  | [], _, _, _, _ => rfl
  | o :: os, m, k, n, h => by
    simp only [List.length_cons] at h
    simp only [mupdL]
    rw [mupdL_hi (by unfold nm at h ⊢; omega), mupd_ne _ _ (by unfold nm at h ⊢; omega)]

structure EnvOk (P : Program) (E : Env) : Prop where
  ty : ∀ t ti, E.ty t = some ti → TIok P t ti
  eq : ∀ t n, E.eqt t n = true → EqOk P t n ∧ P.eqGuardType P.depth t = false
  call : ∀ f, SoundF P f (fun as => E.callK f as some)
  callM : ∀ f c, c ∈ E.callM f → SoundM P f c
  rounds : ∀ id c, E.rounds id = some c → SoundR P id c
  meth : ∀ t name f, E.meth t name = some f → ∀ (v : Value) (w : World), (method (P.types.size + Made.depth) t v name).run P w = .ok (f, v) w

section core
variable {P : Program} {E : Env} (hE : EnvOk P E) {w : World} {S : Nat → Prop} {γ : Nat → Loc} {m : Nat → Option MO} {base : Nat → Prop} (hm : MemRel w S γ m base)
  {ev : Operand → AV} {el : Operand → Value} (hev : ∀ x, RepA w S γ m (ev x) (el x)) {K : AV → Option MO → Option R} {r : R}

include hE hm hev in
theorem core_ok {o : Oper} (h : coreA E o.dst o.op ev m K = some r) : CoreOk w S γ m o.dst ((execOp el o).run P w) K r := by
  cases ho : o.op with
  | move x => rw [ho] at h; exact core_move hev ho h
  | nilCheck x => rw [ho] at h; exact core_nilCheck hev ho h
  | assign x => rw [ho] at h; exact core_assign hev ho h
  | pick c a b => rw [ho] at h; exact core_pick hev ho h
  | alloc t => exact core_alloc hE.ty hm ho h
  | box t x => exact core_box hm hev ho h
  | build t ps => exact core_build hE.ty hev ho h
  | buildSlice t n ps => exact core_buildSlice hE.ty hm hev ho h
  | load t x => exact core_load hE.ty hm hev ho h
  | binOp op t x y t' => exact core_binOp hE.ty hev hE.eq ho h
  | unOp op t x => exact core_unOp hev ho h
  | convert q t x => exact core_convert hE.ty hm hev ho h
  | makeInterface t x => exact core_makeInterface hE.ty hev ho h
  | makeFunc f a b => exact core_makeFunc hev ho h
  | makeSlice t n c => exact core_makeSlice hE.ty hev hm ho h
  | slice t x lo hi mx => exact core_slice hE.ty hm hev ho h
  | fieldAddr s x f => exact core_fieldAddr hE.ty hev ho h
  | field s x f => exact core_field hE.ty hev ho h
  | indexAddr t x i => exact core_indexAddr hE.ty hm hev ho h
  | index t x i => exact core_index hE.ty hev ho h
  | extract x i => exact core_extract hev ho h
  | call c =>
    obtain ⟨callee, args, ts⟩ := c
    cases callee with
    | value f => rw [ho] at h; simp [coreA] at h
    | invoke x n => rw [ho] at h; simp [coreA] at h
    | builtin b =>
      cases b with
      | len => exact core_len hE.ty hev ho h
      | min => exact core_min hev ho h
      | max => exact core_max hev ho h
      | _ => rw [ho] at h; simp [coreA] at h
  | _ => rw [ho] at h; simp [coreA] at h

end core

section step
variable {ro : Option Nat} {P : Program} {E : Env} (hE : EnvOk P E) {X : Cx} {w : World} {S : Nat → Prop} {γ : Nat → Loc} {σ : St} {a : Act} (hrel : Rel X w S γ σ a)

include hrel in
/-- behind an operation that writes -/
theorem Rel.wrote {w' : World} {γ' : Nat → Loc} {m' : Nat → Option MO} {ρ' : Nat → AV} {a' : Act} (hb : Bel X.B w w') (hdom : ∀ n, m' n ≠ none → σ.m n ≠ none ∨ n < 4096) (hk : Keeps σ.m γ m' γ') (hm : MemRel w' S γ' m' X.B) (ht : ∀ t, RepA w' S γ' m' (ρ' t) (a'.tmps.getD t undef)) (hd : a'.defers = a.defers) (hs : a'.tmps.size = a.tmps.size) :
    Rel X w' S γ' ⟨ρ', m'⟩ a' :=
  ⟨hm, ht, hrel.below.trans hb, hrel.base_le, hrel.s0, hrel.snew, by rw [hd]; exact hrel.defers.mono hb.others (fun _ _ h => h),
    pin_keep hrel.pin hk (fun n l hl hn => (hdom n hn).elim id fun h => by have := hrel.pnhi n l hl; omega), hrel.pnhi, by rw [hs]; exact hrel.small⟩

include hE hrel in
/-- a call -/
theorem call_ok {o : Oper} {f : FuncId} {as : List AV} {vals : List Value} {σ' : St} (hd : dstLt a.tmps.size o.dst) (hr : RepAs w S γ σ.m as vals) (h : callA E σ.m f as (doneA σ o.dst some) = some σ') :
    (∀ w' (args : Array Value), (callFunc f args).run P w' = .ok (.enter f args) w') ∧
    Calls P f vals.toArray w fun e w' => ∃ v, e = .returned v ∧ ∃ S' γ', Rel X w' S' γ' σ' (a.put o.dst v) := by
  have fin : ∀ {S1 : Nat → Prop} {bs : List AV} {r : AV}, (∀ b, S1 b → b < w.heap.size) → (∀ b, S b → S1 b) → RepAs w S1 g0 m0 bs vals → E.callK f bs some = some r → (scal r = true ∨ S1 = S) → doneA σ o.dst some r = some σ' →
      (∀ w' (args : Array Value), (callFunc f args).run P w' = .ok (.enter f args) w') ∧
      Calls P f vals.toArray w fun e w' => ∃ v, e = .returned v ∧ ∃ S' γ', Rel X w' S' γ' σ' (a.put o.dst v) := by
    intro S1 bs r hlow hS1 hbs hc hsc hdone
    obtain ⟨c1, c2⟩ := hE.call f w S1 bs vals r hlow hbs hc
    refine ⟨c1, c2.mono fun e w' => ?_⟩
    rintro ⟨v, S', ls, rfl, hb, k1, k2, k3, k4⟩
    refine ⟨v, rfl, ?_⟩
    -- what is written no more from here on
    obtain ⟨S2, h1, h2, h3⟩ : ∃ S2 : Nat → Prop, (∀ b, S b → S2 b) ∧ (∀ b, S2 b → S b ∨ (w.heap.size ≤ b ∧ b < w'.heap.size)) ∧ RepX w' S2 r v ls := by
      rcases hsc with hsc | rfl
      · exact ⟨S, fun _ h => h, fun _ h => .inl h, scal_rep (S' := S) (fun b hb => k1 b (hS1 b hb)) r v ls hsc k3⟩
      · exact ⟨S', k1, k2, k3⟩
    have hmem := hrel.mem.grow hb
    have hmem2 : MemRel w' S2 γ σ.m X.B := by
      refine ⟨fun n o ho => ?_, fun b hb' => ?_, hmem.apart, hmem.high⟩
      · refine ObjRel.later (hrel.mem.obj n o ho) (fun b hb' => hb.block b (hrel.mem.low b hb')) h1 (Keeps.refl _ _) rfl fun hl b hbk => ?_
        have hlt := ObjRel.lt (hrel.mem.obj n o ho) hl hbk
        exact ⟨hb.block b hlt, fun hs => (h2 b hs).elim (ObjRel.notS (hrel.mem.obj n o ho) hl hbk).1 fun hs => by omega⟩
      · rcases h2 b hb' with hs | hs
        · exact Nat.lt_of_lt_of_le (hrel.mem.low b hs) hb.size
        · exact hs.2
    have htm : ∀ t, RepA w' S2 γ σ.m (σ.ρ t) (a.tmps.getD t undef) := fun t => RepA.mono (fun b hb' => hb.block b (hrel.mem.low b hb')) h1 (Keeps.refl _ _) _ _ (hrel.tm t)
    have hfree : Free X.B γ σ.m ls := by
      refine ⟨fun l hl b hbl => ⟨fun hB => by have := hrel.size_le b hB; have : ¬ b < w.heap.size := k4.new l hl b hbl; omega, fun k q hq hlq hbq => ?_⟩, k4.once⟩
      have := ObjRel.lt (hrel.mem.obj k q hq) hlq hbq
      have : ¬ b < w.heap.size := k4.new l hl b hbl
      omega
    have snew : ∀ b, S2 b → X.S0 b ∨ ¬ X.B b := fun b hs => by
      rcases h2 b hs with hs | hs
      · exact hrel.snew b hs
      · exact .inr fun hB => by have := hrel.size_le b hB; omega
    have hbel := Below.bel hb hrel.size_le
    have hmarks : MarksOk X.N w' S2 a.defers := hrel.defers.mono hbel.others fun D hD hs => by
      rcases h2 D hs with hs | hs
      · exact hs
      · have := (Array.getElem?_eq_some_iff.1 hD).1; omega
    unfold doneA at hdone
    split at hdone
    · rename_i d hdst
      obtain ⟨hfr, hdone⟩ := gd_some hdone
      simp only [Bool.and_eq_true, few, Nat.blt_eq] at hfr
      obtain ⟨hfl, hfr⟩ := hfr
      cases hdone
      obtain ⟨γ', t1, t2, _⟩ := impV_rep (d := d) r v ls 0 γ σ.m hmem2 h3 hfree hfr
      refine ⟨S2, γ', t1.mem, ?_, hrel.below.trans hbel, hrel.base_le, fun b h => h1 b (hrel.s0 b h), snew, by rw [put_defers]; exact hmarks, pin_keep hrel.pin t1.keeps (fun n l hl hn => ?_), hrel.pnhi, by rw [put_size]; exact hrel.small⟩
      rotate_left
      · have := hrel.pnhi n l hl
        have hdl : d < 4096 := by have := hrel.small; rw [hdst] at hd; exact Nat.lt_of_lt_of_le hd this
        have hn : mupdL σ.m d 0 (impV d 0 r).2 n ≠ none := hn
        rwa [mupdL_hi (d := d) (k := 0) (n := n) (os := (impV d 0 r).2) (by unfold nm; omega)] at hn
      have := put_rep (a := a) (ρ := σ.ρ) (dst := some d) (fun t => RepA.mono (fun _ _ => rfl) (fun _ h => h) t1.keeps _ _ (htm t)) t2 (by rw [hdst] at hd; exact hd)
      rw [hdst]
      exact this
    · rename_i hdst
      obtain ⟨_, hdone⟩ := gd_some hdone
      cases hdone
      refine ⟨S2, γ, hmem2, ?_, hrel.below.trans hbel, hrel.base_le, fun b h => h1 b (hrel.s0 b h), snew, by rw [put_defers]; exact hmarks, hrel.pin, hrel.pnhi, by rw [put_size]; exact hrel.small⟩
      rw [hdst]; exact htm
  unfold callA at h
  split at h
  · rename_i bs hbs
    rw [E.callK_nat] at h
    cases hr' : E.callK f bs some with
    | none => rw [hr'] at h; cases h
    | some r =>
      rw [hr'] at h
      obtain ⟨i1, _⟩ := mapO_rep (S' := S) (seeV_rep hrel.mem (fun _ h => h) (fun h => by cases h) 8) as bs vals hbs hr
      exact fin hrel.mem.low (fun _ h => h) i1 hr' (.inr rfl) h
  · split at h
    · rename_i bs hbs
      rw [E.callK_nat] at h
      cases hr' : E.callK f bs some with
      | none => rw [hr'] at h; cases h
      | some r =>
        rw [hr'] at h
        obtain ⟨hsc, h⟩ := gd_some h
        obtain ⟨i1, _⟩ := mapO_rep (S' := fun b => b < w.heap.size) (seeV_rep hrel.mem hrel.mem.low (fun _ b h => h) 8) as bs vals hbs hr
        exact fin (fun _ h => h) hrel.mem.low i1 hr' (.inl hsc) h
    · cases h

include hE hrel in
theorem opB_wp {o : Oper} {σ' : St} (h : opB E o σ some = some σ') (hd : dstLt a.tmps.size o.dst) {K : Act → World → Prop} {Q : Exit → Act → World → Prop}
    (hK : ∀ a' w' S' γ', Rel X w' S' γ' σ' a' → a'.tmps.size = a.tmps.size → K a' w') : o.wpIn (RF ro) 0 P a w K Q := by
  have hev : ∀ x, RepA w S γ σ.m (σ.ev x) (a.eval x) := hrel.ev
  have hnd : ∀ c, o.op ≠ .defer c := fun c e => by
    unfold opB at h
    rcases bif_some h with ⟨h1, _⟩ | ⟨_, h⟩
    · simp [preO, e] at h1
    · rw [e] at h; simp [coreA] at h
  unfold Oper.wpIn
  refine ⟨fun _ _ => trivial, ?_⟩
  rw [Oper.semAt_eq _ _ _ hnd]
  unfold opB at h
  rcases bif_some h with ⟨_, h⟩ | ⟨_, h⟩
  · unfold preS at h
    split at h
    · rename_i x args ts d ho hdst
      split at h
      · rename_i f caps hx
        have hfv := hev x
        rw [hx] at hfv
        obtain ⟨vs, hxv, hcaps⟩ := hfv
        have hargs : RepAs w S γ σ.m (args.toList.map σ.ev ++ caps) (args.toList.map a.eval ++ vs) := (RepAs.map hev _).append hcaps
        obtain ⟨c1, c2⟩ := mems_ok hrel hargs (dst := some d) (d := d) (by rw [hdst] at hd; exact hd) (by rw [hdst] at hd; exact Nat.lt_of_lt_of_le hd hrel.small) (hE.callM f) h
        have hrun : (execOp a.eval o).run P w = .ok (.enter f (args.toList.map a.eval ++ vs).toArray) w := by
          simp only [execOp, ho, resolve, hxv, Deferred.ofValue, Sem.run_bind, Sem.run_pure, Result.andThen_ok, invoke]
          have : (#[] ++ Array.map a.eval args ++ vs.toArray) = (args.toList.map a.eval ++ vs).toArray := by
            apply Array.ext'; simp
          rw [this]; exact c1 w _
        rw [hrun, Oper.uponIn_enter]
        refine ⟨fun _ => by contradiction, (callsIn_RF ro c2).mono fun e w' => ?_⟩
        rintro ⟨v, rfl, S', γ', hr, _⟩
        rw [hdst]
        exact hK _ _ S' γ' hr (put_size _ _ _)
      · rename_i n hx
        have hfv := hev x
        rw [hx] at hfv
        obtain ⟨l, fn, tmps, as, bd, hxv, hy, hR⟩ := yld_ok hE.rounds hrel (RepAs.map hev args.toList) (d := d) (by rw [hdst] at hd; exact hd) hfv h
        have hrun : (execOp a.eval o).run P w = .ok (.round l fn tmps as bd) w := by
          simp only [execOp, ho, resolve, hxv, Deferred.ofValue, Sem.run_bind, Sem.run_pure, Result.andThen_ok, invoke]
          have : (#[] ++ Array.map a.eval args) = (args.toList.map a.eval).toArray := by
            apply Array.ext'; simp
          rw [this]; exact hy
        rw [hrun, Oper.uponIn_round]
        refine ⟨fun _ => by contradiction, (roundIn_RF ro hR).mono fun e w' => ?_⟩
        rintro ⟨v, rfl, S', γ', hr⟩
        rw [hdst]
        exact hK _ _ S' γ' hr (put_size _ _ _)
      · cases h
    · rename_i x name args ts d ho hdst
      split at h
      · rename_i t v hx
        have hfv := hev x
        rw [hx] at hfv
        obtain ⟨u, hxv, hv⟩ := hfv
        split at h
        · rename_i f hf
          have hargs : RepAs w S γ σ.m (v :: args.toList.map σ.ev) (u :: args.toList.map a.eval) := ⟨u, _, rfl, hv, RepAs.map hev _⟩
          obtain ⟨c1, c2⟩ := mems_ok hrel hargs (dst := some d) (d := d) (by rw [hdst] at hd; exact hd) (by rw [hdst] at hd; exact Nat.lt_of_lt_of_le hd hrel.small) (hE.callM f) h
          have hm := hE.meth t name f hf u w
          have hrun : (execOp a.eval o).run P w = .ok (.enter f (u :: args.toList.map a.eval).toArray) w := by
            simp only [execOp, ho, resolve, hxv, Sem.run_bind, Sem.run_pure, Result.andThen_ok, invoke]
            have h0 : (#[Value.iface t u] ++ Array.map a.eval args)[0]? = some (.iface t u) := by
              rw [Array.getElem?_append_left (by simp)]; rfl
            have h1 : (#[Value.iface t u] ++ Array.map a.eval args).extract 1 (#[Value.iface t u] ++ Array.map a.eval args).size = Array.map a.eval args := by
              apply Array.ext'
              simp
              exact List.take_of_length_le (by simp)
            rw [h0]
            simp only [h1, callMethod, Sem.run_bind, run_program, Result.andThen_ok, hm]
            have h2 : (#[u] ++ Array.map a.eval args) = (u :: args.toList.map a.eval).toArray := by
              apply Array.ext'; simp
            rw [h2]; exact c1 w _
          rw [hrun, Oper.uponIn_enter]
          refine ⟨fun _ => by contradiction, (callsIn_RF ro c2).mono fun e w' => ?_⟩
          rintro ⟨v, rfl, S', γ', hr, _⟩
          rw [hdst]
          exact hK _ _ S' γ' hr (put_size _ _ _)
        · cases h
      · cases h
    · rename_i T x y d ho hdst
      obtain ⟨v, m', k1, w', γ', nx, k2, k3, k0, k4, k5, k6, x, rfl, k7⟩ := pre_ok (P := P) hE.ty hrel.mem hev ho h
      cases k1
      rw [k2, Oper.uponIn_value]
      rw [hdst] at hd ⊢
      refine hK _ _ S γ' (hrel.wrote k3 (fun n hn => (k0 n hn).imp id fun e => by have e : n = d := e; subst e; exact Nat.lt_of_lt_of_le hd hrel.small) k5 k4 (fun t => ?_) (put_defers _ _ _) (put_size _ _ _)) (put_size _ _ _)
      exact put_rep (dst := some d) (fun t => RepA.mono k6 (fun _ h => h) k5 _ _ (hrel.tm t)) k7 hd t
    · cases h
  split at h
  · -- store
    rename_i t p x ho
    obtain ⟨m', k1, w', γ', nx, k2, k3, k0, k4, k5, k6, k7⟩ := store_ok (P := P) hE.ty hrel.mem hev ho h
    simp only at k7
    subst k7
    cases k1
    rw [k2, Oper.uponIn_skip]
    refine hK _ _ S γ' (hrel.wrote k3 (fun n hn => (k0 n hn).imp id False.elim) k5 k4 (fun t => ?_) (put_defers _ _ _) (put_size _ _ _)) (put_size _ _ _)
    exact put_rep (fun t => RepA.mono k6 (fun _ h => h) k5 _ _ (hrel.tm t)) (v := .undef) (x := undef) trivial hd t
  · -- append
    rename_i args ts ho
    split at h
    · rename_i d b1 b2 t1 t2 hdst ha ht
      have ha' : args = #[b1, b2] := by apply Array.ext'; simpa using ha
      have ht' : ts = #[t1, t2] := by apply Array.ext'; simpa using ht
      subst ha'; subst ht'
      obtain ⟨v, m', k1, w', γ', nx, k2, k3, k0, k4, k5, k6, x, rfl, k7⟩ := app_ok (P := P) hE.ty hrel.mem hrel.size_le hev ho h
      cases k1
      rw [k2, Oper.uponIn_value]
      rw [hdst] at hd ⊢
      refine hK _ _ S γ' (hrel.wrote k3 (fun n hn => (k0 n hn).imp id fun e => by have e : n = d := e; subst e; exact Nat.lt_of_lt_of_le hd hrel.small) k5 k4 (fun t => ?_) (put_defers _ _ _) (put_size _ _ _)) (put_size _ _ _)
      exact put_rep (dst := some d) (fun t => RepA.mono k6 (fun _ h => h) k5 _ _ (hrel.tm t)) k7 hd t
    · cases h
  · -- a function value
    rename_i x args ts ho
    split at h
    · rename_i f caps hx
      have hfv := hev x
      rw [hx] at hfv
      obtain ⟨vs, hxv, hcaps⟩ := hfv
      have hargs : RepAs w S γ σ.m (args.toList.map σ.ev ++ caps) (args.toList.map a.eval ++ vs) := (RepAs.map hev _).append hcaps
      obtain ⟨c1, c2⟩ := call_ok hE hrel hd hargs h
      have hrun : (execOp a.eval o).run P w = .ok (.enter f (args.toList.map a.eval ++ vs).toArray) w := by
        simp only [execOp, ho, resolve, hxv, Deferred.ofValue, Sem.run_bind, Sem.run_pure, Result.andThen_ok, invoke]
        have : (#[] ++ Array.map a.eval args ++ vs.toArray) = (args.toList.map a.eval ++ vs).toArray := by
          apply Array.ext'; simp
        rw [this]; exact c1 w _
      rw [hrun, Oper.uponIn_enter]
      refine ⟨fun _ => by contradiction, (callsIn_RF ro c2).mono fun e w' => ?_⟩
      rintro ⟨v, rfl, S', γ', hr⟩
      exact hK _ _ S' γ' hr (put_size _ _ _)
    · cases h
  · -- a method
    rename_i x name args ts ho
    split at h
    · rename_i t v hx
      have hfv := hev x
      rw [hx] at hfv
      obtain ⟨u, hxv, hv⟩ := hfv
      split at h
      · rename_i f hf
        have hargs : RepAs w S γ σ.m (v :: args.toList.map σ.ev) (u :: args.toList.map a.eval) := ⟨u, _, rfl, hv, RepAs.map hev _⟩
        obtain ⟨c1, c2⟩ := call_ok hE hrel hd hargs h
        have hm := hE.meth t name f hf u w
        have hrun : (execOp a.eval o).run P w = .ok (.enter f (u :: args.toList.map a.eval).toArray) w := by
          simp only [execOp, ho, resolve, hxv, Sem.run_bind, Sem.run_pure, Result.andThen_ok, invoke]
          have h0 : (#[Value.iface t u] ++ Array.map a.eval args)[0]? = some (.iface t u) := by
            rw [Array.getElem?_append_left (by simp)]; rfl
          have h1 : (#[Value.iface t u] ++ Array.map a.eval args).extract 1 (#[Value.iface t u] ++ Array.map a.eval args).size = Array.map a.eval args := by
            apply Array.ext'
            simp
            exact List.take_of_length_le (by simp)
          rw [h0]
          simp only [h1, callMethod, Sem.run_bind, run_program, Result.andThen_ok, hm]
          have h2 : (#[u] ++ Array.map a.eval args) = (u :: args.toList.map a.eval).toArray := by
            apply Array.ext'; simp
          rw [h2]; exact c1 w _
        rw [hrun, Oper.uponIn_enter]
        refine ⟨fun _ => by contradiction, (callsIn_RF ro c2).mono fun e w' => ?_⟩
        rintro ⟨v, rfl, S', γ', hr⟩
        exact hK _ _ S' γ' hr (put_size _ _ _)
      · cases h
    · cases h
  · -- all others
    obtain ⟨x, w', v, ob, k1, k2, k3, k4⟩ := core_ok hE hrel.mem hev h
    rw [k1, Oper.uponIn_value]
    cases ob with
    | none =>
      simp only [Option.some.injEq] at k3
      subst k3
      exact hK _ _ S γ (hrel.val k2 k4 hd) (put_size _ _ _)
    | some ob =>
      obtain ⟨d, l, hdst, hl, hnew, k4⟩ := k4
      simp only [hdst] at k3
      split at k3
      · rename_i hmd
        simp only [Option.some.injEq] at k3
        subst k3
        obtain ⟨k5, k6⟩ := k4 hmd
        rw [hdst] at hd ⊢
        exact hK _ _ S _ (hrel.new k2 hmd k5 hnew k6 hd) (put_size _ _ _)
      · cases k3

include hE hrel in
theorem op_wp {o : Oper} {σ' : St} (h : opA E o σ some = some σ') (hd : dstLt a.tmps.size o.dst) {K : Act → World → Prop} {Q : Exit → Act → World → Prop}
    (hK : ∀ a' w' S' γ', Rel X w' S' γ' σ' a' → a'.tmps.size = a.tmps.size → K a' w') : o.wpIn (RF ro) 0 P a w K Q := by
  obtain ⟨S1, h1⟩ := Rel.stillL (opStill E o) (ρ := σ.ρ) (m := σ.m) hrel
  obtain ⟨σ1, k1, rfl⟩ := opA_some h
  refine opB_wp hE h1 k1 hd fun a' w' S' γ' g1 g2 => ?_
  obtain ⟨S2, h2⟩ := Rel.stillL (opBorn E o) (ρ := σ1.ρ) (m := σ1.m) g1
  exact hK a' w' S2 γ' h2 g2

end step
end Go.Dv
