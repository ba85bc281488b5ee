/- Loops over functions: their rounds, and the statement. -/
import Derived.Test.YtmffojmbfphidaaDoorDvFn
import Derived.RangeFuncNested
set_option linter.all false
namespace Go.Dv
open Go.RowKit

variable [LTab]

variable {R : Type}

def outOutN (o : Nat × Cut) : (l : List (Nat × Cut)) → OutT o l → (Ex → St → List Nat → Option R) → Option R
  | [], t, K => K (unkey o.1) (mkC o.2 t) (o.2.objs.map (·.1))
  | o' :: r, t, K => match t with
    | .inl v => K (unkey o.1) (mkC o.2 v) (o.2.objs.map (·.1))
    | .inr v => outOutN o' r v K

theorem outOutN_nat (K : Ex → St → List Nat → Option R) : ∀ (l : List (Nat × Cut)) (o : Nat × Cut) (t : OutT o l), outOutN o l t K = (outOutN o l t fun e τ ns => some (e, τ, ns)).bind fun p => K p.1 p.2.1 p.2.2
  | [], o, t => rfl
  | o' :: r, o, t => by
    cases t with
    | inl v => rfl
    | inr v => exact outOutN_nat K r o' v

def ctrR (np : Nat) (cin : Cut) (o : Nat × Cut) (l : List (Nat × Cut)) (F : cin.T → Option (OutT o l)) : CtrR where
  np := np
  cin := cin
  T := OutT o l
  F := F
  out := fun t K => outOutN o l t K
  nat := fun t K => outOutN_nat K l o t

theorem outN_ok {X : Cx} {w : World} {S : Nat → Prop} {γ : Nat → Loc} {σ : St} {a : Act} (h : Rel X w S γ σ a) {e : Ex} {K : Ex → St → List Nat → Option R} {r : R} :
    ∀ {l : List (Nat × Cut)} {o : Nat × Cut} {t : OutT o l}, getOut o l e σ = some t → outOutN o l t K = some r → ∃ τ ns S' γ', Rel X w S' γ' τ a ∧ K e τ ns = some r ∧ ∀ n, τ.m n ≠ none → n ∈ ns
  | [], o, t, hg, ho => by
    have hg : (bif Nat.beq e.key o.1 then getC o.2 σ else none) = some t := hg
    rcases bif_some hg with ⟨hb, hg⟩ | ⟨_, hg⟩
    · obtain ⟨S', γ', h'⟩ := cut_ok h hg
      have ho : K (unkey o.1) (mkC o.2 t) (o.2.objs.map (·.1)) = some r := ho
      rw [← Nat.eq_of_beq_eq_true hb, unkey_key] at ho
      exact ⟨_, _, S', γ', h', ho, fun n hn => mofO_mem hn⟩
    · cases hg
  | o' :: l, o, t, hg, ho => by
    rcases bif_some (by simpa only [getOut] using hg) with ⟨hb, hg⟩ | ⟨_, hg⟩
    · split at hg
      · rename_i v hv
        cases hg
        obtain ⟨S', γ', h'⟩ := cut_ok h hv
        have ho : K (unkey o.1) (mkC o.2 v) (o.2.objs.map (·.1)) = some r := ho
        rw [← Nat.eq_of_beq_eq_true hb, unkey_key] at ho
        exact ⟨_, _, S', γ', h', ho, fun n hn => mofO_mem hn⟩
      · cases hg
    · split at hg
      · rename_i v hv
        cases hg
        exact outN_ok h hv ho
      · cases hg

/-- a block that is nobody's is another one now -/
theorem Rel.touch {X : Cx} {w : World} {S : Nat → Prop} {γ : Nat → Loc} {σ : St} {a : Act} (h : Rel X w S γ σ a) {l : Nat} {r : Loop} (hl : w.heap[l]? = some (.loop r)) (hS : ¬ S l) (hB : X.B l) (o : Obj) {w1 : World} (hw1 : Bel (fun k => X.B k ∧ k ≠ l) w1 (w.putObj l o)) :
    MemRel (w.putObj l o) S γ σ.m X.B ∧ (∀ t, RepA (w.putObj l o) S γ σ.m (σ.ρ t) (a.tmps.getD t undef)) := by
  have hw : ∀ b, S b → (w.putObj l o).heap[b]? = w.heap[b]? := fun b hb => World.putObj_heap_other fun e => hS (e ▸ hb)
  refine ⟨⟨fun n q hq => ObjRel.lives (h.mem.obj n q hq) (fun hlq b hb => World.putObj_heap_other fun e => h.mem.high n q b hq hlq hb (e ▸ hB)) hw, fun b hb => by rw [World.putObj_size]; exact h.mem.low b hb, h.mem.apart, h.mem.high⟩, fun t => RepA.mono hw (fun _ h => h) (Keeps.refl _ _) _ _ (h.tm t)⟩

theorem bel_put {w : World} {l : Nat} {r : Loop} (hl : w.heap[l]? = some (.loop r)) (o : Obj) (B : Nat → Prop) : Bel (fun k => B k ∧ k ≠ l) w (w.putObj l o) :=
  ⟨rfl, rfl, rfl, by rw [World.putObj_size]; exact Nat.le_refl _, fun k hk => World.putObj_heap_other hk.2, fun k ds hk => by
    have : k ≠ l := fun e => by rw [e, hl] at hk; cases hk
    rw [World.putObj_heap_other this]; exact hk⟩

section rounds
variable {P : Program} {E : Env} (hE : EnvOk P E) (hmix : P.follows .mixedOrders = true)

include hE hmix in
/-- the rounds of a loop over a function -/
theorem round_ok {id np : Nat} {cin : Cut} {o : Nat × Cut} {l : List (Nat × Cut)} {F : cin.T → Option (OutT o l)} {Λa Λb : Lps} {pa pb : Nat}
    (htms : cin.tms = (LTab.tab id).ps.toList ++ (LTab.tab id).tms) (hnp : np = (LTab.tab id).ps.size) (honce : (onceL cin.tms && cin.tms.all fun t => Nat.blt t (LTab.tab id).nt) = true) (hsmall : Nat.ble (LTab.tab id).nt 4096 = true)
    (hpin : (cin.objs.all fun p => Nat.ble 5000000 p.1) = true)
    (hoA : ∀ ro x, x ∈ obs Λa (LTab.tab id).assign pa → LpOk P (LTab.tab id).nt ro x.1 x.2) (hoB : ∀ ro x, x ∈ obs Λb (LTab.tab id).body pb → LpOk P (LTab.tab id).nt ro x.1 x.2)
    (hdA : dstsOk (LTab.tab id).nt (LTab.tab id).assign = true) (hdB : dstsOk (LTab.tab id).nt (LTab.tab id).body = true)
    (hF : ∀ v, F v = codeA E Λa (LTab.tab id).assign pa (mkC cin v) (fun e σ => match e with
      | .normal => codeA E Λb (LTab.tab id).body pb σ (getOut o l)
      | _ => none)) : SoundR P id (ctrR np cin o l F) := by
  refine ⟨htms, hnp, honce, by simpa using hsmall, ?_⟩
  intro w S γ B (v : cin.T) tmps ln rec R (t : OutT o l) K r hm hBs hBl hSl hheap hready hassign hbody hsize hrep ht hout
  have ht : F v = some t := ht
  have hout : outOutN o l t K = some r := hout
  have hm : MemRel w S γ (mofO cin.objs v.2) B := hm
  rw [hF] at ht
  rw [hassign, hbody]
  have hsm : (LTab.tab id).nt ≤ 4096 := by simpa using hsmall
  have hhi : ∀ n, mofO cin.objs v.2 n ≠ none → 5000000 ≤ n := fun n hn => by
    obtain ⟨p, h1, h2⟩ := List.mem_map.1 (mofO_mem hn)
    have := List.all_eq_true.1 hpin p h1
    rw [← h2]; simpa using this
  have hrel : Rel ⟨B, w, S, fun n => (mofO cin.objs v.2 n).map fun q => (γ n, q.kind), w.heap.size, Nat.le_refl _⟩ w S γ (mkC cin v) { tmps := tmps, defers := [] } := by
    refine ⟨hm, fun t => zlook_rep t hrep, Bel.refl _ _, hBs, fun _ h => h, fun _ h => .inl h, trivial, fun n o l hq hl => ?_, fun n l hl => ?_, by simp only; omega⟩
    · have hq : mofO cin.objs v.2 n = some o := hq
      simp only [hq, Option.map_some, Option.some.injEq] at hl
      subst hl; exact ⟨rfl, rfl⟩
    · refine hhi n fun h => ?_
      simp only [h] at hl; cases hl
  refine roundIn_of_wpIn (F := RF none) trivial (wpIn_mono (code_sound (ro := some ln) hE hmix _ pa (hoA (some ln)) hdA hrel hsize ht) ?_)
  rintro e a1 w1 ⟨e1, σ1, S1, γ1, rfl, h1, h2, h3⟩
  cases e1 with
  | ret => cases h3
  | exit i => cases h3
  | normal =>
    have hl1 : w1.heap[ln]? = some (.loop rec) := (h1.below.block ln hBl).trans hheap
    have hS1 : ¬ S1 ln := fun h => (h1.snew ln h).elim hSl fun h => h hBl
    refine ⟨_, run_beginRound hl1 hready, ?_⟩
    have hb1 := bel_put hl1 (.loop { rec with state := .busy }) B
    obtain ⟨hm2, htm2⟩ := h1.touch hl1 hS1 hBl (.loop { rec with state := .busy }) hb1
    have hmk : MarksOk w.heap.size (w1.putObj ln (.loop { rec with state := .busy })) S1 a1.defers := h1.defers.mono (fun k ds hk => hb1.others k ds hk) (fun _ _ h => h)
    have hrel2 : Rel ⟨B, w1.putObj ln (.loop { rec with state := .busy }), S, fun n => (mofO cin.objs v.2 n).map fun q => (γ n, q.kind), w.heap.size, by rw [World.putObj_size]; exact h1.below.size⟩ (w1.putObj ln (.loop { rec with state := .busy })) S1 γ1 σ1 a1 :=
      ⟨hm2, htm2, Bel.refl _ _, fun k hk => by rw [World.putObj_size]; exact h1.size_le k hk, h1.s0, h1.snew, hmk, h1.pin, h1.pnhi, h1.small⟩
    have hl2 : (w1.putObj ln (.loop { rec with state := .busy })).heap[ln]? = some (.loop { rec with state := .busy }) := World.putObj_heap_same (heap_lt hl1)
    refine wpIn_mono (code_sound (ro := some ln) hE hmix _ pb (hoB (some ln)) hdB hrel2 h2 h3) ?_
    rintro e a3 w3 ⟨ex, σ3, S3, γ3, rfl, g1, g2, g3⟩
    obtain ⟨τ, ns, S4, γ4, j1, j2, j3⟩ := outN_ok g1 g3 hout
    have hl3 : w3.heap[ln]? = some (.loop { rec with state := .busy }) := (j1.below.block ln hBl).trans hl2
    have hS4 : ¬ S4 ln := fun h => (j1.snew ln h).elim hSl fun h => h hBl
    have fin : ∀ jump : Option Code, ((stOf ex.key).1 = if jump.isNone then LoopState.ready else .done) → (stOf ex.key).2 = jump → jump.isNone = exN ex →
        ∃ y w', (Instr.endRound ln jump).run P w3 = .ok y w' ∧ ∃ ex S' γ' τ ns, Ending.returned y = .returned (.bool (exN ex)) ∧ w'.heap[ln]? = some (.loop { rec with state := (stOf ex.key).1, pending := (stOf ex.key).2 }) ∧ K ex τ ns = some r ∧
          BackOk (fun k => k = ln) B w S γ (mofO cin.objs v.2) w' S' γ' ⟨fun i => bif Nat.beq i 0 then .bool (exN ex) else .undef, τ.m⟩ ns (.bool (exN ex)) := by
      intro jump e1 e2 e3
      have hb3 := bel_put hl3 (.loop { rec with state := (stOf ex.key).1, pending := (stOf ex.key).2 }) B
      obtain ⟨hm4, _⟩ := j1.touch hl3 hS4 hBl (.loop { rec with state := (stOf ex.key).1, pending := (stOf ex.key).2 }) hb3
      refine ⟨_, w3.putObj ln (.loop { rec with state := (stOf ex.key).1, pending := (stOf ex.key).2 }), ?_, ex, S4, γ4, τ, ns, rfl, World.putObj_heap_same (heap_lt hl3), j2, ?_⟩
      · rw [run_endRound jump hl3, e1, e2, e3]
      · refine ⟨?_, j1.s0, j1.snew, hm4, rfl, fun n q q' hq hq' => j1.pin n q' (γ n, q.kind) hq' (by simp only [hq, Option.map_some]), j3⟩
        exact ((h1.below.weak fun k hk => hk.1).trans hb1).trans ((j1.below.weak fun k hk => hk.1).trans hb3)
    cases ex with
    | normal => rw [← hassign, ← hbody]; exact fin none rfl rfl rfl
    | ret => rw [← hassign, ← hbody]; exact fin (some .ret) rfl rfl rfl
    | exit i => rw [← hassign, ← hbody]; exact fin (some (.exit i)) rfl rfl rfl

end rounds

/-! ## the statement -/
/-- the name of a loop under way -/
def rngName (id : Nat) : Nat := 3000000 + id

def rngA (E : Env) (id : Nat) (g : Operand) (σ : St) (K : Ex → St → Option R) : Option R :=
  match σ.ev g with
  | .clo f gc => match σ.m (rngName id) with
    | none => gd (Nat.ble id 1000000) (memsA (E.callM f) ⟨σ.ρ, mupd σ.m (rngName id) (.rng id ((LTab.tab id).tms.map σ.ρ) (some 0))⟩ none 4000 (.yld (rngName id) :: gc) fun σ2 =>
        match σ2.m (rngName id) with
        | some (.rng _ cs (some e)) => K (unkey e) ⟨σ2.ρ, mupd σ2.m (rngName id) (.rng id cs none)⟩
        | _ => none)
    | some _ => none
  | _ => none

section stmt
variable {P : Program} {E : Env} (hE : EnvOk P E)

include hE in
/-- a loop over a function -/
theorem rng_ok {n id : Nat} {g : Operand} {cin : Cut} {o : Nat × Cut} {l : List (Nat × Cut)} {F : cin.T → Option (OutT o l)} (hn : (LTab.tab id).nt = n) (hF : ∀ v, F v = rngA E id g (mkC cin v) (getOut o l)) :
    LpOk P n none (lpOf cin o l F) (.rangeFunc g (LTab.tab id).ps (LTab.tab id).assign (LTab.tab id).body) := by
  intro R X w S γ σ a K r hrel hsize h
  simp only [Lp.run, lpOf] at h
  split at h
  case h_2 => cases h
  rename_i o' ho'
  split at ho'
  case h_2 => cases ho'
  rename_i v hv
  cases ho'
  split at h
  case h_2 => cases h
  rename_i t ht
  obtain ⟨S1, γ1, hrel1⟩ := cut_ok hrel hv
  rw [hF] at ht
  unfold rngA at ht
  split at ht
  case h_2 => cases ht
  rename_i f gc hg
  split at ht
  case h_2 => cases ht
  rename_i hfree
  obtain ⟨hid, ht⟩ := gd_some ht
  have hid : id ≤ 1000000 := by simpa using hid
  generalize hσ : mkC cin v = σ1 at *
  have hgv := hrel1.ev g
  rw [hg] at hgv
  obtain ⟨gvs, hgx, hgc⟩ := hgv
  rw [memsA_nat] at ht
  cases hms : memsA (E.callM f) ⟨σ1.ρ, mupd σ1.m (rngName id) (.rng id ((LTab.tab id).tms.map σ1.ρ) (some 0))⟩ none 4000 (.yld (rngName id) :: gc) some with
  | none => rw [hms] at ht; cases ht
  | some σ2 =>
  rw [hms] at ht
  simp only [Option.bind_some] at ht
  split at ht
  case h_2 => cases ht
  rename_i id' cs e hσ2
  refine wpIn_rangeFunc ?_
  intro fn _
  obtain ⟨rec, hrec⟩ : ∃ rec : Loop, rec = { state := .ready, pending := none, fn := fn, tmps := a.tmps, params := (LTab.tab id).ps, assign := (LTab.tab id).assign, body := (LTab.tab id).body, defers := w.heap.size } := ⟨_, rfl⟩
  obtain ⟨W1, hW1⟩ : ∃ W1, (w.alloc (.deferred (some []))).alloc (.loop rec) = W1 := ⟨_, rfl⟩
  have hL1 : W1.heap[w.heap.size + 1]? = some (.loop rec) := by
    rw [← hW1]; have := World.alloc_heap_new (w.alloc (.deferred (some []))) (.loop rec); rwa [World.size_alloc] at this
  have hK1 : W1.heap[w.heap.size]? = some (.deferred (some [])) := by
    rw [← hW1]; exact (Below.heap_alloc _ _ _ (by simp)).trans (World.alloc_heap_new w _)
  have hb1 : Below w.heap.size w W1 := by
    rw [← hW1]; exact ((Below.refl _ w).alloc (Nat.le_refl _) _).alloc (by simp) _
  have hsz := hrel1.size_le
  have hbel1 := Below.bel hb1 hsz
  have hkeep1 : Keeps σ1.m γ1 (mupd σ1.m (rngName id) (.rng id ((LTab.tab id).tms.map σ1.ρ) (some 0))) (gupd γ1 (rngName id) ⟨some ⟨w.heap.size + 1, 0, none⟩, 0⟩) := Keeps.new hfree
  have hcaps : RepAs W1 S1 (gupd γ1 (rngName id) ⟨some ⟨w.heap.size + 1, 0, none⟩, 0⟩) (mupd σ1.m (rngName id) (.rng id ((LTab.tab id).tms.map σ1.ρ) (some 0))) ((LTab.tab id).tms.map σ1.ρ) ((LTab.tab id).tms.map fun t => rec.tmps.getD t undef) := by
    rw [hrec]
    exact RepAs.mono (fun b hs => hb1.block b (hrel1.mem.low b hs)) (fun _ h => h) hkeep1 _ _ (maps_rep hrel1.tm _)
  have hmem1 : MemRel W1 S1 (gupd γ1 (rngName id) ⟨some ⟨w.heap.size + 1, 0, none⟩, 0⟩) (mupd σ1.m (rngName id) (.rng id ((LTab.tab id).tms.map σ1.ρ) (some 0))) X.B := by
    refine hrel1.mem.add hb1 hfree ?_ hsz (fun b hb => by simp [Loc.blk] at hb; omega)
    refine ⟨w.heap.size + 1, rec, by rw [gupd_same], hL1, by rw [hrec]; rfl, by rw [hrec]; rfl, by rw [hrec], by rw [hrec], by rw [hrec], by rw [hrec]; exact hsize.trans hn.symm, hcaps, fun hs => ?_⟩
    have := hrel1.mem.low _ hs; omega
  have hnot : ∀ {l : List Deferred}, MarksOk X.N w S1 l → ∀ d', d' ∈ l → d' ≠ { target := .collected w.heap.size, args := #[] } := by
    intro l
    induction l with
    | nil => intro _ d' hd'; cases hd'
    | cons x l ih =>
      rintro ⟨⟨D, e1, e2, _, _⟩, _, h3⟩ d' hd' he
      rcases List.mem_cons.1 hd' with q | hd'
      · rw [q, e1] at he
        have : D = w.heap.size := by cases he; rfl
        have := heap_lt e2
        omega
      · exact ih h3 d' hd' he
  have hrel2 : Rel X W1 S1 (gupd γ1 (rngName id) ⟨some ⟨w.heap.size + 1, 0, none⟩, 0⟩) ⟨σ1.ρ, mupd σ1.m (rngName id) (.rng id ((LTab.tab id).tms.map σ1.ρ) (some 0))⟩ { a with defers := [{ target := .collected w.heap.size, args := #[] }] ++ a.defers } := by
    refine ⟨hmem1, fun t => RepA.mono (fun b hs => hb1.block b (hrel1.mem.low b hs)) (fun _ h => h) hkeep1 _ _ (hrel1.tm t), hrel1.below.trans hbel1, hrel1.base_le, hrel1.s0, hrel1.snew, ⟨⟨_, rfl, hK1, fun hs => ?_, Nat.le_trans X.nle hrel1.below.size⟩, hnot hrel1.defers, hrel1.defers.mono hbel1.others (fun _ _ h => h)⟩, pin_keep hrel1.pin hkeep1 (fun k l hl hk => ?_), hrel1.pnhi, hrel1.small⟩
    · have := hrel1.mem.low _ hs; omega
    · have := hrel1.pnhi k l hl
      have hk : mupd σ1.m (rngName id) (.rng id ((LTab.tab id).tms.map σ1.ρ) (some 0)) k ≠ none := hk
      rwa [mupd_ne _ _ (show k ≠ rngName id by unfold rngName; omega)] at hk
  have hargs : RepAs W1 S1 (gupd γ1 (rngName id) ⟨some ⟨w.heap.size + 1, 0, none⟩, 0⟩) (mupd σ1.m (rngName id) (.rng id ((LTab.tab id).tms.map σ1.ρ) (some 0))) (.yld (rngName id) :: gc) (.func (.yield (w.heap.size + 1)) #[] #[] :: gvs) :=
    ⟨_, _, rfl, ⟨id, _, _, _, mupd_same _ _ _, by rw [gupd_same], rfl⟩, RepAs.mono (fun b hs => hb1.block b (hrel1.mem.low b hs)) (fun _ h => h) hkeep1 _ _ hgc⟩
  obtain ⟨c1, c2⟩ := mems_ok hrel2 hargs (dst := none) (d := 4000) trivial (by omega) (hE.callM f) hms
  refine ⟨w.heap.size + 1, [{ target := .collected w.heap.size, args := #[] }], W1, { target := .fn (.func f) gvs.toArray, args := #[.func (.yield (w.heap.size + 1)) #[] #[]] }, W1, f,
    (.func (.yield (w.heap.size + 1)) #[] #[] :: gvs).toArray, W1, ?_, ?_, fun _ _ => trivial, ?_, fun h => by contradiction, ?_⟩
  · rw [← hW1, hrec]; exact run_enterLoop_outer _ _ _ _ _
  · simp only [resolve, hgx]
    simp [go_sem]
  · have := c1 W1 (.func (.yield (w.heap.size + 1)) #[] #[] :: gvs).toArray
    have e : (#[Value.func (.yield (w.heap.size + 1)) #[] #[]] ++ gvs.toArray) = (.func (.yield (w.heap.size + 1)) #[] #[] :: gvs).toArray := by
      apply Array.ext'; simp
    rw [← e] at this ⊢
    simp only [invoke]
    exact this
  · refine (callsIn_RF none c2).mono ?_
    rintro en w' ⟨y, rfl, S', γ', h1, hk⟩
    -- the loop's record
    obtain ⟨o2, k1, k2, k3⟩ := hk (rngName id) _ (mupd_same _ _ _)
    rw [hσ2] at k1; cases k1
    have hid' : id = id' := by simp only [MO.kind, Prod.mk.injEq] at k2; omega
    cases hid'
    obtain ⟨l', rec', hr⟩ := h1.mem.obj _ _ hσ2
    have hloc := hr.loc
    rw [k3, gupd_same] at hloc
    cases hloc
    have hblk : (γ' (rngName id)).blk = some (w.heap.size + 1) := by rw [Loc.blk, hr.loc]; rfl
    have hnb : rec'.state ≠ .busy := by
      rw [hr.state]
      match e with
      | 0 => simp [stOf]
      | 1 => simp [stOf]
      | i + 2 => simp [stOf]
    refine ⟨_, _, run_endLoop hr.heap hnb, ?_⟩
    have hXl : ¬ X.B (w.heap.size + 1) := h1.mem.high _ _ _ hσ2 rfl hblk
    have hb4 := bel_put hr.heap (.loop { rec' with state := .exhausted }) X.B
    have hbel4 : Bel X.B w' (w'.putObj (w.heap.size + 1) (.loop { rec' with state := .exhausted })) := hb4.weak fun k hk => ⟨hk, fun e => hXl (e ▸ hk)⟩
    have hw4 : ∀ b, S' b → (w'.putObj (w.heap.size + 1) (.loop { rec' with state := .exhausted })).heap[b]? = w'.heap[b]? := fun b hb => World.putObj_heap_other fun e => hr.notS (e ▸ hb)
    have hkeep4 : Keeps σ2.m γ' (mupd σ2.m (rngName id) (.rng id cs none)) γ' := keeps_write hσ2 rfl
    have get : ∀ {k q}, mupd σ2.m (rngName id) (.rng id cs none) k = some q → q.live = true → k ≠ rngName id ∧ σ2.m k = some q := by
      intro k q hq hl
      by_cases e : k = rngName id
      · subst e; rw [mupd_same] at hq; cases hq; cases hl
      · rw [mupd_ne _ _ e] at hq; exact ⟨e, hq⟩
    have h4 : Rel X (w'.putObj (w.heap.size + 1) (.loop { rec' with state := .exhausted })) S' γ' ⟨σ2.ρ, mupd σ2.m (rngName id) (.rng id cs none)⟩ { a with defers := [{ target := .collected w.heap.size, args := #[] }] ++ a.defers } := by
      refine ⟨⟨fun k q hq => ?_, fun b hb => by rw [World.putObj_size]; exact h1.mem.low b hb, fun k k' q q' b hq hq' hl hl' => ?_, fun k q b hq hl => ?_⟩, fun t => RepA.mono hw4 (fun _ h => h) hkeep4 _ _ (h1.tm t), h1.below.trans hbel4, h1.base_le, h1.s0, h1.snew, h1.defers.mono hbel4.others (fun _ _ h => h), pin_keep h1.pin hkeep4 (fun k l _ hk => ?_), h1.pnhi, h1.small⟩
      · have hq : mupd σ2.m (rngName id) (.rng id cs none) k = some q := hq
        by_cases e : k = rngName id
        · subst e; rw [mupd_same] at hq; cases hq; trivial
        · rw [mupd_ne _ _ e] at hq
          exact ObjRel.later (h1.mem.obj k q hq) hw4 (fun _ h => h) hkeep4 rfl fun hl b hb => ⟨World.putObj_heap_other fun e' => h1.mem.apart k (rngName id) q _ b hq hσ2 hl rfl e hb (e' ▸ hblk), (ObjRel.notS (h1.mem.obj k q hq) hl hb).1⟩
      · obtain ⟨e1, g1⟩ := get hq hl
        obtain ⟨e2, g2⟩ := get hq' hl'
        exact h1.mem.apart k k' q q' b g1 g2 hl hl'
      · obtain ⟨e1, g1⟩ := get hq hl
        exact h1.mem.high k q b g1 hl
      · intro hnone
        have hk : mupd σ2.m (rngName id) (.rng id cs none) k ≠ none := hk
        by_cases e : k = rngName id
        · subst e; rw [hσ2] at hnone; cases hnone
        · rw [mupd_ne _ _ e] at hk; exact hk hnone
    obtain ⟨σ5, S5, γ5, g1, g2⟩ := out_ok h4 ht h
    generalize (w'.putObj (w.heap.size + 1) (.loop { rec' with state := .exhausted })) = W4 at g1 ⊢
    rw [hr.pending]
    match e, g2 with
    | 0, g2 => exact ⟨.normal, σ5, S5, γ5, rfl, g1, hsize, g2⟩
    | 1, g2 => exact wpIn_ret ⟨.ret, σ5, S5, γ5, rfl, g1, hsize, g2⟩
    | i + 2, g2 => exact wpIn_exit ⟨.exit i, σ5, S5, γ5, rfl, g1, hsize, g2⟩

end stmt
end Go.Dv
