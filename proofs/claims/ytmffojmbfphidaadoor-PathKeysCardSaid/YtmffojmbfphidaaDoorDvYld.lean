/- A call of yield, from the iterator's side. -/
import Derived.Test.YtmffojmbfphidaaDoorDvMemCall
import Derived.RangeFuncCalls
set_option linter.all false
namespace Go.Dv
open Go.RowKit

variable [LTab]

variable {R : Type}

/-- any function may be called; the frame is a function's, or a round's -/
abbrev RF (ro : Option Nat) : Fence := { fn := fun _ => True, depth := none, alive := false, round := ro }

/-- a contract of the rounds of a loop -/
structure SoundR (P : Program) (id : Nat) (c : CtrR) : Prop where
  tms : c.cin.tms = (LTab.tab id).ps.toList ++ (LTab.tab id).tms
  np : c.np = (LTab.tab id).ps.size
  once : (onceL c.cin.tms && c.cin.tms.all fun t => Nat.blt t (LTab.tab id).nt) = true
  small : (LTab.tab id).nt ≤ 4096
  round : ∀ (w : World) (S : Nat → Prop) (γ : Nat → Loc) (B : Nat → Prop) (v : c.cin.T) (tmps : Array Value) (l : Nat) (rec : Loop) {R : Type} (t : c.T) (K : Ex → St → List Nat → Option R) (r : R),
    MemRel w S γ (mofO c.cin.objs v.2) B → (∀ k, B k → k < w.heap.size) → B l → ¬ S l → w.heap[l]? = some (.loop rec) → rec.state = .ready → rec.assign = (LTab.tab id).assign → rec.body = (LTab.tab id).body → tmps.size = (LTab.tab id).nt →
    RepAs w S γ (mofO c.cin.objs v.2) (mkL c.cin.sh v.1) (c.cin.tms.map fun t => tmps.getD t undef) → c.F v = some t → c.out t K = some r →
    RoundIn (RF none) 0 P l rec.fn tmps rec.assign rec.body w fun e w' => ∃ ex S' γ' τ ns, e = .returned (.bool (exN ex)) ∧ w'.heap[l]? = some (.loop { rec with state := (stOf ex.key).1, pending := (stOf ex.key).2 }) ∧ K ex τ ns = some r ∧
      BackOk (fun k => k = l) B w S γ (mofO c.cin.objs v.2) w' S' γ' ⟨fun i => bif Nat.beq i 0 then .bool (exN ex) else .undef, τ.m⟩ ns (.bool (exN ex))

theorem fold_size : ∀ (l : List (Nat × Value)) (a : Array Value), (l.foldl (fun t (p : Nat × Value) => t.setIfInBounds p.1 p.2) a).size = a.size
  | [], _ => rfl
  | (p, v) :: l, a => by
    simp only [List.foldl_cons]
    rw [fold_size l]; simp

theorem fold_other {t : Nat} : ∀ (l : List (Nat × Value)) (a : Array Value), t ∉ l.map (·.1) → (l.foldl (fun t (p : Nat × Value) => t.setIfInBounds p.1 p.2) a).getD t undef = a.getD t undef
  | [], _, _ => rfl
  | (p, v) :: l, a, h => by
    simp only [List.map_cons, List.mem_cons, not_or] at h
    simp only [List.foldl_cons]
    rw [fold_other l _ h.2]
    simp [Array.getD_eq_getD_getElem?, Array.getElem?_setIfInBounds, Ne.symm h.1]

theorem fold_map : ∀ (ps : List Nat) (vs : List Value) (a : Array Value), ps.Nodup → (∀ p, p ∈ ps → p < a.size) → vs.length = ps.length → (ps.map fun t => ((ps.zip vs).foldl (fun t (p : Nat × Value) => t.setIfInBounds p.1 p.2) a).getD t undef) = vs
  | [], vs, _, _, _, hl => by cases vs with | nil => rfl | cons _ _ => simp at hl
  | p :: ps, [], _, _, _, hl => by simp at hl
  | p :: ps, v :: vs, a, hn, hs, hl => by
    simp only [List.nodup_cons] at hn
    simp only [List.zip_cons_cons, List.foldl_cons, List.map_cons]
    congr 1
    · rw [fold_other]
      · have := hs p (by simp)
        simp [this]
      · intro h
        obtain ⟨⟨q, x⟩, h1, h2⟩ := List.mem_map.1 h
        simp only at h2
        subst h2
        exact hn.1 (List.of_mem_zip h1).1
    · exact fold_map ps vs _ hn.2 (fun q hq => by simpa using hs q (by simp [hq])) (by simpa using hl)

theorem zip_fold (ps : Array Tmp) (args tmps : Array Value) : (ps.zip args).foldl (fun tmps (t, a) => tmps.setIfInBounds t a) tmps = (ps.toList.zip args.toList).foldl (fun t (p : Nat × Value) => t.setIfInBounds p.1 p.2) tmps := by
  rw [← Array.foldl_toList, Array.toList_zip]

theorem roundIn_RF (ro : Option Nat) {n : Nat} {P : Program} {l : Nat} {f : FuncId} {tmps : Array Value} {assign body : Code} {w : World} {R : Ending → World → Prop} (h : RoundIn (RF none) n P l f tmps assign body w R) : RoundIn (RF ro) n P l f tmps assign body w R := by
  cases ro with
  | none => exact h
  | some l => exact h

theorem yld_ok {P : Program} {E : Env} (hE : ∀ id c, E.rounds id = some c → SoundR P id c) {X : Cx} {w : World} {S : Nat → Prop} {γ : Nat → Loc} {σ : St} {a : Act} (hrel : Rel X w S γ σ a) {as : List AV} {vals : List Value} (hr : RepAs w S γ σ.m as vals) {d n : Nat} (hd : d < a.tmps.size) {x : Value} (hx : RepA w S γ σ.m (.yld n) x) {σ' : St} (h : yldA E σ d n as some = some σ') :
    ∃ l fn tmps assign body, x = .func (.yield l) #[] #[] ∧ (Instr.yield l vals.toArray).run P w = .ok (.round l fn tmps assign body) w ∧
      RoundIn (RF none) 0 P l fn tmps assign body w fun e w' => ∃ v, e = .returned v ∧ ∃ S' γ', Rel X w' S' γ' σ' (a.put (some d) v) := by
  unfold yldA at h
  split at h
  case h_2 => cases h
  rename_i id caps hn
  split at h
  case h_2 => cases h
  rename_i c hc
  split at h
  case h_2 => cases h
  rename_i v hv
  obtain ⟨hnp, h⟩ := gd_some h
  split at h
  case h_2 => cases h
  rename_i t ht
  have hnp := Nat.eq_of_beq_eq_true hnp
  have hR := hE id c hc
  obtain ⟨id', cs', e', l, k1, k2, rfl⟩ := hx
  rw [hn] at k1; cases k1
  obtain ⟨l', rec, hrng⟩ := hrel.mem.obj n _ hn
  have hll : l' = l := by have := hrng.loc; rw [k2] at this; cases this; rfl
  subst hll
  have hblk : (γ n).blk = some l' := by rw [Loc.blk, k2]; rfl
  have hlen := hr.length
  have hys := run_yield (P := P) (args := vals.toArray) hrng.heap (by simp [hlen, hnp, hR.np, hrng.ps])
  refine ⟨l', _, _, _, _, rfl, hys, ?_⟩
  -- the loop rests
  have keep0 : Keeps σ.m γ (mupd σ.m n (.rng id caps none)) γ := keeps_write hn rfl
  have hrel1 : Rel X w S γ ⟨σ.ρ, mupd σ.m n (.rng id caps none)⟩ a := by
    have get : ∀ {k q}, mupd σ.m n (.rng id caps none) k = some q → q.live = true → k ≠ n ∧ σ.m k = some q := by
      intro k q hq hl
      by_cases e : k = n
      · subst e; rw [mupd_same] at hq; cases hq; cases hl
      · rw [mupd_ne _ _ e] at hq; exact ⟨e, hq⟩
    refine ⟨⟨fun k q hq => ?_, hrel.mem.low, fun k k' q q' b hq hq' hl hl' => ?_, fun k q b hq hl => ?_⟩, fun t => RepA.mono (fun _ _ => rfl) (fun _ h => h) keep0 _ _ (hrel.tm t), hrel.below, hrel.base_le, hrel.s0, hrel.snew, hrel.defers, pin_keep hrel.pin keep0 (fun k l _ hk => ?_), hrel.pnhi, hrel.small⟩
    · have hq : mupd σ.m n (.rng id caps none) k = some q := hq
      by_cases e : k = n
      · subst e; rw [mupd_same] at hq; cases hq; trivial
      · rw [mupd_ne _ _ e] at hq
        exact ObjRel.later (hrel.mem.obj k q hq) (fun _ _ => rfl) (fun _ h => h) keep0 rfl fun hl b hb => ⟨rfl, (ObjRel.notS (hrel.mem.obj k q hq) hl hb).1⟩
    · obtain ⟨e1, h1⟩ := get hq hl
      obtain ⟨e2, h2⟩ := get hq' hl'
      exact hrel.mem.apart k k' q q' b h1 h2 hl hl'
    · obtain ⟨e1, h1⟩ := get hq hl
      exact hrel.mem.high k q b h1 hl
    · intro hnone
      have hk : mupd σ.m n (.rng id caps none) k ≠ none := hk
      by_cases e : k = n
      · subst e; rw [hn] at hnone; cases hnone
      · rw [mupd_ne _ _ e] at hk; exact hk hnone
  have honce := hR.once
  simp only [Bool.and_eq_true, List.all_eq_true, Nat.blt_eq] at honce
  obtain ⟨ho1, ho2⟩ := honce
  have hnodup := onceL_spec ho1
  rw [hR.tms] at hnodup
  obtain ⟨nd1, nd2, nd3⟩ := List.nodup_append.1 hnodup
  have hpsize : ∀ p, p ∈ (LTab.tab id).ps.toList → p < rec.tmps.size := fun p hp => by
    rw [hrng.size]; exact ho2 p (by rw [hR.tms]; exact List.mem_append_left _ hp)
  have hargs : RepAs w S γ (mupd σ.m n (.rng id caps none)) (as ++ caps) (c.cin.tms.map fun t => (((rec.params.zip vals.toArray).foldl (fun tmps (t, a) => tmps.setIfInBounds t a) rec.tmps)).getD t undef) := by
    rw [hR.tms, List.map_append, hrng.ps, zip_fold]
    refine RepAs.append ?_ ?_
    · rw [fold_map _ _ _ nd1 hpsize (by simp [hlen, hnp, hR.np])]
      exact RepAs.mono (fun _ _ => rfl) (fun _ h => h) keep0 _ _ hr
    · have e : ((LTab.tab id).tms.map fun t => (((LTab.tab id).ps.toList.zip vals).foldl (fun t (p : Nat × Value) => t.setIfInBounds p.1 p.2) rec.tmps).getD t undef) = (LTab.tab id).tms.map fun t => rec.tmps.getD t undef := by
        refine List.map_congr_left fun t ht => fold_other _ _ fun hm => ?_
        obtain ⟨⟨q, y⟩, h1, h2⟩ := List.mem_map.1 hm
        simp only at h2
        subst h2
        exact nd3 q (List.of_mem_zip h1).1 q ht rfl
      simp only [List.toList_toArray]
      rw [e]
      exact RepAs.mono (fun _ _ => rfl) (fun _ h => h) keep0 _ _ hrng.caps
  obtain ⟨γi, g1, g2, hmi, hrep, hq, hdist⟩ := getW_ok (g := fun src _ => srcOf (zlook c.cin.tms (as ++ caps)) (mupd σ.m n (.rng id caps none)) src) hrel1.mem (fun t => zlook_rep t hargs) (renC_map c.cin.objs) hv
  have hnames : ∀ n' d', rlook n' (renC (zlook c.cin.tms (as ++ caps)) (mupd σ.m n (.rng id caps none)) c.cin.objs) = some (some d') → ∃ q, mofO c.cin.objs v.2 n' = some q := fun n' d' hlk => by
    rw [renC_map] at hlk
    exact renG_mofO (g := fun src _ => srcOf (zlook c.cin.tms (as ++ caps)) (mupd σ.m n (.rng id caps none)) src) hlk
  have hol : ∀ n' o, mupd σ.m n (.rng id caps none) n' = some o → o.live = true → (γ n').blk ≠ some l' := by
    intro n' o ho hl hb
    by_cases e : n' = n
    · subst e; rw [mupd_same] at ho; cases ho; cases hl
    · rw [mupd_ne _ _ e] at ho
      exact hrel.mem.apart n' n o _ l' ho hn hl rfl e hb hblk
  -- lent objects are live ones of the state
  have lentl : ∀ n' q, mofO c.cin.objs v.2 n' = some q → q.live = true → (γi n').blk ≠ some l' := by
    intro n' q hn' hl hb
    rcases hq n' q hn' with ⟨d', t, xs, k1, k2, rfl⟩ | ⟨t, k1, rfl⟩ | ⟨d', l0, cs, s, z, k1, k2, k3, rfl⟩ | ⟨d', l0, cs, i2, ee, z, k1, k2, k3, rfl⟩
    · rw [g1 _ _ k1] at hb; exact hol d' _ k2 rfl hb
    · rw [Loc.blk, g2 _ k1] at hb; cases hb
    · rw [g1 _ _ k1] at hb; exact hol d' _ k2 (by cases s <;> first | rfl | cases hl) hb
    · rw [g1 _ _ k1] at hb; exact hol d' _ k2 rfl hb
  have hlt := heap_lt hrng.heap
  have hB'l : (fun k => k < w.heap.size ∧ ∀ n q, mofO c.cin.objs v.2 n = some q → q.live = true → (γi n).blk ≠ some k) l' := ⟨hlt, lentl⟩
  have hmi' : MemRel w S γi (mofO c.cin.objs v.2) (fun k => k < w.heap.size ∧ ∀ n q, mofO c.cin.objs v.2 n = some q → q.live = true → (γi n).blk ≠ some k) :=
    ⟨hmi.obj, hmi.low, hmi.apart, fun n q b hn hlq hbk h => h.2 n q hn hlq hbk⟩
  refine (hR.round w S γi _ v _ l' rec t _ σ' hmi' (fun k h => h.1) hB'l hrng.notS hrng.heap hrng.state hrng.assign hrng.body ?_ hrep ht h).mono ?_
  · rw [zip_fold, fold_size]; exact hrng.size
  rintro e w' ⟨ex, S', γ', τ, ns, rfl, hheap, hback, hok⟩
  refine ⟨_, rfl, ?_⟩
  rw [backA_nat] at hback
  cases hbk : backA (renC (zlook c.cin.tms (as ++ caps)) (mupd σ.m n (.rng id caps none)) c.cin.objs) ⟨σ.ρ, mupd σ.m n (.rng id caps none)⟩ (some d) d ⟨fun i => bif Nat.beq i 0 then .bool (exN ex) else .undef, τ.m⟩ ns some with
  | none => rw [hbk] at hback; cases hback
  | some σ2 =>
    rw [hbk] at hback
    simp only [Option.bind_some, Option.some.injEq] at hback
    subst hback
    obtain ⟨S2, γ2, hrel2, keep2, hSS, hwS, hsame, hrest⟩ := mem_back hrel1 hnames g1 g2 hmi hq (ex := fun k => k = l') (fun b hb e => hrng.notS (e ▸ hb)) (fun b hb e => hrel.mem.high n _ b hn rfl (e ▸ hblk) hb) (fun n' o b ho hl hb e => hol n' o ho hl (e ▸ hb)) rfl hok (dst := some d) hd (Nat.lt_of_lt_of_le hd hrel.small) hbk
    obtain ⟨q1, q2⟩ := hrest l' hB'l hrng.notS hol
    have hn2 : σ2.m n = some (.rng id caps none) := hsame n _ (mupd_same _ _ _) (fun k hk => by
      obtain ⟨q, hq'⟩ := hnames k n hk
      rcases hq k q hq' with ⟨d', t, xs, k1, k2, rfl⟩ | ⟨t, k1, rfl⟩ | ⟨d', l0, cs, s, z, k1, k2, k3, rfl⟩ | ⟨d', l0, cs, i2, ee, z, k1, k2, k3, rfl⟩ <;> rw [hk] at k1 <;> cases k1 <;> (have k2 := (mupd_same σ.m n (MO.rng id caps none)).symm.trans k2; cases k2))
    have gn : γ2 n = γ n := by
      obtain ⟨_, _, _, h3⟩ := keep2 n _ (mupd_same _ _ _)
      exact h3
    have keep3 : Keeps σ2.m γ2 (mupd σ2.m n (.rng id caps (some ex.key))) γ2 := keeps_write hn2 rfl
    refine ⟨S2, γ2, ⟨⟨fun k q hq => ?_, hrel2.mem.low, fun k k' q q' b hq hq' hl hl' hne hb hb' => ?_, fun k q b hq hl hb => ?_⟩, fun t => RepA.mono (fun _ _ => rfl) (fun _ h => h) keep3 _ _ (hrel2.tm t), hrel2.below, hrel2.base_le, hrel2.s0, hrel2.snew, hrel2.defers, pin_keep hrel2.pin keep3 (fun k l _ hk => ?_), hrel2.pnhi, hrel2.small⟩⟩
    · have hq : mupd σ2.m n (.rng id caps (some ex.key)) k = some q := hq
      by_cases e : k = n
      · subst e
        rw [mupd_same] at hq; cases hq
        refine ⟨l', _, by rw [gn]; exact k2, hheap, rfl, rfl, hrng.ps, hrng.assign, hrng.body, hrng.size, ?_, q1⟩
        exact RepAs.mono hwS hSS ((keep0.trans keep2).trans keep3) _ _ hrng.caps
      · rw [mupd_ne _ _ e] at hq
        exact ObjRel.later (hrel2.mem.obj k q hq) (fun _ _ => rfl) (fun _ h => h) keep3 rfl fun hl b hb => ⟨rfl, (ObjRel.notS (hrel2.mem.obj k q hq) hl hb).1⟩
    · have hq : mupd σ2.m n (.rng id caps (some ex.key)) k = some q := hq
      have hq' : mupd σ2.m n (.rng id caps (some ex.key)) k' = some q' := hq'
      by_cases e : k = n
      · subst e
        have e' : k' ≠ k := fun e => hne e.symm
        rw [mupd_ne _ _ e'] at hq'
        rw [gn, hblk] at hb; cases hb
        exact q2 k' q' hq' hl' hb'
      · by_cases e' : k' = n
        · subst e'
          rw [gn, hblk] at hb'; cases hb'
          rw [mupd_ne _ _ e] at hq
          exact q2 k q hq hl hb
        · rw [mupd_ne _ _ e] at hq
          rw [mupd_ne _ _ e'] at hq'
          exact hrel2.mem.apart k k' q q' b hq hq' hl hl' hne hb hb'
    · have hq : mupd σ2.m n (.rng id caps (some ex.key)) k = some q := hq
      by_cases e : k = n
      · subst e
        rw [gn] at hb
        exact hrel.mem.high k _ b hn rfl hb
      · rw [mupd_ne _ _ e] at hq
        exact hrel2.mem.high k q b hq hl hb
    · intro hnone
      have hk : mupd σ2.m n (.rng id caps (some ex.key)) k ≠ none := hk
      by_cases e : k = n
      · subst e; rw [hn2] at hnone; cases hnone
      · rw [mupd_ne _ _ e] at hk; exact hk hnone

end Go.Dv
