/- A call of a function that is lent objects, from the caller's side. -/
import Derived.Test.YtmffojmbfphidaaDoorDvMem
set_option linter.all false
namespace Go.Dv
open Go.RowKit

variable [LTab]

variable {R : Type}

theorem rangeIs_spec {f : Nat → Value} : ∀ {k : Nat} {ts : List Nat} {as : List AV} {vals : List Value}, rangeIs k ts as = true → vals.length = as.length → (∀ i, f (k + i) = vals.getD i undef) → ts.map f = vals
  | k, [], [], vals, _, hl, _ => by cases vals with | nil => rfl | cons _ _ => simp at hl
  | k, [], _ :: _, _, h, _, _ => by cases h
  | k, _ :: _, [], _, h, _, _ => by cases h
  | k, t :: ts, a :: as, vals, h, hl, hf => by
    simp only [rangeIs, Bool.and_eq_true] at h
    cases vals with
    | nil => simp at hl
    | cons x vals =>
      have e := Nat.eq_of_beq_eq_true h.1
      subst e
      simp only [List.map_cons]
      congr 1
      · have := hf 0; simpa using this
      · refine rangeIs_spec h.2 (by simpa using hl) fun i => ?_
        have := hf (i + 1)
        rw [show t + 1 + i = t + (i + 1) by omega, this]
        simp

theorem lents_look : ∀ {rl : List (Nat × Option Nat)} {le : List (Nat × Nat)}, lents rl = some le → ∀ {n d : Nat}, rlook n rl = some (some d) → (n, d) ∈ le
  | [], _, _, _, _, h => by cases h
  | (k, some d') :: r, le, h, n, d, hm => by
    simp only [lents] at h
    split at h
    · rename_i l hl
      cases h
      rcases bif_some (by simpa only [rlook] using hm) with ⟨hb, h2⟩ | ⟨_, h2⟩
      · cases h2; rw [Nat.eq_of_beq_eq_true hb]; simp
      · exact List.mem_cons_of_mem _ (lents_look hl h2)
    · cases h
  | (k, none) :: r, le, h, n, d, hm => by
    simp only [lents] at h
    rcases bif_some (by simpa only [rlook] using hm) with ⟨hb, h2⟩ | ⟨_, h2⟩
    · cases h2
    · exact lents_look h h2

theorem put_rep {w' : World} {S' : Nat → Prop} {γ' : Nat → Loc} {m' : Nat → Option MO} {ρ : Nat → AV} {a : Act} {dst : Option Nat} {v : AV} {x : Value} (h : ∀ t, RepA w' S' γ' m' (ρ t) (a.tmps.getD t undef)) (hv : RepA w' S' γ' m' v x) (hd : dstLt a.tmps.size dst) (t : Nat) :
    RepA w' S' γ' m' (putO ρ dst v t) ((a.put dst x).tmps.getD t undef) := by
  cases dst with
  | none => exact h t
  | some d =>
    by_cases e : t = d
    · subst e
      rw [put_tmps_same a t x hd]
      show RepA _ _ _ _ (upd ρ t v t) x
      rw [upd_same]; exact hv
    · rw [put_tmps_ne a x e]
      show RepA _ _ _ _ (upd ρ d v t) _
      rw [upd_ne _ _ e]; exact h t


theorem mem_back {X : Cx} {w : World} {S : Nat → Prop} {γ : Nat → Loc} {σ : St} {a : Act} (hrel : Rel X w S γ σ a) {cin : Cut} {v : cin.T} {γi : Nat → Loc} {rl : List (Nat × Option Nat)}
    (hrl : ∀ n d, rlook n rl = some (some d) → ∃ q, mofO cin.objs v.2 n = some q) (g1 : ∀ n d, rlook n rl = some (some d) → γi n = γ d) (g2 : ∀ n, rlook n rl = some none → γi n = ⟨none, 0⟩) (hmi : MemRel w S γi (mofO cin.objs v.2) X.B) (hq : ∀ n q, mofO cin.objs v.2 n = some q → QOk σ.m rl n q)
    {ex : Nat → Prop} (hexS : ∀ b, S b → ¬ ex b) (hexB : ∀ b, X.B b → ¬ ex b) (hexO : ∀ n' o b, σ.m n' = some o → o.live = true → (γ n').blk = some b → ¬ ex b)
    {w' : World} {S' : Nat → Prop} {γ' : Nat → Loc} {τ : St} {ns : List Nat} {x : Value} {B' : Nat → Prop} (hB' : B' = fun k => k < w.heap.size ∧ ∀ n q, mofO cin.objs v.2 n = some q → q.live = true → (γi n).blk ≠ some k)
    (hb : BackOk ex B' w S γi (mofO cin.objs v.2) w' S' γ' τ ns x) {dst : Option Nat} {d : Nat} (hdst : dstLt a.tmps.size dst) (hd : d < 4096) {σ' : St} (h : backA rl σ dst d τ ns some = some σ') :
    ∃ S'' γ'', Rel X w' S'' γ'' σ' (a.put dst x) ∧ Keeps σ.m γ σ'.m γ'' ∧ (∀ b, S b → S'' b) ∧ (∀ b, S b → w'.heap[b]? = w.heap[b]?) ∧
      (∀ n o, σ.m n = some o → (∀ k, rlook k rl ≠ some (some n)) → σ'.m n = some o) ∧
      (∀ l, B' l → ¬ S l → (∀ n' o, σ.m n' = some o → o.live = true → (γ n').blk ≠ some l) → ¬ S'' l ∧ ∀ n' o, σ'.m n' = some o → o.live = true → (γ'' n').blk ≠ some l) := by
  unfold backA at h
  split at h
  case h_2 => cases h
  rename_i le hle
  obtain ⟨hc, h⟩ := gd_some h
  simp only [Bool.and_eq_true, Nat.blt_eq] at hc
  obtain ⟨⟨⟨hns, hrn1⟩, hf⟩, hs⟩ := hc
  generalize hnn : newNames le d 0 ns = nn at *
  split at h
  case h_2 => cases h
  rename_i m1 hm1
  split at h
  case h_2 => cases h
  rename_i m2 hm2
  cases h
  generalize hrn : le ++ nn = rn at *
  have nf := onceL_spec hf
  have nsn := onceL_spec hs
  rw [← List.map_append, hrn] at nf nsn
  have nf1 : (le.map (·.1)).Nodup := by
    have := nf; rw [← hrn, List.map_append] at this; exact (List.nodup_append.1 this).1
  have ns1 : (le.map (·.2)).Nodup := by
    have := nsn; rw [← hrn, List.map_append] at this; exact (List.nodup_append.1 this).1
  have ns2 : (nn.map (·.2)).Nodup := by
    have := nsn; rw [← hrn, List.map_append] at this; exact (List.nodup_append.1 this).2.1
  have nsd : ∀ k, k ∈ le.map (·.2) → k ∈ nn.map (·.2) → False := by
    have := nsn; rw [← hrn, List.map_append] at this
    intro k h1 h2
    exact (List.nodup_append.1 this).2.2 k h1 k h2 rfl
  obtain ⟨l1, l2⟩ := apL_spec hm1 ns1
  obtain ⟨p1, p2⟩ := apN_spec hm2 ns2
  -- what the memory is in the end
  have A : ∀ n n' q, (n, n') ∈ le → τ.m n = some q → m2 n' = some (renO rn q) := fun n n' q hn hq => by
    rw [p2 n' (fun h => nsd n' (List.mem_map.2 ⟨_, hn, rfl⟩) h)]; exact (l1 n n' hn).1 q hq
  have Bd : ∀ n n', (n, n') ∈ le → τ.m n = none → ∃ t xs, σ.m n' = some (.sl t xs .live) ∧ m2 n' = some (.sl t xs .dead) := fun n n' hn hq => by
    obtain ⟨t, xs, h1, h2⟩ := (l1 n n' hn).2 hq
    exact ⟨t, xs, h1, by rw [p2 n' (fun h => nsd n' (List.mem_map.2 ⟨_, hn, rfl⟩) h)]; exact h2⟩
  have Cn : ∀ n n', (n, n') ∈ nn → ∃ q, τ.m n = some q ∧ σ.m n' = none ∧ m2 n' = some (renO rn q) := fun n n' hn => by
    obtain ⟨h1, q, h2, h3⟩ := p1 n n' hn
    exact ⟨q, h2, by rw [← l2 n' (fun h => nsd n' h (List.mem_map.2 ⟨_, hn, rfl⟩))]; exact h1, h3⟩
  have D : ∀ n', n' ∉ le.map (·.2) → n' ∉ nn.map (·.2) → m2 n' = σ.m n' := fun n' h1 h2 => by rw [p2 n' h2, l2 n' h1]
  -- lent objects
  have lent : ∀ n n', (n, n') ∈ le → ∃ q0 o, mofO cin.objs v.2 n = some q0 ∧ σ.m n' = some o ∧ q0.kind = o.kind ∧ γi n = γ n' ∧ (q0.live = true → o.live = true) := by
    intro n n' hn
    have hlook := lents_spec hle (onceL_spec hrn1) n n' hn
    obtain ⟨q0, hq0⟩ := hrl n n' hlook
    refine ⟨q0, ?_⟩
    rcases hq n q0 hq0 with ⟨d', t, xs, k1, k2, rfl⟩ | ⟨t, k1, rfl⟩ | ⟨d', l', cs, s, z, k1, k2, k3, rfl⟩ | ⟨d', l', cs, id, ee, z, k1, k2, k3, rfl⟩
    · rw [hlook] at k1; cases k1
      exact ⟨_, hq0, k2, rfl, g1 _ _ hlook, fun h => h⟩
    · rw [hlook] at k1; cases k1
    · rw [hlook] at k1; cases k1
      exact ⟨_, hq0, k2, rfl, g1 _ _ hlook, fun h => by cases s <;> first | rfl | cases h⟩
    · rw [hlook] at k1; cases k1
      exact ⟨_, hq0, k2, rfl, g1 _ _ hlook, fun h => rfl⟩
  have lentLook : ∀ n q, mofO cin.objs v.2 n = some q → q.live = true → ∀ b, (γi n).blk = some b → ∃ d' o, rlook n rl = some (some d') ∧ σ.m d' = some o ∧ o.live = true ∧ (γ d').blk = some b := by
    intro n q hn hl b hbk
    rcases hq n q hn with ⟨d', t, xs, k1, k2, rfl⟩ | ⟨t, k1, rfl⟩ | ⟨d', l', cs, s, z, k1, k2, k3, rfl⟩ | ⟨d', l', cs, id, ee, z, k1, k2, k3, rfl⟩
    · exact ⟨d', _, k1, k2, rfl, by rw [← g1 _ _ k1]; exact hbk⟩
    · rw [Loc.blk, g2 _ k1] at hbk; cases hbk
    · exact ⟨d', _, k1, k2, (by cases s <;> first | rfl | cases hl), by rw [← g1 _ _ k1]; exact hbk⟩
    · exact ⟨d', _, k1, k2, rfl, by rw [← g1 _ _ k1]; exact hbk⟩
  -- protected blocks
  have hSB : ∀ b, S b → B' b := fun b hs => by
    rw [hB']
    exact ⟨hrel.mem.low b hs, fun n q hn hl hbk => (ObjRel.notS (hmi.obj n q hn) hl hbk).1 hs⟩
  have hXB : ∀ b, X.B b → B' b := fun b hs => by
    rw [hB']
    exact ⟨hrel.size_le b hs, fun n q hn hl hbk => hmi.high n q b hn hl hbk hs⟩
  have hoth : ∀ n' o b, σ.m n' = some o → o.live = true → (γ n').blk = some b → n' ∉ le.map (·.2) → B' b := fun n' o b ho hl hbk hni => by
    rw [hB']
    refine ⟨ObjRel.lt (hrel.mem.obj n' o ho) hl hbk, fun n q hn hlq hbq => ?_⟩
    obtain ⟨d', o', j1, j2, j3, j4⟩ := lentLook n q hn hlq b hbq
    have hmem := lents_look hle j1
    have hne : n' ≠ d' := fun e => hni (List.mem_map.2 ⟨_, hmem, e.symm⟩)
    exact hrel.mem.apart n' d' o o' b ho j2 hl j3 hne hbk j4
  have hSS : ∀ b, S' b → B' b → S b := fun b h1 h2 => (hb.snew b h1).elim id fun h => absurd h2 h
  have hwS : ∀ b, S b → w'.heap[b]? = w.heap[b]? := fun b hs => hb.bel.block b ⟨hSB b hs, hexS b hs⟩
  -- places
  let γ2 : Nat → Loc := fun n' => match rsc n' nn with
    | some n => γ' n
    | none => γ n'
  have gnew : ∀ n n', (n, n') ∈ nn → γ2 n' = γ' n := fun n n' hn => by simp only [γ2, rsc_mem ns2 hn]
  have gold : ∀ n', n' ∉ nn.map (·.2) → γ2 n' = γ n' := fun n' hn => by simp only [γ2, rsc_none hn]
  have glent : ∀ n n' q, (n, n') ∈ le → τ.m n = some q → γ2 n' = γ' n := fun n n' q hn hq => by
    obtain ⟨q0, o, k1, k2, k3, k4, _⟩ := lent n n' hn
    rw [gold n' (fun h => nsd n' (List.mem_map.2 ⟨_, hn, rfl⟩) h), (hb.pin n q0 q k1 hq).1, k4]
  have keep : Keeps σ.m γ m2 γ2 := by
    intro n' o ho
    have hnn' : n' ∉ nn.map (·.2) := fun h => by
      obtain ⟨⟨n, y⟩, h1, h2⟩ := List.mem_map.1 h
      cases h2
      obtain ⟨_, _, h3, _⟩ := Cn n _ h1
      rw [ho] at h3; cases h3
    by_cases hin : n' ∈ le.map (·.2)
    · obtain ⟨⟨n, y⟩, h1, h2⟩ := List.mem_map.1 hin
      cases h2
      obtain ⟨q0, o', k1, k2, k3, k4, _⟩ := lent n _ h1
      rw [ho] at k2; cases k2
      cases hτ : τ.m n with
      | some q => exact ⟨_, A n _ q h1 hτ, by rw [renO_kind, (hb.pin n q0 q k1 hτ).2, k3], gold _ hnn'⟩
      | none =>
        obtain ⟨t, xs, h3, h4⟩ := Bd n _ h1 hτ
        rw [ho] at h3; cases h3
        exact ⟨_, h4, rfl, gold _ hnn'⟩
    · exact ⟨o, by rw [D n' hin hnn']; exact ho, rfl, gold _ hnn'⟩
  have mems : ∀ {p}, p ∈ rn → p ∈ le ∨ p ∈ nn := fun {p} h => by rw [← hrn] at h; exact List.mem_append.1 h
  have asc' : ∀ n n', (n, n') ∈ rn → asc n rn = n' := fun n n' h => asc_mem nf h
  have hren : ∀ n q, τ.m n = some q → ∃ n', (n, n') ∈ rn ∧ asc n rn = n' ∧ m2 n' = some (renO rn q) ∧ γ2 n' = γ' n := by
    intro n q hτ
    have hin := hb.dom n (by rw [hτ]; simp)
    rcases newNames_cover (le := le) (d := d) (k := 0) hin with ⟨n', h1⟩ | ⟨n', h1⟩
    · have h2 : (n, n') ∈ rn := by rw [← hrn]; exact List.mem_append_left _ h1
      exact ⟨n', h2, asc' n n' h2, A n n' q h1 hτ, glent n n' q h1 hτ⟩
    · rw [hnn] at h1
      have h2 : (n, n') ∈ rn := by rw [← hrn]; exact List.mem_append_right _ h1
      obtain ⟨q', k1, k2, k3⟩ := Cn n n' h1
      rw [hτ] at k1; cases k1
      exact ⟨n', h2, asc' n n' h2, k3, gnew n n' h1⟩
  have hk : ∀ n q, τ.m n = some q → ∃ o', m2 (asc n rn) = some o' ∧ o'.kind = q.kind ∧ γ2 (asc n rn) = γ' n := fun n q hτ => by
    obtain ⟨n', h1, h2, h3, h4⟩ := hren n q hτ
    rw [h2]; exact ⟨_, h3, renO_kind _ _, h4⟩
  have hobj : ∀ n q n', ObjRel w' S' γ' τ.m n q → γ2 n' = γ' n → ObjRel w' S' γ2 m2 n' (renO rn q) := by
    intro n q n' h hg
    cases q with
    | box cs s =>
      obtain ⟨b, vs, el, h1, h2, h3, h4, h5, h6⟩ := h
      obtain ⟨k1, k2⟩ := RepAs.ren hk cs vs h3
      exact ⟨b, vs, el, by rw [hg]; exact h1, h2, k1, k2 h4, h5, h6⟩
    | sl t xs s =>
      cases s with
      | dead => trivial
      | live => have h : RowRel w' S' (γ' n) t xs .live := h; show RowRel w' S' (γ2 n') t xs .live; rw [hg]; exact h
      | still => have h : RowRel w' S' (γ' n) t xs .still := h; show RowRel w' S' (γ2 n') t xs .still; rw [hg]; exact h
    | rng id cs e =>
      cases e with
      | none => trivial
      | some e =>
        obtain ⟨l, rec, h⟩ := h
        exact ⟨l, rec, by rw [hg]; exact h.loc, h.heap, h.state, h.pending, h.ps, h.assign, h.body, h.size, (RepAs.ren hk _ _ h.caps).1, h.notS⟩
  -- whose object is it?
  have who : ∀ n' o, m2 n' = some o → (∃ n q, (n, n') ∈ rn ∧ τ.m n = some q ∧ o = renO rn q ∧ γ2 n' = γ' n) ∨ o.live = false ∧ (∃ t xs, o = .sl t xs .dead) ∨ (σ.m n' = some o ∧ n' ∉ le.map (·.2) ∧ γ2 n' = γ n') := by
    intro n' o ho
    by_cases h1 : n' ∈ nn.map (·.2)
    · obtain ⟨⟨n, y⟩, h2, h3⟩ := List.mem_map.1 h1
      cases h3
      obtain ⟨q, k1, k2, k3⟩ := Cn n _ h2
      rw [ho] at k3; cases k3
      exact .inl ⟨n, q, by rw [← hrn]; exact List.mem_append_right _ h2, k1, rfl, gnew n _ h2⟩
    · by_cases h2 : n' ∈ le.map (·.2)
      · obtain ⟨⟨n, y⟩, h3, h4⟩ := List.mem_map.1 h2
        cases h4
        cases hτ : τ.m n with
        | some q =>
          have := A n _ q h3 hτ
          rw [ho] at this; cases this
          exact .inl ⟨n, q, by rw [← hrn]; exact List.mem_append_left _ h3, hτ, rfl, glent n _ q h3 hτ⟩
        | none =>
          obtain ⟨t, xs, _, h5⟩ := Bd n _ h3 hτ
          rw [ho] at h5; cases h5
          exact .inr (.inl ⟨rfl, t, xs, rfl⟩)
      · rw [D n' h2 h1] at ho
        exact .inr (.inr ⟨ho, h2, gold n' h1⟩)
  have hmem : MemRel w' S' γ2 m2 X.B := by
    refine ⟨fun n' o ho => ?_, hb.mem.low, ?_, ?_⟩
    · rcases who n' o ho with ⟨n, q, h1, h2, rfl, h4⟩ | ⟨_, t, xs, rfl⟩ | ⟨h1, h2, h3⟩
      · exact hobj n q n' (hb.mem.obj n q h2) h4
      · trivial
      · refine ObjRel.later (hrel.mem.obj n' o h1) hwS hb.s0 keep h3 fun hl b hbk => ?_
        have hB := hoth n' o b h1 hl hbk h2
        exact ⟨hb.bel.block b ⟨hB, hexO n' o b h1 hl hbk⟩, fun hs => (ObjRel.notS (hrel.mem.obj n' o h1) hl hbk).1 (hSS b hs hB)⟩
    · intro n1 n2 o1 o2 b ho1 ho2 hl1 hl2 hne hb1 hb2
      rcases who n1 o1 ho1 with ⟨k1, q1, a1, a2, rfl, a4⟩ | ⟨e, _⟩ | ⟨a1, a2, a3⟩
      · rcases who n2 o2 ho2 with ⟨k2, q2, c1, c2, rfl, c4⟩ | ⟨e, _⟩ | ⟨c1, c2, c3⟩
        · rw [renO_live] at hl1 hl2
          rw [a4] at hb1; rw [c4] at hb2
          refine hb.mem.apart k1 k2 q1 q2 b a2 c2 hl1 hl2 (fun e => ?_) hb1 hb2
          subst e
          exact hne ((asc' _ _ a1).symm.trans (asc' _ _ c1))
        · rw [hl2] at e; cases e
        · rw [renO_live] at hl1
          rw [a4] at hb1; rw [c3] at hb2
          exact hb.mem.high k1 q1 b a2 hl1 hb1 (hoth n2 o2 b c1 hl2 hb2 c2)
      · rw [hl1] at e; cases e
      · rcases who n2 o2 ho2 with ⟨k2, q2, c1, c2, rfl, c4⟩ | ⟨e, _⟩ | ⟨c1, c2, c3⟩
        · rw [renO_live] at hl2
          rw [a3] at hb1; rw [c4] at hb2
          exact hb.mem.high k2 q2 b c2 hl2 hb2 (hoth n1 o1 b a1 hl1 hb1 a2)
        · rw [hl2] at e; cases e
        · rw [a3] at hb1; rw [c3] at hb2
          exact hrel.mem.apart n1 n2 o1 o2 b a1 c1 hl1 hl2 hne hb1 hb2
    · intro n' o b ho hl hbk
      rcases who n' o ho with ⟨n, q, h1, h2, rfl, h4⟩ | ⟨e, _⟩ | ⟨h1, h2, h3⟩
      · rw [renO_live] at hl
        rw [h4] at hbk
        exact fun h => hb.mem.high n q b h2 hl hbk (hXB b h)
      · rw [hl] at e; cases e
      · rw [h3] at hbk; exact hrel.mem.high n' o b h1 hl hbk
  have htm : ∀ t, RepA w' S' γ2 m2 (σ.ρ t) (a.tmps.getD t undef) := fun t => RepA.mono hwS hb.s0 keep _ _ (hrel.tm t)
  refine ⟨S', γ2, ⟨hmem, ?_, hrel.below.trans (hb.bel.weak fun k hk => ⟨hXB k hk, hexB k hk⟩), hrel.base_le, fun b h => hb.s0 b (hrel.s0 b h), fun b hs => ?_, ?_, pin_keep hrel.pin keep (fun n l hl hn => ?_), hrel.pnhi, by rw [put_size]; exact hrel.small⟩, keep, hb.s0, hwS, fun n o ho hnl => ?_, fun l hBl hSl hol => ⟨fun hs => hSl (hSS l hs hBl), fun n' o ho hl hbk => ?_⟩⟩
  · intro t
    have hres := RepA.ren hk _ _ hb.res
    exact put_rep htm hres hdst t
  · rcases hb.snew b hs with h | h
    · exact hrel.snew b h
    · exact .inr fun hB => h (hXB b hB)
  · rw [put_defers]
    refine hrel.defers.mono hb.bel.others fun D hD hs => hSS D hs ?_
    rw [hB']
    refine ⟨(Array.getElem?_eq_some_iff.1 hD).1, fun n q hn hl hbk => ?_⟩
    obtain ⟨_, o, hg, hno⟩ := ObjRel.notS (hmi.obj n q hn) hl hbk
    rw [hD] at hg; cases hg
    exact hno _ rfl
  · intro hnone
    have hn : m2 n ≠ none := hn
    cases ho : m2 n with
    | none => exact hn ho
    | some o =>
      have hhi := hrel.pnhi n l hl
      have hsm := hrel.small
      by_cases h1 : n ∈ nn.map (·.2)
      · obtain ⟨⟨k, y⟩, h2, h3⟩ := List.mem_map.1 h1
        cases h3
        rw [← hnn] at h2
        have := newNames_small h2
        simp only at hhi
        omega
      · by_cases h2 : n ∈ le.map (·.2)
        · obtain ⟨⟨k, y⟩, h3, h4⟩ := List.mem_map.1 h2
          cases h4
          obtain ⟨_, _, _, h5, _⟩ := lent k _ h3
          rw [hnone] at h5; cases h5
        · rw [D n h2 h1] at ho
          rw [hnone] at ho; cases ho
  · have h1 : n ∉ nn.map (·.2) := fun h => by
      obtain ⟨⟨k, y⟩, h1, h2⟩ := List.mem_map.1 h
      cases h2
      obtain ⟨_, _, h3, _⟩ := Cn k _ h1
      rw [ho] at h3; cases h3
    have h2 : n ∉ le.map (·.2) := fun h => by
      obtain ⟨⟨k, y⟩, h3, h2⟩ := List.mem_map.1 h
      cases h2
      exact hnl k (lents_spec hle (onceL_spec hrn1) k _ h3)
    show m2 n = some o
    rw [D n h2 h1]; exact ho
  · have ho : m2 n' = some o := ho
    rcases who n' o ho with ⟨n, q, h1, h2, rfl, h4⟩ | ⟨e, _⟩ | ⟨h1, h2, h3⟩
    · rw [renO_live] at hl
      rw [h4] at hbk
      exact hb.mem.high n q l h2 hl hbk hBl
    · rw [hl] at e; cases e
    · rw [h3] at hbk; exact hol n' o h1 hl hbk

/-- a call with memory -/
theorem mems_ok {P : Program} {f : FuncId} {X : Cx} {w : World} {S : Nat → Prop} {γ : Nat → Loc} {σ : St} {a : Act} (hrel : Rel X w S γ σ a) {as : List AV} {vals : List Value} (hr : RepAs w S γ σ.m as vals) {dst : Option Nat} {d : Nat} (hdst : dstLt a.tmps.size dst) (hd : d < 4096) {σ' : St} : ∀ {l : List CtrM}, (∀ c, c ∈ l → SoundM P f c) → memsA l σ dst d as some = some σ' →
    (∀ w' (args : Array Value), (callFunc f args).run P w' = .ok (.enter f args) w') ∧
    Calls P f vals.toArray w fun e w' => ∃ v, e = .returned v ∧ ∃ S' γ', Rel X w' S' γ' σ' (a.put dst v) ∧ Keeps σ.m γ σ'.m γ'
  | [], _, h => by cases h
  | c :: l, hl, h => by
    simp only [memsA] at h
    split at h
    · rename_i v hv
      obtain ⟨hra, h⟩ := gd_some h
      split at h
      · rename_i t ht
        have htm : ∀ t, RepA w S γ σ.m (argsA 0 as t) (vals.getD t undef) := fun t => by
          have := argsA_rep (rest := []) 0 t hr
          simpa using this
        obtain ⟨γi, g1, g2, hmi, hrep, hq, hdist⟩ := getW_ok (g := fun src _ => srcOf (argsA 0 as) σ.m src) hrel.mem htm (renC_map c.cin.objs) hv
        have hvals : c.cin.tms.map (fun t => vals.getD t undef) = vals := rangeIs_spec hra hr.length (fun i => by rw [Nat.zero_add])
        rw [hvals] at hrep
        have hmi' : MemRel w S γi (mofO c.cin.objs v.2) (fun k => k < w.heap.size ∧ ∀ n q, mofO c.cin.objs v.2 n = some q → q.live = true → (γi n).blk ≠ some k) :=
          ⟨hmi.obj, hmi.low, hmi.apart, fun n q b hn hlq hbk h => h.2 n q hn hlq hbk⟩
        obtain ⟨k1, k2⟩ := hl c (by simp) w S γi _ v vals t _ σ' hmi' (fun k h => h.1) hrep ht h
        refine ⟨k1, k2.mono ?_⟩
        rintro e w' ⟨x, S', γ', τ, ns, rfl, hback, hok⟩
        have hnames : ∀ n d', rlook n (renC (argsA 0 as) σ.m c.cin.objs) = some (some d') → ∃ q, mofO c.cin.objs v.2 n = some q := fun n d' hlk => by
          rw [renC_map] at hlk
          exact renG_mofO (g := fun src _ => srcOf (argsA 0 as) σ.m src) hlk
        obtain ⟨S'', γ'', h1, h2, _⟩ := mem_back hrel hnames g1 g2 hmi hq (ex := fun _ => False) (fun _ _ h => h) (fun _ _ h => h) (fun _ _ _ _ _ _ h => h) rfl hok hdst hd hback
        exact ⟨x, rfl, S'', γ'', h1, h2⟩
      · cases h
    · exact mems_ok hrel hr hdst hd (fun c' hc' => hl c' (List.mem_cons_of_mem _ hc')) h

end Go.Dv
