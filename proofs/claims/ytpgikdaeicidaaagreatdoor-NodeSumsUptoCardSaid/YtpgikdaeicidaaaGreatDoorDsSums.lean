/- Bounds of sums hold after messages: node.Sum. -/
import Derived.Test.YtpgikdaeicidaaaGreatDoorDsTurns
set_option linter.all false
namespace Ds
open Go Go.Dv
set_option maxRecDepth 100000
set_option linter.unusedVariables false
abbrev MOST : Int := 1000000000000000
def loC (a x : Int) : Int := let x1 := (bif decide ((IntKind.wrap .i64 (a + x)) < (0 : Int)) then (0 : Int) else (IntKind.wrap .i64 (a + x)))
  (bif decide ((1000000000000000 : Int) < x1) then (1000000000000000 : Int) else x1)
def hiC (b y : Int) : Int := (bif decide ((1000000000000000 : Int) < (IntKind.wrap .i64 (b + y))) then (1000000000000000 : Int) else (IntKind.wrap .i64 (b + y)))
theorem zv6 (x y a b c d : Int) : z6b NN x y a b c d = some ((), ((loC a x, (hiC b y, (c, d))), ())) := rfl
theorem zjv (x y a b c d : Int) : z07 NN x y a b c d = some ((), ((a, (b, (loC c x, hiC d y))), ())) := rfl
theorem yya (x y a b c d : Int) : zce NN x y a b c d = some ((), ((), ((loC a x, (hiC b y, (loC c x, hiC d y))), ()))) := rfl
theorem zv2 {a x : Int} (h0 : 0 ≤ a) (h1 : a ≤ MOST) (h2 : -MOST ≤ x) (h3 : x ≤ MOST) : loC a x = a + x ∧ 0 ≤ a + x ∧ a + x ≤ MOST ∨ loC a x = 0 ∧ a + x < 0 ∨ loC a x = MOST ∧ MOST < a + x := by
  unfold loC
  rw [w64 (by simp only [MOST] at *; omega) (by simp only [MOST] at *; omega)]
  simp only [MOST] at *
  by_cases g : a + x < 0
  · right; left; simp [g]
  · have g' : decide (a + x < 0) = false := by simpa using g
    simp only [g', cond_false]
    by_cases g2 : (1000000000000000 : Int) < a + x
    · right; right; simp [g2]
    · left; rw [z5e (by simpa using g2)]; omega
theorem zhs {a x : Int} (h0 : 0 ≤ a) (h1 : a ≤ MOST) (h2 : 0 ≤ x) (h3 : x ≤ MOST) : hiC a x = a + x ∧ a + x ≤ MOST ∨ hiC a x = MOST ∧ MOST < a + x := by
  unfold hiC
  rw [w64 (by simp only [MOST] at *; omega) (by simp only [MOST] at *; omega)]
  simp only [MOST] at *
  by_cases g2 : (1000000000000000 : Int) < a + x
  · right; simp [g2]
  · left; rw [z5e (by simpa using g2)]; omega
def VB (t : List Pr) : Prop := ∀ x ∈ t, x.2.1.length ≤ 64
theorem uniT_mem {x : Pr} : ∀ {b a : List Pr}, x ∈ uniT a b → x ∈ a ∨ x ∈ b
  | [], a, h => .inl h
  | p :: b, a, h => by
    have h : x ∈ uniT (insT p a) b := h
    rcases uniT_mem h with h | h
    · rcases insT_mem h with rfl | h
      · exact .inr (by simp)
      · exact .inl h
    · exact .inr (by simp [h])
theorem VB.filter {t : List Pr} (h : VB t) (f : Pr → Bool) : VB (t.filter f) := fun x hx => h x (List.mem_filter.1 hx).1
theorem VB.clone {t : List Pr} (h : VB t) (p q : B) : VB (z8f p q t) := fun x hx => by
  rcases uniT_mem hx with hx | hx
  · exact h.filter _ x hx
  · unfold mvd at hx
    obtain ⟨y, hy, rfl⟩ := List.mem_map.1 hx
    exact h y (List.mem_filter.1 hy).1
theorem x6l {t : List Pr} (h : VB t) {m : Mg} (hm : vldB m = true) : VB (appV m t) := by
  rcases vld_cases hm with ⟨k, v, x, rfl, h1, h2, h3, h4, h5⟩ | ⟨k, rfl, h1, h2⟩ | ⟨s, rfl, hs⟩ | ⟨k, ⟨p, q⟩, rfl, hk, hs⟩ | ⟨s, x, rfl, hs, h4, h5⟩
  · intro y hy
    rcases insT_mem (show y ∈ insT (k, v, x) t from hy) with rfl | hy
    · exact h3
    · exact h y hy
  · exact h.filter _
  · exact h.filter _
  · rcases hk with rfl | rfl
    · exact (h.clone p q).filter _
    · exact h.clone p q
  · intro y hy
    obtain ⟨z, hz, rfl⟩ := List.mem_map.1 (show y ∈ t.map (stp s x) from hy)
    unfold stp
    cases hasB s z.1 <;> exact h z hz
theorem cap {n L : Nat} {t : List Pr} (ho : Ok n L t) (hv : VB t) (hn : n ≤ 1000000000) : 0 ≤ sm cI t ∧ sm cI t ≤ MOST ∧ 0 ≤ sm cB t ∧ sm cB t ≤ MOST := by
  have h1 := yhq (c := cI) (k := 1) (t := t) (fun x _ => (zv5 x).2)
  have h2 := yhq (c := cB) (k := 64) (t := t) (fun x hx => by have := (zqy x).2; have := hv x hx; omega)
  have h3 := yql (c := cI) (t := t) (fun x _ => (zv5 x).1)
  have h4 := yql (c := cB) (t := t) (fun x _ => (zqy x).1)
  have := ho.len
  simp only [MOST]; omega
structure Inv (t : List Pr) (a b c d : Int) : Prop where
  i0 : 0 ≤ a
  i1 : a ≤ sm cI t
  i2 : sm cI t ≤ b
  i3 : b ≤ MOST
  b0 : 0 ≤ c
  b1 : c ≤ sm cB t
  b2 : sm cB t ≤ d
  b3 : d ≤ MOST
theorem y8p {c : Pr → Int} {t : List Pr} (hs : Srt t) (k : B) {lo hi : Int} (h0 : lo ≤ 0) (h1 : 0 ≤ hi) (h : ∀ x ∈ t, x.1 = k → lo ≤ c x ∧ c x ≤ hi) : lo ≤ sm (atK c k) t ∧ sm (atK c k) t ≤ hi := by
  rcases sm_at c k hs with e | ⟨x, hx, hk, e⟩
  · rw [e]; exact ⟨h0, h1⟩
  · rw [e]; exact h x hx hk
theorem xda {n L : Nat} {t : List Pr} (ho : Ok n L t) (hL : L < 100000000) {p q : B} (hp : p.length ≤ 200) (hq : q.length ≤ 200) (ha : Pa.alikeB p q = true) : Like cI p q t ∧ Like cB p q t := by
  have key : ∀ x ∈ t, p.isPrefixOf x.1 = true → entK (q ++ x.1.drop p.length) = entK x.1 ∧ byK (q ++ x.1.drop p.length) = byK x.1 := fun x hx hpre => by
    have hk := ho.key x hx
    have e := zv8 hpre
    have := Pa.alike_turn (r := x.1.drop p.length) ha (by rw [e]; omega) (by simp; omega)
    rwa [e] at this
  exact ⟨fun x hx h => by unfold cI; simp only; rw [(key x hx h).1], fun x hx h => by unfold cB; simp only; rw [(key x hx h).2]⟩
theorem ztk : z2c NN [] = some (Pa.ZP, 12) := Pa.Place_no (fun p t n m h => by
  cases h with
  | entry h e => simp at e
  | block h hn e => rw [Pa.blk_nat hn] at e; simp at e
  | attr h hm e => simp at e
  | link h e => simp at e) (by simp)
theorem x9r {m : Mg} (hv : vldB m = true) {n L : Nat} {t : List Pr} (ho : Ok n L t) (hn : n < 100000000) (h7 : 65535 ≤ L) (hL : L < 1000000) (vb : VB t) {a b c d : Int} (inv : Inv t a b c d)
    (xs : List Mg) (l i : Int) (z1 z2 z3 z4 : Int) (hi : decide (i < l) = true) (hin : inB i xs.length = true) (hr : rdL xs i Y6 = m) :
    ∃ a' b' c' d', (∀ R, K4 NN R xs l i z1 z2 z3 z4 a b c d = R xs l (IntKind.wrap .i64 (i + (1 : Int))) z1 z2 z3 z4 a' b' c' d') ∧ Inv (appV m t) a' b' c' d' := by
  have hc := cap (x6k ho hn h7 hL hv).2 (x6l vb hv) (by omega)
  obtain ⟨i0, i1, i2, i3, b0, b1, b2, b3⟩ := inv
  rcases vld_cases hv with ⟨k, v, x, rfl, h1, h2, h3, h4, h5⟩ | ⟨k, rfl, h1, h2⟩ | ⟨s, rfl, hs⟩ | ⟨k, ⟨p, q⟩, rfl, hk, hs⟩ | ⟨s, x, rfl, hs, h4, h5⟩
  · obtain ⟨r, hp⟩ := ylw k (by omega)
    have eI : sm cI (appV (yqn k v x) t) = cI (k, v, x) + (sm cI t - sm (atK cI k) t) := x0z cI (k, v, x) t
    have eB : sm cB (appV (yqn k v x) t) = cB (k, v, x) + (sm cB t - sm (atK cB k) t) := x0z cB (k, v, x) t
    rw [eI, eB] at hc
    cases he : entK k
    · have vI : sm (atK cI k) t = 0 := by
        have := y8p (c := cI) ho.srt k (lo := 0) (hi := 0) (by omega) (by omega) (fun y _ e => by unfold cI; rw [e, he]; simp)
        omega
      have vB := y8p (c := cB) ho.srt k (lo := 0) (hi := 64) (by omega) (by omega) (fun y hy e => by have := zqy y; have := vb y hy; omega)
      have pI : cI (k, v, x) = 0 := by unfold cI; simp only; rw [he]; rfl
      have pB := zqy (k, v, x)
      simp only at pB
      refine ⟨a, b, loC c (-64), hiC d (v.length : Int), fun R => ?_, ?_⟩
      · simp only [K4, hi, cond_true, gd_t hin, hr, hp, Q1, zjv, zv6]
        unfold entK at he; rw [hp] at he; simp only at he
        cases e1 : eqi r.2 0
        · simp only [cond_false]; rfl
        · simp only [e1, cond_true] at he ⊢
          rw [he]; rfl
      · have l1 := zv2 b0 (by omega : c ≤ MOST) (x := -64) (by simp only [MOST]; omega) (by simp only [MOST]; omega)
        have l2 := zhs (by omega : 0 ≤ d) b3 (x := (v.length : Int)) (by omega) (by simp only [MOST]; omega)
        constructor <;> (try rw [eI]) <;> (try rw [eB]) <;> omega
    · have vI := y8p (c := cI) ho.srt k (lo := 0) (hi := 1) (by omega) (by omega) (fun y _ e => zv5 y)
      have vB : sm (atK cB k) t = 0 := by
        have := y8p (c := cB) ho.srt k (lo := 0) (hi := 0) (by omega) (by omega) (fun y _ e => by unfold cB; rw [e, yvs he]; simp)
        omega
      have pI : cI (k, v, x) = 1 := by unfold cI; simp only; rw [he]; rfl
      have pB : cB (k, v, x) = 0 := by unfold cB; simp only; rw [yvs he]; rfl
      refine ⟨loC a 0, hiC b 1, c, d, fun R => ?_, ?_⟩
      · simp only [K4, hi, cond_true, gd_t hin, hr, hp, Q1, zjv, zv6]
        unfold entK at he; rw [hp] at he; simp only at he
        cases e1 : eqi r.2 0
        · rw [e1] at he; cases he
        · simp only [e1, cond_true] at he ⊢
          rw [he]; rfl
      · have l1 := zv2 i0 (by omega : a ≤ MOST) (x := 0) (by simp only [MOST]; omega) (by simp only [MOST]; omega)
        have l2 := zhs (by omega : 0 ≤ b) i3 (x := 1) (by omega) (by simp only [MOST]; omega)
        constructor <;> (try rw [eI]) <;> (try rw [eB]) <;> omega
  · obtain ⟨r, hp⟩ := ylw k (by omega)
    have eI : sm cI (appV (yhu k) t) = sm cI t - sm (atK cI k) t := xbe cI k t
    have eB : sm cB (appV (yhu k) t) = sm cB t - sm (atK cB k) t := xbe cB k t
    rw [eI, eB] at hc
    cases he : entK k
    · have vI : sm (atK cI k) t = 0 := by
        have := y8p (c := cI) ho.srt k (lo := 0) (hi := 0) (by omega) (by omega) (fun y _ e => by unfold cI; rw [e, he]; simp)
        omega
      have vB := y8p (c := cB) ho.srt k (lo := 0) (hi := 64) (by omega) (by omega) (fun y hy e => by have := zqy y; have := vb y hy; omega)
      refine ⟨a, b, loC c (-64), hiC d 0, fun R => ?_, ?_⟩
      · simp only [K4, hi, cond_true, gd_t hin, hr, hp, Q1, q9, zjv, zv6]
        unfold entK at he; rw [hp] at he; simp only at he
        cases e1 : eqi r.2 0
        · simp only [cond_false]; rfl
        · simp only [e1, cond_true] at he ⊢
          rw [he]; rfl
      · have l1 := zv2 b0 (by omega : c ≤ MOST) (x := -64) (by simp only [MOST]; omega) (by simp only [MOST]; omega)
        have l2 := zhs (by omega : 0 ≤ d) b3 (x := 0) (by omega) (by simp only [MOST]; omega)
        constructor <;> (try rw [eI]) <;> (try rw [eB]) <;> omega
    · have vI := y8p (c := cI) ho.srt k (lo := 0) (hi := 1) (by omega) (by omega) (fun y _ e => zv5 y)
      have vB : sm (atK cB k) t = 0 := by
        have := y8p (c := cB) ho.srt k (lo := 0) (hi := 0) (by omega) (by omega) (fun y _ e => by unfold cB; rw [e, yvs he]; simp)
        omega
      refine ⟨loC a (-1), hiC b 0, c, d, fun R => ?_, ?_⟩
      · simp only [K4, hi, cond_true, gd_t hin, hr, hp, Q1, q9, zjv, zv6]
        unfold entK at he; rw [hp] at he; simp only at he
        cases e1 : eqi r.2 0
        · rw [e1] at he; cases he
        · simp only [e1, cond_true] at he ⊢
          rw [he]; rfl
      · have l1 := zv2 i0 (by omega : a ≤ MOST) (x := -1) (by simp only [MOST]; omega) (by simp only [MOST]; omega)
        have l2 := zhs (by omega : 0 ≤ b) i3 (x := 0) (by omega) (by simp only [MOST]; omega)
        constructor <;> (try rw [eI]) <;> (try rw [eB]) <;> omega
  · have eI := yua (c := cI) (t := t) (fun x _ => (zv5 x).1) fun p => !(hasB s p.1)
    have eB := yua (c := cB) (t := t) (fun x _ => (zqy x).1) fun p => !(hasB s p.1)
    have hc : 0 ≤ sm cI (t.filter fun p => !(hasB s p.1)) ∧ sm cI (t.filter fun p => !(hasB s p.1)) ≤ MOST ∧ 0 ≤ sm cB (t.filter fun p => !(hasB s p.1)) ∧ sm cB (t.filter fun p => !(hasB s p.1)) ≤ MOST := hc
    show ∃ a' b' c' d', _ ∧ Inv (t.filter fun p => !(hasB s p.1)) a' b' c' d'
    refine ⟨loC a (-1000000000000000), hiC b 0, loC c (-1000000000000000), hiC d 0, fun R => ?_, ?_⟩
    · simp only [K4, hi, cond_true, gd_t hin, hr, ztk, Q1, q9, zjv, zv6, yya]
      rfl
    · have l1 := zv2 i0 (by omega : a ≤ MOST) (x := -1000000000000000) (by simp only [MOST]; omega) (by simp only [MOST]; omega)
      have l2 := zhs (by omega : 0 ≤ b) i3 (x := 0) (by omega) (by simp only [MOST]; omega)
      have l3 := zv2 b0 (by omega : c ≤ MOST) (x := -1000000000000000) (by simp only [MOST]; omega) (by simp only [MOST]; omega)
      have l4 := zhs (by omega : 0 ≤ d) b3 (x := 0) (by omega) (by simp only [MOST]; omega)
      simp only [MOST] at *
      constructor <;> (try simp only [MOST]) <;> omega
  · have hle := zwi hs
    simp only at hle
    obtain ⟨⟨_, p2⟩, _, q2⟩ := hle
    have hpq : q.isPrefixOf p = false ∧ p.isPrefixOf q = false := by
      simp only [yhv, Bool.and_eq_true, Bool.not_eq_true'] at hs
      exact hs.2.2
    have l1 := zv2 i0 (by omega : a ≤ MOST) (x := -1000000000000000) (by simp only [MOST]; omega) (by simp only [MOST]; omega)
    have l3 := zv2 b0 (by omega : c ≤ MOST) (x := -1000000000000000) (by simp only [MOST]; omega) (by simp only [MOST]; omega)
    have hal := Pa.alike_eq (p := p) (q := q) p2 q2
    cases he : Pa.alikeB p q
    · refine ⟨loC a (-1000000000000000), hiC b 1000000000000000, loC c (-1000000000000000), hiC d 1000000000000000, fun R => ?_, ?_⟩
      · rw [he] at hal
        rcases hk with rfl | rfl <;> (simp only [K4, hi, cond_true, gd_t hin, hr, ztk, Q1, q9, zjv, zv6, yya, hal]; rfl)
      · have l2 := zhs (by omega : 0 ≤ b) i3 (x := 1000000000000000) (by omega) (by simp only [MOST]; omega)
        have l4 := zhs (by omega : 0 ≤ d) b3 (x := 1000000000000000) (by omega) (by simp only [MOST]; omega)
        simp only [MOST] at *
        constructor <;> (try simp only [MOST]) <;> omega
    · obtain ⟨k1, k2⟩ := xda ho (by omega) p2 q2 he
      rw [he] at hal
      rcases hk with rfl | rfl
      · have eI := yub (c := cI) ho.srt (fun x => (zv5 x).1) k1 hpq.2 hpq.1
        have eB := yub (c := cB) ho.srt (fun x => (zqy x).1) k2 hpq.2 hpq.1
        show ∃ a' b' c' d', _ ∧ Inv ((z8f p q t).filter fun x => !(p.isPrefixOf x.1)) a' b' c' d'
        refine ⟨loC a (-1000000000000000), hiC b 0, loC c (-1000000000000000), hiC d 0, fun R => ?_, ?_⟩
        · simp only [K4, hi, cond_true, gd_t hin, hr, ztk, Q1, q9, zjv, zv6, yya, hal]; rfl
        · have l2 := zhs (by omega : 0 ≤ b) i3 (x := 0) (by omega) (by simp only [MOST]; omega)
          have l4 := zhs (by omega : 0 ≤ d) b3 (x := 0) (by omega) (by simp only [MOST]; omega)
          simp only [MOST] at *
          constructor <;> (try simp only [MOST]) <;> omega
      · have eI := ymf (c := cI) ho.srt (fun x => (zv5 x).1) k1
        have eB := ymf (c := cB) ho.srt (fun x => (zqy x).1) k2
        have hc : 0 ≤ sm cI (z8f p q t) ∧ sm cI (z8f p q t) ≤ MOST ∧ 0 ≤ sm cB (z8f p q t) ∧ sm cB (z8f p q t) ≤ MOST := hc
        show ∃ a' b' c' d', _ ∧ Inv (z8f p q t) a' b' c' d'
        refine ⟨loC a (-1000000000000000), hiC b b, loC c (-1000000000000000), hiC d d, fun R => ?_, ?_⟩
        · simp only [K4, hi, cond_true, gd_t hin, hr, ztk, Q1, q9, zjv, zv6, yya, hal]; rfl
        · have l2 := zhs (by omega : 0 ≤ b) i3 (x := b) (by omega) i3
          have l4 := zhs (by omega : 0 ≤ d) b3 (x := d) (by omega) b3
          simp only [MOST] at *
          constructor <;> (try simp only [MOST]) <;> omega
  · have ek : ∀ y, cI (stp s x y) = cI y ∧ cB (stp s x y) = cB y := fun y => by unfold stp cI cB; cases hasB s y.1 <;> exact ⟨rfl, rfl⟩
    have eI : sm cI (t.map (stp s x)) = sm cI t := by rw [x1s]; exact zg3 fun y _ => (ek y).1
    have eB : sm cB (t.map (stp s x)) = sm cB t := by rw [x1s]; exact zg3 fun y _ => (ek y).2
    show ∃ a' b' c' d', _ ∧ Inv (t.map (stp s x)) a' b' c' d'
    refine ⟨a, b, c, d, fun R => ?_, ?_⟩
    · simp only [K4, hi, cond_true, gd_t hin, hr, ztk, Q1, q9, zjv, zv6, yya]
      rfl
    · constructor <;> (try rw [eI]) <;> (try rw [eB]) <;> assumption
theorem xbc (l z1 z2 z3 z4 : Int) : ∀ (post pre : List Mg) (k : Nat) (n L : Nat) (t : List Pr) (a b c d : Int), l = ((pre ++ post).length : Int) → post.length < k → (pre ++ post).length < 1000 → Ok n L t → (n + 1) * 2 ^ post.length ≤ 50000000 → 65535 ≤ L → L + 200 * post.length < 1000000 → (∀ m ∈ post, vldB m = true) → VB t → Inv t a b c d →
    ∃ a' b' c' d', zib NN k (pre ++ post) l (pre.length : Int) z1 z2 z3 z4 a b c d = some (((), ()), ((z1, (z2, (z3, z4))), ((a', (b', (c', d'))), ()))) ∧ Inv (yv3 post t) a' b' c' d'
  | _, _, 0, _, _, _, _, _, _, _, _, h, _, _, _, _, _, _, _, _ => absurd h (Nat.not_lt_zero _)
  | [], pre, k + 1, n, L, t, a, b, c, d, hl, _, _, _, _, _, _, _, _, inv => by
    subst hl
    refine ⟨a, b, c, d, ?_, inv⟩
    rw [zsd, K4, y82]; rfl
  | m :: post, pre, k + 1, n, L, t, a, b, c, d, hl, hk, hx, ho, hs, h7, hL, hv, vb, inv => by
    simp only [List.length_cons] at hk hL hs
    have hl' : pre.length < 9223372036854775807 := by simp at hx; omega
    have e : (2 : Nat) ^ (post.length + 1) = 2 * 2 ^ post.length := by rw [Nat.pow_succ]; omega
    have hp : 0 < (2 : Nat) ^ post.length := Nat.pow_pos (by omega)
    have hn1 : n + 1 ≤ (n + 1) * 2 ^ (post.length + 1) := Nat.le_mul_of_pos_right _ (by rw [e]; omega)
    have e2 : (2 * n + 1 + 1) * 2 ^ post.length = (n + 1) * 2 ^ (post.length + 1) := by
      rw [e, show 2 * n + 1 + 1 = (n + 1) * 2 by omega, Nat.mul_assoc]
    have hm := hv m (by simp)
    obtain ⟨a1, a2⟩ := x6k ho (by omega) h7 (by omega) hm
    obtain ⟨a', b', c', d', s1, s2⟩ := x9r hm ho (by omega) h7 (by omega) vb inv (pre ++ m :: post) l (pre.length : Int) z1 z2 z3 z4 (by rw [hl]; exact zk3) z7m z3n
    obtain ⟨a'', b'', c'', d'', i1, i2⟩ := xbc l z1 z2 z3 z4 post (pre ++ [m]) k (2 * n + 1) (L + 200) _ a' b' c' d' (by rw [hl]; simp) (by omega) (by simpa using hx) a2 (by rw [e2]; exact hs) (by omega) (by omega) (fun x hx => hv x (by simp [hx])) (x6l vb hm) s2
    refine ⟨a'', b'', c'', d'', ?_, i2⟩
    rw [zsd, s1, zjw (q := m) hl', z2j, i1]
end Ds
