/- What the reference's Apply and All do: the same as the program's. -/
import Derived.Test.YtknfflpgemghmaaGreatDsRef
set_option linter.all false
namespace Ds
open Go Go.Dv
set_option maxRecDepth 100000
set_option linter.unusedVariables false

theorem ends_apart {e : B × B} (he : e ∈ ends) (k : B) (h1 : e.1.isPrefixOf k = true) : e.2.isPrefixOf k = false := by
  have h : (ends.all fun e => !(e.1.isPrefixOf e.2) && !(e.2.isPrefixOf e.1)) = true := by decide +kernel
  have hh := List.all_eq_true.1 h e he
  simp only [Bool.and_eq_true, Bool.not_eq_true'] at hh
  cases h2 : e.2.isPrefixOf k
  · rfl
  · have p1 := List.isPrefixOf_iff_prefix.1 h1
    have p2 := List.isPrefixOf_iff_prefix.1 h2
    rcases Nat.le_total e.1.length e.2.length with hl | hl
    · have := List.isPrefixOf_iff_prefix.2 (List.prefix_of_prefix_length_le p1 p2 hl)
      rw [this] at hh; cases hh.1
    · have := List.isPrefixOf_iff_prefix.2 (List.prefix_of_prefix_length_le p2 p1 hl)
      rw [this] at hh; cases hh.2

theorem rBegins_ok (N : Nat) (k p : B) : ref02_Begins N k p = some (p.isPrefixOf k) := by
  simp only [ref02_Begins, ← pre_take]
  by_cases h : p.length ≤ k.length
  · rw [bif_t (by simp; omega), gd_t (by simp; omega), cut_pre]
    simp [h]
  · rw [bif_f (by simp; omega)]
    simp [h]

theorem rMoved_ok (N : Nat) (k p q : B) (hk : k.length < 1000000000) (hq : q.length < 1000000000) : ref02_Moved N k p q = some (bif p.isPrefixOf k then (q ++ k.drop p.length, true) else ([], false)) := by
  simp only [ref02_Moved, rBegins_ok]
  cases e : p.isPrefixOf k
  · rfl
  · have h : p.length ≤ k.length := (List.isPrefixOf_iff_prefix.1 e).length_le
    simp only [Bool.not_true, cond_false, cond_true]
    rw [gd_t (by simp; omega), cut_post, gd_p (by simp only [maxS, List.length_drop]; omega)]

theorem in1 (s : Sp) (k : B) : inS [s] k = hasB s k := by simp [inS]

theorem rstamp_l1 (N : Nat) (s : B × B) (a : Int) (b c d e : B) (v : Int) : ∀ (post pre : List Pr) (n : Nat), post.length < n → (pre ++ post).length < 1000000000 →
    ref05_Apply_l1 N n (pre.length : Int) a b c s.1 s.2 d e v (pre ++ post) = some ((), (pre ++ post.map (stp s v), ()))
  | _, _, 0, h, _ => absurd h (Nat.not_lt_zero _)
  | [], pre, n + 1, _, _ => by
    rw [ref05_Apply_l1_succ]
    simp only [ref05_Apply_l1_step, List.append_nil, Int.lt_irrefl, decide_false, cond_false, List.map_nil]
  | x :: post, pre, n + 1, hn, hl => by
    simp only [List.length_cons] at hn
    have hl' : pre.length < 9223372036854775807 := by simp at hl; omega
    rw [ref05_Apply_l1_succ]
    simp only [ref05_Apply_l1_step, lt_mid, in_mid, cond_true, rd_mid, set_mid, rHas_eq]
    rw [gd_t rfl]
    have ih := fun y : Pr => rstamp_l1 N s a b c d e v post (pre ++ [y]) n (by omega) (by simp at hl ⊢; omega)
    cases e1 : hasB s x.1
    · rw [cond_false, wr_mid (q := x) hl', app_mid (pre := pre) (q := x) (post := post), ih x]
      simp [stp, e1]
    · rw [cond_true, gd_t rfl, wr_mid (q := (x.1, x.2.1, v)) hl', app_mid (pre := pre) (q := (x.1, x.2.1, v)) (post := post), ih]
      simp [stp, e1]

theorem rmoved_l0 {n L : Nat} {k : Int} {e : B × B} (he : e ∈ ends) {out src : List Pr} (ho : Srt out) (hn : out.length + src.length < 90000) (hs : ∀ x ∈ src, x.1.length < 1000000 ∧ e.1.isPrefixOf x.1 = true) :
    ref05_Apply_l0 NN NN (0 : Int) k [] [] [] [] e.1 e.2 0 out src = some ((), (uniT out (src.map fun x => (e.2 ++ x.1.drop e.1.length, x.2)), ())) := by
  have e2 := (path_end (ends_path he).2).2
  have h := walk0 (xs := src) (L := fun n i s => ref05_Apply_l0 NN n i k [] [] [] [] e.1 e.2 0 s src) (fun t x => insT (e.2 ++ x.1.drop e.1.length, x.2) t) (fun s => ((), (s, ()))) (fun s post => Srt s ∧ s.length + post.length ≤ out.length + src.length ∧ ∀ x ∈ post, x.1.length < 1000000 ∧ e.1.isPrefixOf x.1 = true)
    (fun n s _ => by
      rw [ref05_Apply_l0_succ]
      simp only [ref05_Apply_l0_step, Int.lt_irrefl, decide_false, cond_false])
    (fun n pre x post s hx hi => by
      have hb : pre.length < 9223372036854775807 := by rw [hx] at hn; simp at hn; omega
      obtain ⟨h1, h2, h3⟩ := hi
      simp only [List.length_cons] at h2
      obtain ⟨x1, x2⟩ := h3 x (by simp)
      have hin := insT_len (e.2 ++ x.1.drop e.1.length, x.2) s
      have hbl := congrArg List.length hx
      have hm := rMoved_ok NN x.1 e.1 e.2 (by omega) (by omega)
      rw [x2, cond_true] at hm
      rw [ref05_Apply_l0_succ]
      rw [hx]
      simp only [ref05_Apply_l0_step, lt_mid, in_mid, cond_true, rd_mid, hm, Insert_ok NN (e.2 ++ x.1.drop e.1.length, x.2) h1 (show s.length < NN by simp only [NN]; omega) (by omega)]
      rw [gd_t rfl, gd_t rfl, gd_t rfl, wr_mid (q := x) hb]
      exact ⟨rfl, h1.insT _, by omega, fun y hy => h3 y (by simp [hy])⟩)
    (by simp only [NN]; omega) (show Srt out ∧ out.length + src.length ≤ out.length + src.length ∧ _ from ⟨ho, Nat.le_refl _, hs⟩) (n := NN)
  rw [h]
  unfold uniT
  rw [List.foldl_map]

theorem rapply_ok {n L : Nat} {t : List Pr} (h : Ok n L t) (hn : 2 * n + 4 < 90000) (h7 : 7 ≤ L) (hL : L < 1000000) {m : Mg} (hm : Good m) : ref05_Apply NN t m = some (app m t) := by
  have hl := h.len
  have wo := fun s : Sp => Without_ok NN t [s] (by simp only [NN]; omega) (by simp [NN]) (by simp only [Big]; omega) (by simp [Big])
  have wi := fun s : Sp => Within_ok NN t [s] (by simp only [NN]; omega) (by simp [NN]) (by simp only [Big]; omega) (by simp [Big])
  simp only [in1] at wo wi
  cases hm with
  | put k v x hk hv h0 h1 =>
    simp only [ref05_Apply, eqi_self, cond_true, Insert_ok NN (k, v, x) h.srt (by simp only [NN]; omega) (by omega)]
    rfl
  | del k hk =>
    have e2 : ref02_One NN k = some (k, k ++ [0]) := by
      have := good_key hk
      simp only [ref02_One]
      rw [gd_p (by simp only [maxS, List.length_cons, List.length_nil]; omega)]
    have j1 : eqi (2 : Int) 1 = false := by decide
    simp only [ref05_Apply, j1, eqi_self, cond_true, cond_false, e2, wo]
    rfl
  | drop s hs =>
    have j1 : eqi (3 : Int) 1 = false := by decide
    have j2 : eqi (3 : Int) 2 = false := by decide
    simp only [ref05_Apply, j1, j2, eqi_self, cond_true, cond_false, wo]
    rfl
  | stamp s x hs h0 h1 =>
    have j1 : eqi (6 : Int) 1 = false := by decide
    have j2 : eqi (6 : Int) 2 = false := by decide
    have j3 : eqi (6 : Int) 3 = false := by decide
    have hp := rstamp_l1 NN s 6 [] [] [] [] x t [] NN (by simp only [NN]; omega) (by simp only [List.nil_append]; omega)
    have hz : (([] : List Pr).length : Int) = 0 := rfl
    simp only [List.nil_append, hz] at hp
    simp only [ref05_Apply, j1, j2, j3, eqi_self, cond_true, cond_false]
    rw [gd_t (fits_p (by omega) (by omega))]
    simp only [List.nil_append, hp]
    rfl
  | move e he =>
    have j1 : eqi (4 : Int) 1 = false := by decide
    have j2 : eqi (4 : Int) 2 = false := by decide
    have j3 : eqi (4 : Int) 3 = false := by decide
    have j4 : eqi (4 : Int) 6 = false := by decide
    obtain ⟨h1, h2⟩ := ends_path he
    have a1 := h.filter fun p => !(hasB (preB e.2) p.1)
    have a2 := a1.filter fun p => !(hasB (preB e.1) p.1)
    have wo2 := Without_ok NN (t.filter fun p => !(hasB (preB e.2) p.1)) [preB e.1] (by have := a1.len; simp only [NN]; omega) (by simp [NN]) (by have := a1.len; simp only [Big]; omega) (by simp [Big])
    simp only [in1] at wo2
    have es : t.filter (fun p => hasB (preB e.1) p.1) = t.filter (fun x => e.1.isPrefixOf x.1) := List.filter_congr fun x _ => hasB_pre h1 x.1
    have hsl : (t.filter (fun x => e.1.isPrefixOf x.1)).length ≤ t.length := List.length_filter_le _ _
    have hm := rmoved_l0 (n := 0) (L := 0) (k := 4) he a2.srt (src := t.filter (fun x => e.1.isPrefixOf x.1)) (by have := a2.len; omega) (fun x hx => ⟨by have := h.key x (List.mem_filter.1 hx).1; omega, (List.mem_filter.1 hx).2⟩)
    simp only [ref05_Apply, j1, j2, j3, j4, eqi_self, cond_true, cond_false, (pre_ok h2).2, (pre_ok h1).2, wo, wi, wo2, es, hm]
    refine congrArg some (Srt.ext (uniT_srt _ a2.srt) ((uniT_srt _ a1.srt).filter _) fun k => ?_)
    have hms := h.srt.mvd e.1 e.2
    rw [show (t.filter (fun x => e.1.isPrefixOf x.1)).map (fun x => (e.2 ++ x.1.drop e.1.length, x.2)) = mvd e.1 e.2 t from rfl]
    rw [show app ((4, [], [], ([], []), e.1, e.2, 0) : Mg) t = (uniT (t.filter fun p => !(hasB (preB e.2) p.1)) (mvd e.1 e.2 t)).filter (fun p => !(hasB (preB e.1) p.1)) from rfl]
    rw [uniT_fnd hms, fnd_filter (fun x => !(hasB (preB e.1) x)), fnd_filter (fun x => !(hasB (preB e.1) x)), uniT_fnd hms, fnd_mvd, hasB_pre h1]
    cases q1 : e.1.isPrefixOf k
    · simp only [Bool.not_false, cond_true]
    · rw [ends_apart he k q1]; rfl
  | clone e he =>
    have j1 : eqi (5 : Int) 1 = false := by decide
    have j2 : eqi (5 : Int) 2 = false := by decide
    have j3 : eqi (5 : Int) 3 = false := by decide
    have j4 : eqi (5 : Int) 6 = false := by decide
    have j5 : eqi (5 : Int) 4 = false := by decide
    obtain ⟨h1, h2⟩ := ends_path he
    have a1 := h.filter fun p => !(hasB (preB e.2) p.1)
    have es : t.filter (fun p => hasB (preB e.1) p.1) = t.filter (fun x => e.1.isPrefixOf x.1) := List.filter_congr fun x _ => hasB_pre h1 x.1
    have hsl : (t.filter (fun x => e.1.isPrefixOf x.1)).length ≤ t.length := List.length_filter_le _ _
    have hm := rmoved_l0 (n := 0) (L := 0) (k := 5) he a1.srt (src := t.filter (fun x => e.1.isPrefixOf x.1)) (by have := a1.len; omega) (fun x hx => ⟨by have := h.key x (List.mem_filter.1 hx).1; omega, (List.mem_filter.1 hx).2⟩)
    simp only [ref05_Apply, j1, j2, j3, j4, j5, cond_false, (pre_ok h2).2, (pre_ok h1).2, wo, wi, es, hm]
    rfl

theorem rAll_l0 : ∀ (post pre : List Mg) (n N L : Nat) (t : List Pr), post.length < n → Big (pre ++ post).length → (∀ m ∈ post, Good m) → Ok N L t → (N + 1) * 2 ^ post.length ≤ 40000 → 7 ≤ L → L + 16 * post.length < 1000000 →
    ref05_All_l0 NN n t (pre ++ post) (pre.length : Int) = some (apps post t, ())
  | _, _, 0, _, _, _, h, _, _, _, _, _, _ => absurd h (Nat.not_lt_zero _)
  | [], pre, n + 1, N, L, t, _, _, _, _, _, _, _ => by
    rw [ref05_All_l0_succ]
    simp only [ref05_All_l0_step, List.append_nil, Int.lt_irrefl, decide_false, cond_false]
    rfl
  | m :: post, pre, n + 1, N, L, t, hn, hl, hg, ho, hN, h7, hL => by
    simp only [List.length_cons] at hn hN hL
    have e : (2 : Nat) ^ (post.length + 1) = 2 * 2 ^ post.length := by rw [Nat.pow_succ]; omega
    have hp : 0 < (2 : Nat) ^ post.length := Nat.pow_pos (by omega)
    have h1n : (N + 1) * 2 ≤ (N + 1) * 2 ^ (post.length + 1) := Nat.mul_le_mul_left _ (by rw [e]; omega)
    have e2 : (2 * N + 1 + 1) * 2 ^ post.length = (N + 1) * 2 ^ (post.length + 1) := by
      rw [e, show 2 * N + 1 + 1 = (N + 1) * 2 by omega, Nat.mul_assoc]
    have hl' : pre.length < 9223372036854775807 := by simp [Big] at hl; omega
    have a1 := rapply_ok ho (by omega) h7 (by omega) (hg m (by simp))
    obtain ⟨_, a2⟩ := good_ap ho (by simp only [NN]; omega) h7 (by omega) (hg m (by simp))
    rw [ref05_All_l0_succ]
    simp only [ref05_All_l0_step, lt_mid, in_mid, cond_true, rd_mid, a1]
    rw [gd_t rfl, wr_mid (q := m) hl', app_mid, rAll_l0 post (pre ++ [m]) n (2 * N + 1) (L + 16) _ (by omega) (by simpa using hl) (fun x hx => hg x (by simp [hx])) a2 (by rw [e2]; exact hN) (by omega) (by omega)]
    rfl

theorem rAll_ok {ms : List Mg} {N L : Nat} {t : List Pr} (hn : ms.length < NN) (hg : ∀ m ∈ ms, Good m) (ho : Ok N L t) (hN : (N + 1) * 2 ^ ms.length ≤ 40000) (h7 : 7 ≤ L) (hL : L + 16 * ms.length < 1000000) : ref05_All NN t ms = some (apps ms t) := by
  have h := rAll_l0 ms [] NN N L t hn (by simp only [NN, List.nil_append, Big] at hn ⊢; omega) hg ho hN h7 hL
  have hz : (([] : List Mg).length : Int) = 0 := rfl
  simp only [List.nil_append, hz] at h
  simp only [ref05_All, h]
end Ds
