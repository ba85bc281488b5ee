/- What messages do to tables: the program's msg.Apply and msg.All. -/
import Derived.Test.YtknfflpgemghmaaGreatDsPlaces
set_option linter.all false
namespace Ds
open Go Go.Dv
set_option maxRecDepth 100000
set_option linter.unusedVariables false

abbrev Mg := V_api_Msg
abbrev Sp := V_api_Span

/-! ## beginnings of texts -/
theorem cut_pre (k : B) (n : Nat) : cut2 k (0 : Int) (n : Int) = k.take n := by simp [cut2]
theorem cut_post (k : B) (n : Nat) : cut2 k (n : Int) (k.length : Int) = k.drop n := by
  simp only [cut2, Int.toNat_natCast]
  exact List.take_of_length_le (by simp)

theorem pre_take (p k : B) : (decide (p.length ≤ k.length) && eqs (k.take p.length) p) = p.isPrefixOf k := by
  rw [Bool.eq_iff_iff]
  simp only [Bool.and_eq_true, decide_eq_true_eq, eqs_iff, List.isPrefixOf_iff_prefix]
  constructor
  · rintro ⟨_, h⟩; exact h ▸ List.take_prefix _ _
  · intro h; exact ⟨h.length_le, (List.prefix_iff_eq_take.1 h).symm⟩

theorem HasPrefix_ok (N : Nat) (k p : B) : stringslite_HasPrefix N k p = some (p.isPrefixOf k) := by
  simp only [stringslite_HasPrefix, ← pre_take]
  by_cases h : p.length ≤ k.length
  · rw [bif_t (by simp; omega), gd_t (by simp; omega), cut_pre]
    simp [h]
  · rw [bif_f (by simp; omega)]
    simp [h]

theorem CutPrefix_ok (N : Nat) (k p : B) : strings_CutPrefix N k p = some (bif p.isPrefixOf k then (k.drop p.length, true) else (k, false)) := by
  simp only [strings_CutPrefix, stringslite_CutPrefix, HasPrefix_ok]
  cases e : p.isPrefixOf k
  · rfl
  · have h : p.length ≤ k.length := (List.isPrefixOf_iff_prefix.1 e).length_le
    simp only [Bool.not_true, cond_false]
    rw [gd_t (by simp; omega), cut_post]
    rfl

theorem Moved_ok (N : Nat) (k p q : B) (hk : k.length < 1000000000) (hq : q.length < 1000000000) : span_Moved N k p q = some (bif p.isPrefixOf k then (q ++ k.drop p.length, true) else ([], false)) := by
  simp only [span_Moved, CutPrefix_ok]
  cases e : p.isPrefixOf k
  · rfl
  · simp only [cond_true, Bool.not_true, cond_false]
    rw [gd_p (by simp only [maxS, List.length_drop]; omega)]

theorem prefix_span (c : UInt8) (hc : c.toNat < 255) : ∀ (i k : B), (bif !(lts k (i ++ [c])) then lts k (i ++ [c + 1]) else false) = (i ++ [c]).isPrefixOf k
  | [], [] => rfl
  | [], b :: r => by
    have h1 : (c + 1).toNat = c.toNat + 1 := by rw [UInt8.toNat_add]; simp; omega
    simp only [List.nil_append, lts_cons, lts_nil, Bool.and_false, Bool.or_false, List.isPrefixOf_cons₂, List.isPrefixOf_nil_left, Bool.and_true]
    have e1 : decide (b < c) = decide (b.toNat < c.toNat) := rfl
    have e2 : decide (b < c + 1) = decide (b.toNat < c.toNat + 1) := by rw [← h1]; rfl
    have e3 : (c == b) = decide (c.toNat = b.toNat) := by
      rw [Bool.eq_iff_iff]; simp [UInt8.toNat_inj]
    rw [e1, e2, e3]
    by_cases g1 : b.toNat < c.toNat
    · simp [g1]; omega
    · by_cases g2 : b.toNat < c.toNat + 1
      · simp [g1, g2]; omega
      · simp [g1, g2]; omega
  | a :: i, [] => rfl
  | a :: i, b :: r => by
    have ih := prefix_span c hc i r
    simp only [List.cons_append, lts_cons, List.isPrefixOf_cons₂, ← ih]
    rcases u8_tri a b with h | rfl | h
    · have h2 : ¬ b < a := fun g => UInt8.lt_irrefl _ (UInt8.lt_trans h g)
      have h3 : (b == a) = false := by simp; rintro rfl; exact h2 h
      have h4 : (a == b) = false := by simp; rintro rfl; exact h2 h
      simp [h2, h3, h4]
    · simp [UInt8.lt_irrefl]
    · have h4 : (a == b) = false := by simp; rintro rfl; exact UInt8.lt_irrefl _ h
      simp [h, h4]

def preB (p : B) : B × B := (p, p.dropLast ++ [48])
theorem path_end {p : B} (hp : p ∈ paths) : p = p.dropLast ++ [47] ∧ p.length ≤ 4 := by
  have h : (paths.all fun p => eqs p (p.dropLast ++ [47]) && Nat.ble p.length 4) = true := by decide
  have := List.all_eq_true.1 h p hp
  simp only [Bool.and_eq_true] at this
  exact ⟨eqs_iff.1 this.1, Nat.le_of_ble_eq_true this.2⟩
theorem hasB_pre {p : B} (hp : p ∈ paths) (k : B) : hasB (preB p) k = p.isPrefixOf k := by
  have e := (path_end hp).1
  have h := prefix_span 47 (by decide) p.dropLast k
  rw [← e] at h
  rw [← h]
  have : eqs (p.dropLast ++ [48]) [] = false := eqs_ne (by simp)
  simp only [hasB, preB, this, cond_false]
  rfl

theorem ends_path {e : B × B} (he : e ∈ ends) : e.1 ∈ paths ∧ e.2 ∈ paths := by
  have h : (ends.all fun e => paths.contains e.1 && paths.contains e.2) = true := by decide +kernel
  have := List.all_eq_true.1 h e he
  simpa using this

theorem pre_ok {p : B} (hp : p ∈ paths) : span_Prefix NN p = some (preB p) ∧ ref02_Prefix NN p = some (preB p) := by
  have h : (paths.all fun p => okO (span_Prefix NN p) fun s => okO (ref02_Prefix NN p) fun t => eqs s.1 (preB p).1 && eqs s.2 (preB p).2 && eqs t.1 (preB p).1 && eqs t.2 (preB p).2) = true := by decide +kernel
  obtain ⟨s, h1, h2⟩ := okO_some (List.all_eq_true.1 h p hp)
  obtain ⟨t, h3, h4⟩ := okO_some h2
  simp only [Bool.and_eq_true] at h4
  obtain ⟨⟨⟨e1, e2⟩, e3⟩, e4⟩ := h4
  rw [h1, h3]
  exact ⟨congrArg some (Prod.ext (eqs_iff.1 e1) (eqs_iff.1 e2)), congrArg some (Prod.ext (eqs_iff.1 e3) (eqs_iff.1 e4))⟩

/-! ## tables that are in order, and not too large -/
structure Ok (n L : Nat) (t : List Pr) : Prop where
  srt : Srt t
  len : t.length ≤ n
  key : ∀ p ∈ t, p.1.length ≤ L

theorem Ok.mono {n n' L L' : Nat} {t : List Pr} (h : Ok n L t) (hn : n ≤ n') (hL : L ≤ L') : Ok n' L' t := ⟨h.srt, Nat.le_trans h.len hn, fun p hp => Nat.le_trans (h.key p hp) hL⟩
theorem Ok.filter {n L : Nat} {t : List Pr} (h : Ok n L t) (f : Pr → Bool) : Ok n L (t.filter f) :=
  ⟨h.srt.filter f, Nat.le_trans (List.length_filter_le _ _) h.len, fun p hp => h.key p (List.mem_filter.1 hp).1⟩
theorem insT_mem {V : Type} {p x : B × V} {t : List (B × V)} (h : x ∈ insT p t) : x = p ∨ x ∈ t := by
  unfold insT at h
  rcases List.mem_append.1 h with h | h
  · exact .inr (List.mem_filter.1 h).1
  · rcases List.mem_cons.1 h with h | h
    · exact .inl h
    · exact .inr (List.mem_filter.1 h).1
theorem Ok.insT {n L : Nat} {t : List Pr} (h : Ok n L t) {p : Pr} (hp : p.1.length ≤ L) : Ok (n + 1) L (insT p t) :=
  ⟨h.srt.insT p, Nat.le_trans (insT_len p t) (by have := h.len; omega), fun q hq => by
    rcases insT_mem hq with rfl | hq
    · exact hp
    · exact h.key q hq⟩
theorem Ok.uniT {n m L : Nat} {t : List Pr} (h : Ok n L t) : ∀ {l : List Pr}, l.length ≤ m → (∀ p ∈ l, p.1.length ≤ L) → Ok (n + m) L (uniT t l) := by
  intro l hl hk
  unfold Ds.uniT
  induction l generalizing t n m with
  | nil => exact h.mono (by omega) (Nat.le_refl _)
  | cons p l ih =>
    simp only [List.length_cons] at hl
    rw [List.foldl_cons]
    exact (ih (n := n + 1) (m := m - 1) (h.insT (hk p (by simp))) (by omega) (fun q hq => hk q (by simp [hq]))).mono (by omega) (Nat.le_refl _)
theorem mvd_len {V : Type} (p q : B) (t : List (B × V)) : (mvd p q t).length ≤ t.length := by
  unfold mvd; rw [List.length_map]; exact List.length_filter_le _ _
theorem mvd_key {p q : B} {L : Nat} {t : List Pr} (h : ∀ x ∈ t, x.1.length ≤ L) : ∀ x ∈ mvd p q t, x.1.length ≤ q.length + L := by
  intro x hx
  unfold mvd at hx
  obtain ⟨y, hy, rfl⟩ := List.mem_map.1 hx
  have := h y (List.mem_filter.1 hy).1
  simp only [List.length_append, List.length_drop]; omega
theorem Ok.mvd {n L : Nat} {t : List Pr} (h : Ok n L t) (p q : B) : Ok n (q.length + L) (mvd p q t) :=
  ⟨h.srt.mvd p q, Nat.le_trans (mvd_len p q t) h.len, mvd_key h.key⟩

/-! ## moved pairs -/
theorem moved_l0 (N : Nat) (p q : B) (hq : q.length < 1000000000) : ∀ (post pre : List Pr) (n : Nat), post.length < n → (pre ++ post).length < 1000000000 → (∀ x ∈ post, p.isPrefixOf x.1 = true ∧ x.1.length < 1000000000) →
    msg_moved_l0 N n p q ((pre ++ post).length : Int) (pre.length : Int) (pre ++ post) = some ((), (pre ++ post.map (fun x => (q ++ x.1.drop p.length, x.2)), ()))
  | _, _, 0, h, _, _ => absurd h (Nat.not_lt_zero _)
  | [], pre, n + 1, _, _, _ => by
    rw [msg_moved_l0_succ]
    simp only [msg_moved_l0_step, List.append_nil, Int.lt_irrefl, decide_false, cond_false, List.map_nil]
  | x :: post, pre, n + 1, hn, hl, hx => by
    obtain ⟨h1, h2⟩ := hx x (by simp)
    simp only [List.length_cons] at hn
    have hl' : pre.length < 9223372036854775807 := by simp at hl; omega
    rw [msg_moved_l0_succ]
    simp only [msg_moved_l0_step, lt_mid, in_mid, cond_true, rd_mid, set_mid, Moved_ok N x.1 p q h2 hq, h1]
    rw [gd_t rfl, gd_t rfl, wr_mid (q := (q ++ x.1.drop p.length, x.2)) hl']
    have ih := moved_l0 N p q hq post (pre ++ [(q ++ x.1.drop p.length, x.2)]) n (by omega) (by simp at hl ⊢; omega) (fun y hy => hx y (by simp [hy]))
    have e : ((pre ++ x :: post).length : Int) = ((pre ++ [(q ++ x.1.drop p.length, x.2)] ++ post).length : Int) := by simp
    rw [e, app_mid (pre := pre) (q := (q ++ x.1.drop p.length, x.2)) (post := post), ih]
    simp

theorem moved_ok {t : List Pr} {p q : B} (hp : p ∈ paths) (hq : q.length < 1000000000) (hs : Srt t) (hN : t.length + 4 < NN) (hk : ∀ x ∈ t, x.1.length < 1000000000) : msg_moved NN t p q = some (mvd p q t) := by
  have hl : t.length < 1000000000 := by simp only [NN] at hN; omega
  have hf := List.length_filter_le (fun x : Pr => p.isPrefixOf x.1) t
  have er : t.filter (fun x => hasB (preB p) x.1) = t.filter (fun x => p.isPrefixOf x.1) := List.filter_congr fun x _ => hasB_pre hp x.1
  have h := moved_l0 NN p q hq (t.filter fun x => p.isPrefixOf x.1) [] NN (by omega) (by simp only [List.nil_append]; omega) (fun x hx => ⟨(List.mem_filter.1 hx).2, hk x (List.mem_filter.1 hx).1⟩)
  have hz : (([] : List Pr).length : Int) = 0 := rfl
  simp only [List.nil_append, hz] at h
  simp only [msg_moved, (pre_ok hp).1, Range_ok NN (preB p) hs (by omega) hl, er, slices_Clone_s_api_Pair_api_Pair]
  rw [gd_t (fits_p (by omega) (by omega))]
  simp only [h]
  rfl

/-! ## stamps -/
def stp (s : B × B) (n : Int) (p : Pr) : Pr := bif hasB s p.1 then (p.1, p.2.1, n) else p
theorem Has_eq (N : Nat) (s : V_api_Span) (k : B) : span_Has N s k = some (hasB s k) := by
  simp only [span_Has, hasB]
  cases lts k s.1 <;> cases eqs s.2 [] <;> rfl

theorem stamp_l0 (N : Nat) (s : B × B) (a : Int) (b c d e : B) (v : Int) : ∀ (post pre : List Pr) (n : Nat), post.length < n → (pre ++ post).length < 1000000000 →
    msg_stamp_apply_l0 N n ((pre ++ post).length : Int) (pre.length : Int) a b c s.1 s.2 d e v (pre ++ post) = some ((), (pre ++ post.map (stp s v), ()))
  | _, _, 0, h, _ => absurd h (Nat.not_lt_zero _)
  | [], pre, n + 1, _, _ => by
    rw [msg_stamp_apply_l0_succ]
    simp only [msg_stamp_apply_l0_step, List.append_nil, Int.lt_irrefl, decide_false, cond_false, List.map_nil]
  | x :: post, pre, n + 1, hn, hl => by
    simp only [List.length_cons] at hn
    have hl' : pre.length < 9223372036854775807 := by simp at hl; omega
    rw [msg_stamp_apply_l0_succ]
    simp only [msg_stamp_apply_l0_step, lt_mid, in_mid, cond_true, rd_mid, set_mid, Has_eq]
    rw [gd_t rfl]
    have ih := fun y : Pr => stamp_l0 N s a b c d e v post (pre ++ [y]) n (by omega) (by simp at hl ⊢; omega)
    have el : ∀ y : Pr, ((pre ++ x :: post).length : Int) = ((pre ++ [y] ++ post).length : Int) := fun y => by simp
    cases e1 : hasB s x.1
    · rw [cond_false, wr_mid (q := x) hl', el x, app_mid (pre := pre) (q := x) (post := post), ih x]
      simp [stp, e1]
    · rw [cond_true, gd_t rfl, wr_mid (q := (x.1, x.2.1, v)) hl', el (x.1, x.2.1, v), app_mid (pre := pre) (q := (x.1, x.2.1, v)) (post := post), ih]
      simp [stp, e1]

/-! ## one message -/
def app (m : Mg) (t : List Pr) : List Pr :=
  bif eqi m.1 1 then insT (m.2.1, m.2.2.1, m.2.2.2.2.2.2) t else
  bif eqi m.1 2 then t.filter (fun p => !(hasB (m.2.1, m.2.1 ++ [0]) p.1)) else
  bif eqi m.1 3 then t.filter (fun p => !(hasB m.2.2.2.1 p.1)) else
  bif eqi m.1 4 then (uniT (t.filter fun p => !(hasB (preB m.2.2.2.2.2.1) p.1)) (mvd m.2.2.2.2.1 m.2.2.2.2.2.1 t)).filter (fun p => !(hasB (preB m.2.2.2.2.1) p.1)) else
  bif eqi m.1 5 then uniT (t.filter fun p => !(hasB (preB m.2.2.2.2.2.1) p.1)) (mvd m.2.2.2.2.1 m.2.2.2.2.2.1 t) else
  bif eqi m.1 6 then t.map (stp m.2.2.2.1 m.2.2.2.2.2.2) else t

abbrev putMsg (k v : B) (n : Int) : Mg := (1, k, v, ([], []), [], [], n)
abbrev delMsg (k : B) : Mg := (2, k, [], ([], []), [], [], 0)
abbrev dropMsg (s : B × B) : Mg := (3, [], [], s, [], [], 0)
abbrev mv (k : Int) (e : B × B) : Mg := (k, [], [], ([], []), e.1, e.2, 0)
abbrev stampMsg (s : B × B) (n : Int) : Mg := (6, [], [], s, [], [], n)

section one
variable {n L : Nat} {t : List Pr} (h : Ok n L t) (hn : n + 4 < NN) (hL : L < 1000000)
include h hn
theorem put_ap (k v : B) (x : Int) : msg_Apply NN t (putMsg k v x) = some (insT (k, v, x) t) := by
  have hl := h.len
  have hp := Put_ok NN (k, v, x) h.srt (by omega) (by simp only [NN] at hn; omega)
  have e : msg_of NN (putMsg k v x) = some (.inl (putMsg k v x)) := rfl
  simp only [msg_Apply, e, msg_put_apply, hp]
theorem drop_ap (s : B × B) : msg_Apply NN t (dropMsg s) = some (t.filter fun p => !(hasB s p.1)) := by
  have hl := h.len
  have hp := Drop_ok NN s h.srt (by omega) (by simp only [NN] at hn; omega)
  have e : msg_of NN (dropMsg s) = some (.inr (.inr (.inl (dropMsg s)))) := rfl
  simp only [msg_Apply, e, msg_drop_apply, hp]
theorem del_ap {k : B} (hk : k.length < 1000000) : msg_Apply NN t (delMsg k) = some (t.filter fun p => !(hasB (k, k ++ [0]) p.1)) := by
  have hl := h.len
  have hp := Drop_ok NN (k, k ++ [0]) h.srt (by omega) (by simp only [NN] at hn; omega)
  have e : msg_of NN (delMsg k) = some (.inr (.inl (delMsg k))) := rfl
  have e2 : span_One NN k = some (k, k ++ [0]) := by
    simp only [span_One]
    rw [gd_p (by simp only [maxS, List.length_cons, List.length_nil]; omega)]
  simp only [msg_Apply, e, msg_del_apply, table_Del, e2, hp]
theorem stamp_ap (s : B × B) (x : Int) : msg_Apply NN t (stampMsg s x) = some (t.map (stp s x)) := by
  have hl := h.len
  have e : msg_of NN (stampMsg s x) = some (.inr (.inr (.inr (.inr (.inr (.inl (stampMsg s x))))))) := rfl
  have hp := stamp_l0 NN s 6 [] [] [] [] x t [] NN (by omega) (by simp only [NN, List.nil_append] at hn ⊢; omega)
  have hz : (([] : List Pr).length : Int) = 0 := rfl
  simp only [List.nil_append, hz] at hp
  simp only [msg_Apply, e, msg_stamp_apply, slices_Clone_s_api_Pair_api_Pair]
  rw [gd_t (fits_p (by simp only [NN] at hn; omega) (by omega))]
  simp only [hp]
include hL
theorem clone_in {k : Int} (hn : 2 * n + 4 < NN) {e : B × B} (he : e ∈ ends) : msg_clone_apply NN (mv k e) t = some (uniT (t.filter fun p => !(hasB (preB e.2) p.1)) (mvd e.1 e.2 t)) := by
  have hl := h.len
  obtain ⟨h1, h2⟩ := ends_path he
  have e2 := (path_end h2).2
  have hd := Drop_ok NN (preB e.2) h.srt (by omega) (by simp only [NN] at hn; omega)
  have hm := moved_ok (t := t) (q := e.2) h1 (by omega) h.srt (by omega) (fun x hx => by have := h.key x hx; omega)
  have a1 := h.filter fun p => !(hasB (preB e.2) p.1)
  have a2 := h.mvd e.1 e.2
  have hu := Union_ok NN a1.srt a2.srt (by have := a1.len; have := a2.len; omega) (by have := a1.len; have := a2.len; simp only [NN] at hn; omega)
  simp only [msg_clone_apply, (pre_ok h2).1, hd, hm, hu]
theorem clone_ap (hn : 2 * n + 4 < NN) {e : B × B} (he : e ∈ ends) : msg_Apply NN t (mv 5 e) = some (uniT (t.filter fun p => !(hasB (preB e.2) p.1)) (mvd e.1 e.2 t)) := by
  have e1 : msg_of NN (mv 5 e) = some (.inr (.inr (.inr (.inr (.inl (mv 5 e)))))) := rfl
  simp only [msg_Apply, e1, clone_in h (by omega) hL hn he]
theorem uni_ok {e : B × B} (he : e ∈ ends) : Ok (2 * n) (L + 16) (uniT (t.filter fun p => !(hasB (preB e.2) p.1)) (mvd e.1 e.2 t)) := by
  have hl := h.len
  have e2 := (path_end (ends_path he).2).2
  have hm := h.mvd e.1 e.2
  exact (((h.filter fun p => !(hasB (preB e.2) p.1)).mono (Nat.le_refl _) (show L ≤ L + 16 by omega)).uniT (m := n) hm.len (fun p hp => by have := hm.key p hp; omega)).mono (by omega) (Nat.le_refl _)
theorem move_ap (hn : 2 * n + 4 < NN) {e : B × B} (he : e ∈ ends) : msg_Apply NN t (mv 4 e) = some ((uniT (t.filter fun p => !(hasB (preB e.2) p.1)) (mvd e.1 e.2 t)).filter fun p => !(hasB (preB e.1) p.1)) := by
  have e1 : msg_of NN (mv 4 e) = some (.inr (.inr (.inr (.inl (mv 4 e))))) := rfl
  have hu := uni_ok h (by omega) hL he
  have hul := hu.len
  have hd := Drop_ok NN (preB e.1) hu.srt (by omega) (by simp only [NN] at hn; omega)
  simp only [msg_Apply, e1, msg_move_apply, clone_in h (by omega) hL hn he, (pre_ok (ends_path he).1).1, hd]
end one

theorem good_key {k : B} (hk : k ∈ keys) : k.length ≤ 7 := by
  have h : (keys.all fun k => Nat.ble k.length 7) = true := by decide +kernel
  exact Nat.le_of_ble_eq_true (List.all_eq_true.1 h k hk)

theorem good_ap {n L : Nat} {t : List Pr} (h : Ok n L t) (hn : 2 * n + 4 < NN) (h7 : 7 ≤ L) (hL : L < 1000000) {m : Mg} (hm : Good m) : msg_Apply NN t m = some (app m t) ∧ Ok (2 * n + 1) (L + 16) (app m t) := by
  have hl := h.len
  cases hm with
  | put k v x hk hv h0 h1 => exact ⟨put_ap h (by omega) k v x, (h.insT (by have := good_key hk; simp only; omega)).mono (by omega) (by omega)⟩
  | del k hk => exact ⟨del_ap h (by omega) (by have := good_key hk; omega), (h.filter _).mono (by omega) (by omega)⟩
  | drop s hs => exact ⟨drop_ap h (by omega) s, (h.filter _).mono (by omega) (by omega)⟩
  | move e he => exact ⟨move_ap h (by omega) hL hn he, ((uni_ok h (by omega) hL he).filter _).mono (by omega) (Nat.le_refl _)⟩
  | clone e he => exact ⟨clone_ap h (by omega) hL hn he, (uni_ok h (by omega) hL he).mono (by omega) (Nat.le_refl _)⟩
  | stamp s x hs h0 h1 =>
    have ek : ∀ p, (stp s x p).1 = p.1 := fun p => by unfold stp; cases hasB s p.1 <;> rfl
    refine ⟨stamp_ap h (by omega) s x, h.srt.map ek, ?_, fun p hp => ?_⟩
    · show (t.map _).length ≤ _; rw [List.length_map]; omega
    · obtain ⟨q, hq, rfl⟩ := List.mem_map.1 hp
      have := h.key q hq
      rw [ek]; omega

/-! ## many messages -/
def apps (ms : List Mg) (t : List Pr) : List Pr := ms.foldl (fun t m => app m t) t
/-- each message of a list does what it says -/
def Fit : List Mg → List Pr → Prop
  | [], _ => True
  | m :: ms, t => msg_Apply NN t m = some (app m t) ∧ Fit ms (app m t)

theorem All_l0 : ∀ (post pre : List Mg) (n : Nat) (t : List Pr), post.length < n → (pre ++ post).length < 1000000000 → Fit post t →
    msg_All_l0 NN n t (pre ++ post) ((pre ++ post).length : Int) (pre.length : Int) = some (apps post t, ())
  | _, _, 0, _, h, _, _ => absurd h (Nat.not_lt_zero _)
  | [], pre, n + 1, t, _, _, _ => by
    rw [msg_All_l0_succ]
    simp only [msg_All_l0_step, List.append_nil, Int.lt_irrefl, decide_false, cond_false]
    rfl
  | m :: post, pre, n + 1, t, hn, hl, hf => by
    simp only [List.length_cons] at hn
    have hl' : pre.length < 9223372036854775807 := by simp at hl; omega
    rw [msg_All_l0_succ]
    simp only [msg_All_l0_step, lt_mid, in_mid, cond_true, rd_mid, hf.1]
    rw [gd_t rfl, wr_mid (q := m) hl', app_mid, All_l0 post (pre ++ [m]) n _ (by omega) (by simpa using hl) hf.2]
    rfl

theorem All_ok {ms : List Mg} {t : List Pr} (hn : ms.length < NN) (hf : Fit ms t) : msg_All NN t ms = some (apps ms t) := by
  have h := All_l0 ms [] NN t hn (by simp only [NN, List.nil_append] at hn ⊢; omega) hf
  have hz : (([] : List Mg).length : Int) = 0 := rfl
  simp only [List.nil_append, hz] at h
  simp only [msg_All, h]

theorem Fit.append {a b : List Mg} : ∀ {t : List Pr}, Fit a t → Fit b (apps a t) → Fit (a ++ b) t := by
  induction a with
  | nil => exact fun _ h => h
  | cons m a ih => exact fun h g => ⟨h.1, ih h.2 g⟩
theorem apps_append (a b : List Mg) (t : List Pr) : apps (a ++ b) t = apps b (apps a t) := by simp [apps, List.foldl_append]

theorem good_fit : ∀ {ms : List Mg} {n L : Nat} {t : List Pr}, (∀ m ∈ ms, Good m) → Ok n L t → (n + 1) * 2 ^ ms.length ≤ 400000 → 7 ≤ L → L + 16 * ms.length < 1000000 → Fit ms t ∧ Ok ((n + 1) * 2 ^ ms.length) (L + 16 * ms.length) (apps ms t)
  | [], n, L, t, _, h, _, _, _ => ⟨trivial, h.mono (by simp) (by simp)⟩
  | m :: ms, n, L, t, hg, h, hn, h7, hL => by
    simp only [List.length_cons] at hn hL
    have e : (2 : Nat) ^ (ms.length + 1) = 2 * 2 ^ ms.length := by rw [Nat.pow_succ]; omega
    have hp : 0 < (2 : Nat) ^ ms.length := Nat.pow_pos (by omega)
    have hn1 : n + 1 ≤ (n + 1) * 2 ^ (ms.length + 1) := Nat.le_mul_of_pos_right _ (by rw [e]; omega)
    have e2 : (2 * n + 1 + 1) * 2 ^ ms.length = (n + 1) * 2 ^ (ms.length + 1) := by
      rw [e, show 2 * n + 1 + 1 = (n + 1) * 2 by omega, Nat.mul_assoc]
    have h1n : (n + 1) * 2 ≤ (n + 1) * 2 ^ (ms.length + 1) := Nat.mul_le_mul_left _ (by rw [e]; omega)
    obtain ⟨a1, a2⟩ := good_ap h (by simp only [NN]; omega) h7 (by omega) (hg m (by simp))
    obtain ⟨b1, b2⟩ := good_fit (ms := ms) (n := 2 * n + 1) (L := L + 16) (fun x hx => hg x (by simp [hx])) a2 (by rw [e2]; exact hn) (by omega) (by omega)
    exact ⟨⟨a1, b1⟩, b2.mono (by rw [e2]; simp) (by simp only [List.length_cons]; omega)⟩
end Ds
