/- The plain laws of SettleKeeps, SettleTurns and SettleRepeats. -/
import Derived.Test.YtfecapegkdpbhaaGreatDsApply
import Derived.Test.YtfecapegkdpbhaaGreatDsList
set_option linter.all false
namespace Ds
open Go Go.Dv
set_option maxRecDepth 100000
set_option linter.unusedVariables false

/-! ## made tables -/
theorem tkey_len {k : B} (hk : k ∈ tkeys) : 1 ≤ k.length ∧ k.length ≤ 12 := by
  have h : (tkeys.all fun k => Nat.ble 1 k.length && Nat.ble k.length 12) = true := by decide +kernel
  have := List.all_eq_true.1 h k hk
  simp only [Bool.and_eq_true] at this
  exact ⟨Nat.le_of_ble_eq_true this.1, Nat.le_of_ble_eq_true this.2⟩
theorem tval_len {k : B} (hk : k ∈ tvals) : k.length ≤ 3 := by
  have h : (tvals.all fun k => Nat.ble k.length 3) = true := by decide +kernel
  exact Nat.le_of_ble_eq_true (List.all_eq_true.1 h k hk)

theorem made_srt {xs : List V_ref04_Raw} (hx : okT (.list T_ref04_Raw) xs) : ∃ t, ref04_Made NN xs = some t ∧ Ok 40 12 t ∧ ∀ p ∈ t, PairOk p := by
  have hl : (xs.length : Int) ≤ 140737488351232 := by
    have : xs.length * 3 ≤ 0x7ffffffff000 := hx.1
    omega
  have hmem : ∀ i : Int, 0 ≤ i → i < (xs.length : Int) → okT T_ref04_Raw (rdL (α := V_ref04_Raw) xs i D_ref04_Raw) := by
    intro i h0 h1
    obtain ⟨h, e⟩ := rd_at xs i D_ref04_Raw h0 h1
    rw [e]
    exact hx.2 i.toNat _ (List.getElem?_eq_getElem h)
  have loop := iter_inv (A := (((List V_ref04_Raw) × (Unit × Int)) × ((List V_api_Pair) × Unit))) (R := ((Unit × ((List V_api_Pair) × Unit))))
    (f := fun rec v => ref04_Made_l0_step NN (fun b0 b1 b2 => rec ((b0, ((), b1)), (b2, ()))) v.1.1 v.1.2.2 v.2.1)
    (fun v => v.1.1 = xs ∧ 0 ≤ v.1.2.2 ∧ v.1.2.2 ≤ 40 ∧ (v.2.1.length : Int) ≤ v.1.2.2 ∧ Srt v.2.1 ∧ ∀ p ∈ v.2.1, PairOk p)
    (fun r => (r.2.1.length : Int) ≤ 40 ∧ Srt r.2.1 ∧ ∀ p ∈ r.2.1, PairOk p) (fun v => (40 - v.1.2.2).toNat)
    (by
      rintro rec ⟨⟨b0, u, i⟩, out, _⟩ ⟨rfl, h3, h4, h5, hs, h6⟩ ih
      simp only at h3 h4 h5 h6 hs hl hmem
      simp only [ref04_Made_l0_step]
      cases e1 : decide (i < (b0.length : Int))
      · exact ⟨_, rfl, by simp only; omega, hs, h6⟩
      cases e2 : decide (i < (40 : Int))
      · exact ⟨_, rfl, by simp only; omega, hs, h6⟩
      have e1 := of_decide_eq_true e1
      have e2 := of_decide_eq_true e2
      obtain ⟨p, hp, gp⟩ := pair_ok (hmem i h3 e1)
      simp only [cond_true]
      rw [gd_t (inB_t h3 e1), hp]
      simp only
      have hlen := insT_len p out
      rw [put_ok NN p out (by simp only [NN]; omega) (by omega), putGo_insT p hs]
      simp only
      rw [w64 (by omega) (by omega)]
      exact ih ((b0, (), i + 1), insT p out, ()) ⟨rfl, by simp only; omega, by simp only; omega, by simp only; omega, hs.insT p, fun x hx => by
        rcases insT_mem hx with rfl | h
        · exact gp
        · exact h6 _ h⟩ (by simp only; omega))
    NN ((xs, (), 0), [], ()) ⟨rfl, Int.le_refl _, (by simp only; omega), Int.le_refl _, List.Pairwise.nil, fun m h => by simp at h⟩ (by simp only [NN]; omega)
  obtain ⟨r, h1, h2, h3, h4⟩ := loop
  exact ⟨r.2.1, by simp only [ref04_Made, ref04_Made_l0, h1], ⟨h3, by omega, fun p hp => (tkey_len (h4 p hp).1).2⟩, h4⟩

/-! ## equal lists -/
theorem same_l0 (N : Nat) : ∀ (post pre : List Pr) (n : Nat), post.length < n → (pre ++ post).length < 1000000000 → ref04_Same_l0 N n (pre ++ post) (pre ++ post) (pre.length : Int) = some (.inr ((), ()))
  | _, _, 0, h, _ => absurd h (Nat.not_lt_zero _)
  | [], pre, n + 1, _, _ => by
    rw [ref04_Same_l0_succ]
    simp only [ref04_Same_l0_step, List.append_nil, Int.lt_irrefl, decide_false, cond_false]
  | q :: post, pre, n + 1, hn, hl => by
    simp only [List.length_cons] at hn
    have hl' : pre.length < 9223372036854775807 := by simp at hl; omega
    rw [ref04_Same_l0_succ]
    simp only [ref04_Same_l0_step, lt_mid, in_mid, cond_true, rd_mid, eqs_self, eqi_self, Bool.and_self, Bool.not_true, cond_false]
    rw [gd_t rfl, gd_t rfl, wr_mid (q := q) hl', app_mid (pre := pre) (q := q) (post := post)]
    exact same_l0 N post (pre ++ [q]) n (by omega) (by simpa using hl)

theorem same_ok {t : List Pr} (hN : t.length < NN) : ref04_Same NN t t = some true := by
  have h := same_l0 NN t [] NN hN (by simp only [NN, List.nil_append] at hN ⊢; omega)
  have hz : (([] : List Pr).length : Int) = 0 := rfl
  simp only [List.nil_append, hz] at h
  simp only [ref04_Same, eqi_self, Bool.not_true, cond_false, h]

/-! ## settled messages -/
def putM (e : B × B) (p : Pr) : Mg := putMsg (e.2 ++ List.drop e.1.length p.1) p.2.1 p.2.2
def settleL (k : Int) (e : B × B) (src : List Pr) : List Mg := dropMsg (preB e.2) :: (src.map (putM e) ++ bif eqi k 4 then [dropMsg (preB e.1)] else [])

/-- the pairs that a move moves -/
def Src (e : B × B) (src : List Pr) : Prop := src.length ≤ 33000 ∧ ∀ p ∈ src, p.1.length < 1000000 ∧ e.1.isPrefixOf p.1 = true
def srcOfT (e : B × B) (t : List Pr) : List Pr := t.filter fun p => e.1.isPrefixOf p.1

theorem Ok.src {n L : Nat} {t : List Pr} (h : Ok n L t) (hn : n ≤ 33000) (hL : L < 1000000) (e : B × B) : Src e (srcOfT e t) :=
  ⟨Nat.le_trans (List.length_filter_le _ _) (Nat.le_trans h.len hn), fun p hp => ⟨by have := h.key p (List.mem_filter.1 hp).1; omega, (List.mem_filter.1 hp).2⟩⟩

theorem source_ok {n L : Nat} {t : List Pr} (h : Ok n L t) (hn : n < 60000) {k : Int} (hk : k = 4 ∨ k = 5) {e : B × B} (he : e ∈ ends) : law09_source NN t (mv k e) = some (srcOfT e t) := by
  have hl := h.len
  have hp := (pre_ok (ends_path he).1).2
  have hr := range_ok NN (preB e.1) t (by simp only [NN]; omega) (by omega)
  have ef : t.filter (fun p => hasB (preB e.1) p.1) = srcOfT e t := List.filter_congr fun x _ => hasB_pre (ends_path he).1 x.1
  rw [ef] at hr
  rcases hk with rfl | rfl
  · simp only [law09_source, eqi_self, Bool.not_true, cond_false, hp, hr]
  · have : eqi (5 : Int) 4 = false := by decide
    simp only [law09_source, eqi_self, Bool.not_true, cond_false, this, Bool.not_false, cond_true, hp, hr]

theorem source_no {t : List Pr} {m : Mg} (h4 : eqi m.1 4 = false) (h5 : eqi m.1 5 = false) : law09_source NN t m = some [] := by
  simp only [law09_source, h4, h5, Bool.not_false, cond_true]

theorem settled_l0 (k : Int) (e : B × B) (he : e ∈ ends) : ∀ (post pre : List Pr) (n : Nat) (out : List Mg), post.length < n → (pre ++ post).length < 1000000 → out.length + post.length < 1000000 → (∀ p ∈ post, p.1.length < 1000000 ∧ e.1.isPrefixOf p.1 = true) →
    settle_settled_c1_m_l0 NN n k [] [] [] [] e.1 e.2 0 (pre ++ post) ((pre ++ post).length : Int) (pre.length : Int) out =
      some (((), (k, ([], ([], ([], ([], (e.1, (e.2, 0)))))))), ((), ((), (out ++ post.map (putM e), ()))))
  | _, _, 0, _, h, _, _, _ => absurd h (Nat.not_lt_zero _)
  | [], pre, n + 1, out, _, _, _, _ => by
    rw [settle_settled_c1_m_l0_succ]
    simp only [settle_settled_c1_m_l0_step, List.append_nil, Int.lt_irrefl, decide_false, cond_false, List.map_nil]
  | q :: post, pre, n + 1, out, hn, hl, ho, hq => by
    have ih := fun out => settled_l0 k e he post (pre ++ [q]) n out (by simp at hn; omega) (by simpa using hl)
    have hl' : pre.length < 9223372036854775807 := by simp at hl; omega
    simp only [List.length_cons] at ho
    obtain ⟨h1, h2⟩ := hq q (by simp)
    have he2 := (path_end (ends_path he).2).2
    have hm := Moved_ok NN q.1 e.1 e.2 (by omega) (by omega)
    rw [h2, cond_true] at hm
    have hr : settle_List_round0 NN (1 : Int) (e.2 ++ List.drop e.1.length q.1) q.2.1 ([] : List UInt8) ([] : List UInt8) ([] : List UInt8) ([] : List UInt8) q.2.2 out = some ((), ((), (out ++ [putM e q], ()))) := by
      simp only [settle_List_round0]
      rw [gd_t (fits_p (by first | omega | (simp; omega)) (by omega))]
      try rfl
    rw [settle_settled_c1_m_l0_succ]
    simp only [settle_settled_c1_m_l0_step, lt_mid, in_mid, cond_true, rd_mid, hm, hr]
    rw [gd_t rfl, wr_mid (q := q) hl', app_mid (pre := pre) (q := q) (post := post)]
    refine (ih (out ++ [putM e q]) (by simp; omega) (fun p hp => hq p (by simp [hp]))).trans ?_
    simp [List.append_assoc]

theorem settle_ok {k : Int} (hk : k = 4 ∨ k = 5) {e : B × B} (he : e ∈ ends) {src : List Pr} (hs : Src e src) : settle_List NN (mv k e) src = some (settleL k e src) := by
  have hm : settle_moves NN (mv k e) = some true := by
    rcases hk with rfl | rfl <;> rfl
  have h1 := (pre_ok (ends_path he).1).1
  have h2 := (pre_ok (ends_path he).2).1
  have hs1 := hs.1
  have hl := settled_l0 k e he src [] NN [dropMsg (preB e.2)] (by simp only [NN]; omega) (by simp; omega) (by simp; omega) hs.2
  have hz : (([] : List Pr).length : Int) = 0 := rfl
  simp only [List.nil_append, hz] at hl
  have g1 : settle_List_round0 NN (3 : Int) ([] : List UInt8) ([] : List UInt8) (preB e.2).1 (preB e.2).2 ([] : List UInt8) ([] : List UInt8) (0 : Int) [] = some ((), ((), ([dropMsg (preB e.2)], ()))) := by
    simp only [settle_List_round0]
    rw [gd_t (fits_p (by show 0 + 1 < 4294967296; omega) (by omega))]
    try rfl
  have g2 : settle_List_round0 NN (3 : Int) ([] : List UInt8) ([] : List UInt8) (preB e.1).1 (preB e.1).2 ([] : List UInt8) ([] : List UInt8) (0 : Int) ([dropMsg (preB e.2)] ++ src.map (putM e)) = some ((), ((), ([dropMsg (preB e.2)] ++ src.map (putM e) ++ [dropMsg (preB e.1)], ()))) := by
    simp only [settle_List_round0]
    rw [gd_t (fits_p (by simp; omega) (by omega))]
    try rfl
  have c1 : settle_settled_c1_m NN k [] [] [] [] e.1 e.2 0 src [] = some ((), ((), ((), (settleL k e src, ())))) := by
    simp only [settle_settled_c1_m, h2, g1, hl]
    cases e4 : eqi k 4
    · simp only [cond_false, settleL, e4]; simp
    · simp only [cond_true, h1, g2, settleL, e4]; simp
  simp only [settle_List, hm, Bool.not_true, cond_false, settle_settled, settle_List_g0]
  simp only [mv, c1]

theorem settle_no {m : Mg} (h4 : eqi m.1 4 = false) (h5 : eqi m.1 5 = false) (src : List Pr) : settle_List NN m src = some [m] := by
  simp only [settle_List, settle_moves, h4, h5, cond_false, Bool.not_false, cond_true]

theorem good_kind {m : Mg} (hm : Good m) : (∃ k e, m = mv k e ∧ (k = 4 ∨ k = 5) ∧ e ∈ ends) ∨ (eqi m.1 4 = false ∧ eqi m.1 5 = false) := by
  cases hm with
  | put k v n => exact .inr ⟨rfl, rfl⟩
  | del k => exact .inr ⟨rfl, rfl⟩
  | drop s => exact .inr ⟨rfl, rfl⟩
  | move e he => exact .inl ⟨4, e, rfl, .inl rfl, he⟩
  | clone e he => exact .inl ⟨5, e, rfl, .inr rfl, he⟩
  | stamp s n => exact .inr ⟨rfl, rfl⟩

/-- what settled messages do -/
theorem settled_fit {n L : Nat} {t : List Pr} (h : Ok n L t) (hn : 2 * n + 6 < NN) (hL : L + 16 < 1000000) {k : Int} (hk : k = 4 ∨ k = 5) {e : B × B} (he : e ∈ ends) :
    Fit (settleL k e (srcOfT e t)) t ∧ apps (settleL k e (srcOfT e t)) t = app (mv k e) t := by
  have e2 := (path_end (ends_path he).2).2
  have hd := drop_ap h (by omega) (preB e.2)
  have a1 := h.filter fun p => !(hasB (preB e.2) p.1)
  have puts : ∀ (l : List Pr) {n' : Nat} {t' : List Pr}, Ok n' (L + 16) t' → n' + l.length + 4 < NN → (∀ p ∈ l, p.1.length ≤ L) → Fit (l.map (putM e)) t' ∧ apps (l.map (putM e)) t' = uniT t' (l.map fun x => (e.2 ++ x.1.drop e.1.length, x.2)) ∧ Ok (n' + l.length) (L + 16) (apps (l.map (putM e)) t') := by
    intro l
    induction l with
    | nil => exact fun ho _ _ => ⟨trivial, rfl, ho⟩
    | cons p l ih =>
      intro n' t' ho hn' hk'
      simp only [List.length_cons] at hn'
      have hp := put_ap ho (by omega) (e.2 ++ p.1.drop e.1.length) p.2.1 p.2.2
      have hkp := hk' p (by simp)
      obtain ⟨b1, b2, b3⟩ := ih (ho.insT (p := (e.2 ++ p.1.drop e.1.length, p.2.1, p.2.2)) (by simp only [List.length_append, List.length_drop]; omega)) (by omega) (fun q hq => hk' q (by simp [hq]))
      exact ⟨⟨hp, b1⟩, b2, b3.mono (by simp only [List.length_cons]; omega) (Nat.le_refl _)⟩
  have hsl : (srcOfT e t).length ≤ n := Nat.le_trans (List.length_filter_le _ _) h.len
  obtain ⟨b1, b2, b3⟩ := puts (srcOfT e t) (a1.mono (Nat.le_refl _) (show L ≤ L + 16 by omega)) (by omega) (fun p hp => h.key p (List.mem_filter.1 hp).1)
  rcases hk with rfl | rfl
  · have hd2 := drop_ap b3 (by omega) (preB e.1)
    refine ⟨⟨hd, Fit.append b1 ⟨hd2, trivial⟩⟩, ?_⟩
    show apps ((srcOfT e t).map (putM e) ++ [dropMsg (preB e.1)]) _ = _
    rw [apps_append]
    show List.filter _ (apps ((srcOfT e t).map (putM e)) (t.filter fun p => !(hasB (preB e.2) p.1))) = _
    rw [b2]; rfl
  · refine ⟨⟨hd, ?_⟩, ?_⟩
    · have := Fit.append (b := []) b1 trivial
      exact this
    · show apps ((srcOfT e t).map (putM e) ++ []) _ = _
      rw [List.append_nil]
      exact b2

/-! ## valid messages -/
theorem valid_put {k v : B} {n : Int} (h1 : 1 ≤ k.length) (h2 : k.length ≤ 65535) (h3 : v.length ≤ 64) (h4 : 0 ≤ n) (h5 : n ≤ 1000000000) : ref05_Valid NN (putMsg k v n) = some true := by
  have i1 : ref05_in NN (k.length : Int) (1 : Int) (65535 : Int) = some true := by
    simp only [ref05_in]; rw [bif_t (by simp; omega)]; simp; omega
  have i2 : ref05_in NN n (0 : Int) (1000000000 : Int) = some true := by
    simp only [ref05_in]; rw [bif_t (by simp; omega)]; simp; omega
  have i3 : decide ((v.length : Int) ≤ (64 : Int)) = true := by simp; omega
  simp only [ref05_Valid, i1, i2, eqi_self, cond_true, i3, eqs_self, Bool.and_self]

theorem valid_drop {s : B × B} (h : spanOk s = true) : ref05_Valid NN (dropMsg s) = some true := by
  simp only [spanOk, Bool.and_eq_true, Bool.or_eq_true, decide_eq_true_eq] at h
  have i1 : ref05_in NN ((([] : B).length : Nat) : Int) (1 : Int) (65535 : Int) = some false := rfl
  have i2 : ref05_in NN (0 : Int) (0 : Int) (1000000000 : Int) = some true := rfl
  have i3 : decide ((s.1.length : Int) ≤ (65535 : Int)) = true := by simp; omega
  have i4 : decide ((s.2.length : Int) ≤ (65535 : Int)) = true := by simp; omega
  have i5 : emptyB s = false := by
    simp only [emptyB]
    rcases h.1.1 with h | h
    · rw [h]; rfl
    · rw [lts_asymm h, eqs_ne (lts_ne h).symm]; simp
  have i6 : ref05_span NN s = some true := by
    simp only [ref05_span, refEmpty_eq, i5, Bool.not_false, cond_true, i3, i4]
  have j1 : eqi (3 : Int) 1 = false := by decide
  have j2 : eqi (3 : Int) 2 = false := by decide
  simp only [ref05_Valid, i1, i2, j1, j2, eqi_self, cond_true, cond_false, i6, eqs_self, Bool.and_self]

theorem spanOk_pre {p : B} (hp : p ∈ paths) : spanOk (preB p) = true := by
  have h : (paths.all fun p => spanOk (preB p)) = true := by decide +kernel
  exact List.all_eq_true.1 h p hp

theorem valid_in {k lo hi : Int} (h1 : lo ≤ k) (h2 : k ≤ hi) : ref05_in NN k lo hi = some true := by
  simp only [ref05_in]; rw [bif_t (by simpa using h1)]; simpa using h2

theorem good_valid {m : Mg} (hm : Good m) : ref05_Valid NN m = some true := by
  cases hm with
  | put k v n hk hv h0 h1 =>
    have hv' : v.length ≤ 10 := by
      have h : (values.all fun k => Nat.ble k.length 10) = true := by decide +kernel
      exact Nat.le_of_ble_eq_true (List.all_eq_true.1 h v hv)
    have hk1 : 1 ≤ k.length := by
      have h : (keys.all fun k => Nat.ble 1 k.length) = true := by decide +kernel
      exact Nat.le_of_ble_eq_true (List.all_eq_true.1 h k hk)
    exact valid_put hk1 (by have := good_key hk; omega) (by omega) h0 (by omega)
  | del k hk =>
    have h : (keys.all fun k => okO (ref05_Valid NN (delMsg k)) fun b => b) = true := by decide +kernel
    obtain ⟨x, h1, h2⟩ := okO_some (List.all_eq_true.1 h k hk)
    rw [h1, h2]
  | drop s hs => exact valid_drop hs
  | move e he =>
    have h : (ends.all fun e => okO (ref05_Valid NN (mv 4 e)) fun b => b) = true := by decide +kernel
    obtain ⟨x, h1, h2⟩ := okO_some (List.all_eq_true.1 h e he)
    rw [h1, h2]
  | clone e he =>
    have h : (ends.all fun e => okO (ref05_Valid NN (mv 5 e)) fun b => b) = true := by decide +kernel
    obtain ⟨x, h1, h2⟩ := okO_some (List.all_eq_true.1 h e he)
    rw [h1, h2]
  | stamp s n hs h0 h1 =>
    have hd := hs
    simp only [spanOk, Bool.and_eq_true, Bool.or_eq_true, decide_eq_true_eq] at hd
    have i1 : ref05_in NN ((([] : B).length : Nat) : Int) (1 : Int) (65535 : Int) = some false := rfl
    have i2 : ref05_in NN n (0 : Int) (1000000000 : Int) = some true := valid_in h0 (by omega)
    have i3 : decide ((s.1.length : Int) ≤ (65535 : Int)) = true := by simp; omega
    have i4 : decide ((s.2.length : Int) ≤ (65535 : Int)) = true := by simp; omega
    have i5 : emptyB s = false := by
      simp only [emptyB]
      rcases hd.1.1 with h | h
      · rw [h]; rfl
      · rw [lts_asymm h, eqs_ne (lts_ne h).symm]; simp
    have i6 : ref05_span NN s = some true := by
      simp only [ref05_span, refEmpty_eq, i5, Bool.not_false, cond_true, i3, i4]
    have i6' : ref05_span NN (s.1, s.2) = some true := i6
    have j1 : eqi (6 : Int) 1 = false := by decide
    have j2 : eqi (6 : Int) 2 = false := by decide
    have j3 : eqi (6 : Int) 3 = false := by decide
    have j4 : eqi (6 : Int) 4 = false := by decide
    have j5 : eqi (6 : Int) 5 = false := by decide
    simp only [ref05_Valid, ref05_Valid_p0, i1, i2, j1, j2, j3, j4, j5, eqi_self, cond_true, cond_false, i6', eqs_self, Bool.and_self]

/-! ## SettleKeeps -/
theorem sanity_ok : law09_sanity NN = some true := by decide +kernel

theorem keeps_l1 (up : Bool) (t : List Pr) (a0 : Int) (a1 a2 a3 a4 a5 a6 : B) (a7 : Int) : ∀ (post pre : List Mg) (n : Nat), post.length < n → (pre ++ post).length < 1000000000 → (∀ m ∈ post, ref05_Valid NN m = some true) →
    law09_SettleKeeps_l1 NN n up t (pre.length : Int) a0 a1 a2 a3 a4 a5 a6 a7 (pre ++ post) = some (.inr ((up, (t, ((), ()))), ((a0, (a1, (a2, (a3, (a4, (a5, (a6, a7))))))), (pre ++ post, ()))))
  | _, _, 0, h, _, _ => absurd h (Nat.not_lt_zero _)
  | [], pre, n + 1, _, _, _ => by
    rw [law09_SettleKeeps_l1_succ]
    simp only [law09_SettleKeeps_l1_step, List.append_nil, Int.lt_irrefl, decide_false, cond_false]
  | q :: post, pre, n + 1, hn, hl, hv => by
    simp only [List.length_cons] at hn
    have hl' : pre.length < 9223372036854775807 := by simp at hl; omega
    rw [law09_SettleKeeps_l1_succ]
    simp only [law09_SettleKeeps_l1_step, lt_mid, in_mid, cond_true, rd_mid, hv q (by simp), Bool.not_true, cond_false]
    rw [gd_t rfl, wr_mid (q := q) hl', app_mid (pre := pre) (q := q) (post := post)]
    exact keeps_l1 up t a0 a1 a2 a3 a4 a5 a6 a7 post (pre ++ [q]) n (by omega) (by simpa using hl) (fun m hm => hv m (by simp [hm]))

theorem keeps_p0 {t src : List Pr} {m : Mg} {l : List Mg} (h1 : settle_List NN m src = some l) (hl : l.length < 1000) (hv : ∀ x ∈ l, ref05_Valid NN x = some true) (hf : Fit l t) (ha : msg_Apply NN t m = some (apps l t)) (hn : (apps l t).length < NN) :
    law09_SettleKeeps_p0 NN true t src m.1 m.2.1 m.2.2.1 m.2.2.2.1.1 m.2.2.2.1.2 m.2.2.2.2.1 m.2.2.2.2.2.1 m.2.2.2.2.2.2 = some (true, ()) := by
  have hk := keeps_l1 true t m.1 m.2.1 m.2.2.1 m.2.2.2.1.1 m.2.2.2.1.2 m.2.2.2.2.1 m.2.2.2.2.2.1 m.2.2.2.2.2.2 l [] NN (by simp only [NN]; omega) (by simp; omega) hv
  have hz : (([] : List Mg).length : Int) = 0 := rfl
  simp only [List.nil_append, hz] at hk
  have hall := All_ok (by simp only [NN]; omega) hf
  simp only [law09_SettleKeeps_p0, h1, hk, cond_true, hall, ha, same_ok hn]

theorem plainKeeps (xs : List V_ref04_Raw) (x : V_ref05_Raw) (hx : okT (.list T_ref04_Raw) xs) (hy : okT T_ref05_Raw x) : law09_SettleKeeps NN xs x = some true := by
  obtain ⟨t, h1, h2, h3⟩ := made_srt hx
  obtain ⟨m, g1, g2⟩ := made_ok hy
  obtain ⟨ap, aok⟩ := good_ap (h2.mono (Nat.le_refl _) (show 12 ≤ 12 by omega)) (by simp only [NN]; omega) (by omega) (by omega) g2
  have hlen : (app m t).length < NN := by have := aok.len; simp only [NN]; omega
  simp only [law09_SettleKeeps, sanity_ok, h1, g1]
  rcases good_kind g2 with ⟨k, e, rfl, hk, he⟩ | ⟨n4, n5⟩
  · have hp := (pre_ok (ends_path he).1).2
    have hl2 := h2.len
    have hr := Range_ok NN (preB e.1) h2.srt (by simp only [NN]; omega) (by omega)
    have ef : t.filter (fun p => hasB (preB e.1) p.1) = srcOfT e t := List.filter_congr fun x _ => hasB_pre (ends_path he).1 x.1
    rw [ef] at hr
    have hs := settle_ok hk he (h2.src (by omega) (by omega) e)
    obtain ⟨f1, f2⟩ := settled_fit h2 (by simp only [NN]; omega) (by omega) hk he
    have hsl : (srcOfT e t).length ≤ 40 := Nat.le_trans (List.length_filter_le _ _) h2.len
    have hv : ∀ y ∈ settleL k e (srcOfT e t), ref05_Valid NN y = some true := by
      intro y hy
      have d1 := valid_drop (spanOk_pre (ends_path he).1)
      have d2 := valid_drop (spanOk_pre (ends_path he).2)
      rcases List.mem_cons.1 hy with rfl | hy
      · exact d2
      · rcases List.mem_append.1 hy with hy | hy
        · obtain ⟨p, hp, rfl⟩ := List.mem_map.1 hy
          obtain ⟨q1, q2, q3, q4⟩ := h3 p (List.mem_filter.1 hp).1
          have e2 := (path_end (ends_path he).2)
          have l2 : 1 ≤ e.2.length := by rw [e2.1]; simp
          have tl := tkey_len q1
          exact valid_put (by simp only [List.length_append]; omega) (by simp only [List.length_append, List.length_drop]; omega) (by have := tval_len q2; omega) q3 (by have : (p.2.2 : Int) < 4 := q4; omega)
        · cases e4 : eqi k 4
          · rw [e4] at hy; simp at hy
          · rw [e4] at hy
            simp only [cond_true, List.mem_singleton] at hy
            rw [hy]; exact d1
    have hll : (settleL k e (srcOfT e t)).length < 1000 := by
      simp only [settleL, List.length_cons, List.length_append, List.length_map]
      cases eqi k 4 <;> simp <;> omega
    have main := keeps_p0 hs hll hv f1 (by rw [f2]; exact ap) (by rw [f2]; exact hlen)
    rcases hk with rfl | rfl
    · simp only [eqi_self, cond_true, hp, hr]
      simp only [mv] at main
      simp only [main]
    · have : eqi (5 : Int) 4 = false := by decide
      simp only [this, eqi_self, cond_true, cond_false, hp, hr]
      simp only [mv] at main
      simp only [main]
  · have hs := settle_no n4 n5 []
    have main := keeps_p0 (t := t) hs (by simp) (fun y hy => by
      have := List.mem_singleton.1 hy
      subst this
      exact good_valid g2) ⟨ap, trivial⟩ ap hlen
    simp only [n4, n5, cond_false, main]

/-! ## SettleTurns -/
theorem concatM2 (a b : List Mg) (ha : a.length < 1000000000) (hb : b.length < 1000000000) : slices_Concat_s_api_Msg_api_Msg NN [a, b] = some (a ++ b) := by
  have h0 : slices_Concat_s_api_Msg_api_Msg_l0 NN NN [a, b] (0 : Int) [a, b] (([a, b] : List (List Mg)).length : Int) (0 : Int) = some (([a, b], ((a.length + b.length : Nat) : Int)), ()) := by
    have e1 : IntKind.wrap .i64 ((0 : Int) + (a.length : Int)) = (a.length : Int) := by rw [w64 (by omega) (by omega)]; omega
    have e2 : IntKind.wrap .i64 ((a.length : Int) + (b.length : Int)) = ((a.length + b.length : Nat) : Int) := by rw [w64 (by omega) (by omega)]; omega
    have e3 : IntKind.wrap .i64 ((0 : Int) + (1 : Int)) = 1 := by decide
    have e4 : IntKind.wrap .i64 ((1 : Int) + (1 : Int)) = 2 := by decide
    have r0 : rdL [a, b] (0 : Int) ([] : List Mg) = a := rfl
    have r1 : rdL [a, b] (1 : Int) ([] : List Mg) = b := rfl
    have l2 : (([a, b] : List (List Mg)).length : Int) = 2 := rfl
    rw [show NN = 999997 + 3 from rfl, slices_Concat_s_api_Msg_api_Msg_l0_succ]
    simp only [slices_Concat_s_api_Msg_api_Msg_l0_step, l2, r0, e1, e3]
    rw [bif_t (by decide), gd_t (by rfl), bif_f (by simp), slices_Concat_s_api_Msg_api_Msg_l0_succ]
    simp only [slices_Concat_s_api_Msg_api_Msg_l0_step, r1, e2, e4]
    rw [bif_t (by decide), gd_t (by rfl), bif_f (by simp; omega), slices_Concat_s_api_Msg_api_Msg_l0_succ]
    simp only [slices_Concat_s_api_Msg_api_Msg_l0_step]
    rw [bif_f (by decide)]
  have h1 : slices_Concat_s_api_Msg_api_Msg_l1 NN NN [a, b] (([a, b] : List (List Mg)).length : Int) (0 : Int) [] = some ((), (a ++ b, ())) := by
    have e3 : IntKind.wrap .i64 ((0 : Int) + (1 : Int)) = 1 := by decide
    have e4 : IntKind.wrap .i64 ((1 : Int) + (1 : Int)) = 2 := by decide
    have r0 : rdL [a, b] (0 : Int) ([] : List Mg) = a := rfl
    have r1 : rdL [a, b] (1 : Int) ([] : List Mg) = b := rfl
    have l2 : (([a, b] : List (List Mg)).length : Int) = 2 := rfl
    rw [show NN = 999997 + 3 from rfl, slices_Concat_s_api_Msg_api_Msg_l1_succ]
    simp only [slices_Concat_s_api_Msg_api_Msg_l1_step, l2, r0, e3]
    rw [bif_t (by decide), gd_t (by rfl), gd_t (fits_p (by simp; omega) (by omega)), slices_Concat_s_api_Msg_api_Msg_l1_succ]
    simp only [slices_Concat_s_api_Msg_api_Msg_l1_step, r1, e4]
    rw [bif_t (by decide), gd_t (by rfl), gd_t (fits_p (by simp; omega) (by omega)), slices_Concat_s_api_Msg_api_Msg_l1_succ]
    simp only [slices_Concat_s_api_Msg_api_Msg_l1_step]
    rw [bif_f (by decide)]
    simp
  simp only [slices_Concat_s_api_Msg_api_Msg, h0, slices_Grow_s_api_Msg_api_Msg_nil]
  rw [gd_t (by simp only [Int.toNat_natCast, Bool.and_eq_true, decide_eq_true_eq]; exact ⟨by omega, fits_p (by omega) (by omega)⟩)]
  simp only [h1]

theorem plainTurns (xs : List V_ref04_Raw) (ys : List V_ref05_Raw) (hx : okT (.list T_ref04_Raw) xs) (hy : okT (.list T_ref05_Raw) ys) : law09_SettleTurns NN xs ys = some true := by
  obtain ⟨t, h1, h2, h3⟩ := made_srt hx
  obtain ⟨buf, g1, g2, g3⟩ := list_ok hy (k := 10) (by omega)
  simp only [law09_SettleTurns, sanity_ok, h1, g1]
  cases buf with
  | nil => rfl
  | cons m rest =>
    have gm := g3 m (by simp)
    have gr : ∀ x ∈ rest, Good x := fun x hx => g3 x (by simp [hx])
    simp only [List.length_cons] at g2
    have z : eqi ((m :: rest).length : Int) 0 = false := eqi_ne (by simp only [List.length_cons]; omega)
    have z0 : inB (0 : Int) (m :: rest).length = true := inB_t (by omega) (by simp only [List.length_cons]; omega)
    have z1 : (decide (0 ≤ (1 : Int)) && (decide ((1 : Int) ≤ ((m :: rest).length : Int)) && decide (((m :: rest).length : Int) ≤ ((m :: rest).length : Int)))) = true := by
      simp only [List.length_cons, Bool.and_eq_true, decide_eq_true_eq]; omega
    have zc : cut2 (m :: rest) (1 : Int) ((m :: rest).length : Int) = rest := cut_tail m rest
    have hf := good_fit (ms := m :: rest) (n := 40) (L := 12) (t := t) g3 h2 (by
      have h : (2 : Nat) ^ (rest.length + 1) ≤ 2 ^ 10 := Nat.pow_le_pow_right (by omega) (by omega)
      have h' : (40 + 1) * 2 ^ (rest.length + 1) ≤ 41 * 2 ^ 10 := Nat.mul_le_mul_left _ h
      simp only [List.length_cons]; omega) (by omega) (by simp only [List.length_cons]; omega)
    have hlen : (apps (m :: rest) t).length < NN := by
      have h : (2 : Nat) ^ (rest.length + 1) ≤ 2 ^ 10 := Nat.pow_le_pow_right (by omega) (by omega)
      have h' : (40 + 1) * 2 ^ (rest.length + 1) ≤ 41 * 2 ^ 10 := Nat.mul_le_mul_left _ h
      have := hf.2.len
      simp only [List.length_cons] at this
      simp only [NN]; omega
    have ha := All_ok (ms := m :: rest) (by simp only [List.length_cons, NN]; omega) hf.1
    simp only [z, cond_false, rd_zero]
    rw [gd_t z0]
    rcases good_kind gm with ⟨k, e, rfl, hk, he⟩ | ⟨n4, n5⟩
    · have hsrc := source_ok h2 (by omega) hk he
      have hs := settle_ok hk he (h2.src (by omega) (by omega) e)
      have hmv : settle_moves NN (mv k e) = some true := by rcases hk with rfl | rfl <;> rfl
      obtain ⟨f1, f2⟩ := settled_fit h2 (by simp only [NN]; omega) (by omega) hk he
      have hsl : (srcOfT e t).length ≤ 40 := Nat.le_trans (List.length_filter_le _ _) h2.len
      have hll : (settleL k e (srcOfT e t)).length ≤ 42 := by
        simp only [settleL, List.length_cons, List.length_append, List.length_map]
        cases eqi k 4 <;> simp <;> omega
      have hc := concatM2 (settleL k e (srcOfT e t)) rest (by omega) (by omega)
      have hturn : settle_Turn NN (mv k e :: rest) (srcOfT e t) = some (settleL k e (srcOfT e t) ++ rest, 0) := by
        simp only [settle_Turn, z, cond_false, rd_zero, hmv, Bool.not_true, hs]
        rw [gd_t z0, gd_t z0, gd_t z1, zc, hc]
      have hall := All_ok (ms := settleL k e (srcOfT e t) ++ rest) (t := t) (by simp only [List.length_append, NN]; omega) (Fit.append f1 (by rw [f2]; exact hf.1.2))
      have heq : apps (settleL k e (srcOfT e t) ++ rest) t = apps (mv k e :: rest) t := by
        rw [apps_append, f2]; rfl
      rw [heq] at hall
      simp only [hsrc, hturn, eqi_self, cond_true, hall, ha, same_ok hlen]
      rw [gd_t z0, gd_t z0]
      rcases hk with rfl | rfl <;> rfl
    · have hsrc := source_no (t := t) n4 n5
      have hmv : settle_moves NN m = some false := by simp only [settle_moves, n4, n5, cond_false]
      have hturn : settle_Turn NN (m :: rest) [] = some ([], 50) := by
        simp only [settle_Turn, z, cond_false, rd_zero, hmv, Bool.not_false, cond_true]
        rw [gd_t z0]
      simp only [hsrc, hturn, n4, n5, Bool.not_false, cond_true, eqi_self]
      rw [gd_t z0, gd_t z0]
      rfl

/-! ## SettleRepeats -/
def settleOf (m : Mg) (t : List Pr) : List Mg := bif eqi m.1 4 || eqi m.1 5 then settleL m.1 (m.2.2.2.2.1, m.2.2.2.2.2.1) (srcOfT (m.2.2.2.2.1, m.2.2.2.2.2.1) t) else [m]
def settleAll : List Mg → List Pr → List Mg
  | [], _ => []
  | m :: ms, t => settleOf m t ++ settleAll ms (app m t)

theorem settleL_kinds (k : Int) (e : B × B) (src : List Pr) : ∀ m ∈ settleL k e src, eqi m.1 4 = false ∧ eqi m.1 5 = false := by
  intro m hm
  rcases List.mem_cons.1 hm with rfl | hm
  · exact ⟨rfl, rfl⟩
  · rcases List.mem_append.1 hm with hm | hm
    · obtain ⟨p, _, rfl⟩ := List.mem_map.1 hm
      exact ⟨rfl, rfl⟩
    · cases e4 : eqi k 4
      · rw [e4] at hm; simp at hm
      · rw [e4] at hm
        simp only [cond_true, List.mem_singleton] at hm
        rw [hm]; exact ⟨rfl, rfl⟩

theorem settleOf_ok {n L : Nat} {t : List Pr} (h : Ok n L t) (hn : 2 * n + 6 < 60000) (h7 : 7 ≤ L) (hL : L + 16 < 1000000) {m : Mg} (hm : Good m) :
    (∃ src, law09_source NN t m = some src ∧ settle_List NN m src = some (settleOf m t)) ∧ Fit (settleOf m t) t ∧ apps (settleOf m t) t = app m t ∧ (settleOf m t).length ≤ n + 2 ∧ ∀ x ∈ settleOf m t, eqi x.1 4 = false ∧ eqi x.1 5 = false := by
  rcases good_kind hm with ⟨k, e, rfl, hk, he⟩ | ⟨n4, n5⟩
  · have e1 : settleOf (mv k e) t = settleL k e (srcOfT e t) := by
      rcases hk with rfl | rfl <;> rfl
    obtain ⟨f1, f2⟩ := settled_fit h (by simp only [NN]; omega) hL hk he
    have hsl : (srcOfT e t).length ≤ n := Nat.le_trans (List.length_filter_le _ _) h.len
    rw [e1]
    refine ⟨⟨_, source_ok h (by omega) hk he, settle_ok hk he (h.src (by omega) (by omega) e)⟩, f1, f2, ?_, settleL_kinds k e _⟩
    simp only [settleL, List.length_cons, List.length_append, List.length_map]
    cases eqi k 4 <;> simp <;> omega
  · have e1 : settleOf m t = [m] := by simp only [settleOf, n4, n5, Bool.or_self, cond_false]
    rw [e1]
    obtain ⟨a1, a2⟩ := good_ap h (by simp only [NN]; omega) h7 (by omega) hm
    refine ⟨⟨[], source_no n4 n5, settle_no n4 n5 []⟩, ⟨a1, trivial⟩, rfl, by simp, fun x hx => ?_⟩
    have := List.mem_singleton.1 hx
    subst this
    exact ⟨n4, n5⟩

theorem repeats_l0 (up : Bool) (t0 : List Pr) : ∀ (post pre : List Mg) (n : Nat) (t : List Pr) (k L : Nat) (out : List Mg), post.length < n → (pre ++ post).length < 1000000000 → (∀ m ∈ post, Good m) → Ok k L t → (k + 1) * 2 ^ post.length ≤ 20000 → 7 ≤ L → L + 16 * post.length + 16 < 1000000 → out.length + 20002 * post.length < 1000000 →
    law09_SettleRepeats_l0 NN n up t0 t (pre.length : Int) (pre ++ post) out = some ((up, (t0, (apps post t, ()))), (out ++ settleAll post t, ())) ∧ Fit (settleAll post t) t ∧ apps (settleAll post t) t = apps post t ∧ (settleAll post t).length ≤ 20002 * post.length ∧ (∀ x ∈ settleAll post t, eqi x.1 4 = false ∧ eqi x.1 5 = false) ∧ (apps post t).length ≤ 20000
  | _, _, 0, _, _, _, _, h, _, _, _, _, _, _, _ => absurd h (Nat.not_lt_zero _)
  | [], pre, n + 1, t, k, L, out, _, _, _, ho, hk, _, _, _ => by
    refine ⟨?_, trivial, rfl, Nat.zero_le _, (fun x (hx : x ∈ ([] : List Mg)) => by cases hx), ?_⟩
    · rw [law09_SettleRepeats_l0_succ]
      simp only [law09_SettleRepeats_l0_step, List.append_nil, Int.lt_irrefl, decide_false, cond_false, settleAll]
      try rfl
    · have := ho.len; simp at hk; show t.length ≤ _; omega
  | q :: post, pre, n + 1, t, k, L, out, hn, hl, hg, ho, hk, h7, hL, hout => by
    simp only [List.length_cons] at hn hk hL hout
    have e : (2 : Nat) ^ (post.length + 1) = 2 * 2 ^ post.length := by rw [Nat.pow_succ]; omega
    have hp : 0 < (2 : Nat) ^ post.length := Nat.pow_pos (by omega)
    have h1n : (k + 1) * 2 ≤ (k + 1) * 2 ^ (post.length + 1) := Nat.mul_le_mul_left _ (by rw [e]; omega)
    have e2 : (2 * k + 1 + 1) * 2 ^ post.length = (k + 1) * 2 ^ (post.length + 1) := by
      rw [e, show 2 * k + 1 + 1 = (k + 1) * 2 by omega, Nat.mul_assoc]
    have hl' : pre.length < 9223372036854775807 := by simp at hl; omega
    obtain ⟨⟨src, s1, s2⟩, s3, s4, s5, s6⟩ := settleOf_ok ho (by omega) h7 (by omega) (hg q (by simp))
    obtain ⟨a1, a2⟩ := good_ap ho (by simp only [NN]; omega) h7 (by omega) (hg q (by simp))
    obtain ⟨i1, i2, i3, i4, i5, i6⟩ := repeats_l0 up t0 post (pre ++ [q]) n (app q t) (2 * k + 1) (L + 16) (out ++ settleOf q t) (by omega) (by simpa using hl) (fun m hm => hg m (by simp [hm])) a2 (by rw [e2]; exact hk) (by omega) (by omega) (by simp only [List.length_append]; omega)
    refine ⟨?_, Fit.append s3 (by rw [s4]; exact i2), ?_, ?_, fun x hx => ?_, i6⟩
    · rw [law09_SettleRepeats_l0_succ]
      simp only [law09_SettleRepeats_l0_step, lt_mid, in_mid, cond_true, rd_mid, s1, s2, a1]
      rw [gd_t rfl, gd_t rfl, gd_t (fits_p (by omega) (by omega)), gd_t rfl, wr_mid (q := q) hl', app_mid (pre := pre) (q := q) (post := post), i1]
      simp only [settleAll, List.append_assoc]
      rfl
    · show apps (settleOf q t ++ settleAll post (app q t)) t = _
      rw [apps_append, s4, i3]; rfl
    · show (settleOf q t ++ settleAll post (app q t)).length ≤ _
      simp only [List.length_append, List.length_cons]; omega
    · rcases List.mem_append.1 hx with hx | hx
      · exact s6 x hx
      · exact i5 x hx

theorem repeats_l1 (up : Bool) (t0 t : List Pr) : ∀ (post pre : List Mg) (n : Nat), post.length < n → (pre ++ post).length < 1000000000 → (∀ x ∈ post, eqi x.1 4 = false ∧ eqi x.1 5 = false) →
    law09_SettleRepeats_l1 NN n up t0 t (pre.length : Int) (pre ++ post) = some (.inr ((up, (t0, (t, ()))), (pre ++ post, ())))
  | _, _, 0, h, _, _ => absurd h (Nat.not_lt_zero _)
  | [], pre, n + 1, _, _, _ => by
    rw [law09_SettleRepeats_l1_succ]
    simp only [law09_SettleRepeats_l1_step, List.append_nil, Int.lt_irrefl, decide_false, cond_false]
  | q :: post, pre, n + 1, hn, hl, hx => by
    simp only [List.length_cons] at hn
    have hl' : pre.length < 9223372036854775807 := by simp at hl; omega
    obtain ⟨n4, n5⟩ := hx q (by simp)
    rw [law09_SettleRepeats_l1_succ]
    simp only [law09_SettleRepeats_l1_step, lt_mid, in_mid, cond_true, rd_mid, n4, n5, cond_false]
    rw [gd_t rfl, gd_t rfl, wr_mid (q := q) hl', app_mid (pre := pre) (q := q) (post := post)]
    exact repeats_l1 up t0 t post (pre ++ [q]) n (by omega) (by simpa using hl) (fun x h => hx x (by simp [h]))

theorem plainRepeats (xs : List V_ref04_Raw) (ys : List V_ref05_Raw) (hx : okT (.list T_ref04_Raw) xs) (hy : okT (.list T_ref05_Raw) ys) : law09_SettleRepeats NN xs ys = some true := by
  obtain ⟨t, h1, h2, h3⟩ := made_srt hx
  obtain ⟨l, g1, g2, g3⟩ := list_ok hy (k := 8) (by omega)
  have hpow : (2 : Nat) ^ l.length ≤ 2 ^ 8 := Nat.pow_le_pow_right (by omega) (by omega)
  have hpow' : (40 + 1) * 2 ^ l.length ≤ 41 * 2 ^ 8 := Nat.mul_le_mul_left _ hpow
  obtain ⟨i1, i2, i3, i4, i5, i6⟩ := repeats_l0 true t l [] NN t 40 12 [] (by simp only [NN]; omega) (by simp; omega) g3 h2 (by omega) (by omega) (by omega) (by simp; omega)
  have j1 := repeats_l1 true t (apps l t) (settleAll l t) [] NN (by simp only [NN]; omega) (by simp; omega) i5
  have hz : (([] : List Mg).length : Int) = 0 := rfl
  simp only [List.nil_append, hz] at i1 j1
  have ha := All_ok (ms := settleAll l t) (t := t) (by simp only [NN]; omega) i2
  simp only [law09_SettleRepeats, sanity_ok, h1, g1, i1, j1, cond_true, ha, i3, same_ok (show (apps l t).length < NN by simp only [NN]; omega)]
end Ds
