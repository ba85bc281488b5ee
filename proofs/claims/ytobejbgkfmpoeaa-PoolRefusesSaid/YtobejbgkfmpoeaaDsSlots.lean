/- PoolSlots, PoolRefuses. -/
import Derived.Test.YtobejbgkfmpoeaaDsKeeps
set_option linter.all false
namespace Ds
open Go Go.Dv
set_option maxRecDepth 100000
set_option linter.unusedVariables false

theorem slots_l4 (N : Nat) (b0 : Int) (b1 : Bool) (i : Int) (b5 : List Sl) (b6 : List Int) (b7 : List V_api_Pair) (b8 : List (List UInt8)) (b10 : List V_api_Sum) (b11 : List V_api_Msg) (b12 : List Sl) (b13 b14 : Int) : ∀ (post pre : List Int) (n : Nat) (c : Int), post.length < n → (pre ++ post).length < 1000000 → 0 ≤ c → c + (post.length : Int) < 1000000000 →
    law11_PoolSlots_l4 N n b0 b1 i c (pre.length : Int) b5 b6 b7 b8 (pre ++ post) b10 b11 b12 b13 b14 = some ((b0, (b1, ((), ((), ((), (i, c + (post.count i : Int))))))), ((b5, b6), ((b7, (b8, (pre ++ post, (b10, b11)))), ((b12, (b13, b14)), ()))))
  | [], _, 0, _, h, _, _, _ => absurd h (Nat.not_lt_zero _)
  | _ :: _, _, 0, _, h, _, _, _ => absurd h (Nat.not_lt_zero _)
  | [], pre, n + 1, c, _, _, _, _ => by
    rw [law11_PoolSlots_l4_succ]
    simp only [law11_PoolSlots_l4_step, List.append_nil, Int.lt_irrefl, decide_false, cond_false]
    simp
  | k :: post, pre, n + 1, c, hn, hb, h0, h1 => by
    simp only [List.length_append, List.length_cons] at hb hn h1
    rw [law11_PoolSlots_l4_succ]
    simp only [law11_PoolSlots_l4_step, lt_mid, in_mid, rd_mid, cond_true]
    rw [gd_t rfl, wr_mid (q := k) (by omega), app_mid (pre := pre) (q := k) (post := post), List.count_cons]
    by_cases e : k = i
    · rw [bif_t (eqi_iff.2 e), w64 (by omega) (by omega), slots_l4 N b0 b1 i b5 b6 b7 b8 b10 b11 b12 b13 b14 post (pre ++ [k]) n (c + 1) (by omega) (by simp only [List.length_append, List.length_cons, List.length_nil]; omega) (by omega) (by omega)]
      have e2 : c + 1 + (post.count i : Int) = c + ((post.count i + (if (k == i) = true then 1 else 0) : Nat) : Int) := by rw [if_pos (by simpa using e)]; omega
      rw [e2]
    · rw [bif_f (eqi_ne e), slots_l4 N b0 b1 i b5 b6 b7 b8 b10 b11 b12 b13 b14 post (pre ++ [k]) n c (by omega) (by simp only [List.length_append, List.length_cons, List.length_nil]; omega) h0 (by omega)]
      have e2 : c + (post.count i : Int) = c + ((post.count i + (if (k == i) = true then 1 else 0) : Nat) : Int) := by rw [if_neg (by simpa using e)]; omega
      rw [e2]

theorem slots_l2 {p : List Sl} {R : List Int} {m : Nat} (h : HInv p R m) (hm : m ≤ 100) (b0 : Int) (b1 : Bool) {n : Nd} (hu : n.2.2.1.all (usedB p) = true) (hk : n.2.2.1.length ≤ 3) (e0 : Int) : ∀ (k f i : Nat), i + k = p.length → k < f →
    law11_PoolSlots_l2 NN f b0 b1 (i : Int) p R n.1 n.2.1 n.2.2.1 n.2.2.2.1 n.2.2.2.2 (addP p n) (newId p : Int) e0 = some (.inr ((b0, (b1, ((), ((), ())))), ((p, R), ((n.1, (n.2.1, (n.2.2.1, (n.2.2.2.1, n.2.2.2.2)))), ((addP p n, ((newId p : Int), e0)), ())))))
  | _, 0, _, _, h => absurd h (Nat.not_lt_zero _)
  | 0, f + 1, i, e, _ => by
    rw [law11_PoolSlots_l2_succ]
    simp only [law11_PoolSlots_l2_step]
    rw [bif_f (by simp; omega)]
  | k + 1, f + 1, i, e, hf => by
    have hNN : NN = 2000000 := rfl
    have hpl := h.pl
    have hrefs := h.refs hm 3 (by omega) (i : Int) (by omega)
    obtain ⟨hl, hat⟩ := addP_at hu (h.refs hm _ (by omega))
    have hlen := ext_len p
    have ih := slots_l2 h hm b0 b1 hu hk e0 k f (i + 1) (by omega) (by omega)
    have ei : ((i + 1 : Nat) : Int) = (i : Int) + 1 := by omega
    rw [ei] at ih
    rw [law11_PoolSlots_l2_succ]
    simp only [law11_PoolSlots_l2_step]
    have h4 := slots_l4 NN b0 b1 (i : Int) p R n.1 n.2.1 n.2.2.2.1 n.2.2.2.2 (addP p n) (newId p : Int) e0 n.2.2.1 [] NN 0 (by omega) (by simp; omega) (by omega) (by omega)
    have h4' : law11_PoolSlots_l4 NN NN b0 b1 (i : Int) (0 : Int) (0 : Int) p R n.1 n.2.1 n.2.2.1 n.2.2.2.1 n.2.2.2.2 (addP p n) (newId p : Int) e0 = _ := h4
    rw [bif_t (by simp; omega), h4']
    simp only [List.nil_append, Int.zero_add]
    have hin : inB (i : Int) p.length = true := inB_t (by omega) (by omega)
    have hin2 : inB (i : Int) (addP p n).length = true := inB_t (by omega) (by rw [hl]; omega)
    have hw : IntKind.wrap .i64 ((i : Int) + 1) = (i : Int) + 1 := w64 (by omega) (by omega)
    have hcnt := List.count_le_length (a := (i : Int)) (l := n.2.2.1)
    rw [gd_t hin, hw, ih]
    have hs : rdL p (i : Int) D_api_Slot = slA p (i : Int) := rfl
    have hs2 : rdL (addP p n) (i : Int) D_api_Slot = slA (addP p n) (i : Int) := rfl
    rw [hs, hs2]
    by_cases eid : (i : Int) = (newId p : Int)
    · have hnu := newId_free p
      rw [← eid] at hnu
      have hz : (slA p (i : Int)).1 = false := by
        cases hx : (slA p (i : Int)).1 with
        | false => rfl
        | true => rw [usedB_iff.2 ⟨by omega, by omega, hx⟩] at hnu; cases hnu
      rw [bif_f (by rw [hz, eqi_iff.2 eid]; rfl), bif_f (by rw [eqi_iff.2 eid]; rfl)]
    · have hchk : (!(eqi (slA (addP p n) (i : Int)).2.2.1 (IntKind.wrap .i64 ((((slA p (i : Int)).2).2).1 + (n.2.2.1.count (i : Int) : Int))))) = false := by
        rw [hat (i : Int) (by omega), if_neg eid]
        have hx : (((slA p (i : Int)).2).2).1 = refsS (slA p (i : Int)) := rfl
        rw [hx, w64 (by omega) (by omega)]
        have hy : (withRefs (slA p (i : Int)) (refsS (slA p (i : Int)) + (n.2.2.1.count (i : Int) : Int))).2.2.1 = refsS (slA p (i : Int)) + (n.2.2.1.count (i : Int) : Int) := rfl
        rw [hy, eqi_self]; rfl
      have hne : (!(eqi (i : Int) (newId p : Int))) = true := by rw [eqi_ne eid]; rfl
      rw [gd_t hin2, gd_t hin, hchk, hne]
      simp only [cond_true, cond_false]
      have hx9 : (eqb ((slA p (i : Int)).1) (eqi (i : Int) (newId p : Int)) && decide ((i : Int) ≤ (newId p : Int))) = false := by
        rw [eqi_ne eid]
        by_cases hlt : (i : Int) < (newId p : Int)
        · rw [(usedB_iff.1 (newId_used (by omega) hlt)).2.2]; rfl
        · have : ¬ (i : Int) ≤ (newId p : Int) := by omega
          simp [this]
      cases h1 : eqb ((slA p (i : Int)).1) (eqi (i : Int) (newId p : Int)) with
      | false => rfl
      | true =>
        rw [h1] at hx9
        simp only [Bool.true_and] at hx9
        rw [hx9]
        rfl

theorem slots_p3 {p : List Sl} {R : List Int} {m : Nat} (h : HInv p R m) (hm : m ≤ 100) (w : Int) (hw : 0 ≤ w ∧ w < 256) (b1 : Bool) : law11_PoolSlots_p3 NN w b1 p R = some (b1, ()) := by
  have hNN : NN = 2000000 := rfl
  have hpl := h.pl
  have hrl := h.rl
  have hak := h.ak
  unfold law11_PoolSlots_p3
  by_cases hr : R.length = 0
  · rw [bif_t (eqi_iff.2 (by omega))]
  · rw [bif_f (eqi_ne (by omega)), gd_t (by rw [eqi_ne (by omega)]; rfl), w64 (by omega) (by omega)]
    have ht := tmod_b hw.1 (b := (R.length : Int)) (by omega)
    obtain ⟨i, hi⟩ : ∃ i, Int.tmod w (R.length : Int) = i := ⟨_, rfl⟩
    rw [hi] at ht ⊢
    have hmem : rdL R i 0 ∈ R := rd_mem ht.1 ht.2
    have hu := h.bal.mem _ hmem
    obtain ⟨a, b, c, d⟩ := hold_bal h.bal hu (by omega)
    obtain ⟨q, q1, q2, q3⟩ := pool_Drop_ok (N := NN) (by decide) a (by rw [b.len]; omega) (by omega)
    have hq : q = p := bal_unique q2 h.bal q3 c
    subst hq
    rw [gd_t (inB_t ht.1 ht.2), pool_Hold_eq (by omega), if_pos hu]
    simp only
    rw [q1]
    simp only [eqi_self, cond_true, same_refl (N := NN) (by decide) (by omega : q.length < 1000000) h.small]

theorem plainSlots (l : List V_ref11_Raw) (x : V_ref11_Raw) (w : Int) (hl : okT (.list T_ref11_Raw) l) (hx : okT T_ref11_Raw x) (hw : (Lit.int .u8 w).wf = true) : law11_PoolSlots NN l x w = some true := by
  have hNN : NN = 2000000 := rfl
  obtain ⟨p, R, e1, h⟩ := play_ok hl
  have hpl := h.pl
  have hrl := h.rl
  obtain ⟨x0, x1⟩ := bytes_raw hx
  obtain ⟨n, n1, n2, n3, n4⟩ := node_ok (N := NN) (by decide) x0 x1 (roots := R) (by omega)
  have hu := all_used_iff.2 fun k hk => h.bal.mem k (n3 k hk)
  obtain ⟨ha, hb⟩ := add_small h (by omega) hu n2 n4
  have hapl := ha.pl
  obtain ⟨hl', hat⟩ := addP_at hu (h.refs (by omega) _ (by omega))
  have hlen := ext_len p
  have huid : usedB (addP p n) (newId p : Int) = true := (add_used h (by omega) hu (by omega) _).2 (.inl rfl)
  unfold law11_PoolSlots law11_add
  rw [sanity_ok, e1]
  simp only [n1, pool_Add_eq (N := NN) (by decide) (by omega : p.length ≤ 50000) (by omega : n.2.2.1.length < 1000000), hb, eqi_self, Bool.not_true, cond_false]
  rw [bif_f (by simp <;> omega), bif_f (by simp <;> omega), w64 (by omega) (by omega), bif_f (by simp <;> omega)]
  have hx45 : decide (((addP p n).length : Int) < (p.length : Int)) = false := decide_eq_false (by omega)
  rw [hx45]
  have hp0 : law11_PoolSlots_p0 NN w true p R n.1 n.2.1 n.2.2.1 n.2.2.2.1 n.2.2.2.2 (addP p n) (newId p : Int) 0 = some (true, ()) := by
    unfold law11_PoolSlots_p0
    have h2 := slots_l2 h (by omega) w true hu n4 0 p.length NN 0 (by omega) (by omega)
    have h2' : law11_PoolSlots_l2 NN NN w true (0 : Int) p R n.1 n.2.1 n.2.2.1 n.2.2.2.1 n.2.2.2.2 (addP p n) (newId p : Int) 0 = _ := h2
    rw [h2']
    have hnd : nodeS (slA (addP p n) (newId p : Int)) = n := by rw [hat _ (by omega), if_pos rfl]; rfl
    simp only [pool_Get_used ha.bal huid, hnd, eqi_self, Bool.not_true, cond_false]
    have hsn : ref11_SameNode NN n (n.1, (n.2.1, (n.2.2.1, (n.2.2.2.1, n.2.2.2.2)))) = some true := sameNode_refl (by decide) n2
    rw [hsn]
    simp only [Bool.not_true, cond_false]
    rw [gd_t (inB_t (by omega) (by rw [hl']; omega))]
    have hr1 : (rdL (addP p n) (newId p : Int) D_api_Slot).2.2.1 = 1 := by
      show (slA (addP p n) (newId p : Int)).2.2.1 = 1
      rw [hat _ (by omega), if_pos rfl]; rfl
    rw [bif_f (by rw [hr1]; rfl), slots_p3 h (by omega) w (u8_of_wf hw) true]
  unfold law11_PoolSlots_p1
  simp only [cond_false]
  rw [hp0]

/-! ## PoolRefuses -/
abbrev FS : Sl := (true, (false, ((1 : Int), (([] : List V_api_Pair), (([] : List (List UInt8)), (([] : List Int), (([] : List V_api_Sum), ([] : List V_api_Msg))))))))

theorem refuses_l3 (b0 : Bool) : ∀ (k f i : Nat), i + k = 4096 → k < f → law11_PoolRefuses_l3 NN f b0 (i : Int) (List.replicate i FS) = some ((b0, ()), ((), (List.replicate 4096 FS, ())))
  | _, 0, _, _, h => absurd h (Nat.not_lt_zero _)
  | 0, f + 1, i, e, _ => by
    have : i = 4096 := by omega
    subst this
    rw [law11_PoolRefuses_l3_succ]
    simp only [law11_PoolRefuses_l3_step]
    rw [bif_f (by decide)]
  | k + 1, f + 1, i, e, hf => by
    have ih := refuses_l3 b0 k f (i + 1) (by omega) (by omega)
    have ei : ((i + 1 : Nat) : Int) = (i : Int) + 1 := by omega
    rw [ei] at ih
    rw [law11_PoolRefuses_l3_succ]
    simp only [law11_PoolRefuses_l3_step]
    rw [bif_t (by simp; omega), gd_t (fits_p (by simp; omega) (by omega)), w64 (by omega) (by omega)]
    have e2 : List.replicate i FS ++ [FS] = List.replicate (i + 1) FS := by rw [List.replicate_succ']
    have e3 : @HAppend.hAppend (List V_api_Slot) (List V_api_Slot) (List V_api_Slot) _ (List.replicate i FS) ([FS] : List V_api_Slot) = List.replicate (i + 1) FS := e2
    rw [e3, ih]

theorem slA_full {n : Nat} {i : Int} (h0 : 0 ≤ i) (h1 : i < (n : Int)) : slA (List.replicate n FS) i = FS := by
  have : i.toNat < (List.replicate n FS).length := by simp; omega
  rw [slA_get this]; simp

theorem used_full {n : Nat} {i : Int} : usedB (List.replicate n FS) i = true ↔ 0 ≤ i ∧ i < (n : Int) := by
  rw [usedB_iff]
  simp only [List.length_replicate]
  constructor
  · rintro ⟨a, b, _⟩; exact ⟨a, b⟩
  · rintro ⟨a, b⟩; exact ⟨a, b, by rw [slA_full a b]⟩

theorem count_nodup : ∀ {l : List Int} {x : Int}, l.Nodup → x ∈ l → l.count x = 1
  | y :: l, x, h, hx => by
    obtain ⟨h1, h2⟩ := List.nodup_cons.1 h
    rw [List.count_cons]
    by_cases e : y = x
    · subst e; rw [List.count_eq_zero.2 h1]; simp
    · rcases List.mem_cons.1 hx with rfl | hx
      · exact absurd rfl e
      · rw [count_nodup h2 hx]; simp [e]

theorem ak_full (n : Nat) : allKids (List.replicate n FS) = [] := by
  refine List.flatMap_eq_nil_iff.2 fun s hs => ?_
  rw [(List.mem_replicate.1 hs).2]; rfl

theorem bal_full (n : Nat) : Bal (List.replicate n FS) (uids (List.replicate n FS)) := by
  have hc : ∀ i, usedB (List.replicate n FS) i = true → (uids (List.replicate n FS)).count i + (allKids (List.replicate n FS)).count i = 1 := fun i hi => by
    rw [count_nodup (nodup_uids _) (mem_uids.2 hi), ak_full]; rfl
  refine ⟨fun s hs he => ?_, fun s hs => ?_, fun i hi => ?_, fun k hk => mem_uids.1 hk, fun k hk => ?_, fun i hi => by rw [hc i hi]; decide, ⟨fun _ => 0, fun i hi k hk => ?_⟩⟩
  · rw [(List.mem_replicate.1 hs).2] at he; cases he
  · rw [(List.mem_replicate.1 hs).2]
  · rw [hc i hi]
    obtain ⟨a, b⟩ := used_full.1 hi
    rw [slA_full a b]; rfl
  · rw [ak_full] at hk; cases hk
  · obtain ⟨a, b⟩ := used_full.1 hi
    rw [slA_full a b] at hk; cases hk

theorem full_ok (b1 : Bool) : ∃ P : List Sl, law11_PoolRefuses_l3 NN NN b1 (0 : Int) ([] : List V_api_Slot) = some ((b1, ()), ((), (P, ()))) ∧ Bal P (uids P) ∧ P.length = 4096 ∧ (∀ i : Int, usedB P i = true ↔ 0 ≤ i ∧ i < 4096) ∧ allKids P = [] := by
  have hNN : NN = 2000000 := rfl
  exact ⟨List.replicate 4096 FS, refuses_l3 b1 4096 NN 0 (by omega) (by omega), bal_full 4096, List.length_replicate, fun i => used_full, ak_full 4096⟩

theorem refuses_p1 (b0 b1 : Bool) : law11_PoolRefuses_p1 NN b0 b1 = some (b1, ()) := by
  have hNN : NN = 2000000 := rfl
  obtain ⟨P, h3', hB, hPl, hPu, hPak⟩ := full_ok b1
  unfold law11_PoolRefuses_p1
  rw [h3']
  cases b0 with
  | false => rfl
  | true =>
    simp only [Bool.not_true, cond_false]
    have h77 : (77 : Int) ∈ uids P := mem_uids.2 ((hPu 77).2 (by omega))
    have hperm := List.perm_cons_erase h77
    have hB' : Bal P (77 :: (uids P).erase 77) := hB.congr fun i => (hperm.count_eq i).symm
    have hul : (uids P).length ≤ 4096 := by rw [len_uids, ← hPl]; exact List.countP_le_length
    have hel : ((uids P).erase 77).length ≤ 4096 := by rw [List.length_erase_of_mem h77]; omega
    obtain ⟨q, q1, q2, q3⟩ := pool_Drop_ok (N := NN) (by decide) hB' (by omega) (by rw [hPak]; simp; omega)
    have hql : q.length = 4096 := by rw [q3.len]; exact hPl
    have hqak : ∀ k, k ∉ allKids q := fun k hk => by
      obtain ⟨i, hi, hki⟩ := kid_of hk
      obtain ⟨a, b⟩ := q3.node i hi
      rw [kids_node, b, ← kids_node] at hki
      have := kid_mem a hki
      rw [hPak] at this; cases this
    have hcnt : ((uids P).erase 77).count 77 = 0 := by
      rw [List.count_erase_self, count_nodup (nodup_uids P) h77]
    have hid : newId q = 77 := newId_eq (fun i h0 h1 => by
      refine q2.mem i ((List.mem_erase_of_ne (by omega)).2 (mem_uids.2 ((hPu i).2 (by omega))))) (by
      cases hx : usedB q ((77 : Nat) : Int) with
      | false => rfl
      | true =>
        have h1 := q2.pos _ hx
        have h2 : (allKids q).count ((77 : Nat) : Int) = 0 := List.count_eq_zero.2 (hqak _)
        have h3 : ((uids P).erase 77).count ((77 : Nat) : Int) = 0 := hcnt
        omega)
    have hidP : newId P = 4096 := newId_eq (fun i h0 h1 => (hPu i).2 (by omega)) (by
      cases hx : usedB P ((4096 : Nat) : Int) with
      | false => rfl
      | true => have := (hPu _).1 hx; omega)
    have a1 : law11_add NN P N0 = some (P, ((0 : Int), (111 : Int))) := by
      unfold law11_add
      rw [pool_Add_eq (by decide) (by omega) (by decide)]
      unfold addF
      have hall : N0.2.2.1.all (usedB P) = true := rfl
      rw [if_pos hall, if_pos (by rw [hidP]; decide)]
    have a2 : law11_add NN q N0 = some (addP q N0, ((77 : Int), (0 : Int))) := by
      unfold law11_add
      rw [pool_Add_eq (by decide) (by omega) (by decide)]
      unfold addF
      have hall : N0.2.2.1.all (usedB q) = true := rfl
      rw [if_pos hall, if_neg (by rw [hid]; decide), hid]
      rfl
    have a3 : law11_add NN P (([] : List V_api_Pair), (([] : List (List UInt8)), (([(4096 : Int)] : List Int), (([] : List V_api_Sum), ([] : List V_api_Msg))))) = some (P, ((0 : Int), (110 : Int))) := by
      unfold law11_add
      rw [pool_Add_eq (by decide) (by omega) (by decide)]
      unfold addF
      have hnu : usedB P 4096 = false := by
        cases hx : usedB P 4096 with
        | false => rfl
        | true => have := (hPu _).1 hx; omega
      rw [if_neg (by simp [hnu])]
    have a1' : law11_add NN P (([] : List V_api_Pair), (([] : List (List UInt8)), (([] : List Int), (([] : List V_api_Sum), ([] : List V_api_Msg))))) = _ := a1
    have a2' : law11_add NN q (([] : List V_api_Pair), (([] : List (List UInt8)), (([] : List Int), (([] : List V_api_Sum), ([] : List V_api_Msg))))) = _ := a2
    rw [q1]
    simp only [a1', a2', a3, eqi_self, cond_true]

theorem refuses_p0 {p : List Sl} {R : List Int} {m : Nat} (h : HInv p R m) (hm : m ≤ 100) (b0 b1 : Bool) {k : Int} (hk : usedB p k = false) : law11_PoolRefuses_p0 NN b0 b1 k p R = some (b1, ()) := by
  have hNN : NN = 2000000 := rfl
  have hpl := h.pl
  have a : law11_add NN p (([] : List V_api_Pair), (([] : List (List UInt8)), (([k] : List Int), (([] : List V_api_Sum), ([] : List V_api_Msg))))) = some (p, ((0 : Int), (110 : Int))) := by
    unfold law11_add
    rw [pool_Add_eq (by decide) (by omega) (by simp)]
    unfold addF
    rw [if_neg (by simp [hk])]
  unfold law11_PoolRefuses_p0
  rw [a, pool_Get_no hk, pool_Hold_eq (by omega), pool_Drop_no hk, if_neg (by rw [hk]; decide)]
  simp only [eqi_self, Bool.not_true, cond_false, same_refl (N := NN) (by decide) (by omega : p.length < 1000000) h.small]
  unfold law11_PoolRefuses_p2
  rw [bif_f rfl]
  show (match law11_PoolRefuses_p1 NN b0 b1 with | some r50 => some (r50.1, ()) | none => none) = some (b1, ())
  rw [refuses_p1]

theorem plainRefuses (l : List V_ref11_Raw) (id : Int) (full : Bool) (hl : okT (.list T_ref11_Raw) l) (hid : (Lit.int .i16 id).wf = true) (hf : okT .bool full) : law11_PoolRefuses NN l id full = some true := by
  obtain ⟨p, R, e1, h⟩ := play_ok hl
  have hpl := h.pl
  unfold law11_PoolRefuses
  rw [sanity_ok, e1]
  simp only [ref_used_eq]
  obtain ⟨k, hk⟩ : ∃ k, IntKind.wrap .i64 id = k := ⟨_, rfl⟩
  rw [hk]
  cases hu : usedB p k with
  | false =>
    simp only [cond_false, refuses_p0 h (by omega) full true hu]
  | true =>
    have h0 := used_nn hu
    have h1 := used_lt hu
    have hnu : usedB p (IntKind.wrap .i64 ((p.length : Int) + k)) = false := by
      rw [w64 (by omega) (by omega)]
      cases hx : usedB p ((p.length : Int) + k) with
      | false => rfl
      | true => have := used_lt hx; omega
    simp only [cond_true, refuses_p0 h (by omega) full true hnu]

end Ds
