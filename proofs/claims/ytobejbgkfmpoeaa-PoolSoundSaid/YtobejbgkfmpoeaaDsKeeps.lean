/- PoolKeeps, PoolSound. -/
import Derived.Test.YtobejbgkfmpoeaaDsReaches
set_option linter.all false
namespace Ds
open Go Go.Dv
set_option maxRecDepth 100000
set_option linter.unusedVariables false

theorem keeps_p2_add {l : List V_ref11_Raw} {i : Int} (i0 : 0 ≤ i) (i1 : i < (l.length : Int)) (b1 : Bool) {p p' : List Sl} {R : List Int} {n : Nd} {id : Int} (hn : ref11_Node NN (rdL l i D_ref11_Raw) R = some n) (ha : pool_Add NN p n = some (p', (id, 0))) (b6 : List Sl) (b8 : List Sl) (hR : R.length < 1000) :
    law11_PoolKeeps_p2 NN l b1 i true p R b6 (R ++ [id]) b8 = some (.inr ((l, (b1, ((), (i, ((), ()))))), ((p, R), ((b6, R ++ [id]), (p', ()))))) := by
  unfold law11_PoolKeeps_p2 law11_add
  rw [bif_t rfl, gd_t (inB_t i0 i1), hn]
  simp only [ha, eqi_self, Bool.not_true, cond_false]
  rw [bif_f (eqi_ne (by simp; omega))]
  have hw : IntKind.wrap .i64 (((R ++ [id]).length : Int) - 1) = (R.length : Int) := by rw [w64 (by simp <;> omega) (by simp <;> omega)]; simp
  have hrd : rdL (R ++ [id]) (R.length : Int) 0 = id := rd_mid
  rw [hw, gd_t (inB_t (by omega) (by simp; omega)), hrd]
  simp

theorem keeps_p1 {p : List Sl} {R : List Int} {m : Nat} (h : HInv p R m) (hm : m ≤ 1000) (b0 : List V_ref11_Raw) (b1 : Bool) (b2 : Int) (b3 : List Sl) (b4 : List Int) (b5 : List Sl) : law11_PoolKeeps_p1 NN b0 b1 b2 b3 b4 b5 R p = some (.inr ((b0, (b1, ((), b2))), ((p, R), ()))) := by
  unfold law11_PoolKeeps_p1
  rw [(h.sound1 hm).1]
  rfl

theorem keeps_l0 (l : List V_ref11_Raw) (hl : ∀ x ∈ l, okT T_ref11_Raw x) (b1 : Bool) : ∀ (k n i : Nat) (p : List Sl) (R : List Int), i + k = 16 → k < n → HInv p R i →
    law11_PoolKeeps_l0 NN n l b1 (i : Int) p R = some (.inr (b1, ()))
  | _, 0, _, _, _, _, h, _ => absurd h (Nat.not_lt_zero _)
  | 0, n + 1, i, p, R, e, _, h => by
    have : i = 16 := by omega
    subst this
    rw [law11_PoolKeeps_l0_succ]
    simp only [law11_PoolKeeps_l0_step]
    by_cases hlt : ((16 : Nat) : Int) < (l.length : Int)
    · rw [bif_t (by simpa using hlt)]; rfl
    · rw [bif_f (by simpa using hlt)]
  | k + 1, n + 1, i, p, R, e, hn, h => by
    have hNN : NN = 2000000 := rfl
    have hpl := h.pl
    have hrl := h.rl
    have hak := h.ak
    rw [law11_PoolKeeps_l0_succ]
    simp only [law11_PoolKeeps_l0_step]
    by_cases hlt : (i : Int) < (l.length : Int)
    · obtain ⟨x, hxd⟩ : ∃ x, rdL l (i : Int) D_ref11_Raw = x := ⟨_, rfl⟩
      have hx := bytes_raw (hl (rdL l (i : Int) D_ref11_Raw) (rd_mem (by omega) hlt))
      rw [hxd] at hx
      obtain ⟨p', R', e1, e2, e3⟩ := step_ok h (by omega) hx.1 hx.2
      have hin : inB (i : Int) l.length = true := inB_t (by omega) hlt
      have ei : ((i + 1 : Nat) : Int) = (i : Int) + 1 := by omega
      have ih := keeps_l0 l hl b1 k n (i + 1) p' R' (by omega) (by omega) e2
      rw [ei] at ih
      rw [bif_t (by simpa using hlt), bif_t (by simp; omega), gd_t hin, hxd, e1]
      simp only
      rw [gd_t hin]
      -- what the program's own step comes to
      have p2 : ∀ f : Bool, (f = true ↔ isAdd R x) → law11_PoolKeeps_p2 NN l b1 (i : Int) f p R p' R' p = some (.inr ((l, (b1, ((), ((i : Int), ((), ()))))), ((p, R), ((p', R'), (p', ()))))) := by
        intro f hf
        rcases e3 with ⟨ha, nd, n1, n2, n3, n4⟩ | ⟨ha, h5, hu, hp'⟩ | ⟨ha, h5, hb, hs⟩
        · have hf : f = true := hf.2 ha
          subst hf
          subst n4
          refine keeps_p2_add (by omega) hlt b1 (by rw [hxd]; exact n1) ?_ p' p (by omega)
          rw [pool_Add_eq (by decide) (by omega) (by omega), n3]
        · have hf : f = false := by cases f with | false => rfl | true => exact absurd (hf.1 rfl) ha
          subst hf
          have hr : R ≠ [] := fun h => ha (.inr h)
          obtain ⟨k0, k1⟩ := rootK_ok hr hx.1 hx.2
          have hp : 0 < R.length := List.length_pos_iff.2 hr
          unfold law11_PoolKeeps_p2
          rw [bif_f rfl, gd_t hin, hxd, gd_t (by rw [eqi_ne (by omega)]; rfl)]
          have hrk : Int.tmod (IntKind.wrap .i64 x.2.1) (List.length R : Int) = rootK R x := rfl
          simp only [hrk]
          rw [gd_t (inB_t k0 k1), gd_t hin, bif_t (eqi_iff.2 h5), pool_Hold_eq (by omega), if_pos hu, ← hp']
          simp
        · have hf : f = false := by cases f with | false => rfl | true => exact absurd (hf.1 rfl) ha
          subst hf
          have hr : R ≠ [] := fun h => ha (.inr h)
          obtain ⟨k0, k1⟩ := rootK_ok hr hx.1 hx.2
          have hp : 0 < R.length := List.length_pos_iff.2 hr
          have hrl' := e2.rl
          obtain ⟨q, q1, q2, q3⟩ := pool_Drop_ok (N := NN) (by decide) hb (by omega) (by omega)
          have hq : q = p' := bal_unique q2 e2.bal q3 hs
          subst hq
          unfold law11_PoolKeeps_p2
          rw [bif_f rfl, gd_t hin, hxd, gd_t (by rw [eqi_ne (by omega)]; rfl)]
          have hrk : Int.tmod (IntKind.wrap .i64 x.2.1) (List.length R : Int) = rootK R x := rfl
          simp only [hrk]
          rw [gd_t (inB_t k0 k1), gd_t hin, bif_f (eqi_ne h5), q1]
          simp
      have hw : IntKind.wrap .i64 ((i : Int) + 1) = (i : Int) + 1 := w64 (by omega) (by omega)
      by_cases h5 : Int.tmod x.1 8 < 5
      · rw [bif_t (by simpa using h5), p2 true ⟨fun _ => .inl h5, fun _ => rfl⟩]
        simp only
        rw [keeps_p1 e2 (by omega)]
        simp only
        rw [hw, ih]
      · rw [bif_f (by simpa using h5), p2 (eqi (List.length R : Int) 0) ⟨fun hh => .inr (List.eq_nil_of_length_eq_zero (by have := eqi_iff.1 hh; omega)), fun hh => by
          rcases hh with hh | hh
          · exact absurd hh h5
          · rw [hh]; rfl⟩]
        simp only
        rw [keeps_p1 e2 (by omega)]
        simp only
        rw [hw, ih]
    · rw [bif_f (by simpa using hlt)]

theorem plainKeeps (l : List V_ref11_Raw) (hl : okT (.list T_ref11_Raw) l) : law11_PoolKeeps NN l = some true := by
  unfold law11_PoolKeeps
  rw [sanity_ok]
  simp only
  have h := keeps_l0 l (raws_ok hl) true 16 NN 0 [] [] (by omega) (by decide) hinv0
  have h' : law11_PoolKeeps_l0 NN NN l true (0 : Int) ([] : List V_api_Slot) ([] : List Int) = _ := h
  rw [h']

/-! ## PoolSound -/
/-- a pool that is not large -/
structure Lim (p : List Sl) : Prop where
  len : p.length ≤ 100
  kids : ∀ s ∈ p, (kidsS s).length ≤ 100

theorem Lim.ak {p : List Sl} (h : Lim p) : (allKids p).length ≤ 10000 := by
  have := ak_le p 100 h.kids
  have := h.len
  omega

theorem HInv.lim {p : List Sl} {R : List Int} {m : Nat} (h : HInv p R m) (hm : m ≤ 100) : Lim p := ⟨Nat.le_trans h.pl hm, fun s hs => by have := h.kk s hs; omega⟩

theorem Lim.set {p : List Sl} (h : Lim p) {i : Int} {y : Sl} (hy : (kidsS y).length ≤ 100) : Lim (setL p i y) := ⟨by rw [len_setL]; exact h.len, fun s hs => by
  rcases mem_setL hs with hs | rfl
  · exact h.kids s hs
  · exact hy⟩

theorem sounds_agree {p : List Sl} {R : List Int} (h : Lim p) (hR : R.length ≤ 1000) : ∃ b, pool_Sound NN p R = some b ∧ ref11_Sound NN p R = some b := by
  have hl := h.len
  have hk := h.ak
  obtain ⟨b, b1, b2, _⟩ := sounds (N := NN) (by decide) (p := p) (R := R) (by omega) (fun s hs => by have := h.kids s hs; omega) (by omega) (by omega)
  exact ⟨b, b1, b2⟩

theorem sound_p1' {p : List Sl} {R : List Int} (h : Lim p) (hR : R.length ≤ 1000) (b0 : Bool) (b1 : List Sl) : law11_PoolSound_p1 NN b0 b1 R p = some (b0, ()) := by
  have hNN : NN = 2000000 := rfl
  have hl := h.len
  have hk := h.ak
  obtain ⟨b, s1, s2⟩ := sounds_agree h hR
  obtain ⟨out, o1, o2, o3⟩ := reach_same (N := NN) (by decide) (p := p) (R := R) (by omega) (by omega) (fun s hs => by have := h.kids s hs; omega) (by omega)
  have hol := nodup_le (a := out) (b := uids p) (o3.1.imp (fun h => by omega)) (fun y hy => mem_uids.2 ((o3.2 y).1 hy).used)
  have hll : liveN p ≤ p.length := List.countP_le_length
  rw [len_uids] at hol
  unfold law11_PoolSound_p1
  rw [s1, s2]
  simp only [eqb_self, cond_true, o1, o2, ints_refl (N := NN) (by decide) (by omega : out.length < 1000000)]

theorem sound_p0 {p : List Sl} {R : List Int} {m : Nat} (h : HInv p R m) (hm : m ≤ 100) (b0 : Bool) {w1 w2 w3 : Int} (hw1 : 0 ≤ w1 ∧ w1 < 256) : law11_PoolSound_p0 NN b0 w1 w2 w3 p R = some (b0, ()) := by
  have hNN : NN = 2000000 := rfl
  have hpl := h.pl
  have hrl := h.rl
  have hlim := h.lim hm
  unfold law11_PoolSound_p0
  rw [copied_eq NN p (by omega)]
  simp only
  by_cases h0 : p.length = 0
  · rw [bif_t (eqi_iff.2 (by omega))]
  · rw [bif_f (eqi_ne (by omega)), gd_t (by rw [eqi_ne (by omega)]; rfl), w64 (by omega) (by omega)]
    have ht := tmod_b hw1.1 (b := (p.length : Int)) (by omega)
    obtain ⟨i, hi⟩ : ∃ i, Int.tmod w1 (p.length : Int) = i := ⟨_, rfl⟩
    rw [hi] at ht ⊢
    rw [gd_t (inB_t ht.1 ht.2)]
    have hkk := h.kk (rdL p i D_api_Slot) (rd_mem ht.1 ht.2)
    have hk1 : (((((((rdL p i D_api_Slot).2).2).2).2).2).1) = kidsS (rdL p i D_api_Slot) := rfl
    have hrest : ∀ y : Sl, (kidsS y).length ≤ 100 → law11_PoolSound_p1 NN b0 p R (setL p i y) = some (b0, ()) := fun y hy => sound_p1' (hlim.set hy) (by omega) b0 p
    rw [hk1, gd_t (fits_p (by omega) (by omega)), gd_t (fits_p (by simp; omega) (by omega))]
    have a1 := hrest ((rdL p i D_api_Slot).1, (((rdL p i D_api_Slot).2).1, (IntKind.wrap .i64 ((((rdL p i D_api_Slot).2).2).1 + (1 : Int)), ((((rdL p i D_api_Slot).2).2).2)))) (by show (kidsS (rdL p i D_api_Slot)).length ≤ 100; omega)
    have a2 := hrest ((!((rdL p i D_api_Slot).1)), ((rdL p i D_api_Slot).2)) (by show (kidsS (rdL p i D_api_Slot)).length ≤ 100; omega)
    have a3 := hrest ((rdL p i D_api_Slot).1, (((rdL p i D_api_Slot).2).1, ((((rdL p i D_api_Slot).2).2).1, (((((rdL p i D_api_Slot).2).2).2).1, ((((((rdL p i D_api_Slot).2).2).2).2).1, (([] ++ kidsS (rdL p i D_api_Slot)) ++ [Int.tmod (IntKind.wrap .i64 w3) 20], (((((((rdL p i D_api_Slot).2).2).2).2).2).2))))))) (by
      show (([] ++ kidsS (rdL p i D_api_Slot)) ++ [Int.tmod (IntKind.wrap .i64 w3) 20]).length ≤ 100
      simp; omega)
    have a4 := hrest ((rdL p i D_api_Slot).1, (true, (((rdL p i D_api_Slot).2).2))) (by show (kidsS (rdL p i D_api_Slot)).length ≤ 100; omega)
    have a5 := hrest ((rdL p i D_api_Slot).1, (((rdL p i D_api_Slot).2).1, ((((rdL p i D_api_Slot).2).2).1, (((((rdL p i D_api_Slot).2).2).2).1, ((((((rdL p i D_api_Slot).2).2).2).2).1, (([] : List Int), (((((((rdL p i D_api_Slot).2).2).2).2).2).2))))))) (by show ([] : List Int).length ≤ 100; simp)
    rw [a1, a2, a4, a5]
    simp only
    rw [a3]
    cases eqi (Int.tmod w2 5) 0 <;> cases eqi (Int.tmod w2 5) 1 <;> cases eqi (Int.tmod w2 5) 2 <;> cases eqi (Int.tmod w2 5) 3 <;> rfl

theorem plainSound (l : List V_ref11_Raw) (roots : List Int) (w : V_a3_uint8) (hl : okT (.list T_ref11_Raw) l) (hr : okT (.list (.int .i64)) roots) (hw : okT T_a3_uint8 w) : law11_PoolSound NN l roots w = some true := by
  have hNN : NN = 2000000 := rfl
  obtain ⟨p, R, e1, h⟩ := play_ok hl
  have hw1 := u8_of_wf hw.1
  unfold law11_PoolSound
  rw [sanity_ok]
  simp only
  by_cases h8 : (20 : Int) < (List.length roots : Int)
  · rw [bif_t (by simpa using h8)]
  · rw [bif_f (by simpa using h8), e1]
    obtain ⟨b, s1, s2⟩ := sounds_agree (R := roots) (h.lim (by omega)) (by omega)
    simp only [(h.sound1 (by omega)).1, (h.sound1 (by omega)).2, Bool.not_true, cond_false, s1, s2, eqb_self]
    rw [sound_p0 h (by omega) true hw1]

end Ds
