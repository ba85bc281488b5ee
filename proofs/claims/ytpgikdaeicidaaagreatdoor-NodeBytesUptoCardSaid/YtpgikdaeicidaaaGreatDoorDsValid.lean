/- Which nodes are valid: what node.Valid and the reference's Valid reckon, for any node. -/
import Derived.Test.YtpgikdaeicidaaaGreatDoorDsPure
import Derived.Test.YtpgikdaeicidaaaGreatDoorDvD
import Derived.Test.YtpgikdaeicidaaaGreatDoorDvE
import Derived.Test.YtpgikdaeicidaaaGreatDoorDsMsgs
set_option linter.all false
namespace Ds
open Go Go.Dv
set_option maxRecDepth 100000
set_option linter.unusedVariables false
theorem look {α R : Type} {xs : List α} {L : Nat → Int → Option R} (p : α → Bool) (yes no : R)
    (hend : ∀ n, L (n + 1) (xs.length : Int) = some yes)
    (hstep : ∀ n pre x post, xs = pre ++ x :: post → L (n + 1) (pre.length : Int) = bif p x then L n ((pre ++ [x]).length : Int) else some no) :
    ∀ post pre n, xs = pre ++ post → post.length < n → L n (pre.length : Int) = some (bif post.all p then yes else no)
  | _, _, 0, _, h => absurd h (Nat.not_lt_zero _)
  | [], pre, n + 1, hx, _ => by
    have : xs = pre := by simpa using hx
    subst this
    exact hend n
  | x :: post, pre, n + 1, hx, hn => by
    rw [hstep n pre x post hx]
    cases hp : p x
    · simp [hp]
    · rw [cond_true, look p yes no hend hstep post (pre ++ [x]) n (by rw [hx]; simp) (by simpa using hn)]
      simp [hp]
theorem look0 {α R : Type} {xs : List α} {L : Nat → Int → Option R} (p : α → Bool) (yes no : R)
    (hend : ∀ n, L (n + 1) (xs.length : Int) = some yes)
    (hstep : ∀ n pre x post, xs = pre ++ x :: post → L (n + 1) (pre.length : Int) = bif p x then L n ((pre ++ [x]).length : Int) else some no)
    {n : Nat} (hn : xs.length < n) : L n 0 = some (bif xs.all p then yes else no) := look p yes no hend hstep xs [] n rfl hn
theorem lookE {α R : Type} {xs : List α} {L : Nat → Int → Option R} (p : α → Bool) (fin : R → Bool)
    (hend : ∀ n, ∃ r, L (n + 1) (xs.length : Int) = some r ∧ fin r = true)
    (hstep : ∀ n pre x post, xs = pre ++ x :: post → (p x = true → L (n + 1) (pre.length : Int) = L n ((pre ++ [x]).length : Int)) ∧ (p x = false → ∃ r, L (n + 1) (pre.length : Int) = some r ∧ fin r = false)) :
    ∀ post pre n, xs = pre ++ post → post.length < n → ∃ r, L n (pre.length : Int) = some r ∧ fin r = post.all p
  | _, _, 0, _, h => absurd h (Nat.not_lt_zero _)
  | [], pre, n + 1, hx, _ => by
    have : xs = pre := by simpa using hx
    subst this
    exact hend n
  | x :: post, pre, n + 1, hx, hn => by
    obtain ⟨h1, h2⟩ := hstep n pre x post hx
    cases hp : p x
    · obtain ⟨r, h, hf⟩ := h2 hp
      exact ⟨r, h, by simp [hp, hf]⟩
    · rw [h1 hp]
      obtain ⟨r, h, hf⟩ := lookE p fin hend hstep post (pre ++ [x]) n (by rw [hx]; simp) (by simpa using hn)
      exact ⟨r, h, by simp [hp, hf]⟩
theorem at_len {α : Type} (pre : List α) (x : α) (h : (pre ++ [x]).length < 1000000000) : IntKind.wrap .i64 ((pre.length : Int) + (1 : Int)) = ((pre ++ [x]).length : Int) := wr_mid (q := x) (by simp at h; omega)
def storB (p : Pr) : Bool := inR p.1.length 1 65535 && (decide ((p.2.1.length : Int) ≤ 64) && inR p.2.2 0 1000000000)
theorem stor_eq (N : Nat) (p : Pr) : node_storable N p = some (storB p) := by
  have h1 : inR (p.1.length : Int) 1 65535 = (decide ((1 : Int) ≤ (p.1.length : Int)) && decide ((p.1.length : Int) ≤ 65535)) := by rw [Bool.eq_iff_iff, inR_iff]; simp
  have h2 : inR p.2.2 0 1000000000 = (decide ((0 : Int) ≤ p.2.2) && decide (p.2.2 ≤ 1000000000)) := by rw [Bool.eq_iff_iff, inR_iff]; simp
  simp only [node_storable, storB, h1, h2]
  cases decide ((1 : Int) ≤ (p.1.length : Int)) <;> cases decide ((p.1.length : Int) ≤ 65535) <;> cases decide ((p.2.1.length : Int) ≤ 64) <;> cases decide ((0 : Int) ≤ p.2.2) <;> simp
theorem in_eq (N : Nat) (n lo hi : Int) : ref10_in N n lo hi = some (inR n lo hi) := by
  have h : inR n lo hi = (decide (lo ≤ n) && decide (n ≤ hi)) := by rw [Bool.eq_iff_iff, inR_iff]; simp
  simp only [ref10_in, h]
  cases decide (lo ≤ n) <;> simp
def upB : List Pr → Bool
  | [] => true
  | p :: r => match r with | [] => true | q :: _ => lts p.1 q.1 && upB r
theorem up_cons (p q : Pr) (r : List Pr) : upB (p :: q :: r) = (lts p.1 q.1 && upB (q :: r)) := rfl
theorem tup_l0 (N : Nat) : ∀ (post pre : List Pr) (p : Pr) (n : Nat), post.length < n → Big (pre ++ p :: post).length → table_Valid_l0 N n (pre ++ p :: post) ((pre.length : Int) + 1) = some (bif upB (p :: post) then .inr ((), ()) else .inl (false, ()))
  | [], pre, p, n + 1, _, hb => by
    rw [table_Valid_l0_succ, table_Valid_l0_step, bif_f (by simp)]; rfl
  | q :: post, pre, p, n + 1, hn, hb => by
    have hb' : pre.length + (post.length + 1 + 1) < 1000000000 := by simpa [Big] using hb
    have e : IntKind.wrap .i64 ((pre.length : Int) + 1 - 1) = (pre.length : Int) := by rw [w64 (by omega) (by omega)]; omega
    have e2 : ((pre.length : Int) + 1) = ((pre ++ [p]).length : Int) := by simp
    have e3 : pre ++ p :: q :: post = (pre ++ [p]) ++ q :: post := by simp
    have hl : (pre ++ p :: q :: post).length = pre.length + (post.length + 1 + 1) := by simp
    rw [table_Valid_l0_succ, table_Valid_l0_step, bif_t (by simp; omega), e, gd_t (inB_t (by omega) (by omega)), rd_mid]
    simp only
    rw [gd_t (inB_t (by omega) (by omega)), e2, e3, rd_mid, up_cons, at_len (pre ++ [p]) q (by simp; omega)]
    cases h : lts p.1 q.1
    · rfl
    · have ih := tup_l0 N post (pre ++ [p]) q n (by simpa using hn) (by rw [← e3]; exact hb)
      simp only [Bool.not_true, cond_false, Bool.true_and]
      rw [← ih]
      congr 1
      simp
      omega
theorem tup_eq {t : List Pr} (h : t.length < 100000) : table_Valid NN t = some (upB t) := by
  unfold table_Valid
  cases t with
  | nil => rw [show table_Valid_l0 NN NN ([] : List Pr) (1 : Int) = some (.inr ((), ())) from rfl]; rfl
  | cons p r =>
    have := tup_l0 NN r [] p NN (by simp at h; simp only [NN]; omega) (by simp only [Big]; simp at h ⊢; omega)
    simp only [List.nil_append, List.length_nil] at this
    rw [show (((0 : Nat) : Int) + 1) = 1 from rfl] at this
    rw [this]
    cases upB (p :: r) <;> rfl
theorem rup_eq {t : List Pr} (h : t.length < 100000) : ref04_Valid NN t = some (upB t) := tup_eq h
def pairB (s : Sp) (p : Pr) : Bool := storB p && hasB s p.1
theorem c1_eq (N : Nat) (s : Sp) (p : Pr) : node_Valid_c1 N p s.1 s.2 = some (!(pairB s p)) := by
  simp only [node_Valid_c1, stor_eq, pairB]
  rw [Has_eq]
  cases storB p <;> cases hasB s p.1 <;> rfl
theorem idxF {α : Type} {xs : List α} {L : Nat → Int → Option ((Int × Unit) ⊕ (Unit × Unit))} (p : α → Bool)
    (hend : ∀ n, L (n + 1) (xs.length : Int) = some (.inr ((), ())))
    (hstep : ∀ n pre x post, xs = pre ++ x :: post → L (n + 1) (pre.length : Int) = bif p x then some (.inl ((pre.length : Int), ())) else L n ((pre ++ [x]).length : Int))
    {n : Nat} (hn : xs.length < n) :
    (∃ j : Int, L n 0 = some (.inl (j, ())) ∧ decide (0 ≤ j) = true ∧ xs.any p = true) ∨ L n 0 = some (.inr ((), ())) ∧ xs.any p = false := by
  have H := lookE (xs := xs) (L := L) (fun x => !(p x)) (fun r => match r with | .inl q => !(decide (0 ≤ q.1)) | .inr _ => true)
    (fun n => ⟨_, hend n, rfl⟩) (fun n pre x post hx => ⟨fun h => by rw [hstep n pre x post hx, show p x = false by simpa using h]; rfl, fun h => ⟨_, by rw [hstep n pre x post hx, show p x = true by simpa using h]; rfl, by simp⟩⟩) xs [] n rfl hn
  obtain ⟨r, h1, h2⟩ := H
  have e : xs.any p = !(xs.all fun x => !(p x)) := by rw [List.not_all_eq_any_not]; simp
  simp only [List.length_nil] at h1
  rw [show ((0 : Nat) : Int) = 0 from rfl] at h1
  rw [e, ← h2]
  cases r with
  | inl q =>
    cases hq : decide (0 ≤ q.1)
    · exfalso
      have : ∀ post pre n, xs = pre ++ post → ∀ k, L n (pre.length : Int) = some (.inl (k, ())) → post.length < n → 0 ≤ k := by
        intro post
        induction post with
        | nil =>
          intro pre n hx k hk hn
          cases n with
          | zero => exact absurd hn (Nat.not_lt_zero _)
          | succ n =>
            have : xs = pre := by simpa using hx
            subst this
            rw [hend n] at hk
            cases hk
        | cons x post ih =>
          intro pre n hx k hk hn
          cases n with
          | zero => exact absurd hn (Nat.not_lt_zero _)
          | succ n =>
            rw [hstep n pre x post hx] at hk
            cases hp : p x
            · rw [hp] at hk
              exact ih (pre ++ [x]) n (by rw [hx]; simp) k hk (by simpa using hn)
            · rw [hp] at hk
              cases hk
              omega
      have h0 := this xs [] n rfl q.1 (by rw [← h1]; rfl) hn
      simp at hq
      omega
    · exact .inl ⟨q.1, h1, hq, by simp [hq]⟩
  | inr q => exact .inr ⟨h1, rfl⟩
theorem pairs_eq (s : Sp) {t : List Pr} (h : t.length < 100000) : slices_ContainsFunc_s_api_Pair_api_Pair__node_Valid_c1 NN t s.1 s.2 = some (t.any fun p => !(pairB s p)) := by
  have H := idxF (xs := t) (L := fun n i => slices_IndexFunc_s_api_Pair_api_Pair__node_Valid_c1_l0 NN n t s.1 s.2 (t.length : Int) i) (fun p => !(pairB s p)) (fun n => by
      simp only [slices_IndexFunc_s_api_Pair_api_Pair__node_Valid_c1_l0_succ, slices_IndexFunc_s_api_Pair_api_Pair__node_Valid_c1_l0_step]; rw [bif_f (by simp)])
    (fun n pre x post hx => by
      have hl : t.length = pre.length + (post.length + 1) := by rw [hx]; simp
      simp only [slices_IndexFunc_s_api_Pair_api_Pair__node_Valid_c1_l0_succ, slices_IndexFunc_s_api_Pair_api_Pair__node_Valid_c1_l0_step]
      rw [bif_t (by simp; omega), gd_t (inB_t (by omega) (by omega)), at_len pre x (by simp; omega), show rdL t (pre.length : Int) D_api_Pair = x by rw [hx]; exact rd_mid, c1_eq])
    (n := NN) (by simp only [NN]; omega)
  unfold slices_ContainsFunc_s_api_Pair_api_Pair__node_Valid_c1 slices_IndexFunc_s_api_Pair_api_Pair__node_Valid_c1
  rcases H with ⟨j, h1, h2, h3⟩ | ⟨h1, h3⟩ <;> rw [h1] <;> simp only [h3]
  · rw [h2]
  · rfl
def upR : List UInt8 → List UInt8
  | [] => []
  | b :: r => bif b == 255 then upR r else (b + 1) :: r
def preS (p : B) : Sp := (p, (upR p.reverse).reverse)
theorem pre_l0 : ∀ (r : List UInt8) (n : Nat) (a : B), r.length < n → r.length < 1000000 → ∃ m, span_Prefix_l0 NN n a [] [] (bytesI r.reverse) = some ((a, ((), ())), (([], []), (bytesI m.reverse, ()))) ∧ m.length ≤ r.length ∧ upR r = upR m ∧ (∀ b q, m = b :: q → b ≠ 255)
  | [], n + 1, a, _, _ => ⟨[], by rw [span_Prefix_l0_succ]; rfl, Nat.le_refl _, rfl, fun _ _ h => by cases h⟩
  | b :: r, n + 1, a, hn, hl => by
    have hn' : r.length < n := by simpa using hn
    have hl' : r.length + 1 < 1000000 := by simpa using hl
    have e0 : bytesI (b :: r).reverse = bytesI r.reverse ++ [(b.toNat : Int)] := by simp [bytesI]
    have e1 : (bytesI (b :: r).reverse).length = r.length + 1 := by rw [e0]; simp [bytesI]
    have e2 : IntKind.wrap .i64 (((bytesI (b :: r).reverse).length : Int) - 1) = ((bytesI r.reverse).length : Int) := by rw [e1, w64 (by omega) (by omega)]; simp [bytesI]
    have e3 : (bytesI r.reverse).length = r.length := by simp [bytesI]
    rw [span_Prefix_l0_succ, span_Prefix_l0_step]
    simp only
    rw [bif_t (by rw [e1]; simp), e2, gd_t (inB_t (by omega) (by omega)), e0, rd_mid]
    by_cases hb : b = 255
    · subst hb
      rw [bif_t (by rfl), gd_t (by rw [← e0, e1, e3]; simp; omega)]
      obtain ⟨m, h1, h2, h3, h4⟩ := pre_l0 r n a hn' (by omega)
      refine ⟨m, ?_, by simp; omega, by rw [← h3]; rfl, h4⟩
      rw [← h1]
      congr 1
      simp
    · rw [bif_f (eqi_ne fun h => hb (by apply UInt8.toNat_inj.1; simp; omega))]
      exact ⟨b :: r, by rw [e0], Nat.le_refl _, rfl, fun c q h => by cases h; exact hb⟩
theorem IU_snoc (q : B) (b : UInt8) : bytesU (bytesI q ++ [IntKind.wrap .u8 ((b.toNat : Int) + 1)]) = q ++ [b + 1] := by
  have h1 : bytesU (bytesI q ++ [IntKind.wrap .u8 ((b.toNat : Int) + 1)]) = bytesU (bytesI q) ++ bytesU [IntKind.wrap .u8 ((b.toNat : Int) + 1)] := by simp [bytesU]
  rw [h1, UI]
  congr 1
  simp only [bytesU, List.map_cons, List.map_nil]
  congr 1
  apply UInt8.toNat_inj.1
  rw [IntKind.wrap_u8]
  have := b.toNat_lt
  simp
  omega
theorem Prefix_eq (p : B) (hp : p.length < 100000) : span_Prefix NN p = some (preS p) := by
  obtain ⟨m, h1, h2, h3, h4⟩ := pre_l0 p.reverse NN p (by simp only [NN, List.length_reverse]; omega) (by simp only [List.length_reverse]; omega)
  rw [List.reverse_reverse] at h1
  unfold span_Prefix preS
  rw [gd_p (by simp only [maxB]; omega), h1, h3]
  simp only
  cases m with
  | nil => rfl
  | cons b q =>
    have hb := h4 b q rfl
    have e0 : bytesI (b :: q).reverse = bytesI q.reverse ++ [(b.toNat : Int)] := by simp [bytesI]
    have e1 : (bytesI q.reverse).length = q.length := by simp [bytesI]
    have hq : q.length + 1 ≤ p.length := by simpa using h2
    have e2 : IntKind.wrap .i64 (((bytesI q.reverse ++ [(b.toNat : Int)]).length : Int) - 1) = ((bytesI q.reverse).length : Int) := by
      rw [w64 (by simp [e1]; try omega) (by simp [e1]; try omega)]; simp
    rw [e0, bif_t (by simp; try omega), e2, gd_t (inB_t (by omega) (by simp; try omega)), rd_mid, gd_t (inB_t (by omega) (by simp; try omega)), set_mid, IU_snoc]
    simp only [upR]
    rw [bif_f (by simpa using hb)]
    simp
theorem bt_mid {pre post : B} {b : UInt8} : bt (pre ++ b :: post) (pre.length : Int) = (b.toNat : Int) := by simp [bt]
theorem rpre_l0 : ∀ (r tl : B) (n : Nat), r.length < n → r.length < 1000000 → ∃ m t, ref02_Prefix_l0 NN n (r.reverse ++ tl) (r.length : Int) [] [] = some (((r.reverse ++ tl), ((), (m.length : Int))), (([], []), ())) ∧ r.reverse ++ tl = m.reverse ++ t ∧ m.length ≤ r.length ∧ upR r = upR m ∧ (∀ b q, m = b :: q → b ≠ 255)
  | [], tl, n + 1, _, _ => ⟨[], tl, by rw [ref02_Prefix_l0_succ]; rfl, rfl, Nat.le_refl _, rfl, fun _ _ h => by cases h⟩
  | b :: r, tl, n + 1, hn, hl => by
    have hn' : r.length < n := by simpa using hn
    have hl' : r.length + 1 < 1000000 := by simpa using hl
    have e0 : (b :: r).reverse ++ tl = r.reverse ++ b :: tl := by simp
    have e1 : ((b :: r).length : Int) = (r.length : Int) + 1 := by simp
    have e2 : IntKind.wrap .i64 (((b :: r).length : Int) - 1) = (r.reverse.length : Int) := by rw [e1, w64 (by omega) (by omega)]; simp
    rw [ref02_Prefix_l0_succ, ref02_Prefix_l0_step, bif_t (by simp; try omega), e2, e0, gd_t (inB_t (by omega) (by simp; try omega)), bt_mid]
    simp only
    by_cases hb : b = 255
    · subst hb
      rw [bif_t (by rfl)]
      obtain ⟨m, t, h1, h2, h2', h3, h4⟩ := rpre_l0 r (255 :: tl) n hn' (by omega)
      refine ⟨m, t, ?_, h2, by simp; omega, by rw [← h3]; rfl, h4⟩
      rw [← h1]
      simp
    · rw [bif_f (eqi_ne fun h => hb (by apply UInt8.toNat_inj.1; simp; omega))]
      exact ⟨b :: r, tl, rfl, by simp, Nat.le_refl _, rfl, fun c q h => by cases h; exact hb⟩
theorem rPrefix_eq (p : B) (hp : p.length < 100000) : ref02_Prefix NN p = some (preS p) := by
  obtain ⟨m, t, h1, h2, h2', h3, h4⟩ := rpre_l0 p.reverse [] NN (by simp only [NN, List.length_reverse]; omega) (by simp only [List.length_reverse]; omega)
  rw [List.reverse_reverse, List.append_nil, List.length_reverse] at h1
  rw [List.reverse_reverse, List.append_nil] at h2
  unfold ref02_Prefix preS
  rw [h1, h3]
  simp only
  cases m with
  | nil => rfl
  | cons b q =>
    have hb := h4 b q rfl
    have hq : q.length + 1 ≤ p.length := by simpa using h2'
    have e2 : IntKind.wrap .i64 (((b :: q).length : Int) - 1) = (q.reverse.length : Int) := by
      rw [w64 (by simp; try omega) (by simp; try omega)]; simp
    have hp' : p = q.reverse ++ b :: t := by rw [h2]; simp
    have hc : cut2 p 0 (q.reverse.length : Int) = q.reverse := by rw [cut_pre, hp']; simp
    have hbt : bt p (q.reverse.length : Int) = (b.toNat : Int) := by rw [hp']; exact bt_mid
    rw [bif_f (eqi_ne (by simp; try omega)), e2, gd_t (by simp; try omega), hc, hbt, gd_t (inB_t (by omega) (by simp; try omega))]
    rw [gd_p (by simp [bytesU, maxS]; omega)]
    have := IU_snoc q.reverse b
    have h5 : bytesU (bytesI q.reverse ++ [IntKind.wrap .u8 ((b.toNat : Int) + 1)]) = q.reverse ++ bytesU [IntKind.wrap .u8 ((b.toNat : Int) + 1)] := by
      have : bytesU (bytesI q.reverse ++ [IntKind.wrap .u8 ((b.toNat : Int) + 1)]) = bytesU (bytesI q.reverse) ++ bytesU [IntKind.wrap .u8 ((b.toNat : Int) + 1)] := by simp [bytesU]
      rw [this, UI]
    rw [h5] at this
    simp only [upR]
    rw [bif_f (by simpa using hb), this]
    simp
def wrS (m : Mg) : List Sp := bif eqi m.1 1 || eqi m.1 2 then [(m.2.1, m.2.1 ++ [0])] else bif eqi m.1 4 then [preS m.2.2.2.2.1, preS m.2.2.2.2.2.1] else bif eqi m.1 5 then [preS m.2.2.2.2.2.1] else [m.2.2.2.1]
def rdsS (m : Mg) : List Sp := bif eqi m.1 4 || eqi m.1 5 then [preS m.2.2.2.2.1] else bif eqi m.1 6 then [m.2.2.2.1] else []
abbrev LenM (m : Mg) : Prop := m.2.1.length < 100000 ∧ m.2.2.2.2.1.length < 100000 ∧ m.2.2.2.2.2.1.length < 100000
theorem one_eq (k : B) (h : k.length < 100000) : span_One NN k = some (k, k ++ [0]) ∧ ref02_One NN k = some (k, k ++ [0]) := by
  constructor
  · unfold span_One
    rw [gd_p (by simp [maxS]; omega)]
  · unfold ref02_One
    rw [gd_p (by simp [maxS]; omega)]
theorem kind_cases {m : Mg} (h : vldB m = true) : m.1 = 1 ∨ m.1 = 2 ∨ m.1 = 3 ∨ m.1 = 4 ∨ m.1 = 5 ∨ m.1 = 6 := by
  unfold vldB at h
  by_cases h1 : m.1 = 1
  · exact .inl h1
  rw [bif_f (eqi_ne h1)] at h
  by_cases h2 : m.1 = 2
  · exact .inr (.inl h2)
  rw [bif_f (eqi_ne h2)] at h
  by_cases h3 : m.1 = 3
  · exact .inr (.inr (.inl h3))
  rw [bif_f (eqi_ne h3)] at h
  by_cases h4 : m.1 = 4
  · exact .inr (.inr (.inr (.inl h4)))
  by_cases h5 : m.1 = 5
  · exact .inr (.inr (.inr (.inr (.inl h5))))
  by_cases h6 : m.1 = 6
  · exact .inr (.inr (.inr (.inr (.inr h6))))
  simp [eqi_ne h4, eqi_ne h5, eqi_ne h6] at h
theorem reads_eq {m : Mg} (h : vldB m = true) (hl : LenM m) : msg_Reads NN m = some (rdsS m) ∧ ref05_Reads NN m = some (rdsS m) ∧ msg_Writes NN m = some (wrS m) ∧ ref05_Writes NN m = some (wrS m) := by
  obtain ⟨k, a1, a2, a3, a4, a5, a6⟩ := m
  obtain ⟨l1, l2, l3⟩ := hl
  have o := one_eq a1 l1
  have p4 := Prefix_eq a4 l2
  have p5 := Prefix_eq a5 l3
  have r4 := rPrefix_eq a4 l2
  have r5 := rPrefix_eq a5 l3
  rcases kind_cases h with e | e | e | e | e | e <;> (simp only at e; subst e) <;>
    simp [msg_Reads, msg_of, ref05_Reads, msg_Writes, ref05_Writes, rdsS, wrS, eqi, msg_put_reads, msg_del_reads, msg_drop_reads, msg_move_reads, msg_clone_reads, msg_stamp_reads, msg_put_writes, msg_del_writes, msg_drop_writes, msg_move_writes, msg_clone_writes, msg_stamp_writes, o, p4, p5, r4, r5]
theorem nol_len {s : B} (h : nol s = true) : s.length = 0 := by rw [eqs_iff.1 (show eqs s [] = true from h)]; rfl
theorem vld_len {m : Mg} (h : vldB m = true) : LenM m := by
  obtain ⟨k, a1, a2, a3, a4, a5, a6⟩ := m
  have hk := kind_cases h
  simp only [vldB] at h
  rcases hk with e | e | e | e | e | e <;> (simp only at e; subst e) <;> simp [eqi, inR_iff] at h
  · have := nol_len h.2.2.2.1; have := nol_len h.2.2.2.2; exact ⟨by simp only; omega, by simp only; omega, by simp only; omega⟩
  · have := nol_len h.2.2.2.2.1; have := nol_len h.2.2.2.2.2.1; exact ⟨by simp only; omega, by simp only; omega, by simp only; omega⟩
  · have := nol_len h.2.1; have := nol_len h.2.2.2.1; have := nol_len h.2.2.2.2.1; exact ⟨by simp only; omega, by simp only; omega, by simp only; omega⟩
  · have := apartV_len h.1; have := nol_len h.2.1; exact ⟨by simp only; omega, by simp only; omega, by simp only; omega⟩
  · have := apartV_len h.1; have := nol_len h.2.1; exact ⟨by simp only; omega, by simp only; omega, by simp only; omega⟩
  · have := nol_len h.2.1; have := nol_len h.2.2.2.1; have := nol_len h.2.2.2.2; exact ⟨by simp only; omega, by simp only; omega, by simp only; omega⟩
def covB (a b : Sp) : Bool := emptyB b || (hasB a b.1 && !(lessB a.2 b.2))
theorem cov_eq (N : Nat) (a b : Sp) : span_Covers N a b = some (covB a b) := by
  obtain ⟨r, h1, h2⟩ := compare_neg N a.2 b.2
  have h3 : decide ((0 : Int) ≤ r) = !(lessB a.2 b.2) := by rw [← h2]; by_cases h : r < 0 <;> simp [h] <;> omega
  simp only [span_Covers, empty_eq, Has_eq, h1, covB, h3]
  cases emptyB b <;> cases hasB a b.1 <;> rfl
theorem cov_ref (a b : Sp) : (emptyB b || (!(emptyB a) && ((lts a.1 b.1 || eqs a.1 b.1) && !(lessB a.2 b.2)))) = covB a b := by
  unfold covB
  cases hb : emptyB b
  · cases hl : lessB a.2 b.2
    · simp only [Bool.false_or, Bool.not_false, Bool.and_true, le_eq]
      cases ha : emptyB a
      · simp only [Bool.not_false, Bool.true_and, hasB]
        cases h1 : lts b.1 a.1
        · simp only [Bool.not_false, cond_true]
          cases h2 : eqs a.2 []
          · simp only [cond_false]
            simp only [lessB, h2, Bool.not_false, Bool.true_and, Bool.or_eq_false_iff] at hl
            simp only [emptyB, hl.1, Bool.not_false, Bool.true_and, le_eq, Bool.not_eq_false'] at hb
            exact (lts_le hb hl.2).symm
          · rfl
        · rfl
      · simp only [Bool.not_true, Bool.false_and]
        rw [empty_no ha]
    · simp
  · simp
theorem rcov_eq (N : Nat) (a b : Sp) : ref02_Covers N a b = some (covB a b) := by
  rw [← cov_ref]
  simp only [ref02_Covers, refEmpty_eq, less_eq]
  cases emptyB b <;> cases emptyB a <;> cases (lts a.1 b.1 || eqs a.1 b.1) <;> rfl
theorem c2_eq (N : Nat) (s x : Sp) : node_Valid_c2 N x s.1 s.2 = some (!(covB s x)) := by
  simp only [node_Valid_c2]
  rw [cov_eq]
theorem spans_eq (s : Sp) {t : List Sp} (h : t.length < 100000) : slices_ContainsFunc_s_api_Span_api_Span__node_Valid_c2 NN t s.1 s.2 = some (t.any fun p => !(covB s p)) := by
  have H := idxF (xs := t) (L := fun n i => slices_IndexFunc_s_api_Span_api_Span__node_Valid_c2_l0 NN n t s.1 s.2 (t.length : Int) i) (fun p => !(covB s p)) (fun n => by
      simp only [slices_IndexFunc_s_api_Span_api_Span__node_Valid_c2_l0_succ, slices_IndexFunc_s_api_Span_api_Span__node_Valid_c2_l0_step]; rw [bif_f (by simp)])
    (fun n pre x post hx => by
      have hl : t.length = pre.length + (post.length + 1) := by rw [hx]; simp
      simp only [slices_IndexFunc_s_api_Span_api_Span__node_Valid_c2_l0_succ, slices_IndexFunc_s_api_Span_api_Span__node_Valid_c2_l0_step]
      rw [bif_t (by simp; omega), gd_t (inB_t (by omega) (by omega)), at_len pre x (by simp; omega), show rdL t (pre.length : Int) D_api_Span = x by rw [hx]; exact rd_mid, c2_eq])
    (n := NN) (by simp only [NN]; omega)
  unfold slices_ContainsFunc_s_api_Span_api_Span__node_Valid_c2 slices_IndexFunc_s_api_Span_api_Span__node_Valid_c2
  rcases H with ⟨j, h1, h2, h3⟩ | ⟨h1, h3⟩ <;> rw [h1] <;> simp only [h3]
  · rw [h2]
  · rfl
def insB (s : Sp) (m : Mg) : Bool := (rdsS m ++ wrS m).all (covB s)
def msgB (s : Sp) (m : Mg) : Bool := vldB m && insB s m
theorem rds_len (m : Mg) : (rdsS m).length ≤ 1 ∧ (wrS m).length ≤ 2 := by
  simp only [rdsS, wrS]
  constructor
  · cases (eqi m.1 4 || eqi m.1 5) <;> cases eqi m.1 6 <;> simp
  · cases (eqi m.1 1 || eqi m.1 2) <;> cases eqi m.1 4 <;> cases eqi m.1 5 <;> simp
theorem any_not {α : Type} (l : List α) (f : α → Bool) : (l.any fun x => !(f x)) = !(l.all f) := by rw [List.not_all_eq_any_not]
theorem c3_eq (s : Sp) (m : Mg) : node_Valid_c3__node_Valid_c2 NN m s.1 s.2 = some (!(msgB s m)) := by
  unfold node_Valid_c3__node_Valid_c2 msgB insB
  rw [Valid_eq]
  simp only
  cases hv : vldB m
  · rfl
  · obtain ⟨h1, _, h2, _⟩ := reads_eq hv (vld_len hv)
    have hl := rds_len m
    rw [h1, h2]
    simp only [Bool.not_true, cond_false]
    rw [spans_eq s (by omega)]
    simp only
    rw [spans_eq s (by omega), any_not, any_not, List.all_append]
    cases (rdsS m).all (covB s) <;> simp
theorem msgs_eq (s : Sp) {t : List Mg} (h : t.length < 100000) : slices_ContainsFunc_s_api_Msg_api_Msg__node_Valid_c3__node_Valid_c2 NN t s.1 s.2 = some (t.any fun p => !(msgB s p)) := by
  have H := idxF (xs := t) (L := fun n i => slices_IndexFunc_s_api_Msg_api_Msg__node_Valid_c3__node_Valid_c2_l0 NN n t s.1 s.2 (t.length : Int) i) (fun p => !(msgB s p)) (fun n => by
      simp only [slices_IndexFunc_s_api_Msg_api_Msg__node_Valid_c3__node_Valid_c2_l0_succ, slices_IndexFunc_s_api_Msg_api_Msg__node_Valid_c3__node_Valid_c2_l0_step]; rw [bif_f (by simp)])
    (fun n pre x post hx => by
      have hl : t.length = pre.length + (post.length + 1) := by rw [hx]; simp
      simp only [slices_IndexFunc_s_api_Msg_api_Msg__node_Valid_c3__node_Valid_c2_l0_succ, slices_IndexFunc_s_api_Msg_api_Msg__node_Valid_c3__node_Valid_c2_l0_step]
      rw [bif_t (by simp; omega), gd_t (inB_t (by omega) (by omega)), at_len pre x (by simp; omega), show rdL t (pre.length : Int) D_api_Msg = x by rw [hx]; exact rd_mid, c3_eq])
    (n := NN) (by simp only [NN]; omega)
  unfold slices_ContainsFunc_s_api_Msg_api_Msg__node_Valid_c3__node_Valid_c2 slices_IndexFunc_s_api_Msg_api_Msg__node_Valid_c3__node_Valid_c2
  rcases H with ⟨j, h1, h2, h3⟩ | ⟨h1, h3⟩ <;> rw [h1] <;> simp only [h3]
  · rw [h2]
  · rfl
theorem inside_eq10 (s : Sp) {m : Mg} (hv : vldB m = true) : ref10_Inside NN m s = some (insB s m) := by
  obtain ⟨_, h1, _, h2⟩ := reads_eq hv (vld_len hv)
  have hl := rds_len m
  unfold ref10_Inside insB
  rw [h1, h2]
  simp only
  rw [gd_t (fits_t (by simp only [maxB]; omega) (by simp only [maxB]; omega))]
  have H := look0 (xs := rdsS m ++ wrS m) (L := fun n i => ref10_Inside_l0 NN n i s.1 s.2 (rdsS m ++ wrS m)) (covB s) (.inr ((), ())) (.inl (false, ())) (fun n => by
      simp only [ref10_Inside_l0_succ, ref10_Inside_l0_step]; rw [bif_f (by simp)])
    (fun n pre x post hx => by
      have hl : (rdsS m ++ wrS m).length = pre.length + (post.length + 1) := by rw [hx]; simp
      have hl2 : (rdsS m ++ wrS m).length ≤ 3 := by simp; omega
      simp only [ref10_Inside_l0_succ, ref10_Inside_l0_step]
      rw [bif_t (by rw [hl]; simp; omega), gd_t (inB_t (by omega) (by omega)), at_len pre x (by simp; omega), show rdL (rdsS m ++ wrS m) (pre.length : Int) D_api_Span = x by rw [hx]; exact rd_mid, rcov_eq]
      cases covB s x <;> rfl)
    (n := NN) (by simp only [NN, List.length_append]; omega)
  have hh : (@HAppend.hAppend (List V_api_Span) (List V_api_Span) (List V_api_Span) _ (rdsS m) (wrS m)) = rdsS m ++ wrS m := rfl
  simp only [hh]
  rw [H]
  cases (rdsS m ++ wrS m).all (covB s) <;> rfl
abbrev Nd := V_api_Node
def pivB (lo hi : B) : List B → Bool
  | [] => true
  | p :: r => lts lo p && ((eqs hi [] || lts p hi) && pivB p hi r)
theorem npiv_l1 (hi : B) (b4 : List Pr) (b5 : List B) (b6 : List Int) (b7 : List V_api_Sum) (b8 : List Mg) (b9 : B) : ∀ (post pre : List B) (last : B) (n : Nat), post.length < n → Big (pre ++ post).length →
    node_Valid_l1 NN n last (pre ++ post) ((pre ++ post).length : Int) (pre.length : Int) b4 b5 b6 b7 b8 b9 hi = some (bif pivB last hi post then .inr (((), ()), ((b4, (b5, (b6, (b7, b8)))), ((b9, hi), ()))) else .inl (false, ()))
  | [], pre, last, n + 1, _, _ => by
    rw [node_Valid_l1_succ, node_Valid_l1_step, lt_end]; rfl
  | p :: post, pre, last, n + 1, hn, hb => by
    have hb' : pre.length + (post.length + 1) < 1000000000 := by simpa [Big] using hb
    rw [node_Valid_l1_succ, node_Valid_l1_step, lt_mid, cond_true, gd_t in_mid, rd_mid]
    simp only [le_eq]
    rw [at_len pre p (by simp; omega), app_mid]
    have ih := npiv_l1 hi b4 b5 b6 b7 b8 b9 post (pre ++ [p]) p n (by simpa using hn) (by rw [← app_mid]; exact hb)
    rw [ih]
    simp only [pivB]
    cases lts last p <;> cases eqs hi [] <;> cases lts p hi <;> simp
theorem rpiv_l0 (lo hi : B) : ∀ (post pre : List B) (last : B) (n : Nat), post.length < n → Big (pre ++ post).length → (pre = [] ∧ last = lo ∨ ∃ q, pre = q ++ [last] ∧ lts lo last = true) →
    ref10_pivots_l0 NN n (pre ++ post) (pre.length : Int) lo hi = some (bif pivB last hi post then .inr ((), ()) else .inl (false, ()))
  | [], pre, last, n + 1, _, _, _ => by
    rw [ref10_pivots_l0_succ, ref10_pivots_l0_step, lt_end]; rfl
  | p :: post, pre, last, n + 1, hn, hb, hp => by
    have hb' : pre.length + (post.length + 1) < 1000000000 := by simpa [Big] using hb
    have ih : lts lo p = true → ref10_pivots_l0 NN n (pre ++ p :: post) ((pre ++ [p]).length : Int) lo hi = some (bif pivB p hi post then .inr ((), ()) else .inl (false, ())) := fun h => by
      rw [app_mid]
      exact rpiv_l0 lo hi post (pre ++ [p]) p n (by simpa using hn) (by rw [← app_mid]; exact hb) (.inr ⟨pre, rfl, h⟩)
    rw [ref10_pivots_l0_succ, ref10_pivots_l0_step, lt_mid, cond_true, gd_t in_mid, rd_mid]
    simp only [le_eq, ref10_pivots_p2, ref10_pivots_p1, gd_t in_mid, at_len pre p (by simp; omega)]
    rcases hp with ⟨rfl, rfl⟩ | ⟨q, rfl, hq⟩
    · simp only [pivB]
      rw [show decide ((0 : Int) < (([] : List B).length : Int)) = false from rfl]
      cases h1 : lts last p
      · rfl
      · have i1 := ih h1
        have hw := at_len [] p (by simp)
        cases eqs hi [] <;> cases lts p hi <;> simp only [Bool.not_true, Bool.not_false, cond_true, cond_false, Bool.true_and, Bool.false_and, Bool.true_or, Bool.false_or, hw, i1]
    · have e1 : decide ((0 : Int) < ((q ++ [last]).length : Int)) = true := by simp; try omega
      have e2 : IntKind.wrap .i64 (((q ++ [last]).length : Int) - 1) = (q.length : Int) := by
        simp at hb'
        rw [w64 (by simp; try omega) (by simp; try omega)]; simp
      have e3 : rdL (q ++ [last] ++ p :: post) (q.length : Int) ([] : B) = last := by rw [← app_mid]; exact rd_mid
      have e4 : inB (q.length : Int) (q ++ [last] ++ p :: post).length = true := inB_t (by omega) (by simp; omega)
      simp only [e1, e2, e3, gd_t e4, cond_true, pivB]
      cases h1 : lts lo p
      · -- p ≤ lo < last
        have h2 : lts last p = false := by
          cases h : lts last p
          · rfl
          · rw [lts_trans hq h] at h1; cases h1
        rw [h2]
        rfl
      · have i1 := ih h1
        have hq2 : (q ++ [last]).length = q.length + 1 := by simp
        have hw := at_len (q ++ [last]) p (by simp; omega)
        cases eqs hi [] <;> cases lts p hi <;> cases lts last p <;> simp only [Bool.not_true, Bool.not_false, cond_true, cond_false, Bool.true_and, Bool.false_and, Bool.true_or, Bool.false_or, hw, i1]
theorem rpiv_eq {l : List B} (h : l.length < 100000) (s : Sp) : ref10_pivots NN l s = some (pivB s.1 s.2 l) := by
  have := rpiv_l0 s.1 s.2 l [] s.1 NN (by simp only [NN]; omega) (by simp only [Big, List.nil_append]; omega) (.inl ⟨rfl, rfl⟩)
  simp only [List.nil_append, List.length_nil] at this
  rw [show ((0 : Nat) : Int) = 0 from rfl] at this
  unfold ref10_pivots
  rw [this]
  cases pivB s.1 s.2 l <;> rfl
def rngB (r : V_api_Range) : Bool := decide (0 ≤ r.1) && (decide (r.1 ≤ r.2) && decide (r.2 ≤ 1000000000000000))
def sumB (s : V_api_Sum) : Bool := rngB s.1 && rngB s.2
theorem bound_eq (N : Nat) (r : V_api_Range) : ref10_bound N r = some (rngB r) := by
  simp only [ref10_bound, rngB]
  cases decide (0 ≤ r.1) <;> cases decide (r.1 ≤ r.2) <;> rfl
theorem not_lt_dec (a b : Int) : decide (a < b) = !(decide (b ≤ a)) := by by_cases h : a < b <;> simp [h] <;> omega
theorem vsum_eq (s : V_api_Sum) : node_validSum NN s = some (sumB s) := by
  have H := look0 (xs := [s.1, s.2]) (L := fun n i => node_validSum_l0 NN n (([s.1, s.2] : List V_api_Range).length : Int) i [s.1, s.2]) rngB (.inr ((), ())) (.inl (false, ())) (fun n => by
      simp only [node_validSum_l0_succ, node_validSum_l0_step]; rw [bif_f (by simp)])
    (fun n pre x post hx => by
      have hl : ([s.1, s.2] : List V_api_Range).length = pre.length + (post.length + 1) := by rw [hx]; simp
      have hl2 : ([s.1, s.2] : List V_api_Range).length = 2 := rfl
      simp only [node_validSum_l0_succ, node_validSum_l0_step]
      rw [bif_t (by rw [hl]; simp; omega), gd_t (inB_t (by omega) (by omega)), at_len pre x (by simp; omega), show rdL ([s.1, s.2] : List V_api_Range) (pre.length : Int) D_api_Range = x by rw [hx]; exact rd_mid]
      simp only [not_lt_dec, rngB]
      cases decide (0 ≤ x.1) <;> cases decide (x.1 ≤ x.2) <;> cases decide (x.2 ≤ 1000000000000000) <;> rfl)
    (n := NN) (by simp only [NN, List.length_cons, List.length_nil]; omega)
  unfold node_validSum
  simp only
  rw [H]
  simp only [List.all_cons, List.all_nil, Bool.and_true, sumB]
  cases rngB s.1 <;> cases rngB s.2 <;> rfl
def kidB (x : Int × V_api_Sum) : Bool := inR x.1 0 4095 && sumB x.2
def innB (n : Nd) (s : Sp) : Bool := pivB s.1 s.2 n.2.1 && ((n.2.2.1.zip n.2.2.2.1).all kidB && n.2.2.2.2.all (msgB s))
def leafB (n : Nd) (s : Sp) : Bool := (n.2.1.isEmpty && (n.2.2.2.1.isEmpty && n.2.2.2.2.isEmpty)) && (upB n.1 && n.1.all (pairB s))
def valB (n : Nd) (s : Sp) : Bool :=
  bif n.2.2.1.isEmpty then leafB n s else
  (n.1.isEmpty && (eqi (n.2.2.2.1.length : Int) (n.2.2.1.length : Int) && eqi (n.2.1.length : Int) ((n.2.2.1.length : Int) - 1))) && innB n s
abbrev SmallN (n : Nd) : Prop := n.1.length < 50000 ∧ n.2.1.length < 50000 ∧ n.2.2.1.length < 50000 ∧ n.2.2.2.1.length < 50000 ∧ n.2.2.2.2.length < 50000
theorem kids_l2 (s : Sp) (b3 : List Pr) (b4 : List B) (kids : List Int) (sums : List V_api_Sum) (b7 : List Mg) (he : sums.length = kids.length) (hl : kids.length < 50000) :
    node_Valid_l2 NN NN kids (kids.length : Int) 0 b3 b4 kids sums b7 s.1 s.2 = some (bif (kids.zip sums).all kidB then .inr (((), ()), ((b3, (b4, (kids, (sums, b7)))), ((s.1, s.2), ()))) else .inl (false, ())) ∧
    ref10_Valid_l1 NN NN 0 b3 b4 kids sums b7 s.1 s.2 = some (bif (kids.zip sums).all kidB then .inr (((), ()), ((b3, (b4, (kids, (sums, b7)))), ((s.1, s.2), ()))) else .inl (false, ())) := by
  have hz : (kids.zip sums).length = kids.length := by rw [List.length_zip, he, Nat.min_self]
  have hk : ∀ pre x post, kids.zip sums = pre ++ x :: post → rdL kids (pre.length : Int) 0 = x.1 ∧ rdL sums (pre.length : Int) D_api_Sum = x.2 := fun pre x post hx => by
    have e1 : kids = pre.map (·.1) ++ x.1 :: post.map (·.1) := by
      have := List.map_fst_zip (l₁ := kids) (l₂ := sums) (by omega)
      rw [hx] at this
      rw [← this]; simp
    have e2 : sums = pre.map (·.2) ++ x.2 :: post.map (·.2) := by
      have := List.map_snd_zip (l₁ := kids) (l₂ := sums) (by omega)
      rw [hx] at this
      rw [← this]; simp
    constructor
    · have : rdL (pre.map (·.1) ++ x.1 :: post.map (·.1)) ((pre.map (·.1)).length : Int) 0 = x.1 := rd_mid
      rw [List.length_map] at this
      rw [e1]; exact this
    · have : rdL (pre.map (·.2) ++ x.2 :: post.map (·.2)) ((pre.map (·.2)).length : Int) D_api_Sum = x.2 := rd_mid
      rw [List.length_map] at this
      rw [e2]; exact this
  constructor
  · refine look0 (xs := kids.zip sums) (L := fun n i => node_Valid_l2 NN n kids (kids.length : Int) i b3 b4 kids sums b7 s.1 s.2) kidB _ _ (fun n => by
      simp only [node_Valid_l2_succ, node_Valid_l2_step, hz]; rw [bif_f (by simp)])
      (fun n pre x post hx => ?_) (by rw [hz]; simp only [NN]; omega)
    have hl2 : kids.length = pre.length + (post.length + 1) := by rw [← hz, hx]; simp
    obtain ⟨r1, r2⟩ := hk pre x post hx
    have h2 : inR x.1 0 4095 = (!(decide (x.1 < 0)) && !(decide (4096 ≤ x.1))) := by rw [Bool.eq_iff_iff, inR_iff]; simp; omega
    simp only [node_Valid_l2_succ, node_Valid_l2_step]
    rw [bif_t (by simp; omega), gd_t (inB_t (by omega) (by omega)), r1, gd_t (inB_t (by omega) (by omega)), r2, vsum_eq, at_len pre x (by simp; omega)]
    simp only [kidB, h2]
    cases decide (x.1 < 0) <;> cases decide (4096 ≤ x.1) <;> cases sumB x.2 <;> rfl
  · refine look0 (xs := kids.zip sums) (L := fun n i => ref10_Valid_l1 NN n i b3 b4 kids sums b7 s.1 s.2) kidB _ _ (fun n => by
      simp only [ref10_Valid_l1_succ, ref10_Valid_l1_step, hz]; rw [bif_f (by simp)])
      (fun n pre x post hx => ?_) (by rw [hz]; simp only [NN]; omega)
    have hl2 : kids.length = pre.length + (post.length + 1) := by rw [← hz, hx]; simp
    obtain ⟨r1, r2⟩ := hk pre x post hx
    simp only [ref10_Valid_l1_succ, ref10_Valid_l1_step]
    rw [bif_t (by simp; omega), gd_t (inB_t (by omega) (by omega)), r1, in_eq, gd_t (inB_t (by omega) (by omega)), r2, bound_eq, bound_eq, gd_t (inB_t (by omega) (by omega)), at_len pre x (by simp; omega)]
    simp only [kidB, sumB]
    cases inR x.1 0 4095 <;> cases rngB x.2.1 <;> cases rngB x.2.2 <;> rfl
theorem rmsgs_l2 (s : Sp) (b1 : List Pr) (b2 : List B) (b3 : List Int) (b4 : List V_api_Sum) {t : List Mg} (h : t.length < 50000) :
    ref10_Valid_l2 NN NN 0 b1 b2 b3 b4 t s.1 s.2 = some (bif t.all (msgB s) then .inr ((), ()) else .inl (false, ())) := by
  refine look0 (xs := t) (L := fun n i => ref10_Valid_l2 NN n i b1 b2 b3 b4 t s.1 s.2) (msgB s) _ _ (fun n => by
      simp only [ref10_Valid_l2_succ, ref10_Valid_l2_step]; rw [bif_f (by simp)])
      (fun n pre x post hx => ?_) (by simp only [NN]; omega)
  have hl2 : t.length = pre.length + (post.length + 1) := by rw [hx]; simp
  have r1 : rdL t (pre.length : Int) D_api_Msg = x := by rw [hx]; exact rd_mid
  simp only [ref10_Valid_l2_succ, ref10_Valid_l2_step]
  rw [bif_t (by simp; omega), gd_t (inB_t (by omega) (by omega)), r1, rValid_eq, gd_t (inB_t (by omega) (by omega)), at_len pre x (by simp; omega)]
  simp only [msgB]
  cases hv : vldB x
  · rfl
  · rw [show ((s.1, s.2) : Sp) = s from rfl, inside_eq10 s hv]
    cases insB s x <;> rfl
theorem isE {α : Type} (l : List α) : eqi (l.length : Int) 0 = l.isEmpty := by
  cases l with
  | nil => rfl
  | cons x r => simp [eqi]; omega
theorem posE {α : Type} (l : List α) : decide ((0 : Int) < (l.length : Int)) = !(l.isEmpty) := by cases l <;> simp
theorem nValid_eq {n : Nd} (h : SmallN n) (s : Sp) : node_Valid NN n s = some (valB n s) := by
  obtain ⟨a, b, c, d, e⟩ := n
  obtain ⟨h1, h2, h3, h4, h5⟩ := h
  simp only at h1 h2 h3 h4 h5
  unfold node_Valid valB
  simp only [isE, posE]
  cases hc : c.isEmpty
  · simp only [cond_false]
    cases ha : a.isEmpty
    · rfl
    · simp only [Bool.not_true, cond_false, Bool.true_and]
      cases hd : eqi (d.length : Int) (c.length : Int)
      · rfl
      · simp only [Bool.not_true, cond_false, Bool.true_and]
        have hcl : c.length ≠ 0 := by cases c with
          | nil => simp at hc
          | cons _ _ => simp
        rw [w64 (by omega) (by omega)]
        cases hb : eqi (b.length : Int) ((c.length : Int) - 1)
        · rfl
        · simp only [Bool.not_true, cond_false, Bool.true_and]
          have hd' : d.length = c.length := by have := eqi_iff.1 hd; omega
          unfold node_Valid_p0
          have hp := npiv_l1 s.2 a b c d e s.1 b [] s.1 NN (by simp only [NN]; omega) (by simp only [Big, List.nil_append]; omega)
          simp only [List.nil_append, List.length_nil] at hp
          rw [show ((0 : Nat) : Int) = 0 from rfl] at hp
          rw [hp]
          simp only [innB]
          cases pivB s.1 s.2 b
          · rfl
          · simp only [cond_true, Bool.true_and]
            rw [(kids_l2 s a b c d e hd' h3).1]
            cases (c.zip d).all kidB
            · rfl
            · simp only [cond_true, Bool.true_and]
              rw [msgs_eq s (by omega), any_not]; simp
  · simp only [cond_true]
    have w1 : IntKind.wrap .i64 ((b.length : Int) + (d.length : Int)) = (b.length : Int) + (d.length : Int) := w64 (by omega) (by omega)
    have w2 : IntKind.wrap .i64 ((b.length : Int) + (d.length : Int) + (e.length : Int)) = (b.length : Int) + (d.length : Int) + (e.length : Int) := w64 (by omega) (by omega)
    simp only [w1, w2, leafB]
    have e0 : eqi ((b.length : Int) + (d.length : Int) + (e.length : Int)) 0 = (b.isEmpty && (d.isEmpty && e.isEmpty)) := by
      rw [← isE, ← isE, ← isE, Bool.eq_iff_iff]
      simp only [Bool.and_eq_true, eqi_iff]
      omega
    rw [e0]
    cases (b.isEmpty && (d.isEmpty && e.isEmpty))
    · rfl
    · simp only [cond_true, Bool.true_and]
      rw [tup_eq (by omega)]
      simp only
      cases upB a
      · rfl
      · simp only [cond_true, Bool.true_and]
        rw [pairs_eq s (by omega), any_not]
        simp
theorem rleaf_l0 (s : Sp) (b2 : List B) (b3 : List Int) (b4 : List V_api_Sum) (b5 : List Mg) {t : List Pr} (h : t.length < 50000) :
    ref10_leaf_l0 NN NN 0 t b2 b3 b4 b5 s.1 s.2 = some (bif t.all (pairB s) then .inr ((), ()) else .inl (false, ())) := by
  refine look0 (xs := t) (L := fun n i => ref10_leaf_l0 NN n i t b2 b3 b4 b5 s.1 s.2) (pairB s) _ _ (fun n => by
      simp only [ref10_leaf_l0_succ, ref10_leaf_l0_step]; rw [bif_f (by simp)])
      (fun n pre x post hx => ?_) (by simp only [NN]; omega)
  have hl2 : t.length = pre.length + (post.length + 1) := by rw [hx]; simp
  have r1 : rdL t (pre.length : Int) D_api_Pair = x := by rw [hx]; exact rd_mid
  simp only [ref10_leaf_l0_succ, ref10_leaf_l0_step]
  rw [bif_t (by simp; omega), gd_t (inB_t (by omega) (by omega)), r1, rHas_eq, at_len pre x (by simp; omega)]
  simp only [in_eq, pairB, storB, not_lt_dec, show ((s.1, s.2) : Sp) = s from rfl]
  cases hasB s x.1 <;> cases inR (x.1.length : Int) 1 65535 <;> cases decide ((x.2.1.length : Int) ≤ 64) <;> cases inR x.2.2 0 1000000000 <;> rfl
theorem rVal_eq {n : Nd} (h : SmallN n) (s : Sp) : ref10_Valid NN n s = some (valB n s) := by
  obtain ⟨a, b, c, d, e⟩ := n
  obtain ⟨h1, h2, h3, h4, h5⟩ := h
  simp only at h1 h2 h3 h4 h5
  unfold ref10_Valid valB
  simp only [isE, posE]
  cases hc : c.isEmpty
  · simp only [cond_false]
    cases ha : a.isEmpty
    · rfl
    · simp only [Bool.not_true, cond_false, Bool.true_and]
      cases hd : eqi (d.length : Int) (c.length : Int)
      · rfl
      · simp only [Bool.not_true, cond_false, Bool.true_and]
        have hcl : c.length ≠ 0 := by cases c with
          | nil => simp at hc
          | cons _ _ => simp
        rw [w64 (by omega) (by omega)]
        cases hb : eqi (b.length : Int) ((c.length : Int) - 1)
        · rfl
        · simp only [Bool.not_true, cond_false, Bool.true_and]
          have hd' : d.length = c.length := by have := eqi_iff.1 hd; omega
          rw [rpiv_eq (by omega)]
          simp only [innB]
          cases pivB s.1 s.2 b
          · rfl
          · simp only [cond_true, cond_false, Bool.not_true, Bool.true_and]
            unfold ref10_Valid_p0
            rw [(kids_l2 s a b c d e hd' h3).2]
            cases (c.zip d).all kidB
            · rfl
            · simp only [cond_true, Bool.true_and]
              rw [rmsgs_l2 s a b c d h5]
              cases e.all (msgB s) <;> rfl
  · simp only [cond_true]
    unfold ref10_leaf
    simp only [posE, leafB]
    cases b.isEmpty
    · rfl
    · cases d.isEmpty
      · rfl
      · cases e.isEmpty
        · rfl
        · simp only [Bool.not_true, cond_false, Bool.and_self, Bool.true_and]
          rw [rup_eq (by omega)]
          simp only
          cases upB a
          · rfl
          · simp only [Bool.not_true, cond_false, Bool.true_and]
            rw [rleaf_l0 s b c d e h1]
            cases a.all (pairB s) <;> rfl
end Ds
