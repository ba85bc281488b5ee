/- Names, paths, keys and places, as far as entries need them. -/
import Derived.Test.YtpgikdaeicidaaaGreatDoorDsMsgs
import Derived.Test.YtpgikdaeicidaaaGreatDoorDvD
import Derived.Test.YtpgikdaeicidaaaGreatDoorDvE
import Derived.KernelRfl
import Derived.Laws.BitsLemmas
set_option linter.all false
namespace Ds.Pa
open Go Go.Dv Ds
set_option maxRecDepth 100000
set_option linter.unusedVariables false
def okc (b : UInt8) : Bool := decide (33 ≤ b.toNat) && (decide (b.toNat ≤ 126) && !(b == 47))
theorem xeq (r : Nat) (h : r < 128) : (G2 NN (r : Int)).getD false = !(decide (33 ≤ r) && (decide (r ≤ 126) && !(r == 47))) := by
  have : ((List.range 128).all fun r => (G2 NN (r : Int)).getD false == !(decide (33 ≤ r) && (decide (r ≤ 126) && !(r == 47)))) = true := by decide +kernel
  simpa using List.all_eq_true.1 this r (List.mem_range.2 h)
theorem xdo (r : Nat) (h : 128 ≤ r) : (G2 NN (r : Int)).getD false = true := by
  have e1 : decide ((r : Int) < 33) = false := by simp; omega
  have e2 : decide ((126 : Int) < (r : Int)) = true := by simp; omega
  simp only [G2, e1, e2, cond_true, cond_false, Option.getD_some]
theorem x7p (s : ByteArray) (i : Nat) (h : (s.get! i).toNat < 128) : Utf8.decode s i = ((s.get! i).toNat, 1) := by
  have h0 : (s.get! (i + 0)).toNat < 128 := h
  simp only [Utf8.decode]
  rw [if_pos h0]; rfl
theorem xan (s : ByteArray) (i : Nat) (h : 128 ≤ (s.get! i).toNat) : 128 ≤ (Utf8.decode s i).1 := by
  have h0 : ¬ (s.get! (i + 0)).toNat < 128 := by show ¬ (s.get! i).toNat < 128; omega
  have e : 128 ≤ Utf8.runeError := by decide
  simp only [Utf8.decode]
  rw [if_neg h0]
  split
  · split
    · assumption
    · exact e
  · split
    · split
      · rename_i h; simp only [Bool.and_eq_true, decide_eq_true_eq] at h; show 128 ≤ _; omega
      · exact e
    · split
      · split
        · rename_i h; simp only [Bool.and_eq_true, decide_eq_true_eq] at h; show 128 ≤ _; omega
        · exact e
      · exact e
theorem yxa (s : B) (i : Nat) (h : i < s.length) : (sB s).get! i = s[i] := by
  unfold ByteArray.get! sB
  simp [getElem!_pos, h]
theorem x1a (s : B) : (sB s).size = s.length := by simp [sB, ByteArray.size]
theorem x7v (b : UInt8) : (b.toNat < 128 → (G2 NN (b.toNat : Int)).getD false = !(okc b)) := fun h => by
  rw [xeq _ h]
  have : (b.toNat == 47) = (b == 47) := by
    rw [Bool.eq_iff_iff]; simp [← UInt8.toNat_inj]
  rw [this]; rfl
theorem xbt (s : B) : ∀ (f pos : Nat), s.length ≤ pos + f → (s.drop pos).all okc = true → Lib.idxFuncFrom (fun r => (G2 NN (r : Int)).getD false) true (sB s) f pos = -1
  | 0, pos, _, _ => rfl
  | f + 1, pos, hf, ha => by
    unfold Lib.idxFuncFrom
    rw [x1a]
    by_cases hp : pos < s.length
    · have hd : s.drop pos = s[pos] :: s.drop (pos + 1) := List.drop_eq_getElem_cons hp
      rw [hd, List.all_cons, Bool.and_eq_true] at ha
      have hb : (s[pos]).toNat < 128 := by
        have := ha.1
        simp only [okc, Bool.and_eq_true, decide_eq_true_eq] at this
        omega
      rw [if_pos hp, x7p (sB s) pos (by rw [yxa s pos hp]; exact hb), yxa s pos hp]
      have := x7v s[pos] hb
      simp only [this, ha.1, Bool.not_true]
      rw [if_neg (by decide)]
      exact xbt s f (pos + 1) (by omega) ha.2
    · rw [if_neg hp]
theorem x7f (s : B) : ∀ (f pos : Nat), s.length ≤ pos + f → (s.drop pos).all okc = false → 0 ≤ Lib.idxFuncFrom (fun r => (G2 NN (r : Int)).getD false) true (sB s) f pos
  | 0, pos, hf, ha => by
    rw [List.drop_eq_nil_of_le (by omega)] at ha
    cases ha
  | f + 1, pos, hf, ha => by
    unfold Lib.idxFuncFrom
    rw [x1a]
    by_cases hp : pos < s.length
    · have hd : s.drop pos = s[pos] :: s.drop (pos + 1) := List.drop_eq_getElem_cons hp
      rw [hd, List.all_cons] at ha
      rw [if_pos hp]
      by_cases hb : (s[pos]).toNat < 128
      · rw [x7p (sB s) pos (by rw [yxa s pos hp]; exact hb), yxa s pos hp]
        have := x7v s[pos] hb
        simp only [this]
        cases ho : okc s[pos]
        · rw [if_pos (by rfl)]; omega
        · rw [if_neg (by decide)]
          rw [ho] at ha
          exact x7f s f (pos + 1) (by omega) (by simpa using ha)
      · have := xan (sB s) pos (by rw [yxa s pos hp]; omega)
        rw [xdo _ this, if_pos rfl]; omega
    · rw [List.drop_eq_nil_of_le (by omega)] at ha
      cases ha
theorem x8n (s : B) : decide (idxF (G2 NN) true s < 0) = s.all okc := by
  unfold idxF Lib.idxFunc
  have hl : s.length ≤ 0 + (sB s).size := by rw [x1a]; omega
  cases h : s.all okc
  · have := x7f s (sB s).size 0 hl h
    simp; omega
  · have := xbt s (sB s).size 0 hl h
    rw [this]; rfl
def nameB (s : B) : Bool := bif eqs s [] then false else bif decide ((12 : Int) < (s.length : Int)) then false else bif eqs s [46] then false else bif eqs s [46, 46] then false else s.all okc
theorem yz1 (s : B) : zi9 NN s = some (nameB s) := by
  simp only [zi9, z11, z0z, x8n, nameB]
  cases eqs s []
  · simp only [cond_false]
    cases decide ((12 : Int) < (s.length : Int))
    · simp only [cond_false]
      cases eqs s [46]
      · simp only [cond_false]
        cases eqs s [46, 46] <;> rfl
      · rfl
    · rfl
  · rfl
theorem yvh {s : B} (h : nameB s = true) : s.all okc = true := by
  unfold nameB at h
  cases e1 : eqs s [] <;> rw [e1] at h
  · cases e2 : decide ((12 : Int) < (s.length : Int)) <;> rw [e2] at h
    · cases e3 : eqs s [46] <;> rw [e3] at h
      · cases e4 : eqs s [46, 46] <;> rw [e4] at h
        · exact h
        · cases h
      · cases h
    · cases h
  · cases h
theorem x7g : ∀ {s : B} {c : UInt8}, c ∉ s → Lib.indexByte s c = -1
  | [], _, _ => rfl
  | b :: l, c, h => by
    have h1 : (b == c) = false := by
      cases e : b == c
      · rfl
      · exact absurd (by simp [eq_of_beq e]) h
    have := x7g (s := l) (c := c) fun hm => h (by simp [hm])
    simp only [Lib.indexByte, h1, this, Bool.false_eq_true, if_false]
    rfl
theorem xbu : ∀ {a t : B} {c : UInt8}, c ∉ a → Lib.indexByte (a ++ c :: t) c = a.length
  | [], t, c, _ => by simp [Lib.indexByte]
  | b :: a, t, c, h => by
    have h1 : (b == c) = false := by
      cases e : b == c
      · rfl
      · exact absurd (by simp [eq_of_beq e]) h
    have := xbu (a := a) (t := t) (c := c) fun hm => h (by simp [hm])
    have hne : ((a.length : Int) == -1) = false := by
      cases e : ((a.length : Int) == -1)
      · rfl
      · have := eq_of_beq e; omega
    simp only [List.cons_append, Lib.indexByte, h1, this, Bool.false_eq_true, if_false, hne, List.length_cons]
    omega
theorem x4n (s : B) : z9q NN s [47] = some (Lib.indexByte s 47) := by
  simp only [z9q]
  have e0 : eqi (([47] : B).length : Int) 0 = false := rfl
  have e1 : eqi (([47] : B).length : Int) 1 = true := rfl
  rw [e0, e1]
  cases h : eqs [47] s
  · simp only [cond_false, cond_true]
    rw [gd_t (b := inB 0 ([47] : B).length) rfl]
    rfl
  · rw [← z1d.1 h]; rfl
theorem xaq {s : B} (h : 47 ∉ s) (hs : s.length < 4150000000) : ze4 NN s [47] = some (s, [], false) := by
  simp only [ze4, zcs, x4n, x7g h]
  rfl
theorem xdi {a t : B} (h : 47 ∉ a) (hs : (a ++ 47 :: t).length < 9223372036854775807) : ze4 NN (a ++ 47 :: t) [47] = some (a, t, true) := by
  simp only [List.length_append, List.length_cons] at hs
  have w : IntKind.wrap .i64 ((a.length : Int) + (([47] : B).length : Int)) = (a.length : Int) + 1 := by
    rw [w64 (by simp; omega) (by simp; omega)]; rfl
  have d : decide ((0 : Int) ≤ (a.length : Int)) = true := by simp
  have c1 : cut2 (a ++ 47 :: t) (0 : Int) (a.length : Int) = a := by simp [cut2]
  have c2 : cut2 (a ++ 47 :: t) ((a.length : Int) + 1) ((a ++ 47 :: t).length : Int) = t := by
    unfold cut2
    have e : ((a.length : Int) + 1).toNat = a.length + 1 := by omega
    rw [e, show (a ++ 47 :: t).drop (a.length + 1) = t by simp [List.drop_append]]
    exact List.take_of_length_le (by simp; omega)
  simp only [ze4, zcs, x4n, xbu h, d, cond_true, w, c1, c2]
  rw [gd_t (by simp; omega), gd_t (by simp; omega)]
def spl : B → List B × B
  | [] => ([], [])
  | b :: l => bif b == 47 then ([] :: (spl l).1, (spl l).2) else match (spl l).1 with | [] => ([], b :: (spl l).2) | n :: ns => ((b :: n) :: ns, (spl l).2)
def validB (s : B) : Bool := (spl s).1.all nameB && (spl s).2.isEmpty
theorem x3u : ∀ {s : B}, 47 ∉ s → spl s = ([], s)
  | [], _ => rfl
  | b :: l, h => by
    have h1 : (b == 47) = false := by
      cases e : b == 47
      · rfl
      · exact absurd (by simp [eq_of_beq e]) h
    simp only [spl, h1, cond_false, x3u (s := l) fun hm => h (by simp [hm])]
theorem yu7 : ∀ {a t : B}, 47 ∉ a → spl (a ++ 47 :: t) = (a :: (spl t).1, (spl t).2)
  | [], t, _ => by simp [spl]
  | b :: a, t, h => by
    have h1 : (b == 47) = false := by
      cases e : b == 47
      · rfl
      · exact absurd (by simp [eq_of_beq e]) h
    simp only [List.cons_append, spl, h1, cond_false, yu7 (a := a) (t := t) fun hm => h (by simp [hm])]
theorem sl_cases (s : B) : 47 ∉ s ∨ ∃ a t, 47 ∉ a ∧ s = a ++ 47 :: t := by
  induction s with
  | nil => exact .inl (by simp)
  | cons b l ih =>
    by_cases hb : b = 47
    · exact .inr ⟨[], l, by simp, by rw [hb]; rfl⟩
    · rcases ih with h | ⟨a, t, h1, h2⟩
      · exact .inl (by simp; exact ⟨fun e => hb e.symm, h⟩)
      · exact .inr ⟨b :: a, t, by simp; exact ⟨fun e => hb e.symm, h1⟩, by rw [h2]; rfl⟩
theorem x3m : ∀ (n : Nat) (s : B), s.length < n → s.length < 4150000000 → zcd NN n s = some (bif validB s then .inr ((), ()) else .inl (false, ()))
  | 0, _, h, _ => absurd h (Nat.not_lt_zero _)
  | n + 1, s, h, hs => by
    rw [y9m]
    simp only [zdb]
    cases e : eqs s []
    · simp only [Bool.not_false, cond_true]
      have hne : s ≠ [] := fun e' => by rw [e', z4l] at e; cases e
      rcases sl_cases s with h0 | ⟨a, t, h1, h2⟩
      · simp only [xaq h0 hs, Bool.not_false, cond_true]
        have : validB s = false := by
          unfold validB
          rw [x3u h0]
          cases s with
          | nil => exact absurd rfl hne
          | cons b l => rfl
        rw [this]; rfl
      · rw [h2] at h hs ⊢
        rw [xdi h1 (by omega)]
        simp only [Bool.not_true, cond_false, yz1]
        simp only [List.length_append, List.length_cons] at h hs
        unfold validB
        rw [yu7 h1, List.all_cons]
        cases en : nameB a
        · rfl
        · simp only [Bool.not_true, cond_false, Bool.true_and]
          exact x3m n t (by omega) (by omega)
    · rw [z1d.1 e]; rfl
theorem yif {s : B} (hs : s.length < 4100000000) : zna NN s = some (validB s) := by
  simp only [zna, x3m NN s (by simp only [NN]; omega) (by omega)]
  cases validB s <;> rfl
def y74 (l : List B) : B := (l.map fun n => n ++ [47]).flatten
theorem zni (n : B) (l : List B) : y74 (n :: l) = n ++ 47 :: y74 l := by simp [y74]
theorem xby (s p : B) (hs : s.length < 9223372036854775807) : w8 NN s p = some (p.isPrefixOf s) := by
  simp only [w8]
  cases e : decide ((p.length : Int) ≤ (s.length : Int))
  · have e := of_decide_eq_false e
    have : p.isPrefixOf s = false := by
      cases h : p.isPrefixOf s
      · rfl
      · have := (List.isPrefixOf_iff_prefix.1 h).length_le; omega
    rw [this]; rfl
  · have e := of_decide_eq_true e
    have c : cut2 s (0 : Int) (p.length : Int) = s.take p.length := by simp [cut2]
    simp only [cond_true, c]
    rw [gd_t (by simp)]
    congr 1
    rw [Bool.eq_iff_iff, z1d, List.isPrefixOf_iff_prefix]
    exact ⟨fun h => List.prefix_iff_eq_take.2 h.symm, fun h => (List.prefix_iff_eq_take.1 h).symm⟩
def digs : B := [48, 49, 50, 51, 52, 53, 54, 55, 56, 57, 97, 98, 99, 100, 101, 102]
def dg (x : Int) : UInt8 := digs.getD x.toNat 0
def hexN : Nat → Int → B
  | 0, _ => []
  | k + 1, n => dg (n / 16 ^ k % 16) :: hexN k n
theorem yvq (n : Int) : ∀ k, (hexN k n).length = k
  | 0 => rfl
  | k + 1 => by simp [hexN, yvq n k]
def ze2 (n : Int) : B := 5 :: hexN 8 n ++ [47]
theorem xdg (n : Int) (i c : Nat) : (n % 16 ^ (i + (c + 1))) / 16 ^ i % 16 = n / 16 ^ i % 16 := by
  have p : (0 : Int) < 16 ^ i := Int.pow_pos (by omega)
  have e : (16 : Int) ^ (i + (c + 1)) = 16 ^ i * (16 * 16 ^ c) := by rw [Int.pow_add, Int.pow_succ, Int.mul_comm (16 ^ c) 16]
  have h := Int.emod_add_mul_ediv n (16 ^ (i + (c + 1)))
  rw [e] at h ⊢
  generalize hr : n % (16 ^ i * (16 * 16 ^ c)) = r at *
  generalize n / (16 ^ i * (16 * 16 ^ c)) = q at *
  have h2 : n = r + 16 ^ i * (16 * (16 ^ c * q)) := by rw [← h, Int.mul_assoc, Int.mul_assoc]
  rw [h2, Int.add_mul_ediv_left _ _ (by omega), Int.add_mul_emod_self_left]
theorem x4p (n : Int) : ∀ (k c : Nat), hexN k (n % 16 ^ (k + c)) = hexN k n
  | 0, _ => rfl
  | k + 1, c => by
    have e : k + 1 + c = k + (c + 1) := by omega
    simp only [hexN]
    rw [e, xdg n k c, x4p n k (c + 1)]
theorem yib (n : Int) : (ze2 n).length = 10 := by simp [ze2, yvq]
theorem xf4 (x : Int) : dg x ≠ 47 := by
  unfold dg
  by_cases h : x.toNat < digs.length
  · rw [List.getD_eq_getElem?_getD, List.getElem?_eq_getElem h]
    have : (digs.all fun b => b != 47) = true := by decide
    have := List.all_eq_true.1 this _ (List.getElem_mem h)
    simpa using this
  · rw [List.getD_eq_getElem?_getD, List.getElem?_eq_none (by omega)]
    decide
theorem x7i (n : Int) : ∀ k, 47 ∉ hexN k n
  | 0 => by simp [hexN]
  | k + 1 => by
    simp only [hexN, List.mem_cons, not_or]
    exact ⟨fun h => xf4 _ h.symm, x7i n k⟩
theorem x6g (n : Int) : validB (ze2 n) = false := by
  have h : 47 ∉ (5 :: hexN 8 n : B) := by
    simp only [List.mem_cons, not_or]
    exact ⟨by decide, x7i n 8⟩
  have hn : nameB (5 :: hexN 8 n) = false := by
    cases hh : nameB (5 :: hexN 8 n)
    · rfl
    · have := List.all_eq_true.1 (yvh hh) 5 (by simp)
      exact absurd this (by decide)
  have := yu7 (a := 5 :: hexN 8 n) (t := []) h
  unfold validB ze2
  rw [this, List.all_cons, hn]; rfl
def blk (n : Int) : B := z39 [2, IntKind.wrap .u8 (Int.fdiv n (2 ^ min (Int.toNat (8 : Int)) (IntKind.bits .i64))), IntKind.wrap .u8 n]
theorem xdq (n : Int) : (blk n).length = 3 := rfl
def keyR (p : B) (t n : Int) (m : B) : Option B :=
  bif eqi t 1 then bif eqi n 0 && eqs m [] then some (p ++ [1]) else none else
  bif eqi t 2 then bif eqs m [] && (decide (0 ≤ n) && decide (n ≤ 60000)) then some (p ++ blk n) else none else
  bif eqi t 3 then bif eqi n 0 && nameB m then some (p ++ [3] ++ m) else none else
  bif eqi t 4 then bif eqi n 0 && eqs m [] then some ([6] ++ p ++ [1]) else none else none
def sumR (x : Option B) : ((B × Int) × Unit) ⊕ (Unit × Unit) := match x with | some k => .inl ((k, 0), ()) | none => .inr ((), ())
theorem xel {t : Int} (h : eqi t 1 = true) : eqi t 2 = false ∧ eqi t 3 = false ∧ eqi t 4 = false := by
  rw [w7.1 h]; exact ⟨rfl, rfl, rfl⟩
theorem yzj (p m : B) (t n : Int) : z4b NN false p t n m p t 0 [] = some (.inr ((), ())) := rfl
theorem x6v (p m : B) (t n : Int) (hp : p.length < 4100000000) (hm : m.length < 4000000000000) : z4b NN true p t n m p t 0 [] = some (sumR (keyR p t n m)) := by
  have g1 : ∀ {R : Type} (K : Option R), gd (decide (p.length + ([1] : B).length < maxS)) K = K := fun K => gd_p (by simp only [maxS, List.length_singleton]; omega) K
  have g3 : ∀ {R : Type} (K : Option R), gd (decide (p.length + ([3] : B).length < maxS)) K = K := fun K => gd_p (by simp only [maxS, List.length_singleton]; omega) K
  have g3' : ∀ {R : Type} (K : Option R), gd (decide ((p ++ ([3] : B)).length + m.length < maxS)) K = K := fun K => gd_p (by simp only [maxS, List.length_append, List.length_singleton]; omega) K
  have g6 : ∀ {R : Type} (K : Option R), gd (decide (([6] : B).length + p.length < maxS)) K = K := fun K => gd_p (by simp only [maxS, List.length_singleton]; omega) K
  have g6' : ∀ {R : Type} (K : Option R), gd (decide ((([6] : B) ++ p).length + ([1] : B).length < maxS)) K = K := fun K => gd_p (by simp only [maxS, List.length_append, List.length_singleton]; omega) K
  have g8 : ∀ {R : Type} (K : Option R), gd (decide (0 ≤ (8 : Int))) K = K := fun K => gd_p (by decide) K
  have gb : ∀ {R : Type} (K : Option R), gd (decide (p.length + (z39 [(2 : Int), IntKind.wrap .u8 (Int.fdiv n (2 ^ min (Int.toNat (8 : Int)) (IntKind.bits .i64))), IntKind.wrap .u8 n]).length < maxS)) K = K := fun K => gd_p (by simp only [maxS, z39, List.length_map, List.length_cons, List.length_nil]; omega) K
  unfold keyR
  cases e1 : eqi t 1
  case true =>
    obtain ⟨e2, e3, e4⟩ := xel e1
    simp only [z4b, z0u, z63, cond_true, cond_false, e1, e2, e3, e4, z4l, zje, Bool.true_and, Bool.and_true, g1]
    cases eqi n 0 <;> cases eqs m [] <;> rfl
  case false =>
  cases e2 : eqi t 2
  case true =>
    have e3 : eqi t 3 = false := by rw [w7.1 e2]; rfl
    have e4 : eqi t 4 = false := by rw [w7.1 e2]; rfl
    simp only [z4b, z0u, z63, cond_true, cond_false, e1, e2, e3, e4, g8, gb]
    cases eqs m [] <;> cases decide (0 ≤ n) <;> cases decide (n ≤ 60000) <;> rfl
  case false =>
  cases e3 : eqi t 3
  case true =>
    have e4 : eqi t 4 = false := by rw [w7.1 e3]; rfl
    simp only [z4b, z0u, z63, cond_true, cond_false, e1, e2, e3, e4, yz1, g3, g3']
    cases eqi n 0 <;> cases nameB m <;> rfl
  case false =>
  cases e4 : eqi t 4
  case true =>
    simp only [z4b, z0u, z63, cond_true, cond_false, e1, e2, e3, e4, z4l, zje, Bool.true_and, Bool.and_true, g6, g6']
    cases eqi n 0 <;> cases eqs m [] <;> rfl
  case false =>
    simp only [z4b, z0u, z63, cond_true, cond_false, e1, e2, e3, e4]
    rfl
def resR (x : Option B) : B × Int := match x with | some k => (k, 0) | none => ([], 12)
theorem x98 {p m : B} {t n : Int} (hv : validB p = true) (hp : p.length < 4100000000) (hm : m.length < 4000000000000) : z9z NN (p, t, n, m) = some (resR (keyR p t n m)) := by
  simp only [z9z, yif hp, hv, cond_true, x6v p m t n hp hm]
  cases keyR p t n m <;> rfl
theorem blk_nat {k : Nat} (h : k ≤ 60000) : blk (k : Int) = [2, UInt8.ofNat (k / 256), UInt8.ofNat (k % 256)] := by
  have e : (2 : Int) ^ min (Int.toNat (8 : Int)) (IntKind.bits .i64) = 256 := by decide
  have f : Int.fdiv (k : Int) 256 = ((k / 256 : Nat) : Int) := by rw [Int.fdiv_eq_ediv_of_nonneg _ (by omega)]; omega
  have w1 : IntKind.wrap .u8 ((k / 256 : Nat) : Int) = ((k / 256 : Nat) : Int) := by rw [IntKind.wrap_u8]; omega
  have w2 : IntKind.wrap .u8 (k : Int) = ((k % 256 : Nat) : Int) := by rw [IntKind.wrap_u8]; omega
  unfold blk
  rw [e, f, w1, w2]
  rfl
def big (p : B) : Prop := ∀ b ∈ p, 33 ≤ b.toNat
theorem xae {l : List B} (h : ∀ n ∈ l, nameB n = true) : big (y74 l) := by
  induction l with
  | nil => intro b hb; simp [y74] at hb
  | cons n l ih =>
    intro b hb
    rw [zni] at hb
    rcases List.mem_append.1 hb with hb | hb
    · have := List.all_eq_true.1 (yvh (h n (by simp))) b hb
      simp only [okc, Bool.and_eq_true, decide_eq_true_eq] at this
      exact this.1
    · rcases List.mem_cons.1 hb with rfl | hb
      · decide
      · exact ih (fun m hm => h m (by simp [hm])) b hb
theorem xen (x : Int) (h0 : 0 ≤ x) (h1 : x < 16) : dg x ∈ digs := by
  unfold dg
  have hl : x.toNat < digs.length := by simp [digs]; omega
  rw [List.getD_eq_getElem?_getD, List.getElem?_eq_getElem hl]
  exact List.getElem_mem hl
theorem yvp (n : Int) : ∀ k, ∀ b ∈ hexN k n, b ∈ digs
  | 0, b, h => by simp [hexN] at h
  | k + 1, b, h => by
    simp only [hexN, List.mem_cons] at h
    rcases h with rfl | h
    · exact xen _ (Int.emod_nonneg _ (by omega)) (Int.emod_lt_of_pos _ (by omega))
    · exact yvp n k b h
theorem x9p {l cs : B} (h : ∀ b ∈ l, b ∈ cs) : Lib.trimS l cs = [] := by
  have d : ∀ l : B, (∀ b ∈ l, b ∈ cs) → l.dropWhile (cs.contains ·) = [] := by
    intro l hl
    induction l with
    | nil => rfl
    | cons b l ih =>
      have : cs.contains b = true := by simpa using hl b (by simp)
      simp only [List.dropWhile_cons, this, if_true]
      exact ih fun c hc => hl c (by simp [hc])
  unfold Lib.trimS Lib.trimLeftS Lib.trimRightS
  rw [d l.reverse fun b hb => h b (by simpa using hb)]
  rfl
theorem xf6 : ((List.range 8).all fun (a : Nat) => decide ((dg (a : Int)).toNat ≤ 55)) = true := by decide +kernel
theorem x2q {n : Int} (h0 : 0 ≤ n) (h1 : n ≤ 2147483647) : zb2 NN (ze2 n) = some true := by
  have p7 : (16 : Int) ^ 7 = 268435456 := by decide
  have q0 : 0 ≤ n / 16 ^ 7 := Int.ediv_nonneg h0 (by omega)
  have q1 : n / 16 ^ 7 % 16 < 8 := by rw [p7]; omega
  have q2 : 0 ≤ n / 16 ^ 7 % 16 := Int.emod_nonneg _ (by omega)
  have e : ze2 n = 5 :: dg (n / 16 ^ 7 % 16) :: (hexN 7 n ++ [47]) := rfl
  have l10 : ((ze2 n).length : Int) = 10 := by rw [yib]; rfl
  have b0 : bt (ze2 n) (0 : Int) = 5 := rfl
  have b1 : bt (ze2 n) (1 : Int) = ((dg (n / 16 ^ 7 % 16)).toNat : Int) := rfl
  have b9 : bt (ze2 n) (9 : Int) = 47 := rfl
  have d1 : decide ((55 : Int) < ((dg (n / 16 ^ 7 % 16)).toNat : Int)) = false := by
    have := List.all_eq_true.1 xf6 (n / 16 ^ 7 % 16).toNat (List.mem_range.2 (by omega))
    have e2 : ((n / 16 ^ 7 % 16).toNat : Int) = n / 16 ^ 7 % 16 := by omega
    rw [e2] at this
    have := of_decide_eq_true this
    exact decide_eq_false fun hh => by omega
  have c : cut2 (ze2 n) (1 : Int) (9 : Int) = hexN 8 n := rfl
  have g : ∀ {R : Type} (i : Int) (K : Option R), 0 ≤ i → i < 10 → gd (inB i (ze2 n).length) K = K := fun i K a b => gd_t (by rw [yib]; simp [inB]; omega) K
  have tf : x1r (hexN 8 n) [48, 49, 50, 51, 52, 53, 54, 55, 56, 57, 97, 98, 99, 100, 101, 102] = some [] := by
    unfold x1r
    rw [gd_t (by rw [yvq]; decide)]
    exact congrArg some (x9p (cs := digs) (yvp n 8))
  have z5 : eqi (5 : Int) 5 = true := rfl
  have z47 : eqi (47 : Int) 47 = true := rfl
  have z10 : eqi (10 : Int) 10 = true := rfl
  simp only [zb2, l10, z10, Bool.not_true, cond_false, zf7, c, zkh, tf, z4l]
  rw [g 0 _ (by omega) (by omega), b0, z5]
  simp only [Bool.not_true, cond_false]
  rw [g 1 _ (by omega) (by omega), b1, d1]
  simp only [cond_false]
  rw [g 9 _ (by omega) (by omega), b9, z47]
  simp only [Bool.not_true, cond_false]
  rw [gd_t (by simp)]
theorem xb8 {n t N : Int} {m : B} (h0 : 0 ≤ n) (h1 : n ≤ 2147483647) (ht : eqi t 4 = false) (hm : m.length < 4000000000000) : z9z NN (ze2 n, t, N, m) = some (resR (keyR (ze2 n) t N m)) := by
  have hl := yib n
  simp only [z9z, yif (s := ze2 n) (by omega), x6g, cond_false, x2q h0 h1, cond_true, ht, Bool.not_false, x6v (ze2 n) m t N (by omega) hm]
  cases keyR (ze2 n) t N m <;> rfl
def low (p : B) : Prop := ∀ b ∈ p, 4 ≤ b.toNat
theorem x8h {p r : B} {c : UInt8} (hp : low p) : Lib.NoAny (p ++ c :: r) [1, 2, 3] p.length := fun j b hj hb => by
  rw [List.getElem?_append_left hj] at hb
  have := hp b (List.mem_of_getElem? hb)
  cases h : ([1, 2, 3] : B).contains b
  · rfl
  · simp at h
    rcases h with rfl | rfl | rfl <;> exact absurd this (by decide)
theorem xdr {p r : B} {c : UInt8} (hp : low p) (hc : ([1, 2, 3] : B).contains c = true) : Lib.indexAny (p ++ c :: r) [1, 2, 3] = (p.length : Int) :=
  Lib.indexAny_hit (x8h hp) (by simp) hc
theorem yu3 {p r : B} {c : UInt8} (hp : low p) (hc : ([1, 2, 3] : B).contains c = true) (hl : (p ++ c :: r).length < 2000000000) :
    z0h NN (p ++ c :: r) [] 0 0 [] = some ((p, (c.toNat : Int)), ((r, ([], (0, (0, [])))), ())) := by
  have a : z4x NN (p ++ c :: r) [1, 2, 3] = some (p.length : Int) := by
    simp only [z4x, anyF]
    rw [gd_t (by
      have e : yqv ([1, 2, 3] : B) = true := by decide
      rw [e]
      simp only [Bool.true_and, Bool.and_eq_true, decide_eq_true_eq]
      exact ⟨⟨by decide, by omega⟩, by decide⟩), xdr hp hc]
  have d : decide ((p.length : Int) < 0) = false := by simp
  have w : IntKind.wrap .i64 ((p.length : Int) + (1 : Int)) = (p.length : Int) + 1 := by
    simp only [List.length_append, List.length_cons] at hl
    exact w64 (by omega) (by omega)
  have c1 : cut2 (p ++ c :: r) (0 : Int) (p.length : Int) = p := by simp [cut2]
  have c2 : cut2 (p ++ c :: r) ((p.length : Int) + 1) ((p ++ c :: r).length : Int) = r := by
    unfold cut2
    have e : ((p.length : Int) + 1).toNat = p.length + 1 := by omega
    rw [e, show (p ++ c :: r).drop (p.length + 1) = r by simp [List.drop_append]]
    exact List.take_of_length_le (by simp; omega)
  have b : bt (p ++ c :: r) (p.length : Int) = (c.toNat : Int) := by simp [bt]
  simp only [z0h, a, d, cond_false, w, c1, c2, b]
  rw [gd_t (by simp; omega), gd_t (by simp [inB]; omega), gd_t (by simp; omega)]
theorem zw0 {s : B} (h : ([6] : B).isPrefixOf s = false) (hs : s.length < 4150000000) : G4 NN s [6] = some (s, false) := by
  simp only [G4, z2n, xby _ _ (show s.length < 9223372036854775807 by omega), h, Bool.not_false, cond_true]
theorem x7r (t : B) (h : t.length < 4150000000) : G4 NN (6 :: t) [6] = some (t, true) := by
  have hp : ([6] : B).isPrefixOf (6 :: t) = true := by simp [List.isPrefixOf]
  have c : cut2 (6 :: t) (([6] : B).length : Int) ((6 :: t).length : Int) = t := by
    unfold cut2
    have d : (6 :: t).drop (Int.toNat (([6] : B).length : Int)) = t := rfl
    rw [d]; exact List.take_of_length_le (by simp)
  simp only [G4, z2n, xby (6 :: t) _ (by simp; omega), hp, Bool.not_true, cond_false, c]
  rw [gd_t (by simp; omega)]
theorem x5g {p : B} (hp : low p) (h6 : ([6] : B).isPrefixOf (p ++ [1]) = false) (hl : p.length < 700000000) : U3 NN (p ++ [1]) [] 0 0 [] = some ((), (([], (p, (1, (0, [])))), ())) := by
  have u := yu3 (p := p) (r := []) (c := 1) hp (by decide) (by simp; omega)
  have w : IntKind.wrap .i64 (((1 : UInt8).toNat : Nat) : Int) = 1 := by decide
  have e1 : (((1 : UInt8).toNat : Nat) : Int) = 1 := rfl
  simp only [U3, zw0 h6 (by simp; omega), u, cond_false, w, e1, J2]
  rfl
theorem x89 {p : B} (hp : low p) (hl : p.length < 700000000) : U3 NN ([6] ++ p ++ [1]) [] 0 0 [] = some ((), (([], (p, (4, (0, [])))), ())) := by
  have u := yu3 (p := p) (r := []) (c := 1) hp (by decide) (by simp; omega)
  have w : IntKind.wrap .i64 (((1 : UInt8).toNat : Nat) : Int) = 1 := by decide
  have e1 : (((1 : UInt8).toNat : Nat) : Int) = 1 := rfl
  have e : [6] ++ p ++ [1] = (6 : UInt8) :: (p ++ [1]) := rfl
  rw [e]
  simp only [U3, x7r (p ++ [1]) (by simp; omega), u, cond_true, w, e1, J2]
  rfl
theorem x8a {p m : B} (hp : low p) (h6 : ([6] : B).isPrefixOf (p ++ 3 :: m) = false) (hl : p.length < 700000000) (hm : m.length < 700000000) : U3 NN (p ++ 3 :: m) [] 0 0 [] = some ((), ((m, (p, (3, (0, m)))), ())) := by
  have u := yu3 (p := p) (r := m) (c := 3) hp (by decide) (by simp; omega)
  have w : IntKind.wrap .i64 (((3 : UInt8).toNat : Nat) : Int) = 3 := by decide
  have e1 : (((3 : UInt8).toNat : Nat) : Int) = 3 := rfl
  have z2 : eqi (3 : Int) 2 = false := rfl
  have z3 : eqi (3 : Int) 3 = true := rfl
  have w3 : IntKind.wrap .i64 (3 : Int) = 3 := by decide
  simp only [U3, zw0 h6 (by simp; omega), u, cond_false, e1, w3, J2, z2, z3, cond_true]
theorem xcw {n x : Int} (h0 : 0 ≤ n) (h1 : n < 1099511627776) (hx0 : 0 ≤ x) (hx : x < 256) :
    IntKind.wrap .i64 (((BitVec.ofInt (IntKind.bits .i64) (IntKind.wrap .i64 (n * 2 ^ min (Int.toNat (8 : Int)) (IntKind.bits .i64))) ||| BitVec.ofInt (IntKind.bits .i64) (IntKind.wrap .i64 x)).toNat : Nat) : Int) = n * 256 + x := by
  have e0 : (2 : Int) ^ min (Int.toNat (8 : Int)) (IntKind.bits .i64) = 256 := by decide
  have e1 : IntKind.wrap .i64 (n * 256) = n * 256 := w64 (by omega) (by omega)
  have e2 : IntKind.wrap .i64 x = x := w64 (by omega) (by omega)
  have b : IntKind.bits .i64 = 64 := rfl
  rw [e0, e1, e2, b, BitVec.toNat_or]
  obtain ⟨a, rfl⟩ := Int.eq_ofNat_of_zero_le h0
  obtain ⟨c, rfl⟩ := Int.eq_ofNat_of_zero_le hx0
  have t1 : (BitVec.ofInt 64 ((a : Int) * 256)).toNat = a * 256 := by
    rw [BitVec.toNat_ofInt]; omega
  have t2 : (BitVec.ofInt 64 (c : Int)).toNat = c := by
    rw [BitVec.toNat_ofInt]; omega
  have hor : a * 256 ||| c = a * 256 + c := by
    have := Nat.two_pow_add_eq_or_of_lt (i := 8) (b := c) (by omega) a
    rw [show (2 : Nat) ^ 8 = 256 from rfl] at this
    rw [Nat.mul_comm a 256, ← this]
  rw [t1, t2, hor, w64 (by omega) (by omega)]
  omega
theorem x5h {p : B} {k : Nat} (hk : k ≤ 60000) (hp : low p) (h6 : ([6] : B).isPrefixOf (p ++ blk (k : Int)) = false) (hl : p.length < 700000000) : ∃ r, U3 NN (p ++ blk (k : Int)) [] 0 0 [] = some ((), ((r, (p, (2, ((k : Int), [])))), ())) := by
  rw [blk_nat hk] at h6 ⊢
  have u := yu3 (p := p) (r := [UInt8.ofNat (k / 256), UInt8.ofNat (k % 256)]) (c := 2) hp (by decide) (by simp; omega)
  have e1 : (((2 : UInt8).toNat : Nat) : Int) = 2 := rfl
  have w2 : IntKind.wrap .i64 (2 : Int) = 2 := by decide
  have z2 : eqi (2 : Int) 2 = true := rfl
  have ea : (UInt8.ofNat (k / 256)).toNat = k / 256 := by simp; omega
  have eb : (UInt8.ofNat (k % 256)).toNat = k % 256 := by simp
  have b0 : bt [UInt8.ofNat (k / 256), UInt8.ofNat (k % 256)] (0 : Int) = ((k / 256 : Nat) : Int) := by
    show ((UInt8.ofNat (k / 256)).toNat : Int) = _
    rw [ea]
  have b1 : bt [UInt8.ofNat (k / 256), UInt8.ofNat (k % 256)] (1 : Int) = ((k % 256 : Nat) : Int) := by
    show ((UInt8.ofNat (k % 256)).toNat : Int) = _
    rw [eb]
  have wa : IntKind.wrap .i64 ((k / 256 : Nat) : Int) = ((k / 256 : Nat) : Int) := w64 (by omega) (by omega)
  have o := xcw (n := ((k / 256 : Nat) : Int)) (x := ((k % 256 : Nat) : Int)) (by omega) (by omega) (by omega) (by omega)
  have ek : ((k / 256 : Nat) : Int) * 256 + ((k % 256 : Nat) : Int) = (k : Int) := by omega
  rw [ek] at o
  have l2 : eqi (([UInt8.ofNat (k / 256), UInt8.ofNat (k % 256)] : B).length : Int) 2 = true := rfl
  refine ⟨[UInt8.ofNat (k / 256), UInt8.ofNat (k % 256)], ?_⟩
  simp only [U3, zw0 h6 (by simp; omega), u, cond_false, e1, w2, J2, z2, cond_true, l2, b0, b1, wa, o]
  rw [gd_t (b := inB 0 ([UInt8.ofNat (k / 256), UInt8.ofNat (k % 256)] : B).length) rfl, gd_t (b := decide (0 ≤ (8 : Int))) rfl, gd_t (b := inB 1 ([UInt8.ofNat (k / 256), UInt8.ofNat (k % 256)] : B).length) rfl]
theorem yig {k : B} {x : ze7} {r : B} (hr : U3 NN k [] 0 0 [] = some ((), ((r, x), ()))) (hk : z9z NN x = some (k, 0)) : z2c NN k = some (x, 0) := by
  have z : eqi (0 : Int) 0 = true := rfl
  simp only [z2c, hr, hk, z, Bool.not_true, cond_false, z4l]
theorem no6 {p r : B} {c : UInt8} (h : p = [] ∨ ∃ a s, p = a :: s ∧ a ≠ 6) (hc : c ≠ 6) : ([6] : B).isPrefixOf (p ++ c :: r) = false := by
  rcases h with rfl | ⟨a, s, rfl, ha⟩
  · simp [List.isPrefixOf]; exact fun e => hc e.symm
  · simp [List.isPrefixOf]; exact fun e => ha e.symm
structure RightP (p : B) (b4 : Bool) : Prop where
  low : low p
  h6 : p = [] ∨ ∃ a s, p = a :: s ∧ a ≠ 6
  len : p.length < 1000
  key : ∀ t n m, (b4 = true ∨ eqi t 4 = false) → m.length < 1000 → z9z NN (p, t, n, m) = some (resR (keyR p t n m))
theorem x5f {n : Int} (h0 : 0 ≤ n) (h1 : n ≤ 2147483647) : RightP (ze2 n) false := by
  have hd : (digs.all fun b => decide (4 ≤ b.toNat)) = true := by decide
  refine ⟨fun b hb => ?_, .inr ⟨5, _, rfl, by decide⟩, by rw [yib]; omega, fun t n' m h hm => xb8 h0 h1 (h.resolve_left (by decide)) (by omega)⟩
  unfold ze2 at hb
  rcases List.mem_append.1 hb with hb | hb
  · rcases List.mem_cons.1 hb with rfl | hb
    · decide
    · simpa using List.all_eq_true.1 hd b (yvp n 8 b hb)
  · rw [List.mem_singleton.1 hb]; decide
theorem x6r (p : UInt8 → Bool) : ∀ l : B, (l.dropWhile p).all p = l.all p
  | [] => rfl
  | b :: l => by
    cases h : p b
    · simp [List.dropWhile_cons, h]
    · simp [List.dropWhile_cons, h, x6r p l]
theorem x6q (p : UInt8 → Bool) : ∀ l : B, eqs (l.dropWhile p) [] = l.all p
  | [] => rfl
  | b :: l => by
    cases h : p b
    · simp only [List.dropWhile_cons, h, Bool.false_eq_true, if_false, List.all_cons, Bool.false_and]; rfl
    · simp only [List.dropWhile_cons, h, if_true, List.all_cons, Bool.true_and, x6q p l]
theorem xch (l cs : B) : eqs (Lib.trimS l cs) [] = l.all (cs.contains ·) := by
  unfold Lib.trimS Lib.trimLeftS Lib.trimRightS
  first
    | (rw [x6q, List.all_reverse, x6r, List.all_reverse])
    | (rw [show ∀ x : B, eqs x.reverse [] = eqs x [] from fun x => by cases x with | nil => rfl | cons a t => (rw [z6c (by simp), z6c (by simp)])]; rw [x6q, List.all_reverse, x6r])
def z83 (p : B) : Bool := eqi (p.length : Int) 10 && (eqi (bt p 0) 5 && (!(decide ((55 : Int) < bt p 1)) && (eqi (bt p 9) 47 && (cut2 p 1 9).all (digs.contains ·))))
theorem x5u (p : B) : zb2 NN p = some (z83 p) := by
  cases h : eqi (p.length : Int) 10
  · simp only [zb2, z83, h, Bool.not_false, cond_true, Bool.false_and]
  · have hl : p.length = 10 := by have := w7.1 h; omega
    have g : ∀ {R : Type} (i : Int) (K : Option R), 0 ≤ i → i < 10 → gd (inB i p.length) K = K := fun i K a b => gd_t (by rw [hl]; simp [inB]; omega) K
    have tf : x1r (cut2 p (1 : Int) (9 : Int)) [48, 49, 50, 51, 52, 53, 54, 55, 56, 57, 97, 98, 99, 100, 101, 102] = some (Lib.trimS (cut2 p (1 : Int) (9 : Int)) digs) := by
      unfold x1r
      rw [gd_t]
      · rfl
      · have e : yqv ([48, 49, 50, 51, 52, 53, 54, 55, 56, 57, 97, 98, 99, 100, 101, 102] : B) = true := by decide
        have l : (cut2 p (1 : Int) (9 : Int)).length ≤ 10 := by
          unfold cut2; simp; omega
        rw [e]
        simp only [Bool.true_and, Bool.and_eq_true, decide_eq_true_eq]
        exact ⟨by omega, by decide⟩
    simp only [zb2, z83, h, Bool.not_true, cond_false, Bool.true_and, zf7, zkh, tf, xch]
    rw [g 0 _ (by omega) (by omega)]
    cases eqi (bt p 0) 5 <;> simp only [Bool.not_true, Bool.not_false, cond_true, cond_false, Bool.true_and, Bool.false_and]
    rw [g 1 _ (by omega) (by omega)]
    cases decide ((55 : Int) < bt p 1) <;> simp only [Bool.not_true, Bool.not_false, cond_true, cond_false, Bool.true_and, Bool.false_and]
    rw [g 9 _ (by omega) (by omega)]
    cases eqi (bt p 9) 47 <;> simp only [Bool.not_true, Bool.not_false, cond_true, cond_false, Bool.true_and, Bool.false_and]
    rw [gd_t (by rw [hl]; decide)]
theorem xdf : (digs.all fun d => (List.range 16).any fun (a : Nat) => dg (a : Int) == d) = true := by decide +kernel
theorem xf5 {d : UInt8} (h : digs.contains d = true) : ∃ x : Int, 0 ≤ x ∧ x < 16 ∧ dg x = d := by
  have := List.all_eq_true.1 xdf d (by simpa using h)
  obtain ⟨a, h1, h2⟩ := List.any_eq_true.1 this
  exact ⟨a, by omega, by have := List.mem_range.1 h1; omega, eq_of_beq h2⟩
theorem x7j : ∀ (l : B), l.all (digs.contains ·) = true → ∃ n : Int, 0 ≤ n ∧ n < 16 ^ l.length ∧ hexN l.length n = l
  | [], _ => ⟨0, by omega, by simp, rfl⟩
  | d :: l, h => by
    rw [List.all_cons, Bool.and_eq_true] at h
    obtain ⟨x, x0, x1, hx⟩ := xf5 h.1
    obtain ⟨n, n0, n1, hn⟩ := x7j l h.2
    have p : (0 : Int) < 16 ^ l.length := Int.pow_pos (by omega)
    have q : (x * 16 ^ l.length + n) / 16 ^ l.length = x := by
      rw [Int.add_comm, Int.add_mul_ediv_right _ _ (by omega), Int.ediv_eq_zero_of_lt n0 n1]; omega
    have r : (x * 16 ^ l.length + n) % 16 ^ l.length = n := by
      rw [Int.add_comm, Int.add_mul_emod_self_right, Int.emod_eq_of_lt n0 n1]
    refine ⟨x * 16 ^ l.length + n, by have := Int.mul_nonneg x0 (Int.le_of_lt p); omega, ?_, ?_⟩
    · rw [List.length_cons, Int.pow_succ]
      have : x * 16 ^ l.length ≤ 15 * 16 ^ l.length := Int.mul_le_mul_of_nonneg_right (by omega) (Int.le_of_lt p)
      omega
    · show dg ((x * 16 ^ l.length + n) / 16 ^ l.length % 16) :: hexN l.length (x * 16 ^ l.length + n) = d :: l
      rw [q, Int.emod_eq_of_lt x0 x1, hx]
      congr 1
      rw [← x4p (x * 16 ^ l.length + n) l.length 0, Nat.add_zero, r, hn]
theorem xam : ((List.range 16).all fun (a : Nat) => decide (a < 8) || decide (55 < (dg (a : Int)).toNat)) = true := by decide +kernel
theorem xf3 {p : B} (h : p.length = 10) : ∃ a b c d e f g i j k, p = [a, b, c, d, e, f, g, i, j, k] := by
  match p, h with
  | [a, b, c, d, e, f, g, i, j, k], _ => exact ⟨a, b, c, d, e, f, g, i, j, k, rfl⟩
theorem x7w {p : B} (h : z83 p = true) : ∃ n : Int, 0 ≤ n ∧ n ≤ 2147483647 ∧ p = ze2 n := by
  unfold z83 at h
  simp only [Bool.and_eq_true, w7] at h
  obtain ⟨h1, h2, h3, h4, h5⟩ := h
  obtain ⟨a, b, c, d, e, f, g, i, j, k, rfl⟩ := xf3 (p := p) (by omega)
  have ec : cut2 [a, b, c, d, e, f, g, i, j, k] (1 : Int) (9 : Int) = [b, c, d, e, f, g, i, j] := rfl
  rw [ec] at h5
  obtain ⟨n, n0, n1, hn⟩ := x7j _ h5
  have h2 : (a.toNat : Int) = 5 := h2
  have h4 : (k.toNat : Int) = 47 := h4
  have ha : a = 5 := by rw [← UInt8.toNat_inj]; have : (5 : UInt8).toNat = 5 := rfl; omega
  have hk : k = 47 := by rw [← UInt8.toNat_inj]; have : (47 : UInt8).toNat = 47 := rfl; omega
  have l8 : ([b, c, d, e, f, g, i, j] : B).length = 8 := rfl
  rw [l8] at n1 hn
  have p8 : (16 : Int) ^ 8 = 4294967296 := by decide
  have p7 : (16 : Int) ^ 7 = 268435456 := by decide
  rw [p8] at n1
  refine ⟨n, n0, ?_, by rw [ha, hk]; unfold ze2; rw [hn]; rfl⟩
  have hb : dg (n / 16 ^ 7 % 16) = b := by
    have : hexN 8 n = dg (n / 16 ^ 7 % 16) :: hexN 7 n := rfl
    rw [this] at hn
    exact (List.cons.inj hn).1
  have h3 : bt [a, b, c, d, e, f, g, i, j, k] 1 ≤ 55 := by simpa using h3
  have h3 : (b.toNat : Int) ≤ 55 := h3
  rw [p7] at hb
  have := List.all_eq_true.1 xam (n / 268435456 % 16).toNat (List.mem_range.2 (by omega))
  rw [show ((n / 268435456 % 16).toNat : Int) = n / 268435456 % 16 by omega, hb] at this
  simp only [Bool.or_eq_true, decide_eq_true_eq] at this
  omega
def zmw (p : B) (t n : Int) (m : B) : Option B := bif validB p || (z83 p && !(eqi t 4)) then keyR p t n m else none
theorem x7y {p m : B} {t n : Int} (hp : p.length < 4100000000) (hm : m.length < 4000000000000) : z9z NN (p, t, n, m) = some (resR (zmw p t n m)) := by
  cases hv : validB p
  · simp only [z9z, yif hp, hv, cond_false, x5u, zmw, Bool.false_or]
    cases hb : z83 p
    · simp only [cond_false, yzj, Bool.false_and]; rfl
    · simp only [cond_true, Bool.true_and]
      cases e4 : eqi t 4
      · simp only [Bool.not_false, cond_true, x6v p m t n hp hm]
        cases keyR p t n m <;> rfl
      · simp only [Bool.not_true, cond_false, yzj]; rfl
  · rw [x98 hv hp hm]
    simp only [zmw, hv, Bool.true_or, cond_true]
theorem q14 : eqi (1 : Int) 4 = false := rfl
theorem q24 : eqi (2 : Int) 4 = false := rfl
theorem q34 : eqi (3 : Int) 4 = false := rfl
theorem y7b : ∀ (s : B), s = y74 (spl s).1 ++ (spl s).2
  | [] => rfl
  | b :: l => by
    have ih := y7b l
    cases e : (b == 47)
    · simp only [spl, e, cond_false]
      cases h : (spl l).1 with
      | nil => rw [h] at ih; simp only [y74, List.map_nil, List.flatten_nil, List.nil_append] at ih ⊢; rw [← ih]
      | cons n ns => rw [h, zni] at ih; rw [zni]; simp only [List.cons_append] at ih ⊢; rw [← ih]
    · simp only [spl, e, cond_true]
      rw [zni, eq_of_beq e, List.nil_append, List.cons_append, ← ih]
theorem y2y {s : B} (h : validB s = true) : ∃ l, (∀ n ∈ l, nameB n = true) ∧ s = y74 l := by
  unfold validB at h
  simp only [Bool.and_eq_true, List.isEmpty_iff] at h
  refine ⟨(spl s).1, fun n hn => List.all_eq_true.1 h.1 n hn, ?_⟩
  have := y7b s
  rw [h.2, List.append_nil] at this
  exact this
theorem yyh {s : B} (h : validB s = true) : big s := by
  obtain ⟨l, hl, rfl⟩ := y2y h
  exact xae hl
inductive KeyIs (k : B) : B → Int → Int → B → Prop
  | entry {p : B} (h : validB p = true ∨ z83 p = true) (e : k = p ++ [1]) : KeyIs k p 1 0 []
  | block {p : B} {n : Nat} (h : validB p = true ∨ z83 p = true) (hn : n ≤ 60000) (e : k = p ++ blk (n : Int)) : KeyIs k p 2 n []
  | attr {p m : B} (h : validB p = true ∨ z83 p = true) (hm : nameB m = true) (e : k = p ++ 3 :: m) : KeyIs k p 3 0 m
  | link {p : B} (h : validB p = true) (e : k = [6] ++ p ++ [1]) : KeyIs k p 4 0 []
theorem xad {k p m : B} {t n : Int} (h : zmw p t n m = some k) : KeyIs k p t n m := by
  unfold zmw at h
  cases hp : validB p || (z83 p && !(eqi t 4)) with
  | false => rw [hp] at h; cases h
  | true =>
    rw [hp, cond_true] at h
    have hp' : validB p = true ∨ z83 p = true := by
      simp only [Bool.or_eq_true, Bool.and_eq_true] at hp
      exact hp.imp id fun x => x.1
    unfold keyR at h
    cases e1 : eqi t 1 with
    | true =>
      rw [e1, cond_true] at h
      cases e : eqi n 0 && eqs m [] with
      | false => rw [e] at h; cases h
      | true =>
        rw [e, cond_true] at h
        simp only [Bool.and_eq_true, w7, z1d] at e
        obtain ⟨rfl, rfl⟩ := e
        rw [w7.1 e1]
        exact .entry hp' (Option.some.inj h).symm
    | false =>
    rw [e1, cond_false] at h
    cases e2 : eqi t 2 with
    | true =>
      rw [e2, cond_true] at h
      cases e : eqs m [] && (decide (0 ≤ n) && decide (n ≤ 60000)) with
      | false => rw [e] at h; cases h
      | true =>
        rw [e, cond_true] at h
        simp only [Bool.and_eq_true, decide_eq_true_eq, z1d] at e
        obtain ⟨rfl, h0, h1⟩ := e
        rw [w7.1 e2]
        obtain ⟨j, rfl⟩ := Int.eq_ofNat_of_zero_le h0
        exact .block hp' (by omega) (Option.some.inj h).symm
    | false =>
    rw [e2, cond_false] at h
    cases e3 : eqi t 3 with
    | true =>
      rw [e3, cond_true] at h
      cases e : eqi n 0 && nameB m with
      | false => rw [e] at h; cases h
      | true =>
        rw [e, cond_true] at h
        simp only [Bool.and_eq_true, w7] at e
        obtain ⟨rfl, hm⟩ := e
        rw [w7.1 e3]
        exact .attr hp' hm (by rw [← Option.some.inj h]; simp)
    | false =>
    rw [e3, cond_false] at h
    cases e4 : eqi t 4 with
    | false => rw [e4] at h; cases h
    | true =>
      rw [e4, cond_true] at h
      rw [e4] at hp
      simp only [Bool.not_true, Bool.and_false, Bool.or_false] at hp
      cases e : eqi n 0 && eqs m [] with
      | false => rw [e] at h; cases h
      | true =>
        rw [e, cond_true] at h
        simp only [Bool.and_eq_true, w7, z1d] at e
        obtain ⟨rfl, rfl⟩ := e
        rw [w7.1 e4]
        exact .link hp (Option.some.inj h).symm
theorem xa5 {k p m : B} {t n : Int} (h : KeyIs k p t n m) : zmw p t n m = some k := by
  cases h with
  | entry h e =>
    have : (validB p || (z83 p && !(eqi (1 : Int) 4))) = true := by rcases h with h | h <;> simp [h, q14]
    unfold zmw keyR
    rw [this, e]; rfl
  | block h hn e =>
    rename_i j
    have : (validB p || (z83 p && !(eqi (2 : Int) 4))) = true := by rcases h with h | h <;> simp [h, q24]
    have d0 : decide (0 ≤ (j : Int)) = true := by simp
    have d1 : decide ((j : Int) ≤ 60000) = true := by simp; omega
    unfold zmw keyR
    rw [this, e, d0, d1]; rfl
  | attr h hm e =>
    have : (validB p || (z83 p && !(eqi (3 : Int) 4))) = true := by rcases h with h | h <;> simp [h, q34]
    unfold zmw keyR
    rw [this, e, hm]
    show some (p ++ [3] ++ m) = _
    simp
  | link h e =>
    unfold zmw keyR
    rw [h, e]; rfl
structure PathOk (p : B) : Prop where
  low : low p
  h6 : p = [] ∨ ∃ a s, p = a :: s ∧ a ≠ 6
theorem zgb {p : B} (h : validB p = true ∨ z83 p = true) : PathOk p := by
  rcases h with h | h
  · have hb := yyh h
    refine ⟨fun b hm => by have := hb b hm; omega, ?_⟩
    cases p with
    | nil => exact .inl rfl
    | cons a s => exact .inr ⟨a, s, rfl, fun e => by have := hb a (by simp); rw [e] at this; exact absurd this (by decide)⟩
  · obtain ⟨n, h0, h1, rfl⟩ := x7w h
    have := x5f h0 h1
    exact ⟨this.low, this.h6⟩
def ZP : ze7 := ([], 0, 0, [])
theorem Place_yes {k p m : B} {t n : Int} (h : KeyIs k p t n m) (hl : k.length < 600000000) : z2c NN k = some ((p, t, n, m), 0) := by
  have hk := xa5 h
  have hkey : p.length < 600000000 → m.length < 600000000 → z9z NN (p, t, n, m) = some (k, 0) := fun a b => by
    rw [x7y (by omega) (by omega), hk]; rfl
  cases h with
  | entry hp e =>
    subst e
    simp only [List.length_append, List.length_singleton] at hl
    have o := zgb hp
    exact yig (x5g o.low (no6 o.h6 (by decide)) (by omega)) (hkey (by omega) (by simp))
  | block hp hn e =>
    subst e
    rename_i j
    simp only [List.length_append, xdq] at hl
    have o := zgb hp
    obtain ⟨r, hr⟩ := x5h (p := p) (k := j) hn o.low (by rw [blk_nat hn]; exact no6 o.h6 (by decide)) (by omega)
    exact yig hr (hkey (by omega) (by simp))
  | attr hp hm e =>
    subst e
    simp only [List.length_append, List.length_cons] at hl
    have o := zgb hp
    exact yig (x8a o.low (no6 o.h6 (by decide)) (by omega) (by omega)) (hkey (by omega) (by omega))
  | link hp e =>
    subst e
    simp only [List.length_append, List.length_singleton] at hl
    have o := zgb (.inl hp)
    exact yig (x89 o.low (by omega)) (hkey (by omega) (by simp))
def tagBytes : B := [1, 2, 3]
theorem tag_cases (s : B) : (∀ b ∈ s, tagBytes.contains b = false) ∨ ∃ a c r, (∀ b ∈ a, tagBytes.contains b = false) ∧ tagBytes.contains c = true ∧ s = a ++ c :: r := by
  induction s with
  | nil => exact .inl (by simp)
  | cons b l ih =>
    cases hb : tagBytes.contains b
    · rcases ih with h | ⟨a, c, r, h1, h2, h3⟩
      · refine .inl fun x hx => ?_
        rcases List.mem_cons.1 hx with rfl | hx
        · exact hb
        · exact h x hx
      · refine .inr ⟨b :: a, c, r, fun x hx => ?_, h2, by rw [h3]; rfl⟩
        rcases List.mem_cons.1 hx with rfl | hx
        · exact hb
        · exact h1 x hx
    · exact .inr ⟨[], b, l, by simp, hb, rfl⟩
theorem xe4 (s : B) (hl : s.length < 2000000000) : anyF s tagBytes = some (Lib.indexAny s tagBytes) := by
  unfold anyF
  rw [gd_t]
  have e : yqv tagBytes = true := by decide
  rw [e]
  simp only [Bool.true_and, Bool.and_eq_true, decide_eq_true_eq]
  exact ⟨⟨by decide, by omega⟩, by decide⟩
theorem xcg {s : B} (h : ∀ b ∈ s, tagBytes.contains b = false) (hl : s.length < 2000000000) : z0h NN s [] 0 0 [] = some (([], 0), ((s, ([], (0, (0, [])))), ())) := by
  have a : z4x NN s [1, 2, 3] = some (-1) := by
    show anyF s tagBytes = _
    rw [xe4 s hl, Lib.indexAny_none fun j b hj hb => h b (List.mem_of_getElem? hb)]
  have d : decide ((-1 : Int) < 0) = true := rfl
  simp only [z0h, a, d, cond_true]
theorem xcf {p r : B} {c : UInt8} (hp : ∀ b ∈ p, tagBytes.contains b = false) (hc : tagBytes.contains c = true) (hl : (p ++ c :: r).length < 2000000000) :
    z0h NN (p ++ c :: r) [] 0 0 [] = some ((p, (c.toNat : Int)), ((r, ([], (0, (0, [])))), ())) := by
  have a : z4x NN (p ++ c :: r) [1, 2, 3] = some (p.length : Int) := by
    show anyF (p ++ c :: r) tagBytes = _
    rw [xe4 _ hl, Lib.indexAny_hit (i := p.length) (fun j b hj hb => ?_) (by simp) hc]
    rw [List.getElem?_append_left hj] at hb
    exact hp b (List.mem_of_getElem? hb)
  have d : decide ((p.length : Int) < 0) = false := by simp
  have w : IntKind.wrap .i64 ((p.length : Int) + (1 : Int)) = (p.length : Int) + 1 := by
    simp only [List.length_append, List.length_cons] at hl
    exact w64 (by omega) (by omega)
  have c1 : cut2 (p ++ c :: r) (0 : Int) (p.length : Int) = p := by simp [cut2]
  have c2 : cut2 (p ++ c :: r) ((p.length : Int) + 1) ((p ++ c :: r).length : Int) = r := by
    unfold cut2
    have e : ((p.length : Int) + 1).toNat = p.length + 1 := by omega
    rw [e, show (p ++ c :: r).drop (p.length + 1) = r by simp [List.drop_append]]
    exact List.take_of_length_le (by simp; omega)
  have b : bt (p ++ c :: r) (p.length : Int) = (c.toNat : Int) := by simp [bt]
  simp only [z0h, a, d, cond_false, w, c1, c2, b]
  rw [gd_t (by simp; omega), gd_t (by simp [inB]; omega), gd_t (by simp; omega)]
theorem xbn (c : Int) (l : Bool) (s h : B) (t : Int) : ∃ r n m, J2 NN c l s h t 0 [] = some ((), ((s, (h, (r, (n, m)))), ())) ∧ m.length ≤ s.length := by
  unfold J2
  cases l
  · simp only [cond_false]
    cases eqi c 2
    · simp only [cond_false]
      cases eqi c 3
      · exact ⟨_, _, _, rfl, by simp⟩
      · exact ⟨_, _, _, rfl, Nat.le_refl _⟩
    · simp only [cond_true]
      cases e2 : eqi (s.length : Int) 2
      · simp only [cond_false]
        cases eqi c 3
        · exact ⟨_, _, _, rfl, by simp⟩
        · exact ⟨_, _, _, rfl, Nat.le_refl _⟩
      · have hl : s.length = 2 := by have := w7.1 e2; omega
        simp only [cond_true]
        rw [gd_t (by rw [hl]; rfl), gd_t (by decide), gd_t (by rw [hl]; rfl)]
        exact ⟨_, _, _, rfl, by simp⟩
  · exact ⟨_, _, _, rfl, by simp⟩
theorem xa0 (k : B) (hl : k.length < 600000000) : ∃ s x, U3 NN k [] 0 0 [] = some ((), ((s, x), ())) ∧ x.1.length < 600000000 ∧ x.2.2.2.length < 600000000 := by
  have hc : ∃ s l, G4 NN k [6] = some (s, l) ∧ s.length < 600000000 := by
    cases h : ([6] : B).isPrefixOf k
    · exact ⟨k, false, zw0 h (by omega), hl⟩
    · obtain ⟨t, rfl⟩ := List.isPrefixOf_iff_prefix.1 h
      simp only [List.singleton_append, List.length_cons] at hl
      exact ⟨t, true, x7r t (by omega), by omega⟩
  obtain ⟨s, l, h1, h2⟩ := hc
  have hu : ∃ h c r, z0h NN s [] 0 0 [] = some ((h, c), ((r, ([], (0, (0, [])))), ())) ∧ h.length < 600000000 ∧ r.length < 600000000 := by
    rcases tag_cases s with h | ⟨a, c, r, g1, g2, rfl⟩
    · exact ⟨_, _, _, xcg h (by omega), by simp, h2⟩
    · simp only [List.length_append, List.length_cons] at h2
      exact ⟨_, _, _, xcf g1 g2 (by simp; omega), by omega, by omega⟩
  obtain ⟨h, c, r, h3, h4, h5⟩ := hu
  cases l
  · obtain ⟨t, n, m, h6, h7⟩ := xbn c false r h (IntKind.wrap .i64 c)
    refine ⟨r, (h, (t, (n, m))), ?_, h4, by show m.length < 600000000; omega⟩
    simp only [U3, h1, h3, cond_false, h6]
  · obtain ⟨t, n, m, h6, h7⟩ := xbn c (eqi c 1) r h (IntKind.wrap .i64 c)
    refine ⟨r, (h, (t, (n, m))), ?_, h4, by show m.length < 600000000; omega⟩
    simp only [U3, h1, h3, cond_true, h6]
theorem Place_no {k : B} (h : ∀ p t n m, ¬ KeyIs k p t n m) (hl : k.length < 600000000) : z2c NN k = some (ZP, 12) := by
  obtain ⟨s, ⟨p, t, n, m⟩, h1, h2, h3⟩ := xa0 k hl
  have hk : z9z NN (p, t, n, m) = some (resR (zmw p t n m)) := x7y (by show p.length < _; have : p.length < 600000000 := h2; omega) (by have : m.length < 600000000 := h3; omega)
  simp only [z2c, h1, hk]
  cases e : zmw p t n m with
  | none => rfl
  | some x =>
    have : eqs x k = false := z6c fun he => h p t n m (xad (by rw [← he]; exact e))
    have z : eqi (0 : Int) 0 = true := rfl
    simp only [resR, z, Bool.not_true, cond_false, this, Bool.not_false, cond_true]
    rfl
def cI (q : Z0) : Int := ((z3x NN q).getD (0, 0)).1
def cB (q : Z0) : Int := ((z3x NN q).getD (0, 0)).2
theorem yze (q : Z0) (h : q.1.length < 600000000) : z3x NN q = some (cI q, cB q) ∧ (cI q = 0 ∨ cI q = 1) ∧ (cB q = 0 ∨ cI q = 0 ∧ cB q = (q.2.1.length : Int)) := by
  have key : ∃ a b, z3x NN q = some (a, b) ∧ (a = 0 ∨ a = 1) ∧ (b = 0 ∨ a = 0 ∧ b = (q.2.1.length : Int)) := by
    obtain ⟨k, v, st⟩ := q
    by_cases hk : ∃ p t n m, KeyIs k p t n m
    · obtain ⟨p, t, n, m, hk⟩ := hk
      have z : eqi (0 : Int) 0 = true := rfl
      simp only [z3x, Place_yes hk h, z, Bool.not_true, cond_false]
      cases eqi t 1 <;> cases eqi t 4
      · exact ⟨0, _, rfl, .inl rfl, .inr ⟨rfl, rfl⟩⟩
      · exact ⟨0, 0, rfl, .inl rfl, .inl rfl⟩
      · exact ⟨1, 0, rfl, .inr rfl, .inl rfl⟩
      · exact ⟨1, 0, rfl, .inr rfl, .inl rfl⟩
    · have hk : ∀ p t n m, ¬ KeyIs k p t n m := fun p t n m g => hk ⟨p, t, n, m, g⟩
      have z : eqi (12 : Int) 0 = false := rfl
      simp only [z3x, Place_no hk h, z, Bool.not_false, cond_true]
      exact ⟨0, 0, rfl, .inl rfl, .inl rfl⟩
  obtain ⟨a, b, h1, h2, h3⟩ := key
  have e1 : cI q = a := by unfold cI; rw [h1]; rfl
  have e2 : cB q = b := by unfold cB; rw [h1]; rfl
  rw [e1, e2]
  exact ⟨h1, h2, h3⟩
abbrev Sml (q : Z0) : Prop := q.1.length < 600000000 ∧ q.2.1.length < 600000000
theorem xay {q : Z0} (h : Sml q) : 0 ≤ cI q ∧ cI q ≤ 1 ∧ 0 ≤ cB q ∧ cB q ≤ 600000000 := by
  obtain ⟨_, h1, h2⟩ := yze q h.1
  have := h.2
  rcases h1 with h1 | h1 <;> rcases h2 with h2 | ⟨_, h2⟩ <;> omega
def sI : List Z0 → Int
  | [] => 0
  | q :: r => cI q + sI r
def sB' : List Z0 → Int
  | [] => 0
  | q :: r => cB q + sB' r
theorem x3q (l : Int) (z1 z2 : Int) : ∀ (post pre : List Z0) (n : Nat) (a b : Int), l = ((pre ++ post).length : Int) → post.length < n → (pre ++ post).length < 1000000000 → (∀ q ∈ post, Sml q) → 0 ≤ a → a ≤ pre.length → 0 ≤ b → b ≤ 600000000 * (pre.length : Int) →
    zav NN n (pre ++ post) l (pre.length : Int) z1 z2 a b = some (((), ()), ((z1, z2), ((a + sI post, b + sB' post), ())))
  | [], pre, n + 1, a, b, hl, _, _, _, _, _, _, _ => by
    subst hl
    rw [zjh, z6u, y82]; simp [sI, sB']
  | q :: post, pre, n + 1, a, b, hl, hn, hb, hs, a0, a1, b0, b1 => by
    have hb' : pre.length + (post.length + 1) < 1000000000 := by simpa using hb
    have hq := hs q (by simp)
    obtain ⟨c1, _, _⟩ := yze q hq.1
    have cb := xay hq
    have ih := x3q l z1 z2 post (pre ++ [q]) n (a + cI q) (b + cB q) (by rw [hl]; simp) (by simpa using hn) (by rw [← z2j]; exact hb) (fun x hx => hs x (by simp [hx])) (by omega) (by simp; omega) (by omega) (by simp; omega)
    rw [← z2j] at ih
    rw [zjh, z6u, hl, zk3, cond_true, gd_t z7m, z3n, c1]
    simp only
    rw [zjw (q := q) (by omega), w64 (n := a + cI q) (by omega) (by omega), w64 (n := b + cB q) (by omega) (by omega), ← hl, ih]
    simp [sI, sB', Int.add_assoc]
theorem total_ok {t : List Z0} (h : t.length < 1000000000) (hs : ∀ q ∈ t, Sml q) : z65 NN t = some (sI t, sB' t) := by
  have := x3q (t.length : Int) 0 0 t [] NN 0 0 rfl (by simp only [NN]; omega) (by simpa using h) hs (by omega) (by simp) (by omega) (by simp)
  simp only [List.nil_append, List.length_nil] at this
  rw [show ((0 : Nat) : Int) = 0 from rfl] at this
  unfold z65
  rw [this]
  simp
end Ds.Pa
