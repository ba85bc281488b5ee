/- Names, paths, and what the program's functions of them compute. -/
import Derived.Test.YtmffojmbfphidaaDoorDsPure
import Derived.Test.YtmffojmbfphidaaDoorDvPlain
import Derived.Test.YtmffojmbfphidaaDoorDvJoin
set_option linter.all false
namespace Ds
open Go Go.Dv
set_option maxRecDepth 100000
set_option linter.unusedVariables false

abbrev B := List UInt8
abbrev NN : Nat := 1000000
theorem sanity1 : law01_sanity NN = some true := by decide +kernel

/-! ## runes -/
def okc (b : UInt8) : Bool := decide (33 ≤ b.toNat) && (decide (b.toNat ≤ 126) && !(b == 47))

theorem c1_low (r : Nat) (h : r < 128) : (path_isName_c1 NN (r : Int)).getD false = !(decide (33 ≤ r) && (decide (r ≤ 126) && !(r == 47))) := by
  have : ((List.range 128).all fun r => (path_isName_c1 NN (r : Int)).getD false == !(decide (33 ≤ r) && (decide (r ≤ 126) && !(r == 47)))) = true := by decide +kernel
  simpa using List.all_eq_true.1 this r (List.mem_range.2 h)
theorem c1_high (r : Nat) (h : 128 ≤ r) : (path_isName_c1 NN (r : Int)).getD false = true := by
  have e1 : decide ((r : Int) < 33) = false := by simp; omega
  have e2 : decide ((126 : Int) < (r : Int)) = true := by simp; omega
  simp only [path_isName_c1, e1, e2, cond_true, cond_false, Option.getD_some]

theorem dec_low (s : ByteArray) (i : Nat) (h : (s.get! i).toNat < 128) : Utf8.decode s i = ((s.get! i).toNat, 1) := by
  have h0 : (s.get! (i + 0)).toNat < 128 := h
  simp only [Utf8.decode]
  rw [if_pos h0]; rfl
theorem dec_high (s : ByteArray) (i : Nat) (h : 128 ≤ (s.get! i).toNat) : 128 ≤ (Utf8.decode s i).1 := by
  have h0 : ¬ (s.get! (i + 0)).toNat < 128 := by show ¬ (s.get! i).toNat < 128; omega
  have e : 128 ≤ Utf8.runeError := by decide
  simp only [Utf8.decode]
  rw [if_neg h0]
  split
  · split
    · assumption
    · exact e
  · split
    · split
      · rename_i h; simp only [Bool.and_eq_true, decide_eq_true_eq] at h; show 128 ≤ _; omega
      · exact e
    · split
      · split
        · rename_i h; simp only [Bool.and_eq_true, decide_eq_true_eq] at h; show 128 ≤ _; omega
        · exact e
      · exact e

theorem get_sB (s : B) (i : Nat) (h : i < s.length) : (sB s).get! i = s[i] := by
  unfold ByteArray.get! sB
  simp [getElem!_pos, h]
theorem size_sB (s : B) : (sB s).size = s.length := by simp [sB, ByteArray.size]

theorem c1_byte (b : UInt8) : (b.toNat < 128 → (path_isName_c1 NN (b.toNat : Int)).getD false = !(okc b)) := fun h => by
  rw [c1_low _ h]
  have : (b.toNat == 47) = (b == 47) := by
    rw [Bool.eq_iff_iff]; simp [← UInt8.toNat_inj]
  rw [this]; rfl

theorem idx_ok (s : B) : ∀ (f pos : Nat), s.length ≤ pos + f → (s.drop pos).all okc = true → Lib.idxFuncFrom (fun r => (path_isName_c1 NN (r : Int)).getD false) true (sB s) f pos = -1
  | 0, pos, _, _ => rfl
  | f + 1, pos, hf, ha => by
    unfold Lib.idxFuncFrom
    rw [size_sB]
    by_cases hp : pos < s.length
    · have hd : s.drop pos = s[pos] :: s.drop (pos + 1) := List.drop_eq_getElem_cons hp
      rw [hd, List.all_cons, Bool.and_eq_true] at ha
      have hb : (s[pos]).toNat < 128 := by
        have := ha.1
        simp only [okc, Bool.and_eq_true, decide_eq_true_eq] at this
        omega
      rw [if_pos hp, dec_low (sB s) pos (by rw [get_sB s pos hp]; exact hb), get_sB s pos hp]
      have := c1_byte s[pos] hb
      simp only [this, ha.1, Bool.not_true]
      rw [if_neg (by decide)]
      exact idx_ok s f (pos + 1) (by omega) ha.2
    · rw [if_neg hp]

theorem idx_bad (s : B) : ∀ (f pos : Nat), s.length ≤ pos + f → (s.drop pos).all okc = false → 0 ≤ Lib.idxFuncFrom (fun r => (path_isName_c1 NN (r : Int)).getD false) true (sB s) f pos
  | 0, pos, hf, ha => by
    rw [List.drop_eq_nil_of_le (by omega)] at ha
    cases ha
  | f + 1, pos, hf, ha => by
    unfold Lib.idxFuncFrom
    rw [size_sB]
    by_cases hp : pos < s.length
    · have hd : s.drop pos = s[pos] :: s.drop (pos + 1) := List.drop_eq_getElem_cons hp
      rw [hd, List.all_cons] at ha
      rw [if_pos hp]
      by_cases hb : (s[pos]).toNat < 128
      · rw [dec_low (sB s) pos (by rw [get_sB s pos hp]; exact hb), get_sB s pos hp]
        have := c1_byte s[pos] hb
        simp only [this]
        cases ho : okc s[pos]
        · rw [if_pos (by rfl)]; omega
        · rw [if_neg (by decide)]
          rw [ho] at ha
          exact idx_bad s f (pos + 1) (by omega) (by simpa using ha)
      · have := dec_high (sB s) pos (by rw [get_sB s pos hp]; omega)
        rw [c1_high _ this, if_pos rfl]; omega
    · rw [List.drop_eq_nil_of_le (by omega)] at ha
      cases ha

theorem idxF_name (s : B) : decide (idxF (path_isName_c1 NN) true s < 0) = s.all okc := by
  unfold idxF Lib.idxFunc
  have hl : s.length ≤ 0 + (sB s).size := by rw [size_sB]; omega
  cases h : s.all okc
  · have := idx_bad s (sB s).size 0 hl h
    simp; omega
  · have := idx_ok s (sB s).size 0 hl h
    rw [this]; rfl

def nameB (s : B) : Bool := bif eqs s [] then false else bif decide ((12 : Int) < (s.length : Int)) then false else bif eqs s [46] then false else bif eqs s [46, 46] then false else s.all okc
theorem isName_eq (s : B) : path_isName NN s = some (nameB s) := by
  simp only [path_isName, strings_IndexFunc__path_isName_c1, strings_indexFunc__path_isName_c1, idxF_name, nameB]
  cases eqs s []
  · simp only [cond_false]
    cases decide ((12 : Int) < (s.length : Int))
    · simp only [cond_false]
      cases eqs s [46]
      · simp only [cond_false]
        cases eqs s [46, 46] <;> rfl
      · rfl
    · rfl
  · rfl
theorem name_len {s : B} (h : nameB s = true) : 1 ≤ s.length ∧ s.length ≤ 12 := by
  unfold nameB at h
  cases e1 : eqs s []
  · rw [e1] at h
    cases e2 : decide ((12 : Int) < (s.length : Int))
    · have := of_decide_eq_false e2
      refine ⟨?_, by omega⟩
      cases s with
      | nil => rw [eqs_self] at e1; cases e1
      | cons b l => simp
    · rw [e2] at h; cases h
  · rw [e1] at h; cases h
theorem name_all {s : B} (h : nameB s = true) : s.all okc = true := by
  unfold nameB at h
  cases e1 : eqs s [] <;> rw [e1] at h
  · cases e2 : decide ((12 : Int) < (s.length : Int)) <;> rw [e2] at h
    · cases e3 : eqs s [46] <;> rw [e3] at h
      · cases e4 : eqs s [46, 46] <;> rw [e4] at h
        · exact h
        · cases h
      · cases h
    · cases h
  · cases h
theorem name_sl {s : B} (h : nameB s = true) : 47 ∉ s := fun hm => by
  have := List.all_eq_true.1 (name_all h) 47 hm
  revert this; decide

/-! ## cuts -/
theorem ib_none : ∀ {s : B} {c : UInt8}, c ∉ s → Lib.indexByte s c = -1
  | [], _, _ => rfl
  | b :: l, c, h => by
    have h1 : (b == c) = false := by
      cases e : b == c
      · rfl
      · exact absurd (by simp [eq_of_beq e]) h
    have := ib_none (s := l) (c := c) fun hm => h (by simp [hm])
    simp only [Lib.indexByte, h1, this, Bool.false_eq_true, if_false]
    rfl
theorem ib_mid : ∀ {a t : B} {c : UInt8}, c ∉ a → Lib.indexByte (a ++ c :: t) c = a.length
  | [], t, c, _ => by simp [Lib.indexByte]
  | b :: a, t, c, h => by
    have h1 : (b == c) = false := by
      cases e : b == c
      · rfl
      · exact absurd (by simp [eq_of_beq e]) h
    have := ib_mid (a := a) (t := t) (c := c) fun hm => h (by simp [hm])
    have hne : ((a.length : Int) == -1) = false := by
      cases e : ((a.length : Int) == -1)
      · rfl
      · have := eq_of_beq e; omega
    simp only [List.cons_append, Lib.indexByte, h1, this, Bool.false_eq_true, if_false, hne, List.length_cons]
    omega

def SL : B := [47]
theorem index_sl (s : B) : stringslite_Index NN s [47] = some (Lib.indexByte s 47) := by
  simp only [stringslite_Index]
  have e0 : eqi (([47] : B).length : Int) 0 = false := rfl
  have e1 : eqi (([47] : B).length : Int) 1 = true := rfl
  rw [e0, e1]
  cases h : eqs [47] s
  · simp only [cond_false, cond_true]
    rw [gd_t (b := inB 0 ([47] : B).length) rfl]
    rfl
  · rw [← eqs_iff.1 h]; rfl

theorem cut_none {s : B} (h : 47 ∉ s) (hs : s.length < 1000000000) : strings_Cut NN s [47] = some (s, [], false) := by
  simp only [strings_Cut, stringslite_Cut, index_sl, ib_none h]
  rfl
theorem cut_mid {a t : B} (h : 47 ∉ a) (hs : (a ++ 47 :: t).length < 9223372036854775807) : strings_Cut NN (a ++ 47 :: t) [47] = some (a, t, true) := by
  simp only [List.length_append, List.length_cons] at hs
  have w : IntKind.wrap .i64 ((a.length : Int) + (([47] : B).length : Int)) = (a.length : Int) + 1 := by
    rw [w64 (by simp; omega) (by simp; omega)]; rfl
  have d : decide ((0 : Int) ≤ (a.length : Int)) = true := by simp
  have c1 : cut2 (a ++ 47 :: t) (0 : Int) (a.length : Int) = a := by simp [cut2]
  have c2 : cut2 (a ++ 47 :: t) ((a.length : Int) + 1) ((a ++ 47 :: t).length : Int) = t := by
    unfold cut2
    have e : ((a.length : Int) + 1).toNat = a.length + 1 := by omega
    rw [e, show (a ++ 47 :: t).drop (a.length + 1) = t by simp [List.drop_append]]
    exact List.take_of_length_le (by simp; omega)
  simp only [strings_Cut, stringslite_Cut, index_sl, ib_mid h, d, cond_true, w, c1, c2]
  rw [gd_t (by simp; omega), gd_t (by simp; omega)]

/-! ## splitting a text -/
def spl : B → List B × B
  | [] => ([], [])
  | b :: l => bif b == 47 then ([] :: (spl l).1, (spl l).2) else match (spl l).1 with | [] => ([], b :: (spl l).2) | n :: ns => ((b :: n) :: ns, (spl l).2)
def validB (s : B) : Bool := (spl s).1.all nameB && (spl s).2.isEmpty

theorem spl_none : ∀ {s : B}, 47 ∉ s → spl s = ([], s)
  | [], _ => rfl
  | b :: l, h => by
    have h1 : (b == 47) = false := by
      cases e : b == 47
      · rfl
      · exact absurd (by simp [eq_of_beq e]) h
    simp only [spl, h1, cond_false, spl_none (s := l) fun hm => h (by simp [hm])]
theorem spl_mid : ∀ {a t : B}, 47 ∉ a → spl (a ++ 47 :: t) = (a :: (spl t).1, (spl t).2)
  | [], t, _ => by simp [spl]
  | b :: a, t, h => by
    have h1 : (b == 47) = false := by
      cases e : b == 47
      · rfl
      · exact absurd (by simp [eq_of_beq e]) h
    simp only [List.cons_append, spl, h1, cond_false, spl_mid (a := a) (t := t) fun hm => h (by simp [hm])]

theorem sl_cases (s : B) : 47 ∉ s ∨ ∃ a t, 47 ∉ a ∧ s = a ++ 47 :: t := by
  induction s with
  | nil => exact .inl (by simp)
  | cons b l ih =>
    by_cases hb : b = 47
    · exact .inr ⟨[], l, by simp, by rw [hb]; rfl⟩
    · rcases ih with h | ⟨a, t, h1, h2⟩
      · exact .inl (by simp; exact ⟨fun e => hb e.symm, h⟩)
      · exact .inr ⟨b :: a, t, by simp; exact ⟨fun e => hb e.symm, h1⟩, by rw [h2]; rfl⟩

theorem valid_l0 : ∀ (n : Nat) (s : B), s.length < n → s.length < 1000000000 → path_Valid_l0 NN n s = some (bif validB s then .inr ((), ()) else .inl (false, ()))
  | 0, _, h, _ => absurd h (Nat.not_lt_zero _)
  | n + 1, s, h, hs => by
    rw [path_Valid_l0_succ]
    simp only [path_Valid_l0_step]
    cases e : eqs s []
    · simp only [Bool.not_false, cond_true]
      have hne : s ≠ [] := fun e' => by rw [e', eqs_self] at e; cases e
      rcases sl_cases s with h0 | ⟨a, t, h1, h2⟩
      · simp only [cut_none h0 hs, Bool.not_false, cond_true]
        have : validB s = false := by
          unfold validB
          rw [spl_none h0]
          cases s with
          | nil => exact absurd rfl hne
          | cons b l => rfl
        rw [this]; rfl
      · rw [h2] at h hs ⊢
        rw [cut_mid h1 (by omega)]
        simp only [Bool.not_true, cond_false, isName_eq]
        simp only [List.length_append, List.length_cons] at h hs
        unfold validB
        rw [spl_mid h1, List.all_cons]
        cases en : nameB a
        · rfl
        · simp only [Bool.not_true, cond_false, Bool.true_and]
          exact valid_l0 n t (by omega) (by omega)
    · rw [eqs_iff.1 e]; rfl

theorem Valid_eq {s : B} (hs : s.length < 1000000) : path_Valid NN s = some (validB s) := by
  simp only [path_Valid, valid_l0 NN s (by simp only [NN]; omega) (by omega)]
  cases validB s <;> rfl

/-- a path of names -/
def joinP (l : List B) : B := (l.map fun n => n ++ [47]).flatten
theorem joinP_cons (n : B) (l : List B) : joinP (n :: l) = n ++ 47 :: joinP l := by simp [joinP]
theorem joinP_append (a b : List B) : joinP (a ++ b) = joinP a ++ joinP b := by simp [joinP]
theorem spl_join : ∀ {l : List B}, (∀ n ∈ l, 47 ∉ n) → spl (joinP l) = (l, [])
  | [], _ => rfl
  | n :: l, h => by
    rw [joinP_cons, spl_mid (h n (by simp)), spl_join fun m hm => h m (by simp [hm])]
theorem valid_join {l : List B} (h : ∀ n ∈ l, nameB n = true) : validB (joinP l) = true := by
  unfold validB
  rw [spl_join fun n hn => name_sl (h n hn)]
  simp only [List.isEmpty_nil, Bool.and_true]
  exact List.all_eq_true.2 h

/-! ## prefixes and suffixes -/
theorem HasPre (s p : B) (hs : s.length < 9223372036854775807) : stringslite_HasPrefix NN s p = some (p.isPrefixOf s) := by
  simp only [stringslite_HasPrefix]
  cases e : decide ((p.length : Int) ≤ (s.length : Int))
  · have e := of_decide_eq_false e
    have : p.isPrefixOf s = false := by
      cases h : p.isPrefixOf s
      · rfl
      · have := (List.isPrefixOf_iff_prefix.1 h).length_le; omega
    rw [this]; rfl
  · have e := of_decide_eq_true e
    have c : cut2 s (0 : Int) (p.length : Int) = s.take p.length := by simp [cut2]
    simp only [cond_true, c]
    rw [gd_t (by simp)]
    congr 1
    rw [Bool.eq_iff_iff, eqs_iff, List.isPrefixOf_iff_prefix]
    exact ⟨fun h => List.prefix_iff_eq_take.2 h.symm, fun h => (List.prefix_iff_eq_take.1 h).symm⟩
theorem Under_eq (s p : B) (hs : s.length < 9223372036854775807) : path_Under NN s p = some (p.isPrefixOf s) := by
  simp only [path_Under, strings_HasPrefix, HasPre s p hs]

theorem cutpre_sl (t : B) (h : (47 :: t).length < 9223372036854775807) : strings_CutPrefix NN (47 :: t) [47] = some (t, true) := by
  have hp : ([47] : B).isPrefixOf (47 :: t) = true := by simp [List.isPrefixOf]
  have c : cut2 (47 :: t) (([47] : B).length : Int) ((47 :: t).length : Int) = t := by
    unfold cut2
    have d : (47 :: t).drop (Int.toNat (([47] : B).length : Int)) = t := rfl
    rw [d]; exact List.take_of_length_le (by simp)
  simp only [strings_CutPrefix, stringslite_CutPrefix, HasPre _ _ h, hp, Bool.not_true, cond_false, c]
  rw [gd_t (by simp; omega)]
theorem cutpre_no {s : B} (h : ([47] : B).isPrefixOf s = false) (hs : s.length < 9223372036854775807) : strings_CutPrefix NN s [47] = some (s, false) := by
  simp only [strings_CutPrefix, stringslite_CutPrefix, HasPre _ _ hs, h, Bool.not_false, cond_true]
theorem pre_cases (s : B) : ([47] : B).isPrefixOf s = false ∨ ∃ t, s = 47 :: t := by
  cases s with
  | nil => exact .inl rfl
  | cons b l =>
    by_cases e : b = 47
    · exact .inr ⟨l, by rw [e]⟩
    · exact .inl (by simp [List.isPrefixOf]; exact fun h => e h.symm)

theorem trimsuf (t : B) (h : t.length < 1000000000) : strings_TrimSuffix NN (t ++ [47]) [47] = some t := by
  have w : IntKind.wrap .i64 (((t ++ [47]).length : Int) - (([47] : B).length : Int)) = (t.length : Int) := by
    rw [w64 (by simp) (by simp; omega)]; simp
  have d : decide ((([47] : B).length : Int) ≤ ((t ++ [47]).length : Int)) = true := by simp; omega
  have c : cut2 (t ++ [47]) (t.length : Int) ((t ++ [47]).length : Int) = [47] := by simp [cut2]
  have c0 : cut2 (t ++ [47]) (0 : Int) (t.length : Int) = t := by simp [cut2]
  simp only [strings_TrimSuffix, stringslite_TrimSuffix, stringslite_HasSuffix, d, cond_true, w, c, eqs_self, c0]
  rw [gd_t (by simp; omega), gd_t (by simp; omega)]
  rfl
theorem trimsuf_nil : strings_TrimSuffix NN [] [47] = some [] := rfl

theorem Text_sl (t : B) (h : t.length < 1000000000) : path_Text NN (t ++ [47]) = some (47 :: t) := by
  simp only [path_Text, trimsuf t h]
  rw [gd_p (by simp only [maxS, List.length_singleton]; omega)]
  rfl
theorem Text_nil : path_Text NN [] = some [47] := rfl

theorem Parse_no {s : B} (h : ([47] : B).isPrefixOf s = false) (hs : s.length < 9223372036854775807) : path_Parse NN s = some ([], 10) := by
  simp only [path_Parse, cutpre_no h hs, Bool.not_false, cond_true]
theorem Parse_sl (t : B) (hs : t.length < 1000) (h0 : t ≠ []) : path_Parse NN (47 :: t) = some (bif decide ((200 : Int) < ((47 :: t).length : Int)) then ([], 10) else bif validB (t ++ [47]) then (t ++ [47], 0) else ([], 10)) := by
  have e0 : eqs t [] = false := eqs_ne h0
  simp only [path_Parse, cutpre_sl t (by simp; omega), Bool.not_true, cond_false, e0]
  cases decide ((200 : Int) < ((47 :: t).length : Int))
  · simp only [cond_false]
    rw [gd_p (by simp only [maxS, List.length_singleton]; omega), Valid_eq (by simp; omega)]
    cases validB (t ++ [47])
    · rfl
    · simp only [Bool.not_true, cond_false, cond_true]
      rw [gd_p (by simp only [maxS, List.length_singleton]; omega)]
  · rfl
theorem Parse_root : path_Parse NN [47] = some ([], 0) := rfl

/-! ## made paths -/
def calls : List B := [[97], [98], [97, 48], [126], [33], [120, 46, 121], [116, 119, 101, 108, 118, 101, 108, 101, 116, 116, 101, 114], [46, 46, 46]]
def callN (n : Int) : B := rdL calls (Int.tmod n 8) []
theorem Call_eq {n : Int} (h : 0 ≤ n) : ref01_Call NN n = some (callN n) := by
  have h1 := Int.tmod_nonneg 8 h
  have h2 : Int.tmod n 8 < 8 := Int.tmod_lt_of_pos _ (by omega)
  simp only [ref01_Call]
  rw [gd_t (by simp [inB]; omega)]
  rfl
theorem callN_mem {n : Int} (h : 0 ≤ n) : callN n ∈ calls := by
  have h1 := Int.tmod_nonneg 8 h
  have h2 : Int.tmod n 8 < 8 := Int.tmod_lt_of_pos _ (by omega)
  unfold callN rdL
  have hl : (Int.tmod n 8).toNat < calls.length := by simp [calls]; omega
  rw [List.getD_eq_getElem?_getD, List.getElem?_eq_getElem hl]
  exact List.getElem_mem hl
theorem calls_name : (calls.all nameB) = true := by decide +kernel
theorem callN_name {n : Int} (h : 0 ≤ n) : nameB (callN n) = true := List.all_eq_true.1 calls_name _ (callN_mem h)

def U8s (l : List Int) : Prop := ∀ x ∈ l, 0 ≤ x ∧ x < 256
def madeN (l : List Int) : List B := (l.take 4).map callN
def madeP (l : List Int) : B := joinP (madeN l)
theorem madeN_name {l : List Int} (h : U8s l) : ∀ n ∈ madeN l, nameB n = true := fun n hn => by
  obtain ⟨x, hx, rfl⟩ := List.mem_map.1 hn
  exact callN_name (h x (List.mem_of_mem_take hx)).1
theorem join_len : ∀ {l : List B}, (∀ n ∈ l, nameB n = true) → (joinP l).length ≤ 13 * l.length
  | [], _ => by simp [joinP]
  | n :: l, h => by
    have h1 := name_len (h n (by simp))
    have := join_len (l := l) fun m hm => h m (by simp [hm])
    rw [joinP_cons]
    simp only [List.length_append, List.length_cons]
    omega
theorem madeN_len (l : List Int) : (madeN l).length ≤ 4 := by simp [madeN]; omega
theorem madeP_len {l : List Int} (h : U8s l) : (madeP l).length ≤ 52 := by
  have := join_len (madeN_name h)
  have := madeN_len l
  unfold madeP; omega
theorem madeP_valid {l : List Int} (h : U8s l) : validB (madeP l) = true := valid_join (madeN_name h)

theorem Made_l0 (N : Nat) : ∀ (post pre : List Int) (n : Nat) (acc : B), 4 < n + pre.length → pre.length ≤ 4 → U8s post → acc.length + 13 * (4 - pre.length) ≤ 1000 →
    ref01_Made_l0 NN n (pre ++ post) acc (pre.length : Int) = some (acc ++ joinP ((post.take (4 - pre.length)).map callN), ())
  | _, _, 0, _, h, h', _, _ => by omega
  | [], pre, n + 1, acc, _, _, _, _ => by
    rw [ref01_Made_l0_succ]
    simp only [ref01_Made_l0_step, List.append_nil, Int.lt_irrefl, decide_false, cond_false]
    simp [joinP]
  | x :: post, pre, n + 1, acc, hn, h4, hu, ha => by
    have hx := hu x (by simp)
    rw [ref01_Made_l0_succ]
    simp only [ref01_Made_l0_step, lt_mid, cond_true]
    by_cases e : pre.length = 4
    · have d : decide ((pre.length : Int) < 4) = false := by simp; omega
      simp only [d, cond_false, e, Nat.sub_self, List.take_zero, List.map_nil]
      simp [joinP]
    · have d : decide ((pre.length : Int) < 4) = true := by simp; omega
      have hc := name_len (callN_name hx.1)
      have w : IntKind.wrap .i64 ((pre.length : Int) + 1) = ((pre ++ [x]).length : Int) := by
        rw [w64 (by omega) (by omega)]; simp
      simp only [d, cond_true, in_mid, rd_mid, Call_eq hx.1, w]
      rw [gd_t rfl, gd_p (by simp only [maxS, List.length_singleton]; omega), gd_p (by simp only [maxS, List.length_append, List.length_singleton]; omega), app_mid (pre := pre) (q := x) (post := post)]
      rw [Made_l0 N post (pre ++ [x]) n _ (by simp; omega) (by simp; omega) (fun y hy => hu y (by simp [hy])) (by simp; omega)]
      have e4 : 4 - pre.length = (4 - (pre ++ [x]).length) + 1 := by simp; omega
      rw [e4, List.take_succ_cons, List.map_cons, joinP_cons]
      simp

theorem Made_eq {l : List Int} (h : U8s l) : ref01_Made NN l = some (madeP l) := by
  have := Made_l0 NN l [] NN [] (by simp only [NN]; omega) (by simp) h (by simp)
  have hz : (([] : List Int).length : Int) = 0 := rfl
  simp only [List.nil_append, hz] at this
  simp only [ref01_Made, this]
  rfl
end Ds
