/- Names, paths, and what the program's functions of them compute. -/
import Derived.Test.YtmffojmbfphidaaDoorDsPure
import Derived.Test.YtmffojmbfphidaaDoorDvD
import Derived.Test.YtmffojmbfphidaaDoorDvE
import Derived.KernelRfl
import Derived.Laws.BitsLemmas
set_option linter.all false
namespace Ds
open Go Go.Dv
set_option maxRecDepth 100000
set_option linter.unusedVariables false

abbrev B := List UInt8
abbrev NN : Nat := 1000000
theorem sanity1 : law01_sanity NN = some true := by decide +kernel

/-! ## runes -/
def okc (b : UInt8) : Bool := decide (33 ≤ b.toNat) && (decide (b.toNat ≤ 126) && !(b == 47))

theorem c1_low (r : Nat) (h : r < 128) : (path_isName_c1 NN (r : Int)).getD false = !(decide (33 ≤ r) && (decide (r ≤ 126) && !(r == 47))) := by
  have : ((List.range 128).all fun r => (path_isName_c1 NN (r : Int)).getD false == !(decide (33 ≤ r) && (decide (r ≤ 126) && !(r == 47)))) = true := by decide +kernel
  simpa using List.all_eq_true.1 this r (List.mem_range.2 h)
theorem c1_high (r : Nat) (h : 128 ≤ r) : (path_isName_c1 NN (r : Int)).getD false = true := by
  have e1 : decide ((r : Int) < 33) = false := by simp; omega
  have e2 : decide ((126 : Int) < (r : Int)) = true := by simp; omega
  simp only [path_isName_c1, e1, e2, cond_true, cond_false, Option.getD_some]

theorem dec_low (s : ByteArray) (i : Nat) (h : (s.get! i).toNat < 128) : Utf8.decode s i = ((s.get! i).toNat, 1) := by
  have h0 : (s.get! (i + 0)).toNat < 128 := h
  simp only [Utf8.decode]
  rw [if_pos h0]; rfl
theorem dec_high (s : ByteArray) (i : Nat) (h : 128 ≤ (s.get! i).toNat) : 128 ≤ (Utf8.decode s i).1 := by
  have h0 : ¬ (s.get! (i + 0)).toNat < 128 := by show ¬ (s.get! i).toNat < 128; omega
  have e : 128 ≤ Utf8.runeError := by decide
  simp only [Utf8.decode]
  rw [if_neg h0]
  split
  · split
    · assumption
    · exact e
  · split
    · split
      · rename_i h; simp only [Bool.and_eq_true, decide_eq_true_eq] at h; show 128 ≤ _; omega
      · exact e
    · split
      · split
        · rename_i h; simp only [Bool.and_eq_true, decide_eq_true_eq] at h; show 128 ≤ _; omega
        · exact e
      · exact e

theorem get_sB (s : B) (i : Nat) (h : i < s.length) : (sB s).get! i = s[i] := by
  unfold ByteArray.get! sB
  simp [getElem!_pos, h]
theorem size_sB (s : B) : (sB s).size = s.length := by simp [sB, ByteArray.size]

theorem c1_byte (b : UInt8) : (b.toNat < 128 → (path_isName_c1 NN (b.toNat : Int)).getD false = !(okc b)) := fun h => by
  rw [c1_low _ h]
  have : (b.toNat == 47) = (b == 47) := by
    rw [Bool.eq_iff_iff]; simp [← UInt8.toNat_inj]
  rw [this]; rfl

theorem idx_ok (s : B) : ∀ (f pos : Nat), s.length ≤ pos + f → (s.drop pos).all okc = true → Lib.idxFuncFrom (fun r => (path_isName_c1 NN (r : Int)).getD false) true (sB s) f pos = -1
  | 0, pos, _, _ => rfl
  | f + 1, pos, hf, ha => by
    unfold Lib.idxFuncFrom
    rw [size_sB]
    by_cases hp : pos < s.length
    · have hd : s.drop pos = s[pos] :: s.drop (pos + 1) := List.drop_eq_getElem_cons hp
      rw [hd, List.all_cons, Bool.and_eq_true] at ha
      have hb : (s[pos]).toNat < 128 := by
        have := ha.1
        simp only [okc, Bool.and_eq_true, decide_eq_true_eq] at this
        omega
      rw [if_pos hp, dec_low (sB s) pos (by rw [get_sB s pos hp]; exact hb), get_sB s pos hp]
      have := c1_byte s[pos] hb
      simp only [this, ha.1, Bool.not_true]
      rw [if_neg (by decide)]
      exact idx_ok s f (pos + 1) (by omega) ha.2
    · rw [if_neg hp]

theorem idx_bad (s : B) : ∀ (f pos : Nat), s.length ≤ pos + f → (s.drop pos).all okc = false → 0 ≤ Lib.idxFuncFrom (fun r => (path_isName_c1 NN (r : Int)).getD false) true (sB s) f pos
  | 0, pos, hf, ha => by
    rw [List.drop_eq_nil_of_le (by omega)] at ha
    cases ha
  | f + 1, pos, hf, ha => by
    unfold Lib.idxFuncFrom
    rw [size_sB]
    by_cases hp : pos < s.length
    · have hd : s.drop pos = s[pos] :: s.drop (pos + 1) := List.drop_eq_getElem_cons hp
      rw [hd, List.all_cons] at ha
      rw [if_pos hp]
      by_cases hb : (s[pos]).toNat < 128
      · rw [dec_low (sB s) pos (by rw [get_sB s pos hp]; exact hb), get_sB s pos hp]
        have := c1_byte s[pos] hb
        simp only [this]
        cases ho : okc s[pos]
        · rw [if_pos (by rfl)]; omega
        · rw [if_neg (by decide)]
          rw [ho] at ha
          exact idx_bad s f (pos + 1) (by omega) (by simpa using ha)
      · have := dec_high (sB s) pos (by rw [get_sB s pos hp]; omega)
        rw [c1_high _ this, if_pos rfl]; omega
    · rw [List.drop_eq_nil_of_le (by omega)] at ha
      cases ha

theorem idxF_name (s : B) : decide (idxF (path_isName_c1 NN) true s < 0) = s.all okc := by
  unfold idxF Lib.idxFunc
  have hl : s.length ≤ 0 + (sB s).size := by rw [size_sB]; omega
  cases h : s.all okc
  · have := idx_bad s (sB s).size 0 hl h
    simp; omega
  · have := idx_ok s (sB s).size 0 hl h
    rw [this]; rfl

def nameB (s : B) : Bool := bif eqs s [] then false else bif decide ((12 : Int) < (s.length : Int)) then false else bif eqs s [46] then false else bif eqs s [46, 46] then false else s.all okc
theorem isName_eq (s : B) : path_isName NN s = some (nameB s) := by
  simp only [path_isName, strings_IndexFunc__path_isName_c1, strings_indexFunc__path_isName_c1, idxF_name, nameB]
  cases eqs s []
  · simp only [cond_false]
    cases decide ((12 : Int) < (s.length : Int))
    · simp only [cond_false]
      cases eqs s [46]
      · simp only [cond_false]
        cases eqs s [46, 46] <;> rfl
      · rfl
    · rfl
  · rfl
theorem name_len {s : B} (h : nameB s = true) : 1 ≤ s.length ∧ s.length ≤ 12 := by
  unfold nameB at h
  cases e1 : eqs s []
  · rw [e1] at h
    cases e2 : decide ((12 : Int) < (s.length : Int))
    · have := of_decide_eq_false e2
      refine ⟨?_, by omega⟩
      cases s with
      | nil => rw [eqs_self] at e1; cases e1
      | cons b l => simp
    · rw [e2] at h; cases h
  · rw [e1] at h; cases h
theorem name_all {s : B} (h : nameB s = true) : s.all okc = true := by
  unfold nameB at h
  cases e1 : eqs s [] <;> rw [e1] at h
  · cases e2 : decide ((12 : Int) < (s.length : Int)) <;> rw [e2] at h
    · cases e3 : eqs s [46] <;> rw [e3] at h
      · cases e4 : eqs s [46, 46] <;> rw [e4] at h
        · exact h
        · cases h
      · cases h
    · cases h
  · cases h
theorem name_sl {s : B} (h : nameB s = true) : 47 ∉ s := fun hm => by
  have := List.all_eq_true.1 (name_all h) 47 hm
  revert this; decide

/-! ## cuts -/
theorem ib_none : ∀ {s : B} {c : UInt8}, c ∉ s → Lib.indexByte s c = -1
  | [], _, _ => rfl
  | b :: l, c, h => by
    have h1 : (b == c) = false := by
      cases e : b == c
      · rfl
      · exact absurd (by simp [eq_of_beq e]) h
    have := ib_none (s := l) (c := c) fun hm => h (by simp [hm])
    simp only [Lib.indexByte, h1, this, Bool.false_eq_true, if_false]
    rfl
theorem ib_mid : ∀ {a t : B} {c : UInt8}, c ∉ a → Lib.indexByte (a ++ c :: t) c = a.length
  | [], t, c, _ => by simp [Lib.indexByte]
  | b :: a, t, c, h => by
    have h1 : (b == c) = false := by
      cases e : b == c
      · rfl
      · exact absurd (by simp [eq_of_beq e]) h
    have := ib_mid (a := a) (t := t) (c := c) fun hm => h (by simp [hm])
    have hne : ((a.length : Int) == -1) = false := by
      cases e : ((a.length : Int) == -1)
      · rfl
      · have := eq_of_beq e; omega
    simp only [List.cons_append, Lib.indexByte, h1, this, Bool.false_eq_true, if_false, hne, List.length_cons]
    omega

def SL : B := [47]
theorem index_sl (s : B) : stringslite_Index NN s [47] = some (Lib.indexByte s 47) := by
  simp only [stringslite_Index]
  have e0 : eqi (([47] : B).length : Int) 0 = false := rfl
  have e1 : eqi (([47] : B).length : Int) 1 = true := rfl
  rw [e0, e1]
  cases h : eqs [47] s
  · simp only [cond_false, cond_true]
    rw [gd_t (b := inB 0 ([47] : B).length) rfl]
    rfl
  · rw [← eqs_iff.1 h]; rfl

theorem cut_none {s : B} (h : 47 ∉ s) (hs : s.length < 1000000000) : strings_Cut NN s [47] = some (s, [], false) := by
  simp only [strings_Cut, stringslite_Cut, index_sl, ib_none h]
  rfl
theorem cut_mid {a t : B} (h : 47 ∉ a) (hs : (a ++ 47 :: t).length < 9223372036854775807) : strings_Cut NN (a ++ 47 :: t) [47] = some (a, t, true) := by
  simp only [List.length_append, List.length_cons] at hs
  have w : IntKind.wrap .i64 ((a.length : Int) + (([47] : B).length : Int)) = (a.length : Int) + 1 := by
    rw [w64 (by simp; omega) (by simp; omega)]; rfl
  have d : decide ((0 : Int) ≤ (a.length : Int)) = true := by simp
  have c1 : cut2 (a ++ 47 :: t) (0 : Int) (a.length : Int) = a := by simp [cut2]
  have c2 : cut2 (a ++ 47 :: t) ((a.length : Int) + 1) ((a ++ 47 :: t).length : Int) = t := by
    unfold cut2
    have e : ((a.length : Int) + 1).toNat = a.length + 1 := by omega
    rw [e, show (a ++ 47 :: t).drop (a.length + 1) = t by simp [List.drop_append]]
    exact List.take_of_length_le (by simp; omega)
  simp only [strings_Cut, stringslite_Cut, index_sl, ib_mid h, d, cond_true, w, c1, c2]
  rw [gd_t (by simp; omega), gd_t (by simp; omega)]

/-! ## splitting a text -/
def spl : B → List B × B
  | [] => ([], [])
  | b :: l => bif b == 47 then ([] :: (spl l).1, (spl l).2) else match (spl l).1 with | [] => ([], b :: (spl l).2) | n :: ns => ((b :: n) :: ns, (spl l).2)
def validB (s : B) : Bool := (spl s).1.all nameB && (spl s).2.isEmpty

theorem spl_none : ∀ {s : B}, 47 ∉ s → spl s = ([], s)
  | [], _ => rfl
  | b :: l, h => by
    have h1 : (b == 47) = false := by
      cases e : b == 47
      · rfl
      · exact absurd (by simp [eq_of_beq e]) h
    simp only [spl, h1, cond_false, spl_none (s := l) fun hm => h (by simp [hm])]
theorem spl_mid : ∀ {a t : B}, 47 ∉ a → spl (a ++ 47 :: t) = (a :: (spl t).1, (spl t).2)
  | [], t, _ => by simp [spl]
  | b :: a, t, h => by
    have h1 : (b == 47) = false := by
      cases e : b == 47
      · rfl
      · exact absurd (by simp [eq_of_beq e]) h
    simp only [List.cons_append, spl, h1, cond_false, spl_mid (a := a) (t := t) fun hm => h (by simp [hm])]

theorem sl_cases (s : B) : 47 ∉ s ∨ ∃ a t, 47 ∉ a ∧ s = a ++ 47 :: t := by
  induction s with
  | nil => exact .inl (by simp)
  | cons b l ih =>
    by_cases hb : b = 47
    · exact .inr ⟨[], l, by simp, by rw [hb]; rfl⟩
    · rcases ih with h | ⟨a, t, h1, h2⟩
      · exact .inl (by simp; exact ⟨fun e => hb e.symm, h⟩)
      · exact .inr ⟨b :: a, t, by simp; exact ⟨fun e => hb e.symm, h1⟩, by rw [h2]; rfl⟩

theorem valid_l0 : ∀ (n : Nat) (s : B), s.length < n → s.length < 1000000000 → path_Valid_l0 NN n s = some (bif validB s then .inr ((), ()) else .inl (false, ()))
  | 0, _, h, _ => absurd h (Nat.not_lt_zero _)
  | n + 1, s, h, hs => by
    rw [path_Valid_l0_succ]
    simp only [path_Valid_l0_step]
    cases e : eqs s []
    · simp only [Bool.not_false, cond_true]
      have hne : s ≠ [] := fun e' => by rw [e', eqs_self] at e; cases e
      rcases sl_cases s with h0 | ⟨a, t, h1, h2⟩
      · simp only [cut_none h0 hs, Bool.not_false, cond_true]
        have : validB s = false := by
          unfold validB
          rw [spl_none h0]
          cases s with
          | nil => exact absurd rfl hne
          | cons b l => rfl
        rw [this]; rfl
      · rw [h2] at h hs ⊢
        rw [cut_mid h1 (by omega)]
        simp only [Bool.not_true, cond_false, isName_eq]
        simp only [List.length_append, List.length_cons] at h hs
        unfold validB
        rw [spl_mid h1, List.all_cons]
        cases en : nameB a
        · rfl
        · simp only [Bool.not_true, cond_false, Bool.true_and]
          exact valid_l0 n t (by omega) (by omega)
    · rw [eqs_iff.1 e]; rfl

theorem Valid_eq {s : B} (hs : s.length < 1000000) : path_Valid NN s = some (validB s) := by
  simp only [path_Valid, valid_l0 NN s (by simp only [NN]; omega) (by omega)]
  cases validB s <;> rfl

/-- a path of names -/
def joinP (l : List B) : B := (l.map fun n => n ++ [47]).flatten
theorem joinP_cons (n : B) (l : List B) : joinP (n :: l) = n ++ 47 :: joinP l := by simp [joinP]
theorem joinP_append (a b : List B) : joinP (a ++ b) = joinP a ++ joinP b := by simp [joinP]
theorem spl_join : ∀ {l : List B}, (∀ n ∈ l, 47 ∉ n) → spl (joinP l) = (l, [])
  | [], _ => rfl
  | n :: l, h => by
    rw [joinP_cons, spl_mid (h n (by simp)), spl_join fun m hm => h m (by simp [hm])]
theorem valid_join {l : List B} (h : ∀ n ∈ l, nameB n = true) : validB (joinP l) = true := by
  unfold validB
  rw [spl_join fun n hn => name_sl (h n hn)]
  simp only [List.isEmpty_nil, Bool.and_true]
  exact List.all_eq_true.2 h

/-! ## prefixes and suffixes -/
theorem HasPre (s p : B) (hs : s.length < 9223372036854775807) : stringslite_HasPrefix NN s p = some (p.isPrefixOf s) := by
  simp only [stringslite_HasPrefix]
  cases e : decide ((p.length : Int) ≤ (s.length : Int))
  · have e := of_decide_eq_false e
    have : p.isPrefixOf s = false := by
      cases h : p.isPrefixOf s
      · rfl
      · have := (List.isPrefixOf_iff_prefix.1 h).length_le; omega
    rw [this]; rfl
  · have e := of_decide_eq_true e
    have c : cut2 s (0 : Int) (p.length : Int) = s.take p.length := by simp [cut2]
    simp only [cond_true, c]
    rw [gd_t (by simp)]
    congr 1
    rw [Bool.eq_iff_iff, eqs_iff, List.isPrefixOf_iff_prefix]
    exact ⟨fun h => List.prefix_iff_eq_take.2 h.symm, fun h => (List.prefix_iff_eq_take.1 h).symm⟩
theorem Under_eq (s p : B) (hs : s.length < 9223372036854775807) : path_Under NN s p = some (p.isPrefixOf s) := by
  simp only [path_Under, strings_HasPrefix, HasPre s p hs]

theorem cutpre_sl (t : B) (h : (47 :: t).length < 9223372036854775807) : strings_CutPrefix NN (47 :: t) [47] = some (t, true) := by
  have hp : ([47] : B).isPrefixOf (47 :: t) = true := by simp [List.isPrefixOf]
  have c : cut2 (47 :: t) (([47] : B).length : Int) ((47 :: t).length : Int) = t := by
    unfold cut2
    have d : (47 :: t).drop (Int.toNat (([47] : B).length : Int)) = t := rfl
    rw [d]; exact List.take_of_length_le (by simp)
  simp only [strings_CutPrefix, stringslite_CutPrefix, HasPre _ _ h, hp, Bool.not_true, cond_false, c]
  rw [gd_t (by simp; omega)]
theorem cutpre_no {s : B} (h : ([47] : B).isPrefixOf s = false) (hs : s.length < 9223372036854775807) : strings_CutPrefix NN s [47] = some (s, false) := by
  simp only [strings_CutPrefix, stringslite_CutPrefix, HasPre _ _ hs, h, Bool.not_false, cond_true]
theorem pre_cases (s : B) : ([47] : B).isPrefixOf s = false ∨ ∃ t, s = 47 :: t := by
  cases s with
  | nil => exact .inl rfl
  | cons b l =>
    by_cases e : b = 47
    · exact .inr ⟨l, by rw [e]⟩
    · exact .inl (by simp [List.isPrefixOf]; exact fun h => e h.symm)

theorem trimsuf (t : B) (h : t.length < 1000000000) : strings_TrimSuffix NN (t ++ [47]) [47] = some t := by
  have w : IntKind.wrap .i64 (((t ++ [47]).length : Int) - (([47] : B).length : Int)) = (t.length : Int) := by
    rw [w64 (by simp) (by simp; omega)]; simp
  have d : decide ((([47] : B).length : Int) ≤ ((t ++ [47]).length : Int)) = true := by simp; omega
  have c : cut2 (t ++ [47]) (t.length : Int) ((t ++ [47]).length : Int) = [47] := by simp [cut2]
  have c0 : cut2 (t ++ [47]) (0 : Int) (t.length : Int) = t := by simp [cut2]
  simp only [strings_TrimSuffix, stringslite_TrimSuffix, stringslite_HasSuffix, d, cond_true, w, c, eqs_self, c0]
  rw [gd_t (by simp; omega), gd_t (by simp; omega)]
  rfl
theorem trimsuf_nil : strings_TrimSuffix NN [] [47] = some [] := rfl

theorem Text_sl (t : B) (h : t.length < 1000000000) : path_Text NN (t ++ [47]) = some (47 :: t) := by
  simp only [path_Text, trimsuf t h]
  rw [gd_p (by simp only [maxS, List.length_singleton]; omega)]
  rfl
theorem Text_nil : path_Text NN [] = some [47] := rfl

theorem Parse_no {s : B} (h : ([47] : B).isPrefixOf s = false) (hs : s.length < 9223372036854775807) : path_Parse NN s = some ([], 10) := by
  simp only [path_Parse, cutpre_no h hs, Bool.not_false, cond_true]
theorem Parse_sl (t : B) (hs : t.length < 1000) (h0 : t ≠ []) : path_Parse NN (47 :: t) = some (bif decide ((200 : Int) < ((47 :: t).length : Int)) then ([], 10) else bif validB (t ++ [47]) then (t ++ [47], 0) else ([], 10)) := by
  have e0 : eqs t [] = false := eqs_ne h0
  simp only [path_Parse, cutpre_sl t (by simp; omega), Bool.not_true, cond_false, e0]
  cases decide ((200 : Int) < ((47 :: t).length : Int))
  · simp only [cond_false]
    rw [gd_p (by simp only [maxS, List.length_singleton]; omega), Valid_eq (by simp; omega)]
    cases validB (t ++ [47])
    · rfl
    · simp only [Bool.not_true, cond_false, cond_true]
      rw [gd_p (by simp only [maxS, List.length_singleton]; omega)]
  · rfl
theorem Parse_root : path_Parse NN [47] = some ([], 0) := rfl

/-! ## made paths -/
def calls : List B := [[97], [98], [97, 48], [126], [33], [120, 46, 121], [116, 119, 101, 108, 118, 101, 108, 101, 116, 116, 101, 114], [46, 46, 46]]
def callN (n : Int) : B := rdL calls (Int.tmod n 8) []
theorem Call_eq {n : Int} (h : 0 ≤ n) : ref01_Call NN n = some (callN n) := by
  have h1 := Int.tmod_nonneg 8 h
  have h2 : Int.tmod n 8 < 8 := Int.tmod_lt_of_pos _ (by omega)
  simp only [ref01_Call]
  rw [gd_t (by simp [inB]; omega)]
  rfl
theorem callN_mem {n : Int} (h : 0 ≤ n) : callN n ∈ calls := by
  have h1 := Int.tmod_nonneg 8 h
  have h2 : Int.tmod n 8 < 8 := Int.tmod_lt_of_pos _ (by omega)
  unfold callN rdL
  have hl : (Int.tmod n 8).toNat < calls.length := by simp [calls]; omega
  rw [List.getD_eq_getElem?_getD, List.getElem?_eq_getElem hl]
  exact List.getElem_mem hl
theorem calls_name : (calls.all nameB) = true := by decide +kernel
theorem callN_name {n : Int} (h : 0 ≤ n) : nameB (callN n) = true := List.all_eq_true.1 calls_name _ (callN_mem h)

def U8s (l : List Int) : Prop := ∀ x ∈ l, 0 ≤ x ∧ x < 256
def madeN (l : List Int) : List B := (l.take 4).map callN
def madeP (l : List Int) : B := joinP (madeN l)
theorem madeN_name {l : List Int} (h : U8s l) : ∀ n ∈ madeN l, nameB n = true := fun n hn => by
  obtain ⟨x, hx, rfl⟩ := List.mem_map.1 hn
  exact callN_name (h x (List.mem_of_mem_take hx)).1
theorem join_len : ∀ {l : List B}, (∀ n ∈ l, nameB n = true) → (joinP l).length ≤ 13 * l.length
  | [], _ => by simp [joinP]
  | n :: l, h => by
    have h1 := name_len (h n (by simp))
    have := join_len (l := l) fun m hm => h m (by simp [hm])
    rw [joinP_cons]
    simp only [List.length_append, List.length_cons]
    omega
theorem madeN_len (l : List Int) : (madeN l).length ≤ 4 := by simp [madeN]; omega
theorem madeP_len {l : List Int} (h : U8s l) : (madeP l).length ≤ 52 := by
  have := join_len (madeN_name h)
  have := madeN_len l
  unfold madeP; omega
theorem madeP_valid {l : List Int} (h : U8s l) : validB (madeP l) = true := valid_join (madeN_name h)

theorem Made_l0 (N : Nat) : ∀ (post pre : List Int) (n : Nat) (acc : B), 4 < n + pre.length → pre.length ≤ 4 → U8s post → acc.length + 13 * (4 - pre.length) ≤ 1000 →
    ref01_Made_l0 NN n (pre ++ post) acc (pre.length : Int) = some (acc ++ joinP ((post.take (4 - pre.length)).map callN), ())
  | _, _, 0, _, h, h', _, _ => by omega
  | [], pre, n + 1, acc, _, _, _, _ => by
    rw [ref01_Made_l0_succ]
    simp only [ref01_Made_l0_step, List.append_nil, Int.lt_irrefl, decide_false, cond_false]
    simp [joinP]
  | x :: post, pre, n + 1, acc, hn, h4, hu, ha => by
    have hx := hu x (by simp)
    rw [ref01_Made_l0_succ]
    simp only [ref01_Made_l0_step, lt_mid, cond_true]
    by_cases e : pre.length = 4
    · have d : decide ((pre.length : Int) < 4) = false := by simp; omega
      simp only [d, cond_false, e, Nat.sub_self, List.take_zero, List.map_nil]
      simp [joinP]
    · have d : decide ((pre.length : Int) < 4) = true := by simp; omega
      have hc := name_len (callN_name hx.1)
      have w : IntKind.wrap .i64 ((pre.length : Int) + 1) = ((pre ++ [x]).length : Int) := by
        rw [w64 (by omega) (by omega)]; simp
      simp only [d, cond_true, in_mid, rd_mid, Call_eq hx.1, w]
      rw [gd_t rfl, gd_p (by simp only [maxS, List.length_singleton]; omega), gd_p (by simp only [maxS, List.length_append, List.length_singleton]; omega), app_mid (pre := pre) (q := x) (post := post)]
      rw [Made_l0 N post (pre ++ [x]) n _ (by simp; omega) (by simp; omega) (fun y hy => hu y (by simp [hy])) (by simp; omega)]
      have e4 : 4 - pre.length = (4 - (pre ++ [x]).length) + 1 := by simp; omega
      rw [e4, List.take_succ_cons, List.map_cons, joinP_cons]
      simp

theorem Made_eq {l : List Int} (h : U8s l) : ref01_Made NN l = some (madeP l) := by
  have := Made_l0 NN l [] NN [] (by simp only [NN]; omega) (by simp) h (by simp)
  have hz : (([] : List Int).length : Int) = 0 := rfl
  simp only [List.nil_append, hz] at this
  simp only [ref01_Made, this]
  rfl
end Ds

/- The plain law of PathTyped. -/
namespace Ds
open Go Go.Dv
set_option maxRecDepth 100000
set_option linter.unusedVariables false

theorem snoc_cases (s : B) : s = [] ∨ ∃ t c, s = t ++ [c] := by
  rcases List.eq_nil_or_concat s with h | ⟨t, c, h⟩
  · exact .inl h
  · exact .inr ⟨t, c, by simpa using h⟩
theorem spl_snd : ∀ (s : B), ∃ a, s = a ++ (spl s).2 ∧ 47 ∉ (spl s).2 ∧ (a = [] ∨ ∃ t, a = t ++ [47])
  | [] => ⟨[], rfl, by simp [spl], .inl rfl⟩
  | b :: l => by
    obtain ⟨a, h1, h2, h3⟩ := spl_snd l
    by_cases e : b = 47
    · have e1 : (b == 47) = true := by simp [e]
      simp only [spl, e1, cond_true]
      refine ⟨b :: a, by rw [List.cons_append, ← h1], h2, .inr ?_⟩
      rcases h3 with rfl | ⟨t, rfl⟩
      · exact ⟨[], by rw [e]; rfl⟩
      · exact ⟨b :: t, rfl⟩
    · have e1 : (b == 47) = false := by simp [e]
      simp only [spl, e1, cond_false]
      cases hn : (spl l).1 with
      | nil =>
        have hl : 47 ∉ l := by
          intro hm
          rcases sl_cases l with h | ⟨x, t, h4, h5⟩
          · exact h hm
          · rw [h5, spl_mid h4] at hn; cases hn
        rw [spl_none hl]
        exact ⟨[], rfl, by simp; exact ⟨fun h => e h.symm, hl⟩, .inl rfl⟩
      | cons n ns =>
        refine ⟨b :: a, by rw [List.cons_append, ← h1], h2, .inr ?_⟩
        rcases h3 with rfl | ⟨t, rfl⟩
        · exfalso
          have := h1
          simp only [List.nil_append] at this
          rw [← this] at h2
          rw [spl_none h2] at hn; cases hn
        · exact ⟨b :: t, rfl⟩
/-- a path ends with a slash -/
theorem valid_end {s : B} (h : validB s = true) : s = [] ∨ ∃ t, s = t ++ [47] := by
  unfold validB at h
  simp only [Bool.and_eq_true, List.isEmpty_iff] at h
  obtain ⟨a, h1, _, h3⟩ := spl_snd s
  rw [h.2, List.append_nil] at h1
  rw [h1]; exact h3

theorem u8s_of {l : List Int} (h : okSh (.list (.int .u8)) l) : U8s l := by
  intro x hx
  obtain ⟨i, hi, rfl⟩ := List.getElem_of_mem hx
  exact u8_of_wf (h.2 i _ (List.getElem?_eq_getElem hi))

theorem plainTyped (l : List Int) (s : List UInt8) (hl : okSh (.list (.int .u8)) l) (hs : okSh .str s) : law01_PathTyped NN l s = some true := by
  have hu := u8s_of hl
  have hp := madeP_len hu
  have hv := madeP_valid hu
  simp only [law01_PathTyped, sanity1, Made_eq hu]
  cases e : decide ((220 : Int) < (s.length : Int))
  · have e := of_decide_eq_false e
    simp only [cond_false]
    have h1 : ∃ t, path_Text NN (madeP l) = some t ∧ path_Parse NN t = some (madeP l, 0) := by
      rcases valid_end hv with h | ⟨t, h⟩
      · exact ⟨[47], by rw [h]; rfl, by rw [h]; rfl⟩
      · rw [h] at hv hp ⊢
        simp only [List.length_append, List.length_singleton] at hp
        by_cases ht : t = []
        · rw [ht] at hv
          exact absurd hv (by decide)
        · refine ⟨_, Text_sl t (by omega), ?_⟩
          have d : decide ((200 : Int) < ((47 :: t).length : Int)) = false := by simp; omega
          rw [Parse_sl t (by omega) ht, d, hv]; rfl
    obtain ⟨t, h1, h2⟩ := h1
    simp only [h1, h2, eqi_self, eqs_self, Bool.not_true, cond_false]
    have z : eqi (0 : Int) 10 = false := rfl
    rcases pre_cases s with h | ⟨t, rfl⟩
    · simp only [Parse_no h (by omega), eqi_self, eqs_self, cond_true]
    · by_cases ht : t = []
      · rw [ht]; rfl
      · simp only [List.length_cons] at e
        rw [Parse_sl t (by omega) ht]
        cases e2 : decide ((200 : Int) < ((47 :: t).length : Int))
        · simp only [cond_false]
          cases e3 : validB (t ++ [47])
          · simp only [cond_false, eqi_self, eqs_self, cond_true]
          · simp only [cond_true, z, eqi_self, cond_false, Valid_eq (s := t ++ [47]) (by simp; omega), e3, Text_sl t (by omega), eqs_self]
        · simp only [cond_true, eqi_self, eqs_self]
  · rfl
end Ds

/- The plain law of PathJoins. -/
namespace Ds
open Go Go.Dv
set_option maxRecDepth 100000
set_option linter.unusedVariables false

theorem last_l0 (a b : B) (hb : 47 ∉ b) (ha : a = [] ∨ ∃ t, a = t ++ [47]) (hl : (a ++ b).length < 1000000) : ∀ (j n : Nat), j ≤ b.length → j < n →
    bytealg_LastIndexByteString_l0 NN n (a ++ b) 47 ((a.length : Int) + (j : Int) - 1) = some (if a = [] then .inr ((), ()) else .inl ((a.length : Int) - 1, ()))
  | _, 0, _, h => absurd h (Nat.not_lt_zero _)
  | 0, n + 1, _, _ => by
    rw [bytealg_LastIndexByteString_l0_succ]
    simp only [bytealg_LastIndexByteString_l0_step]
    rcases ha with rfl | ⟨t, rfl⟩
    · rfl
    · have e : (((t ++ [47]).length : Int) + ((0 : Nat) : Int) - 1) = (t.length : Int) := by simp
      have d : decide ((0 : Int) ≤ (t.length : Int)) = true := by simp
      have r : bt (t ++ [47] ++ b) (t.length : Int) = 47 := by simp [bt]
      rw [e]
      simp only [d, cond_true, r]
      rw [gd_t (by simp [inB]; omega), if_neg (by simp)]
      simp
  | j + 1, n + 1, hj, hn => by
    have hjl : j < b.length := by omega
    have e : ((a.length : Int) + ((j + 1 : Nat) : Int) - 1) = ((a.length + j : Nat) : Int) := by omega
    have d : decide ((0 : Int) ≤ ((a.length + j : Nat) : Int)) = true := by simp; omega
    have r : bt (a ++ b) ((a.length + j : Nat) : Int) = (b[j].toNat : Int) := by
      unfold bt
      rw [Int.toNat_natCast, List.getD_eq_getElem?_getD, List.getElem?_append_right (by omega), show a.length + j - a.length = j by omega, List.getElem?_eq_getElem hjl]
      rfl
    have ne : eqi ((b[j].toNat : Nat) : Int) 47 = false := eqi_ne fun h => by
      have h1 : b[j].toNat = 47 := by omega
      have h2 : b[j] = 47 := by rw [← UInt8.toNat_inj]; exact h1
      exact hb (h2 ▸ List.getElem_mem hjl)
    have w : IntKind.wrap .i64 (((a.length + j : Nat) : Int) - (1 : Int)) = (a.length : Int) + (j : Int) - 1 := by
      simp only [List.length_append] at hl
      rw [w64 (by omega) (by omega)]; omega
    rw [e, bytealg_LastIndexByteString_l0_succ]
    simp only [bytealg_LastIndexByteString_l0_step, d, cond_true, r, ne, cond_false, w]
    rw [gd_t (by simp [inB]; omega)]
    exact last_l0 a b hb ha hl j n (by omega) (by omega)

theorem last_eq (a b : B) (hb : 47 ∉ b) (ha : a = [] ∨ ∃ t, a = t ++ [47]) (hl : (a ++ b).length < 100000) : strings_LastIndexByte NN (a ++ b) 47 = some ((a.length : Int) - 1) := by
  have h := last_l0 a b hb ha (by omega) b.length NN (Nat.le_refl _) (by simp only [NN]; simp at hl; omega)
  have w : IntKind.wrap .i64 (((a ++ b).length : Int) - (1 : Int)) = (a.length : Int) + (b.length : Int) - 1 := by
    rw [w64 (by omega) (by omega)]; simp
  simp only [strings_LastIndexByte, bytealg_LastIndexByteString, w, h]
  by_cases e : a = []
  · rw [if_pos e, e]; rfl
  · rw [if_neg e]

theorem Split_eq {a b : B} (hv : validB (a ++ b ++ [47]) = true) (hb : 47 ∉ b) (ha : a = [] ∨ ∃ t, a = t ++ [47]) (hl : (a ++ b).length < 10000) : path_Split NN (a ++ b ++ [47]) = some (a, b, 0) := by
  have e0 : eqs (a ++ b ++ [47]) [] = false := eqs_ne (by simp)
  have w : IntKind.wrap .i64 (((a ++ b ++ [47]).length : Int) - (1 : Int)) = ((a ++ b).length : Int) := by
    rw [w64 (by simp; omega) (by simp; simp at hl; omega)]; simp; omega
  have w2 : IntKind.wrap .i64 ((a.length : Int) - 1 + (1 : Int)) = (a.length : Int) := by
    simp only [List.length_append] at hl
    rw [w64 (by omega) (by omega)]; omega
  have c : cut2 (a ++ b ++ [47]) (0 : Int) ((a ++ b).length : Int) = a ++ b := by
    unfold cut2
    have e : Int.toNat (0 : Int) = 0 := rfl
    rw [Int.toNat_natCast, e, List.drop_zero, Nat.sub_zero]
    exact List.take_left
  have c1 : cut2 (a ++ b ++ [47]) (0 : Int) (a.length : Int) = a := by
    unfold cut2; simp
  have c2 : cut2 (a ++ b ++ [47]) (a.length : Int) ((a ++ b).length : Int) = b := by
    unfold cut2
    have e : (a ++ b).length - a.length = b.length := by simp
    rw [Int.toNat_natCast, Int.toNat_natCast, e, List.append_assoc, List.drop_left]
    exact List.take_left
  simp only [path_Split, Valid_eq (s := a ++ b ++ [47]) (by simp at hl ⊢; omega), hv, Bool.not_true, cond_false, e0, w, c, last_eq a b hb ha (by omega), w2, c1, c2]
  rw [gd_t (by simp; omega), gd_t (by simp; omega), gd_t (by simp; omega)]

theorem split_nil : law01_split NN [] = some ([], [], 337) := rfl
theorem Split_join {l : List B} {n : B} (hl : ∀ m ∈ l, nameB m = true) (hn : nameB n = true) (h4 : l.length ≤ 10) : law01_split NN (joinP l ++ n ++ [47]) = some (joinP l, n, 0) := by
  have h1 := join_len hl
  have h2 := name_len hn
  have hv : validB (joinP l ++ n ++ [47]) = true := by
    have : joinP l ++ n ++ [47] = joinP (l ++ [n]) := by rw [joinP_append]; simp [joinP]
    rw [this]
    exact valid_join fun m hm => by
      rcases List.mem_append.1 hm with hm | hm
      · exact hl m hm
      · rw [List.mem_singleton.1 hm]; exact hn
  simp only [law01_split, Split_eq hv (name_sl hn) (valid_end (valid_join hl)) (by simp; omega)]

theorem Join_eq {l : List B} {n : B} (hl : ∀ m ∈ l, nameB m = true) (hn : nameB n = true) (h4 : l.length ≤ 10) : path_Join NN (joinP l) n = some (joinP l ++ n ++ [47], 0) := by
  have h1 := join_len hl
  have h2 := name_len hn
  have w : IntKind.wrap .i64 (((joinP l).length : Int) + (n.length : Int)) = ((joinP l).length : Int) + (n.length : Int) := w64 (by omega) (by omega)
  have w2 : IntKind.wrap .i64 (((joinP l).length : Int) + (n.length : Int) + (1 : Int)) = ((joinP l).length : Int) + (n.length : Int) + 1 := w64 (by omega) (by omega)
  have d : decide ((200 : Int) < ((joinP l).length : Int) + (n.length : Int) + 1) = false := by simp; omega
  simp only [path_Join, Valid_eq (s := joinP l) (by omega), valid_join hl, isName_eq, hn, Bool.not_true, cond_false, w, w2, d]
  rw [gd_p (by simp only [maxS]; omega), gd_p (by simp only [maxS, List.length_append, List.length_singleton]; omega)]

theorem joins_p0 {l : List B} (hl : ∀ m ∈ l, nameB m = true) (h4 : l.length ≤ 4) : law01_PathJoins_p0 NN true (joinP l) = some (true, ()) := by
  rcases List.eq_nil_or_concat l with rfl | ⟨ms, n, rfl⟩
  · rfl
  · rw [List.concat_eq_append] at hl h4 ⊢
    have hms : ∀ m ∈ ms, nameB m = true := fun m hm => hl m (by simp [hm])
    have hn : nameB n = true := hl n (by simp)
    have e : joinP (ms ++ [n]) = joinP ms ++ n ++ [47] := by rw [joinP_append]; simp [joinP]
    have h5 : ms.length ≤ 10 := by simp at h4; omega
    have hml := join_len hms
    have ne : eqs (joinP ms ++ n ++ [47]) [] = false := eqs_ne (by simp)
    have z : eqi (0 : Int) 0 = true := rfl
    rw [e]
    simp only [law01_PathJoins_p0, Split_join hms hn h5, ne, cond_false, Join_eq hms hn h5, z, cond_true, eqs_self, Valid_eq (s := joinP ms) (by omega), valid_join hms]

theorem plainJoins (l : List Int) (s : List UInt8) (hl : okSh (.list (.int .u8)) l) (hs : okSh .str s) : law01_PathJoins NN l s = some true := by
  have hu := u8s_of hl
  have hp := madeP_len hu
  have hn := madeN_name hu
  have h4 := madeN_len l
  have p0 := joins_p0 hn h4
  simp only [law01_PathJoins, sanity1, Made_eq hu]
  cases e : decide ((20 : Int) < (s.length : Int))
  · have e := of_decide_eq_false e
    simp only [cond_false]
    cases hN : nameB s
    · have hj : path_Join NN (madeP l) s = some ([], 11) := by
        simp only [path_Join, Valid_eq (s := madeP l) (by omega), madeP_valid hu, isName_eq, hN, Bool.not_true, cond_false, Bool.not_false, cond_true]
      have z : eqi (11 : Int) 0 = false := rfl
      have p0' : law01_PathJoins_p0 NN true (madeP l) = some (true, ()) := p0
      simp only [hj, z, eqi_self, eqs_self, Bool.not_true, cond_false, p0']
    · have hj : path_Join NN (madeP l) s = some (madeP l ++ s ++ [47], 0) := Join_eq hn hN (by omega)
      have hsp : law01_split NN (madeP l ++ s ++ [47]) = some (madeP l, s, 0) := Split_join hn hN (by omega)
      have hv : validB (madeP l ++ s ++ [47]) = true := by
        have : madeP l ++ s ++ [47] = joinP (madeN l ++ [s]) := by unfold madeP; rw [joinP_append]; simp [joinP]
        rw [this]
        exact valid_join fun m hm => by
          rcases List.mem_append.1 hm with hm | hm
          · exact hn m hm
          · rw [List.mem_singleton.1 hm]; exact hN
      have u1 : (madeP l).isPrefixOf (madeP l ++ s ++ [47]) = true := by
        rw [List.isPrefixOf_iff_prefix, List.append_assoc]; exact List.prefix_append _ _
      have u2 : (madeP l ++ s ++ [47]).isPrefixOf (madeP l) = false := by
        cases h : (madeP l ++ s ++ [47]).isPrefixOf (madeP l)
        · rfl
        · have := (List.isPrefixOf_iff_prefix.1 h).length_le
          simp at this; omega
      have p0' : law01_PathJoins_p0 NN true (madeP l) = some (true, ()) := p0
      simp only [hj, eqi_self, cond_true, Valid_eq (s := madeP l ++ s ++ [47]) (by simp; omega), hv, Bool.not_true, cond_false, hsp, eqs_self, Bool.and_self, Under_eq (madeP l ++ s ++ [47]) (madeP l) (by simp; omega), u1, Under_eq (madeP l) (madeP l ++ s ++ [47]) (by omega), u2, p0']
  · rfl
end Ds

/- The plain law of PathBelow. -/
namespace Ds
open Go Go.Dv
set_option maxRecDepth 100000
set_option linter.unusedVariables false

theorem pre_trans {p q r : B} (h1 : q.isPrefixOf p = true) (h2 : r.isPrefixOf q = true) : r.isPrefixOf p = true :=
  List.isPrefixOf_iff_prefix.2 ((List.isPrefixOf_iff_prefix.1 h2).trans (List.isPrefixOf_iff_prefix.1 h1))
theorem pre_anti {p q : B} (h1 : q.isPrefixOf p = true) (h2 : p.isPrefixOf q = true) : p = q :=
  let a := List.isPrefixOf_iff_prefix.1 h1
  let b := List.isPrefixOf_iff_prefix.1 h2
  b.eq_of_length (Nat.le_antisymm b.length_le a.length_le)
theorem pre_two {p q r : B} (h1 : q.isPrefixOf p = true) (h2 : r.isPrefixOf p = true) (h3 : r.isPrefixOf q = false) : q.isPrefixOf r = true := by
  rcases List.prefix_or_prefix_of_prefix (List.isPrefixOf_iff_prefix.1 h1) (List.isPrefixOf_iff_prefix.1 h2) with h | h
  · exact List.isPrefixOf_iff_prefix.2 h
  · rw [List.isPrefixOf_iff_prefix.2 h] at h3; cases h3

theorem below_p0 {p q r : B} (hp : p.length < 1000) (hq : q.length < 1000) (hr : r.length < 1000) : law01_PathBelow_p0 NN true p q r = some (true, ()) := by
  have U := fun (a b : B) (h : a.length < 1000) => Under_eq a b (by omega)
  simp only [law01_PathBelow_p0, law01_PathBelow_p2, U p q hp, U q r hq, U p r hp, U r q hr]
  cases a : q.isPrefixOf p
  · rfl
  · cases b : r.isPrefixOf q
    · cases c : r.isPrefixOf p
      · rfl
      · rw [pre_two a c b]; rfl
    · rw [pre_trans a b]; rfl

theorem plainBelow (l : V_a3_s_uint8) (n : Int) (hl : okSh (.val T_a3_s_uint8) l) (hn : okSh (.int .u8) n) : law01_PathBelow NN l n = some true := by
  have h1 := u8s_of hl.1
  have h2 := u8s_of hl.2.1
  have h3 := u8s_of hl.2.2
  have h4 := u8_of_wf hn
  have l1 := madeP_len h1
  have l2 := madeP_len h2
  have l3 := madeP_len h3
  have U := fun (a b : B) (h : a.length < 1000) => Under_eq a b (by omega)
  have hpp : (madeP l.1).isPrefixOf (madeP l.1) = true := List.isPrefixOf_iff_prefix.2 (List.prefix_refl _)
  have hnil : ([] : B).isPrefixOf (madeP l.1) = true := rfl
  simp only [law01_PathBelow, sanity1, Made_eq h1, Made_eq h2, Made_eq h3]
  have t1 : 0 ≤ Int.tdiv n 2 ∧ Int.tdiv n 2 < 256 := by rw [Int.tdiv_eq_ediv_of_nonneg h4.1]; omega
  have t2 : 0 ≤ Int.tdiv n 8 ∧ Int.tdiv n 8 < 256 := by rw [Int.tdiv_eq_ediv_of_nonneg h4.1]; omega
  have w1 : IntKind.wrap .u8 (Int.tdiv n 2) = Int.tdiv n 2 := by rw [IntKind.wrap_u8]; omega
  have w2 : IntKind.wrap .u8 (Int.tdiv n 8) = Int.tdiv n 8 := by rw [IntKind.wrap_u8]; omega
  have w3 : IntKind.wrap .i64 (Int.tdiv n 2) = Int.tdiv n 2 := w64 (by omega) (by omega)
  have w4 : IntKind.wrap .i64 (Int.tdiv n 8) = Int.tdiv n 8 := w64 (by omega) (by omega)
  have m1 := Int.tmod_nonneg 4 t1.1
  have m2 := Int.tmod_nonneg 4 t2.1
  rw [w1, w2, w3, w4]
  generalize Int.tmod (Int.tdiv n 2) 4 = x at *
  generalize Int.tmod (Int.tdiv n 8) 4 = y at *
  have mn : ∀ x : Int, 0 ≤ x → ∃ i, (bif decide (x < (l.1.length : Int)) then x else (l.1.length : Int)) = i ∧ 0 ≤ i ∧ i ≤ l.1.length := by
    intro x hx
    cases q : decide (x < (l.1.length : Int))
    · exact ⟨(l.1.length : Int), rfl, by omega, by omega⟩
    · have := of_decide_eq_true q
      exact ⟨x, rfl, by omega, by omega⟩
  obtain ⟨i, ei, i0, i1⟩ := mn x m1
  obtain ⟨j, ej, j0, j1⟩ := mn y m2
  rw [ei, ej]
  have hc : ∀ i, U8s (cut2 l.1 (0 : Int) i) := fun i y hy => h1 y (List.mem_of_mem_drop (List.mem_of_mem_take hy))
  have go : ∀ q r : B, q.length ≤ 52 → r.length ≤ 52 →
      (q.isPrefixOf (madeP l.1) = true → (madeP l.1).isPrefixOf q = true → eqs (madeP l.1) q = true) ∧ law01_PathBelow_p0 NN true (madeP l.1) q r = some (true, ()) := fun q r hq hr =>
    ⟨fun a b => by rw [pre_anti a b, eqs_self], below_p0 (by omega) (by omega) (by omega)⟩
  cases eqi (Int.tmod n 2) 0
  · obtain ⟨g1, g2⟩ := go (madeP l.2.1) (madeP l.2.2) l2 l3
    simp only [cond_false, U (madeP l.1) (madeP l.1) (by omega), hpp, U (madeP l.1) [] (by omega), hnil, U (madeP l.1) (madeP l.2.1) (by omega), U (madeP l.2.1) (madeP l.1) (by omega), Bool.not_true]
    cases a : (madeP l.2.1).isPrefixOf (madeP l.1)
    · simp only [cond_false, law01_PathBelow_p1, g2]
    · cases b : (madeP l.1).isPrefixOf (madeP l.2.1)
      · simp only [cond_false, cond_true, law01_PathBelow_p1, g2]
      · simp only [cond_true, g1 a b, Bool.not_true, law01_PathBelow_p1, cond_false, g2]
  · have lq := madeP_len (hc i)
    have lr := madeP_len (hc j)
    obtain ⟨g1, g2⟩ := go (madeP (cut2 l.1 (0 : Int) i)) (madeP (cut2 l.1 (0 : Int) j)) lq lr
    simp only [cond_true, Made_eq (hc i), Made_eq (hc j)]
    rw [gd_t (by simp; omega), gd_t (by simp; omega)]
    simp only [U (madeP l.1) (madeP l.1) (by omega), hpp, U (madeP l.1) [] (by omega), hnil, U (madeP l.1) (madeP (cut2 l.1 (0 : Int) i)) (by omega), U (madeP (cut2 l.1 (0 : Int) i)) (madeP l.1) (by omega), Bool.not_true, cond_false]
    cases a : (madeP (cut2 l.1 (0 : Int) i)).isPrefixOf (madeP l.1)
    · simp only [cond_false, law01_PathBelow_p1, g2]
    · cases b : (madeP l.1).isPrefixOf (madeP (cut2 l.1 (0 : Int) i))
      · simp only [cond_false, cond_true, law01_PathBelow_p1, g2]
      · simp only [cond_true, g1 a b, Bool.not_true, law01_PathBelow_p1, cond_false, g2]
end Ds

/- The plain law of PathLimits. -/
namespace Ds
open Go Go.Dv
set_option maxRecDepth 100000
set_option linter.unusedVariables false

theorem UI (s : B) : bytesU (bytesI s) = s := by
  unfold bytesI bytesU
  rw [List.map_map]
  conv => rhs; rw [← List.map_id s]
  refine List.map_congr_left fun x hx => ?_
  simp only [Function.comp, id, Int.toNat_natCast]
  exact UInt8.ofNat_toNat

def digs : B := [48, 49, 50, 51, 52, 53, 54, 55, 56, 57, 97, 98, 99, 100, 101, 102]
def dg (x : Int) : UInt8 := digs.getD x.toNat 0
def hexN : Nat → Int → B
  | 0, _ => []
  | k + 1, n => dg (n / 16 ^ k % 16) :: hexN k n
theorem hexN_len (n : Int) : ∀ k, (hexN k n).length = k
  | 0 => rfl
  | k + 1 => by simp [hexN, hexN_len n k]
def bodyB (n : Int) : B := 5 :: hexN 8 n ++ [47]

theorem and15 {x : Int} (h0 : 0 ≤ x) (h1 : x < 4611686018427387904) : IntKind.wrap .i64 (((BitVec.ofInt (IntKind.bits .i64) x &&& BitVec.ofInt (IntKind.bits .i64) (15 : Int)).toNat : Nat) : Int) = x % 16 := by
  have b : IntKind.bits .i64 = 64 := rfl
  obtain ⟨a, rfl⟩ := Int.eq_ofNat_of_zero_le h0
  have t1 : (BitVec.ofInt 64 (a : Int)).toNat = a := by rw [BitVec.toNat_ofInt]; omega
  have t2 : (BitVec.ofInt 64 (15 : Int)).toNat = 15 := rfl
  have e : a &&& 15 = a % 16 := Nat.and_two_pow_sub_one_eq_mod a 4
  rw [b, BitVec.toNat_and, t1, t2, e, w64 (by omega) (by omega)]
  omega

theorem body_l0 (n : Int) (h0 : 0 ≤ n) (h1 : n < 2147483648) : ∀ (k m : Nat) (acc : B), k ≤ 8 → k < m → acc.length + k < 1000 →
    path_Body_l0 NN m n (4 * (k : Int) - 4) (bytesI acc) = some ((), (bytesI (acc ++ hexN k n), ()))
  | _, 0, _, _, h, _ => absurd h (Nat.not_lt_zero _)
  | 0, m + 1, acc, _, _, _ => by
    rw [path_Body_l0_succ]
    simp only [path_Body_l0_step]
    rw [bif_f (by decide)]
    simp [hexN]
  | k + 1, m + 1, acc, hk, hm, hl => by
    have e : 4 * ((k + 1 : Nat) : Int) - 4 = ((4 * k : Nat) : Int) := by omega
    have d : decide ((0 : Int) ≤ ((4 * k : Nat) : Int)) = true := by simp; omega
    have p : (2 : Int) ^ min (Int.toNat ((4 * k : Nat) : Int)) (IntKind.bits .i64) = 16 ^ k := by
      have b : IntKind.bits .i64 = 64 := rfl
      rw [Int.toNat_natCast, b, Nat.min_eq_left (by omega), Int.pow_mul]; rfl
    have pp : (0 : Int) < 16 ^ k := Int.pow_pos (by omega)
    have f : Int.fdiv n (16 ^ k) = n / 16 ^ k := Int.fdiv_eq_ediv_of_nonneg _ (by omega)
    have q0 : 0 ≤ n / 16 ^ k := Int.ediv_nonneg h0 (by omega)
    have q1 : n / 16 ^ k ≤ n := Int.ediv_le_self _ h0
    have w : IntKind.wrap .i64 (((4 * k : Nat) : Int) - (4 : Int)) = 4 * (k : Int) - 4 := by
      rw [w64 (by omega) (by omega)]; omega
    have r : bt ([48, 49, 50, 51, 52, 53, 54, 55, 56, 57, 97, 98, 99, 100, 101, 102] : B) (n / 16 ^ k % 16) = ((dg (n / 16 ^ k % 16)).toNat : Int) := rfl
    rw [e, path_Body_l0_succ]
    simp only [path_Body_l0_step, d, cond_true, p, f, and15 q0 (by omega), w, r]
    rw [gd_t rfl, gd_t (by simp [inB]; omega), gd_t (fits_p (by simp [bytesI]; omega) (by omega))]
    have ha : bytesI acc ++ [((dg (n / 16 ^ k % 16)).toNat : Int)] = bytesI (acc ++ [dg (n / 16 ^ k % 16)]) := by simp [bytesI]
    rw [ha, body_l0 n h0 h1 k m _ (by omega) (by omega) (by simp; omega)]
    simp [hexN]

theorem Body_eq {n : Int} (h0 : 0 ≤ n) (h1 : n ≤ 2147483647) : path_Body NN n = some (bodyB n) := by
  have d0 : decide (n < 0) = false := by simp; omega
  have d1 : decide ((2147483647 : Int) < n) = false := by simp; omega
  have h := body_l0 n h0 (by omega) 8 NN [5] (by omega) (by simp only [NN]; omega) (by simp)
  have e5 : bytesI ([5] : B) = [(5 : Int)] := rfl
  have e8 : 4 * ((8 : Nat) : Int) - 4 = 28 := rfl
  rw [e5, e8] at h
  simp only [path_Body, d0, d1, cond_false, h]
  have e47 : bytesI ([5] ++ hexN 8 n) ++ [(47 : Int)] = bytesI (bodyB n) := by simp [bytesI, bodyB]
  rw [gd_t (fits_p (by simp [bytesI, hexN_len]) (by omega)), e47, UI]
theorem Body_none {n : Int} (h : n < 0 ∨ 2147483647 < n) : path_Body NN n = some [] := by
  simp only [path_Body]
  by_cases h0 : n < 0
  · rw [decide_eq_true h0]; rfl
  · rw [decide_eq_false h0, decide_eq_true (show (2147483647 : Int) < n by omega)]; rfl

theorem dig_mod (n : Int) (i c : Nat) : (n % 16 ^ (i + (c + 1))) / 16 ^ i % 16 = n / 16 ^ i % 16 := by
  have p : (0 : Int) < 16 ^ i := Int.pow_pos (by omega)
  have e : (16 : Int) ^ (i + (c + 1)) = 16 ^ i * (16 * 16 ^ c) := by rw [Int.pow_add, Int.pow_succ, Int.mul_comm (16 ^ c) 16]
  have h := Int.emod_add_mul_ediv n (16 ^ (i + (c + 1)))
  rw [e] at h ⊢
  generalize hr : n % (16 ^ i * (16 * 16 ^ c)) = r at *
  generalize n / (16 ^ i * (16 * 16 ^ c)) = q at *
  have h2 : n = r + 16 ^ i * (16 * (16 ^ c * q)) := by rw [← h, Int.mul_assoc, Int.mul_assoc]
  rw [h2, Int.add_mul_ediv_left _ _ (by omega), Int.add_mul_emod_self_left]
theorem hexN_mod (n : Int) : ∀ (k c : Nat), hexN k (n % 16 ^ (k + c)) = hexN k n
  | 0, _ => rfl
  | k + 1, c => by
    have e : k + 1 + c = k + (c + 1) := by omega
    simp only [hexN]
    rw [e, dig_mod n k c, hexN_mod n k (c + 1)]

theorem dg_all : ((List.range 16).all fun (a : Nat) => (List.range 16).all fun (b : Nat) => (decide (dg (a : Int) < dg (b : Int)) == decide (a < b)) && ((dg (a : Int) == dg (b : Int)) == decide (a = b))) = true := by decide +kernel
theorem dg_lt {a b : Int} (ha : 0 ≤ a) (ha' : a < 16) (hb : 0 ≤ b) (hb' : b < 16) : decide (dg a < dg b) = decide (a < b) ∧ (dg a == dg b) = decide (a = b) := by
  obtain ⟨x, rfl⟩ := Int.eq_ofNat_of_zero_le ha
  obtain ⟨y, rfl⟩ := Int.eq_ofNat_of_zero_le hb
  have := List.all_eq_true.1 (List.all_eq_true.1 dg_all x (List.mem_range.2 (by omega))) y (List.mem_range.2 (by omega))
  simp only [Bool.and_eq_true, beq_iff_eq] at this
  refine ⟨this.1.trans ?_, this.2.trans ?_⟩
  · rw [Bool.eq_iff_iff]; simp
  · rw [Bool.eq_iff_iff]; simp; omega

theorem hex_lt (t : B) (ht : lts t t = false) : ∀ (k : Nat) (n m : Int), 0 ≤ n → n < 16 ^ k → 0 ≤ m → m < 16 ^ k → lts (hexN k n ++ t) (hexN k m ++ t) = decide (n < m)
  | 0, n, m, h0, h1, h2, h3 => by
    simp only [Int.pow_zero] at h1 h3
    have : decide (n < m) = false := by simp; omega
    rw [this]; exact ht
  | k + 1, n, m, h0, h1, h2, h3 => by
    have p : (0 : Int) < 16 ^ k := Int.pow_pos (by omega)
    rw [Int.pow_succ] at h1 h3
    have q1 : n / 16 ^ k < 16 := Int.ediv_lt_of_lt_mul p (by rw [Int.mul_comm]; exact h1)
    have q2 : m / 16 ^ k < 16 := Int.ediv_lt_of_lt_mul p (by rw [Int.mul_comm]; exact h3)
    have q3 : 0 ≤ n / 16 ^ k := Int.ediv_nonneg h0 (by omega)
    have q4 : 0 ≤ m / 16 ^ k := Int.ediv_nonneg h2 (by omega)
    have m1 : n / 16 ^ k % 16 = n / 16 ^ k := Int.emod_eq_of_lt q3 q1
    have m2 : m / 16 ^ k % 16 = m / 16 ^ k := Int.emod_eq_of_lt q4 q2
    obtain ⟨d1, d2⟩ := dg_lt q3 q1 q4 q2
    have r := hex_lt t ht k (n % 16 ^ k) (m % 16 ^ k) (Int.emod_nonneg _ (by omega)) (Int.emod_lt_of_pos _ p) (Int.emod_nonneg _ (by omega)) (Int.emod_lt_of_pos _ p)
    have g1 := hexN_mod n k 0
    have g2 := hexN_mod m k 0
    simp only [Nat.add_zero] at g1 g2
    rw [g1, g2] at r
    simp only [hexN, List.cons_append, m1, m2]
    rw [lts_cons, d1, d2, r]
    have e1 := Int.emod_add_mul_ediv n (16 ^ k)
    have e2 := Int.emod_add_mul_ediv m (16 ^ k)
    have b1 := Int.emod_nonneg n (show (16 : Int) ^ k ≠ 0 by omega)
    have b2 := Int.emod_nonneg m (show (16 : Int) ^ k ≠ 0 by omega)
    have b3 := Int.emod_lt_of_pos n p
    have b4 := Int.emod_lt_of_pos m p
    generalize hN : n / 16 ^ k = a at *
    generalize hM : m / 16 ^ k = b at *
    generalize n % 16 ^ k = x at *
    generalize m % 16 ^ k = y at *
    generalize (16 : Int) ^ k = P at *
    rw [Bool.eq_iff_iff]
    simp only [Bool.or_eq_true, Bool.and_eq_true, decide_eq_true_eq]
    rcases Int.lt_trichotomy a b with h | h | h
    · have : P * (a + 1) ≤ P * b := Int.mul_le_mul_of_nonneg_left (by omega) (by omega)
      rw [Int.mul_add, Int.mul_one] at this
      constructor
      · intro _; omega
      · intro _; exact .inl h
    · subst h
      constructor
      · rintro (h | h)
        · omega
        · omega
      · intro h; exact .inr ⟨rfl, by omega⟩
    · have : P * (b + 1) ≤ P * a := Int.mul_le_mul_of_nonneg_left (by omega) (by omega)
      rw [Int.mul_add, Int.mul_one] at this
      constructor
      · rintro (h' | h')
        · omega
        · omega
      · intro h'; omega

theorem body_lt {n m : Int} (h0 : 0 ≤ n) (h1 : n ≤ 2147483647) (h2 : 0 ≤ m) (h3 : m ≤ 2147483647) : lts (bodyB n) (bodyB m) = decide (n < m) := by
  have p : (16 : Int) ^ 8 = 4294967296 := by decide
  have := hex_lt [47] (by decide) 8 n m h0 (by omega) h2 (by omega)
  have e : lts (bodyB n) (bodyB m) = (decide ((5 : UInt8) < 5) || ((5 : UInt8) == 5 && lts (hexN 8 n ++ [47]) (hexN 8 m ++ [47]))) := rfl
  rw [e, this]
  simp
theorem body_len (n : Int) : (bodyB n).length = 10 := by simp [bodyB, hexN_len]
theorem dg_sl (x : Int) : dg x ≠ 47 := by
  unfold dg
  by_cases h : x.toNat < digs.length
  · rw [List.getD_eq_getElem?_getD, List.getElem?_eq_getElem h]
    have : (digs.all fun b => b != 47) = true := by decide
    have := List.all_eq_true.1 this _ (List.getElem_mem h)
    simpa using this
  · rw [List.getD_eq_getElem?_getD, List.getElem?_eq_none (by omega)]
    decide
theorem hexN_sl (n : Int) : ∀ k, 47 ∉ hexN k n
  | 0 => by simp [hexN]
  | k + 1 => by
    simp only [hexN, List.mem_cons, not_or]
    exact ⟨fun h => dg_sl _ h.symm, hexN_sl n k⟩
theorem body_valid (n : Int) : validB (bodyB n) = false := by
  have h : 47 ∉ (5 :: hexN 8 n : B) := by
    simp only [List.mem_cons, not_or]
    exact ⟨by decide, hexN_sl n 8⟩
  have hn : nameB (5 :: hexN 8 n) = false := by
    cases hh : nameB (5 :: hexN 8 n)
    · rfl
    · have := List.all_eq_true.1 (name_all hh) 5 (by simp)
      exact absurd this (by decide)
  have := spl_mid (a := 5 :: hexN 8 n) (t := []) h
  unfold validB bodyB
  rw [this, List.all_cons, hn]; rfl

def joinR (p n : B) : B × Int := bif !(validB p) then ([], 10) else bif !(nameB n) then ([], 11) else bif decide ((200 : Int) < (p.length : Int) + (n.length : Int) + 1) then ([], 2) else (p ++ n ++ [47], 0)
theorem Join_gen {p n : B} (hp : p.length < 1000) (hn : n.length < 1000) : path_Join NN p n = some (joinR p n) := by
  have w : IntKind.wrap .i64 ((p.length : Int) + (n.length : Int)) = (p.length : Int) + (n.length : Int) := w64 (by omega) (by omega)
  have w2 : IntKind.wrap .i64 ((p.length : Int) + (n.length : Int) + (1 : Int)) = (p.length : Int) + (n.length : Int) + 1 := w64 (by omega) (by omega)
  simp only [path_Join, Valid_eq (s := p) (by omega), isName_eq, w, w2, joinR]
  cases validB p
  · rfl
  · simp only [Bool.not_true, cond_false]
    cases nameB n
    · rfl
    · simp only [Bool.not_true, cond_false]
      cases decide ((200 : Int) < (p.length : Int) + (n.length : Int) + 1)
      · simp only [cond_false]
        rw [gd_p (by simp only [maxS]; omega), gd_p (by simp only [maxS, List.length_append, List.length_singleton]; omega)]
      · rfl
def parseR (s : B) : B × Int := match s with
  | [] => ([], 10)
  | b :: t => bif b == 47 then bif eqs t [] then ([], 0) else bif decide ((200 : Int) < ((b :: t).length : Int)) then ([], 10) else bif validB (t ++ [47]) then (t ++ [47], 0) else ([], 10) else ([], 10)
theorem Parse_gen {s : B} (h : s.length < 1000) : path_Parse NN s = some (parseR s) := by
  rcases pre_cases s with h1 | ⟨t, rfl⟩
  · rw [Parse_no h1 (by omega)]
    cases s with
    | nil => rfl
    | cons b t =>
      have : (b == 47) = false := by
        cases e : b == 47
        · rfl
        · rw [eq_of_beq e] at h1; simp [List.isPrefixOf] at h1
      simp only [parseR, this, cond_false]
  · cases e : eqs t []
    · have : t ≠ [] := fun h => by rw [h, eqs_self] at e; cases e
      rw [Parse_sl t (by simp at h; omega) this]
      simp only [parseR, beq_self_eq_true, cond_true, e, cond_false]
    · rw [eqs_iff.1 e]; rfl

def longP : B := joinP (List.replicate 15 [116, 119, 101, 108, 118, 101, 108, 101, 116, 116, 101, 114])
def letters : B := [97, 98, 99, 100, 101, 102, 103, 104, 105, 106, 107, 108, 109]
theorem l2_eq (n : Int) : law01_PathLimits_l2 NN NN n true [] = some ((n, (true, longP)), ()) := by kernel_rfl
theorem limits_p0 (n : Int) (k : Nat) (hk : k < 14) (h : Int.tmod (IntKind.wrap .i64 n) 14 = (k : Int)) : law01_PathLimits_p0 NN n true = some (true, ()) := by
  have c : cut2 letters (0 : Int) (k : Int) = letters.take k := by simp [cut2]
  have c' : cut2 ([97, 98, 99, 100, 101, 102, 103, 104, 105, 106, 107, 108, 109] : B) (0 : Int) (k : Int) = letters.take k := c
  have hl : (letters.take k).length ≤ 13 := by simp [letters]; omega
  have hll : longP.length = 195 := by decide
  have e1 : (([47] : B) ++ longP ++ letters.take k).length < 1000 := by simp only [List.length_append, List.length_singleton]; omega
  simp only [law01_PathLimits_p0, l2_eq, h, c', Join_gen (p := longP) (n := letters.take k) (by omega) (by omega), Parse_gen e1]
  rw [gd_t (by simp; omega), gd_p (by simp only [maxS, List.length_singleton]; omega), gd_p (by simp only [maxS, List.length_append, List.length_singleton]; omega)]
  have : k = 0 ∨ k = 1 ∨ k = 2 ∨ k = 3 ∨ k = 4 ∨ k = 5 ∨ k = 6 ∨ k = 7 ∨ k = 8 ∨ k = 9 ∨ k = 10 ∨ k = 11 ∨ k = 12 ∨ k = 13 := by omega
  rcases this with rfl | rfl | rfl | rfl | rfl | rfl | rfl | rfl | rfl | rfl | rfl | rfl | rfl | rfl <;> decide +kernel

theorem i32_of_wf {n : Int} (h : (Lit.int .i32 n).wf = true) : -2147483648 ≤ n ∧ n ≤ 2147483647 := by
  simp [Lit.wf, IntKind.min, IntKind.max, IntKind.signed, IntKind.bits] at h
  omega

theorem plainLimits (w : V_a2_int32) (n : Int) (hw : okSh (.val T_a2_int32) w) (hn : okSh (.int .u8) n) : law01_PathLimits NN w n = some true := by
  have h1 := i32_of_wf hw.1
  have h2 := i32_of_wf hw.2
  have h3 := u8_of_wf hn
  have p0 : law01_PathLimits_p0 NN n true = some (true, ()) := by
    have t0 : 0 ≤ Int.tmod (IntKind.wrap .i64 n) 14 := Int.tmod_nonneg _ (by rw [w64 (by omega) (by omega)]; exact h3.1)
    have t1 : Int.tmod (IntKind.wrap .i64 n) 14 < 14 := Int.tmod_lt_of_pos _ (by omega)
    exact limits_p0 n (Int.tmod (IntKind.wrap .i64 n) 14).toNat (by omega) (by omega)
  have w1 : IntKind.wrap .i64 w.1 = w.1 := w64 (by omega) (by omega)
  have w2 : IntKind.wrap .i64 w.2 = w.2 := w64 (by omega) (by omega)
  have u : 0 ≤ IntKind.wrap .u32 w.1 ∧ IntKind.wrap .u32 w.1 < 4294967296 := by rw [IntKind.wrap_u32]; omega
  have b3 : path_Body NN (IntKind.wrap .i64 (IntKind.wrap .i64 (IntKind.wrap .u32 w.1) + (2147483648 : Int))) = some [] := by
    rw [w64 (n := IntKind.wrap .u32 w.1) (by omega) (by omega), w64 (by omega) (by omega)]
    exact Body_none (.inr (by omega))
  simp only [law01_PathLimits, sanity1, w1, w2, b3, eqs_self, Bool.not_true, cond_false]
  by_cases a : 0 ≤ w.1
  · have da : decide ((0 : Int) ≤ w.1) = true := decide_eq_true a
    have ne : eqs (bodyB w.1) [] = false := eqs_ne (by simp [bodyB])
    have l10 : eqi ((bodyB w.1).length : Int) 10 = true := by rw [body_len]; rfl
    have hv : path_Valid NN (bodyB w.1) = some false := by rw [Valid_eq (by rw [body_len]; omega), body_valid]
    simp only [Body_eq a h1.2, ne, da, hv, l10, Bool.not_false, Bool.not_true, cond_true, cond_false, eqb, beq_self_eq_true, law01_PathLimits_p1, p0]
    by_cases b : 0 ≤ w.2
    · have db : decide ((0 : Int) ≤ w.2) = true := decide_eq_true b
      simp only [Body_eq b h2.2, db, cond_true, body_lt a h1.2 b h2.2, beq_self_eq_true, Bool.not_true, cond_false]
    · have db : decide ((0 : Int) ≤ w.2) = false := decide_eq_false b
      simp only [Body_none (n := w.2) (.inl (by omega)), db, cond_false]
  · have da : decide ((0 : Int) ≤ w.1) = false := decide_eq_false a
    have hv : path_Valid NN ([] : B) = some true := rfl
    have hb2 : ∃ r, path_Body NN w.2 = some r := by
      by_cases b : 0 ≤ w.2
      · exact ⟨_, Body_eq b h2.2⟩
      · exact ⟨_, Body_none (.inl (by omega))⟩
    obtain ⟨r, hr⟩ := hb2
    simp only [Body_none (n := w.1) (.inl (by omega)), hr, eqs_self, da, hv, Bool.not_true, cond_true, cond_false, eqb, beq_self_eq_true, law01_PathLimits_p1, p0]
end Ds

/- What keys are. -/
namespace Ds
open Go Go.Dv
set_option maxRecDepth 100000
set_option linter.unusedVariables false

def blk (n : Int) : B := bytesU [2, IntKind.wrap .u8 (Int.fdiv n (2 ^ min (Int.toNat (8 : Int)) (IntKind.bits .i64))), IntKind.wrap .u8 n]
theorem blk_len (n : Int) : (blk n).length = 3 := rfl
/-- the key of a place whose path is right -/
def keyR (p : B) (t n : Int) (m : B) : Option B :=
  bif eqi t 1 then bif eqi n 0 && eqs m [] then some (p ++ [1]) else none else
  bif eqi t 2 then bif eqs m [] && (decide (0 ≤ n) && decide (n ≤ 60000)) then some (p ++ blk n) else none else
  bif eqi t 3 then bif eqi n 0 && nameB m then some (p ++ [3] ++ m) else none else
  bif eqi t 4 then bif eqi n 0 && eqs m [] then some ([6] ++ p ++ [1]) else none else none
def sumR (x : Option B) : ((B × Int) × Unit) ⊕ (Unit × Unit) := match x with | some k => .inl ((k, 0), ()) | none => .inr ((), ())

theorem eqi_23 {t : Int} (h : eqi t 1 = true) : eqi t 2 = false ∧ eqi t 3 = false ∧ eqi t 4 = false := by
  rw [eqi_iff.1 h]; exact ⟨rfl, rfl, rfl⟩
theorem Key_p1_no (p m : B) (t n : Int) : path_Key_p1 NN false p t n m p t 0 [] = some (.inr ((), ())) := rfl
theorem Key_p1 (p m : B) (t n : Int) (hp : p.length < 1000000) (hm : m.length < 4000000000000) : path_Key_p1 NN true p t n m p t 0 [] = some (sumR (keyR p t n m)) := by
  have g1 : ∀ {R : Type} (K : Option R), gd (decide (p.length + ([1] : B).length < maxS)) K = K := fun K => gd_p (by simp only [maxS, List.length_singleton]; omega) K
  have g3 : ∀ {R : Type} (K : Option R), gd (decide (p.length + ([3] : B).length < maxS)) K = K := fun K => gd_p (by simp only [maxS, List.length_singleton]; omega) K
  have g3' : ∀ {R : Type} (K : Option R), gd (decide ((p ++ ([3] : B)).length + m.length < maxS)) K = K := fun K => gd_p (by simp only [maxS, List.length_append, List.length_singleton]; omega) K
  have g6 : ∀ {R : Type} (K : Option R), gd (decide (([6] : B).length + p.length < maxS)) K = K := fun K => gd_p (by simp only [maxS, List.length_singleton]; omega) K
  have g6' : ∀ {R : Type} (K : Option R), gd (decide ((([6] : B) ++ p).length + ([1] : B).length < maxS)) K = K := fun K => gd_p (by simp only [maxS, List.length_append, List.length_singleton]; omega) K
  have g8 : ∀ {R : Type} (K : Option R), gd (decide (0 ≤ (8 : Int))) K = K := fun K => gd_p (by decide) K
  have gb : ∀ {R : Type} (K : Option R), gd (decide (p.length + (bytesU [(2 : Int), IntKind.wrap .u8 (Int.fdiv n (2 ^ min (Int.toNat (8 : Int)) (IntKind.bits .i64))), IntKind.wrap .u8 n]).length < maxS)) K = K := fun K => gd_p (by simp only [maxS, bytesU, List.length_map, List.length_cons, List.length_nil]; omega) K
  unfold keyR
  cases e1 : eqi t 1
  case true =>
    obtain ⟨e2, e3, e4⟩ := eqi_23 e1
    simp only [path_Key_p1, path_Key_p2, path_Key_p3, cond_true, cond_false, e1, e2, e3, e4, eqs_self, eqi_self, Bool.true_and, Bool.and_true, g1]
    cases eqi n 0 <;> cases eqs m [] <;> rfl
  case false =>
  cases e2 : eqi t 2
  case true =>
    have e3 : eqi t 3 = false := by rw [eqi_iff.1 e2]; rfl
    have e4 : eqi t 4 = false := by rw [eqi_iff.1 e2]; rfl
    simp only [path_Key_p1, path_Key_p2, path_Key_p3, cond_true, cond_false, e1, e2, e3, e4, g8, gb]
    cases eqs m [] <;> cases decide (0 ≤ n) <;> cases decide (n ≤ 60000) <;> rfl
  case false =>
  cases e3 : eqi t 3
  case true =>
    have e4 : eqi t 4 = false := by rw [eqi_iff.1 e3]; rfl
    simp only [path_Key_p1, path_Key_p2, path_Key_p3, cond_true, cond_false, e1, e2, e3, e4, isName_eq, g3, g3']
    cases eqi n 0 <;> cases nameB m <;> rfl
  case false =>
  cases e4 : eqi t 4
  case true =>
    simp only [path_Key_p1, path_Key_p2, path_Key_p3, cond_true, cond_false, e1, e2, e3, e4, eqs_self, eqi_self, Bool.true_and, Bool.and_true, g6, g6']
    cases eqi n 0 <;> cases eqs m [] <;> rfl
  case false =>
    simp only [path_Key_p1, path_Key_p2, path_Key_p3, cond_true, cond_false, e1, e2, e3, e4]
    rfl

def resR (x : Option B) : B × Int := match x with | some k => (k, 0) | none => ([], 12)
theorem Key_valid {p m : B} {t n : Int} (hv : validB p = true) (hp : p.length < 1000000) (hm : m.length < 4000000000000) : path_Key NN (p, t, n, m) = some (resR (keyR p t n m)) := by
  simp only [path_Key, Valid_eq hp, hv, cond_true, Key_p1 p m t n hp hm]
  cases keyR p t n m <;> rfl
end Ds

/- Places, bodies, what is read from keys, and the plain laws of PathOrders and PathKeys. -/
namespace Ds
open Go Go.Dv
set_option maxRecDepth 100000
set_option linter.unusedVariables false

theorem u16_of_wf {n : Int} (h : (Lit.int .u16 n).wf = true) : 0 ≤ n ∧ n < 65536 := by
  simp [Lit.wf, IntKind.min, IntKind.max, IntKind.signed, IntKind.bits] at h
  omega

theorem blk_nat {k : Nat} (h : k ≤ 60000) : blk (k : Int) = [2, UInt8.ofNat (k / 256), UInt8.ofNat (k % 256)] := by
  have e : (2 : Int) ^ min (Int.toNat (8 : Int)) (IntKind.bits .i64) = 256 := by decide
  have f : Int.fdiv (k : Int) 256 = ((k / 256 : Nat) : Int) := by rw [Int.fdiv_eq_ediv_of_nonneg _ (by omega)]; omega
  have w1 : IntKind.wrap .u8 ((k / 256 : Nat) : Int) = ((k / 256 : Nat) : Int) := by rw [IntKind.wrap_u8]; omega
  have w2 : IntKind.wrap .u8 (k : Int) = ((k % 256 : Nat) : Int) := by rw [IntKind.wrap_u8]; omega
  unfold blk
  rw [e, f, w1, w2]
  rfl
theorem u8_lt {a b : Nat} (ha : a < 256) (hb : b < 256) : decide (UInt8.ofNat a < UInt8.ofNat b) = decide (a < b) ∧ (UInt8.ofNat a == UInt8.ofNat b) = decide (a = b) := by
  have ea : (UInt8.ofNat a).toNat = a := by simp; omega
  have eb : (UInt8.ofNat b).toNat = b := by simp; omega
  constructor
  · rw [Bool.eq_iff_iff]; simp only [decide_eq_true_eq, UInt8.lt_iff_toNat_lt, ea, eb]
  · rw [Bool.eq_iff_iff]; simp only [beq_iff_eq, decide_eq_true_eq, ← UInt8.toNat_inj, ea, eb]
theorem blk_lt {m n : Int} (h0 : 0 ≤ m) (h1 : m ≤ 60000) (h2 : 0 ≤ n) (h3 : n ≤ 60000) : lts (blk m) (blk n) = decide (m < n) := by
  obtain ⟨a, rfl⟩ := Int.eq_ofNat_of_zero_le h0
  obtain ⟨b, rfl⟩ := Int.eq_ofNat_of_zero_le h2
  rw [blk_nat (by omega), blk_nat (by omega)]
  obtain ⟨p1, p2⟩ := u8_lt (show a / 256 < 256 by omega) (show b / 256 < 256 by omega)
  obtain ⟨q1, q2⟩ := u8_lt (show a % 256 < 256 by omega) (show b % 256 < 256 by omega)
  have d2 : decide ((2 : UInt8) < 2) = false := by decide
  rw [lts_cons, lts_cons, lts_cons, p1, p2, q1, d2, lts_nil]
  rw [Bool.eq_iff_iff]
  simp only [beq_self_eq_true, Bool.true_and, Bool.false_or, Bool.and_false, Bool.or_false, Bool.or_eq_true, Bool.and_eq_true, decide_eq_true_eq]
  omega

/-- what stands behind a path in a key -/
def restB (t n : Int) (m : B) : B := bif eqi t 1 then [1] else bif eqi t 2 then blk n else [3] ++ m
theorem rest_cons (t n : Int) (m : B) : ∃ c r, restB t n m = c :: r ∧ c.toNat ≤ 3 := by
  unfold restB
  cases eqi t 1
  · cases eqi t 2
    · exact ⟨3, m, rfl, by decide⟩
    · exact ⟨_, _, rfl, by show (UInt8.ofNat (Int.toNat 2)).toNat ≤ 3; decide⟩
  · exact ⟨1, [], rfl, by decide⟩

/-- a made place with a path of names -/
def plN (t N : Int) : Int := bif eqi t 2 then Int.tmod N 60001 else 0
def plM (t N : Int) : B := bif eqi t 3 then callN (IntKind.wrap .u8 (Int.tmod N 8)) else []
theorem MadePlace_eq {L : List Int} {t N : Int} (hL : U8s L) (h0 : 0 ≤ t) (h1 : t < 3) (h2 : 0 ≤ N) (h3 : N < 65536) :
    ref01_MadePlace NN (L, t, N) = some (madeP L, 1 + t, plN (1 + t) N, plM (1 + t) N) := by
  have t4 : Int.tmod t 4 = t := by rw [Int.tmod_eq_emod_of_nonneg h0]; omega
  have w1 : IntKind.wrap .i64 t = t := w64 (by omega) (by omega)
  have w2 : IntKind.wrap .i64 (1 + t) = 1 + t := w64 (by omega) (by omega)
  have w3 : IntKind.wrap .i64 N = N := w64 (by omega) (by omega)
  have d : decide ((64 : Int) ≤ t) = false := by simp; omega
  have m8 := Int.tmod_nonneg 8 h2
  have u : 0 ≤ IntKind.wrap .u8 (Int.tmod N 8) := by rw [IntKind.wrap_u8]; omega
  simp only [ref01_MadePlace, Made_eq hL, t4, w1, w2, d, cond_false, ref01_MadePlace_p0, w3, Call_eq u, plN, plM]
  cases e2 : eqi (1 + t) 2
  · cases e3 : eqi (1 + t) 3 <;> rfl
  · have e3 : eqi (1 + t) 3 = false := by rw [eqi_iff.1 e2]; rfl
    simp only [e3, cond_true, cond_false]

theorem keyR_made {p : B} {t N : Int} (h0 : 0 ≤ t) (h1 : t < 3) (h2 : 0 ≤ N) : keyR p (1 + t) (plN (1 + t) N) (plM (1 + t) N) = some (p ++ restB (1 + t) (plN (1 + t) N) (plM (1 + t) N)) := by
  have m8 := Int.tmod_nonneg 8 h2
  have n0 := Int.tmod_nonneg 60001 h2
  have n1 : Int.tmod N 60001 < 60001 := Int.tmod_lt_of_pos _ (by omega)
  have u : 0 ≤ IntKind.wrap .u8 (Int.tmod N 8) := by rw [IntKind.wrap_u8]; omega
  have nm := callN_name u
  have : t = 0 ∨ t = 1 ∨ t = 2 := by omega
  rcases this with rfl | rfl | rfl
  · rfl
  · have a : decide (0 ≤ Int.tmod N 60001) = true := decide_eq_true n0
    have b : decide (Int.tmod N 60001 ≤ 60000) = true := decide_eq_true (by omega)
    have e1 : eqi ((1 : Int) + 1) 1 = false := rfl
    have e2 : eqi ((1 : Int) + 1) 2 = true := rfl
    have e3 : eqi ((1 : Int) + 1) 3 = false := rfl
    simp only [keyR, restB, plN, plM, e1, e2, e3, cond_true, cond_false, eqs_self, a, b, Bool.and_self]
  · have e1 : eqi ((1 : Int) + 2) 1 = false := rfl
    have e2 : eqi ((1 : Int) + 2) 2 = false := rfl
    have e3 : eqi ((1 : Int) + 2) 3 = true := rfl
    simp only [keyR, restB, plN, plM, e1, e2, e3, cond_true, cond_false, eqi_self, nm, Bool.and_self, List.append_assoc]

/-! ## prefixes of keys -/
def big (p : B) : Prop := ∀ b ∈ p, 33 ≤ b.toNat
theorem join_big {l : List B} (h : ∀ n ∈ l, nameB n = true) : big (joinP l) := by
  induction l with
  | nil => intro b hb; simp [joinP] at hb
  | cons n l ih =>
    intro b hb
    rw [joinP_cons] at hb
    rcases List.mem_append.1 hb with hb | hb
    · have := List.all_eq_true.1 (name_all (h n (by simp))) b hb
      simp only [okc, Bool.and_eq_true, decide_eq_true_eq] at this
      exact this.1
    · rcases List.mem_cons.1 hb with rfl | hb
      · decide
      · exact ih (fun m hm => h m (by simp [hm])) b hb
theorem pre_key {p q r : B} {c : UInt8} (hp : big p) (hc : c.toNat ≤ 3) : p.isPrefixOf (q ++ c :: r) = p.isPrefixOf q := by
  rw [Bool.eq_iff_iff, List.isPrefixOf_iff_prefix, List.isPrefixOf_iff_prefix]
  constructor
  · intro h
    by_cases hl : p.length ≤ q.length
    · exact List.prefix_of_prefix_length_le h (List.prefix_append _ _) hl
    · exfalso
      obtain ⟨t, ht⟩ := h
      have h1 : (p ++ t)[q.length]? = some c := by rw [ht]; simp
      rw [List.getElem?_append_left (by omega), List.getElem?_eq_getElem (by omega)] at h1
      have h2 : p[q.length] = c := Option.some.inj h1
      have := hp _ (List.getElem_mem (show q.length < p.length by omega))
      rw [h2] at this
      omega
  · intro h; exact h.trans (List.prefix_append _ _)
theorem pre_app (p r : B) : p.isPrefixOf (p ++ r) = true := List.isPrefixOf_iff_prefix.2 (List.prefix_append _ _)

theorem orders_p4 {P : B} {L : List Int} {t N : Int} (hP : big P) (hL : U8s L) (h0 : 0 ≤ t) (h2 : 0 ≤ N) (h3 : N < 65536) : law01_PathOrders_p4 NN true P L t N = some (true, ()) := by
  have t0 := Int.tmod_nonneg 3 h0
  have t1 : Int.tmod t 3 < 3 := Int.tmod_lt_of_pos _ (by omega)
  have hl := madeP_len hL
  have hm : (plM (1 + Int.tmod t 3) N).length ≤ 12 := by
    unfold plM
    cases eqi (1 + Int.tmod t 3) 3
    · simp
    · have m8 := Int.tmod_nonneg 8 h2
      have u : 0 ≤ IntKind.wrap .u8 (Int.tmod N 8) := by rw [IntKind.wrap_u8]; omega
      exact (name_len (callN_name u)).2
  simp only [law01_PathOrders_p4, MadePlace_eq hL t0 t1 h2 h3]
  rw [Key_valid (madeP_valid hL) (by omega) (by omega), keyR_made t0 t1 h2]
  obtain ⟨c, r, e, hc⟩ := rest_cons (1 + Int.tmod t 3) (plN (1 + Int.tmod t 3) N) (plM (1 + Int.tmod t 3) N)
  have hr : (restB (1 + Int.tmod t 3) (plN (1 + Int.tmod t 3) N) (plM (1 + Int.tmod t 3) N)).length ≤ 13 := by
    unfold restB
    cases eqi (1 + Int.tmod t 3) 1
    · cases eqi (1 + Int.tmod t 3) 2
      · simp; omega
      · simp [blk_len]
    · simp
  have U := fun (a b : B) (h : a.length < 1000) => Under_eq a b (by omega)
  have z : eqi (0 : Int) 0 = true := rfl
  simp only [resR, z, cond_true, U (madeP L ++ restB (1 + Int.tmod t 3) (plN (1 + Int.tmod t 3) N) (plM (1 + Int.tmod t 3) N)) P (by simp; omega), U (madeP L) P (by omega)]
  rw [e, pre_key hP hc]
  simp [eqb]

theorem orders_p2 {P : B} {L : List Int} {t N : Int} (hP : big P) (hL : U8s L) (h0 : 0 ≤ t) (h2 : 0 ≤ N) (h3 : N < 65536) (x1 x2 x3 x4 : B) (l1 : (P ++ x1).length < 1000) (l2 : (P ++ x2).length < 1000) (l3 : (P ++ x3).length < 1000) (l4 : (P ++ x4).length < 1000) :
    law01_PathOrders_p2 NN true P (P ++ x1) (P ++ x2) (P ++ x3) (P ++ x4) L t N = some (true, ()) := by
  have U := fun (x : B) (h : (P ++ x).length < 1000) => Under_eq (P ++ x) P (by omega)
  simp only [law01_PathOrders_p2, U x1 l1, U x2 l2, U x3 l3, U x4 l4, pre_app, Bool.not_true, cond_false, orders_p4 hP hL h0 h2 h3]

theorem orders_p0 {P : B} {L : List Int} {t N m n : Int} (hP : big P) (hL : U8s L) (h0 : 0 ≤ t) (h2 : 0 ≤ N) (h3 : N < 65536) (m0 : 0 ≤ m) (m1 : m ≤ 60000) (n0 : 0 ≤ n) (n1 : n ≤ 60000) (w1 w2 w3 w4 : Int)
    (u3 : 0 ≤ IntKind.wrap .u8 w3) (u4 : 0 ≤ IntKind.wrap .u8 w4) (nm r : B) (hl : P.length + nm.length + r.length < 500) (hn : nm = [] ∨ ∃ c s, nm = c :: s ∧ 33 ≤ c.toNat) :
    law01_PathOrders_p0 NN true P m n (P ++ [1]) (P ++ blk m) (P ++ blk n) (P ++ ([3] ++ callN (IntKind.wrap .u8 w3))) (P ++ ([3] ++ callN (IntKind.wrap .u8 w4))) nm (P ++ (nm ++ r)) L t N w1 w2 w3 w4 = some (true, ()) := by
  have c3 := name_len (callN_name u3)
  have c4 := name_len (callN_name u4)
  generalize ha : callN (IntKind.wrap .u8 w3) = a at *
  generalize hb : callN (IntKind.wrap .u8 w4) = b at *
  have k3 : ref01_Call NN (IntKind.wrap .u8 w3) = some a := by rw [Call_eq u3, ha]
  have k4 : ref01_Call NN (IntKind.wrap .u8 w4) = some b := by rw [Call_eq u4, hb]
  have b2 : ∀ k : Int, ∃ s, blk k = 2 :: s := fun k => ⟨_, rfl⟩
  have A1 : lts (P ++ [1]) (P ++ blk m) = true := by
    obtain ⟨s, e⟩ := b2 m
    rw [lts_app, e, lts_cons]; rfl
  have A2 : lts (P ++ blk m) (P ++ ([3] ++ a)) = true := by
    obtain ⟨s, e⟩ := b2 m
    rw [lts_app, e]
    exact (lts_cons 2 3 s a).trans (by rfl)
  have A3 : lts (P ++ blk n) (P ++ ([3] ++ b)) = true := by
    obtain ⟨s, e⟩ := b2 n
    rw [lts_app, e]
    exact (lts_cons 2 3 s b).trans (by rfl)
  have A4 : lts (P ++ blk m) (P ++ blk n) = decide (m < n) := by rw [lts_app, blk_lt m0 m1 n0 n1]
  have A5 : lts (P ++ ([3] ++ a)) (P ++ ([3] ++ b)) = lts a b := by
    rw [lts_app, lts_app]
  have p2 := orders_p2 (t := t) (N := N) hP hL h0 h2 h3 [1] (blk m) ([3] ++ b) (nm ++ r) (by simp; omega) (by simp [blk_len]; omega) (by simp; omega) (by simp; omega)
  simp only [law01_PathOrders_p0, A1, A2, A3, A4, A5, k3, k4, cond_true, Bool.not_true, cond_false, eqb, beq_self_eq_true]
  rcases hn with rfl | ⟨c, s, rfl, hc⟩
  · simp only [eqs_self, Bool.not_true, cond_false, law01_PathOrders_p3, p2]
  · have B1 : ∀ z : B, lts (P ++ ([3] ++ z)) (P ++ (c :: s ++ r)) = true := by
      intro z
      rw [lts_app]
      refine (lts_cons 3 c z (s ++ r)).trans ?_
      have : decide ((3 : UInt8) < c) = true := by
        rw [decide_eq_true_eq, UInt8.lt_iff_toNat_lt]
        have : (3 : UInt8).toNat = 3 := rfl
        omega
      rw [this]; rfl
    have ne : eqs (c :: s) [] = false := eqs_ne (by simp)
    simp only [ne, Bool.not_false, cond_true, B1, Bool.not_true, law01_PathOrders_p3, cond_false, p2]

theorem plainOrders (l : List Int) (x : V_ref01_Raw) (w : V_a4_uint16) (hl : okSh (.list (.int .u8)) l) (hx : okSh (.val T_ref01_Raw) x) (hw : okSh (.val T_a4_uint16) w) : law01_PathOrders NN l x w = some true := by
  have hu := u8s_of hl
  have hL := u8s_of hx.1
  have ht := u8_of_wf hx.2.1
  have hN := u16_of_wf hx.2.2
  have w1 := u16_of_wf hw.1
  have w2 := u16_of_wf hw.2.1
  have w3 := u16_of_wf hw.2.2.1
  have w4 := u16_of_wf hw.2.2.2
  have mn : ∀ (c : Int) (xs : List Int), 0 ≤ c → ∃ i, (bif decide (c < (xs.length : Int)) then c else (xs.length : Int)) = i ∧ 0 ≤ i ∧ i ≤ xs.length := by
    intro c xs hc
    cases q : decide (c < (xs.length : Int))
    · exact ⟨(xs.length : Int), rfl, by omega, by omega⟩
    · have := of_decide_eq_true q
      exact ⟨c, rfl, by omega, by omega⟩
  obtain ⟨i, ei, i0, i1⟩ := mn 3 l (by omega)
  obtain ⟨j, ej, j0, j1⟩ := mn 1 x.1 (by omega)
  have hci : U8s (cut2 l (0 : Int) i) := fun y hy => hu y (List.mem_of_mem_drop (List.mem_of_mem_take hy))
  have hcj : U8s (cut2 x.1 (0 : Int) j) := fun y hy => hL y (List.mem_of_mem_drop (List.mem_of_mem_take hy))
  have m60 : ∀ k : Int, 0 ≤ k → k < 65536 → 0 ≤ Int.tmod (IntKind.wrap .i64 k) 60001 ∧ Int.tmod (IntKind.wrap .i64 k) 60001 ≤ 60000 := by
    intro k h0 h1
    rw [w64 (n := k) (by omega) (by omega)]
    have := Int.tmod_lt_of_pos k (b := 60001) (by omega)
    exact ⟨Int.tmod_nonneg _ h0, by omega⟩
  obtain ⟨a0, a1⟩ := m60 w.1 w1.1 w1.2
  obtain ⟨b0, b1⟩ := m60 w.2.1 w2.1 w2.2
  have u3 : 0 ≤ IntKind.wrap .u8 w.2.2.1 := by rw [IntKind.wrap_u8]; omega
  have u4 : 0 ≤ IntKind.wrap .u8 w.2.2.2 := by rw [IntKind.wrap_u8]; omega
  have t0 := Int.tmod_nonneg 3 ht.1
  have t1 : Int.tmod x.2.1 3 < 3 := Int.tmod_lt_of_pos _ (by omega)
  have hP := madeP_valid hci
  have lP := madeP_len hci
  have bP : big (madeP (cut2 l (0 : Int) i)) := join_big (madeN_name hci)
  have lQ := madeP_len hcj
  have n3 := callN_name u3
  have n4 := callN_name u4
  have K1 : path_Key NN (madeP (cut2 l (0 : Int) i), 1, 0, []) = some (madeP (cut2 l (0 : Int) i) ++ [1], 0) := by
    rw [Key_valid hP (by omega) (by simp)]; rfl
  have K2 : ∀ k : Int, 0 ≤ k → k ≤ 60000 → path_Key NN (madeP (cut2 l (0 : Int) i), 2, k, []) = some (madeP (cut2 l (0 : Int) i) ++ blk k, 0) := by
    intro k h0 h1
    rw [Key_valid hP (by omega) (by simp)]
    have e1 : eqi (2 : Int) 1 = false := rfl
    have e2 : eqi (2 : Int) 2 = true := rfl
    have d0 : decide (0 ≤ k) = true := decide_eq_true h0
    have d1 : decide (k ≤ 60000) = true := decide_eq_true h1
    simp only [keyR, e1, e2, cond_false, cond_true, eqs_self, d0, d1, Bool.and_self, resR]
  have K3 : ∀ c : B, nameB c = true → path_Key NN (madeP (cut2 l (0 : Int) i), 3, 0, c) = some (madeP (cut2 l (0 : Int) i) ++ ([3] ++ c), 0) := by
    intro c hc
    have := name_len hc
    rw [Key_valid hP (by omega) (by omega)]
    have e1 : eqi (3 : Int) 1 = false := rfl
    have e2 : eqi (3 : Int) 2 = false := rfl
    have e3 : eqi (3 : Int) 3 = true := rfl
    simp only [keyR, e1, e2, e3, cond_false, cond_true, eqi_self, hc, Bool.and_self, resR, List.append_assoc]
  have hj : madeP (cut2 l (0 : Int) i) ++ madeP (cut2 x.1 (0 : Int) j) = joinP (madeN (cut2 l (0 : Int) i) ++ madeN (cut2 x.1 (0 : Int) j)) := by rw [joinP_append]; rfl
  have vK : validB (madeP (cut2 l (0 : Int) i) ++ madeP (cut2 x.1 (0 : Int) j)) = true := by
    rw [hj]
    exact valid_join fun m hm => by
      rcases List.mem_append.1 hm with hm | hm
      · exact madeN_name hci m hm
      · exact madeN_name hcj m hm
  have hm12 : (plM (1 + Int.tmod x.2.1 3) x.2.2).length ≤ 12 := by
    unfold plM
    cases eqi (1 + Int.tmod x.2.1 3) 3
    · simp
    · have m8 := Int.tmod_nonneg 8 hN.1
      have u : 0 ≤ IntKind.wrap .u8 (Int.tmod x.2.2 8) := by rw [IntKind.wrap_u8]; omega
      exact (name_len (callN_name u)).2
  have hr : (restB (1 + Int.tmod x.2.1 3) (plN (1 + Int.tmod x.2.1 3) x.2.2) (plM (1 + Int.tmod x.2.1 3) x.2.2)).length ≤ 13 := by
    unfold restB
    cases eqi (1 + Int.tmod x.2.1 3) 1
    · cases eqi (1 + Int.tmod x.2.1 3) 2
      · simp; omega
      · simp [blk_len]
    · simp
  have KK : path_Key NN (madeP (cut2 l (0 : Int) i) ++ madeP (cut2 x.1 (0 : Int) j), 1 + Int.tmod x.2.1 3, plN (1 + Int.tmod x.2.1 3) x.2.2, plM (1 + Int.tmod x.2.1 3) x.2.2) = some (madeP (cut2 l (0 : Int) i) ++ (madeP (cut2 x.1 (0 : Int) j) ++ restB (1 + Int.tmod x.2.1 3) (plN (1 + Int.tmod x.2.1 3) x.2.2) (plM (1 + Int.tmod x.2.1 3) x.2.2)), 0) := by
    rw [Key_valid vK (by simp; omega) (by omega), keyR_made t0 t1 hN.1, List.append_assoc]; rfl
  have hnm : madeP (cut2 x.1 (0 : Int) j) = [] ∨ ∃ c s, madeP (cut2 x.1 (0 : Int) j) = c :: s ∧ 33 ≤ c.toNat := by
    have hb := join_big (madeN_name hcj)
    cases h : madeP (cut2 x.1 (0 : Int) j) with
    | nil => exact .inl rfl
    | cons c s => exact .inr ⟨c, s, rfl, hb c (by show c ∈ madeP (cut2 x.1 (0 : Int) j); rw [h]; simp)⟩
  have p0 := orders_p0 (t := x.2.1) (N := x.2.2) bP hL ht.1 hN.1 hN.2 a0 a1 b0 b1 w.1 w.2.1 w.2.2.1 w.2.2.2 u3 u4 (madeP (cut2 x.1 (0 : Int) j)) (restB (1 + Int.tmod x.2.1 3) (plN (1 + Int.tmod x.2.1 3) x.2.2) (plM (1 + Int.tmod x.2.1 3) x.2.2)) (by omega) hnm
  have z : eqi (0 : Int) 0 = true := rfl
  simp only [law01_PathOrders, sanity1, ei, ej, Made_eq hci, K1, K2 _ a0 a1, K2 _ b0 b1, Call_eq u3, Call_eq u4, K3 _ n3, K3 _ n4, MadePlace_eq hcj t0 t1 hN.1 hN.2]
  rw [gd_t (by simp; omega), gd_t (by simp; omega), gd_p (by simp only [maxS]; omega)]
  simp only [KK, z, Bool.not_true, cond_false, law01_PathOrders_p1, p0]

theorem dg_mem (x : Int) (h0 : 0 ≤ x) (h1 : x < 16) : dg x ∈ digs := by
  unfold dg
  have hl : x.toNat < digs.length := by simp [digs]; omega
  rw [List.getD_eq_getElem?_getD, List.getElem?_eq_getElem hl]
  exact List.getElem_mem hl
theorem hexN_mem (n : Int) : ∀ k, ∀ b ∈ hexN k n, b ∈ digs
  | 0, b, h => by simp [hexN] at h
  | k + 1, b, h => by
    simp only [hexN, List.mem_cons] at h
    rcases h with rfl | h
    · exact dg_mem _ (Int.emod_nonneg _ (by omega)) (Int.emod_lt_of_pos _ (by omega))
    · exact hexN_mem n k b h
theorem trim_all {l cs : B} (h : ∀ b ∈ l, b ∈ cs) : Lib.trimS l cs = [] := by
  have d : ∀ l : B, (∀ b ∈ l, b ∈ cs) → l.dropWhile (cs.contains ·) = [] := by
    intro l hl
    induction l with
    | nil => rfl
    | cons b l ih =>
      have : cs.contains b = true := by simpa using hl b (by simp)
      simp only [List.dropWhile_cons, this, if_true]
      exact ih fun c hc => hl c (by simp [hc])
  unfold Lib.trimS Lib.trimLeftS Lib.trimRightS
  rw [d l.reverse fun b hb => h b (by simpa using hb)]
  rfl
theorem dg_le : ((List.range 8).all fun (a : Nat) => decide ((dg (a : Int)).toNat ≤ 55)) = true := by decide +kernel

theorem isBody_body {n : Int} (h0 : 0 ≤ n) (h1 : n ≤ 2147483647) : path_isBody NN (bodyB n) = some true := by
  have p7 : (16 : Int) ^ 7 = 268435456 := by decide
  have q0 : 0 ≤ n / 16 ^ 7 := Int.ediv_nonneg h0 (by omega)
  have q1 : n / 16 ^ 7 % 16 < 8 := by rw [p7]; omega
  have q2 : 0 ≤ n / 16 ^ 7 % 16 := Int.emod_nonneg _ (by omega)
  have e : bodyB n = 5 :: dg (n / 16 ^ 7 % 16) :: (hexN 7 n ++ [47]) := rfl
  have l10 : ((bodyB n).length : Int) = 10 := by rw [body_len]; rfl
  have b0 : bt (bodyB n) (0 : Int) = 5 := rfl
  have b1 : bt (bodyB n) (1 : Int) = ((dg (n / 16 ^ 7 % 16)).toNat : Int) := rfl
  have b9 : bt (bodyB n) (9 : Int) = 47 := rfl
  have d1 : decide ((55 : Int) < ((dg (n / 16 ^ 7 % 16)).toNat : Int)) = false := by
    have := List.all_eq_true.1 dg_le (n / 16 ^ 7 % 16).toNat (List.mem_range.2 (by omega))
    have e2 : ((n / 16 ^ 7 % 16).toNat : Int) = n / 16 ^ 7 % 16 := by omega
    rw [e2] at this
    have := of_decide_eq_true this
    exact decide_eq_false fun hh => by omega
  have c : cut2 (bodyB n) (1 : Int) (9 : Int) = hexN 8 n := rfl
  have g : ∀ {R : Type} (i : Int) (K : Option R), 0 ≤ i → i < 10 → gd (inB i (bodyB n).length) K = K := fun i K a b => gd_t (by rw [body_len]; simp [inB]; omega) K
  have tf : trimF (hexN 8 n) [48, 49, 50, 51, 52, 53, 54, 55, 56, 57, 97, 98, 99, 100, 101, 102] = some [] := by
    unfold trimF
    rw [gd_t (by rw [hexN_len]; decide)]
    exact congrArg some (trim_all (cs := digs) (hexN_mem n 8))
  have z5 : eqi (5 : Int) 5 = true := rfl
  have z47 : eqi (47 : Int) 47 = true := rfl
  have z10 : eqi (10 : Int) 10 = true := rfl
  simp only [path_isBody, l10, z10, Bool.not_true, cond_false, path_isBody_p0, c, strings_Trim, tf, eqs_self]
  rw [g 0 _ (by omega) (by omega), b0, z5]
  simp only [Bool.not_true, cond_false]
  rw [g 1 _ (by omega) (by omega), b1, d1]
  simp only [cond_false]
  rw [g 9 _ (by omega) (by omega), b9, z47]
  simp only [Bool.not_true, cond_false]
  rw [gd_t (by simp)]

theorem Key_body {n t N : Int} {m : B} (h0 : 0 ≤ n) (h1 : n ≤ 2147483647) (ht : eqi t 4 = false) (hm : m.length < 4000000000000) : path_Key NN (bodyB n, t, N, m) = some (resR (keyR (bodyB n) t N m)) := by
  have hl := body_len n
  simp only [path_Key, Valid_eq (s := bodyB n) (by omega), body_valid, cond_false, isBody_body h0 h1, cond_true, ht, Bool.not_false, Key_p1 (bodyB n) m t N (by omega) hm]
  cases keyR (bodyB n) t N m <;> rfl

theorem rbody_l0 (n : Int) (h0 : 0 ≤ n) (h1 : n < 2147483648) : ∀ (k i m : Nat), i + k = 8 → k < m →
    ref01_Body_l0 NN m (n / 16 ^ i) (hexN i n) (i : Int) = some (hexN 8 n, ())
  | _, _, 0, _, h => absurd h (Nat.not_lt_zero _)
  | 0, i, m + 1, hi, _ => by
    have : i = 8 := by omega
    subst this
    rw [ref01_Body_l0_succ]
    simp only [ref01_Body_l0_step]
    rw [bif_f (by decide)]
  | k + 1, i, m + 1, hi, hm => by
    have p : (0 : Int) < 16 ^ i := Int.pow_pos (by omega)
    have q0 : 0 ≤ n / 16 ^ i := Int.ediv_nonneg h0 (by omega)
    have q1 : n / 16 ^ i ≤ n := Int.ediv_le_self _ h0
    have t1 : Int.tmod (n / 16 ^ i) 16 = n / 16 ^ i % 16 := Int.tmod_eq_emod_of_nonneg q0
    have t2 : Int.tdiv (n / 16 ^ i) 16 = n / 16 ^ (i + 1) := by
      rw [Int.tdiv_eq_ediv_of_nonneg q0, Int.pow_succ, Int.ediv_ediv_of_nonneg (by omega)]
    have r0 : 0 ≤ n / 16 ^ i % 16 := Int.emod_nonneg _ (by omega)
    have r1 : n / 16 ^ i % 16 < 16 := Int.emod_lt_of_pos _ (by omega)
    have w1 : IntKind.wrap .i64 (n / 16 ^ i % 16 + (1 : Int)) = n / 16 ^ i % 16 + 1 := w64 (by omega) (by omega)
    have q2 : 0 ≤ n / 16 ^ (i + 1) := Int.ediv_nonneg h0 (by have : (0 : Int) < 16 ^ (i + 1) := Int.pow_pos (by omega); omega)
    have q3 : n / 16 ^ (i + 1) ≤ n := Int.ediv_le_self _ h0
    have w2 : IntKind.wrap .i64 (n / 16 ^ (i + 1)) = n / 16 ^ (i + 1) := w64 (by omega) (by omega)
    have w3 : IntKind.wrap .i64 ((i : Int) + (1 : Int)) = ((i + 1 : Nat) : Int) := by rw [w64 (by omega) (by omega)]; omega
    have d : decide ((i : Int) < 8) = true := by simp; omega
    have c : cut2 ([48, 49, 50, 51, 52, 53, 54, 55, 56, 57, 97, 98, 99, 100, 101, 102] : B) (n / 16 ^ i % 16) (n / 16 ^ i % 16 + 1) = [dg (n / 16 ^ i % 16)] := by
      generalize n / 16 ^ i % 16 = x at r0 r1
      have : ((List.range 16).all fun (a : Nat) => eqs (cut2 ([48, 49, 50, 51, 52, 53, 54, 55, 56, 57, 97, 98, 99, 100, 101, 102] : B) (a : Int) ((a : Int) + 1)) [dg (a : Int)]) = true := by decide +kernel
      have := List.all_eq_true.1 this x.toNat (List.mem_range.2 (by omega))
      have e2 : (x.toNat : Int) = x := by omega
      rw [e2] at this
      exact eqs_iff.1 this
    rw [ref01_Body_l0_succ]
    simp only [ref01_Body_l0_step, d, cond_true, t1, t2, w1, w2, w3, c]
    rw [gd_t (by simp; omega), gd_p (by simp only [maxS, List.length_singleton, hexN_len]; omega)]
    exact rbody_l0 n h0 h1 k (i + 1) m (by omega) (by omega)

theorem rBody_eq {n : Int} (h0 : 0 ≤ n) (h1 : n ≤ 2147483647) : ref01_Body NN n = some (bodyB n) := by
  have d0 : decide (n < 0) = false := by simp; omega
  have d1 : decide ((2147483647 : Int) < n) = false := by simp; omega
  have h := rbody_l0 n h0 (by omega) 8 0 NN (by omega) (by simp only [NN]; omega)
  have e1 : n / 16 ^ 0 = n := by simp
  rw [e1] at h
  have h : ref01_Body_l0 NN NN n [] 0 = some (hexN 8 n, ()) := h
  simp only [ref01_Body, d0, d1, cond_false, h]
  rw [gd_p (by simp only [maxS, List.length_singleton, hexN_len]; omega), gd_p (by simp only [maxS, List.length_append, List.length_singleton, hexN_len]; omega)]
  rfl

def low (p : B) : Prop := ∀ b ∈ p, 4 ≤ b.toNat
theorem noAny_low {p r : B} {c : UInt8} (hp : low p) : Lib.NoAny (p ++ c :: r) [1, 2, 3] p.length := fun j b hj hb => by
  rw [List.getElem?_append_left hj] at hb
  have := hp b (List.mem_of_getElem? hb)
  cases h : ([1, 2, 3] : B).contains b
  · rfl
  · simp at h
    rcases h with rfl | rfl | rfl <;> exact absurd this (by decide)
theorem any_key {p r : B} {c : UInt8} (hp : low p) (hc : ([1, 2, 3] : B).contains c = true) : Lib.indexAny (p ++ c :: r) [1, 2, 3] = (p.length : Int) :=
  Lib.indexAny_hit (noAny_low hp) (by simp) hc

theorem upTo_eq {p r : B} {c : UInt8} (hp : low p) (hc : ([1, 2, 3] : B).contains c = true) (hl : (p ++ c :: r).length < 100000) :
    path_rest_upTo_m NN (p ++ c :: r) [] 0 0 [] = some ((p, (c.toNat : Int)), ((r, ([], (0, (0, [])))), ())) := by
  have a : strings_IndexAny NN (p ++ c :: r) [1, 2, 3] = some (p.length : Int) := by
    simp only [strings_IndexAny, anyF]
    rw [gd_t (by
      have e : asciiB ([1, 2, 3] : B) = true := by decide
      rw [e]
      simp only [Bool.true_and, Bool.and_eq_true, decide_eq_true_eq]
      exact ⟨⟨by decide, by omega⟩, by decide⟩), any_key hp hc]
  have d : decide ((p.length : Int) < 0) = false := by simp
  have w : IntKind.wrap .i64 ((p.length : Int) + (1 : Int)) = (p.length : Int) + 1 := by
    simp only [List.length_append, List.length_cons] at hl
    exact w64 (by omega) (by omega)
  have c1 : cut2 (p ++ c :: r) (0 : Int) (p.length : Int) = p := by simp [cut2]
  have c2 : cut2 (p ++ c :: r) ((p.length : Int) + 1) ((p ++ c :: r).length : Int) = r := by
    unfold cut2
    have e : ((p.length : Int) + 1).toNat = p.length + 1 := by omega
    rw [e, show (p ++ c :: r).drop (p.length + 1) = r by simp [List.drop_append]]
    exact List.take_of_length_le (by simp; omega)
  have b : bt (p ++ c :: r) (p.length : Int) = (c.toNat : Int) := by simp [bt]
  simp only [path_rest_upTo_m, a, d, cond_false, w, c1, c2, b]
  rw [gd_t (by simp; omega), gd_t (by simp [inB]; omega), gd_t (by simp; omega)]

theorem cutpre6_no {s : B} (h : ([6] : B).isPrefixOf s = false) (hs : s.length < 1000000000) : strings_CutPrefix NN s [6] = some (s, false) := by
  simp only [strings_CutPrefix, stringslite_CutPrefix, HasPre _ _ (show s.length < 9223372036854775807 by omega), h, Bool.not_false, cond_true]
theorem cutpre6 (t : B) (h : t.length < 1000000000) : strings_CutPrefix NN (6 :: t) [6] = some (t, true) := by
  have hp : ([6] : B).isPrefixOf (6 :: t) = true := by simp [List.isPrefixOf]
  have c : cut2 (6 :: t) (([6] : B).length : Int) ((6 :: t).length : Int) = t := by
    unfold cut2
    have d : (6 :: t).drop (Int.toNat (([6] : B).length : Int)) = t := rfl
    rw [d]; exact List.take_of_length_le (by simp)
  simp only [strings_CutPrefix, stringslite_CutPrefix, HasPre (6 :: t) _ (by simp; omega), hp, Bool.not_true, cond_false, c]
  rw [gd_t (by simp; omega)]

/-- the key of an entry -/
theorem read_entry {p : B} (hp : low p) (h6 : ([6] : B).isPrefixOf (p ++ [1]) = false) (hl : p.length < 10000) : path_place_read_m NN (p ++ [1]) [] 0 0 [] = some ((), (([], (p, (1, (0, [])))), ())) := by
  have u := upTo_eq (p := p) (r := []) (c := 1) hp (by decide) (by simp; omega)
  have w : IntKind.wrap .i64 (((1 : UInt8).toNat : Nat) : Int) = 1 := by decide
  have e1 : (((1 : UInt8).toNat : Nat) : Int) = 1 := rfl
  simp only [path_place_read_m, cutpre6_no h6 (by simp; omega), u, cond_false, w, e1, path_place_read_m_p0]
  rfl
/-- the key of a mark -/
theorem read_link {p : B} (hp : low p) (hl : p.length < 10000) : path_place_read_m NN ([6] ++ p ++ [1]) [] 0 0 [] = some ((), (([], (p, (4, (0, [])))), ())) := by
  have u := upTo_eq (p := p) (r := []) (c := 1) hp (by decide) (by simp; omega)
  have w : IntKind.wrap .i64 (((1 : UInt8).toNat : Nat) : Int) = 1 := by decide
  have e1 : (((1 : UInt8).toNat : Nat) : Int) = 1 := rfl
  have e : [6] ++ p ++ [1] = (6 : UInt8) :: (p ++ [1]) := rfl
  rw [e]
  simp only [path_place_read_m, cutpre6 (p ++ [1]) (by simp; omega), u, cond_true, w, e1, path_place_read_m_p0]
  rfl
/-- the key of an attribute -/
theorem read_attr {p m : B} (hp : low p) (h6 : ([6] : B).isPrefixOf (p ++ 3 :: m) = false) (hl : p.length < 10000) (hm : m.length < 10000) : path_place_read_m NN (p ++ 3 :: m) [] 0 0 [] = some ((), ((m, (p, (3, (0, m)))), ())) := by
  have u := upTo_eq (p := p) (r := m) (c := 3) hp (by decide) (by simp; omega)
  have w : IntKind.wrap .i64 (((3 : UInt8).toNat : Nat) : Int) = 3 := by decide
  have e1 : (((3 : UInt8).toNat : Nat) : Int) = 3 := rfl
  have z2 : eqi (3 : Int) 2 = false := rfl
  have z3 : eqi (3 : Int) 3 = true := rfl
  have w3 : IntKind.wrap .i64 (3 : Int) = 3 := by decide
  simp only [path_place_read_m, cutpre6_no h6 (by simp; omega), u, cond_false, e1, w3, path_place_read_m_p0, z2, z3, cond_true]
theorem or_step {n x : Int} (h0 : 0 ≤ n) (h1 : n < 1099511627776) (hx0 : 0 ≤ x) (hx : x < 256) :
    IntKind.wrap .i64 (((BitVec.ofInt (IntKind.bits .i64) (IntKind.wrap .i64 (n * 2 ^ min (Int.toNat (8 : Int)) (IntKind.bits .i64))) ||| BitVec.ofInt (IntKind.bits .i64) (IntKind.wrap .i64 x)).toNat : Nat) : Int) = n * 256 + x := by
  have e0 : (2 : Int) ^ min (Int.toNat (8 : Int)) (IntKind.bits .i64) = 256 := by decide
  have e1 : IntKind.wrap .i64 (n * 256) = n * 256 := w64 (by omega) (by omega)
  have e2 : IntKind.wrap .i64 x = x := w64 (by omega) (by omega)
  have b : IntKind.bits .i64 = 64 := rfl
  rw [e0, e1, e2, b, BitVec.toNat_or]
  obtain ⟨a, rfl⟩ := Int.eq_ofNat_of_zero_le h0
  obtain ⟨c, rfl⟩ := Int.eq_ofNat_of_zero_le hx0
  have t1 : (BitVec.ofInt 64 ((a : Int) * 256)).toNat = a * 256 := by
    rw [BitVec.toNat_ofInt]; omega
  have t2 : (BitVec.ofInt 64 (c : Int)).toNat = c := by
    rw [BitVec.toNat_ofInt]; omega
  have hor : a * 256 ||| c = a * 256 + c := by
    have := Nat.two_pow_add_eq_or_of_lt (i := 8) (b := c) (by omega) a
    rw [show (2 : Nat) ^ 8 = 256 from rfl] at this
    rw [Nat.mul_comm a 256, ← this]
  rw [t1, t2, hor, w64 (by omega) (by omega)]
  omega


/-- the key of a block -/
theorem read_block {p : B} {k : Nat} (hk : k ≤ 60000) (hp : low p) (h6 : ([6] : B).isPrefixOf (p ++ blk (k : Int)) = false) (hl : p.length < 10000) : ∃ r, path_place_read_m NN (p ++ blk (k : Int)) [] 0 0 [] = some ((), ((r, (p, (2, ((k : Int), [])))), ())) := by
  rw [blk_nat hk] at h6 ⊢
  have u := upTo_eq (p := p) (r := [UInt8.ofNat (k / 256), UInt8.ofNat (k % 256)]) (c := 2) hp (by decide) (by simp; omega)
  have e1 : (((2 : UInt8).toNat : Nat) : Int) = 2 := rfl
  have w2 : IntKind.wrap .i64 (2 : Int) = 2 := by decide
  have z2 : eqi (2 : Int) 2 = true := rfl
  have ea : (UInt8.ofNat (k / 256)).toNat = k / 256 := by simp; omega
  have eb : (UInt8.ofNat (k % 256)).toNat = k % 256 := by simp
  have b0 : bt [UInt8.ofNat (k / 256), UInt8.ofNat (k % 256)] (0 : Int) = ((k / 256 : Nat) : Int) := by
    show ((UInt8.ofNat (k / 256)).toNat : Int) = _
    rw [ea]
  have b1 : bt [UInt8.ofNat (k / 256), UInt8.ofNat (k % 256)] (1 : Int) = ((k % 256 : Nat) : Int) := by
    show ((UInt8.ofNat (k % 256)).toNat : Int) = _
    rw [eb]
  have wa : IntKind.wrap .i64 ((k / 256 : Nat) : Int) = ((k / 256 : Nat) : Int) := w64 (by omega) (by omega)
  have o := or_step (n := ((k / 256 : Nat) : Int)) (x := ((k % 256 : Nat) : Int)) (by omega) (by omega) (by omega) (by omega)
  have ek : ((k / 256 : Nat) : Int) * 256 + ((k % 256 : Nat) : Int) = (k : Int) := by omega
  rw [ek] at o
  have l2 : eqi (([UInt8.ofNat (k / 256), UInt8.ofNat (k % 256)] : B).length : Int) 2 = true := rfl
  refine ⟨[UInt8.ofNat (k / 256), UInt8.ofNat (k % 256)], ?_⟩
  simp only [path_place_read_m, cutpre6_no h6 (by simp; omega), u, cond_false, e1, w2, path_place_read_m_p0, z2, cond_true, l2, b0, b1, wa, o]
  rw [gd_t (b := inB 0 ([UInt8.ofNat (k / 256), UInt8.ofNat (k % 256)] : B).length) rfl, gd_t (b := decide (0 ≤ (8 : Int))) rfl, gd_t (b := inB 1 ([UInt8.ofNat (k / 256), UInt8.ofNat (k % 256)] : B).length) rfl]

/-- a place is read from its key -/
theorem Place_of {k : B} {x : V_api_Place} {r : B} (hr : path_place_read_m NN k [] 0 0 [] = some ((), ((r, x), ()))) (hk : path_Key NN x = some (k, 0)) : path_Place NN k = some (x, 0) := by
  have z : eqi (0 : Int) 0 = true := rfl
  simp only [path_Place, hr, hk, z, Bool.not_true, cond_false, eqs_self]

theorem made_p0 (L : List Int) (t : Int) (p : B) (T : Int) {N : Int} (h0 : 0 ≤ N) (h1 : N < 65536) : ref01_MadePlace_p0 NN L t N [] 0 0 [] p T 0 [] = some ((), ((p, T, plN T N, plM T N), ())) := by
  have w3 : IntKind.wrap .i64 N = N := w64 (by omega) (by omega)
  have m8 := Int.tmod_nonneg 8 h0
  have u : 0 ≤ IntKind.wrap .u8 (Int.tmod N 8) := by rw [IntKind.wrap_u8]; omega
  simp only [ref01_MadePlace_p0, w3, Call_eq u, plN, plM]
  cases e2 : eqi T 2
  · cases e3 : eqi T 3 <;> rfl
  · have e3 : eqi T 3 = false := by rw [eqi_iff.1 e2]; rfl
    simp only [e3, cond_true, cond_false]

theorem no6 {p r : B} {c : UInt8} (h : p = [] ∨ ∃ a s, p = a :: s ∧ a ≠ 6) (hc : c ≠ 6) : ([6] : B).isPrefixOf (p ++ c :: r) = false := by
  rcases h with rfl | ⟨a, s, rfl, ha⟩
  · simp [List.isPrefixOf]; exact fun e => hc e.symm
  · simp [List.isPrefixOf]; exact fun e => ha e.symm

/-- a right path -/
structure RightP (p : B) (b4 : Bool) : Prop where
  low : low p
  h6 : p = [] ∨ ∃ a s, p = a :: s ∧ a ≠ 6
  len : p.length < 1000
  key : ∀ t n m, (b4 = true ∨ eqi t 4 = false) → m.length < 1000 → path_Key NN (p, t, n, m) = some (resR (keyR p t n m))

theorem right_made {L : List Int} (h : U8s L) : RightP (madeP L) true := by
  have hb := join_big (madeN_name h)
  have hl := madeP_len h
  refine ⟨fun b hb' => by have := hb b hb'; omega, ?_, by omega, fun t n m _ hm => Key_valid (madeP_valid h) (by omega) (by omega)⟩
  cases e : madeP L with
  | nil => exact .inl rfl
  | cons a s =>
    refine .inr ⟨a, s, rfl, fun h6 => ?_⟩
    have : 33 ≤ a.toNat := hb a (by show a ∈ madeP L; rw [e]; simp)
    rw [h6] at this
    exact absurd this (by decide)
theorem right_body {n : Int} (h0 : 0 ≤ n) (h1 : n ≤ 2147483647) : RightP (bodyB n) false := by
  have hd : (digs.all fun b => decide (4 ≤ b.toNat)) = true := by decide
  refine ⟨fun b hb => ?_, .inr ⟨5, _, rfl, by decide⟩, by rw [body_len]; omega, fun t n' m h hm => Key_body h0 h1 (h.resolve_left (by decide)) (by omega)⟩
  unfold bodyB at hb
  rcases List.mem_append.1 hb with hb | hb
  · rcases List.mem_cons.1 hb with rfl | hb
    · decide
    · simpa using List.all_eq_true.1 hd b (hexN_mem n 8 b hb)
  · rw [List.mem_singleton.1 hb]; decide

theorem place_right {p : B} {b4 : Bool} (hp : RightP p b4) {T N : Int} (hT : T = 1 ∨ T = 2 ∨ T = 3 ∨ (T = 4 ∧ b4 = true)) (h0 : 0 ≤ N) (h1 : N < 65536) :
    ∃ k, path_Key NN (p, T, plN T N, plM T N) = some (k, 0) ∧ path_Place NN k = some ((p, T, plN T N, plM T N), 0) := by
  have hl := hp.len
  rcases hT with rfl | rfl | rfl | ⟨rfl, hb⟩
  · have hk : path_Key NN (p, 1, plN 1 N, plM 1 N) = some (p ++ [1], 0) := (hp.key 1 0 [] (.inr rfl) (by simp)).trans (by rfl)
    exact ⟨_, hk, Place_of (read_entry hp.low (no6 hp.h6 (by decide)) (by omega)) hk⟩
  · have n0 := Int.tmod_nonneg 60001 h0
    have n1 : Int.tmod N 60001 < 60001 := Int.tmod_lt_of_pos _ (by omega)
    obtain ⟨k, ek⟩ := Int.eq_ofNat_of_zero_le n0
    have eN : plN 2 N = (k : Int) := ek
    have eM : plM 2 N = [] := rfl
    rw [eN, eM]
    have hk : path_Key NN (p, 2, (k : Int), []) = some (p ++ blk (k : Int), 0) := by
      rw [hp.key 2 (k : Int) [] (.inr rfl) (by simp)]
      have e1 : eqi (2 : Int) 1 = false := rfl
      have e2 : eqi (2 : Int) 2 = true := rfl
      have d0 : decide (0 ≤ (k : Int)) = true := decide_eq_true (by omega)
      have d1 : decide ((k : Int) ≤ 60000) = true := decide_eq_true (by omega)
      simp only [keyR, e1, e2, cond_false, cond_true, eqs_self, d0, d1, Bool.and_self, resR]
    obtain ⟨r, hr⟩ := read_block (p := p) (k := k) (by omega) hp.low (by rw [blk_nat (by omega)]; exact no6 hp.h6 (by decide)) (by omega)
    exact ⟨_, hk, Place_of hr hk⟩
  · have m8 := Int.tmod_nonneg 8 h0
    have u : 0 ≤ IntKind.wrap .u8 (Int.tmod N 8) := by rw [IntKind.wrap_u8]; omega
    have nm := callN_name u
    have nl := name_len nm
    have eN : plN 3 N = 0 := rfl
    have eM : plM 3 N = callN (IntKind.wrap .u8 (Int.tmod N 8)) := rfl
    rw [eN, eM]
    have hk : path_Key NN (p, 3, 0, callN (IntKind.wrap .u8 (Int.tmod N 8))) = some (p ++ 3 :: callN (IntKind.wrap .u8 (Int.tmod N 8)), 0) := by
      rw [hp.key 3 0 _ (.inr rfl) (by omega)]
      have e1 : eqi (3 : Int) 1 = false := rfl
      have e2 : eqi (3 : Int) 2 = false := rfl
      have e3 : eqi (3 : Int) 3 = true := rfl
      have e4 : p ++ [3] ++ callN (IntKind.wrap .u8 (Int.tmod N 8)) = p ++ 3 :: callN (IntKind.wrap .u8 (Int.tmod N 8)) := by simp
      simp only [keyR, e1, e2, e3, cond_false, cond_true, eqi_self, nm, Bool.and_self, resR, e4]
    exact ⟨_, hk, Place_of (read_attr hp.low (no6 hp.h6 (by decide)) (by omega) (by omega)) hk⟩
  · have hk : path_Key NN (p, 4, plN 4 N, plM 4 N) = some ([6] ++ p ++ [1], 0) := (hp.key 4 0 [] (.inl hb) (by simp)).trans (by rfl)
    exact ⟨_, hk, Place_of (read_link hp.low (by omega)) hk⟩

theorem made_place (x : V_ref01_Raw) (hx : okT T_ref01_Raw x) : ∃ pl k, ref01_MadePlace NN x = some pl ∧ path_Key NN pl = some (k, 0) ∧ path_Place NN k = some (pl, 0) := by
  obtain ⟨L, t, N⟩ := x
  have hL : U8s L := u8s_of hx.1
  have ht : 0 ≤ t ∧ t < 256 := u8_of_wf hx.2.1
  have hN : 0 ≤ N ∧ N < 65536 := u16_of_wf hx.2.2
  have t4 : Int.tmod t 4 = t % 4 := Int.tmod_eq_emod_of_nonneg ht.1
  have r0 : 0 ≤ t % 4 := Int.emod_nonneg _ (by omega)
  have r1 : t % 4 < 4 := Int.emod_lt_of_pos _ (by omega)
  have w1 : IntKind.wrap .i64 (t % 4) = t % 4 := w64 (by omega) (by omega)
  have w2 : IntKind.wrap .i64 (1 + t % 4) = 1 + t % 4 := w64 (by omega) (by omega)
  have w3 : IntKind.wrap .i64 N = N := w64 (by omega) (by omega)
  have w4 : IntKind.wrap .i64 (N * 257) = N * 257 := w64 (by omega) (by omega)
  have B := rBody_eq (n := N * 257) (by omega) (by omega)
  simp only [ref01_MadePlace, Made_eq hL, t4, w1, w2, w3, w4, B]
  have hTB : (1 + t % 4 = 1 ∨ 1 + t % 4 = 2 ∨ 1 + t % 4 = 3 ∨ (1 + t % 4 = 4 ∧ true = true)) := by
    rcases (show 1 + t % 4 = 1 ∨ 1 + t % 4 = 2 ∨ 1 + t % 4 = 3 ∨ 1 + t % 4 = 4 by omega) with h | h | h | h
    · exact .inl h
    · exact .inr (.inl h)
    · exact .inr (.inr (.inl h))
    · exact .inr (.inr (.inr ⟨h, rfl⟩))
  cases decide ((64 : Int) ≤ t)
  · simp only [cond_false, made_p0 L t (madeP L) (1 + t % 4) hN.1 hN.2]
    obtain ⟨k, k1, k2⟩ := place_right (right_made hL) hTB hN.1 hN.2
    exact ⟨_, k, rfl, k1, k2⟩
  · simp only [cond_true]
    cases e4 : eqi (1 + t % 4) 4
    · simp only [Bool.not_false, cond_true, made_p0 L t (bodyB (N * 257)) (1 + t % 4) hN.1 hN.2]
      have : 1 + t % 4 ≠ 4 := fun h => by rw [h] at e4; cases e4
      obtain ⟨k, k1, k2⟩ := place_right (right_body (n := N * 257) (by omega) (by omega)) (T := 1 + t % 4) (by
        rcases (show 1 + t % 4 = 1 ∨ 1 + t % 4 = 2 ∨ 1 + t % 4 = 3 by omega) with h | h | h
        · exact .inl h
        · exact .inr (.inl h)
        · exact .inr (.inr (.inl h))) hN.1 hN.2
      exact ⟨_, k, rfl, k1, k2⟩
    · simp only [Bool.not_true, cond_false, made_p0 L t (madeP L) (1 + t % 4) hN.1 hN.2]
      obtain ⟨k, k1, k2⟩ := place_right (right_made hL) hTB hN.1 hN.2
      exact ⟨_, k, rfl, k1, k2⟩

theorem plainKeys (x y : V_ref01_Raw) (hx : okSh (.val T_ref01_Raw) x) (hy : okSh (.val T_ref01_Raw) y) : law01_PathKeys NN x y = some true := by
  obtain ⟨a, k, a1, a2, a3⟩ := made_place x hx
  obtain ⟨b, l, b1, b2, b3⟩ := made_place y hy
  have z : eqi (0 : Int) 0 = true := rfl
  simp only [law01_PathKeys, sanity1, a1, b1, a2, b2, a3, z, cond_true, eqs_self, eqi_self, Bool.and_self]
  have e : eqs k l = (eqs a.1 b.1 && (eqi a.2.1 b.2.1 && (eqi a.2.2.1 b.2.2.1 && (eqs a.2.2.2 b.2.2.2 && true)))) := by
    rw [Bool.eq_iff_iff]
    simp only [Bool.and_eq_true, eqs_iff, eqi_iff, and_true]
    constructor
    · intro h
      rw [h, b3] at a3
      have : b = a := congrArg (fun x => x.1) (Option.some.inj a3)
      rw [this]; exact ⟨rfl, rfl, rfl, rfl⟩
    · rintro ⟨e1, e2, e3, e4⟩
      have : a = b := Prod.ext e1 (Prod.ext e2 (Prod.ext e3 e4))
      rw [this, b2] at a2
      exact (congrArg (fun x => x.1) (Option.some.inj a2)).symm
  rw [e]
  simp [eqb]
end Ds
