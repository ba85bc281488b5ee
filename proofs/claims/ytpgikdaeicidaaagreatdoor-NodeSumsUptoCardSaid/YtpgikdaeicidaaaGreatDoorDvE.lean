/- strings.IndexRune at runes beyond ASCII in an ASCII text. -/
import Derived.Shelf.Strings.IndexAnyAll
import Derived.Shelf.Small.Utf8
import Derived.Lib.OthersKept
import Derived.Laws.Runes
import Derived.Shelf.RegionOpenPlain
import Derived.Test.YtpgikdaeicidaaaGreatDoorDvD
import Derived.Shelf.Strings.FuncGrows
import Derived.Shelf.Strings.SlTrimAscii
import Derived.Shelf.Strings.Search1
import Derived.LaidMore
import Derived.Lay
import Derived.Handed
import Derived.JoinedCond
set_option linter.all false
namespace Go.Proofs
open Go.Shelf Go.RowKit Go.Lib
variable {P : Program} {ρ : Ren}
theorem yzi {l : List UInt8} (h : ∀ (j : Nat) b, l[j]? = some b → b.toNat < 128) {b : UInt8} (hb : b ∈ l) : b.toNat < 128 := by
  obtain ⟨j, hj⟩ := List.mem_iff_getElem?.1 hb
  exact h j b hj
theorem x7h : ∀ (l : List UInt8) (y : UInt8), (∀ b ∈ l, b.toNat < 128) → 128 ≤ y.toNat → Lib.indexByte l y = -1
  | [], _, _, _ => rfl
  | b :: l, y, h, hy => by
    have h1 : (b == y) = false := by
      cases e : b == y
      · rfl
      · have := h b (by simp)
        rw [eq_of_beq e] at this; omega
    have := x7h l y (fun c hc => h c (by simp [hc])) hy
    simp only [Lib.indexByte, h1, this, Bool.false_eq_true, if_false]
    rfl
set_option maxHeartbeats 4000000 in
set_option maxRecDepth 1000000 in
theorem x87 (L : Lays.n152 P ρ) (s : ByteArray) (r : Int) (w : World) (h1 : 128 ≤ r) (h2 : Lib.validRune r = true) (h3 : r ≠ 65533) (hs : s.size < 4294967281) (hascii : ∀ (j : Nat) b, s.data.toList[j]? = some b → b.toNat < 128) :
    Calls P (ρ.f 152) #[.string s, .int .i32 r] w fun e w' => e = .returned (.int .i64 (-1)) ∧ Below w.heap.size w w' := by
  have HA : Aside (∀ (j : Nat) b, s.data.toList[j]? = some b → b.toNat < 128) := hascii
  clear hascii
  have mixed := L.mixed
  have t0 := L.t0; have a0 := L.a0; have z0 := L.z0; have v0 := L.v0
  have t3 := L.t3; have a3 := L.a3; have z3 := L.z3; have v3 := L.v3
  have t4 := L.t4; have a4 := L.a4; have z4 := L.z4; have v4 := L.v4
  have t5 := L.t5; have a5 := L.a5; have z5 := L.z5; have v5 := L.v5
  have t9 := L.t9; have a9 := L.a9; have z9 := L.z9; have v9 := L.v9
  have t21 := L.t21; have a21 := L.a21; have z21 := L.z21; have v21 := L.v21
  have d1 : decide (r < 128) = false := decide_eq_false (by omega)
  have d2 : (r == 65533) = false := beq_eq_false_iff_ne.2 h3
  have e119 : ∀ args w, (callFunc (ρ.f 119) args).run P w = .ok (.enter (ρ.f 119) args) w := enters_of L.f119 (by kernel_rfl) rfl
  have e137 : ∀ args w, (callFunc (ρ.f 137) args).run P w = .ok (.enter (ρ.f 137) args) w := enters_of L.f137 (by kernel_rfl) rfl
  obtain ⟨f1, f2, f3⟩ := encode_facts r (by rw [validRune_eq]; exact h2) h1
  obtain ⟨E, hE⟩ : ∃ E, Utf8.encode r = E := ⟨_, rfl⟩
  rw [hE] at f1 f2 f3
  have hcv : ∀ w : World, (Go.convert (ρ.t 21) (ρ.t 9) (.int .i32 r)).run P w = .ok (.string E) w := fun w => by
    rw [← hE]; exact run_convert_int_string w _ _ _ _ (by rw [t21]; rfl) t9
  go_enter L.f152, Body.n152_ntmps ρ
  go_wp2_with (go_at_fn (ρ.f 119); refine (Any.utf8_ValidRune { L with } _ _).mono ?_; rintro e w' ⟨rfl, hw⟩; rw [hw, h2])
  have hww := hw
  subst hww
  go_step3
  have k1 : (0 : Int) ≤ (E.size : Int) - 1 := by omega
  have hw1 : IntKind.i64.wrap ((E.size : Int) - 1) = (E.size : Int) - 1 := wrap_small _ (by omega) (by omega)
  go_wp2
  go_loopg [9] 1 (fun gf v9 wx => v9 = .int .i64 ((E.size : Int) - 1) ∧ wx = w')
  case atStart => exact ⟨rfl, rfl⟩
  case round =>
    obtain ⟨rfl, rfl⟩ := hrel
    by_cases hps : E.size - 1 < s.size
    · have hlt : decide ((E.size : Int) - 1 < (s.size : Int)) = true := decide_eq_true (by omega)
      have hn : ((E.size : Int) - 1).toNat = E.size - 1 := by omega
      obtain ⟨x, hx⟩ : ∃ x : UInt8, s[E.size - 1]'hps = x := ⟨_, rfl⟩
      have hxl : s.data.toList[E.size - 1]? = some x := by rw [← hx]; exact Lib.data_getElem? s _ hps
      have hx128 : x.toNat < 128 := HA.out _ x hxl
      have hpe : E.size - 1 < E.size := by omega
      obtain ⟨y, hy⟩ : ∃ y : UInt8, E[E.size - 1]'hpe = y := ⟨_, rfl⟩
      have hy128 : 128 ≤ y.toNat := by rw [← hy]; exact f3 hpe
      have hgs : s[E.size - 1]? = some x := by rw [← hx]; exact getElem?_pos s _ hps
      have hge : E[E.size - 1]? = some y := by rw [← hy]; exact getElem?_pos E _ hpe
      have hne : ((x.toNat : Int) == (y.toNat : Int)) = false := beq_eq_false_iff_ne.2 (by omega)
      have hw2 : IntKind.i64.wrap ((E.size : Int) - 1 + 1) = (E.size : Int) := by rw [show (E.size : Int) - 1 + 1 = (E.size : Int) by omega]; exact wrap_small _ (by omega) (by omega)
      have i1 : ∀ w : World, (Instr.index (ρ.t 9) (.string s) (.int .i64 ((E.size : Int) - 1))).run P w = .ok (.int .u8 x.toNat) w := fun w => by
        rw [run_index_string (h := t9), dif_pos ⟨by omega, by omega⟩]
        have : s[((E.size : Int) - 1).toNat]'(by omega) = x := by rw [← hx]; congr 1
        rw [this]
      have i2 : ∀ w : World, (Instr.index (ρ.t 9) (.string E) (.int .i64 ((E.size : Int) - 1))).run P w = .ok (.int .u8 y.toNat) w := fun w => by
        rw [run_index_string (h := t9), dif_pos ⟨by omega, by omega⟩]
        have : E[((E.size : Int) - 1).toNat]'(by omega) = y := by rw [← hy]; congr 1
        rw [this]
      have hw2b : IntKind.i64.wrap (E.size : Int) = (E.size : Int) := wrap_small _ (by omega) (by omega)
      have c1 : (0 : Int) ≤ (E.size : Int) := by omega
      have c3 : E.size ≤ s.size := by omega
      have c2 : (E.size : Int) ≤ (s.size : Int) := by omega
      go_wp2
      go_step3
      go_wp2
      go_region_o
      go_wp2
      have hib : Lib.indexByte (List.take (s.size - E.size) (List.drop E.size s.data.toList)) y = -1 := x7h _ _ (fun b hb => yzi HA.out (List.mem_of_mem_drop (List.mem_of_mem_take hb))) hy128
      go_region_with_o (go_at_fn (ρ.f 137); refine (Any.strings_IndexByte { L with } _ _ _).mono ?_; rintro e w2 ⟨rfl, rfl⟩)
      go_wp2
      simp only [Exit.noGoto_ret, Exit.inBlock, Exit.then]
      go_ret
      exact ⟨rfl, (Below.refl _ _).drew.drew⟩
    · have hlt : decide ((E.size : Int) - 1 < (s.size : Int)) = false := decide_eq_false (by omega)
      go_wp2
      rw [Exit.noGoto_ret]
      go_ret
      exact ⟨rfl, Below.refl _ _⟩
set_option maxHeartbeats 4000000 in
set_option maxRecDepth 1000000 in
theorem x9w (L : Lays.n152 P ρ) (s : ByteArray) (w : World) (hascii : ∀ (j : Nat) b, s.data.toList[j]? = some b → b.toNat < 128) :
    Calls P (ρ.f 152) #[.string s, .int .i32 65533] w fun e w' => e = .returned (.int .i64 (-1)) ∧ Below w.heap.size w w' := by
  have HA : Aside (∀ (j : Nat) b, s.data.toList[j]? = some b → b.toNat < 128) := hascii
  clear hascii
  have t0 := L.t0; have a0 := L.a0; have z0 := L.z0; have v0 := L.v0
  have t3 := L.t3; have a3 := L.a3; have z3 := L.z3; have v3 := L.v3
  have t4 := L.t4; have a4 := L.a4; have z4 := L.z4; have v4 := L.v4
  have t5 := L.t5; have a5 := L.a5; have z5 := L.z5; have v5 := L.v5
  have t9 := L.t9; have a9 := L.a9; have z9 := L.z9; have v9 := L.v9
  have t21 := L.t21; have a21 := L.a21; have z21 := L.z21; have v21 := L.v21
  go_enter L.f152, Body.n152_ntmps ρ
  go_wp2
  go_loopg [] s.size (fun gf wx => ∃ pos : Nat, wx.heap[w.heap.size]? = some (.stringIter s pos) ∧ Below w.heap.size w wx ∧ s.size = pos + gf)
  case atStart => exact ⟨0, World.iter_heap w s 0, (Below.refl _ w).alloc (Nat.le_refl _) _, by omega⟩
  case round =>
    obtain ⟨pos, hit, hbw, hfu⟩ := hrel
    by_cases hps : pos < s.size
    · obtain ⟨g', rfl⟩ : ∃ g', gk = g' + 1 := ⟨gk - 1, by omega⟩
      obtain ⟨x, hx⟩ : ∃ x : UInt8, s[pos]'hps = x := ⟨_, rfl⟩
      have hxl : s.data.toList[pos]? = some x := by rw [← hx]; exact Lib.data_getElem? s pos hps
      have hx128 : x.toNat < 128 := HA.out pos x hxl
      have hnx := fun ty => Lib.run_next_ascii_at (P := P) wr w.heap.size s pos ty hit hps (by rw [hx]; exact hx128)
      rw [hx] at hnx
      have hit2 := Lib.iterAt_heap wr w.heap.size s pos (pos + 1) hit
      have hbw2 := Lib.below_iterAt hbw (k := w.heap.size) (Nat.le_refl _) s (pos + 1)
      have hne : ((x.toNat : Int) == 65533) = false := beq_eq_false_iff_ne.2 (by omega)
      obtain ⟨W, hWd⟩ : ∃ W, wr.iterAt w.heap.size s (pos + 1) = W := ⟨_, rfl⟩
      rw [hWd] at hnx hit2 hbw2
      go_wp2
      go_roundg g'
      case measure => omega
      case rel => exact ⟨pos + 1, hit2, hbw2, by omega⟩
    · have hnx : ∀ ty, (Instr.next (.pointer (some ⟨w.heap.size, 0, none⟩)) true ty).run P wr = _ := fun ty => Lib.run_next_end_at wr w.heap.size s pos ty hit hps
      go_wp2
      go_ret
      exact ⟨rfl, hbw⟩
end Go.Proofs

/- strings.IndexAny at any text and two or more ASCII bytes. -/
namespace Go.Proofs
open Go.Shelf Go.RowKit Go.Lib
variable {P : Program} {ρ : Ren}
theorem x8r (s : ByteArray) (pos : Nat) (hp : pos < s.size) (h : 128 ≤ (s.get! pos).toNat) :
    128 ≤ (Utf8.decode s pos).1 ∧ ((Utf8.decode s pos).1 = 65533 ∨ Lib.validRune ((Utf8.decode s pos).1 : Int) = true) ∧ 1 ≤ (Utf8.decode s pos).2 ∧ pos + (Utf8.decode s pos).2 ≤ s.size ∧
      ∀ j, pos ≤ j → j < pos + (Utf8.decode s pos).2 → 128 ≤ (s.get! j).toNat := by
  have b := (s.get! pos).toNat_lt
  have hb : s.get! (pos + 0) = s.get! pos := rfl
  have one : ∀ j, pos ≤ j → j < pos + 1 → 128 ≤ (s.get! j).toNat := fun j h1 h2 => by
    have : j = pos := by omega
    rw [this]; exact h
  have bad : 128 ≤ Utf8.runeError ∧ (Utf8.runeError = 65533 ∨ Lib.validRune (Utf8.runeError : Int) = true) ∧ 1 ≤ 1 ∧ pos + 1 ≤ s.size ∧ ∀ j, pos ≤ j → j < pos + 1 → 128 ≤ (s.get! j).toNat := ⟨by decide, .inl rfl, by omega, by omega, one⟩
  have vr : ∀ c : Nat, Utf8.valid (c : Int) = true → Lib.validRune (c : Int) = true := fun c hc => by
    simp only [Utf8.valid, Bool.or_eq_true, Bool.and_eq_true, decide_eq_true_eq] at hc
    simp only [Lib.validRune, decide_eq_true_eq]
    omega
  simp only [Utf8.decode, hb]
  rw [if_neg (by omega)]
  split
  · rename_i h2
    simp only [Bool.and_eq_true, beq_iff_eq, decide_eq_true_eq] at h2
    split
    · refine ⟨by omega, .inr ?_, by omega, by omega, fun j h3 h4 => ?_⟩
      · simp only [Lib.validRune, decide_eq_true_eq]; omega
      · have : j = pos ∨ j = pos + 1 := by omega
        rcases this with rfl | rfl
        · exact h
        · omega
    · exact bad
  · split
    · rename_i h2
      simp only [Bool.and_eq_true, beq_iff_eq, decide_eq_true_eq] at h2
      split
      · rename_i h5
        simp only [Bool.and_eq_true, decide_eq_true_eq] at h5
        refine ⟨by omega, .inr (vr _ h5.2), by omega, by omega, fun j h3 h4 => ?_⟩
        have : j = pos ∨ j = pos + 1 ∨ j = pos + 2 := by omega
        rcases this with rfl | rfl | rfl
        · exact h
        · omega
        · omega
      · exact bad
    · split
      · rename_i h2
        simp only [Bool.and_eq_true, beq_iff_eq, decide_eq_true_eq] at h2
        split
        · rename_i h5
          simp only [Bool.and_eq_true, decide_eq_true_eq] at h5
          refine ⟨by omega, .inr (vr _ h5.2), by omega, by omega, fun j h3 h4 => ?_⟩
          have : j = pos ∨ j = pos + 1 ∨ j = pos + 2 ∨ j = pos + 3 := by omega
          rcases this with rfl | rfl | rfl | rfl
          · exact h
          · omega
          · omega
          · omega
        · exact bad
      · exact bad
theorem x4r (s : ByteArray) (j : Nat) (b : UInt8) (h : s.data.toList[j]? = some b) : s.get! j = b := by
  obtain ⟨d⟩ := s
  obtain ⟨l⟩ := d
  simp at h
  show (Array.mk l)[j]! = b
  obtain ⟨hl, e⟩ := List.getElem?_eq_some_iff.1 h
  simp [getElem!_pos, hl, e]
theorem x5n {s : ByteArray} {chars : List UInt8} {pos k : Nat} (h : NoAny s.data.toList chars pos) (hc : ∀ b ∈ chars, b.toNat < 128) (hh : ∀ j, pos ≤ j → j < pos + k → 128 ≤ (s.get! j).toNat) : NoAny s.data.toList chars (pos + k) := fun j b hj hb => by
  by_cases e : j < pos
  · exact h j b e hb
  · have := hh j (by omega) hj
    rw [x4r s j b hb] at this
    cases hcn : chars.contains b
    · rfl
    · have := hc b (by simpa using hcn); omega
set_option maxHeartbeats 8000000 in
set_option maxRecDepth 1000000 in
theorem x96 (L : Lays.n153 P ρ) (s chars : ByteArray) (w : World) (h2 : 2 ≤ chars.size) (hcs : chars.size < 4294967281) (h8 : s.size ≤ 8) (hac : ∀ (j : Nat) b, chars.data.toList[j]? = some b → b.toNat < 128) :
    Calls P (ρ.f 153) #[.string s, .string chars] w fun e w' => e = .returned (.int .i64 (Lib.indexAny s.data.toList chars.data.toList)) ∧ Below w.heap.size w w' := by
  have HA : Aside (∀ (j : Nat) b, chars.data.toList[j]? = some b → b.toNat < 128) := hac
  clear hac
  have hemp : chars.toList.isEmpty = false := by
    rw [Lib.toList_data]
    cases h : chars.data.toList with
    | nil => have := Lib.size_eq chars; rw [h, List.length_nil] at this; omega
    | cons _ _ => rfl
  have hn1 : ((chars.size : Int) == 1) = false := beq_eq_false_iff_ne.2 (by omega)
  have h8z : decide ((8 : Int) < (s.size : Int)) = false := decide_eq_false (by omega)
  have t0 := L.t0; have a0 := L.a0; have z0 := L.z0; have v0 := L.v0
  have t3 := L.t3; have a3 := L.a3; have z3 := L.z3; have v3 := L.v3
  have t4 := L.t4; have a4 := L.a4; have z4 := L.z4; have v4 := L.v4
  have t5 := L.t5; have a5 := L.a5; have z5 := L.z5; have v5 := L.v5
  have t9 := L.t9; have a9 := L.a9; have z9 := L.z9; have v9 := L.v9
  have t21 := L.t21; have a21 := L.a21; have z21 := L.z21; have v21 := L.v21
  have e152 : ∀ args w, (callFunc (ρ.f 152) args).run P w = .ok (.enter (ρ.f 152) args) w := enters_of L.f152 (by kernel_rfl) rfl
  have e226 : ∀ args w, (callFunc (ρ.f 226) args).run P w = .ok (.enter (ρ.f 226) args) w := enters_of L.f226 (by kernel_rfl) rfl
  go_enter L.f153, Body.n153_ntmps ρ
  go_wp2_with (go_at_fn (ρ.f 226); refine (Any.strings_shouldUseASCIISet { L with } _ _).mono ?_; rintro e w' ⟨rfl, hw⟩; rw [hw, h8z])
  go_loopg [9, 10] s.size (fun g _ _ wx => ∃ pos : Nat, s.size ≤ pos + g ∧ wx.heap[w.heap.size]? = some (.stringIter s pos) ∧ Below w.heap.size w wx ∧ Aside (pos ≤ s.size ∧ Lib.NoAny s.data.toList chars.data.toList pos))
  case atStart => exact ⟨0, by omega, World.iter_heap w s 0, (Below.refl _ w).alloc (Nat.le_refl _) _, ⟨Nat.zero_le _, Lib.NoAny.zero _ _⟩⟩
  case round =>
    obtain ⟨pos, hfu, hit, hbw, hno⟩ := hrel
    by_cases hps : pos < s.size
    · obtain ⟨g', rfl⟩ : ∃ g', gk = g' + 1 := ⟨gk - 1, by omega⟩
      have hnx : ∀ ty, (Instr.next (.pointer (some ⟨w.heap.size, 0, none⟩)) true ty).run P wr = _ := fun ty => Lib.run_next_any_at wr w.heap.size s pos ty hit hps
      obtain ⟨x, hx⟩ : ∃ x : UInt8, s[pos]'hps = x := ⟨_, rfl⟩
      have hxl : s.data.toList[pos]? = some x := by rw [← hx]; exact Lib.data_getElem? s pos hps
      have hget : s.get! pos = x := x4r s pos x hxl
      by_cases hx128 : x.toNat < 128
      · have hdec : Utf8.decode s pos = (x.toNat, 1) := by
          have h0 : (s.get! (pos + 0)).toNat < 128 := by show (s.get! pos).toNat < 128; rw [hget]; exact hx128
          simp only [Utf8.decode]
          rw [if_pos h0]
          show ((s.get! pos).toNat, 1) = _
          rw [hget]
        rw [hdec] at hnx
        have hit2 := Lib.iterAt_heap wr w.heap.size s pos (pos + 1) hit
        have hbw2 := Lib.below_iterAt hbw (k := w.heap.size) (Nat.le_refl _) s (pos + 1)
        obtain ⟨W, hWd⟩ : ∃ W, wr.iterAt w.heap.size s (pos + 1) = W := ⟨_, rfl⟩
        simp only [hWd] at hnx hit2 hbw2
        have Hx : Aside (s.data.toList[pos]? = some x) := hxl
        clear hxl hx hget hdec
        have hcon := Lib.contains_iff_indexByte chars.data.toList x
        have hback : ((x.toNat : Int)).toNat.toUInt8 = x := by simp
        cases hin : chars.data.toList.contains x
        · rw [hin] at hcon
          have hlt : ¬ ((0 : Int) ≤ Lib.indexByte chars.data.toList x) := of_decide_eq_false hcon.symm
          clear hcon
          go_wp2_with (go_at_fn (ρ.f 152); refine (Any.strings_IndexRune_ascii { L with } _ _ _ (by omega) (by omega)).mono ?_; rintro e w' ⟨rfl, hw⟩; rw [hw, hback])
          go_roundg g'
          case measure => omega
          case rel => exact ⟨pos + 1, by omega, hit2, hbw2, ⟨by omega, hno.out.2.succ Hx.out hin⟩⟩
        · rw [hin] at hcon
          have hge : (0 : Int) ≤ Lib.indexByte chars.data.toList x := of_decide_eq_true hcon.symm
          clear hcon
          go_wp2_with (go_at_fn (ρ.f 152); refine (Any.strings_IndexRune_ascii { L with } _ _ _ (by omega) (by omega)).mono ?_; rintro e w' ⟨rfl, hw⟩; rw [hw, hback])
          go_ret
          exact ⟨by rw [Lib.indexAny_hit hno.out.2 Hx.out hin]; rfl, hbw2⟩
      · obtain ⟨q1, q2, q3, q4, q5⟩ := x8r s pos hps (by rw [hget]; omega)
        have HJ : Aside (Lib.NoAny s.data.toList chars.data.toList (pos + (Utf8.decode s pos).2)) := x5n hno.out.2 (fun b hb => yzi HA.out hb) q5
        clear q5 hxl hx hget hx128
        obtain ⟨R, hR⟩ : ∃ R, (Utf8.decode s pos).1 = R := ⟨_, rfl⟩
        obtain ⟨K, hK⟩ : ∃ K, (Utf8.decode s pos).2 = K := ⟨_, rfl⟩
        rw [hK] at q3 q4 HJ
        rw [hR] at q1 q2
        rw [hR, hK] at hnx
        have hit2 := Lib.iterAt_heap wr w.heap.size s pos (pos + K) hit
        have hbw2 := Lib.below_iterAt hbw (k := w.heap.size) (Nat.le_refl _) s (pos + K)
        obtain ⟨W, hWd⟩ : ∃ W, wr.iterAt w.heap.size s (pos + K) = W := ⟨_, rfl⟩
        rw [hWd] at hnx hit2 hbw2
        have cS : Calls P (ρ.f 152) #[.string chars, .int .i32 (R : Int)] W fun e w' => e = .returned (.int .i64 (-1)) ∧ Below W.heap.size W w' := by
          by_cases e3 : (R : Int) = 65533
          · rw [e3]; exact x9w { L with } chars W HA.out
          · rcases q2 with q2 | q2
            · exact absurd (by omega) e3
            · exact x87 { L with } chars R W (by omega) q2 e3 hcs HA.out
        have hWs : w.heap.size < W.heap.size := (Array.getElem?_eq_some_iff.1 hit2).1
        clear q2 hR hK
        go_wp2_with (go_at_fn (ρ.f 152); refine cS.mono ?_; rintro e w' ⟨rfl, hbel⟩)
        go_roundg g'
        case measure => omega
        case rel => exact ⟨pos + K, by omega, by rw [hbel.block _ hWs]; exact hit2, hbw2.trans (hbel.mono (by omega)), ⟨q4, HJ.out⟩⟩
    · have hnx : ∀ ty, (Instr.next (.pointer (some ⟨w.heap.size, 0, none⟩)) true ty).run P wr = _ := fun ty => Lib.run_next_end_at wr w.heap.size s pos ty hit hps
      have hpe : pos = s.data.toList.length := by rw [← Lib.size_eq]; have := hno.out.1; omega
      go_wp2
      go_ret
      exact ⟨by rw [Lib.indexAny_none (by rw [← hpe]; exact hno.out.2)]; rfl, hbw⟩
theorem any_all (L : Lays.n153 P ρ) (h116 : (P.info? (ρ.t 116)).map (fun i => (i.zero, i.size)) = some (some (.agg (Array.replicate 256 (.bool false))), 256)) (s chars : ByteArray) (w : World) (h2 : 2 ≤ chars.size) (hs : s.size < 4294967281) (hcs : chars.size < 4294967281) (hac : ∀ (j : Nat) b, chars.data.toList[j]? = some b → b.toNat < 128) :
    Calls P (ρ.f 153) #[.string s, .string chars] w fun e w' => e = .returned (.int .i64 (Lib.indexAny s.data.toList chars.data.toList)) ∧ Below w.heap.size w w' := by
  by_cases h8 : s.size ≤ 8
  · exact x96 L s chars w h2 hcs h8 hac
  · refine (Any.strings_IndexAny_long L (zero_of_info h116).1 (zero_of_info h116).2 s chars w (by omega) (by omega) hs hcs hac).mono fun e w' ⟨h1, h2⟩ => ⟨h1, ?_⟩
    rw [h2]
    exact ((Below.refl _ _).alloc (Nat.le_refl _) _).alloc (by simp) _
end Go.Proofs

/- Contracts of functions of package strings, from the kit's shelf. -/
namespace Go.Dv
open Go.RowKit
variable [LTab]
def sB (s : List UInt8) : ByteArray := ⟨s.toArray⟩
def idxB (s : List UInt8) (c : Int) : Int := Lib.indexByte s c.toNat.toUInt8
def idxF (p : Int → Option Bool) (truth : Bool) (s : List UInt8) : Int := Lib.idxFunc (fun r => (p (r : Int)).getD false) truth (sB s)
def yqv (s : List UInt8) : Bool := s.all fun b => decide (b.toNat < 128)
def x1r (s cs : List UInt8) : Option (List UInt8) := gd (yqv cs && decide (s.length < 4611686018427387904) && decide (cs.length < 4294967281)) (some (Lib.trimS s cs))
def anyF (s cs : List UInt8) : Option Int := gd (yqv cs && decide (2 ≤ cs.length) && decide (s.length < 4294967281) && decide (cs.length < 4294967281)) (some (Lib.indexAny s cs))
theorem x4z {s : List UInt8} (h : yqv s = true) : ∀ (j : Nat) b, s[j]? = some b → b.toNat < 128 := fun j b hb => by
  have := List.all_eq_true.1 h b (List.mem_of_getElem? hb)
  simpa using this
theorem x5v {P : Program} {ρ : Shelf.Ren} (L : Proofs.Lays.n217 P ρ) {fn : Func} {c : Code} (hf : P.funcs[ρ.f 217]? = some fn) (hb : fn.body = some c) (hname : (fn.name == "runtime.NumGoroutine") = false) :
    Y7 P (ρ.f 217) fun avs => (X0 (.cons .str (.int .u8)) (.int .i64) [] (fun v => some (idxB v.1 v.2))).run avs some := by
  intro w S avs vals r hlow hrep h
  refine ⟨z1t hf hb hname, ?_⟩
  obtain ⟨v, t, hF, hout, hvals⟩ := zz1 hlow hrep h
  obtain ⟨(a : List UInt8), b⟩ := v
  obtain ⟨u, us, rfl, k1, u2, us2, rfl, k2, k3⟩ := hvals
  rw [show us2 = [] from k3]
  simp only [RepA] at k1 k2
  subst k1; subst k2
  cases hF
  have hr : r = .int .i64 (idxB a b) := by
    have : some (AV.int .i64 (idxB a b)) = some r := hout
    cases this; rfl
  subst hr
  refine (Proofs.Any.stringslite_IndexByte L _ _ w).mono fun e w' => ?_
  rintro ⟨rfl, rfl⟩
  exact ⟨_, S, [], rfl, Below.refl _ _, fun _ h => h, fun _ h => .inl h, ⟨rfl, rfl⟩, ⟨fun l hl => (by cases hl), List.Pairwise.nil⟩⟩
theorem x55 {P : Program} {ρ : Shelf.Ren} (L : Proofs.Lays.n160 P ρ) (h116 : (P.info? (ρ.t 116)).map (fun i => (i.zero, i.size)) = some (some (.agg (Array.replicate 256 (.bool false))), 256)) {fn : Func} {c : Code} (hf : P.funcs[ρ.f 160]? = some fn) (hb : fn.body = some c) (hname : (fn.name == "runtime.NumGoroutine") = false) :
    Y7 P (ρ.f 160) fun avs => (X0 (.cons .str .str) .str [] (fun v => x1r v.1 v.2)).run avs some := by
  intro w S avs vals r hlow hrep h
  refine ⟨z1t hf hb hname, ?_⟩
  obtain ⟨v, t, hF, hout, hvals⟩ := zz1 hlow hrep h
  obtain ⟨(a : List UInt8), (b : List UInt8)⟩ := v
  obtain ⟨u, us, rfl, k1, u2, us2, rfl, k2, k3⟩ := hvals
  rw [show us2 = [] from k3]
  simp only [RepA] at k1 k2
  subst k1; subst k2
  obtain ⟨hg, hF⟩ := W2 hF
  simp only [Bool.and_eq_true, decide_eq_true_eq] at hg
  cases hF
  have hr : r = .str (Lib.trimS a b) := by
    have : some (AV.str (Lib.trimS a b)) = some r := hout
    cases this; rfl
  subst hr
  refine (Proofs.Any.strings_Trim_laid L h116 _ _ w (by show Array.size (List.toArray _) ≤ _ ; rw [List.size_toArray]; omega) (by show Array.size (List.toArray _) < _ ; rw [List.size_toArray]; omega) (fun j x hx => x4z hg.1.1 j x (by simpa using hx))).mono fun e w' => ?_
  rintro ⟨rfl, bel⟩
  exact ⟨_, S, [], rfl, bel, fun _ h => h, fun _ h => .inl h, ⟨by simp [RepA], rfl⟩, ⟨fun l hl => (by cases hl), List.Pairwise.nil⟩⟩
theorem x95 {P : Program} {ρ : Shelf.Ren} (L : Proofs.Lays.n153 P ρ) (h116 : (P.info? (ρ.t 116)).map (fun i => (i.zero, i.size)) = some (some (.agg (Array.replicate 256 (.bool false))), 256)) {fn : Func} {c : Code} (hf : P.funcs[ρ.f 153]? = some fn) (hb : fn.body = some c) (hname : (fn.name == "runtime.NumGoroutine") = false) :
    Y7 P (ρ.f 153) fun avs => (X0 (.cons .str .str) (.int .i64) [] (fun v => anyF v.1 v.2)).run avs some := by
  intro w S avs vals r hlow hrep h
  refine ⟨z1t hf hb hname, ?_⟩
  obtain ⟨v, t, hF, hout, hvals⟩ := zz1 hlow hrep h
  obtain ⟨(a : List UInt8), (b : List UInt8)⟩ := v
  obtain ⟨u, us, rfl, k1, u2, us2, rfl, k2, k3⟩ := hvals
  rw [show us2 = [] from k3]
  simp only [RepA] at k1 k2
  subst k1; subst k2
  obtain ⟨hg, hF⟩ := W2 hF
  simp only [Bool.and_eq_true, decide_eq_true_eq] at hg
  cases hF
  have hr : r = .int .i64 (Lib.indexAny a b) := by
    have : some (AV.int .i64 (Lib.indexAny a b)) = some r := hout
    cases this; rfl
  subst hr
  refine (Proofs.any_all L h116 _ _ w (by show _ ≤ Array.size (List.toArray _); rw [List.size_toArray]; omega) (by show Array.size (List.toArray _) < _ ; rw [List.size_toArray]; omega) (by show Array.size (List.toArray _) < _ ; rw [List.size_toArray]; omega) (fun j x hx => x4z hg.1.1.1 j x (by simpa using hx))).mono fun e w' => ?_
  rintro ⟨rfl, bel⟩
  exact ⟨_, S, [], rfl, bel, fun _ h => h, fun _ h => .inl h, ⟨by simp [RepA], rfl⟩, ⟨fun l hl => (by cases hl), List.Pairwise.nil⟩⟩
theorem xcu {P : Program} {g : FuncId} {F : Int → Option Bool} (hs : Y7 P g fun avs => (X0 (.int .i32) .bool [] F).run avs some) (tot : ∀ r : Nat, (F (r : Int)).isSome = true) (w : World) :
    Proofs.PredGrows P g #[] (fun r => (F (r : Int)).getD false) w := by
  intro W x _ _
  obtain ⟨b, hb⟩ := Option.isSome_iff_exists.1 (tot x)
  have hrun : (X0 (.int .i32) .bool [] F).run [.int .i32 (x : Int)] some = some (.bool b) := by
    have hget : zbk (getP m0 [] (.int .i32) [.int .i32 (x : Int)]) = some ((x : Int) : (Sh.int .i32).T) := rfl
    simp only [Ctr.run, X0, hget, hb]
    rfl
  obtain ⟨_, hc⟩ := hs W (fun _ => False) [.int .i32 (x : Int)] [.int .i32 (x : Int)] (.bool b) (fun _ h => h.elim) ⟨_, _, rfl, rfl, rfl⟩ hrun
  refine hc.mono fun e W' he => ?_
  obtain ⟨v, S', ls, rfl, bel, _, _, hv, _⟩ := he
  obtain ⟨rfl, hv⟩ := hv
  have hv : v = .bool b := hv
  subst hv
  refine ⟨?_, bel⟩
  show Ending.returned (Value.bool b) = Ending.returned (Value.bool ((F (x : Int)).getD false))
  rw [hb]; rfl
theorem yx9 {P : Program} {ρ : Shelf.Ren} (L : Proofs.Lays.n315 P ρ) {g : FuncId} {F : Int → Option Bool} (hs : Y7 P g fun avs => (X0 (.int .i32) .bool [] F).run avs some) (tot : ∀ r : Nat, (F (r : Int)).isSome = true)
    {fg : Func} {cg : Code} (hfg : P.funcs[g]? = some fg) (hbg : fg.body = some cg) (hnameg : (fg.name == "runtime.NumGoroutine") = false) {fn : Func} {c : Code} (hf : P.funcs[ρ.f 315]? = some fn) (hb : fn.body = some c) (hname : (fn.name == "runtime.NumGoroutine") = false) :
    Y7 P (ρ.f 315) fun avs => (X0 (.cons .str (.cons (.clo g .nil) .bool)) (.int .i64) [] (fun v => some (idxF F v.2.2 v.1))).run avs some := by
  intro w S avs vals r hlow hrep h
  refine ⟨z1t hf hb hname, ?_⟩
  obtain ⟨v, t, hF, hout, hvals⟩ := zz1 hlow hrep h
  obtain ⟨(a : List UInt8), b, (d : Bool)⟩ := v
  obtain ⟨u, us, rfl, k1, u2, us2, rfl, k2, u3, us3, rfl, k3, k4⟩ := hvals
  rw [show us3 = [] from k4]
  obtain ⟨vs, k2, k5⟩ := k2
  have k5 : vs = [] := k5
  subst k5
  simp only [RepA] at k1 k3
  subst k1; subst k2; subst k3
  cases hF
  have hr : r = .int .i64 (idxF F d a) := by
    have : some (AV.int .i64 (idxF F d a)) = some r := hout
    cases this; rfl
  subst hr
  refine (Proofs.Any.strings_indexFunc_grows L g #[] (fun args w => z1t hfg hbg hnameg w args) _ d (sB a) w (xcu hs tot w)).mono fun e w' => ?_
  rintro ⟨rfl, bel⟩
  exact ⟨_, S, [], rfl, bel, fun _ h => h, fun _ h => .inl h, ⟨by simp [RepA, idxF], rfl⟩, ⟨fun l hl => (by cases hl), List.Pairwise.nil⟩⟩
end Go.Dv

/- From a row whose program lays variables to a plain law. -/
namespace Go.Dv
open Go.RowKit Go.ChangeShapes Go.WideShapes Go.ChangeAt
variable [LTab]
end Go.Dv

/- Arguments that are structs and arrays with slices in them, opened by their types' looks. -/
namespace Go.Dv
open Go.RowKit Go.ChangeShapes Go.WideShapes Go.ChangeAt
variable [LTab]
def yyf (P : Program) : Nat → TypeId → Ty → Bool
  | 0, _, _ => false
  | k + 1, t, τ => match P.underlying t with
    | some d => match d with
      | .struct fs => Nat.beq (P.cellsOf t) τ.size && yd8 P (yyf P k) (fs.toList.map fun f => (f.type, f.offset)) 0 τ
      | .array n e => Nat.beq (P.cellsOf t) τ.size && yd8 P (yyf P k) ((List.range n).map fun i => (e, i * P.cellsOf e)) 0 τ
      | .slice e => match τ with | .list σ => !Nat.beq σ.size 0 && y76 P k e σ && Nat.beq (P.cellsOf e) σ.size && Nat.ble σ.bytes (P.bytesOf e) | _ => false
      | _ => y76 P (k + 1) t τ
    | none => false
def x27 (P : Program) (k : Nat) (t : TypeId) (s : Sh) : Bool := match P.underlying t with
  | some d => match d with
    | .struct _ => match s with | .val τ => yyf P k t τ | _ => false
    | .array _ _ => match s with | .val τ => yyf P k t τ | _ => false
    | _ => xc8 P k t s
  | none => false
def zi6 (P : Program) (k : Nat) : List TypeId → Sh → Bool
  | [], s => match s with | .nil => true | _ => false
  | t :: ts, s => match ts with
    | [] => x27 P k t s
    | _ :: _ => match s with | .cons a b => x27 P k t a && zi6 P k ts b | _ => false
section
variable {H : Type} {enc : TypeId × Value → H} {P : Program} {w : World} {base : Nat} {spare : Nat → Bool} {held : Bool} {S : Nat → Prop}
def yqk (v : Value) : Prop := ∀ a l c, v = .slice (some a) l c → a.spot = none
theorem x85 {t : TypeId} {v : Value} (h : Cell.okWide P w .any base t v) : yqk v := by
  rintro a l c rfl
  unfold Cell.okWide at h
  split at h
  all_goals first | contradiction | skip
  unfold Cell.ok at h
  split at h
  all_goals first | contradiction | (rename_i e2; cases e2; done) | skip
  rename_i e1 e2
  have e3 := Option.some.inj (Value.slice.inj e2).1
  rw [e3]
  exact h.2.2.2.1
end
end Go.Dv

/- The like of DvFit's for arguments under a bound: any bound in place of reachBytes, and a row with a condition on its arguments. -/
namespace Go.Dv
open Go.RowKit Go.ChangeShapes Go.WideShapes Go.ChangeAt
def okTU (R : Nat) : (t : Ty) → t.T → Prop
  | .int k, n => (Lit.int k n).wf = true
  | .bool, _ => True
  | .str, s => List.length s ≤ R
  | .unit, _ => True
  | .pair a b, x => okTU R a x.1 ∧ okTU R b x.2
  | .list t, xs => List.length xs * t.bytes ≤ R ∧ ∀ (i : Nat) (x : t.T), getq (α := t.T) xs i = some x → okTU R t x
def yi7 (R : Nat) : (s : Sh) → s.T → Prop
  | .int k, n => (Lit.int k n).wf = true
  | .str, s => List.length s ≤ R
  | .list t, xs => okTU R (.list t) xs
  | .val t, x => okTU R t x
  | .cons a b, x => yi7 R a x.1 ∧ yi7 R b x.2
  | _, _ => True
theorem ztl {R : Nat} (hR : R ≤ reachBytes) : (t : Ty) → (x : t.T) → okTU R t x → okT t x
  | .int k, n, h => h
  | .bool, _, _ => trivial
  | .str, s, h => Nat.le_trans h hR
  | .unit, _, _ => trivial
  | .pair a b, x, h => ⟨ztl hR a x.1 h.1, ztl hR b x.2 h.2⟩
  | .list t, xs, h => ⟨Nat.le_trans h.1 hR, fun i x hx => ztl hR t x (h.2 i x hx)⟩
variable [LTab]
section
variable {R : Nat} {H : Type} {enc : TypeId × Value → H} {P : Program} {w : World} {base : Nat} {spare : Nat → Bool} {held : Bool} {S : Nat → Prop}
theorem y35 {F : TypeId → Ty → Bool} {m : Nat}
    (ih : ∀ (t : TypeId) (τ : Ty) (cs : List Value) (x : DataW H × List MemPlace), F t τ = true → DataW.trod enc P w base spare held m t cs = some x → (x.1.weights P t).all (· ≤ R) = true → ∃ v, RepT w S τ v cs ∧ okTU R τ v) :
    ∀ (l : List (TypeId × Nat)) (off : Nat) (τ : Ty) (cs : List Value) (xs : List (DataW H × List MemPlace)), yd8 P F l off τ = true → xs.length = l.length → cs.length = off + τ.size →
      (∀ (i : Nat) (p : TypeId × Nat), l[i]? = some p → DataW.trod enc P w base spare held m p.1 ((cs.drop p.2).take (P.cellsOf p.1)) = xs[i]?) →
      (DataW.weightsEach P (l.map (·.1)) (xs.map (·.1))).all (· ≤ R) = true → ∃ v, RepT w S τ v (cs.drop off) ∧ okTU R τ v
  | [], off, τ, cs, xs, hf, _, hl, _, _ => by
    cases τ <;> simp only [yd8, Bool.false_eq_true] at hf
    exact ⟨(), List.drop_eq_nil_of_le (by simp [Ty.size] at hl; omega), trivial⟩
  | p :: r, off, τ, cs, [], hf, hx, _, _, _ => by simp at hx
  | p :: r, off, τ, cs, x :: xs, hf, hx, hl, ht, hw => by
    simp only [yd8, Bool.and_eq_true] at hf
    obtain ⟨h0, hf⟩ := hf
    have h0 := Nat.eq_of_beq_eq_true h0
    simp only [List.map_cons, DataW.weightsEach, List.all_append, Bool.and_eq_true] at hw
    obtain ⟨hw1, hw2⟩ := hw
    have hp := ht 0 p rfl
    rw [h0] at hp
    cases r with
    | nil =>
      simp only [Bool.and_eq_true] at hf
      have hc := Nat.eq_of_beq_eq_true hf.2
      rw [hc, List.take_of_length_le (by simp; omega)] at hp
      exact ih _ _ _ _ hf.1 hp hw1
    | cons q r =>
      cases τ <;> simp only [Bool.false_eq_true] at hf
      rename_i a b
      simp only [Bool.and_eq_true] at hf
      obtain ⟨⟨hf1, hc⟩, hf2⟩ := hf
      have hc := Nat.eq_of_beq_eq_true hc
      rw [hc] at hp
      obtain ⟨v, hv, ov⟩ := ih _ _ _ _ hf1 hp hw1
      obtain ⟨u, hu, ou⟩ := y35 ih (q :: r) (off + a.size) b cs xs hf2 (by simpa using hx) (by simp only [Ty.size] at hl; omega) (fun i p' hp' => by simpa using ht (i + 1) p' (by simpa using hp')) hw2
      refine ⟨(v, u), ⟨(cs.drop off).take a.size, cs.drop (off + a.size), ?_, hv, hu⟩, ov, ou⟩
      rw [← List.drop_drop, List.take_append_drop]
theorem ze1 : ∀ (k : Nat) (t : TypeId) (τ : Ty) (m : Nat) (cs : List Value) (x : DataW H × List MemPlace), y76 P k t τ = true → DataW.trod enc P w base spare held m t cs = some x →
    (x.1.weights P t).all (· ≤ R) = true → ∃ v, RepT w S τ v cs ∧ okTU R τ v
  | 0, _, _, _, _, _, h, _, _ => by simp [y76] at h
  | k + 1, t, τ, m, cs, x, hf, h, hw => by
    simp only [y76] at hf
    split at hf
    · rename_i d hd
      split at hf
      · split at hf
        · obtain ⟨b, rfl, rfl⟩ := DataW.trod_bool hd h
          exact ⟨b, rfl, trivial⟩
        · cases hf
      · split at hf
        · have hf := of_decide_eq_true hf
          subst hf
          obtain ⟨n, rfl, rfl, hn⟩ := DataW.trod_int hd h
          exact ⟨n, rfl, hn⟩
        · cases hf
      · split at hf
        · obtain ⟨s, rfl, rfl, hs⟩ := DataW.trod_string hd h
          refine ⟨s.data.toList, by simp [RepT], ?_⟩
          simpa [DataW.weights, okTU] using hw
        · cases hf
      · rename_i fs
        simp only [Bool.and_eq_true] at hf
        obtain ⟨hc, hf⟩ := hf
        have hc := Nat.eq_of_beq_eq_true hc
        obtain ⟨xs, n, rfl, rfl, hl, hxl, hx⟩ := DataW.trod_struct hd h
        simp only [DataW.weights, hd] at hw
        have := y35 (S := S) (fun t τ cs x a b c => ze1 k t τ n cs x a b c) _ 0 τ cs xs hf (by simpa using hxl) (by omega)
          (fun i p hp => by
            simp only [List.getElem?_map, Option.map_eq_some_iff] at hp
            obtain ⟨f, hf', rfl⟩ := hp
            exact hx i f (by simpa using hf'))
          (by simpa [List.map_map, Function.comp_def] using hw)
        simpa using this
      · rename_i n' e
        simp only [Bool.and_eq_true] at hf
        obtain ⟨hc, hf⟩ := hf
        have hc := Nat.eq_of_beq_eq_true hc
        obtain ⟨xs, n, rfl, rfl, hl, hxl, hx⟩ := DataW.trod_array hd h
        simp only [DataW.weights, hd] at hw
        have := y35 (S := S) (fun t τ cs x a b c => ze1 k t τ n cs x a b c) _ 0 τ cs xs hf (by simpa using hxl) (by omega)
          (fun i p hp => by
            simp only [List.getElem?_map, Option.map_eq_some_iff] at hp
            obtain ⟨j, hj, rfl⟩ := hp
            have hj' := (List.getElem?_eq_some_iff.1 hj)
            obtain ⟨hlt, hj'⟩ := hj'
            simp at hj' hlt
            subst hj'
            exact hx i hlt)
          (by
            rw [List.map_map]
            have := zij (P := P) (H := H) e (List.range n') (xs.map (·.1)) (by simpa using hxl)
            simp only [Function.comp_def]
            rw [this]; exact hw)
        simpa using this
      · cases hf
    · cases hf
theorem x5l {k : Nat} {t e : TypeId} {τ : Ty} {v : Value} {d : DataW H} {ps : List MemPlace} (ht : P.underlying t = some (.slice e)) (hf : y76 P k e τ = true) (hz : τ.size ≠ 0) (hc : P.cellsOf e = τ.size) (hb : τ.bytes ≤ P.bytesOf e)
    (hval : Value.okWide P w .any base t v) (h : DataW.Trod enc P w 0 spare held t v d ps) (hw : (d.weights P t).all (· ≤ R) = true) :
    ∃ xs : List τ.T, RepT w (fun b => b < w.heap.size) (.list τ) xs [v] ∧ okTU R (.list τ) xs := by
  obtain ⟨a0, len0, cap0, rfl⟩ := okWide_slice ht hval
  obtain ⟨fuel, h⟩ := h
  rcases DataW.trod_slice ht h with ⟨hcs, _⟩ | ⟨a, len, cap, elems, rest, n, _, hcs, hx, _, hl, hm, hlen, hel, _, _⟩
  · simp [Value.cells] at hcs
    obtain ⟨rfl, rfl, rfl⟩ := hcs
    exact ⟨([] : List τ.T), ⟨none, 0, rfl, Nat.le_refl _, fun _ => rfl, fun a h => (by cases h), fun i x hx => (by simp [getq] at hx)⟩, by simp, fun i x hx => (by simp [getq] at hx)⟩
  · simp [Value.cells] at hcs
    obtain ⟨rfl, rfl, rfl⟩ := hcs
    obtain ⟨rfl, -⟩ := Prod.mk.inj hx
    simp only [DataW.weights, ht, List.all_cons, List.all_append, Bool.and_eq_true, decide_eq_true_eq, List.length_map] at hw
    obtain ⟨hw0, hw1, _⟩ := hw
    have spot : a.spot = none := by
      simp only [Value.okWide, ht, Cell.okWide, Cell.ok] at hval
      exact hval.2.2.2.1
    have wAll : ∀ (l : List (DataW H × List MemPlace)) (i : Nat) (y : DataW H × List MemPlace), (DataW.weightsAll P e (l.map (·.1))).all (· ≤ R) = true → l[i]? = some y → (y.1.weights P e).all (· ≤ R) = true := by
      intro l
      induction l with
      | nil => intro i y _ h; simp at h
      | cons z l ih =>
        intro i y hw h
        simp only [List.map_cons, DataW.weightsAll, List.all_append, Bool.and_eq_true] at hw
        cases i with
        | zero => simp at h; subst h; exact hw.1
        | succ i => exact ih i y hw.2 (by simpa using h)
    have each : ∀ i : Nat, i < len0 → ∃ (x : τ.T), ∃ c : List Value, RepT w (fun b => b < w.heap.size) τ x c ∧ okTU R τ x ∧ a.block < w.heap.size ∧ CellsAt w a.block (a.off + i * τ.size) c := by
      intro i hi
      have hi' : i < elems.length := by omega
      have h1 := hel i hi
      rw [List.getElem?_eq_getElem hi', Option.bind_eq_some_iff] at h1
      obtain ⟨cs, h1, h2⟩ := h1
      obtain ⟨_, hcl, hcs⟩ := World.cells?_some h1
      obtain ⟨x, hx, ox⟩ := ze1 (S := fun b => b < w.heap.size) k e τ n cs _ hf h2 (wAll elems i _ hw1 (List.getElem?_eq_getElem hi'))
      have hcell : ∀ j u, cs[j]? = some u → w.cell? ⟨a.block, a.off + i * τ.size + j, none⟩ = some u := by
        intro j u hu
        have hj := (List.getElem?_eq_some_iff.1 hu).1
        have := hcs j (by omega)
        rw [hu, hc] at this
        obtain ⟨a1, a2, a3⟩ := a
        simp only at spot
        subst spot
        have ad : ∀ (b o i : Nat), (⟨b, o, none⟩ : Addr).add i = ⟨b, o + i, none⟩ := by
          intro b o i
          unfold Addr.add
          split
          · rename_i h; subst h; rfl
          · rfl
        rw [ad, ad] at this
        exact this
      refine ⟨x, cs, hx, ox, ?_, hcell⟩
      have hz' : 0 < cs.length := by rw [RepT.length hx]; omega
      have := hcell 0 _ (List.getElem?_eq_getElem hz')
      unfold World.cell? at this
      split at this
      · rename_i hb
        exact (Array.getElem?_eq_some_iff.1 hb).1
      · cases this
    obtain ⟨xs, hxl, hxs⟩ := ymp each
    subst hxl
    refine ⟨xs, ⟨some a, cap0, rfl, hl, fun h => (by cases h), fun a' h => by cases h; exact spot, fun i x hx => ?_⟩, ?_, fun i x hx => ?_⟩
    · obtain ⟨c, h1, _, h3, h4⟩ := hxs i x hx
      exact ⟨a, c, rfl, h3, h1, h4⟩
    · have : List.length xs * τ.bytes ≤ (elems.length + rest.length) * P.bytesOf e := Nat.mul_le_mul (by omega) hb
      omega
    · obtain ⟨c, _, h2, _⟩ := hxs i x hx
      exact h2
theorem x8f {k : Nat} {t : TypeId} {s : Sh} {v : Value} {d : DataW H} {ps : List MemPlace} (hf : xc8 P k t s = true)
    (hval : Value.okWide P w .any base t v) (h : DataW.Trod enc P w 0 spare held t v d ps) (hw : (d.weights P t).all (· ≤ R) = true) :
    ∃ x : s.T, RepAs w (fun b => b < w.heap.size) g0 m0 (mkL s x) [v] ∧ yi7 R s x := by
  have one : ∀ {τ : Ty} {x : τ.T} {cs : Array Value}, v = .agg cs → RepT w (fun b => b < w.heap.size) τ x cs.toList → RepAs w (fun b => b < w.heap.size) g0 m0 [.agg (Dv.enc τ x)] [v] := by
    intro τ x cs hv hr
    exact ⟨v, [], rfl, ⟨cs.toList, by rw [hv], hr.enc, z9c _ _⟩, rfl⟩
  simp only [xc8] at hf
  split at hf
  · rename_i dd hd
    split at hf
    · split at hf
      · obtain ⟨b, rfl⟩ := okWide_bool hd hval
        exact ⟨b, ⟨_, [], rfl, rfl, rfl⟩, trivial⟩
      · cases hf
    · split at hf
      · have hf := of_decide_eq_true hf
        subst hf
        obtain ⟨n, rfl, _, _, hn⟩ := open_int hd hval h
        exact ⟨n, ⟨_, [], rfl, rfl, rfl⟩, hn⟩
      · cases hf
    · split at hf
      · obtain ⟨fuel, h⟩ := h
        obtain ⟨b, rfl⟩ := okWide_string hd hval
        obtain ⟨s, h1, h2, hs⟩ := DataW.trod_string hd h
        simp [Value.cells] at h1
        subst h1
        obtain ⟨rfl, -⟩ := Prod.mk.inj h2
        refine ⟨b.data.toList, ⟨_, [], rfl, by simp [RepA], rfl⟩, ?_⟩
        simpa [DataW.weights, yi7] using hw
      · cases hf
    · split at hf
      · obtain ⟨fuel, h⟩ := h
        obtain ⟨cs, rfl, _⟩ := okWide_struct hd hval
        obtain ⟨x, hx, ox⟩ := ze1 (S := fun b => b < w.heap.size) _ _ _ _ _ _ hf h hw
        exact ⟨x, one rfl hx, ox⟩
      · cases hf
    · split at hf
      · obtain ⟨fuel, h⟩ := h
        have hv : ∃ cs, v = .agg cs := by
          simp only [Value.okWide, hd] at hval
          obtain ⟨cs, h, _⟩ := hval
          exact ⟨cs, h⟩
        obtain ⟨cs, rfl⟩ := hv
        obtain ⟨x, hx, ox⟩ := ze1 (S := fun b => b < w.heap.size) _ _ _ _ _ _ hf h hw
        exact ⟨x, one rfl hx, ox⟩
      · cases hf
    · split at hf
      · simp only [Bool.and_eq_true, Bool.not_eq_true'] at hf
        obtain ⟨⟨⟨h1, h2⟩, h3⟩, h4⟩ := hf
        obtain ⟨xs, hx, ox⟩ := x5l hd h2 (Nat.ne_of_beq_eq_false h1) (Nat.eq_of_beq_eq_true h3) (Nat.le_of_ble_eq_true h4) hval h hw
        exact ⟨xs, ⟨_, [], rfl, hx, rfl⟩, ox⟩
      · cases hf
    · cases hf
  · cases hf
variable [LTab]
section
variable {R : Nat} {H : Type} {enc : TypeId × Value → H} {P : Program} {w : World} {base : Nat} {spare : Nat → Bool} {held : Bool} {S : Nat → Prop}
theorem zv9 {F : TypeId → Ty → Bool} {m : Nat} {C : Value → Prop}
    (ih : ∀ (t : TypeId) (τ : Ty) (cs : List Value) (x : DataW H × List MemPlace), F t τ = true → DataW.trod enc P w base spare held m t cs = some x → (x.1.weights P t).all (· ≤ R) = true → (∀ v ∈ cs, C v) → ∃ v, RepT w S τ v cs ∧ okTU R τ v) :
    ∀ (l : List (TypeId × Nat)) (off : Nat) (τ : Ty) (cs : List Value) (xs : List (DataW H × List MemPlace)), yd8 P F l off τ = true → xs.length = l.length → cs.length = off + τ.size →
      (∀ (i : Nat) (p : TypeId × Nat), l[i]? = some p → DataW.trod enc P w base spare held m p.1 ((cs.drop p.2).take (P.cellsOf p.1)) = xs[i]?) →
      (DataW.weightsEach P (l.map (·.1)) (xs.map (·.1))).all (· ≤ R) = true → (∀ v ∈ cs, C v) → ∃ v, RepT w S τ v (cs.drop off) ∧ okTU R τ v
  | [], off, τ, cs, xs, hf, _, hl, _, _, _ => by
    cases τ <;> simp only [yd8, Bool.false_eq_true] at hf
    exact ⟨(), List.drop_eq_nil_of_le (by simp [Ty.size] at hl; omega), trivial⟩
  | p :: r, off, τ, cs, [], hf, hx, _, _, _, _ => by simp at hx
  | p :: r, off, τ, cs, x :: xs, hf, hx, hl, ht, hw, hC => by
    simp only [yd8, Bool.and_eq_true] at hf
    obtain ⟨h0, hf⟩ := hf
    have h0 := Nat.eq_of_beq_eq_true h0
    simp only [List.map_cons, DataW.weightsEach, List.all_append, Bool.and_eq_true] at hw
    obtain ⟨hw1, hw2⟩ := hw
    have hp := ht 0 p rfl
    rw [h0] at hp
    have hC' : ∀ v ∈ (cs.drop off).take (P.cellsOf p.1), C v := fun v hv => hC v (List.mem_of_mem_drop (List.mem_of_mem_take hv))
    cases r with
    | nil =>
      simp only [Bool.and_eq_true] at hf
      have hc := Nat.eq_of_beq_eq_true hf.2
      rw [hc, List.take_of_length_le (by simp; omega)] at hp
      exact ih _ _ _ _ hf.1 hp hw1 fun v hv => hC v (List.mem_of_mem_drop hv)
    | cons q r =>
      cases τ <;> simp only [Bool.false_eq_true] at hf
      rename_i a b
      simp only [Bool.and_eq_true] at hf
      obtain ⟨⟨hf1, hc⟩, hf2⟩ := hf
      have hc := Nat.eq_of_beq_eq_true hc
      rw [hc] at hp hC'
      obtain ⟨v, hv, ov⟩ := ih _ _ _ _ hf1 hp hw1 hC'
      obtain ⟨u, hu, ou⟩ := zv9 ih (q :: r) (off + a.size) b cs xs hf2 (by simpa using hx) (by simp only [Ty.size] at hl; omega) (fun i p' hp' => by simpa using ht (i + 1) p' (by simpa using hp')) hw2 hC
      refine ⟨(v, u), ⟨(cs.drop off).take a.size, cs.drop (off + a.size), ?_, hv, hu⟩, ov, ou⟩
      rw [← List.drop_drop, List.take_append_drop]
theorem x2n {k : Nat} {t e : TypeId} {τ : Ty} {m : Nat} {cs : List Value} {x : DataW H × List MemPlace} (ht : P.underlying t = some (.slice e)) (hf : y76 P k e τ = true) (hz : τ.size ≠ 0) (hc : P.cellsOf e = τ.size) (hb : τ.bytes ≤ P.bytesOf e)
    (hsp : ∀ v ∈ cs, yqk v) (h : DataW.trod enc P w 0 spare held m t cs = some x) (hw : (x.1.weights P t).all (· ≤ R) = true) :
    ∃ xs : List τ.T, RepT w (fun b => b < w.heap.size) (.list τ) xs cs ∧ okTU R (.list τ) xs := by
  rcases DataW.trod_slice ht h with ⟨rfl, _⟩ | ⟨a, len0, cap0, elems, rest, n, _, rfl, hx, _, hl, hm, hlen, hel, _, _⟩
  · exact ⟨([] : List τ.T), ⟨none, 0, rfl, Nat.le_refl _, fun _ => rfl, fun a h => (by cases h), fun i x hx => (by simp [getq] at hx)⟩, by simp, fun i x hx => (by simp [getq] at hx)⟩
  · subst hx
    simp only [DataW.weights, ht, List.all_cons, List.all_append, Bool.and_eq_true, decide_eq_true_eq, List.length_map] at hw
    obtain ⟨hw0, hw1, _⟩ := hw
    have spot : a.spot = none := hsp _ (by simp) a len0 cap0 rfl
    have wAll : ∀ (l : List (DataW H × List MemPlace)) (i : Nat) (y : DataW H × List MemPlace), (DataW.weightsAll P e (l.map (·.1))).all (· ≤ R) = true → l[i]? = some y → (y.1.weights P e).all (· ≤ R) = true := by
      intro l
      induction l with
      | nil => intro i y _ h; simp at h
      | cons z l ih =>
        intro i y hw h
        simp only [List.map_cons, DataW.weightsAll, List.all_append, Bool.and_eq_true] at hw
        cases i with
        | zero => simp at h; subst h; exact hw.1
        | succ i => exact ih i y hw.2 (by simpa using h)
    have each : ∀ i : Nat, i < len0 → ∃ (x : τ.T), ∃ c : List Value, RepT w (fun b => b < w.heap.size) τ x c ∧ okTU R τ x ∧ a.block < w.heap.size ∧ CellsAt w a.block (a.off + i * τ.size) c := by
      intro i hi
      have hi' : i < elems.length := by omega
      have h1 := hel i hi
      rw [List.getElem?_eq_getElem hi', Option.bind_eq_some_iff] at h1
      obtain ⟨cs, h1, h2⟩ := h1
      obtain ⟨_, hcl, hcs⟩ := World.cells?_some h1
      obtain ⟨x, hx, ox⟩ := ze1 (S := fun b => b < w.heap.size) k e τ n cs _ hf h2 (wAll elems i _ hw1 (List.getElem?_eq_getElem hi'))
      have hcell : ∀ j u, cs[j]? = some u → w.cell? ⟨a.block, a.off + i * τ.size + j, none⟩ = some u := by
        intro j u hu
        have hj := (List.getElem?_eq_some_iff.1 hu).1
        have := hcs j (by omega)
        rw [hu, hc] at this
        obtain ⟨a1, a2, a3⟩ := a
        simp only at spot
        subst spot
        have ad : ∀ (b o i : Nat), (⟨b, o, none⟩ : Addr).add i = ⟨b, o + i, none⟩ := by
          intro b o i
          unfold Addr.add
          split
          · rename_i h; subst h; rfl
          · rfl
        rw [ad, ad] at this
        exact this
      refine ⟨x, cs, hx, ox, ?_, hcell⟩
      have hz' : 0 < cs.length := by rw [RepT.length hx]; omega
      have := hcell 0 _ (List.getElem?_eq_getElem hz')
      unfold World.cell? at this
      split at this
      · rename_i hb
        exact (Array.getElem?_eq_some_iff.1 hb).1
      · cases this
    obtain ⟨xs, hxl, hxs⟩ := ymp each
    subst hxl
    refine ⟨xs, ⟨some a, cap0, rfl, hl, fun h => (by cases h), fun a' h => by cases h; exact spot, fun i x hx => ?_⟩, ?_, fun i x hx => ?_⟩
    · obtain ⟨c, h1, _, h3, h4⟩ := hxs i x hx
      exact ⟨a, c, rfl, h3, h1, h4⟩
    · have : List.length xs * τ.bytes ≤ (elems.length + rest.length) * P.bytesOf e := Nat.mul_le_mul (by omega) hb
      omega
    · obtain ⟨c, _, h2, _⟩ := hxs i x hx
      exact h2
theorem zq9 : ∀ (k : Nat) (t : TypeId) (τ : Ty) (m : Nat) (cs : List Value) (x : DataW H × List MemPlace), yyf P k t τ = true → DataW.trod enc P w 0 spare held m t cs = some x →
    (x.1.weights P t).all (· ≤ R) = true → (∀ v ∈ cs, yqk v) → ∃ v, RepT w (fun b => b < w.heap.size) τ v cs ∧ okTU R τ v
  | 0, _, _, _, _, _, h, _, _, _ => by simp [yyf] at h
  | k + 1, t, τ, m, cs, x, hf, h, hw, hsp => by
    simp only [yyf] at hf
    split at hf
    · rename_i d hd
      split at hf
      · rename_i fs
        simp only [Bool.and_eq_true] at hf
        obtain ⟨hc, hf⟩ := hf
        have hc := Nat.eq_of_beq_eq_true hc
        obtain ⟨xs, n, rfl, rfl, hl, hxl, hx⟩ := DataW.trod_struct hd h
        simp only [DataW.weights, hd] at hw
        have := zv9 (S := fun b => b < w.heap.size) (C := yqk) (fun t τ cs x a b c d => zq9 k t τ n cs x a b c d) _ 0 τ cs xs hf (by simpa using hxl) (by omega)
          (fun i p hp => by
            simp only [List.getElem?_map, Option.map_eq_some_iff] at hp
            obtain ⟨f, hf', rfl⟩ := hp
            exact hx i f (by simpa using hf'))
          (by simpa [List.map_map, Function.comp_def] using hw) hsp
        simpa using this
      · rename_i n' e
        simp only [Bool.and_eq_true] at hf
        obtain ⟨hc, hf⟩ := hf
        have hc := Nat.eq_of_beq_eq_true hc
        obtain ⟨xs, n, rfl, rfl, hl, hxl, hx⟩ := DataW.trod_array hd h
        simp only [DataW.weights, hd] at hw
        have := zv9 (S := fun b => b < w.heap.size) (C := yqk) (fun t τ cs x a b c d => zq9 k t τ n cs x a b c d) _ 0 τ cs xs hf (by simpa using hxl) (by omega)
          (fun i p hp => by
            simp only [List.getElem?_map, Option.map_eq_some_iff] at hp
            obtain ⟨j, hj, rfl⟩ := hp
            have hj' := (List.getElem?_eq_some_iff.1 hj)
            obtain ⟨hlt, hj'⟩ := hj'
            simp at hj' hlt
            subst hj'
            exact hx i hlt)
          (by
            rw [List.map_map]
            have := zij (P := P) (H := H) e (List.range n') (xs.map (·.1)) (by simpa using hxl)
            simp only [Function.comp_def]
            rw [this]; exact hw) hsp
        simpa using this
      · split at hf
        · simp only [Bool.and_eq_true, Bool.not_eq_true'] at hf
          obtain ⟨⟨⟨h1, h2⟩, h3⟩, h4⟩ := hf
          exact x2n hd h2 (Nat.ne_of_beq_eq_false h1) (Nat.eq_of_beq_eq_true h3) (Nat.le_of_ble_eq_true h4) hsp h hw
        · cases hf
      · exact ze1 (S := fun b => b < w.heap.size) (k + 1) t τ m cs x hf h hw
    · cases hf
theorem yun {k : Nat} {t : TypeId} {s : Sh} {v : Value} {d : DataW H} {ps : List MemPlace} (hf : x27 P k t s = true)
    (hval : Value.okWide P w .any base t v) (h : DataW.Trod enc P w 0 spare held t v d ps) (hw : (d.weights P t).all (· ≤ R) = true) :
    ∃ x : s.T, RepAs w (fun b => b < w.heap.size) g0 m0 (mkL s x) [v] ∧ yi7 R s x := by
  have one : ∀ {τ : Ty} {x : τ.T} {cs : Array Value}, v = .agg cs → RepT w (fun b => b < w.heap.size) τ x cs.toList → RepAs w (fun b => b < w.heap.size) g0 m0 [.agg (Dv.enc τ x)] [v] := by
    intro τ x cs hv hr
    exact ⟨v, [], rfl, ⟨cs.toList, by rw [hv], hr.enc, z9c _ _⟩, rfl⟩
  have row : ∀ {cs : Array Value}, Row.okWide P w .any base t cs → ∀ u ∈ cs.toList, yqk u := by
    rintro cs ⟨ts, _, _, hr⟩ u hu
    obtain ⟨i, hi, rfl⟩ := List.getElem_of_mem hu
    obtain ⟨u', _, hok⟩ := hr i cs.toList[i] (by
      have hi' : i < cs.size := by simpa using hi
      rw [Array.getElem?_eq_getElem hi']
      simp)
    exact x85 hok
  simp only [x27] at hf
  split at hf
  · rename_i dd hd
    split at hf
    · split at hf
      · obtain ⟨fuel, h⟩ := h
        simp only [Value.okWide, hd] at hval
        obtain ⟨cs, rfl, _, hr⟩ := hval
        obtain ⟨x, hx, ox⟩ := zq9 _ _ _ _ _ _ hf h hw (row hr)
        exact ⟨x, one rfl hx, ox⟩
      · cases hf
    · split at hf
      · obtain ⟨fuel, h⟩ := h
        simp only [Value.okWide, hd] at hval
        obtain ⟨cs, rfl, _, hr⟩ := hval
        obtain ⟨x, hx, ox⟩ := zq9 _ _ _ _ _ _ hf h hw (row hr)
        exact ⟨x, one rfl hx, ox⟩
      · cases hf
    · exact x8f hf hval h hw
  · cases hf
theorem ymj {k : Nat} : ∀ (ts : List TypeId) (s : Sh) (vs : List Value) (ds : List (DataW H)) (ps : List MemPlace), zi6 P k ts s = true → DataW.TrodAll enc P w 0 spare held ts vs ds ps →
    (∀ (j : Nat) t v, ts[j]? = some t → vs[j]? = some v → Value.okWide P w .any base t v) → (DataW.weightsEach P ts ds).all (· ≤ R) = true →
    ∃ x : s.T, RepAs w (fun b => b < w.heap.size) g0 m0 (mkL s x) vs ∧ yi7 R s x
  | [], s, vs, ds, ps, hf, h, _, _ => by
    simp only [zi6] at hf
    split at hf
    · obtain ⟨rfl, rfl, rfl⟩ := trodAll_nil h
      exact ⟨(), rfl, trivial⟩
    · cases hf
  | t :: ts, s, vs, ds, ps, hf, h, hval, hw => by
    obtain ⟨v, vs, d, ds, p, q, rfl, rfl, rfl, h0, h1⟩ := trodAll_cons h
    simp only [DataW.weightsEach, List.all_append, Bool.and_eq_true] at hw
    cases ts with
    | nil =>
      simp only [zi6] at hf
      obtain ⟨rfl, rfl, rfl⟩ := trodAll_nil h1
      exact yun hf (hval 0 t v rfl rfl) h0 hw.1
    | cons t' ts =>
      simp only [zi6] at hf
      split at hf
      · rename_i a b
        simp only [Bool.and_eq_true] at hf
        obtain ⟨x, hx, ox⟩ := yun hf.1 (hval 0 t v rfl rfl) h0 hw.1
        obtain ⟨y, hy, oy⟩ := ymj (t' :: ts) b vs ds q (by simpa [zi6] using hf.2) h1 (fun j t v ht hv => hval (j + 1) t v (by simpa using ht) (by simpa using hv)) hw.2
        exact ⟨(x, y), RepAs.append hx hy, ox, oy⟩
      · cases hf
end
end
def xc1 {H : Type} (enc : TypeId × Value → H) (P : Program) (f : Func) (kk : (H : Type) → List (DataW H) → Bool) (mem : World) (args : Array Value) (fuel : Nat) : Bool :=
  match DataW.whole enc P mem f.params.toList [] false args.toList fuel with
  | some x => kk H (x.1 ++ x.2.1)
  | none => false
theorem xa2 {H : Type} {enc : TypeId × Value → H} {P : Program} {f : Func} {s : OpenSpec} {kk : (H : Type) → List (DataW H) → Bool} {mem : World} {args : Array Value} {fuel : Nat} (hk : s.cond = some kk) (hv : s.vars = []) (h : xc1 enc P f kk mem args fuel = true) : s.pre enc P f [] false mem args := by
  unfold xc1 at h
  split at h
  · rename_i x hx
    rw [OpenSpec.pre_some hk]
    rw [← hv] at hx
    exact ⟨x.1, x.2.1, x.2.2, DataW.Whole_of_whole hx, rfl, h⟩
  · cases h
theorem yzk {H : Type} {enc : TypeId × Value → H} {C : Checked} {os : Os} {f : FuncId} {fn : Func} {s : OpenSpec} {kk : (H : Type) → List (DataW H) → Bool} (hk : s.cond = some kk) (hv : s.vars = []) {X : World → Array Value → Prop} (w0 : World) (args : Array Value) (fuel : Nat) (hos : w0.os = os)
    (hsh : (w0.forCall (fun _ _ => 0) ⟨#[], args, []⟩).Shaped C.prog)
    (hok : Input.okWideB C.prog (w0.forCall (fun _ _ => 0) ⟨#[], args, []⟩) f ⟨#[], args, []⟩ = true)
    (hpre : xc1 enc C.prog fn kk (w0.forCall (fun _ _ => 0) ⟨#[], args, []⟩).memory args fuel = true)
    (hsz : s.bare.sizedB enc C.prog fn false (w0.forCall (fun _ _ => 0) ⟨#[], args, []⟩).memory args fuel = true)
    (hx : X (w0.forCall (fun _ _ => 0) ⟨#[], args, []⟩).memory args) :
    ∃ (w : World) (tape : Tape) (i : Input), w.os = os ∧ (w.forCall tape i).Shaped C.prog ∧ i.vars = [] ∧ Input.okWide C.prog (w.forCall tape i) .any w.heap.size f i ∧
      ((s.pre enc C.prog fn [] false (w.forCall tape i).memory i.args ∧ X (w.forCall tape i).memory i.args) ∧ sizedMet enc C.prog fn s false (w.forCall tape i).memory i.args) ∧ Assume.holds {} C.prog (lone (Frame.enter C.prog f i.args .normal) [] (w.forCall tape i)) :=
  ⟨w0, fun _ _ => 0, ⟨#[], args, []⟩, hos, hsh, (Input.okWide_of_okWideB (base := 0) hok).1, (Input.okWide_of_okWideB hok).2, ⟨⟨xa2 hk hv hpre, hx⟩, sizedMet_of_sizedB hsz⟩, by
    simp only [Assume.holds]
    exact ⟨by simp, by simp, fun _ => Modest.zero, by simp, by simp⟩⟩
theorem yo0 {H : Type} {enc : TypeId × Value → H} {C : Checked} {os : Os} {f : FuncId} {fn : Func} {s : OpenSpec} {G : Stop.Interp} {kk : (H : Type) → List (DataW H) → Bool} (hk : s.cond = some kk) {u : TypeId} {sh : Sh} {F : sh.T → Option Bool} {k : Nat} {X : World → Array Value → Prop}
    (hX : ∀ (w w' : World) (args : Array Value), w.heap = w'.heap → X w args → X w' args)
    (own : ownKnob C.prog.godebug = none) (started : os.Started) (noInit : C.prog.inits.idxOf? f = none) (hfn : C.prog.funcs[f]? = some fn)
    (witness : ∃ (w : World) (tape : Tape) (i : Input), w.os = os ∧ (w.forCall tape i).Shaped C.prog ∧ i.vars = [] ∧ Input.okWide C.prog (w.forCall tape i) .any w.heap.size f i ∧
      ((s.pre enc C.prog fn [] false (w.forCall tape i).memory i.args ∧ X (w.forCall tape i).memory i.args) ∧ sizedMet enc C.prog fn s false (w.forCall tape i).memory i.args) ∧ Assume.holds {} C.prog (lone (Frame.enter C.prog f i.args .normal) [] (w.forCall tape i)))
    (laid : laidOutB C.prog = true) (hread : (fn.params.toList.all fun t => C.prog.readableRec t && Nat.blt t C.prog.types.size) = true)
    (hres : fn.resultTypes = #[u]) (hu : C.prog.underlying u = some .bool) (hvars : s.vars = [])
    (hspec : ∀ (ds : List (DataW H)), ds.length = fn.params.size → s.fn G H ds = { results := [.lit (.bool true)], args := ds })
    (hs : Y7 C.prog f fun avs => (X0 sh .bool [] F).run avs some)
    (hfit : zi6 C.prog k fn.params.toList sh = true) (hget : ∀ x, zbk (getP m0 [] sh (mkL sh x)) = some x)
    (R : Nat) (hbulk : ∀ (ds : List (DataW H)), kk H ds = true → (DataW.weightsEach C.prog fn.params.toList ds).all (· ≤ R) = true)
    (law : ∀ x, yi7 R sh x → F x = some true) :
    ReturnsInHanded {} C os f .any (fun w args => (s.pre enc C.prog fn [] false w args ∧ X w args) ∧ sizedMet enc C.prog fn s false w args) ((s.at G).post enc C.prog fn false true false false) := by
  refine returnsInHanded_of_calls own started noInit witness ?_
  intro w tape i _ _ _ hok hpre hholds
  obtain ⟨_, _, _, fn', hfn', _, _, _, _, hval⟩ := hok
  have e : fn' = fn := Option.some.inj (hfn'.symm.trans hfn)
  subst e
  obtain ⟨⟨hp0, hx⟩, hz⟩ := hpre
  obtain ⟨ds, gs, before, hw, hc, hkk⟩ := (OpenSpec.pre_some hk [] false _ _).1 hp0
  have hW := DataW.Whole.of_heap (w' := w.forCall tape i) (by rfl) hw
  generalize w.forCall tape i = W at *
  have hW' := hW
  obtain ⟨p, q, hA, hV, rfl, hfz, hnd⟩ := hW
  rw [hvars] at hV
  obtain ⟨rfl, rfl⟩ := trodVars_none hV
  have hlen := ymd _ _ _ _ hA
  rw [List.append_nil] at hkk
  have hwe : (DataW.weightsEach C.prog fn'.params.toList ds).all (· ≤ R) = true := hbulk ds hkk
  obtain ⟨x, hx, ox⟩ := ymj (k := k) (base := w.heap.size) _ sh _ _ _ hfit hA (fun j t v ht hv => hval j t v (by simpa using ht) (by simpa using hv)) hwe
  have hF := law x ox
  have hrun : (X0 sh .bool [] F).run (mkL sh x) some = some (.bool true) := by
    simp only [Ctr.run, X0, hget, hF]
    rfl
  obtain ⟨_, hc⟩ := hs W (fun b => b < W.heap.size) (mkL sh x) i.args.toList (.bool true) (fun b h => h) hx hrun
  refine hc.mono fun e W' he => ?_
  obtain ⟨v, S', ls, rfl, bel, _, _, hv, _⟩ := he
  obtain ⟨rfl, hv⟩ := hv
  have hv : v = .bool true := hv
  subst hv
  refine ChangeSpec.post_blind ?_
  have hs2 : (s.at G).fn H ds = { results := [.lit (.bool true)], args := ds } := hspec ds (by simpa using hlen)
  have hv2 : (s.at G).vars = [] := hvars
  refine ⟨ds, [], p ++ [], [], p, [], by rw [hv2]; rw [hvars] at hW'; exact hW', ?_, ?_, ?_, bel.frame _, fun h => by cases h⟩
  · rw [List.append_nil, hs2, hres]
    exact trodAll_mk1 (shut_bool hu _)
  · rw [List.append_nil, hs2]
    refine y8o laid bel _ _ _ _ (fun t ht => ?_) hA
    have := List.all_eq_true.1 hread t ht
    simp only [Bool.and_eq_true] at this
    exact ⟨this.1, by simpa using this.2⟩
  · rw [List.append_nil, hs2, hv2]
    rfl
end Go.Dv

/- The order of byte strings, and tables: lists of pairs in the order of their keys (plain lists, no program in sight). -/
namespace Ds
open Go Go.Dv
theorem u8_tri (a b : UInt8) : a < b ∨ a = b ∨ b < a := by
  rcases Nat.lt_trichotomy a.toNat b.toNat with h | h | h
  · exact .inl h
  · exact .inr (.inl (UInt8.toNat_inj.1 h))
  · exact .inr (.inr h)
theorem zz0 (a : List UInt8) : lts a [] = false := by cases a <;> rfl
theorem z8a (a b : UInt8) (x y : List UInt8) : lts (a :: x) (b :: y) = (decide (a < b) || (a == b && lts x y)) := rfl
theorem z2d : ∀ a : List UInt8, lts a a = false
  | [] => rfl
  | a :: x => by rw [z8a, z2d x]; simp [UInt8.lt_irrefl]
theorem z0s : ∀ {a b c : List UInt8}, lts a b = true → lts b c = true → lts a c = true
  | _, [], _, h, _ => by rw [zz0] at h; cases h
  | _, _ :: _, [], _, h => by rw [zz0] at h; cases h
  | [], _ :: _, _ :: _, _, _ => rfl
  | a :: x, b :: y, c :: z, h, g => by
    rw [z8a] at h g ⊢
    simp only [Bool.or_eq_true, decide_eq_true_eq, Bool.and_eq_true, beq_iff_eq] at h g ⊢
    rcases h with h | ⟨rfl, h⟩
    · rcases g with g | ⟨rfl, g⟩
      · exact .inl (UInt8.lt_trans h g)
      · exact .inl h
    · rcases g with g | ⟨rfl, g⟩
      · exact .inl g
      · exact .inr ⟨rfl, z0s h g⟩
theorem lts_tri : ∀ a b : List UInt8, lts a b = true ∨ a = b ∨ lts b a = true
  | [], [] => .inr (.inl rfl)
  | [], _ :: _ => .inl rfl
  | _ :: _, [] => .inr (.inr rfl)
  | a :: x, b :: y => by
    rw [z8a, z8a]
    simp only [Bool.or_eq_true, decide_eq_true_eq, Bool.and_eq_true, beq_iff_eq, List.cons.injEq]
    rcases u8_tri a b with h | rfl | h
    · exact .inl (.inl h)
    · rcases lts_tri x y with h | h | h
      · exact .inl (.inr ⟨rfl, h⟩)
      · exact .inr (.inl ⟨rfl, h⟩)
      · exact .inr (.inr (.inr ⟨rfl, h⟩))
    · exact .inr (.inr (.inl h))
theorem z4p {a b : List UInt8} (h : lts a b = true) : lts b a = false := by
  cases e : lts b a
  · rfl
  · have := z0s h e; rw [z2d] at this; cases this
theorem zfo {a b : List UInt8} (h : lts a b = true) : a ≠ b := by
  rintro rfl; rw [z2d] at h; cases h
theorem xej {a b c : List UInt8} (h : lts b a = false) (g : lts b c = true) : lts a c = true := by
  rcases lts_tri a b with e | rfl | e
  · exact z0s e g
  · exact g
  · rw [h] at e; cases e
theorem yhs {a b c : List UInt8} (h : lts a b = true) (g : lts c b = false) : lts a c = true := by
  rcases lts_tri b c with e | rfl | e
  · exact z0s h e
  · exact h
  · rw [g] at e; cases e
theorem x7c (p : List UInt8) : ∀ a b : List UInt8, lts (p ++ a) (p ++ b) = lts a b := by
  intro a b
  induction p with
  | nil => rfl
  | cons c p ih => simp only [List.cons_append, z8a, ih]; simp [UInt8.lt_irrefl]
section tab
variable {V : Type}
def Srt (t : List (List UInt8 × V)) : Prop := t.Pairwise fun p q => lts p.1 q.1 = true
def fnd : List (List UInt8 × V) → List UInt8 → Option V
  | [], _ => none
  | p :: t, k => bif eqs p.1 k then some p.2 else fnd t k
theorem zv4 {t : List (List UInt8 × V)} {k : List UInt8} (h : ∀ p ∈ t, p.1 ≠ k) : fnd t k = none := by
  induction t with
  | nil => rfl
  | cons p t ih =>
    simp only [fnd]
    rw [z6c (h p (by simp)), cond_false]
    exact ih fun q hq => h q (by simp [hq])
theorem Srt.ext : ∀ {a b : List (List UInt8 × V)}, Srt a → Srt b → (∀ k, fnd a k = fnd b k) → a = b
  | [], [], _, _, _ => rfl
  | [], q :: b, _, _, h => by have := h q.1; simp [fnd] at this
  | p :: a, [], _, _, h => by have := h p.1; simp [fnd] at this
  | p :: a, q :: b, ha, hb, h => by
    obtain ⟨a1, a2⟩ := List.pairwise_cons.1 ha
    obtain ⟨b1, b2⟩ := List.pairwise_cons.1 hb
    have key : p.1 = q.1 := by
      rcases lts_tri p.1 q.1 with e | e | e
      · have h1 := h p.1
        have : fnd (q :: b) p.1 = none := zv4 (by
          intro x hx
          rcases List.mem_cons.1 hx with rfl | hx
          · exact (zfo e).symm
          · exact (zfo (z0s e (b1 _ hx))).symm)
        rw [this] at h1; simp [fnd] at h1
      · exact e
      · have h1 := h q.1
        have : fnd (p :: a) q.1 = none := zv4 (by
          intro x hx
          rcases List.mem_cons.1 hx with rfl | hx
          · exact (zfo e).symm
          · exact (zfo (z0s e (a1 _ hx))).symm)
        rw [this] at h1; simp [fnd] at h1
    have hv : p.2 = q.2 := by
      have h1 := h p.1
      simp only [fnd, z4l, cond_true, key] at h1
      exact Option.some.inj h1
    have ht : a = b := Srt.ext a2 b2 fun k => by
      have h1 := h k
      simp only [fnd, ← key] at h1
      cases e : eqs p.1 k
      · rw [e] at h1; exact h1
      · have := z1d.1 e; subst this
        rw [zv4 fun x hx => (zfo (a1 x hx)).symm, zv4 fun x hx => (zfo (key ▸ b1 x hx)).symm]
    rw [Prod.ext key hv, ht]
theorem znj (f : List UInt8 → Bool) (t : List (List UInt8 × V)) (k : List UInt8) : fnd (t.filter fun p => f p.1) k = bif f k then fnd t k else none := by
  induction t with
  | nil => simp [fnd]
  | cons p t ih =>
    cases e : f p.1
    · rw [List.filter_cons_of_neg (by simp [e]), ih]
      simp only [fnd]
      cases e2 : eqs p.1 k
      · rfl
      · have := z1d.1 e2; subst this; rw [e]; rfl
    · rw [List.filter_cons_of_pos (by simp [e])]
      simp only [fnd, ih]
      cases e2 : eqs p.1 k
      · rfl
      · have := z1d.1 e2; subst this; rw [e]; rfl
theorem Srt.filter {t : List (List UInt8 × V)} (h : Srt t) (f : List UInt8 × V → Bool) : Srt (t.filter f) := List.Pairwise.filter f h
theorem Srt.map {t : List (List UInt8 × V)} (h : Srt t) {f : List UInt8 × V → List UInt8 × V} (hf : ∀ p, (f p).1 = p.1) : Srt (t.map f) := by
  unfold Srt
  rw [List.pairwise_map]
  exact h.imp fun h => by rw [hf, hf]; exact h
theorem yuw (a b : List (List UInt8 × V)) (k : List UInt8) : fnd (a ++ b) k = match fnd a k with | some v => some v | none => fnd b k := by
  induction a with
  | nil => rfl
  | cons p a ih =>
    simp only [List.cons_append, fnd]
    cases eqs p.1 k
    · exact ih
    · rfl
def mvd (p q : List UInt8) (t : List (List UInt8 × V)) : List (List UInt8 × V) := (t.filter fun x => p.isPrefixOf x.1).map fun x => (q ++ x.1.drop p.length, x.2)
theorem zv8 {p k : List UInt8} (h : p.isPrefixOf k = true) : p ++ k.drop p.length = k := by
  obtain ⟨r, rfl⟩ := List.isPrefixOf_iff_prefix.1 h
  simp
theorem Srt.mvd {t : List (List UInt8 × V)} (h : Srt t) (p q : List UInt8) : Srt (mvd p q t) := by
  unfold Srt Ds.mvd
  rw [List.pairwise_map]
  refine List.Pairwise.imp_of_mem ?_ (h.filter _)
  intro x y hx hy hxy
  have ex := zv8 (List.mem_filter.1 hx).2
  have ey := zv8 (List.mem_filter.1 hy).2
  simp only
  rw [x7c]
  rw [← ex, ← ey, x7c] at hxy
  exact hxy
def cnt (t : List (List UInt8 × V)) (k : List UInt8) : Nat := (t.filter fun p => lts p.1 k).length
theorem yxy (t : List (List UInt8 × V)) (k : List UInt8) : cnt t k ≤ t.length := List.length_filter_le _ _
theorem Srt.take_cnt {t : List (List UInt8 × V)} (h : Srt t) (k : List UInt8) : t.take (cnt t k) = t.filter (fun p => lts p.1 k) ∧ t.drop (cnt t k) = t.filter (fun p => !(lts p.1 k)) := by
  induction t with
  | nil => exact ⟨rfl, rfl⟩
  | cons p t ih =>
    obtain ⟨h1, h2⟩ := List.pairwise_cons.1 h
    obtain ⟨i1, i2⟩ := ih h2
    cases e : lts p.1 k
    · have hno : ∀ q ∈ t, lts q.1 k = false := by
        intro q hq
        cases e2 : lts q.1 k
        · rfl
        · have := z0s (h1 q hq) e2; rw [e] at this; cases this
      have n : t.filter (fun p => lts p.1 k) = [] := List.filter_eq_nil_iff.2 fun q hq => by simp [hno q hq]
      have a : t.filter (fun p => !(lts p.1 k)) = t := List.filter_eq_self.2 fun q hq => by simp [hno q hq]
      have c : cnt (p :: t) k = 0 := by unfold cnt; rw [List.filter_cons_of_neg (by simp [e]), n]; rfl
      rw [c, List.filter_cons_of_neg (by simp [e]), n, List.filter_cons_of_pos (by simp [e]), a]
      exact ⟨rfl, rfl⟩
    · have c : cnt (p :: t) k = cnt t k + 1 := by unfold cnt; rw [List.filter_cons_of_pos (by simp [e])]; rfl
      rw [c, List.filter_cons_of_pos (by simp [e]), List.filter_cons_of_neg (by simp [e])]
      exact ⟨by rw [List.take_succ_cons, i1], by rw [List.drop_succ_cons, i2]⟩
theorem Srt.lt_cnt {t : List (List UInt8 × V)} (h : Srt t) {k : List UInt8} {i : Nat} {p : List UInt8 × V} (hp : t[i]? = some p) : lts p.1 k = true ↔ i < cnt t k := by
  induction t generalizing i with
  | nil => cases hp
  | cons q t ih =>
    obtain ⟨h1, h2⟩ := List.pairwise_cons.1 h
    cases e : lts q.1 k
    · have c : cnt (q :: t) k = 0 := by
        unfold cnt
        rw [List.filter_cons_of_neg (by simp [e]), List.filter_eq_nil_iff.2]
        · rfl
        · intro x hx
          cases e2 : lts x.1 k
          · simp
          · have := z0s (h1 x hx) e2; rw [e] at this; cases this
      rw [c]
      constructor
      · intro hl
        cases i with
        | zero => cases hp; rw [e] at hl; cases hl
        | succ i =>
          have hm : p ∈ t := List.mem_of_getElem? (by simpa using hp)
          have := z0s (h1 p hm) hl
          rw [e] at this; cases this
      · intro h; omega
    · have c : cnt (q :: t) k = cnt t k + 1 := by unfold cnt; rw [List.filter_cons_of_pos (by simp [e])]; rfl
      rw [c]
      cases i with
      | zero => cases hp; simp [e]
      | succ i =>
        rw [ih h2 (by simpa using hp)]; omega
end tab
section put
variable {V : Type}
def insT (p : List UInt8 × V) (t : List (List UInt8 × V)) : List (List UInt8 × V) := t.filter (fun q => lts q.1 p.1) ++ p :: t.filter (fun q => lts p.1 q.1)
theorem Srt.insT {t : List (List UInt8 × V)} (h : Srt t) (p : List UInt8 × V) : Srt (insT p t) := by
  unfold Srt Ds.insT
  rw [List.pairwise_append]
  refine ⟨h.filter _, List.pairwise_cons.2 ⟨fun q hq => (List.mem_filter.1 hq).2, h.filter _⟩, ?_⟩
  intro a ha b hb
  have ha := (List.mem_filter.1 ha).2
  rcases List.mem_cons.1 hb with rfl | hb
  · exact ha
  · exact z0s ha (List.mem_filter.1 hb).2
theorem xaj (p : List UInt8 × V) (t : List (List UInt8 × V)) (k : List UInt8) : fnd (insT p t) k = bif eqs p.1 k then some p.2 else fnd t k := by
  unfold Ds.insT
  rw [yuw, znj (fun x => lts x p.1)]
  simp only [fnd]
  rw [znj (fun x => lts p.1 x)]
  cases e : eqs p.1 k
  · have hne : p.1 ≠ k := fun h => by rw [h, z4l] at e; cases e
    rcases lts_tri k p.1 with h | h | h
    · rw [h, z4p h]
      simp only [cond_true, cond_false]
      cases fnd t k <;> rfl
    · exact absurd h.symm hne
    · rw [h, z4p h]; rfl
  · have := z1d.1 e; subst this
    rw [z2d]; rfl
theorem x4l (p : List UInt8 × V) (t : List (List UInt8 × V)) : (insT p t).length ≤ t.length + 1 := by
  unfold Ds.insT
  rw [List.length_append, List.length_cons]
  have : (t.filter fun q => lts q.1 p.1).length + (t.filter fun q => lts p.1 q.1).length ≤ t.length := by
    induction t with
    | nil => simp
    | cons q t ih =>
      cases e1 : lts q.1 p.1 <;> cases e2 : lts p.1 q.1 <;> simp [List.filter_cons, e1, e2] <;> try omega
      rw [z4p e1] at e2; cases e2
  omega
end put
end Ds
