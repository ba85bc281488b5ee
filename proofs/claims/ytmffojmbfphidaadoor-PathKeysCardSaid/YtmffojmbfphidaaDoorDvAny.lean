/- strings.IndexAny at any text and two or more ASCII bytes. -/
import Derived.Test.YtmffojmbfphidaaDoorDvRune
set_option linter.all false
namespace Go.Proofs
open Go.Shelf Go.RowKit Go.Lib
variable {P : Program} {ρ : Ren}

theorem dec_facts (s : ByteArray) (pos : Nat) (hp : pos < s.size) (h : 128 ≤ (s.get! pos).toNat) :
    128 ≤ (Utf8.decode s pos).1 ∧ ((Utf8.decode s pos).1 = 65533 ∨ Lib.validRune ((Utf8.decode s pos).1 : Int) = true) ∧ 1 ≤ (Utf8.decode s pos).2 ∧ pos + (Utf8.decode s pos).2 ≤ s.size ∧
      ∀ j, pos ≤ j → j < pos + (Utf8.decode s pos).2 → 128 ≤ (s.get! j).toNat := by
  have b := (s.get! pos).toNat_lt
  have hb : s.get! (pos + 0) = s.get! pos := rfl
  have one : ∀ j, pos ≤ j → j < pos + 1 → 128 ≤ (s.get! j).toNat := fun j h1 h2 => by
    have : j = pos := by omega
    rw [this]; exact h
  have bad : 128 ≤ Utf8.runeError ∧ (Utf8.runeError = 65533 ∨ Lib.validRune (Utf8.runeError : Int) = true) ∧ 1 ≤ 1 ∧ pos + 1 ≤ s.size ∧ ∀ j, pos ≤ j → j < pos + 1 → 128 ≤ (s.get! j).toNat := ⟨by decide, .inl rfl, by omega, by omega, one⟩
  have vr : ∀ c : Nat, Utf8.valid (c : Int) = true → Lib.validRune (c : Int) = true := fun c hc => by
    simp only [Utf8.valid, Bool.or_eq_true, Bool.and_eq_true, decide_eq_true_eq] at hc
    simp only [Lib.validRune, decide_eq_true_eq]
    omega
  simp only [Utf8.decode, hb]
  rw [if_neg (by omega)]
  split
  · rename_i h2
    simp only [Bool.and_eq_true, beq_iff_eq, decide_eq_true_eq] at h2
    split
    · refine ⟨by omega, .inr ?_, by omega, by omega, fun j h3 h4 => ?_⟩
      · simp only [Lib.validRune, decide_eq_true_eq]; omega
      · have : j = pos ∨ j = pos + 1 := by omega
        rcases this with rfl | rfl
        · exact h
        · omega
    · exact bad
  · split
    · rename_i h2
      simp only [Bool.and_eq_true, beq_iff_eq, decide_eq_true_eq] at h2
      split
      · rename_i h5
        simp only [Bool.and_eq_true, decide_eq_true_eq] at h5
        refine ⟨by omega, .inr (vr _ h5.2), by omega, by omega, fun j h3 h4 => ?_⟩
        have : j = pos ∨ j = pos + 1 ∨ j = pos + 2 := by omega
        rcases this with rfl | rfl | rfl
        · exact h
        · omega
        · omega
      · exact bad
    · split
      · rename_i h2
        simp only [Bool.and_eq_true, beq_iff_eq, decide_eq_true_eq] at h2
        split
        · rename_i h5
          simp only [Bool.and_eq_true, decide_eq_true_eq] at h5
          refine ⟨by omega, .inr (vr _ h5.2), by omega, by omega, fun j h3 h4 => ?_⟩
          have : j = pos ∨ j = pos + 1 ∨ j = pos + 2 ∨ j = pos + 3 := by omega
          rcases this with rfl | rfl | rfl | rfl
          · exact h
          · omega
          · omega
          · omega
        · exact bad
      · exact bad

theorem get_data (s : ByteArray) (j : Nat) (b : UInt8) (h : s.data.toList[j]? = some b) : s.get! j = b := by
  obtain ⟨d⟩ := s
  obtain ⟨l⟩ := d
  simp at h
  show (Array.mk l)[j]! = b
  obtain ⟨hl, e⟩ := List.getElem?_eq_some_iff.1 h
  simp [getElem!_pos, hl, e]

theorem noAny_jump {s : ByteArray} {chars : List UInt8} {pos k : Nat} (h : NoAny s.data.toList chars pos) (hc : ∀ b ∈ chars, b.toNat < 128) (hh : ∀ j, pos ≤ j → j < pos + k → 128 ≤ (s.get! j).toNat) : NoAny s.data.toList chars (pos + k) := fun j b hj hb => by
  by_cases e : j < pos
  · exact h j b e hb
  · have := hh j (by omega) hj
    rw [get_data s j b hb] at this
    cases hcn : chars.contains b
    · rfl
    · have := hc b (by simpa using hcn); omega

set_option maxHeartbeats 8000000 in
set_option maxRecDepth 1000000 in
theorem any_short (L : Lays.n153 P ρ) (s chars : ByteArray) (w : World) (h2 : 2 ≤ chars.size) (hcs : chars.size < 4294967281) (h8 : s.size ≤ 8) (hac : ∀ (j : Nat) b, chars.data.toList[j]? = some b → b.toNat < 128) :
    Calls P (ρ.f 153) #[.string s, .string chars] w fun e w' => e = .returned (.int .i64 (Lib.indexAny s.data.toList chars.data.toList)) ∧ Below w.heap.size w w' := by
  have HA : Aside (∀ (j : Nat) b, chars.data.toList[j]? = some b → b.toNat < 128) := hac
  clear hac
  have hemp : chars.toList.isEmpty = false := by
    rw [Lib.toList_data]
    cases h : chars.data.toList with
    | nil => have := Lib.size_eq chars; rw [h, List.length_nil] at this; omega
    | cons _ _ => rfl
  have hn1 : ((chars.size : Int) == 1) = false := beq_eq_false_iff_ne.2 (by omega)
  have h8z : decide ((8 : Int) < (s.size : Int)) = false := decide_eq_false (by omega)
  have t0 := L.t0; have a0 := L.a0; have z0 := L.z0; have v0 := L.v0
  have t3 := L.t3; have a3 := L.a3; have z3 := L.z3; have v3 := L.v3
  have t4 := L.t4; have a4 := L.a4; have z4 := L.z4; have v4 := L.v4
  have t5 := L.t5; have a5 := L.a5; have z5 := L.z5; have v5 := L.v5
  have t9 := L.t9; have a9 := L.a9; have z9 := L.z9; have v9 := L.v9
  have t21 := L.t21; have a21 := L.a21; have z21 := L.z21; have v21 := L.v21
  have e152 : ∀ args w, (callFunc (ρ.f 152) args).run P w = .ok (.enter (ρ.f 152) args) w := enters_of L.f152 (by kernel_rfl) rfl
  have e226 : ∀ args w, (callFunc (ρ.f 226) args).run P w = .ok (.enter (ρ.f 226) args) w := enters_of L.f226 (by kernel_rfl) rfl
  go_enter L.f153, Body.n153_ntmps ρ
  go_wp2_with (go_at_fn (ρ.f 226); refine (Any.strings_shouldUseASCIISet { L with } _ _).mono ?_; rintro e w' ⟨rfl, hw⟩; rw [hw, h8z])
  go_loopg [9, 10] s.size (fun g _ _ wx => ∃ pos : Nat, s.size ≤ pos + g ∧ wx.heap[w.heap.size]? = some (.stringIter s pos) ∧ Below w.heap.size w wx ∧ Aside (pos ≤ s.size ∧ Lib.NoAny s.data.toList chars.data.toList pos))
  case atStart => exact ⟨0, by omega, World.iter_heap w s 0, (Below.refl _ w).alloc (Nat.le_refl _) _, ⟨Nat.zero_le _, Lib.NoAny.zero _ _⟩⟩
  case round =>
    obtain ⟨pos, hfu, hit, hbw, hno⟩ := hrel
    by_cases hps : pos < s.size
    · obtain ⟨g', rfl⟩ : ∃ g', gk = g' + 1 := ⟨gk - 1, by omega⟩
      have hnx : ∀ ty, (Instr.next (.pointer (some ⟨w.heap.size, 0, none⟩)) true ty).run P wr = _ := fun ty => Lib.run_next_any_at wr w.heap.size s pos ty hit hps
      obtain ⟨x, hx⟩ : ∃ x : UInt8, s[pos]'hps = x := ⟨_, rfl⟩
      have hxl : s.data.toList[pos]? = some x := by rw [← hx]; exact Lib.data_getElem? s pos hps
      have hget : s.get! pos = x := get_data s pos x hxl
      by_cases hx128 : x.toNat < 128
      · have hdec : Utf8.decode s pos = (x.toNat, 1) := by
          have h0 : (s.get! (pos + 0)).toNat < 128 := by show (s.get! pos).toNat < 128; rw [hget]; exact hx128
          simp only [Utf8.decode]
          rw [if_pos h0]
          show ((s.get! pos).toNat, 1) = _
          rw [hget]
        rw [hdec] at hnx
        have hit2 := Lib.iterAt_heap wr w.heap.size s pos (pos + 1) hit
        have hbw2 := Lib.below_iterAt hbw (k := w.heap.size) (Nat.le_refl _) s (pos + 1)
        obtain ⟨W, hWd⟩ : ∃ W, wr.iterAt w.heap.size s (pos + 1) = W := ⟨_, rfl⟩
        simp only [hWd] at hnx hit2 hbw2
        have Hx : Aside (s.data.toList[pos]? = some x) := hxl
        clear hxl hx hget hdec
        have hcon := Lib.contains_iff_indexByte chars.data.toList x
        have hback : ((x.toNat : Int)).toNat.toUInt8 = x := by simp
        cases hin : chars.data.toList.contains x
        · rw [hin] at hcon
          have hlt : ¬ ((0 : Int) ≤ Lib.indexByte chars.data.toList x) := of_decide_eq_false hcon.symm
          clear hcon
          go_wp2_with (go_at_fn (ρ.f 152); refine (Any.strings_IndexRune_ascii { L with } _ _ _ (by omega) (by omega)).mono ?_; rintro e w' ⟨rfl, hw⟩; rw [hw, hback])
          go_roundg g'
          case measure => omega
          case rel => exact ⟨pos + 1, by omega, hit2, hbw2, ⟨by omega, hno.out.2.succ Hx.out hin⟩⟩
        · rw [hin] at hcon
          have hge : (0 : Int) ≤ Lib.indexByte chars.data.toList x := of_decide_eq_true hcon.symm
          clear hcon
          go_wp2_with (go_at_fn (ρ.f 152); refine (Any.strings_IndexRune_ascii { L with } _ _ _ (by omega) (by omega)).mono ?_; rintro e w' ⟨rfl, hw⟩; rw [hw, hback])
          go_ret
          exact ⟨by rw [Lib.indexAny_hit hno.out.2 Hx.out hin]; rfl, hbw2⟩
      · obtain ⟨q1, q2, q3, q4, q5⟩ := dec_facts s pos hps (by rw [hget]; omega)
        have HJ : Aside (Lib.NoAny s.data.toList chars.data.toList (pos + (Utf8.decode s pos).2)) := noAny_jump hno.out.2 (fun b hb => ascii_mem HA.out hb) q5
        clear q5 hxl hx hget hx128
        obtain ⟨R, hR⟩ : ∃ R, (Utf8.decode s pos).1 = R := ⟨_, rfl⟩
        obtain ⟨K, hK⟩ : ∃ K, (Utf8.decode s pos).2 = K := ⟨_, rfl⟩
        rw [hK] at q3 q4 HJ
        rw [hR] at q1 q2
        rw [hR, hK] at hnx
        have hit2 := Lib.iterAt_heap wr w.heap.size s pos (pos + K) hit
        have hbw2 := Lib.below_iterAt hbw (k := w.heap.size) (Nat.le_refl _) s (pos + K)
        obtain ⟨W, hWd⟩ : ∃ W, wr.iterAt w.heap.size s (pos + K) = W := ⟨_, rfl⟩
        rw [hWd] at hnx hit2 hbw2
        have cS : Calls P (ρ.f 152) #[.string chars, .int .i32 (R : Int)] W fun e w' => e = .returned (.int .i64 (-1)) ∧ Below W.heap.size W w' := by
          by_cases e3 : (R : Int) = 65533
          · rw [e3]; exact rune_err { L with } chars W HA.out
          · rcases q2 with q2 | q2
            · exact absurd (by omega) e3
            · exact rune_high { L with } chars R W (by omega) q2 e3 hcs HA.out
        have hWs : w.heap.size < W.heap.size := (Array.getElem?_eq_some_iff.1 hit2).1
        clear q2 hR hK
        go_wp2_with (go_at_fn (ρ.f 152); refine cS.mono ?_; rintro e w' ⟨rfl, hbel⟩)
        go_roundg g'
        case measure => omega
        case rel => exact ⟨pos + K, by omega, by rw [hbel.block _ hWs]; exact hit2, hbw2.trans (hbel.mono (by omega)), ⟨q4, HJ.out⟩⟩
    · have hnx : ∀ ty, (Instr.next (.pointer (some ⟨w.heap.size, 0, none⟩)) true ty).run P wr = _ := fun ty => Lib.run_next_end_at wr w.heap.size s pos ty hit hps
      have hpe : pos = s.data.toList.length := by rw [← Lib.size_eq]; have := hno.out.1; omega
      go_wp2
      go_ret
      exact ⟨by rw [Lib.indexAny_none (by rw [← hpe]; exact hno.out.2)]; rfl, hbw⟩

theorem any_all (L : Lays.n153 P ρ) (h116 : (P.info? (ρ.t 116)).map (fun i => (i.zero, i.size)) = some (some (.agg (Array.replicate 256 (.bool false))), 256)) (s chars : ByteArray) (w : World) (h2 : 2 ≤ chars.size) (hs : s.size < 4294967281) (hcs : chars.size < 4294967281) (hac : ∀ (j : Nat) b, chars.data.toList[j]? = some b → b.toNat < 128) :
    Calls P (ρ.f 153) #[.string s, .string chars] w fun e w' => e = .returned (.int .i64 (Lib.indexAny s.data.toList chars.data.toList)) ∧ Below w.heap.size w w' := by
  by_cases h8 : s.size ≤ 8
  · exact any_short L s chars w h2 hcs h8 hac
  · refine (Any.strings_IndexAny_long L (zero_of_info h116).1 (zero_of_info h116).2 s chars w (by omega) (by omega) hs hcs hac).mono fun e w' ⟨h1, h2⟩ => ⟨h1, ?_⟩
    rw [h2]
    exact ((Below.refl _ _).alloc (Nat.le_refl _) _).alloc (by simp) _
end Go.Proofs
