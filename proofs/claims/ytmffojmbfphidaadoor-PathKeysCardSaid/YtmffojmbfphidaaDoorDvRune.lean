/- strings.IndexRune at runes beyond ASCII in an ASCII text. -/
import Derived.Shelf.Strings.IndexAnyAll
import Derived.Shelf.Small.Utf8
import Derived.Lib.OthersKept
import Derived.Laws.Runes
import Derived.Shelf.RegionOpenPlain
set_option linter.all false
namespace Go.Proofs
open Go.Shelf Go.RowKit Go.Lib
variable {P : Program} {ρ : Ren}

theorem ascii_mem {l : List UInt8} (h : ∀ (j : Nat) b, l[j]? = some b → b.toNat < 128) {b : UInt8} (hb : b ∈ l) : b.toNat < 128 := by
  obtain ⟨j, hj⟩ := List.mem_iff_getElem?.1 hb
  exact h j b hj
theorem ib_high : ∀ (l : List UInt8) (y : UInt8), (∀ b ∈ l, b.toNat < 128) → 128 ≤ y.toNat → Lib.indexByte l y = -1
  | [], _, _, _ => rfl
  | b :: l, y, h, hy => by
    have h1 : (b == y) = false := by
      cases e : b == y
      · rfl
      · have := h b (by simp)
        rw [eq_of_beq e] at this; omega
    have := ib_high l y (fun c hc => h c (by simp [hc])) hy
    simp only [Lib.indexByte, h1, this, Bool.false_eq_true, if_false]
    rfl

set_option maxHeartbeats 4000000 in
set_option maxRecDepth 1000000 in
theorem rune_high (L : Lays.n152 P ρ) (s : ByteArray) (r : Int) (w : World) (h1 : 128 ≤ r) (h2 : Lib.validRune r = true) (h3 : r ≠ 65533) (hs : s.size < 4294967281) (hascii : ∀ (j : Nat) b, s.data.toList[j]? = some b → b.toNat < 128) :
    Calls P (ρ.f 152) #[.string s, .int .i32 r] w fun e w' => e = .returned (.int .i64 (-1)) ∧ Below w.heap.size w w' := by
  have HA : Aside (∀ (j : Nat) b, s.data.toList[j]? = some b → b.toNat < 128) := hascii
  clear hascii
  have mixed := L.mixed
  have t0 := L.t0; have a0 := L.a0; have z0 := L.z0; have v0 := L.v0
  have t3 := L.t3; have a3 := L.a3; have z3 := L.z3; have v3 := L.v3
  have t4 := L.t4; have a4 := L.a4; have z4 := L.z4; have v4 := L.v4
  have t5 := L.t5; have a5 := L.a5; have z5 := L.z5; have v5 := L.v5
  have t9 := L.t9; have a9 := L.a9; have z9 := L.z9; have v9 := L.v9
  have t21 := L.t21; have a21 := L.a21; have z21 := L.z21; have v21 := L.v21
  have d1 : decide (r < 128) = false := decide_eq_false (by omega)
  have d2 : (r == 65533) = false := beq_eq_false_iff_ne.2 h3
  have e119 : ∀ args w, (callFunc (ρ.f 119) args).run P w = .ok (.enter (ρ.f 119) args) w := enters_of L.f119 (by kernel_rfl) rfl
  have e137 : ∀ args w, (callFunc (ρ.f 137) args).run P w = .ok (.enter (ρ.f 137) args) w := enters_of L.f137 (by kernel_rfl) rfl
  obtain ⟨f1, f2, f3⟩ := encode_facts r (by rw [validRune_eq]; exact h2) h1
  obtain ⟨E, hE⟩ : ∃ E, Utf8.encode r = E := ⟨_, rfl⟩
  rw [hE] at f1 f2 f3
  have hcv : ∀ w : World, (Go.convert (ρ.t 21) (ρ.t 9) (.int .i32 r)).run P w = .ok (.string E) w := fun w => by
    rw [← hE]; exact run_convert_int_string w _ _ _ _ (by rw [t21]; rfl) t9
  go_enter L.f152, Body.n152_ntmps ρ
  go_wp2_with (go_at_fn (ρ.f 119); refine (Any.utf8_ValidRune { L with } _ _).mono ?_; rintro e w' ⟨rfl, hw⟩; rw [hw, h2])
  have hww := hw
  subst hww
  go_step3
  have k1 : (0 : Int) ≤ (E.size : Int) - 1 := by omega
  have hw1 : IntKind.i64.wrap ((E.size : Int) - 1) = (E.size : Int) - 1 := wrap_small _ (by omega) (by omega)
  go_wp2
  go_loopg [9] 1 (fun gf v9 wx => v9 = .int .i64 ((E.size : Int) - 1) ∧ wx = w')
  case atStart => exact ⟨rfl, rfl⟩
  case round =>
    obtain ⟨rfl, rfl⟩ := hrel
    by_cases hps : E.size - 1 < s.size
    · have hlt : decide ((E.size : Int) - 1 < (s.size : Int)) = true := decide_eq_true (by omega)
      have hn : ((E.size : Int) - 1).toNat = E.size - 1 := by omega
      obtain ⟨x, hx⟩ : ∃ x : UInt8, s[E.size - 1]'hps = x := ⟨_, rfl⟩
      have hxl : s.data.toList[E.size - 1]? = some x := by rw [← hx]; exact Lib.data_getElem? s _ hps
      have hx128 : x.toNat < 128 := HA.out _ x hxl
      have hpe : E.size - 1 < E.size := by omega
      obtain ⟨y, hy⟩ : ∃ y : UInt8, E[E.size - 1]'hpe = y := ⟨_, rfl⟩
      have hy128 : 128 ≤ y.toNat := by rw [← hy]; exact f3 hpe
      have hgs : s[E.size - 1]? = some x := by rw [← hx]; exact getElem?_pos s _ hps
      have hge : E[E.size - 1]? = some y := by rw [← hy]; exact getElem?_pos E _ hpe
      have hne : ((x.toNat : Int) == (y.toNat : Int)) = false := beq_eq_false_iff_ne.2 (by omega)
      have hw2 : IntKind.i64.wrap ((E.size : Int) - 1 + 1) = (E.size : Int) := by rw [show (E.size : Int) - 1 + 1 = (E.size : Int) by omega]; exact wrap_small _ (by omega) (by omega)
      have i1 : ∀ w : World, (Instr.index (ρ.t 9) (.string s) (.int .i64 ((E.size : Int) - 1))).run P w = .ok (.int .u8 x.toNat) w := fun w => by
        rw [run_index_string (h := t9), dif_pos ⟨by omega, by omega⟩]
        have : s[((E.size : Int) - 1).toNat]'(by omega) = x := by rw [← hx]; congr 1
        rw [this]
      have i2 : ∀ w : World, (Instr.index (ρ.t 9) (.string E) (.int .i64 ((E.size : Int) - 1))).run P w = .ok (.int .u8 y.toNat) w := fun w => by
        rw [run_index_string (h := t9), dif_pos ⟨by omega, by omega⟩]
        have : E[((E.size : Int) - 1).toNat]'(by omega) = y := by rw [← hy]; congr 1
        rw [this]
      have hw2b : IntKind.i64.wrap (E.size : Int) = (E.size : Int) := wrap_small _ (by omega) (by omega)
      have c1 : (0 : Int) ≤ (E.size : Int) := by omega
      have c3 : E.size ≤ s.size := by omega
      have c2 : (E.size : Int) ≤ (s.size : Int) := by omega
      go_wp2
      go_step3
      go_wp2
      go_region_o
      go_wp2
      have hib : Lib.indexByte (List.take (s.size - E.size) (List.drop E.size s.data.toList)) y = -1 := ib_high _ _ (fun b hb => ascii_mem HA.out (List.mem_of_mem_drop (List.mem_of_mem_take hb))) hy128
      go_region_with_o (go_at_fn (ρ.f 137); refine (Any.strings_IndexByte { L with } _ _ _).mono ?_; rintro e w2 ⟨rfl, rfl⟩)
      go_wp2
      simp only [Exit.noGoto_ret, Exit.inBlock, Exit.then]
      go_ret
      exact ⟨rfl, (Below.refl _ _).drew.drew⟩
    · have hlt : decide ((E.size : Int) - 1 < (s.size : Int)) = false := decide_eq_false (by omega)
      go_wp2
      rw [Exit.noGoto_ret]
      go_ret
      exact ⟨rfl, Below.refl _ _⟩

set_option maxHeartbeats 4000000 in
set_option maxRecDepth 1000000 in
theorem rune_err (L : Lays.n152 P ρ) (s : ByteArray) (w : World) (hascii : ∀ (j : Nat) b, s.data.toList[j]? = some b → b.toNat < 128) :
    Calls P (ρ.f 152) #[.string s, .int .i32 65533] w fun e w' => e = .returned (.int .i64 (-1)) ∧ Below w.heap.size w w' := by
  have HA : Aside (∀ (j : Nat) b, s.data.toList[j]? = some b → b.toNat < 128) := hascii
  clear hascii
  have t0 := L.t0; have a0 := L.a0; have z0 := L.z0; have v0 := L.v0
  have t3 := L.t3; have a3 := L.a3; have z3 := L.z3; have v3 := L.v3
  have t4 := L.t4; have a4 := L.a4; have z4 := L.z4; have v4 := L.v4
  have t5 := L.t5; have a5 := L.a5; have z5 := L.z5; have v5 := L.v5
  have t9 := L.t9; have a9 := L.a9; have z9 := L.z9; have v9 := L.v9
  have t21 := L.t21; have a21 := L.a21; have z21 := L.z21; have v21 := L.v21
  go_enter L.f152, Body.n152_ntmps ρ
  go_wp2
  go_loopg [] s.size (fun gf wx => ∃ pos : Nat, wx.heap[w.heap.size]? = some (.stringIter s pos) ∧ Below w.heap.size w wx ∧ s.size = pos + gf)
  case atStart => exact ⟨0, World.iter_heap w s 0, (Below.refl _ w).alloc (Nat.le_refl _) _, by omega⟩
  case round =>
    obtain ⟨pos, hit, hbw, hfu⟩ := hrel
    by_cases hps : pos < s.size
    · obtain ⟨g', rfl⟩ : ∃ g', gk = g' + 1 := ⟨gk - 1, by omega⟩
      obtain ⟨x, hx⟩ : ∃ x : UInt8, s[pos]'hps = x := ⟨_, rfl⟩
      have hxl : s.data.toList[pos]? = some x := by rw [← hx]; exact Lib.data_getElem? s pos hps
      have hx128 : x.toNat < 128 := HA.out pos x hxl
      have hnx := fun ty => Lib.run_next_ascii_at (P := P) wr w.heap.size s pos ty hit hps (by rw [hx]; exact hx128)
      rw [hx] at hnx
      have hit2 := Lib.iterAt_heap wr w.heap.size s pos (pos + 1) hit
      have hbw2 := Lib.below_iterAt hbw (k := w.heap.size) (Nat.le_refl _) s (pos + 1)
      have hne : ((x.toNat : Int) == 65533) = false := beq_eq_false_iff_ne.2 (by omega)
      obtain ⟨W, hWd⟩ : ∃ W, wr.iterAt w.heap.size s (pos + 1) = W := ⟨_, rfl⟩
      rw [hWd] at hnx hit2 hbw2
      go_wp2
      go_roundg g'
      case measure => omega
      case rel => exact ⟨pos + 1, hit2, hbw2, by omega⟩
    · have hnx : ∀ ty, (Instr.next (.pointer (some ⟨w.heap.size, 0, none⟩)) true ty).run P wr = _ := fun ty => Lib.run_next_end_at wr w.heap.size s pos ty hit hps
      go_wp2
      go_ret
      exact ⟨rfl, hbw⟩
end Go.Proofs
