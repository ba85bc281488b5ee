/- The check of a list of bytes: one byte changed changes it, and one byte more is one step more. -/
import Derived.Test.YtpgikdaeicidaaaGreatDoorDsPureC
import Derived.Test.YtpgikdaeicidaaaGreatDoorDvD
import Derived.KernelRfl
import Derived.Laws.BitsLemmas
set_option linter.all false
namespace Ds
open Go Go.Dv
set_option maxRecDepth 100000
set_option linter.unusedVariables false
abbrev NN : Nat := 1000000

def stp (h b : Int) : Int := IntKind.wrap .u64 (IntKind.wrap .u64 (((BitVec.ofInt (IntKind.bits .u64) h ^^^ BitVec.ofInt (IntKind.bits .u64) (IntKind.wrap .u64 b)).toNat : Int)) * (1099511628211 : Int))
def chk (xs : List Int) : Int := xs.foldl stp 14695981039346656037
abbrev byt (b : Int) : Prop := 0 ≤ b ∧ b < 256

theorem stp_bv (h : Int) {b : Int} (hb : byt b) : stp h b = (((BitVec.ofInt 64 h ^^^ BitVec.ofInt 64 b) * 1099511628211#64).toNat : Int) := by
  unfold stp
  have e : IntKind.wrap .u64 b = b := by rw [IntKind.wrap_u64]; omega
  have e2 : IntKind.bits .u64 = 64 := rfl
  rw [e, e2]
  generalize BitVec.ofInt 64 h ^^^ BitVec.ofInt 64 b = v
  have hv := v.isLt
  rw [IntKind.wrap_u64, IntKind.wrap_u64, BitVec.toNat_mul]
  have : (1099511628211#64).toNat = 1099511628211 := rfl
  rw [this]
  omega
theorem stp_range (h : Int) {b : Int} (hb : byt b) : 0 ≤ stp h b ∧ stp h b < 18446744073709551616 := by
  rw [stp_bv h hb]
  have := ((BitVec.ofInt 64 h ^^^ BitVec.ofInt 64 b) * 1099511628211#64).isLt
  omega
theorem mul_inj {x y : BitVec 64} (h : x * 1099511628211#64 = y * 1099511628211#64) : x = y := by
  have hp : 1099511628211#64 * 14886173955864302971#64 = 1#64 := by decide
  have := congrArg (· * 14886173955864302971#64) h
  simp only [BitVec.mul_assoc, hp, BitVec.mul_one] at this
  exact this
theorem ofInt_inj {a b : Int} (ha : 0 ≤ a ∧ a < 18446744073709551616) (hb : 0 ≤ b ∧ b < 18446744073709551616) (h : BitVec.ofInt 64 a = BitVec.ofInt 64 b) : a = b := by
  have := congrArg BitVec.toNat h
  simp only [BitVec.toNat_ofInt] at this
  omega
theorem xor_r {x y z : BitVec 64} (h : x ^^^ z = y ^^^ z) : x = y := by
  have := congrArg (· ^^^ z) h
  simpa [BitVec.xor_assoc] using this
theorem xor_l {x y z : BitVec 64} (h : z ^^^ x = z ^^^ y) : x = y := by
  rw [BitVec.xor_comm z, BitVec.xor_comm z] at h
  exact xor_r h
theorem stp_left {h h' b : Int} (hb : byt b) (r : 0 ≤ h ∧ h < 18446744073709551616) (r' : 0 ≤ h' ∧ h' < 18446744073709551616) (e : stp h b = stp h' b) : h = h' := by
  rw [stp_bv _ hb, stp_bv _ hb] at e
  exact ofInt_inj r r' (xor_r (mul_inj (BitVec.eq_of_toNat_eq (Int.ofNat.inj e))))
theorem stp_right {h b b' : Int} (hb : byt b) (hb' : byt b') (e : stp h b = stp h b') : b = b' := by
  rw [stp_bv _ hb, stp_bv _ hb'] at e
  exact ofInt_inj (by omega) (by omega) (xor_l (mul_inj (BitVec.eq_of_toNat_eq (Int.ofNat.inj e))))
theorem fold_range : ∀ {xs : List Int} {h : Int}, (∀ b ∈ xs, byt b) → (0 ≤ h ∧ h < 18446744073709551616) → 0 ≤ xs.foldl stp h ∧ xs.foldl stp h < 18446744073709551616
  | [], _, _, r => r
  | b :: xs, h, hb, r => fold_range (xs := xs) (fun c hc => hb c (by simp [hc])) (stp_range h (hb b (by simp)))
theorem fold_inj : ∀ {xs : List Int} {h h' : Int}, (∀ b ∈ xs, byt b) → (0 ≤ h ∧ h < 18446744073709551616) → (0 ≤ h' ∧ h' < 18446744073709551616) → xs.foldl stp h = xs.foldl stp h' → h = h'
  | [], _, _, _, _, _, e => e
  | b :: xs, h, h', hb, r, r', e => stp_left (hb b (by simp)) r r' (fold_inj (xs := xs) (fun c hc => hb c (by simp [hc])) (stp_range h (hb b (by simp))) (stp_range h' (hb b (by simp))) e)
theorem chk_range {xs : List Int} (hb : ∀ b ∈ xs, byt b) : 0 ≤ chk xs ∧ chk xs < 18446744073709551616 := fold_range hb (by omega)
theorem chk_mid {p q : List Int} {b c : Int} (hp : ∀ b ∈ p, byt b) (hq : ∀ b ∈ q, byt b) (hb : byt b) (hc : byt c) : chk (p ++ b :: q) = chk (p ++ c :: q) ↔ b = c := by
  constructor
  · intro e
    unfold chk at e
    rw [List.foldl_append, List.foldl_append, List.foldl_cons, List.foldl_cons] at e
    exact stp_right hb hc (fold_inj hq (stp_range _ hb) (stp_range _ hc) e)
  · rintro rfl; rfl

theorem check_l0 : ∀ (q p : List Int) (n : Nat), (∀ b ∈ q, byt b) → q.length < n → (p ++ q).length < 1000000 → ∀ h, node_Check_l0 NN n h (p ++ q) ((p ++ q).length : Int) (p.length : Int) = some (q.foldl stp h, ())
  | [], p, n + 1, _, _, _, h => by
    rw [node_Check_l0_succ]
    unfold node_Check_l0_step
    rw [lt_end]
    rfl
  | b :: q, p, n + 1, hb, hn, hl, h => by
    have hl' : p.length + (q.length + 1) < 1000000 := by simpa using hl
    rw [node_Check_l0_succ]
    unfold node_Check_l0_step
    rw [lt_mid]
    simp only [cond_true, in_mid, gd_t, rd_mid]
    rw [wr_mid (q := b) (by omega), app_mid]
    have := check_l0 q (p ++ [b]) n (fun c hc => hb c (by simp [hc])) (by simpa using hn) (by simpa using hl') (stp h b)
    simpa [stp] using this
theorem check_eq {xs : List Int} (hb : ∀ b ∈ xs, byt b) (hl : xs.length < 1000000) : node_Check NN xs = some (chk xs) := by
  unfold node_Check
  have := check_l0 xs [] NN hb hl hl 14695981039346656037
  simp only [List.nil_append, List.length_nil] at this
  rw [show ((0 : Nat) : Int) = 0 from rfl] at this
  rw [this]
  rfl

theorem u16_of_wf {n : Int} (h : (Lit.int .u16 n).wf = true) : 0 ≤ n ∧ n < 65536 := by
  simp [Lit.wf, IntKind.min, IntKind.max, IntKind.signed, IntKind.bits] at h
  omega
theorem sanity10 : law10_sanity NN = some true := by decide +kernel
theorem checks_p0 (xs : List Int) (hb : ∀ b ∈ xs, byt b) (h0 : xs.length ≠ 0) (hl : xs.length < 1000) (ok : Bool) (u v : Int) (hu : 0 ≤ u ∧ u < 65536) : law10_NodeChecks_p0 NN xs ok u v = some (ok, ()) := by
  obtain ⟨t, ht⟩ : ∃ t, t = Int.tmod (IntKind.wrap .i64 u) (xs.length : Int) := ⟨_, rfl⟩
  have hb1 := tmod_b (a := u) (b := (xs.length : Int)) hu.1 (by omega)
  rw [w64 (n := u) (by omega) (by omega)] at ht
  rw [← ht] at hb1
  obtain ⟨i, rfl⟩ : ∃ i : Nat, t = (i : Int) := ⟨t.toNat, by omega⟩
  have hi : i < xs.length := by omega
  obtain ⟨p, b, q, e1, e2⟩ : ∃ p b q, xs = p ++ b :: q ∧ p.length = i := ⟨xs.take i, xs[i], xs.drop (i + 1), (by rw [← List.drop_eq_getElem_cons hi, List.take_append_drop]), (by rw [List.length_take]; omega)⟩
  obtain ⟨init, l, e3⟩ : ∃ init l, xs = init ++ [l] := ⟨xs.dropLast, xs.getLast (by intro e; simp [e] at h0), (List.dropLast_concat_getLast _).symm⟩
  have hv : byt (IntKind.wrap .u8 v) := by rw [IntKind.wrap_u8]; constructor <;> omega
  have hlen : xs.length = init.length + 1 := by rw [e3]; simp
  have c0 := check_eq hb (by omega)
  have c1 : node_Check NN init = some (chk init) := check_eq (fun c hc => hb c (by rw [e3]; simp [hc])) (by omega)
  have hs : ∀ c ∈ p ++ IntKind.wrap .u8 v :: q, byt c := fun c hc => by
    simp only [List.mem_append, List.mem_cons] at hc
    rcases hc with h | rfl | h
    · exact hb c (by rw [e1]; simp [h])
    · exact hv
    · exact hb c (by rw [e1]; simp [h])
  have hl2 : (p ++ IntKind.wrap .u8 v :: q).length = xs.length := by rw [e1]; simp
  have c2 := check_eq hs (by omega)
  have hm := chk_mid (p := p) (q := q) (b := IntKind.wrap .u8 v) (c := b) (fun c hc => hb c (by rw [e1]; simp [hc])) (fun c hc => hb c (by rw [e1]; simp [hc])) hv (hb b (by rw [e1]; simp))
  have w1 : IntKind.wrap .i64 ((xs.length : Int) - 1) = (init.length : Int) := by rw [w64 (by omega) (by omega)]; omega
  have cutE : cut2 xs 0 (init.length : Int) = init := by rw [e3]; simp [cut2]
  have rdE : rdL xs (init.length : Int) 0 = l := by rw [e3]; exact rd_mid
  have rdM : rdL xs (p.length : Int) 0 = b := by rw [e1]; exact rd_mid
  have setE : setL xs (p.length : Int) (IntKind.wrap .u8 v) = p ++ IntKind.wrap .u8 v :: q := by rw [e1]; exact set_mid
  have hstep : chk xs = stp (chk init) l := by rw [e3]; simp [chk]
  subst e2
  unfold law10_NodeChecks_p0
  rw [gd_t (fits_t (by simp only [maxB]; omega) (by simp only [maxB]; omega)), w64 (n := u) (by omega) (by omega), ← ht]
  have happ : (@HAppend.hAppend (List Int) (List Int) (List Int) _ ([] : List Int) xs) = xs := rfl
  simp only [happ]
  rw [eqi_ne (by omega), show (!false) = true from rfl, gd_t rfl, gd_t (inB_t (by omega) (by omega)), c0]
  simp only [w1]
  rw [gd_t (by simp; omega), cutE, c1]
  simp only
  rw [gd_t (inB_t (by omega) (by omega)), setE, c2]
  simp only
  rw [rdE, gd_t (inB_t (by omega) (by omega)), rd_mid, rdM]
  have fin : eqi (chk xs) (IntKind.wrap .u64 (IntKind.wrap .u64 (((BitVec.ofInt (IntKind.bits .u64) (chk init) ^^^ BitVec.ofInt (IntKind.bits .u64) (IntKind.wrap .u64 l)).toNat : Int)) * (1099511628211 : Int))) = true := eqi_iff.2 hstep
  rw [fin]
  have same : eqb (eqi (chk (p ++ IntKind.wrap .u8 v :: q)) (chk xs)) (eqi (IntKind.wrap .u8 v) b) = true := by
    rw [e1]
    by_cases h : IntKind.wrap .u8 v = b
    · rw [eqi_iff.2 h, eqi_iff.2 (hm.2 h)]; rfl
    · rw [eqi_ne h, eqi_ne (fun e => h (hm.1 e))]; rfl
  rw [same, gd_t (inB_t (by omega) (by omega))]
  rfl
theorem plainChecks (xs : List Int) (w : V_a2_uint16) (hx : okSh (.list (.int .u8)) xs) (hw : okSh (.val T_a2_uint16) w) : law10_NodeChecks NN xs w = some true := by
  have hb : ∀ b ∈ xs, byt b := fun b hb => by
    obtain ⟨i, hi⟩ := List.getElem?_of_mem hb
    exact u8_of_wf (hx.2 i b hi)
  unfold law10_NodeChecks
  rw [sanity10]
  simp only
  by_cases h : (300 : Int) < (xs.length : Int)
  · rw [bif_t (by simpa using h)]
  · rw [bif_f (by simpa using h)]
    by_cases h0 : xs.length = 0
    · rw [bif_t (eqi_iff.2 (by omega))]
    · rw [bif_f (eqi_ne (by omega)), checks_p0 xs hb h0 (by omega) true w.1 w.2 (u16_of_wf hw.1)]
end Ds
