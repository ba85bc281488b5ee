/- Plain laws: loops by an invariant, guards, whole numbers. -/
import Derived.Test.YtmffojmbfphidaaDoorDvExt
import Derived.ProofKit
import Derived.Laws.BitsLemmas
set_option linter.all false
namespace Go.Dv

theorem iter_inv {A R : Type} {f : (A → Option R) → A → Option R} (I : A → Prop) (Q : R → Prop) (μ : A → Nat)
    (h : ∀ rec a, I a → (∀ a', I a' → μ a' < μ a → ∃ r, rec a' = some r ∧ Q r) → ∃ r, f rec a = some r ∧ Q r) : ∀ n a, I a → μ a < n → ∃ r, iter f n a = some r ∧ Q r
  | 0, _, _, hn => absurd hn (Nat.not_lt_zero _)
  | n + 1, a, ha, hn => h _ a ha fun a' ha' hm => iter_inv I Q μ h n a' ha' (by omega)

variable {R : Type}

theorem gd_t {b : Bool} (h : b = true) (k : Option R) : gd b k = k := by rw [h]; rfl
theorem gd_p {p : Prop} [Decidable p] (h : p) (k : Option R) : gd (decide p) k = k := gd_t (decide_eq_true h) k
theorem inB_t {i : Int} {n : Nat} (h0 : 0 ≤ i) (h1 : i < n) : inB i n = true := by simp [inB, h0, h1]
theorem fits_t {n b : Nat} (h : n < maxB) (h' : n * b < maxB) : fits n b = true := by simp [fits, h, h']
theorem w64 {n : Int} (h0 : -9223372036854775808 ≤ n) (h1 : n < 9223372036854775808) : IntKind.wrap .i64 n = n := by
  rw [IntKind.wrap_i64]; omega
theorem bif_t {α : Type} {b : Bool} {x y : α} (h : b = true) : (bif b then x else y) = x := by rw [h]; rfl
theorem bif_f {α : Type} {b : Bool} {x y : α} (h : b = false) : (bif b then x else y) = y := by rw [h]; rfl
theorem eqi_iff {a b : Int} : eqi a b = true ↔ a = b := by simp [eqi]
theorem eqi_ne {a b : Int} (h : a ≠ b) : eqi a b = false := by simp [eqi, h]
theorem eqs_iff {a b : List UInt8} : eqs a b = true ↔ a = b := by simp [eqs]
theorem eqs_ne {a b : List UInt8} (h : a ≠ b) : eqs a b = false := by simp [eqs, h]
@[simp] theorem eqi_self (a : Int) : eqi a a = true := by simp [eqi]
@[simp] theorem eqs_self (a : List UInt8) : eqs a a = true := by simp [eqs]

theorem u8_of_wf {n : Int} (h : (Lit.int .u8 n).wf = true) : 0 ≤ n ∧ n < 256 := by
  simp [Lit.wf, IntKind.min, IntKind.max, IntKind.signed, IntKind.bits] at h
  omega

/-- a finite look at a byte -/
theorem u8_all {p : Int → Bool} (h : ((List.range 256).all fun n => p (n : Int)) = true) {n : Int} (h0 : 0 ≤ n) (h1 : n < 256) : p n = true := by
  have := List.all_eq_true.1 h n.toNat (by simp; omega)
  rwa [Int.toNat_of_nonneg h0] at this

def okO {α : Type} (o : Option α) (p : α → Bool) : Bool := match o with | some x => p x | none => false
theorem okO_some {α : Type} {o : Option α} {p : α → Bool} (h : okO o p = true) : ∃ x, o = some x ∧ p x = true := by
  cases o with
  | none => cases h
  | some x => exact ⟨x, rfl, h⟩

theorem u8_opt {α : Type} {f : Int → Option α} {p : α → Bool} (h : ((List.range 256).all fun n => okO (f (n : Int)) p) = true) {n : Int} (h0 : 0 ≤ n) (h1 : n < 256) : ∃ x, f n = some x ∧ p x = true :=
  okO_some (u8_all (p := fun n => okO (f n) p) h h0 h1)

theorem all_opt {α β : Type} {l : List β} {f : β → Option α} {p : β → α → Bool} (h : (l.all fun b => okO (f b) (p b)) = true) {b : β} (hb : b ∈ l) : ∃ x, f b = some x ∧ p b x = true :=
  okO_some (List.all_eq_true.1 h b hb)

theorem tmod_b {a b : Int} (h : 0 ≤ a) (hb : 0 < b) : 0 ≤ Int.tmod a b ∧ Int.tmod a b < b := by
  rw [Int.tmod_eq_emod_of_nonneg h]
  exact ⟨Int.emod_nonneg _ (by omega), Int.emod_lt_of_pos _ hb⟩

/-! walking along a list -/
section walk
variable {α : Type} {pre post : List α} {q d : α}
theorem rd_mid : rdL (pre ++ q :: post) (pre.length : Int) d = q := by simp [rdL]
theorem getD_mid : List.getD (pre ++ q :: post) (Int.toNat (pre.length : Int)) d = q := by simp
theorem set_mid {y : α} : setL (pre ++ q :: post) (pre.length : Int) y = pre ++ y :: post := by simp [setL]
theorem in_mid : inB (pre.length : Int) (pre ++ q :: post).length = true := inB_t (by omega) (by simp; omega)
theorem lt_mid : decide ((pre.length : Int) < ((pre ++ q :: post).length : Int)) = true := by simp; omega
theorem lt_end : decide ((pre.length : Int) < ((pre ++ ([] : List α)).length : Int)) = false := by simp
theorem wr_mid (h : pre.length < 9223372036854775807) : IntKind.wrap .i64 ((pre.length : Int) + (1 : Int)) = ((pre ++ [q]).length : Int) := by
  rw [w64 (by omega) (by omega)]; simp
theorem app_mid : pre ++ q :: post = (pre ++ [q]) ++ post := by simp
theorem rd_get {xs : List α} {i : Int} {x : α} (h0 : 0 ≤ i) (h : xs[i.toNat]? = some x) : rdL xs i d = x := by simp [rdL, List.getD, h]
theorem rd_zero {x : α} {xs : List α} : rdL (x :: xs) 0 d = x := rfl
end walk

theorem fits_p {n b : Nat} (h : n < 4294967296) (hb : b < 1024) : fits n b = true := by
  refine fits_t (by simp only [maxB]; omega) ?_
  have : n * b ≤ 4294967295 * 1023 := Nat.mul_le_mul (by omega) (by omega)
  simp only [maxB]; omega
end Go.Dv
