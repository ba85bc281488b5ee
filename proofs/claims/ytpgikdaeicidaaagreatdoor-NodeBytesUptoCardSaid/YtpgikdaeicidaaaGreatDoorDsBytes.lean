/- The bytes of a node, as node.Bytes writes them. -/
import Derived.Test.YtpgikdaeicidaaaGreatDoorDsMade
set_option linter.all false
namespace Ds
open Go Go.Dv
set_option maxRecDepth 100000
set_option linter.unusedVariables false
abbrev Huge (n : Nat) : Prop := n < 4000000000000
theorem hfits {n : Nat} (h : Huge n) : fits n 1 = true := fits_t (by simp only [maxB]; omega) (by simp only [maxB]; omega)
theorem nnum_l0 (N : Nat) (v : Int) : ∀ (w n : Nat) (out : List Int), w < n → w ≤ 8 → Huge (out.length + w) → node_number_m_l0 N n v ((w : Int) - 1) out = some ((), (out ++ bytes v w, ()))
  | _, 0, _, h, _, _ => absurd h (Nat.not_lt_zero _)
  | 0, n + 1, out, _, _, _ => by
    rw [node_number_m_l0_succ]
    simp only [node_number_m_l0_step]
    rw [bif_f (by decide)]
    simp [bytes]
  | w + 1, n + 1, out, hn, hw, hl => by
    have e0 : ((w + 1 : Nat) : Int) - 1 = (w : Int) := by omega
    have e1 : IntKind.wrap .i64 ((w : Int) - (1 : Int)) = (w : Int) - 1 := w64 (by omega) (by omega)
    have e2 : IntKind.wrap .i64 ((8 : Int) * (w : Int)) = ((8 * w : Nat) : Int) := by rw [w64 (by omega) (by omega)]; omega
    have hl' : out.length + (w + 1) < 4000000000000 := hl
    rw [node_number_m_l0_succ]
    simp only [node_number_m_l0_step]
    rw [e0, bif_t (by simp), gd_t (by rw [e2]; simp; omega), byt_eq v w (by omega), gd_t (hfits (by show out.length + 1 < 4000000000000; omega)), e1]
    have ih := nnum_l0 N v w n (out ++ [byt v w]) (by omega) (by omega) (by show (out ++ [byt v w]).length + w < _; simp; omega)
    rw [ih]
    simp [bytes]
theorem nnum (v : Int) (w : Nat) (hw : w ≤ 8) (out : List Int) (hl : Huge (out.length + 8)) : node_number_m NN v (w : Int) out = some ((), (out ++ bytes v w, ())) := by
  have hl' : out.length + 8 < 4000000000000 := hl
  have e1 : IntKind.wrap .i64 ((w : Int) - (1 : Int)) = (w : Int) - 1 := w64 (by omega) (by omega)
  simp only [node_number_m, e1, nnum_l0 NN v w NN out (by simp only [NN]; omega) hw (by show out.length + w < _; omega)]
theorem nnum4 (v : Int) (out : List Int) (hl : Huge (out.length + 8)) : node_number_m NN v 4 out = some ((), (out ++ bytes v 4, ())) := nnum v 4 (by omega) out hl
theorem nnum8 (v : Int) (out : List Int) (hl : Huge (out.length + 8)) : node_number_m NN v 8 out = some ((), (out ++ bytes v 8, ())) := nnum v 8 (by omega) out hl
theorem ntext {s : B} (out : List Int) (hl : Huge (out.length + s.length + 8)) : node_text_m NN s out = some ((), (out ++ textB s, ())) := by
  have hl' : out.length + s.length + 8 < 4000000000000 := hl
  have h := nnum (s.length : Int) 2 (by omega) out (by show out.length + 8 < _; omega)
  simp only [node_text_m, show ((2 : Nat) : Int) = 2 from rfl] at h ⊢
  simp only [h]
  rw [gd_t (hfits (by show (out ++ bytes (s.length : Int) 2).length + (bytesI s).length < _; simp [bytes_len, bytesI_len]; omega))]
  simp [textB]
def pairE (p : Pr) : List Int := textB p.1 ++ (textB p.2.1 ++ bytes p.2.2 4)
def sumE (s : V_api_Sum) : List Int := bytes s.1.1 8 ++ (bytes s.1.2 8 ++ (bytes s.2.1 8 ++ bytes s.2.2 8))
abbrev kidE (k : Int) : List Int := bytes k 4
theorem pairE_len (p : Pr) : (pairE p).length = p.1.length + p.2.1.length + 8 := by simp [pairE, textB_len, bytes_len]; omega
theorem sumE_len (s : V_api_Sum) : (sumE s).length = 32 := by simp [sumE, bytes_len]
theorem bytes_l2 : ∀ (post pre : List Pr) (n : Nat) (out : List Int), post.length < n → (pre ++ post).length < 50000 → (∀ p ∈ post, storB p = true) → out.length + 70000 * post.length < 3900000000000 →
    node_Bytes_l2 NN n (pre ++ post) ((pre ++ post).length : Int) (pre.length : Int) out = some ((), (out ++ post.flatMap pairE, ()))
  | [], pre, n + 1, out, _, _, _, _ => by
    rw [node_Bytes_l2_succ, node_Bytes_l2_step, lt_end]; simp
  | p :: post, pre, n + 1, out, hn, hb, hs, ho => by
    have hb' : pre.length + (post.length + 1) < 50000 := by simpa using hb
    have ho' : out.length + 70000 * (post.length + 1) < 3900000000000 := by simpa using ho
    have hp := hs p (by simp)
    simp only [storB, Bool.and_eq_true, inR_iff, decide_eq_true_eq] at hp
    have hpe := pairE_len p
    have ih := bytes_l2 post (pre ++ [p]) n (out ++ pairE p) (by simpa using hn) (by rw [← app_mid]; exact hb) (fun q hq => hs q (by simp [hq])) (by rw [List.length_append, hpe]; omega)
    rw [← app_mid] at ih
    rw [node_Bytes_l2_succ, node_Bytes_l2_step, lt_mid, cond_true, gd_t in_mid, rd_mid, ntext out (by show _ < _; omega)]
    simp only
    rw [ntext _ (by show _ < _; simp only [List.length_append, textB_len]; omega)]
    simp only
    rw [nnum4 _ _ (by show _ < _; simp only [List.length_append, textB_len]; omega)]
    simp only
    rw [at_len pre p (by simp; omega)]
    have e : out ++ textB p.1 ++ textB p.2.1 ++ bytes p.2.2 4 = out ++ pairE p := by simp [pairE]
    rw [e, ih]
    simp
section inner
variable (b3 : List Pr) (b4 : List B) (b5 : List Int) (b6 : List V_api_Sum) (b7 : List Mg)
theorem bytes_l0 : ∀ (post pre : List Int) (n : Nat) (out : List Int), post.length < n → (pre ++ post).length < 50000 → out.length + 70000 * post.length < 3900000000000 →
    node_Bytes_l0 NN n (pre ++ post) ((pre ++ post).length : Int) (pre.length : Int) b3 b4 b5 b6 b7 out = some (((), ()), ((b3, (b4, (b5, (b6, b7)))), (out ++ post.flatMap kidE, ())))
  | [], pre, n + 1, out, _, _, _ => by
    rw [node_Bytes_l0_succ, node_Bytes_l0_step, lt_end]; simp
  | k :: post, pre, n + 1, out, hn, hb, ho => by
    have hb' : pre.length + (post.length + 1) < 50000 := by simpa using hb
    have ho' : out.length + 70000 * (post.length + 1) < 3900000000000 := by simpa using ho
    have ih := bytes_l0 post (pre ++ [k]) n (out ++ kidE k) (by simpa using hn) (by rw [← app_mid]; exact hb) (by rw [List.length_append, bytes_len]; omega)
    rw [← app_mid] at ih
    rw [node_Bytes_l0_succ, node_Bytes_l0_step, lt_mid, cond_true, gd_t in_mid, rd_mid, nnum4 _ _ (by show _ < _; omega)]
    simp only
    rw [wr_mid (q := k) (by omega), ih]
    simp
theorem bytes_l1 : ∀ (post pre : List B) (n : Nat) (out : List Int), post.length < n → (pre ++ post).length < 50000 → (∀ p ∈ post, p.length < 65536) → out.length + 70000 * post.length < 3900000000000 →
    node_Bytes_l1 NN n (pre ++ post) ((pre ++ post).length : Int) (pre.length : Int) b3 b4 b5 b6 b7 out = some (((), ()), ((b3, (b4, (b5, (b6, b7)))), (out ++ post.flatMap textB, ())))
  | [], pre, n + 1, out, _, _, _, _ => by
    rw [node_Bytes_l1_succ, node_Bytes_l1_step, lt_end]; simp
  | k :: post, pre, n + 1, out, hn, hb, hs, ho => by
    have hb' : pre.length + (post.length + 1) < 50000 := by simpa using hb
    have ho' : out.length + 70000 * (post.length + 1) < 3900000000000 := by simpa using ho
    have hk := hs k (by simp)
    have ih := bytes_l1 post (pre ++ [k]) n (out ++ textB k) (by simpa using hn) (by rw [← app_mid]; exact hb) (fun q hq => hs q (by simp [hq])) (by rw [List.length_append, textB_len]; omega)
    rw [← app_mid] at ih
    rw [node_Bytes_l1_succ, node_Bytes_l1_step, lt_mid, cond_true, gd_t in_mid, rd_mid, ntext _ (by show _ < _; omega)]
    simp only
    rw [at_len pre k (by simp; omega), ih]
    simp
theorem bytes_l5 (b0 : List V_api_Sum) (b1 b2 : Int) : ∀ (post pre : List Int) (n : Nat) (out : List Int), post.length < n → (pre ++ post).length ≤ 4 → out.length + 8 * post.length < 3900000000000 →
    node_Bytes_l5 NN n b0 b1 b2 ((pre ++ post).length : Int) (pre.length : Int) b3 b4 b5 b6 b7 out (pre ++ post) = some (((), ((), (b0, (b1, b2)))), ((b3, (b4, (b5, (b6, b7)))), (out ++ post.flatMap (fun x => bytes x 8), ())))
  | [], pre, n + 1, out, _, _, _ => by
    rw [node_Bytes_l5_succ, node_Bytes_l5_step, lt_end]; simp
  | k :: post, pre, n + 1, out, hn, hb, ho => by
    have hb' : pre.length + (post.length + 1) ≤ 4 := by simpa using hb
    have ho' : out.length + 8 * (post.length + 1) < 3900000000000 := by simpa using ho
    have ih := bytes_l5 b0 b1 b2 post (pre ++ [k]) n (out ++ bytes k 8) (by simpa using hn) (by rw [← app_mid]; exact hb) (by rw [List.length_append, bytes_len]; omega)
    rw [← app_mid] at ih
    rw [node_Bytes_l5_succ, node_Bytes_l5_step, lt_mid, cond_true, gd_t in_mid, rd_mid, nnum8 _ _ (by show _ < _; omega)]
    simp only
    rw [wr_mid (q := k) (by omega), ih]
    simp
theorem bytes_l3 : ∀ (post pre : List V_api_Sum) (n : Nat) (out : List Int), post.length < n → (pre ++ post).length < 50000 → out.length + 70000 * post.length < 3900000000000 →
    node_Bytes_l3 NN n (pre ++ post) ((pre ++ post).length : Int) (pre.length : Int) b3 b4 b5 b6 b7 out = some (((), ()), ((b3, (b4, (b5, (b6, b7)))), (out ++ post.flatMap sumE, ())))
  | [], pre, n + 1, out, _, _, _ => by
    rw [node_Bytes_l3_succ, node_Bytes_l3_step, lt_end]; simp
  | k :: post, pre, n + 1, out, hn, hb, ho => by
    have hb' : pre.length + (post.length + 1) < 50000 := by simpa using hb
    have ho' : out.length + 70000 * (post.length + 1) < 3900000000000 := by simpa using ho
    have ih := bytes_l3 post (pre ++ [k]) n (out ++ sumE k) (by simpa using hn) (by rw [← app_mid]; exact hb) (by rw [List.length_append, sumE_len]; omega)
    rw [← app_mid] at ih
    rw [node_Bytes_l3_succ, node_Bytes_l3_step, lt_mid, cond_true, gd_t in_mid, rd_mid]
    simp only
    have h5 := bytes_l5 b3 b4 b5 b6 b7 (pre ++ k :: post) ((pre ++ k :: post).length : Int) (pre.length : Int) [k.1.1, k.1.2, k.2.1, k.2.2] [] NN out (by simp only [NN, List.length_cons, List.length_nil]; omega) (by simp) (by simp; omega)
    simp only [List.nil_append, List.length_nil] at h5
    rw [show ((0 : Nat) : Int) = 0 from rfl] at h5
    rw [h5]
    simp only
    rw [at_len pre k (by simp; omega)]
    have e : out ++ ([k.1.1, k.1.2, k.2.1, k.2.2] : List Int).flatMap (fun x => bytes x 8) = out ++ sumE k := by simp [sumE]
    rw [e, ih]
    simp
end inner
theorem bytesM_len {m : Mg} (h : vldB m = true) : (bytesM m).length < 300000 := by
  rcases vld_cases h with ⟨k, v, n, rfl, h1, h2, h3, h4, h5⟩ | ⟨k, rfl, h1, h2⟩ | ⟨s, rfl, h1⟩ | ⟨k, e, rfl, hk, h1⟩ | ⟨s, n, rfl, h1, h2, h3⟩
  · have e : bytesM (putMsg k v n) = IntKind.wrap .u8 1 :: (textB k ++ textB v ++ bytes n 4) := rfl
    rw [e]; simp only [List.length_cons, List.length_append, textB_len, bytes_len]; omega
  · have e : bytesM (delMsg k) = IntKind.wrap .u8 2 :: textB k := rfl
    rw [e]; simp only [List.length_cons, textB_len]; omega
  · have l := spanV_len h1
    have e : (bytesM (dropMsg s)).length ≤ s.1.length + s.2.length + 20 := by
      simp only [bytesM, bodyB, eqi]
      simp [textB_len, bytes_len]; omega
    omega
  · have l := apartV_len h1
    have e : (bytesM (mv k e)).length ≤ e.1.length + e.2.length + 20 := by
      rcases hk with rfl | rfl <;> simp only [bytesM, bodyB, eqi] <;> simp [textB_len, bytes_len] <;> omega
    omega
  · have l := spanV_len h1
    have e : (bytesM (stampMsg s n)).length ≤ s.1.length + s.2.length + 20 := by
      simp only [bytesM, bodyB, eqi]
      simp [textB_len, bytes_len]; omega
    omega
theorem bytes_l4 : ∀ (post pre : List Mg) (n : Nat) (out : List Int), post.length < n → (pre ++ post).length < 50000 → (∀ m ∈ post, vldB m = true) → out.length + 300000 * post.length < 3900000000000 →
    node_Bytes_l4 NN n (pre ++ post) ((pre ++ post).length : Int) (pre.length : Int) out = some ((), (out ++ post.flatMap bytesM, ()))
  | [], pre, n + 1, out, _, _, _, _ => by
    rw [node_Bytes_l4_succ, node_Bytes_l4_step, lt_end]; simp
  | m :: post, pre, n + 1, out, hn, hb, hs, ho => by
    have hb' : pre.length + (post.length + 1) < 50000 := by simpa using hb
    have ho' : out.length + 300000 * (post.length + 1) < 3900000000000 := by simpa using ho
    have hm := hs m (by simp)
    have hml := bytesM_len hm
    have ih := bytes_l4 post (pre ++ [m]) n (out ++ bytesM m) (by simpa using hn) (by rw [← app_mid]; exact hb) (fun q hq => hs q (by simp [hq])) (by rw [List.length_append]; omega)
    rw [← app_mid] at ih
    rw [node_Bytes_l4_succ, node_Bytes_l4_step, lt_mid, cond_true, gd_t in_mid, rd_mid, Bytes_eq]
    simp only [bytesV, hm, cond_true]
    rw [gd_t (hfits (by show _ < _; omega)), at_len pre m (by simp; omega)]
    show node_Bytes_l4 NN n (pre ++ m :: post) _ _ (out ++ bytesM m) = _
    rw [ih]
    simp
def bytesN (n : Nd) : List Int :=
  bif n.2.2.1.isEmpty then 76 :: (bytes (n.1.length : Int) 4 ++ n.1.flatMap pairE) else
  78 :: (bytes (n.2.2.1.length : Int) 4 ++ (n.2.2.1.flatMap kidE ++ (n.2.1.flatMap textB ++ (n.2.2.2.1.flatMap sumE ++ (bytes (n.2.2.2.2.length : Int) 4 ++ n.2.2.2.2.flatMap bytesM)))))
theorem flat_len {α : Type} (f : α → List Int) (k : Nat) : ∀ (l : List α), (∀ x ∈ l, (f x).length ≤ k) → (l.flatMap f).length ≤ k * l.length
  | [], _ => by simp
  | x :: l, h => by
    have h1 := h x (by simp)
    have h2 := flat_len f k l (fun y hy => h y (by simp [hy]))
    rw [List.flatMap_cons, List.length_append, List.length_cons, Nat.mul_succ]
    omega
abbrev PivS (n : Nd) : Prop := ∀ p ∈ n.2.1, p.length < 65536
theorem Bytes_eq10 {n : Nd} (h : SmallN n) (hp : PivS n) : node_Bytes NN n = some (bif valB n allS then bytesN n else []) := by
  unfold node_Bytes
  rw [nValid_eq h allS]
  simp only
  cases hv : valB n allS
  · rfl
  · simp only [Bool.not_true, cond_false, cond_true]
    unfold valB at hv
    unfold bytesN
    rw [isE]
    cases hk : n.2.2.1.isEmpty
    · rw [hk] at hv
      simp only [cond_false, innB, Bool.and_eq_true] at hv ⊢
      obtain ⟨_, _, _, hm⟩ := hv
      have hm : ∀ m ∈ n.2.2.2.2, vldB m = true := fun m hmm => by
        have := List.all_eq_true.1 hm m hmm
        simp only [msgB, Bool.and_eq_true] at this
        exact this.1
      obtain ⟨s1, s2, s3, s4, s5⟩ := h
      have l0 := flat_len kidE 4 n.2.2.1 (fun x _ => by rw [bytes_len]; omega)
      have l1 := flat_len textB 65538 n.2.1 (fun x hx => by have := hp x hx; rw [textB_len]; omega)
      have l3 := flat_len sumE 32 n.2.2.2.1 (fun x _ => by rw [sumE_len]; omega)
      rw [nnum4 _ _ (by show _ < _; simp)]
      simp only
      have a0 := bytes_l0 n.1 n.2.1 n.2.2.1 n.2.2.2.1 n.2.2.2.2 n.2.2.1 [] NN ([78] ++ bytes (n.2.2.1.length : Int) 4) (by simp only [NN]; omega) (by simpa using s3) (by simp [bytes_len]; omega)
      simp only [List.nil_append, List.length_nil] at a0
      rw [show ((0 : Nat) : Int) = 0 from rfl] at a0
      rw [a0]
      simp only
      have a1 := bytes_l1 n.1 n.2.1 n.2.2.1 n.2.2.2.1 n.2.2.2.2 n.2.1 [] NN ([78] ++ bytes (n.2.2.1.length : Int) 4 ++ n.2.2.1.flatMap kidE) (by simp only [NN]; omega) (by simpa using s2) hp (by rw [List.length_append, List.length_append, bytes_len]; simp only [List.length_cons, List.length_nil]; omega)
      simp only [List.nil_append, List.length_nil] at a1
      rw [show ((0 : Nat) : Int) = 0 from rfl] at a1
      rw [a1]
      simp only
      have a3 := bytes_l3 n.1 n.2.1 n.2.2.1 n.2.2.2.1 n.2.2.2.2 n.2.2.2.1 [] NN ([78] ++ bytes (n.2.2.1.length : Int) 4 ++ n.2.2.1.flatMap kidE ++ n.2.1.flatMap textB) (by simp only [NN]; omega) (by simpa using s4) (by rw [List.length_append, List.length_append, List.length_append, bytes_len]; simp only [List.length_cons, List.length_nil]; omega)
      simp only [List.nil_append, List.length_nil] at a3
      rw [show ((0 : Nat) : Int) = 0 from rfl] at a3
      rw [a3]
      simp only
      rw [nnum4 _ _ (by show _ < _; simp only [List.length_append, bytes_len, List.length_cons, List.length_nil]; omega)]
      simp only
      have a4 := bytes_l4 n.2.2.2.2 [] NN ([78] ++ bytes (n.2.2.1.length : Int) 4 ++ n.2.2.1.flatMap kidE ++ n.2.1.flatMap textB ++ n.2.2.2.1.flatMap sumE ++ bytes (n.2.2.2.2.length : Int) 4) (by simp only [NN]; omega) (by simpa using s5) hm (by simp only [List.length_append, bytes_len, List.length_cons, List.length_nil]; omega)
      simp only [List.nil_append, List.length_nil] at a4
      rw [show ((0 : Nat) : Int) = 0 from rfl] at a4
      rw [a4]
      simp
    · rw [hk] at hv
      simp only [cond_true, leafB, Bool.and_eq_true] at hv ⊢
      have hs : ∀ p ∈ n.1, storB p = true := fun p hpp => by
        have := List.all_eq_true.1 hv.2.2 p hpp
        simp only [pairB, Bool.and_eq_true] at this
        exact this.1
      have s1 := h.1
      rw [nnum4 _ _ (by show _ < _; simp)]
      simp only
      have a := bytes_l2 n.1 [] NN ([76] ++ bytes (n.1.length : Int) 4) (by simp only [NN]; omega) (by simpa using s1) hs (by simp [bytes_len]; omega)
      simp only [List.nil_append, List.length_nil] at a
      rw [show ((0 : Nat) : Int) = 0 from rfl] at a
      rw [a]
      simp
end Ds
