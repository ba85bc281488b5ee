/- NodeBytes: a node is read from its bytes; nodes with the same bytes are the same; what is accepted are the bytes of a valid node. -/
import Derived.Test.YtpgikdaeicidaaaGreatDoorDsSame
set_option linter.all false
namespace Ds
open Go Go.Dv
set_option maxRecDepth 100000
set_option linter.unusedVariables false
theorem sameE : ref10_Same NN E0 E0 = some true := by
  rw [same10 ⟨by simp, by simp, by simp, by simp, by simp⟩, decide_eq_true rfl]
theorem acc_facts {c : List Int} (hb : Byts c) (hl : c.length < 30000) :
    (node_Parse NN c = some (E0, 100)) ∨ ∃ q, node_Parse NN c = some (q, 0) ∧ ref10_Valid NN q ([], []) = some true ∧ node_Bytes NN q = some c := by
  rcases parse_acc hb hl with h | ⟨q, h1, h2, h3, h4, h5⟩
  · exact .inl h
  · exact .inr ⟨q, h1, (rVal_eq h2 allS).trans (by rw [h4]), by rw [Bytes_eq10 h2 h3, h4, cond_true, h5]⟩
theorem bytes_l1b {a b : List Int} (ok : Bool) (ha : Byts a) (hb : Byts b) (la : a.length < 30000) (lb : b.length < 30000) : law10_NodeBytes_l1 NN NN ok 0 a b = some (.inr (ok, ())) := by
  have z2 : ∀ n, law10_NodeBytes_l1 NN (n + 1) ok 2 a b = some (.inr (ok, ())) := fun n => by
    rw [law10_NodeBytes_l1_succ]; rfl
  have w1 : IntKind.wrap .i64 ((0 : Int) + 1) = 1 := by decide
  have w2 : IntKind.wrap .i64 ((1 : Int) + 1) = 2 := by decide
  have z1 : ∀ n, law10_NodeBytes_l1 NN (n + 2) ok 1 a b = some (.inr (ok, ())) := fun n => by
    rw [law10_NodeBytes_l1_succ]
    unfold law10_NodeBytes_l1_step
    rw [show decide ((1 : Int) < 2) = true from rfl, show eqi (1 : Int) 1 = true from rfl]
    simp only [cond_true]
    rcases acc_facts hb lb with h | ⟨q, h1, h2, h3⟩
    · rw [h]
      simp only
      rw [show eqi (100 : Int) 0 = false from rfl, show eqi (100 : Int) 100 = true from rfl]
      simp only [cond_false, cond_true, Bool.not_false, Bool.not_true]
      rw [sameE]
      simp only [law10_NodeBytes_p3, law10_NodeBytes_p2, Bool.not_true, cond_false, w2]
      exact z2 n
    · rw [h1]
      simp only
      rw [show eqi (0 : Int) 0 = true from rfl]
      simp only [cond_true]
      rw [h2]
      simp only [Bool.not_true, cond_false]
      rw [h3]
      simp only
      rw [SameB]
      simp only [Bool.not_true, cond_false, law10_NodeBytes_p3, law10_NodeBytes_p2, w2]
      exact z2 n
  have e : NN = (99999999997 + 2) + 1 := rfl
  have z0 : ∀ n, law10_NodeBytes_l1 NN (n + 2 + 1) ok 0 a b = some (.inr (ok, ())) := fun n => by
    rw [law10_NodeBytes_l1_succ]
    unfold law10_NodeBytes_l1_step
    rw [show decide ((0 : Int) < 2) = true from rfl, show eqi (0 : Int) 1 = false from rfl, show eqi (0 : Int) 0 = true from rfl]
    simp only [cond_true, cond_false]
    rcases acc_facts ha la with h | ⟨q, h1, h2, h3⟩
    · rw [h]
      simp only
      rw [show eqi (100 : Int) 0 = false from rfl, show eqi (100 : Int) 100 = true from rfl]
      simp only [cond_false, cond_true, Bool.not_false, Bool.not_true]
      rw [sameE]
      simp only [law10_NodeBytes_p3, law10_NodeBytes_p2, Bool.not_true, cond_false, w1]
      exact z1 n
    · rw [h1]
      simp only
      rw [show eqi (0 : Int) 0 = true from rfl]
      simp only [cond_true]
      rw [h2]
      simp only [Bool.not_true, cond_false]
      rw [h3]
      simp only
      rw [SameB]
      simp only [Bool.not_true, cond_false, law10_NodeBytes_p3, law10_NodeBytes_p2, w1]
      exact z1 n
  have := z0 99999999997
  exact this
theorem bytesN_inj {n m : Nd} (hn : GoodN n) (hm : GoodN m) : bytesN n = bytesN m ↔ n = m := by
  constructor
  · intro e
    have h := parse_own hn
    rw [e, parse_own hm] at h
    exact ((Prod.mk.inj (Option.some.inj h)).1).symm
  · rintro rfl; rfl
theorem plainBytes10 {R : Nat} (hR : R ≤ 20000000000) (x : V_a2_ref10_Raw) (w : V_a2_uint16) (raw : List Int) (hx : okShU R (.val T_a2_ref10_Raw) x) (hw : okShU R (.val T_a2_uint16) w) (hr : okShU R (.list (.int .u8)) raw) : law10_NodeBytes NN x w raw = some true := by
  have mk : ∀ (y : V_ref10_Raw), okTU R T_ref10_Raw y → ∃ n, ref10_Made NN y = some n ∧ GoodN n := fun y hy => by
    have hvs : y.2.2.1.length ≤ 20000000000 := by
      have h := hy.2.2.1.1
      simp only [Ty.bytes] at h
      have : y.2.2.1.length * 1 ≤ R := h
      omega
    exact made_ok10 (okTU_mono (by simp only [reachBytes]; omega) T_ref10_Raw y hy) hvs
  obtain ⟨n, h1, hn⟩ := mk x.1 hx.1
  obtain ⟨m, h2, hm⟩ := mk x.2 hx.2
  have hb : Byts raw := fun b hb => by
    obtain ⟨j, hj⟩ := List.getElem?_of_mem hb
    exact u8_of_wf (hr.2 j b hj)
  have hi : 0 ≤ w.1 ∧ w.1 < 65536 := by
    have h : (Lit.int .u16 w.1).wf = true := hw.1
    simp [Lit.wf, IntKind.min, IntKind.max, IntKind.signed, IntKind.bits] at h
    omega
  have ln := good_len hn
  have hB : node_Bytes NN n = some (bytesN n) := by rw [Bytes_eq10 hn.small (good_piv hn), hn.val]; rfl
  have hB2 : node_Bytes NN m = some (bytesN m) := by rw [Bytes_eq10 hm.small (good_piv hm), hm.val]; rfl
  unfold law10_NodeBytes
  rw [sanity10]
  simp only
  by_cases h100 : (100 : Int) < (raw.length : Int)
  · rw [bif_t (by simpa using h100)]
  · rw [bif_f (by simpa using h100), h1]
    simp only
    rw [h2]
    simp only
    rw [hB]
    simp only
    rw [hB2]
    simp only
    rw [parse_own hn]
    simp only
    rw [show eqi (0 : Int) 0 = true from rfl]
    simp only [Bool.not_true, cond_false]
    rw [same10 hn.small, decide_eq_true rfl]
    simp only [Bool.not_true, cond_false]
    have hs : ref05_SameBytes NN (bytesN n) (bytesN m) = some (decide (n = m)) := by
      simp only [ref05_SameBytes]
      congr 1
      by_cases e : n = m
      · rw [decide_eq_true e, e, eqs_self]
      · rw [decide_eq_false e]
        exact eqs_ne fun h => e ((bytesN_inj hn hm).1 (U_inj (byts_N n) (byts_N m) h))
    rw [hs]
    simp only
    rw [same10 hn.small]
    simp only
    rw [show eqb (decide (n = m)) (decide (n = m)) = true by cases decide (n = m) <;> rfl]
    simp only [Bool.not_true, cond_false]
    rw [bif_f (eqi_ne (by omega))]
    unfold law10_NodeBytes_p0
    rw [gd_t (fits_p (by omega) (by omega)), eqi_ne (by omega), gd_t (by rfl), w64 (n := w.1) (by omega) (by omega)]
    have ht := tmod_b (a := w.1) (b := ((bytesN n).length : Int)) hi.1 (by omega)
    generalize Int.tmod w.1 ((bytesN n).length : Int) = t at *
    obtain ⟨j, rfl⟩ : ∃ j : Nat, t = (j : Int) := ⟨t.toNat, by omega⟩
    simp only [List.nil_append]
    rw [gd_t (inB_t (by omega) (by omega))]
    have hset : Byts (setL (bytesN n) (j : Int) (IntKind.wrap .u8 w.2)) := fun y hy => by
      have hy : y ∈ (bytesN n).set (Int.toNat (j : Int)) (IntKind.wrap .u8 w.2) := hy
      rcases List.mem_or_eq_of_mem_set hy with h | h
      · exact byts_N n y h
      · subst h; exact wrap_u8
    rw [bytes_l1b true hset hb (by simp [setL]; omega) (by omega)]
end Ds
