/- node.Parse: total; it reads back what node.Bytes writes; what it accepts are the bytes of what it gives. -/
import Derived.Test.YtpgikdaeicidaaaGreatDoorDsParse
set_option linter.all false
namespace Ds
open Go Go.Dv
set_option maxRecDepth 100000
set_option linter.unusedVariables false
abbrev LR (α : Type) : Type := Option (Unit × (List α × ((List Int × Bool) × Unit)))
theorem list_tot {α : Type} {L : Nat → List Int → Bool → List α → LR α} (k : Int) (Q : α → Prop)
    (hstop : ∀ n b ok out, ((k ≤ (out.length : Int)) ∨ ok = false) → L (n + 1) b ok out = some ((), (out, ((b, ok), ()))))
    (hstep : ∀ n b out, Byts b → b.length < 40000 → (out.length : Int) < k → out.length < 50000 → ∃ v b' ok', L (n + 1) b true out = L n b' ok' (out ++ [v]) ∧ Byts b' ∧ b'.length ≤ b.length ∧ (ok' = true → b'.length + 1 ≤ b.length) ∧ Q v) :
    ∀ (n : Nat) (b : List Int) (ok : Bool) (out : List α), Byts b → b.length + out.length < 40000 → b.length + 1 < n →
      ∃ l b' ok', L n b ok out = some ((), (l, ((b', ok'), ()))) ∧ Byts b' ∧ b'.length ≤ b.length ∧ l.length ≤ out.length + b.length + 1 ∧ (ok' = true → ok = true) ∧ ∀ x ∈ l, x ∈ out ∨ Q x
  | 0, _, _, _, _, _, h => absurd h (Nat.not_lt_zero _)
  | n + 1, b, ok, out, hb, hl, hn => by
    by_cases hs : (k ≤ (out.length : Int)) ∨ ok = false
    · exact ⟨out, b, ok, hstop n b ok out hs, hb, Nat.le_refl _, by omega, fun h => h, fun x hx => .inl hx⟩
    · have hk : (out.length : Int) < k := by
        by_cases h : k ≤ (out.length : Int)
        · exact absurd (.inl h) hs
        · omega
      have ho : ok = true := by
        cases ok
        · exact absurd (.inr rfl) hs
        · rfl
      subst ho
      obtain ⟨v, b', ok', h1, h2, h3, h4, h5⟩ := hstep n b out hb (by omega) hk (by omega)
      cases ok' with
      | false =>
        cases n with
        | zero => omega
        | succ n =>
          refine ⟨out ++ [v], b', false, by rw [h1, hstop n b' false _ (.inr rfl)], h2, h3, by simp, (fun h => by cases h), fun x hx => ?_⟩
          rcases List.mem_append.1 hx with h | h
          · exact .inl h
          · simp at h; subst h; exact .inr h5
      | true =>
        have h4 := h4 rfl
        obtain ⟨l, b2, ok2, g1, g2, g3, g4, g5, g6⟩ := list_tot k Q hstop hstep n b' true (out ++ [v]) h2 (by simp; omega) (by omega)
        refine ⟨l, b2, ok2, by rw [h1, g1], g2, by omega, by simp at g4; omega, fun _ => rfl, fun x hx => ?_⟩
        rcases g6 x hx with h | h
        · rcases List.mem_append.1 h with h | h
          · exact .inl h
          · simp at h; subst h; exact .inr h5
        · exact .inr h
theorem list_fwd {α : Type} {L : Nat → List Int → Bool → List α → LR α} (k : Int) (enc : α → List Int) (G : α → Prop) (R : List Int → Prop)
    (hstop : ∀ n b ok out, ((k ≤ (out.length : Int)) ∨ ok = false) → L (n + 1) b ok out = some ((), (out, ((b, ok), ()))))
    (hstep : ∀ n v b out, G v → R b → (out.length : Int) < k → out.length < 50000 → L (n + 1) (enc v ++ b) true out = L n b true (out ++ [v])) :
    ∀ (l out : List α) (n : Nat) (rest : List Int), (k = ((out.length + l.length : Nat) : Int)) → l.length < n → out.length + l.length < 50000 → (∀ v ∈ l, G v) → (∀ t, t <:+ l → R (t.flatMap enc ++ rest)) → L n (l.flatMap enc ++ rest) true out = some ((), (out ++ l, ((rest, true), ())))
  | [], out, n + 1, rest, hk, _, _, _, _ => by
    rw [List.flatMap_nil, List.nil_append, hstop n rest true out (.inl (by rw [hk]; simp))]; simp
  | v :: l, out, n + 1, rest, hk, hn, hl, hg, hr => by
    have hl' : out.length + (l.length + 1) < 50000 := by simpa using hl
    rw [List.flatMap_cons, List.append_assoc, hstep n v _ out (hg v (by simp)) (hr l (List.suffix_cons _ _)) (by rw [hk]; simp; omega) (by omega)]
    have := list_fwd k enc G R hstop hstep l (out ++ [v]) n rest (by rw [hk]; simp; omega) (by simpa using hn) (by simp; omega) (fun x hx => hg x (by simp [hx])) (fun t ht => hr t (ht.trans (List.suffix_cons _ _)))
    rw [this]
    simp
theorem lp_stop (k : Int) : ∀ n b ok (out : List Pr), ((k ≤ (out.length : Int)) ∨ ok = false) → node_list_api_Pair_m__node_reader_pair_l0 NN (n + 1) k b ok out = some ((), (out, ((b, ok), ()))) := fun n b ok out h => by
  rw [node_list_api_Pair_m__node_reader_pair_l0_succ, node_list_api_Pair_m__node_reader_pair_l0_step]
  rcases h with h | h
  · rw [bif_f (by simpa using h)]
  · rw [h]; cases decide ((out.length : Int) < k) <;> rfl
theorem li_stop (k : Int) : ∀ n b ok (out : List Int), ((k ≤ (out.length : Int)) ∨ ok = false) → node_list_int_m__node_reader_four_l0 NN (n + 1) k b ok out = some ((), (out, ((b, ok), ()))) := fun n b ok out h => by
  rw [node_list_int_m__node_reader_four_l0_succ, node_list_int_m__node_reader_four_l0_step]
  rcases h with h | h
  · rw [bif_f (by simpa using h)]
  · rw [h]; cases decide ((out.length : Int) < k) <;> rfl
theorem lt_stop (k : Int) : ∀ n b ok (out : List B), ((k ≤ (out.length : Int)) ∨ ok = false) → node_list_string_m__node_reader_text_l0 NN (n + 1) k b ok out = some ((), (out, ((b, ok), ()))) := fun n b ok out h => by
  rw [node_list_string_m__node_reader_text_l0_succ, node_list_string_m__node_reader_text_l0_step]
  rcases h with h | h
  · rw [bif_f (by simpa using h)]
  · rw [h]; cases decide ((out.length : Int) < k) <;> rfl
theorem ls_stop (k : Int) : ∀ n b ok (out : List V_api_Sum), ((k ≤ (out.length : Int)) ∨ ok = false) → node_list_api_Sum_m__node_reader_sum_l0 NN (n + 1) k b ok out = some ((), (out, ((b, ok), ()))) := fun n b ok out h => by
  rw [node_list_api_Sum_m__node_reader_sum_l0_succ, node_list_api_Sum_m__node_reader_sum_l0_step]
  rcases h with h | h
  · rw [bif_f (by simpa using h)]
  · rw [h]; cases decide ((out.length : Int) < k) <;> rfl
theorem lm_stop (k : Int) : ∀ n b ok (out : List Mg), ((k ≤ (out.length : Int)) ∨ ok = false) → node_list_api_Msg_m__node_reader_msg_l0 NN (n + 1) k b ok out = some ((), (out, ((b, ok), ()))) := fun n b ok out h => by
  rw [node_list_api_Msg_m__node_reader_msg_l0_succ, node_list_api_Msg_m__node_reader_msg_l0_step]
  rcases h with h | h
  · rw [bif_f (by simpa using h)]
  · rw [h]; cases decide ((out.length : Int) < k) <;> rfl
theorem lp_step {k : Int} {n : Nat} {b b' : List Int} {ok' : Bool} {out : List Pr} {v : Pr} (hk : (out.length : Int) < k) (hl : out.length < 50000) (h : node_reader_pair_m NN b true = RS v b' ok') : node_list_api_Pair_m__node_reader_pair_l0 NN (n + 1) k b true out = node_list_api_Pair_m__node_reader_pair_l0 NN n k b' ok' (out ++ [v]) := by
  rw [node_list_api_Pair_m__node_reader_pair_l0_succ, node_list_api_Pair_m__node_reader_pair_l0_step, bif_t (by simpa using hk), cond_true, h]
  simp only
  rw [gd_t (fits_p (by omega) (by omega))]
theorem li_step {k : Int} {n : Nat} {b b' : List Int} {ok' : Bool} {out : List Int} {v : Int} (hk : (out.length : Int) < k) (hl : out.length < 50000) (h : node_reader_four_m NN b true = RS v b' ok') : node_list_int_m__node_reader_four_l0 NN (n + 1) k b true out = node_list_int_m__node_reader_four_l0 NN n k b' ok' (out ++ [v]) := by
  rw [node_list_int_m__node_reader_four_l0_succ, node_list_int_m__node_reader_four_l0_step, bif_t (by simpa using hk), cond_true, h]
  simp only
  rw [gd_t (fits_p (by omega) (by omega))]
theorem lt_step {k : Int} {n : Nat} {b b' : List Int} {ok' : Bool} {out : List B} {v : B} (hk : (out.length : Int) < k) (hl : out.length < 50000) (h : node_reader_text_m NN b true = RS v b' ok') : node_list_string_m__node_reader_text_l0 NN (n + 1) k b true out = node_list_string_m__node_reader_text_l0 NN n k b' ok' (out ++ [v]) := by
  rw [node_list_string_m__node_reader_text_l0_succ, node_list_string_m__node_reader_text_l0_step, bif_t (by simpa using hk), cond_true, h]
  simp only
  rw [gd_t (fits_p (by omega) (by omega))]
theorem ls_step {k : Int} {n : Nat} {b b' : List Int} {ok' : Bool} {out : List V_api_Sum} {v : Int × (Int × (Int × Int))} (hk : (out.length : Int) < k) (hl : out.length < 50000) (h : node_reader_sum_m NN b true = RS v b' ok') : node_list_api_Sum_m__node_reader_sum_l0 NN (n + 1) k b true out = node_list_api_Sum_m__node_reader_sum_l0 NN n k b' ok' (out ++ [((v.1, v.2.1), v.2.2)]) := by
  rw [node_list_api_Sum_m__node_reader_sum_l0_succ, node_list_api_Sum_m__node_reader_sum_l0_step, bif_t (by simpa using hk), cond_true, h]
  simp only
  rw [gd_t (fits_p (by simp; omega) (by omega))]
theorem lm_step {k : Int} {n : Nat} {b b' : List Int} {ok' : Bool} {out : List Mg} {v : Int × (B × (B × (B × (B × (B × (B × Int))))))} (hk : (out.length : Int) < k) (hl : out.length < 50000) (h : node_reader_msg_m NN b true = RS v b' ok') : node_list_api_Msg_m__node_reader_msg_l0 NN (n + 1) k b true out = node_list_api_Msg_m__node_reader_msg_l0 NN n k b' ok' (out ++ [(v.1, (v.2.1, (v.2.2.1, ((v.2.2.2.1, v.2.2.2.2.1), v.2.2.2.2.2))))]) := by
  rw [node_list_api_Msg_m__node_reader_msg_l0_succ, node_list_api_Msg_m__node_reader_msg_l0_step, bif_t (by simpa using hk), cond_true, h]
  simp only
  rw [gd_t (fits_p (by simp; omega) (by omega))]
abbrev LTot {α : Type} (f : LR α) (b : List Int) (Q : α → Prop) : Prop := ∃ l b' ok', f = some ((), (l, ((b', ok'), ()))) ∧ Byts b' ∧ b'.length ≤ b.length ∧ l.length ≤ b.length + 1 ∧ ∀ x ∈ l, Q x
theorem lp_tot (k : Int) (b : List Int) (ok : Bool) (hb : Byts b) (hl : b.length < 40000) : LTot (node_list_api_Pair_m__node_reader_pair NN k b ok) b (fun _ => True) := by
  obtain ⟨l, b', ok', h1, h2, h3, h4, _, _⟩ := list_tot (L := fun n b ok out => node_list_api_Pair_m__node_reader_pair_l0 NN n k b ok out) k (fun _ => True) (lp_stop k) (fun n b out hb hl hk ho => by
    obtain ⟨v, b', ok', g1, g2, g3, g4, _⟩ := pair_tot b true hb
    exact ⟨v, b', ok', lp_step hk ho g1, g2, g3, fun e => (by have := (g4 e).2; omega), trivial⟩) NN b ok [] hb (by simpa using hl) (by simp only [NN]; omega)
  simp only [List.length_nil] at h4
  exact ⟨l, b', ok', by unfold node_list_api_Pair_m__node_reader_pair; simp only [h1], h2, h3, by omega, fun _ _ => trivial⟩
theorem li_tot (k : Int) (b : List Int) (ok : Bool) (hb : Byts b) (hl : b.length < 40000) : LTot (node_list_int_m__node_reader_four NN k b ok) b (fun _ => True) := by
  obtain ⟨l, b', ok', h1, h2, h3, h4, _, _⟩ := list_tot (L := fun n b ok out => node_list_int_m__node_reader_four_l0 NN n k b ok out) k (fun _ => True) (li_stop k) (fun n b out hb hl hk ho => by
    obtain ⟨v, b', ok', g1, g2, g3, g4, _⟩ := four_tot b true hb
    exact ⟨v, b', ok', li_step hk ho g1, g2, g3, fun e => (by have := (g4 e).2; omega), trivial⟩) NN b ok [] hb (by simpa using hl) (by simp only [NN]; omega)
  simp only [List.length_nil] at h4
  exact ⟨l, b', ok', by unfold node_list_int_m__node_reader_four; simp only [h1], h2, h3, by omega, fun _ _ => trivial⟩
theorem lt_tot (k : Int) (b : List Int) (ok : Bool) (hb : Byts b) (hl : b.length < 40000) : LTot (node_list_string_m__node_reader_text NN k b ok) b (fun s : B => s.length < 65536) := by
  obtain ⟨l, b', ok', h1, h2, h3, h4, _, h6⟩ := list_tot (L := fun n b ok out => node_list_string_m__node_reader_text_l0 NN n k b ok out) k (fun s : B => s.length < 65536) (lt_stop k) (fun n b out hb hl hk ho => by
    obtain ⟨v, b', ok', g1, g2, g3, g4, g5⟩ := text_tot b true hb
    exact ⟨v, b', ok', lt_step hk ho g1, g2, g3, fun e => (by have := (g4 e).2; omega), g5⟩) NN b ok [] hb (by simpa using hl) (by simp only [NN]; omega)
  simp only [List.length_nil] at h4
  exact ⟨l, b', ok', by unfold node_list_string_m__node_reader_text; simp only [h1], h2, h3, by omega, fun x hx => by
    rcases h6 x hx with h | h
    · cases h
    · exact h⟩
theorem ls_tot (k : Int) (b : List Int) (ok : Bool) (hb : Byts b) (hl : b.length < 40000) : LTot (node_list_api_Sum_m__node_reader_sum NN k b ok) b (fun _ => True) := by
  obtain ⟨l, b', ok', h1, h2, h3, h4, _, _⟩ := list_tot (L := fun n b ok out => node_list_api_Sum_m__node_reader_sum_l0 NN n k b ok out) k (fun _ => True) (ls_stop k) (fun n b out hb hl hk ho => by
    obtain ⟨v, b', ok', g1, g2, g3, g4, _⟩ := sum_tot b true hb
    exact ⟨_, b', ok', ls_step hk ho g1, g2, g3, fun e => (by have := (g4 e).2; omega), trivial⟩) NN b ok [] hb (by simpa using hl) (by simp only [NN]; omega)
  simp only [List.length_nil] at h4
  exact ⟨l, b', ok', by unfold node_list_api_Sum_m__node_reader_sum; simp only [h1], h2, h3, by omega, fun _ _ => trivial⟩
theorem lm_tot (k : Int) (b : List Int) (ok : Bool) (hb : Byts b) (hl : b.length < 40000) : LTot (node_list_api_Msg_m__node_reader_msg NN k b ok) b (fun _ => True) := by
  obtain ⟨l, b', ok', h1, h2, h3, h4, _, _⟩ := list_tot (L := fun n b ok out => node_list_api_Msg_m__node_reader_msg_l0 NN n k b ok out) k (fun _ => True) (lm_stop k) (fun n b out hb hl hk ho => by
    obtain ⟨v, b', ok', g1, g2, g3, g4, _⟩ := msg_tot b true hb (by omega)
    exact ⟨_, b', ok', lm_step hk ho g1, g2, g3, fun e => (by have := (g4 e).2; omega), trivial⟩) NN b ok [] hb (by simpa using hl) (by simp only [NN]; omega)
  simp only [List.length_nil] at h4
  exact ⟨l, b', ok', by unfold node_list_api_Msg_m__node_reader_msg; simp only [h1], h2, h3, by omega, fun _ _ => trivial⟩
theorem lp_fwd {l : List Pr} (hl : l.length < 50000) (hg : ∀ p ∈ l, storB p = true) (rest : List Int) : node_list_api_Pair_m__node_reader_pair NN (l.length : Int) (l.flatMap pairE ++ rest) true = some ((), (l, ((rest, true), ()))) := by
  have h := list_fwd (L := fun n b ok out => node_list_api_Pair_m__node_reader_pair_l0 NN n (l.length : Int) b ok out) (l.length : Int) pairE (fun p => storB p = true) (fun _ => True) (lp_stop _) (fun n v b out hv _ hk ho => lp_step hk ho (pair_fwd hv b)) l [] NN rest (by simp) (by simp only [NN]; omega) (by simpa using hl) hg (fun _ _ => trivial)
  unfold node_list_api_Pair_m__node_reader_pair
  simp only [h, List.nil_append]
theorem li_fwd {l : List Int} (hl : l.length < 50000) (hg : ∀ k ∈ l, inR k 0 4095 = true) (rest : List Int) : node_list_int_m__node_reader_four NN (l.length : Int) (l.flatMap kidE ++ rest) true = some ((), (l, ((rest, true), ()))) := by
  have h := list_fwd (L := fun n b ok out => node_list_int_m__node_reader_four_l0 NN n (l.length : Int) b ok out) (l.length : Int) kidE (fun k => inR k 0 4095 = true) (fun _ => True) (li_stop _) (fun n v b out hv _ hk ho => li_step hk ho (by have := inR_iff.1 hv; exact four_fwd (by omega) (by omega) b)) l [] NN rest (by simp) (by simp only [NN]; omega) (by simpa using hl) hg (fun _ _ => trivial)
  unfold node_list_int_m__node_reader_four
  simp only [h, List.nil_append]
theorem lt_fwd {l : List B} (hl : l.length < 50000) (hg : ∀ s ∈ l, s.length < 65536) (rest : List Int) : node_list_string_m__node_reader_text NN (l.length : Int) (l.flatMap textB ++ rest) true = some ((), (l, ((rest, true), ()))) := by
  have h := list_fwd (L := fun n b ok out => node_list_string_m__node_reader_text_l0 NN n (l.length : Int) b ok out) (l.length : Int) textB (fun s : B => s.length < 65536) (fun _ => True) (lt_stop _) (fun n v b out hv _ hk ho => lt_step hk ho (text_fwd hv b)) l [] NN rest (by simp) (by simp only [NN]; omega) (by simpa using hl) hg (fun _ _ => trivial)
  unfold node_list_string_m__node_reader_text
  simp only [h, List.nil_append]
theorem ls_fwd {l : List V_api_Sum} (hl : l.length < 50000) (hg : ∀ s ∈ l, sumB s = true) (rest : List Int) : node_list_api_Sum_m__node_reader_sum NN (l.length : Int) (l.flatMap sumE ++ rest) true = some ((), (l, ((rest, true), ()))) := by
  have h := list_fwd (L := fun n b ok out => node_list_api_Sum_m__node_reader_sum_l0 NN n (l.length : Int) b ok out) (l.length : Int) sumE (fun s => sumB s = true) (fun _ => True) (ls_stop _) (fun n v b out hv _ hk ho => ls_step hk ho (sum_fwd hv b)) l [] NN rest (by simp) (by simp only [NN]; omega) (by simpa using hl) hg (fun _ _ => trivial)
  unfold node_list_api_Sum_m__node_reader_sum
  simp only [h, List.nil_append]
theorem byts_flat {α : Type} (f : α → List Int) (hf : ∀ x, Byts (f x)) : ∀ l : List α, Byts (l.flatMap f)
  | [] => by simp [Byts]
  | x :: l => by rw [List.flatMap_cons]; exact (hf x).append (byts_flat f hf l)
theorem lm_fwd {l : List Mg} (hl : l.length < 50000) (hg : ∀ m ∈ l, vldB m = true) (rest : List Int) (hb : Byts rest) (hr : (l.flatMap bytesM ++ rest).length < 900000000) : node_list_api_Msg_m__node_reader_msg NN (l.length : Int) (l.flatMap bytesM ++ rest) true = some ((), (l, ((rest, true), ()))) := by
  have h := list_fwd (L := fun n b ok out => node_list_api_Msg_m__node_reader_msg_l0 NN n (l.length : Int) b ok out) (l.length : Int) bytesM (fun m => vldB m = true) (fun b => Byts b ∧ b.length < 900000000) (lm_stop _) (fun n v b out hv hR hk ho => lm_step hk ho (msg_fwd hv b hR.1 hR.2)) l [] NN rest (by simp) (by simp only [NN]; omega) (by simpa using hl) hg (fun t ht => ⟨(byts_flat bytesM byts_m t).append hb, by
    obtain ⟨p, rfl⟩ := ht
    simp only [List.flatMap_append, List.length_append] at hr ⊢
    omega⟩)
  unfold node_list_api_Msg_m__node_reader_msg
  simp only [h, List.nil_append]
end Ds
