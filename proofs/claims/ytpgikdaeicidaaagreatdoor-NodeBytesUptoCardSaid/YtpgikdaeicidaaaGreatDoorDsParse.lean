/- Reading a node from bytes, as node.Parse does. -/
import Derived.Test.YtpgikdaeicidaaaGreatDoorDsBytes
set_option linter.all false
namespace Ds
open Go Go.Dv
set_option maxRecDepth 100000
set_option linter.unusedVariables false
theorem or_step8 {n x : Int} (h0 : 0 ≤ n) (h1 : n < 18014398509481984) (hx0 : 0 ≤ x) (hx : x < 256) :
    IntKind.wrap .i64 (((BitVec.ofInt (IntKind.bits .i64) (IntKind.wrap .i64 (n * 2 ^ min (Int.toNat (8 : Int)) (IntKind.bits .i64))) ||| BitVec.ofInt (IntKind.bits .i64) (IntKind.wrap .i64 x)).toNat : Nat) : Int) = n * 256 + x := by
  have e0 : (2 : Int) ^ min (Int.toNat (8 : Int)) (IntKind.bits .i64) = 256 := by decide
  have e1 : IntKind.wrap .i64 (n * 256) = n * 256 := w64 (by omega) (by omega)
  have e2 : IntKind.wrap .i64 x = x := w64 (by omega) (by omega)
  have b : IntKind.bits .i64 = 64 := rfl
  rw [e0, e1, e2, b, BitVec.toNat_or]
  obtain ⟨a, rfl⟩ := Int.eq_ofNat_of_zero_le h0
  obtain ⟨c, rfl⟩ := Int.eq_ofNat_of_zero_le hx0
  have t1 : (BitVec.ofInt 64 ((a : Int) * 256)).toNat = a * 256 := by
    rw [BitVec.toNat_ofInt]; omega
  have t2 : (BitVec.ofInt 64 (c : Int)).toNat = c := by
    rw [BitVec.toNat_ofInt]; omega
  have hor : a * 256 ||| c = a * 256 + c := by
    have := Nat.two_pow_add_eq_or_of_lt (i := 8) (b := c) (by omega) a
    rw [show (2 : Nat) ^ 8 = 256 from rfl] at this
    rw [Nat.mul_comm a 256, ← this]
  rw [t1, t2, hor, w64 (by omega) (by omega)]
  omega
def orS (n x : Int) : Int := IntKind.wrap .i64 (((BitVec.ofInt (IntKind.bits .i64) (IntKind.wrap .i64 (n * 2 ^ min (Int.toNat (8 : Int)) (IntKind.bits .i64))) ||| BitVec.ofInt (IntKind.bits .i64) (IntKind.wrap .i64 x)).toNat : Nat) : Int)
theorem F_ge : ∀ {l : List Int} {a : Int}, Byts l → 0 ≤ a → a ≤ l.foldl (fun n x => n * 256 + x) a
  | [], _, _, _ => Int.le_refl _
  | x :: l, a, h, ha => by
    have hx := h x (by simp)
    have := F_ge (l := l) (a := a * 256 + x) (fun y hy => h y (by simp [hy])) (by omega)
    rw [List.foldl_cons]
    omega
theorem or_fold : ∀ {l : List Int} {a : Int}, Byts l → 0 ≤ a → l.foldl (fun n x => n * 256 + x) a < 4611686018427387904 → l.foldl orS a = l.foldl (fun n x => n * 256 + x) a
  | [], _, _, _, _ => rfl
  | x :: l, a, h, ha, hl => by
    have hx := h x (by simp)
    have hb : Byts l := fun y hy => h y (by simp [hy])
    rw [List.foldl_cons] at hl
    have hg := F_ge (l := l) (a := a * 256 + x) hb (by omega)
    rw [List.foldl_cons, List.foldl_cons, show orS a x = a * 256 + x from or_step8 ha (by omega) hx.1 hx.2]
    exact or_fold hb (by omega) hl
abbrev RS {α : Type} (v : α) (b : List Int) (ok : Bool) : Option (α × ((List Int × Bool) × Unit)) := some (v, ((b, ok), ()))
structure Rd {α : Type} (f : Option (α × ((List Int × Bool) × Unit))) (b : List Int) (ok : Bool) (k : Nat) (Q : α → Prop) : Prop where
  ex : ∃ v b' ok', f = RS v b' ok' ∧ Byts b' ∧ b'.length ≤ b.length ∧ (ok' = true → ok = true ∧ b'.length + k ≤ b.length) ∧ Q v
theorem take_tot {n : Int} (hn : 0 ≤ n) (b : List Int) (ok : Bool) (hb : Byts b) : ∃ l b' ok', node_reader_take_m NN n b ok = RS l b' ok' ∧ Byts l ∧ Byts b' ∧ (l.length : Int) ≤ n ∧ b'.length ≤ b.length ∧ (ok' = true → ok = true ∧ (b'.length : Int) + n = b.length) := by
  have zero : ∃ l b' ok', (let x1 := (bif decide ((8 : Int) < n) then (8 : Int) else n)
      gd ((decide (0 ≤ x1) && decide (x1 ≤ x1)) && (decide (x1 < maxB) && decide (x1 * 1 < maxB))) (some ((List.replicate (Int.toNat x1) (0 : Int)), ((b, false), ())))) = RS l b' ok' ∧ Byts l ∧ Byts b' ∧ (l.length : Int) ≤ n ∧ b'.length ≤ b.length ∧ (ok' = true → ok = true ∧ (b'.length : Int) + n = b.length) := by
    have hx : ∃ x, (bif decide ((8 : Int) < n) then (8 : Int) else n) = x ∧ 0 ≤ x ∧ x ≤ n ∧ x ≤ 8 := by
      by_cases h : (8 : Int) < n
      · exact ⟨8, by simp [h], by omega, by omega, by omega⟩
      · exact ⟨n, by simp [h], by omega, by omega, by omega⟩
    obtain ⟨x, e, h0, h1, h2⟩ := hx
    rw [e]
    simp only
    have hm : ((maxB : Nat) : Int) = 4398046511104 := rfl
    rw [gd_t (by simp only [hm, Bool.and_eq_true, decide_eq_true_eq]; exact ⟨⟨h0, Int.le_refl _⟩, by omega, by omega⟩)]
    exact ⟨_, _, _, rfl, fun y hy => by rw [List.eq_of_mem_replicate hy]; omega, hb, by simp; omega, Nat.le_refl _, fun h => by cases h⟩
  unfold node_reader_take_m
  cases ok
  · exact zero
  · rw [bif_f (show (!true) = false from rfl)]
    by_cases h : (b.length : Int) < n
    · rw [bif_t (by simpa using h)]; exact zero
    · rw [bif_f (by simpa using h), gd_t (by simp; omega), gd_t (by simp; omega)]
      have c1 : cut2 b (0 : Int) n = b.take n.toNat := by simp [cut2]
      have c2 : cut2 b n (b.length : Int) = b.drop n.toNat := by
        simp only [cut2, Int.toNat_natCast]
        exact List.take_of_length_le (by simp)
      rw [c1, c2]
      exact ⟨_, _, _, rfl, hb.take _, hb.drop _, by simp; omega, by simp, fun _ => ⟨rfl, by simp; omega⟩⟩
theorem take_fwd (a rest : List Int) : node_reader_take_m NN (a.length : Int) (a ++ rest) true = RS a rest true := by
  unfold node_reader_take_m
  simp only [Bool.not_true, cond_false]
  rw [bif_f (by simp; try omega), gd_t (by simp; try omega), gd_t (by simp; try omega)]
  have c1 : cut2 (a ++ rest) (0 : Int) (a.length : Int) = a := by simp [cut2]
  have c2 : cut2 (a ++ rest) (a.length : Int) ((a ++ rest).length : Int) = rest := by
    simp only [cut2, Int.toNat_natCast]
    rw [List.drop_left]
    exact List.take_of_length_le (by simp)
  rw [c1, c2]
theorem nr_l0 (b : List Int) (ok : Bool) : ∀ (post pre : List Int) (n : Nat) (acc : Int), post.length < n → (pre ++ post).length ≤ 8 → node_reader_number_m_l0 NN n acc (pre ++ post) ((pre ++ post).length : Int) (pre.length : Int) b ok = RS (post.foldl orS acc) b ok
  | _, _, 0, _, h, _ => absurd h (Nat.not_lt_zero _)
  | [], pre, n + 1, acc, _, _ => by
    rw [node_reader_number_m_l0_succ, node_reader_number_m_l0_step, lt_end]; rfl
  | x :: post, pre, n + 1, acc, hn, hl => by
    have hl' : pre.length + (post.length + 1) ≤ 8 := by simpa using hl
    have ih := nr_l0 b ok post (pre ++ [x]) n (orS acc x) (by simpa using hn) (by rw [← app_mid]; exact hl)
    rw [← app_mid] at ih
    rw [node_reader_number_m_l0_succ, node_reader_number_m_l0_step, lt_mid, cond_true, gd_t in_mid, gd_p (by decide), rd_mid]
    simp only
    rw [wr_mid (q := x) (by omega)]
    exact ih
theorem num_tot (w : Nat) (hw : w ≤ 8) (b : List Int) (ok : Bool) (hb : Byts b) : Rd (node_reader_number_m NN (w : Int) b ok) b ok w (fun v => w ≤ 4 → 0 ≤ v ∧ v < 256 ^ w) := by
  obtain ⟨l, b', ok', h1, h2, h3, h4, h5, h6⟩ := take_tot (n := (w : Int)) (by omega) b ok hb
  have h := nr_l0 b' ok' l [] NN 0 (by simp only [NN]; omega) (by simp; omega)
  simp only [List.nil_append, List.length_nil] at h
  rw [show ((0 : Nat) : Int) = 0 from rfl] at h
  refine ⟨_, b', ok', by unfold node_reader_number_m; rw [h1]; simp only; rw [h], h3, h5, fun e => ⟨(h6 e).1, by have := (h6 e).2; omega⟩, fun w4 => ?_⟩
  have hr := rd_bound h2
  have hp : (256 : Int) ^ l.length ≤ 256 ^ w := by
    have := Nat.pow_le_pow_right (n := 256) (by omega) (show l.length ≤ w by omega)
    exact_mod_cast this
  have hp4 : (256 : Int) ^ w ≤ 256 ^ 4 := by
    have := Nat.pow_le_pow_right (n := 256) (by omega) w4
    exact_mod_cast this
  have h44 : (256 : Int) ^ 4 = 4294967296 := by decide
  have hlt : rdN l < 256 ^ w := by omega
  have e := or_fold (l := l) (a := 0) h2 (by omega) (by show rdN l < _; omega)
  rw [e]
  exact ⟨hr.1, hlt⟩
theorem num_fwd (w : Nat) (hw : w ≤ 8) {v : Int} (h0 : 0 ≤ v) (h1 : v < 256 ^ w) (h2 : v < 4611686018427387904) (rest : List Int) : node_reader_number_m NN (w : Int) (bytes v w ++ rest) true = RS v rest true := by
  have ht := take_fwd (bytes v w) rest
  rw [bytes_len] at ht
  have h := nr_l0 rest true (bytes v w) [] NN 0 (by rw [bytes_len]; simp only [NN]; omega) (by simp [bytes_len]; omega)
  simp only [List.nil_append, List.length_nil] at h
  rw [show ((0 : Nat) : Int) = 0 from rfl] at h
  have e : rdN (bytes v w) = v := by rw [rd_bytes w h0, Int.emod_eq_of_lt h0 h1]
  have e2 := or_fold (l := bytes v w) (a := 0) (byts_n v w) (by omega) (by show rdN _ < _; rw [e]; exact h2)
  unfold node_reader_number_m
  rw [ht]
  simp only
  rw [h, e2]
  show some (rdN _, _) = _
  rw [e]
theorem four_tot (b : List Int) (ok : Bool) (hb : Byts b) : Rd (node_reader_four_m NN b ok) b ok 4 (fun v => 0 ≤ v ∧ v < 4294967296) := by
  obtain ⟨v, b', ok', h1, h2, h3, h4, h5⟩ := num_tot 4 (by omega) b ok hb
  exact ⟨v, b', ok', by unfold node_reader_four_m; rw [show (4 : Int) = ((4 : Nat) : Int) from rfl, h1], h2, h3, h4, by have := h5 (by omega); have h44 : (256 : Int) ^ 4 = 4294967296 := by decide
                                                                                                                        omega⟩
theorem four_fwd {v : Int} (h0 : 0 ≤ v) (h1 : v < 4294967296) (rest : List Int) : node_reader_four_m NN (bytes v 4 ++ rest) true = RS v rest true := by
  unfold node_reader_four_m
  have h44 : (256 : Int) ^ 4 = 4294967296 := by decide
  rw [show (4 : Int) = ((4 : Nat) : Int) from rfl, num_fwd 4 (by omega) h0 (by omega) (by omega)]
theorem eight_tot (b : List Int) (ok : Bool) (hb : Byts b) : Rd (node_reader_eight_m NN b ok) b ok 8 (fun _ => True) := by
  obtain ⟨v, b', ok', h1, h2, h3, h4, h5⟩ := num_tot 8 (by omega) b ok hb
  exact ⟨v, b', ok', by unfold node_reader_eight_m; rw [show (8 : Int) = ((8 : Nat) : Int) from rfl, h1], h2, h3, h4, trivial⟩
theorem eight_fwd {v : Int} (h0 : 0 ≤ v) (h1 : v ≤ 1000000000000000) (rest : List Int) : node_reader_eight_m NN (bytes v 8 ++ rest) true = RS v rest true := by
  unfold node_reader_eight_m
  have h44 : (256 : Int) ^ 8 = 18446744073709551616 := by decide
  rw [show (8 : Int) = ((8 : Nat) : Int) from rfl, num_fwd 8 (by omega) h0 (by omega) (by omega)]
theorem text_tot (b : List Int) (ok : Bool) (hb : Byts b) : Rd (node_reader_text_m NN b ok) b ok 2 (fun s => s.length < 65536) := by
  obtain ⟨v, b', ok', h1, h2, h3, h4, h5⟩ := num_tot 2 (by omega) b ok hb
  have h22 : (256 : Int) ^ 2 = 65536 := by decide
  have hv := h5 (by omega)
  obtain ⟨l, b2, ok2, g1, g2, g3, g4, g5, g6⟩ := take_tot (n := v) hv.1 b' ok' h2
  refine ⟨bytesU l, b2, ok2, by unfold node_reader_text_m; rw [show (2 : Int) = ((2 : Nat) : Int) from rfl, h1]; simp only; rw [g1], g3, by omega, fun e => ?_, by rw [U_len]; omega⟩
  have e2 := g6 e
  have e1 := h4 e2.1
  exact ⟨e1.1, by omega⟩
theorem text_fwd {a : B} (ha : a.length < 65536) (rest : List Int) : node_reader_text_m NN (textB a ++ rest) true = RS a rest true := by
  unfold node_reader_text_m textB
  have h22 : (256 : Int) ^ 2 = 65536 := by decide
  rw [show (2 : Int) = ((2 : Nat) : Int) from rfl, List.append_assoc, num_fwd 2 (by omega) (v := (a.length : Int)) (by omega) (by omega) (by omega)]
  simp only
  have := take_fwd (bytesI a) rest
  rw [bytesI_len] at this
  rw [this]
  simp only [UI]
theorem pair_tot (b : List Int) (ok : Bool) (hb : Byts b) : Rd (node_reader_pair_m NN b ok) b ok 8 (fun _ => True) := by
  obtain ⟨v1, b1, o1, h1, h2, h3, h4, _⟩ := text_tot b ok hb
  obtain ⟨v2, b2, o2, g1, g2, g3, g4, _⟩ := text_tot b1 o1 h2
  obtain ⟨v3, b3, o3, f1, f2, f3, f4, _⟩ := four_tot b2 o2 g2
  refine ⟨(v1, (v2, v3)), b3, o3, by unfold node_reader_pair_m; rw [h1]; simp only; rw [g1]; simp only; rw [f1], f2, by omega, fun e => ?_, trivial⟩
  have a := f4 e
  have c := g4 a.1
  have d := h4 c.1
  exact ⟨d.1, by omega⟩
theorem pair_fwd {p : Pr} (hp : storB p = true) (rest : List Int) : node_reader_pair_m NN (pairE p ++ rest) true = RS p rest true := by
  simp only [storB, Bool.and_eq_true, inR_iff, decide_eq_true_eq] at hp
  unfold node_reader_pair_m pairE
  rw [List.append_assoc, List.append_assoc, text_fwd (by omega)]
  simp only
  rw [text_fwd (by omega)]
  simp only
  rw [four_fwd hp.2.2.1 (by omega)]
theorem bounds_tot (b : List Int) (ok : Bool) (hb : Byts b) : Rd (node_reader_bounds_m NN b ok) b ok 8 (fun _ => True) := by
  obtain ⟨v1, b1, o1, h1, h2, h3, h4, _⟩ := eight_tot b ok hb
  obtain ⟨v2, b2, o2, g1, g2, g3, g4, _⟩ := eight_tot b1 o1 h2
  refine ⟨(v1, v2), b2, o2, by unfold node_reader_bounds_m; rw [h1]; simp only; rw [g1], g2, by omega, fun e => ?_, trivial⟩
  have c := g4 e
  have d := h4 c.1
  exact ⟨d.1, by omega⟩
theorem sum_tot (b : List Int) (ok : Bool) (hb : Byts b) : Rd (node_reader_sum_m NN b ok) b ok 8 (fun _ => True) := by
  obtain ⟨v1, b1, o1, h1, h2, h3, h4, _⟩ := bounds_tot b ok hb
  obtain ⟨v2, b2, o2, g1, g2, g3, g4, _⟩ := bounds_tot b1 o1 h2
  refine ⟨(v1.1, (v1.2, (v2.1, v2.2))), b2, o2, by unfold node_reader_sum_m; rw [h1]; simp only; rw [g1], g2, by omega, fun e => ?_, trivial⟩
  have c := g4 e
  have d := h4 c.1
  exact ⟨d.1, by omega⟩
theorem sum_fwd {s : V_api_Sum} (hs : sumB s = true) (rest : List Int) : node_reader_sum_m NN (sumE s ++ rest) true = RS (s.1.1, (s.1.2, (s.2.1, s.2.2))) rest true := by
  simp only [sumB, rngB, Bool.and_eq_true, decide_eq_true_eq] at hs
  unfold node_reader_sum_m node_reader_bounds_m sumE
  simp only [List.append_assoc]
  rw [eight_fwd (by omega) (by omega)]
  simp only
  rw [eight_fwd (by omega) (by omega)]
  simp only
  rw [eight_fwd (by omega) (by omega)]
  simp only
  rw [eight_fwd (by omega) (by omega)]
abbrev unM (m : Mg) : Int × (B × (B × (B × (B × (B × (B × Int)))))) := (m.1, (m.2.1, (m.2.2.1, (m.2.2.2.1.1, (m.2.2.2.1.2, (m.2.2.2.2.1, (m.2.2.2.2.2.1, m.2.2.2.2.2.2)))))))
theorem msg_tot (b : List Int) (ok : Bool) (hb : Byts b) (hl : b.length < 1000000000) : Rd (node_reader_msg_m NN b ok) b ok 1 (fun _ => True) := by
  unfold node_reader_msg_m
  rcases parse_cases hb with h | ⟨m, rest, hv, hc, h⟩
  · obtain ⟨l, b', ok', h1, h2, h3, h4, h5, h6⟩ := take_tot (n := 0) (by omega) b false hb
    refine ⟨unM (0, [], [], ([], []), [], [], 0), b', ok', ?_, h3, h5, fun e => (by have := (h6 e).1; cases this), trivial⟩
    rw [Parse_eq hb hl, h]
    simp only
    rw [h1]
    rfl
  · have hpos : 1 ≤ (bytesM m).length := by simp [bytesM]
    obtain ⟨l, b', ok', h1, h2, h3, h4, h5, h6⟩ := take_tot (n := ((bytesM m).length : Int)) (by omega) b ok hb
    refine ⟨unM m, b', ok', ?_, h3, h5, fun e => ⟨(h6 e).1, by have := (h6 e).2; omega⟩, trivial⟩
    rw [Parse_eq hb hl, h]
    simp only
    rw [h1]
    rfl
theorem msg_fwd {m : Mg} (hv : vldB m = true) (rest : List Int) (hb : Byts rest) (hl : rest.length < 900000000) : node_reader_msg_m NN (bytesM m ++ rest) true = RS (unM m) rest true := by
  have hml := bytesM_len hv
  unfold node_reader_msg_m
  rw [Parse_eq ((byts_m m).append hb) (by rw [List.length_append]; omega), parse_bytes hv]
  simp only
  rw [take_fwd]
  rfl
end Ds
