/- The reference reads as the program does: the plain law of MsgParses. -/
import Derived.Test.YtknfflpgemghmaaGreatDsParses
set_option linter.all false
namespace Ds
open Go Go.Dv
set_option maxRecDepth 100000
set_option linter.unusedVariables false

def rTx (b : List Int) : B × List Int × Bool := bif (tx (b, false)).2.2 then ([], [], false) else ((tx (b, false)).1, (tx (b, false)).2.1, true)

theorem rtext_eq : ∀ {b : List Int}, Byts b → b.length < 1000000000 → ref05_text NN b = some (rTx b)
  | [], _, _ => rfl
  | [x], _, _ => rfl
  | x :: y :: l, hb, hl => by
    have hx := hb x (by simp)
    have hy := hb y (by simp)
    have hlen : (x :: y :: l).length = l.length + 2 := rfl
    have e0 : decide (((x :: y :: l).length : Int) < (2 : Int)) = false := by simp; omega
    have r0 : rdL (x :: y :: l) (0 : Int) (0 : Int) = x := rfl
    have r1 : rdL (x :: y :: l) (1 : Int) (0 : Int) = y := rfl
    have i0 : inB (0 : Int) (x :: y :: l).length = true := by simp [inB]; omega
    have i1 : inB (1 : Int) (x :: y :: l).length = true := by simp [inB]; omega
    have w0 : IntKind.wrap .i64 x = x := w64 (by omega) (by omega)
    have w1 : IntKind.wrap .i64 y = y := w64 (by omega) (by omega)
    have w2 : IntKind.wrap .i64 ((256 : Int) * x) = 256 * x := w64 (by omega) (by omega)
    have w3 : IntKind.wrap .i64 ((2 : Int) + 256 * x) = 2 + 256 * x := w64 (by omega) (by omega)
    have w4 : IntKind.wrap .i64 ((2 : Int) + 256 * x + y) = 2 + 256 * x + y := w64 (by omega) (by omega)
    have n2 : nm' 2 (x :: y :: l, false) = (256 * x + y, (l, false)) := by
      unfold nm' tk
      have e : decide (((x :: y :: l).length : Int) < (2 : Int)) = false := e0
      simp only [e, cond_false]
      have t : (x :: y :: l).take (Int.toNat (2 : Int)) = [x, y] := rfl
      have d : (x :: y :: l).drop (Int.toNat (2 : Int)) = l := rfl
      rw [t, d]
      simp only [rdN, List.foldl_cons, List.foldl_nil, Prod.mk.injEq, and_true]
      omega
    simp only [ref05_text, e0, cond_false, r0, r1, w0, w1, w2, w3, w4]
    rw [gd_t i0, gd_t i1]
    unfold rTx tx
    rw [n2]
    simp only [tk]
    cases e : decide (((x :: y :: l).length : Int) < 2 + 256 * x + y)
    · have e := of_decide_eq_false e
      rw [hlen] at e
      have e' : decide ((l.length : Int) < 256 * x + y) = false := by simp; omega
      simp only [e', cond_false]
      rw [gd_t i0, gd_t i1, gd_t (by simp; omega), gd_t (by simp; omega)]
      have c1 : cut2 (x :: y :: l) (2 : Int) (2 + 256 * x + y) = l.take (256 * x + y).toNat := by
        unfold cut2
        have d : (x :: y :: l).drop (Int.toNat (2 : Int)) = l := rfl
        have t2 : Int.toNat (2 : Int) = 2 := rfl
        rw [d, t2]
        congr 1; omega
      have c2 : cut2 (x :: y :: l) (2 + 256 * x + y) ((x :: y :: l).length : Int) = l.drop (256 * x + y).toNat := by
        unfold cut2
        have t : (2 + 256 * x + y).toNat = (256 * x + y).toNat + 2 := by omega
        rw [t, List.drop_succ_cons, List.drop_succ_cons]
        exact List.take_of_length_le (by simp; omega)
      rw [c1, c2]
    · have e := of_decide_eq_true e
      rw [hlen] at e
      have e' : decide ((l.length : Int) < 256 * x + y) = true := by simp; omega
      simp only [e', cond_true]

theorem rTx_byts {b : List Int} (hb : Byts b) : Byts (rTx b).2.1 := by
  unfold rTx
  cases (tx (b, false)).2.2
  · exact tx_byts (s := (b, false)) hb
  · exact byts_nil
theorem rTx_le (b : List Int) : (rTx b).2.1.length ≤ b.length := by
  unfold rTx
  cases (tx (b, false)).2.2
  · exact tx_le (b, false)
  · simp

theorem read1 {b : List Int} (hb : Byts b) (hl : b.length < 1000000000) : ref05_read NN b (1 : Int) = some (((rTx b).1, []), ((rTx b).2.1, (rTx b).2.2)) := by
  have w1 : IntKind.wrap .i64 ((0 : Int) + (1 : Int)) = 1 := by decide
  have h : ref05_read_l0 NN NN b (1 : Int) true (0 : Int) [] [] [] [] = some (((rTx b).2.1, ((), ((), (rTx b).2.2))), (([], []), (((rTx b).1, []), ()))) := by
    rw [show ref05_read_l0 NN NN = ref05_read_l0 NN (999998 + 2) from rfl, ref05_read_l0_succ]
    have z1 : eqi (0 : Int) 1 = false := rfl
    have z0 : eqi (0 : Int) 0 = true := rfl
    have d : decide ((0 : Int) < 1) = true := rfl
    simp only [ref05_read_l0_step, rtext_eq hb hl, z1, z0, d, cond_true, cond_false, w1]
    rw [ref05_read_l0_succ]
    simp only [ref05_read_l0_step, Int.lt_irrefl, decide_false, cond_false]
  simp only [ref05_read, h]

def rd2 (b : List Int) : (B × B) × List Int × Bool := bif (rTx b).2.2 then (((rTx b).1, (rTx (rTx b).2.1).1), (rTx (rTx b).2.1).2) else (((rTx b).1, []), (rTx b).2)

theorem read2 {b : List Int} (hb : Byts b) (hl : b.length < 1000000000) : ref05_read NN b (2 : Int) = some (rd2 b) := by
  have w1 : IntKind.wrap .i64 ((0 : Int) + (1 : Int)) = 1 := by decide
  have w2 : IntKind.wrap .i64 ((1 : Int) + (1 : Int)) = 2 := by decide
  have z1 : eqi (0 : Int) 1 = false := rfl
  have z0 : eqi (0 : Int) 0 = true := rfl
  have z2 : eqi (1 : Int) 1 = true := rfl
  have d : decide ((0 : Int) < 2) = true := rfl
  have d1 : decide ((1 : Int) < 2) = true := rfl
  have t2 := rtext_eq (rTx_byts hb) (by have := rTx_le b; omega)
  have h : ref05_read_l0 NN NN b (2 : Int) true (0 : Int) [] [] [] [] = some (((rd2 b).2.1, ((), ((), (rd2 b).2.2))), (([], []), ((rd2 b).1, ()))) := by
    rw [show ref05_read_l0 NN NN = ref05_read_l0 NN (999997 + 3) from rfl, ref05_read_l0_succ]
    simp only [ref05_read_l0_step, rtext_eq hb hl, z1, z0, d, cond_true, cond_false, w1]
    rw [ref05_read_l0_succ]
    unfold rd2
    cases e : (rTx b).2.2
    · simp only [ref05_read_l0_step, d1, cond_true, cond_false]
      rw [← e]
    · simp only [ref05_read_l0_step, d1, cond_true, t2, z2, w2]
      rw [ref05_read_l0_succ]
      simp only [ref05_read_l0_step, Int.lt_irrefl, decide_false, cond_false]
  simp only [ref05_read, h]

theorem num4 (b0 : List Int) (b3 : Int) (b4 b5 b6 b7 b8 b9 : B) (b10 b11 : Int) (b12 b13 b14 b15 b16 b17 : B) {r : List Int} (hr : Byts r) (hl : 4 ≤ r.length) :
    ref05_Parse_l3 NN NN b0 r (0 : Int) b3 b4 b5 b6 b7 b8 b9 b10 b11 b12 b13 b14 b15 b16 b17 (0 : Int) = some ((b0, ((), ((), r))), ((b3, (b4, (b5, (b6, (b7, (b8, (b9, b10))))))), ((b11, (b12, (b13, (b14, (b15, (b16, (b17, rdN (r.take 4)))))))), ()))) := by
  match r, hl with
  | x0 :: x1 :: x2 :: x3 :: l, _ =>
    have h0 := hr x0 (by simp)
    have h1 := hr x1 (by simp)
    have h2 := hr x2 (by simp)
    have h3 := hr x3 (by simp)
    have w1 : IntKind.wrap .i64 ((0 : Int) + (1 : Int)) = 1 := by decide
    have w2 : IntKind.wrap .i64 ((1 : Int) + (1 : Int)) = 2 := by decide
    have w3 : IntKind.wrap .i64 ((2 : Int) + (1 : Int)) = 3 := by decide
    have w4 : IntKind.wrap .i64 ((3 : Int) + (1 : Int)) = 4 := by decide
    have d0 : decide ((0 : Int) < 4) = true := rfl
    have d1 : decide ((1 : Int) < 4) = true := rfl
    have d2 : decide ((2 : Int) < 4) = true := rfl
    have d3 : decide ((3 : Int) < 4) = true := rfl
    have i0 : inB (0 : Int) (x0 :: x1 :: x2 :: x3 :: l).length = true := by simp [inB]; omega
    have i1 : inB (1 : Int) (x0 :: x1 :: x2 :: x3 :: l).length = true := by simp [inB]; omega
    have i2 : inB (2 : Int) (x0 :: x1 :: x2 :: x3 :: l).length = true := by simp [inB]; omega
    have i3 : inB (3 : Int) (x0 :: x1 :: x2 :: x3 :: l).length = true := by simp [inB]; omega
    have r0 : rdL (x0 :: x1 :: x2 :: x3 :: l) (0 : Int) (0 : Int) = x0 := rfl
    have r1 : rdL (x0 :: x1 :: x2 :: x3 :: l) (1 : Int) (0 : Int) = x1 := rfl
    have r2 : rdL (x0 :: x1 :: x2 :: x3 :: l) (2 : Int) (0 : Int) = x2 := rfl
    have r3 : rdL (x0 :: x1 :: x2 :: x3 :: l) (3 : Int) (0 : Int) = x3 := rfl
    have st : ∀ n x : Int, 0 ≤ n → n < 1099511627776 → 0 ≤ x → x < 256 → IntKind.wrap .i64 (IntKind.wrap .i64 ((256 : Int) * n) + IntKind.wrap .i64 x) = n * 256 + x := fun n x a b c d => by
      rw [w64 (n := 256 * n) (by omega) (by omega), w64 (n := x) (by omega) (by omega), w64 (by omega) (by omega)]; omega
    rw [show ref05_Parse_l3 NN NN = ref05_Parse_l3 NN (999995 + 5) from rfl, ref05_Parse_l3_succ]
    simp only [ref05_Parse_l3_step, d0, cond_true, r0, w1]
    rw [gd_t i0, st 0 x0 (by omega) (by omega) h0.1 h0.2, ref05_Parse_l3_succ]
    simp only [ref05_Parse_l3_step, d1, cond_true, r1, w2]
    rw [gd_t i1, st _ x1 (by omega) (by omega) h1.1 h1.2, ref05_Parse_l3_succ]
    simp only [ref05_Parse_l3_step, d2, cond_true, r2, w3]
    rw [gd_t i2, st _ x2 (by omega) (by omega) h2.1 h2.2, ref05_Parse_l3_succ]
    simp only [ref05_Parse_l3_step, d3, cond_true, r3, w4]
    rw [gd_t i3, st _ x3 (by omega) (by omega) h3.1 h3.2, ref05_Parse_l3_succ]
    simp only [ref05_Parse_l3_step, Int.lt_irrefl, decide_false, cond_false]
    rfl

def pk (r : Mg × Int × Int) : ((Unit × (Int × Int)) × ((Int × B × B × B × B × B × B × Int) × Unit)) :=
  (((), (r.2.1, r.2.2)), ((r.1.1, r.1.2.1, r.1.2.2.1, r.1.2.2.2.1.1, r.1.2.2.2.1.2, r.1.2.2.2.2), ()))
abbrev errR : Mg × Int × Int := ((0, [], [], ([], []), [], [], 0), 0, 3)
theorem fin_flag (c : List Int) (m : Mg) {s : Rs} (h : s.2 = true) : finB c m s = errR := by unfold finB; rw [h]; rfl

theorem rp2 (c rest : List Int) (hc : c.length < 1000000000) (hr : rest.length ≤ c.length) (k : Int) (a1 a2 a3 a4 a5 a6 : B) (a7 : Int) :
    ref05_Parse_p2 NN c rest (0 : Int) [] [] [] [] [] [] (0 : Int) k a1 a2 a3 a4 a5 a6 a7 = some (pk (finB c (k, a1, a2, (a3, a4), a5, a6, a7) (rest, false))) := by
  have w : IntKind.wrap .i64 ((c.length : Int) - (rest.length : Int)) = (c.length : Int) - (rest.length : Int) := w64 (by omega) (by omega)
  simp only [ref05_Parse_p2, rValid_eq, finB, w, cond_false]
  cases vldB (k, a1, a2, (a3, a4), a5, a6, a7) <;> rfl

theorem rp1_num (c rest : List Int) (hr : Byts rest) (h4 : 4 ≤ rest.length) (hc : c.length < 1000000000) (hl : rest.length ≤ c.length) (k : Int) (a1 a2 a3 a4 a5 a6 : B) :
    nm' 4 (rest, false) = (rdN (rest.take 4), (rest.drop 4, false)) := by
  unfold nm' tk
  have e : decide ((rest.length : Int) < 4) = false := by simp; omega
  simp only [e, cond_false]
  rfl

theorem rp1 (c rest : List Int) (hr : Byts rest) (hc : c.length < 1000000000) (hl : rest.length ≤ c.length) (k : Int) (a1 a2 a3 a4 a5 a6 : B) :
    ref05_Parse_p1 NN c rest (0 : Int) [] [] [] [] [] [] (0 : Int) k a1 a2 a3 a4 a5 a6 (0 : Int) =
    some (pk (bif (eqi k 1 || eqi k 6) then finB c (k, a1, a2, (a3, a4), a5, a6, (nm' 4 (rest, false)).1) (nm' 4 (rest, false)).2 else finB c (k, a1, a2, (a3, a4), a5, a6, 0) (rest, false))) := by
  have num : (bif decide ((rest.length : Int) < (4 : Int)) then some (pk errR) else
      match ref05_Parse_l3 NN NN c rest (0 : Int) (0 : Int) [] [] [] [] [] [] (0 : Int) k a1 a2 a3 a4 a5 a6 (0 : Int) with
      | some r5 => (gd (decide (0 ≤ (4 : Int)) && (decide ((4 : Int) ≤ (List.length r5.1.2.2.2 : Int)) && decide ((List.length r5.1.2.2.2 : Int) ≤ (List.length r5.1.2.2.2 : Int))))
        (match ref05_Parse_p2 NN r5.1.1 (cut2 r5.1.2.2.2 (4 : Int) (List.length r5.1.2.2.2 : Int)) r5.2.1.1 r5.2.1.2.1 r5.2.1.2.2.1 r5.2.1.2.2.2.1 r5.2.1.2.2.2.2.1 r5.2.1.2.2.2.2.2.1 r5.2.1.2.2.2.2.2.2.1 r5.2.1.2.2.2.2.2.2.2 r5.2.2.1.1 r5.2.2.1.2.1 r5.2.2.1.2.2.1 r5.2.2.1.2.2.2.1 r5.2.2.1.2.2.2.2.1 r5.2.2.1.2.2.2.2.2.1 r5.2.2.1.2.2.2.2.2.2.1 r5.2.2.1.2.2.2.2.2.2.2 with
        | some r9 => (some (((), (r9.1.2.1, r9.1.2.2)), ((r9.2.1.1, (r9.2.1.2.1, (r9.2.1.2.2.1, (r9.2.1.2.2.2.1, (r9.2.1.2.2.2.2.1, (r9.2.1.2.2.2.2.2.1, (r9.2.1.2.2.2.2.2.2.1, r9.2.1.2.2.2.2.2.2.2))))))), ())))
        | none => none))
      | none => none) = some (pk (finB c (k, a1, a2, (a3, a4), a5, a6, (nm' 4 (rest, false)).1) (nm' 4 (rest, false)).2)) := by
    cases e : decide ((rest.length : Int) < (4 : Int))
    · have e' := of_decide_eq_false e
      have h4 : 4 ≤ rest.length := by omega
      have c1 : cut2 rest (4 : Int) (rest.length : Int) = rest.drop 4 := by
        unfold cut2
        exact List.take_of_length_le (by simp)
      rw [rp1_num c rest hr h4 hc hl k a1 a2 a3 a4 a5 a6]
      simp only [cond_false, num4 c 0 [] [] [] [] [] [] 0 k a1 a2 a3 a4 a5 a6 hr h4, c1]
      rw [gd_t (by simp; omega)]
      have := rp2 c (rest.drop 4) hc (by simp; omega) k a1 a2 a3 a4 a5 a6 (rdN (rest.take 4))
      simp only [this]
    · have e' := of_decide_eq_true e
      have h : (nm' 4 (rest, false)).2.2 = true := by
        unfold nm' tk
        simp only [e, cond_true]
      rw [fin_flag c _ h]; rfl
  simp only [ref05_Parse_p1]
  cases e1 : eqi k 1
  case true => exact num
  case false =>
  cases e6 : eqi k 6
  case true => exact num
  case false =>
    simp only [cond_false, Bool.or_self, rp2 c rest hc hl k a1 a2 a3 a4 a5 a6 0]

theorem k1r (x : Int) (l : List Int) : nm' 1 (x :: l, false) = (x, (l, false)) := by
  unfold nm' tk
  have e : decide (((x :: l).length : Int) < 1) = false := by simp; omega
  simp only [e, cond_false]
  have t : (x :: l).take (Int.toNat (1 : Int)) = [x] := rfl
  have d : (x :: l).drop (Int.toNat (1 : Int)) = l := rfl
  rw [t, d]
  simp [rdN]

def un (r : Mg × Int × Int) : Mg × Int × Int := r
theorem pk_un (r : Mg × Int × Int) : (((pk r).2.1.1, ((pk r).2.1.2.1, ((pk r).2.1.2.2.1, (((pk r).2.1.2.2.2.1, (pk r).2.1.2.2.2.2.1), (pk r).2.1.2.2.2.2.2)))), ((pk r).1.2.1, (pk r).1.2.2)) = r := rfl

/-- what goes on behind the kind -/
def parseD (c : List Int) (k : Int) (l : List Int) : Mg × Int × Int :=
  parseC c k (tx (l, false)).1 (tx (tx (l, false)).2).1 (nm' 4 (tx (tx (l, false)).2).2).1 (l, false) (tx (l, false)).2 (tx (tx (l, false)).2).2 (nm' 4 (tx (tx (l, false)).2).2).2
theorem parseB_cons (x : Int) (l : List Int) : parseB (x :: l) = parseD (x :: l) x l := by
  unfold parseD
  have := k1r x l
  show parseC (x :: l) (nm' 1 (x :: l, false)).1 (tx (nm' 1 (x :: l, false)).2).1 (tx (tx (nm' 1 (x :: l, false)).2).2).1 (nm' 4 (tx (tx (nm' 1 (x :: l, false)).2).2).2).1 (nm' 1 (x :: l, false)).2 (tx (nm' 1 (x :: l, false)).2).2 (tx (tx (nm' 1 (x :: l, false)).2).2).2 (nm' 4 (tx (tx (nm' 1 (x :: l, false)).2).2).2).2 = _
  rw [this]

theorem fin_unknown {c : List Int} {k : Int} {m : List UInt8 × B × Sp × B × B × Int} {s : Rs} (h1 : eqi k 1 = false) (h2 : eqi k 2 = false) (h3 : eqi k 3 = false) (h4 : eqi k 4 = false) (h5 : eqi k 5 = false) (h6 : eqi k 6 = false) : finB c (k, m) s = errR := by
  have : vldB (k, m) = false := by simp only [vldB, h1, h2, h3, h4, h5, h6, Bool.or_self, cond_false]
  unfold finB
  rw [this]
  cases s.2 <;> rfl

theorem true_of {b : Bool} (h : b ≠ false) : b = true := by cases b; exact absurd rfl h; rfl

theorem rp0_2 (x : Int) (l : List Int) (hb : Byts (x :: l)) (hc : (x :: l).length < 1000000000) :
    ref05_Parse_p0 NN (x :: l) (1 : Int) (0 : Int) [] [] [] [] [] [] (0 : Int) 2 [] [] [] [] [] [] (0 : Int) = some (pk (parseD (x :: l) 2 l)) := by
  have hl : Byts l := fun y hy => hb y (by simp [hy])
  have hlen : l.length < 1000000000 := by simp at hc; omega
  have c1 : cut2 (x :: l) (1 : Int) ((x :: l).length : Int) = l := by
    unfold cut2
    have d : (x :: l).drop (Int.toNat (1 : Int)) = l := rfl
    rw [d]
    exact List.take_of_length_le (by simp)
  simp only [ref05_Parse_p0, c1, read1 hl hlen]
  rw [gd_t (by simp; omega)]
  have z1 : eqi (2 : Int) 1 = false := rfl
  have z2 : eqi (2 : Int) 2 = true := rfl
  have z6 : eqi (2 : Int) 6 = false := rfl
  simp only [parseD, parseC, z1, z2, cond_true, cond_false]
  have hT := tx_byts (s := (l, false)) hl
  have hle := tx_le (l, false)
  unfold rTx
  generalize tx (l, false) = t at *
  obtain ⟨a, s, f⟩ := t
  cases f
  · simp only [cond_false, Bool.not_true]
    have := rp1 (x :: l) s hT hc (by simp at hle ⊢; omega) 2 a [] [] [] [] []
    simp only [this, z1, z6, Bool.or_self, cond_false]
  · simp only [cond_true, Bool.not_false]
    rw [fin_flag _ _ rfl]; rfl

theorem rp0 (x : Int) (l : List Int) (hb : Byts (x :: l)) (hc : (x :: l).length < 1000000000) (k : Int) (h2 : eqi k 2 = false) :
    ref05_Parse_p0 NN (x :: l) (2 : Int) (0 : Int) [] [] [] [] [] [] (0 : Int) k [] [] [] [] [] [] (0 : Int) = some (pk (parseD (x :: l) k l)) := by
  have hl : Byts l := fun y hy => hb y (by simp [hy])
  have hlen : l.length < 1000000000 := by simp at hc; omega
  have c1 : cut2 (x :: l) (1 : Int) ((x :: l).length : Int) = l := by
    unfold cut2
    have d : (x :: l).drop (Int.toNat (1 : Int)) = l := rfl
    rw [d]
    exact List.take_of_length_le (by simp)
  simp only [ref05_Parse_p0, c1, read2 hl hlen]
  rw [gd_t (by simp; omega)]
  have hT := tx_byts (s := (l, false)) hl
  have hle := tx_le (l, false)
  have hinv := fun b => tx_inv (s := (tx (l, false)).2) hT b
  have hT2 := tx_byts (s := (tx (l, false)).2) hT
  have hle2 := tx_le (tx (l, false)).2
  unfold parseD rd2 rTx
  generalize tx (l, false) = t at *
  obtain ⟨a, s, f⟩ := t
  simp only at *
  -- an error stays one
  have hn4 : ∀ s3 : Rs, Byts s3.1 → s3.2 = true → (nm' 4 s3).2.2 = true := fun s3 hb3 h3 => by
    refine true_of fun h => ?_
    have := nm_inv 4 (s := s3) hb3 h
    rw [h3] at this; cases this.1
  have bad : ∀ (b : B) (n : Int) (s2 s3 s4 : Rs), s3.2 = true → s4.2 = true → parseC (x :: l) k a b n (l, false) s2 s3 s4 = errR := fun b n s2 s3 s4 h3 h4 => by
    unfold parseC
    simp only [h2, fin_flag _ _ h4, fin_flag _ _ h3]
    cases e1 : eqi k 1
    · cases e3 : eqi k 3
      · cases e4 : eqi k 4
        · cases e5 : eqi k 5
          · cases e6 : eqi k 6
            · simp only [cond_false]
              exact fin_unknown e1 h2 e3 e4 e5 e6
            · rfl
          · rfl
        · rfl
      · rfl
    · rfl
  cases f
  · simp only [cond_false, cond_true]
    generalize tx (s, false) = t2 at *
    obtain ⟨b, s3, f3⟩ := t2
    simp only at *
    cases f3
    · simp only [cond_false, Bool.not_true]
      have p := fun a1 a2 a3 a4 a5 a6 => rp1 (x :: l) s3 hT2 hc (by simp at hle hle2 ⊢; omega) k a1 a2 a3 a4 a5 a6
      simp only [p]
      unfold parseC
      rw [h2]
      cases e1 : eqi k 1
      · cases e3 : eqi k 3
        · cases e6 : eqi k 6
          · simp only [cond_false, Bool.or_self]
            cases e4 : eqi k 4
            · cases e5 : eqi k 5
              · rw [fin_unknown e1 h2 e3 e4 e5 e6, fin_unknown e1 h2 e3 e4 e5 e6]; rfl
              · rfl
            · rfl
          · have ek := eqi_iff.1 e6
            have e4 : eqi k 4 = false := by rw [ek]; rfl
            have e5 : eqi k 5 = false := by rw [ek]; rfl
            rw [e4, e5]
            rfl
        · have ek := eqi_iff.1 e3
          have e6 : eqi k 6 = false := by rw [ek]; rfl
          rw [e6]
          rfl
      · rfl
    · simp only [cond_true, Bool.not_false]
      rw [bad _ _ _ _ _ rfl (hn4 _ hT2 rfl)]
      rfl
  · simp only [cond_true, cond_false, Bool.not_false]
    have h3 : (tx (s, true)).2.2 = true := true_of fun h => by
      have := (hinv h).1
      cases this
    rw [bad _ _ _ _ _ h3 (hn4 _ hT2 h3)]
    rfl

theorem rParse_eq {c : List Int} (hb : Byts c) (hc : c.length < 1000000000) : ref05_Parse NN c = some (parseB c) := by
  match c with
  | [] => rfl
  | x :: l =>
    have hx := hb x (by simp)
    have e : eqi ((x :: l).length : Int) 0 = false := eqi_ne (by simp; omega)
    have r0 : rdL (x :: l) (0 : Int) (0 : Int) = x := rfl
    have w0 : IntKind.wrap .i64 x = x := w64 (by omega) (by omega)
    simp only [ref05_Parse, e, cond_false, r0, w0]
    rw [gd_t (by simp [inB]), parseB_cons]
    cases e2 : eqi x 2
    · simp only [cond_false, rp0 x l hb hc x e2]
      rfl
    · have := rp0_2 x l hb hc
      rw [eqi_iff.1 e2] at this ⊢
      simp only [cond_true, this]
      rfl

/-! ## MsgParses -/
theorem parse_same (b0 : Bool) (t : List Int) (hb : Byts t) (hl : t.length < 1000000) (j : Int) (l : List (List Int)) (hj : rdL l j ([] : List Int) = t) (hin : inB j l.length = true) (h2 : decide (j < 2) = true)
    (rec : Bool → Int → List (List Int) → Option ((Bool × Unit) ⊕ (Bool × Unit))) :
    law05_MsgParses_l0_step NN rec b0 j l = rec b0 (IntKind.wrap .i64 (j + (1 : Int))) l := by
  have p1 := Parse_eq hb (by omega)
  have p2 := rParse_eq hb (by omega)
  simp only [law05_MsgParses_l0_step, h2, cond_true, hj, p1, p2, eqs_self, Bool.and_self, eqi_self, Bool.not_true, cond_false]
  rw [gd_t hin, gd_t hin]
  rcases parse_cases hb with h | ⟨m, rest, v, e, h⟩
  · rw [h]
    have z : eqi (3 : Int) 0 = false := rfl
    simp only [z, cond_false, law05_MsgParses_p2, law05_MsgParses_p1]
  · have z : eqi (0 : Int) 0 = true := rfl
    have hV : bytesV m = bytesM m := by unfold bytesV; rw [v]; rfl
    have hc : cut2 t (0 : Int) ((bytesM m).length : Int) = bytesM m := by
      rw [e]; simp [cut2]
    rw [h]
    simp only [z, cond_true, Bytes_eq, hV, hc, SameB]
    rw [gd_t hin, gd_t (by rw [e]; simp; omega)]
    simp only [Bool.not_true, law05_MsgParses_p2, law05_MsgParses_p1, cond_false]

theorem parse_two (a c : List Int) (ha : Byts a) (hc : Byts c) (la : a.length < 1000000) (lc : c.length < 1000000) : law05_MsgParses_l0 NN NN true (0 : Int) [a, c] = some (.inr (true, ())) := by
  have w1 : IntKind.wrap .i64 ((0 : Int) + (1 : Int)) = 1 := by decide
  have w2 : IntKind.wrap .i64 ((1 : Int) + (1 : Int)) = 2 := by decide
  rw [show law05_MsgParses_l0 NN NN = law05_MsgParses_l0 NN (999997 + 3) from rfl, law05_MsgParses_l0_succ, parse_same true a ha la 0 [a, c] rfl rfl rfl, w1, law05_MsgParses_l0_succ, parse_same true c hc lc 1 [a, c] rfl rfl rfl, w2, law05_MsgParses_l0_succ]
  simp only [law05_MsgParses_l0_step, Int.lt_irrefl, decide_false, cond_false]

theorem plainParses (x : V_ref05_Raw) (put : List Int) (w : V_a2_uint8) (hx : okT T_ref05_Raw x) (hp : okT (.list (.int .u8)) put) (hw : okT T_a2_uint8 w) : law05_MsgParses NN x put w = some true := by
  obtain ⟨m, g1, g2⟩ := made_ok hx
  have hput : Byts put := by
    intro x hx'
    obtain ⟨i, hi, rfl⟩ := List.getElem_of_mem hx'
    exact u8_of_wf (hp.2 i _ (List.getElem?_eq_getElem hi))
  have h1 := u8_of_wf hw.1
  have h2 := u8_of_wf hw.2
  have hs := bytes_small g2
  have hb := rBytes_eq m
  rw [bytesV_good g2] at hb
  simp only [law05_MsgParses, sanity5]
  cases e : decide ((60 : Int) < (put.length : Int))
  · have e := of_decide_eq_false e
    simp only [cond_false, g1, hb]
    generalize hB : bytesM m = b at *
    have bb : Byts b := hB ▸ byts_m m
    have w5 : IntKind.wrap .i64 ((b.length : Int) + (1 : Int)) = (b.length : Int) + 1 := w64 (by omega) (by omega)
    have w1 : IntKind.wrap .i64 w.1 = w.1 := w64 (by omega) (by omega)
    have i0 : 0 ≤ Int.tmod w.1 ((b.length : Int) + 1) := Int.tmod_nonneg _ h1.1
    have i1 : Int.tmod w.1 ((b.length : Int) + 1) < (b.length : Int) + 1 := Int.tmod_lt_of_pos _ (by omega)
    have k0 : 0 ≤ Int.tmod w.2 4 := Int.tmod_nonneg _ h2.1
    have k1 : Int.tmod w.2 4 < 4 := Int.tmod_lt_of_pos _ (by omega)
    rw [w5, w1]
    generalize Int.tmod w.1 ((b.length : Int) + 1) = i at *
    generalize Int.tmod w.2 4 = k at *
    rw [w64 (n := k) (by omega) (by omega), w64 (n := i + k) (by omega) (by omega)]
    have z : eqi ((b.length : Int) + 1) 0 = false := eqi_ne (by omega)
    rw [z, gd_t (b := !false) rfl, gd_t (by simp; omega)]
    have hx8 : ∃ x8 : Int, (bif decide ((b.length : Int) < i + k) then (b.length : Int) else i + k) = x8 ∧ 0 ≤ x8 ∧ x8 ≤ b.length := by
      cases q : decide ((b.length : Int) < i + k)
      · have q := of_decide_eq_false q
        exact ⟨i + k, rfl, by omega, by omega⟩
      · exact ⟨(b.length : Int), rfl, by omega, by omega⟩
    obtain ⟨x8, e8, l8, u8⟩ := hx8
    rw [e8]
    have c1 : (cut2 b (0 : Int) i).length ≤ b.length := by simp [cut2]; omega
    have c2 : (cut2 b x8 (b.length : Int)).length ≤ b.length := by simp [cut2]
    have b1 : Byts (cut2 b (0 : Int) i) := (bb.drop _).take _
    have b2 : Byts (cut2 b x8 (b.length : Int)) := (bb.drop _).take _
    rw [gd_t (fits_p (by omega) (by omega))]
    simp only [List.nil_append]
    rw [gd_t (fits_p (by omega) (by omega)), gd_t (by simp; omega), gd_t (fits_p (by simp; omega) (by omega)), parse_two _ _ hput ((b1.append hput).append b2) (by omega) (by simp; omega)]
  · rfl
end Ds
