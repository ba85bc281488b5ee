/- What a reading weighs is bounded by its bulk. -/
import Derived.Test.YtpgikdaeicidaaaGreatDoorDvE
import Derived.Test.YtpgikdaeicidaaaGreatDoorRows
set_option linter.all false
namespace Go.Proofs.YtpgikdaeicidaaaGreatDoor
open Go Go.Dv
abbrev SZ : Nat := 252
def x76 (d : Option TypeDesc) : Bool := match d with
  | some (.pointer e) => Nat.blt e SZ
  | some (.slice e) => Nat.blt e SZ
  | some (.struct fs) => fs.toList.all fun f => Nat.blt f.type SZ
  | some (.array _ e) => Nat.blt e SZ
  | some (.map k e) => Nat.blt k SZ && Nat.blt e SZ
  | _ => true
theorem xbv : ((List.range SZ).all fun e => Nat.ble (Tryz.prog.bytesOf e) 4096 && x76 (Tryz.prog.underlying e)) = true := by kernel_rfl
theorem yvy {e : TypeId} (he : e < SZ) : Tryz.prog.bytesOf e ≤ 4096 := by
  have := List.all_eq_true.1 xbv e (List.mem_range.2 he)
  rw [Bool.and_eq_true] at this
  exact Nat.le_of_ble_eq_true this.1
theorem y46 {t : TypeId} {d : TypeDesc} (ht : t < SZ) (h : Tryz.prog.underlying t = some d) : x76 (some d) = true := by
  have := List.all_eq_true.1 xbv t (List.mem_range.2 ht)
  rw [Bool.and_eq_true, h] at this
  exact this.2
theorem yye {a : Nat} (h : Nat.blt a SZ = true) : a < SZ := by simpa using h
abbrev MM : Nat := 4096 + 4096
theorem xbq {n b : Nat} (h : n ≤ b) : n ≤ b * MM := Nat.le_trans h (Nat.le_mul_of_pos_right _ (by decide))
mutual
theorem yvz {H : Type} : (l : List (DataW H)) → l.length ≤ Rows.uptoBulkAll l
  | [] => Nat.zero_le _
  | d :: r => by
    have h1 := xb3 d
    have h2 := yvz r
    show r.length + 1 ≤ Rows.uptoBulk d + Rows.uptoBulkAll r
    omega
theorem xb3 {H : Type} : (d : DataW H) → 1 ≤ Rows.uptoBulk d
  | .lit l => by cases l <;> simp [Rows.uptoBulk]
  | .nil => by simp [Rows.uptoBulk]
  | .ptr d => by simp [Rows.uptoBulk]
  | .slice _ _ => by simp [Rows.uptoBulk]
  | .agg _ => by simp [Rows.uptoBulk]
  | .iface _ d => by simp [Rows.uptoBulk]
  | .map _ => by simp [Rows.uptoBulk]
  | .held _ => by simp [Rows.uptoBulk]
end
theorem x4x {H : Type} : (l : List (Lit × DataW H)) → l.length ≤ Rows.uptoBulkEntries l
  | [] => Nat.zero_le _
  | (k, d) :: r => by
    have h2 := x4x r
    have h1 : 1 ≤ Rows.uptoBulkEntry (k, d) := by
      cases k <;> simp [Rows.uptoBulkEntry]
    show r.length + 1 ≤ Rows.uptoBulkEntry (k, d) + Rows.uptoBulkEntries r
    omega
theorem up {n a b : Nat} (h : n ≤ a * MM) (hab : a ≤ b) : n ≤ b * MM := Nat.le_trans h (Nat.mul_le_mul_right _ hab)
set_option maxRecDepth 100000
mutual
theorem x54 {H : Type} : (d : DataW H) → (t : TypeId) → t < SZ → ∀ n ∈ d.weights Tryz.prog t, n ≤ Rows.uptoBulk d * MM
  | .lit l, t, ht, n, h => by
    cases l <;> simp [DataW.weights] at h
    rw [h]
    exact xbq (by simp [Rows.uptoBulk])
  | .nil, t, ht, n, h => by simp [DataW.weights] at h
  | .ptr d, t, ht, n, h => by
    simp only [DataW.weights] at h
    split at h
    · rename_i e hu
      exact up (x54 d _ (yye (y46 ht hu)) n h) (by simp [Rows.uptoBulk])
    · cases h
  | .slice es sp, t, ht, n, h => by
    simp only [DataW.weights] at h
    split at h
    · rename_i e hu
      have he := yye (y46 ht hu)
      rcases List.mem_cons.1 h with h | h
      · have h1 := yvz es
        have h2 := yvz sp
        have h3 : es.length + sp.length ≤ Rows.uptoBulk (.slice es sp) := by simp only [Rows.uptoBulk]; omega
        rw [h]
        exact Nat.mul_le_mul h3 (Nat.le_trans (yvy he) (by decide))
      · rcases List.mem_append.1 h with h | h
        · exact up (yhz es e he n h) (by simp only [Rows.uptoBulk]; omega)
        · exact up (yhz sp e he n h) (by simp only [Rows.uptoBulk]; omega)
    · cases h
  | .agg ps, t, ht, n, h => by
    simp only [DataW.weights] at h
    split at h
    · rename_i fs hu
      have hp := y46 ht hu
      exact up (ylq ps _ (fun t ht' => by
        obtain ⟨f, hf, rfl⟩ := List.mem_map.1 ht'
        exact yye (List.all_eq_true.1 hp f hf)) n h) (by simp only [Rows.uptoBulk]; omega)
    · rename_i k e hu
      exact up (yhz ps _ (yye (y46 ht hu)) n h) (by simp only [Rows.uptoBulk]; omega)
    · cases h
  | .iface _ _, t, ht, n, h => by simp [DataW.weights] at h
  | .map es, t, ht, n, h => by
    simp only [DataW.weights] at h
    split at h
    · rename_i k e hu
      have hp := y46 ht hu
      have hp := (Bool.and_eq_true _ _).mp hp
      have hk := yye hp.1
      have he := yye hp.2
      rcases List.mem_cons.1 h with h | h
      · have h1 := x4x es
        have h3 : es.length ≤ Rows.uptoBulk (.map es) := by simp only [Rows.uptoBulk]; omega
        rw [h]
        exact Nat.mul_le_mul h3 (Nat.add_le_add (yvy hk) (yvy he))
      · exact up (yhc es e he n h) (by simp only [Rows.uptoBulk]; omega)
    · cases h
  | .held _, t, ht, n, h => by simp [DataW.weights] at h
theorem yhz {H : Type} : (l : List (DataW H)) → (e : TypeId) → e < SZ → ∀ n ∈ DataW.weightsAll Tryz.prog e l, n ≤ Rows.uptoBulkAll l * MM
  | [], e, he, n, h => by simp [DataW.weightsAll] at h
  | d :: r, e, he, n, h => by
    simp only [DataW.weightsAll] at h
    rcases List.mem_append.1 h with h | h
    · exact up (x54 d e he n h) (by simp only [Rows.uptoBulkAll]; omega)
    · exact up (yhz r e he n h) (by simp only [Rows.uptoBulkAll]; omega)
theorem ylq {H : Type} : (l : List (DataW H)) → (ts : List TypeId) → (∀ t ∈ ts, t < SZ) → ∀ n ∈ DataW.weightsEach Tryz.prog ts l, n ≤ Rows.uptoBulkAll l * MM
  | [], ts, ht, n, h => by cases ts <;> simp [DataW.weightsEach] at h
  | d :: r, [], ht, n, h => by simp [DataW.weightsEach] at h
  | d :: r, t :: ts, ht, n, h => by
    simp only [DataW.weightsEach] at h
    rcases List.mem_append.1 h with h | h
    · exact up (x54 d t (ht t (by simp)) n h) (by simp only [Rows.uptoBulkAll]; omega)
    · exact up (ylq r ts (fun u hu => ht u (by simp [hu])) n h) (by simp only [Rows.uptoBulkAll]; omega)
theorem yhc {H : Type} : (l : List (Lit × DataW H)) → (e : TypeId) → e < SZ → ∀ n ∈ DataW.weightsEntries Tryz.prog e l, n ≤ Rows.uptoBulkEntries l * MM
  | [], e, he, n, h => by simp [DataW.weightsEntries] at h
  | (k, d) :: r, e, he, n, h => by
    simp only [DataW.weightsEntries] at h
    rcases List.mem_append.1 h with h | h
    · cases k with
      | string b =>
        simp only [DataW.weightsEntry] at h
        rcases List.mem_cons.1 h with h | h
        · rw [h]
          exact xbq (by simp only [Rows.uptoBulkEntries, Rows.uptoBulkEntry]; omega)
        · exact up (x54 d e he n h) (by simp only [Rows.uptoBulkEntries, Rows.uptoBulkEntry]; omega)
      | _ =>
        simp only [DataW.weightsEntry] at h
        exact up (x54 d e he n h) (by simp only [Rows.uptoBulkEntries, Rows.uptoBulkEntry]; omega)
    · exact up (yhc r e he n h) (by simp only [Rows.uptoBulkEntries]; omega)
end
abbrev RR : Nat := 1048576 * MM
theorem xer {H : Type} (ts : List TypeId) (hts : (ts.all fun t => Nat.blt t SZ) = true) (ds : List (DataW H)) (h : Rows.uptoSmall H ds = true) : (DataW.weightsEach Tryz.prog ts ds).all (· ≤ RR) = true := by
  have h : Rows.uptoBulkAll ds ≤ 1048576 := of_decide_eq_true h
  simp only [List.all_eq_true, decide_eq_true_eq]
  exact fun n hn => Nat.le_trans (ylq ds ts (fun t ht => yye (List.all_eq_true.1 hts t ht)) n hn) (Nat.mul_le_mul_right _ h)
end Go.Proofs.YtpgikdaeicidaaaGreatDoor
