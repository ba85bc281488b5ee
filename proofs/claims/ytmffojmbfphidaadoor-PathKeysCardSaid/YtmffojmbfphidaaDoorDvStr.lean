/- Contracts of functions of package strings, from the kit's shelf. -/
import Derived.Test.YtmffojmbfphidaaDoorDvExt
import Derived.Test.YtmffojmbfphidaaDoorDvAny
import Derived.Shelf.Strings.FuncGrows
import Derived.Shelf.Strings.SlTrimAscii
import Derived.Shelf.Strings.IndexAnyAll
import Derived.Shelf.Strings.Search1
set_option linter.all false
namespace Go.Dv
open Go.RowKit

variable [LTab]

def sB (s : List UInt8) : ByteArray := ⟨s.toArray⟩
/-- where a byte is first -/
def idxB (s : List UInt8) (c : Int) : Int := Lib.indexByte s c.toNat.toUInt8
/-- where a rune begins of which a predicate is so -/
def idxF (p : Int → Option Bool) (truth : Bool) (s : List UInt8) : Int := Lib.idxFunc (fun r => (p (r : Int)).getD false) truth (sB s)
def asciiB (s : List UInt8) : Bool := s.all fun b => decide (b.toNat < 128)
def trimF (s cs : List UInt8) : Option (List UInt8) := gd (asciiB cs && decide (s.length < 4611686018427387904) && decide (cs.length < 4294967281)) (some (Lib.trimS s cs))
def anyF (s cs : List UInt8) : Option Int := gd (asciiB cs && decide (2 ≤ cs.length) && decide (s.length < 4294967281) && decide (cs.length < 4294967281)) (some (Lib.indexAny s cs))

theorem ascii_at {s : List UInt8} (h : asciiB s = true) : ∀ (j : Nat) b, s[j]? = some b → b.toNat < 128 := fun j b hb => by
  have := List.all_eq_true.1 h b (List.mem_of_getElem? hb)
  simpa using this

theorem idxb_sound {P : Program} {ρ : Shelf.Ren} (L : Proofs.Lays.n217 P ρ) {fn : Func} {c : Code} (hf : P.funcs[ρ.f 217]? = some fn) (hb : fn.body = some c) (hname : (fn.name == "runtime.NumGoroutine") = false) :
    SoundF P (ρ.f 217) fun avs => (ctrOf (.cons .str (.int .u8)) (.int .i64) [] (fun v => some (idxB v.1 v.2))).run avs some := by
  intro w S avs vals r hlow hrep h
  refine ⟨callFunc_enter hf hb hname, ?_⟩
  obtain ⟨v, t, hF, hout, hvals⟩ := args_ok hlow hrep h
  obtain ⟨(a : List UInt8), b⟩ := v
  obtain ⟨u, us, rfl, k1, u2, us2, rfl, k2, k3⟩ := hvals
  rw [show us2 = [] from k3]
  simp only [RepA] at k1 k2
  subst k1; subst k2
  cases hF
  have hr : r = .int .i64 (idxB a b) := by
    have : some (AV.int .i64 (idxB a b)) = some r := hout
    cases this; rfl
  subst hr
  refine (Proofs.Any.stringslite_IndexByte L _ _ w).mono fun e w' => ?_
  rintro ⟨rfl, rfl⟩
  exact ⟨_, S, [], rfl, Below.refl _ _, fun _ h => h, fun _ h => .inl h, ⟨rfl, rfl⟩, ⟨fun l hl => (by cases hl), List.Pairwise.nil⟩⟩

theorem trim_sound {P : Program} {ρ : Shelf.Ren} (L : Proofs.Lays.n160 P ρ) (h116 : (P.info? (ρ.t 116)).map (fun i => (i.zero, i.size)) = some (some (.agg (Array.replicate 256 (.bool false))), 256)) {fn : Func} {c : Code} (hf : P.funcs[ρ.f 160]? = some fn) (hb : fn.body = some c) (hname : (fn.name == "runtime.NumGoroutine") = false) :
    SoundF P (ρ.f 160) fun avs => (ctrOf (.cons .str .str) .str [] (fun v => trimF v.1 v.2)).run avs some := by
  intro w S avs vals r hlow hrep h
  refine ⟨callFunc_enter hf hb hname, ?_⟩
  obtain ⟨v, t, hF, hout, hvals⟩ := args_ok hlow hrep h
  obtain ⟨(a : List UInt8), (b : List UInt8)⟩ := v
  obtain ⟨u, us, rfl, k1, u2, us2, rfl, k2, k3⟩ := hvals
  rw [show us2 = [] from k3]
  simp only [RepA] at k1 k2
  subst k1; subst k2
  obtain ⟨hg, hF⟩ := gd_some hF
  simp only [Bool.and_eq_true, decide_eq_true_eq] at hg
  cases hF
  have hr : r = .str (Lib.trimS a b) := by
    have : some (AV.str (Lib.trimS a b)) = some r := hout
    cases this; rfl
  subst hr
  refine (Proofs.Any.strings_Trim_laid L h116 _ _ w (by show Array.size (List.toArray _) ≤ _ ; rw [List.size_toArray]; omega) (by show Array.size (List.toArray _) < _ ; rw [List.size_toArray]; omega) (fun j x hx => ascii_at hg.1.1 j x (by simpa using hx))).mono fun e w' => ?_
  rintro ⟨rfl, bel⟩
  exact ⟨_, S, [], rfl, bel, fun _ h => h, fun _ h => .inl h, ⟨by simp [RepA], rfl⟩, ⟨fun l hl => (by cases hl), List.Pairwise.nil⟩⟩

theorem any_sound {P : Program} {ρ : Shelf.Ren} (L : Proofs.Lays.n153 P ρ) (h116 : (P.info? (ρ.t 116)).map (fun i => (i.zero, i.size)) = some (some (.agg (Array.replicate 256 (.bool false))), 256)) {fn : Func} {c : Code} (hf : P.funcs[ρ.f 153]? = some fn) (hb : fn.body = some c) (hname : (fn.name == "runtime.NumGoroutine") = false) :
    SoundF P (ρ.f 153) fun avs => (ctrOf (.cons .str .str) (.int .i64) [] (fun v => anyF v.1 v.2)).run avs some := by
  intro w S avs vals r hlow hrep h
  refine ⟨callFunc_enter hf hb hname, ?_⟩
  obtain ⟨v, t, hF, hout, hvals⟩ := args_ok hlow hrep h
  obtain ⟨(a : List UInt8), (b : List UInt8)⟩ := v
  obtain ⟨u, us, rfl, k1, u2, us2, rfl, k2, k3⟩ := hvals
  rw [show us2 = [] from k3]
  simp only [RepA] at k1 k2
  subst k1; subst k2
  obtain ⟨hg, hF⟩ := gd_some hF
  simp only [Bool.and_eq_true, decide_eq_true_eq] at hg
  cases hF
  have hr : r = .int .i64 (Lib.indexAny a b) := by
    have : some (AV.int .i64 (Lib.indexAny a b)) = some r := hout
    cases this; rfl
  subst hr
  refine (Proofs.any_all L h116 _ _ w (by show _ ≤ Array.size (List.toArray _); rw [List.size_toArray]; omega) (by show Array.size (List.toArray _) < _ ; rw [List.size_toArray]; omega) (by show Array.size (List.toArray _) < _ ; rw [List.size_toArray]; omega) (fun j x hx => ascii_at hg.1.1.1 j x (by simpa using hx))).mono fun e w' => ?_
  rintro ⟨rfl, bel⟩
  exact ⟨_, S, [], rfl, bel, fun _ h => h, fun _ h => .inl h, ⟨by simp [RepA], rfl⟩, ⟨fun l hl => (by cases hl), List.Pairwise.nil⟩⟩

theorem pred_of {P : Program} {g : FuncId} {F : Int → Option Bool} (hs : SoundF P g fun avs => (ctrOf (.int .i32) .bool [] F).run avs some) (tot : ∀ r : Nat, (F (r : Int)).isSome = true) (w : World) :
    Proofs.PredGrows P g #[] (fun r => (F (r : Int)).getD false) w := by
  intro W x _ _
  obtain ⟨b, hb⟩ := Option.isSome_iff_exists.1 (tot x)
  have hrun : (ctrOf (.int .i32) .bool [] F).run [.int .i32 (x : Int)] some = some (.bool b) := by
    have hget : allDone (getP m0 [] (.int .i32) [.int .i32 (x : Int)]) = some ((x : Int) : (Sh.int .i32).T) := rfl
    simp only [Ctr.run, ctrOf, hget, hb]
    rfl
  obtain ⟨_, hc⟩ := hs W (fun _ => False) [.int .i32 (x : Int)] [.int .i32 (x : Int)] (.bool b) (fun _ h => h.elim) ⟨_, _, rfl, rfl, rfl⟩ hrun
  refine hc.mono fun e W' he => ?_
  obtain ⟨v, S', ls, rfl, bel, _, _, hv, _⟩ := he
  obtain ⟨rfl, hv⟩ := hv
  have hv : v = .bool b := hv
  subst hv
  refine ⟨?_, bel⟩
  show Ending.returned (Value.bool b) = Ending.returned (Value.bool ((F (x : Int)).getD false))
  rw [hb]; rfl

theorem idxfunc_sound {P : Program} {ρ : Shelf.Ren} (L : Proofs.Lays.n315 P ρ) {g : FuncId} {F : Int → Option Bool} (hs : SoundF P g fun avs => (ctrOf (.int .i32) .bool [] F).run avs some) (tot : ∀ r : Nat, (F (r : Int)).isSome = true)
    {fg : Func} {cg : Code} (hfg : P.funcs[g]? = some fg) (hbg : fg.body = some cg) (hnameg : (fg.name == "runtime.NumGoroutine") = false) {fn : Func} {c : Code} (hf : P.funcs[ρ.f 315]? = some fn) (hb : fn.body = some c) (hname : (fn.name == "runtime.NumGoroutine") = false) :
    SoundF P (ρ.f 315) fun avs => (ctrOf (.cons .str (.cons (.clo g .nil) .bool)) (.int .i64) [] (fun v => some (idxF F v.2.2 v.1))).run avs some := by
  intro w S avs vals r hlow hrep h
  refine ⟨callFunc_enter hf hb hname, ?_⟩
  obtain ⟨v, t, hF, hout, hvals⟩ := args_ok hlow hrep h
  obtain ⟨(a : List UInt8), b, (d : Bool)⟩ := v
  obtain ⟨u, us, rfl, k1, u2, us2, rfl, k2, u3, us3, rfl, k3, k4⟩ := hvals
  rw [show us3 = [] from k4]
  obtain ⟨vs, k2, k5⟩ := k2
  have k5 : vs = [] := k5
  subst k5
  simp only [RepA] at k1 k3
  subst k1; subst k2; subst k3
  cases hF
  have hr : r = .int .i64 (idxF F d a) := by
    have : some (AV.int .i64 (idxF F d a)) = some r := hout
    cases this; rfl
  subst hr
  refine (Proofs.Any.strings_indexFunc_grows L g #[] (fun args w => callFunc_enter hfg hbg hnameg w args) _ d (sB a) w (pred_of hs tot w)).mono fun e w' => ?_
  rintro ⟨rfl, bel⟩
  exact ⟨_, S, [], rfl, bel, fun _ h => h, fun _ h => .inl h, ⟨by simp [RepA, idxF], rfl⟩, ⟨fun l hl => (by cases hl), List.Pairwise.nil⟩⟩
end Go.Dv
