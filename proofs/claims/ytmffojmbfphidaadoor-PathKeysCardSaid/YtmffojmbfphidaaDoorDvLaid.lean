/- From a row whose program lays variables to a plain law. -/
import Derived.Test.YtmffojmbfphidaaDoorDvJoin
import Derived.LaidMore
import Derived.Lay
import Derived.Handed
set_option linter.all false
namespace Go.Dv
open Go.RowKit Go.ChangeShapes Go.WideShapes Go.ChangeAt

variable [LTab]

theorem law_lifted_laid {H : Type} {enc : TypeId × Value → H} {C : Checked} {os : Os} {f : FuncId} {fn : Func} {s : ChangeSpec} {conds : List PathCond} {u : TypeId} {sh : Sh} {F : sh.T → Option Bool} {k : Nat} {X : World → Array Value → Prop}
    (hX : ∀ (w w' : World) (args : Array Value), w.heap = w'.heap → X w args → X w' args)
    (own : ownKnob C.prog.godebug = none) (started : os.Started) (noInit : C.prog.inits.idxOf? f = none) (hfn : C.prog.funcs[f]? = some fn)
    (witness : ∃ (w : World) (tape : Tape) (i : Input), w.os = os ∧ (w.forCall tape i).Shaped C.prog ∧ i.vars = [] ∧ Input.okWide C.prog (w.forCall tape i) .any w.heap.size f i ∧
      ((s.pre enc C.prog fn conds false (w.forCall tape i).memory i.args ∧ X (w.forCall tape i).memory i.args) ∧ sizedMet enc C.prog fn (OpenSpec.ofChange s) false (w.forCall tape i).memory i.args) ∧ Assume.holds {} C.prog (lone (Frame.enter C.prog f i.args .normal) [] (w.forCall tape i)))
    (laid : laidOutB C.prog = true) (hread : (fn.params.toList.all fun t => C.prog.readableRec t && Nat.blt t C.prog.types.size) = true)
    (hres : fn.resultTypes = #[u]) (hu : C.prog.underlying u = some .bool) (hvars : s.vars = [])
    (hspec : ∀ (ds : List (DataW H)), ds.length = fn.params.size → s.fn H ds = { results := [.lit (.bool true)], args := ds })
    (hs : SoundF C.prog f fun avs => (ctrOf sh .bool [] F).run avs some)
    (hfit : fitsArgs C.prog k fn.params.toList sh = true) (hget : ∀ x, allDone (getP m0 [] sh (mkL sh x)) = some x)
    (law : ∀ x, okSh sh x → F x = some true) :
    ReturnsInHanded {} C os f .any (fun w args => (s.pre enc C.prog fn conds false w args ∧ X w args) ∧ sizedMet enc C.prog fn (OpenSpec.ofChange s) false w args) (s.post enc C.prog fn false true false false) := by
  refine returnsInHanded_of_change_and hX own started noInit hfn witness ?_
  intro W base args ds gs before hval hW hcnd hsz _ _
  have hW' := hW
  obtain ⟨p, q, hA, hV, rfl, hfz, hnd⟩ := hW
  rw [hvars] at hV
  obtain ⟨rfl, rfl⟩ := trodVars_none hV
  have hlen := trodAll_len _ _ _ _ hA
  have hwe : (DataW.weightsEach C.prog fn.params.toList ds).all (· ≤ reachBytes) = true := by
    have : ∀ (ts us : List TypeId) (ds : List (DataW H)), ds.length = ts.length → DataW.weightsEach C.prog (ts ++ us) ds = DataW.weightsEach C.prog ts ds := by
      intro ts
      induction ts with
      | nil => intro us ds h; simp at h; subst h; cases us <;> simp [DataW.weightsEach]
      | cons t ts ih =>
        intro us ds h
        cases ds with
        | nil => simp at h
        | cons d ds => simp only [List.cons_append, DataW.weightsEach]; rw [ih us ds (by simpa using h)]
    rw [List.append_nil, this _ _ _ hlen] at hsz
    exact hsz
  obtain ⟨x, hx, ox⟩ := open_args (k := k) (base := base) _ sh _ _ _ hfit hA (fun j t v ht hv => hval j t v (by simpa using ht) (by simpa using hv)) hwe
  have hF := law x ox
  have hrun : (ctrOf sh .bool [] F).run (mkL sh x) some = some (.bool true) := by
    simp only [Ctr.run, ctrOf, hget, hF]
    rfl
  obtain ⟨_, hc⟩ := hs W (fun b => b < W.heap.size) (mkL sh x) args.toList (.bool true) (fun b h => h) hx hrun
  refine hc.mono fun e W' he => ?_
  obtain ⟨v, S', ls, rfl, bel, _, _, hv, _⟩ := he
  obtain ⟨rfl, hv⟩ := hv
  have hv : v = .bool true := hv
  subst hv
  refine ⟨_, rfl, ds, [], p ++ [], [], p, [], hW', ?_, ?_, ?_, bel.frame _, fun h => by cases h⟩
  · rw [List.append_nil, hspec ds (by simpa using hlen), hres]
    exact trodAll_mk1 (shut_bool hu _)
  · rw [List.append_nil, hspec ds (by simpa using hlen)]
    refine below_trodAll laid bel _ _ _ _ (fun t ht => ?_) hA
    have := List.all_eq_true.1 hread t ht
    simp only [Bool.and_eq_true] at this
    exact ⟨this.1, by simpa using this.2⟩
  · rw [List.append_nil, hspec ds (by simpa using hlen), hvars]
    rfl
end Go.Dv
