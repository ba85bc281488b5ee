/- EntryTotals holds for every input that is small enough: the total of two lists together is the sum of both totals. The arguments together are of bulk at most 1048576. The card is tied: the two tables of unicode/utf8 are laid as the program's text lays them (the tie is given); the calls that count read neither. -/
import Derived.Test.YtbjchookalpoiaaDoorDsChk
import Derived.Test.YtbjchookalpoiaaDoorDvE
import Derived.Test.YtbjchookalpoiaaDoorDsBulk
import Derived.Test.YtbjchookalpoiaaDoorDsTotals
import Derived.Test.YtbjchookalpoiaaDoorTie
import Derived.Test.YtbjchookalpoiaaDoorCards
import Derived.SevenTiedAt
import Derived.Stop.Joined
set_option linter.all false
namespace Go.Proofs.YtbjchookalpoiaaDoor
open Go Go.Dv Ds
open Go.ChangeShapes Go.WideShapes Go.ChangeAt Go.RowKit

set_option maxRecDepth 100000 in
theorem lifted7 (os : Os) (started : os.Started) (H : Type) (enc : TypeId × Value → H) (G : Stop.Interp) :
    ReturnsInHanded {} Tryd.checked os 7 .any (fun w args => ((Rows.OpenSpec.upto Rows.entryTotalsSpec).pre enc Tryd.prog Tryd.f7 [] false w args ∧ laidMetH Tryd.prog Rows.entryTotalsUptoRow.laid w) ∧ sizedMet enc Tryd.prog Tryd.f7 (Rows.OpenSpec.upto Rows.entryTotalsSpec) false w args)
      (((Rows.OpenSpec.upto Rows.entryTotalsSpec).at G).post enc Tryd.prog Tryd.f7 false true false false) :=
  law_lifted_upto (C := Tryd.checked) (k := 9) (s := Rows.OpenSpec.upto Rows.entryTotalsSpec) (kk := Rows.uptoSmall) rfl (X := fun w _ => laidMetH Tryd.prog Rows.entryTotalsUptoRow.laid w) (fun _ _ _ hh h => h.of_heap hh) (by kernel_rfl) started (by kernel_rfl) Tryd.func7
    (witness_upto (enc := enc) (C := Tryd.checked) (os := os) rfl rfl (X := fun w _ => laidMetH Tryd.prog Rows.entryTotalsUptoRow.laid w) (World.laidAll Tryd.prog os Rows.entryTotalsUptoRow.laid) #[.slice none 0 0, .slice none 0 0] 8 (World.laidAll_os _ _ _)
      (World.shaped_of_ZipB (by kernel_rfl) (by kernel_rfl)) (by kernel_rfl) (by kernel_rfl) (by kernel_rfl)
      (by rw [MakeChecks.laidMetH_plain _ _ _ (by kernel_rfl)]; exact laidMet_laidAll _ (by kernel_rfl) (by kernel_rfl)))
    (by kernel_rfl) (by kernel_rfl) (u := 4) rfl Tryd.underlying4 rfl (fun ds h => by match ds, h with | [_, _], _ => rfl)
    (sound_law03_EntryTotals NN) (by kernel_rfl) (fun x => by kernel_rfl) RR (bulk_R _ (by kernel_rfl)) (fun x hx => plainTotals (by decide) x.1 x.2 hx.1 hx.2)
theorem entryTotalsUpto_row : Rows.EntryTotalsUptoSaid :=
  OpenClaim.holds_of_cond 7 Tryd.f7 rfl rfl rfl rfl rfl rfl rfl ⟨rfl, rfl, rfl, rfl, rfl⟩ rfl rfl rfl rfl rfl (by kernel_rfl) Tryd.func7 (by kernel_rfl)
    (of_decide_eq_true (by kernel_rfl)) (by unfold Func.isWrapper; first | (rw [if_pos (by decide +kernel)]; kernel_rfl) | (rw [if_neg (by decide +kernel)]; exact ⟨rfl, rfl⟩))
    (fun os started H enc _ G => lifted7 os started H enc G)
theorem entryTotalsUpto_holds : Rows.EntryTotalsUptoCardSaid :=
  Claim7.holds_tied_plain_at .later [] [.data, .pinned] true (true, "a0022e0879123b2edb5fa6ee98864cb8caaa6c49f5c0217ec8d28a028afda289") false entryTotalsUpto_row (fun _ h => by cases h) (by kernel_rfl) (fun _ h => by cases h) entryTotalsUpto_row_tie rfl ⟨rfl, rfl⟩ (by kernel_rfl) rfl
    (fun f fn hf hfn => by
      obtain rfl : f = 7 := Option.some.inj ((show Tryd.prog.funcNamed "downspout/downspoutlaw03.EntryTotals" = some 7 by kernel_rfl).symm.trans hf) |>.symm
      obtain rfl : fn = Tryd.f7 := (Option.some.inj (Tryd.func7.symm.trans hfn)).symm
      exact ⟨by kernel_rfl, fun j t ht => by
        rw [Tryd.params7] at ht
        have hm : t ∈ [24] := by have := Array.mem_of_getElem? ht; simp at this ⊢; omega
        have hall : ([24].all fun u => !Tryd.prog.wantsStandIn u) = true := by kernel_rfl
        exact (show Tryd.prog.wantsStandIn t = false by simpa using List.all_eq_true.1 hall t hm)⟩)
    (by kernel_rfl)
#print axioms entryTotalsUpto_holds
end Go.Proofs.YtbjchookalpoiaaDoor
