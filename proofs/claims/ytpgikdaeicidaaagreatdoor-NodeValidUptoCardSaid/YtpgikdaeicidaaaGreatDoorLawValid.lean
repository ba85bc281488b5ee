/- NodeValid holds for every input that is small enough: the program and the reference agree on which nodes are valid. The arguments together are of bulk at most 1048576. The card is tied: the two tables of unicode/utf8 are laid as the program's text lays them (the tie is given); the calls that count read neither. -/
import Derived.Test.YtpgikdaeicidaaaGreatDoorDsChk
import Derived.Test.YtpgikdaeicidaaaGreatDoorDvE
import Derived.Test.YtpgikdaeicidaaaGreatDoorDsBulk
import Derived.Test.YtpgikdaeicidaaaGreatDoorDsLawV
import Derived.Test.YtpgikdaeicidaaaGreatDoorTie
import Derived.Test.YtpgikdaeicidaaaGreatDoorCards
import Derived.SevenTiedAt
import Derived.Stop.Joined
set_option linter.all false
namespace Go.Proofs.YtpgikdaeicidaaaGreatDoor
open Go Go.Dv Ds
open Go.ChangeShapes Go.WideShapes Go.ChangeAt Go.RowKit

set_option maxRecDepth 100000 in
theorem lifted3 (os : Os) (started : os.Started) (H : Type) (enc : TypeId × Value → H) (G : Stop.Interp) :
    ReturnsInHanded {} Tryz.checked os 3 .any (fun w args => ((Rows.OpenSpec.upto Rows.nodeValidSpec).pre enc Tryz.prog Tryz.f3 [] false w args ∧ laidMetH Tryz.prog Rows.nodeValidUptoRow.laid w) ∧ sizedMet enc Tryz.prog Tryz.f3 (Rows.OpenSpec.upto Rows.nodeValidSpec) false w args)
      (((Rows.OpenSpec.upto Rows.nodeValidSpec).at G).post enc Tryz.prog Tryz.f3 false true false false) :=
  law_lifted_upto (C := Tryz.checked) (k := 9) (s := Rows.OpenSpec.upto Rows.nodeValidSpec) (kk := Rows.uptoSmall) rfl (X := fun w _ => laidMetH Tryz.prog Rows.nodeValidUptoRow.laid w) (fun _ _ _ hh h => h.of_heap hh) (by kernel_rfl) started (by kernel_rfl) Tryz.func3
    (witness_upto (enc := enc) (C := Tryz.checked) (os := os) rfl rfl (X := fun w _ => laidMetH Tryz.prog Rows.nodeValidUptoRow.laid w) (World.laidAll Tryz.prog os Rows.nodeValidUptoRow.laid) #[.agg #[.slice none 0 0, .slice none 0 0, .slice none 0 0, .slice none 0 0, .slice none 0 0], .agg #[.slice none 0 0, .slice none 0 0, .slice none 0 0, .slice none 0 0, .slice none 0 0], .agg #[.int .i8 0, .int .i8 0, .int .i8 0, .int .i8 0]] 8 (World.laidAll_os _ _ _)
      (World.shaped_of_ZipB (by kernel_rfl) (by kernel_rfl)) (by kernel_rfl) (by kernel_rfl) (by kernel_rfl)
      (by rw [MakeChecks.laidMetH_plain _ _ _ (by kernel_rfl)]; exact laidMet_laidAll _ (by kernel_rfl) (by kernel_rfl)))
    (by kernel_rfl) (by kernel_rfl) (u := 4) rfl Tryz.underlying4 rfl (fun ds h => by match ds, h with | [_, _, _], _ => rfl)
    (sound_law10_NodeValid NN) (by kernel_rfl) (fun x => by kernel_rfl) RR (bulk_R _ (by kernel_rfl)) (fun x hx => plainValid10 (by decide) x.1 x.2.1 x.2.2 hx.1 hx.2.1 hx.2.2)
theorem nodeValidUpto_row : Rows.NodeValidUptoSaid :=
  OpenClaim.holds_of_cond 3 Tryz.f3 rfl rfl rfl rfl rfl rfl rfl ⟨rfl, rfl, rfl, rfl, rfl⟩ rfl rfl rfl rfl rfl (by kernel_rfl) Tryz.func3 (by kernel_rfl)
    (of_decide_eq_true (by kernel_rfl)) (by unfold Func.isWrapper; first | (rw [if_pos (by decide +kernel)]; kernel_rfl) | (rw [if_neg (by decide +kernel)]; exact ⟨rfl, rfl⟩))
    (fun os started H enc _ G => lifted3 os started H enc G)
theorem nodeValidUpto_holds : Rows.NodeValidUptoCardSaid :=
  Claim7.holds_tied_plain_at .later [] [.data, .pinned] true (true, "9d0d0b5c50a28c05a95358e01c7add15e43967e025348d2eaf07c5c51dab118c") false nodeValidUpto_row (fun _ h => by cases h) (by kernel_rfl) (fun _ h => by cases h) nodeValidUpto_row_tie rfl ⟨rfl, rfl⟩ (by kernel_rfl) rfl
    (fun f fn hf hfn => by
      obtain rfl : f = 3 := Option.some.inj ((show Tryz.prog.funcNamed "downspout/downspoutlaw10.NodeValid" = some 3 by kernel_rfl).symm.trans hf) |>.symm
      obtain rfl : fn = Tryz.f3 := (Option.some.inj (Tryz.func3.symm.trans hfn)).symm
      exact ⟨by kernel_rfl, fun j t ht => by
        rw [Tryz.params3] at ht
        have hm : t ∈ [27, 34, 36] := by have := Array.mem_of_getElem? ht; simp at this ⊢; omega
        have hall : ([27, 34, 36].all fun u => !Tryz.prog.wantsStandIn u) = true := by kernel_rfl
        exact (show Tryz.prog.wantsStandIn t = false by simpa using List.all_eq_true.1 hall t hm)⟩)
    (by kernel_rfl)
#print axioms nodeValidUpto_holds
end Go.Proofs.YtpgikdaeicidaaaGreatDoor
