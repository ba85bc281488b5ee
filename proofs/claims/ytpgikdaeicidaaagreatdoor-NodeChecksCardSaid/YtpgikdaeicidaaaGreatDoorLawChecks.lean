/- NodeChecks holds for every input: a changed byte changes the check, and the check of a list is that of the list without its last byte, with this byte. No condition. The card is tied: the two tables of unicode/utf8 are laid as the program's text lays them (the tie is given); the calls that count read neither. -/
import Derived.Test.YtpgikdaeicidaaaGreatDoorDsChkC
import Derived.Test.YtpgikdaeicidaaaGreatDoorDvE
import Derived.Test.YtpgikdaeicidaaaGreatDoorDsChecks
import Derived.Test.YtpgikdaeicidaaaGreatDoorTie
import Derived.Test.YtpgikdaeicidaaaGreatDoorCards
import Derived.SevenTiedAt
import Derived.Stop.Joined
set_option linter.all false
namespace Go.Proofs.YtpgikdaeicidaaaGreatDoor
open Go Go.Dv Ds
open Go.ChangeShapes Go.WideShapes Go.ChangeAt Go.RowKit

set_option maxRecDepth 100000 in
theorem lifted7 (os : Os) (started : os.Started) (H : Type) (enc : TypeId × Value → H) :
    ReturnsInHanded {} Tryz.checked os 7 .any (fun w args => (Rows.nodeChecksSpec.pre enc Tryz.prog Tryz.f7 Rows.nodeChecksRow.domain false w args ∧ laidMetH Tryz.prog Rows.nodeChecksRow.laid w) ∧ sizedMet enc Tryz.prog Tryz.f7 (OpenSpec.ofChange Rows.nodeChecksSpec) false w args)
      (Rows.nodeChecksSpec.post enc Tryz.prog Tryz.f7 false true false false) :=
  law_lifted_laid2 (C := Tryz.checked) (k := 9) (X := fun w _ => laidMetH Tryz.prog Rows.nodeChecksRow.laid w) (fun _ _ _ hh h => h.of_heap hh) (by kernel_rfl) started (by kernel_rfl) Tryz.func7
    (ChangeSpec.witness_shaped (enc := enc) (C := Tryz.checked) (os := os) (X := fun w _ => laidMetH Tryz.prog Rows.nodeChecksRow.laid w) false (World.laidAll Tryz.prog os Rows.nodeChecksRow.laid) #[.slice none 0 0, .agg #[.int .u16 0, .int .u16 0]] 8 (World.laidAll_os _ _ _)
      (World.shaped_of_ZipB (by kernel_rfl) (by kernel_rfl)) (by kernel_rfl) (by kernel_rfl) (by kernel_rfl)
      (by rw [MakeChecks.laidMetH_plain _ _ _ (by kernel_rfl)]; exact laidMet_laidAll _ (by kernel_rfl) (by kernel_rfl)))
    (by kernel_rfl) (by kernel_rfl) (u := 4) rfl Tryz.underlying4 rfl (fun ds h => by match ds, h with | [_, _], _ => rfl)
    (sound_law10_NodeChecks NN) (by kernel_rfl) (fun x => by kernel_rfl) (fun x hx => plainChecks x.1 x.2 hx.1 hx.2)
theorem nodeChecks_row : Rows.NodeChecksSaid :=
  OpenClaim.holds_of_wide 7 Tryz.f7 rfl rfl rfl rfl rfl rfl rfl ⟨rfl, rfl, rfl, rfl, rfl⟩ rfl rfl rfl rfl rfl (by kernel_rfl) Tryz.func7 (by kernel_rfl)
    (of_decide_eq_true (by kernel_rfl)) (by unfold Func.isWrapper; first | (rw [if_pos (by decide +kernel)]; kernel_rfl) | (rw [if_neg (by decide +kernel)]; exact ⟨rfl, rfl⟩))
    (fun os started H enc _ => lifted7 os started H enc)
theorem nodeChecks_holds : Rows.NodeChecksCardSaid :=
  Claim7.holds_tied_plain_at .later [] [.data, .pinned] true (true, "9d0d0b5c50a28c05a95358e01c7add15e43967e025348d2eaf07c5c51dab118c") false nodeChecks_row (fun _ h => by cases h) (by kernel_rfl) (fun _ h => by cases h) nodeChecks_row_tie rfl ⟨rfl, rfl⟩ (by kernel_rfl) rfl
    (fun f fn hf hfn => by
      obtain rfl : f = 7 := Option.some.inj ((show Tryz.prog.funcNamed "downspout/downspoutlaw10.NodeChecks" = some 7 by kernel_rfl).symm.trans hf) |>.symm
      obtain rfl : fn = Tryz.f7 := (Option.some.inj (Tryz.func7.symm.trans hfn)).symm
      exact ⟨by kernel_rfl, fun j t ht => by
        rw [Tryz.params7] at ht
        have hm : t ∈ [23, 57] := by have := Array.mem_of_getElem? ht; simp at this ⊢; omega
        have hall : ([23, 57].all fun u => !Tryz.prog.wantsStandIn u) = true := by kernel_rfl
        exact (show Tryz.prog.wantsStandIn t = false by simpa using List.all_eq_true.1 hall t hm)⟩)
    (by kernel_rfl)
#print axioms nodeChecks_holds
end Go.Proofs.YtpgikdaeicidaaaGreatDoor
