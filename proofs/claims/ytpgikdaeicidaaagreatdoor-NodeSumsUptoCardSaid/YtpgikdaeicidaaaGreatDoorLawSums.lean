/- NodeSums holds for every input that is small enough: if the use of each kid is within its bounds, the use of all kids together, after the messages, is within the bounds of the node. The arguments together are of bulk at most 1048576. The card is tied: the two tables of unicode/utf8 are laid as the program's text lays them (the tie is given); the calls that count read neither. -/
import Derived.Test.YtpgikdaeicidaaaGreatDoorDsChk
import Derived.Test.YtpgikdaeicidaaaGreatDoorDvE
import Derived.Test.YtpgikdaeicidaaaGreatDoorDsBulk
import Derived.Test.YtpgikdaeicidaaaGreatDoorDsLawS
import Derived.Test.YtpgikdaeicidaaaGreatDoorTie
import Derived.Test.YtpgikdaeicidaaaGreatDoorCards
import Derived.SevenTiedAt
import Derived.Stop.Joined
set_option linter.all false
namespace Go.Proofs.YtpgikdaeicidaaaGreatDoor
open Go Go.Dv Ds
open Go.ChangeShapes Go.WideShapes Go.ChangeAt Go.RowKit
set_option maxRecDepth 100000 in
theorem xdb (os : Os) (started : os.Started) (H : Type) (enc : TypeId × Value → H) (G : Stop.Interp) :
    ReturnsInHanded {} Tryz.checked os 8 .any (fun w args => ((Rows.OpenSpec.upto Rows.nodeSumsSpec).pre enc Tryz.prog Tryz.f8 [] false w args ∧ laidMetH Tryz.prog Rows.nodeSumsUptoRow.laid w) ∧ sizedMet enc Tryz.prog Tryz.f8 (Rows.OpenSpec.upto Rows.nodeSumsSpec) false w args)
      (((Rows.OpenSpec.upto Rows.nodeSumsSpec).at G).post enc Tryz.prog Tryz.f8 false true false false) :=
  yo0 (C := Tryz.checked) (k := 9) (s := Rows.OpenSpec.upto Rows.nodeSumsSpec) (kk := Rows.uptoSmall) rfl (X := fun w _ => laidMetH Tryz.prog Rows.nodeSumsUptoRow.laid w) (fun _ _ _ hh h => h.of_heap hh) (by kernel_rfl) started (by kernel_rfl) Tryz.func8
    (yzk (enc := enc) (C := Tryz.checked) (os := os) rfl rfl (X := fun w _ => laidMetH Tryz.prog Rows.nodeSumsUptoRow.laid w) (World.laidAll Tryz.prog os Rows.nodeSumsUptoRow.laid) #[.agg #[.slice none 0 0, .slice none 0 0, .slice none 0 0, .slice none 0 0, .slice none 0 0], .slice none 0 0, .slice none 0 0] 8 (World.laidAll_os _ _ _)
      (World.shaped_of_ZipB (by kernel_rfl) (by kernel_rfl)) (by kernel_rfl) (by kernel_rfl) (by kernel_rfl)
      (by rw [MakeChecks.laidMetH_plain _ _ _ (by kernel_rfl)]; exact laidMet_laidAll _ (by kernel_rfl) (by kernel_rfl)))
    (by kernel_rfl) (by kernel_rfl) (u := 4) rfl Tryz.underlying4 rfl (fun ds h => by match ds, h with | [_, _, _], _ => rfl)
    (zzo NN) (by kernel_rfl) (fun x => by kernel_rfl) RR (xer _ (by kernel_rfl)) (fun x hx => x8e (by decide) x.1 x.2.1 x.2.2 hx.1 hx.2.1 hx.2.2)
theorem nodeSumsUpto_row : Rows.NodeSumsUptoSaid :=
  OpenClaim.holds_of_cond 8 Tryz.f8 rfl rfl rfl rfl rfl rfl rfl ⟨rfl, rfl, rfl, rfl, rfl⟩ rfl rfl rfl rfl rfl (by kernel_rfl) Tryz.func8 (by kernel_rfl)
    (of_decide_eq_true (by kernel_rfl)) (by unfold Func.isWrapper; first | (rw [if_pos (by decide +kernel)]; kernel_rfl) | (rw [if_neg (by decide +kernel)]; exact ⟨rfl, rfl⟩))
    (fun os started H enc _ G => xdb os started H enc G)
theorem nodeSumsUpto_holds : Rows.NodeSumsUptoCardSaid :=
  Claim7.holds_tied_plain_at .later [] [.data, .pinned] true (true, "9d0d0b5c50a28c05a95358e01c7add15e43967e025348d2eaf07c5c51dab118c") false nodeSumsUpto_row (fun _ h => by cases h) (by kernel_rfl) (fun _ h => by cases h) nodeSumsUpto_row_tie rfl ⟨rfl, rfl⟩ (by kernel_rfl) rfl
    (fun f fn hf hfn => by
      obtain rfl : f = 8 := Option.some.inj ((show Tryz.prog.funcNamed "downspout/downspoutlaw10.NodeSums" = some 8 by kernel_rfl).symm.trans hf) |>.symm
      obtain rfl : fn = Tryz.f8 := (Option.some.inj (Tryz.func8.symm.trans hfn)).symm
      exact ⟨by kernel_rfl, fun j t ht => by
        rw [Tryz.params8] at ht
        have hm : t ∈ [27, 22, 32] := by have := Array.mem_of_getElem? ht; simp at this ⊢; omega
        have hall : ([27, 22, 32].all fun u => !Tryz.prog.wantsStandIn u) = true := by kernel_rfl
        exact (show Tryz.prog.wantsStandIn t = false by simpa using List.all_eq_true.1 hall t hm)⟩)
    (by kernel_rfl)
#print axioms nodeSumsUpto_holds
end Go.Proofs.YtpgikdaeicidaaaGreatDoor
