/- NodeBytes holds for every input that is small enough: a node is read from its bytes, two nodes have the same bytes exactly if they are equal, and whatever bytes are accepted are those of a valid node. The arguments together are of bulk at most 1048576. The card is tied: the two tables of unicode/utf8 are laid as the program's text lays them (the tie is given); the calls that count read neither. -/
import Derived.Test.YtpgikdaeicidaaaGreatDoorDsChk
import Derived.Test.YtpgikdaeicidaaaGreatDoorDvE
import Derived.Test.YtpgikdaeicidaaaGreatDoorDsBulk
import Derived.Test.YtpgikdaeicidaaaGreatDoorDsLawB
import Derived.Test.YtpgikdaeicidaaaGreatDoorTie
import Derived.Test.YtpgikdaeicidaaaGreatDoorCards
import Derived.SevenTiedAt
import Derived.Stop.Joined
set_option linter.all false
namespace Go.Proofs.YtpgikdaeicidaaaGreatDoor
open Go Go.Dv Ds
open Go.ChangeShapes Go.WideShapes Go.ChangeAt Go.RowKit
set_option maxRecDepth 100000 in
theorem lifted4 (os : Os) (started : os.Started) (H : Type) (enc : TypeId × Value → H) (G : Stop.Interp) :
    ReturnsInHanded {} Tryz.checked os 4 .any (fun w args => ((Rows.OpenSpec.upto Rows.nodeBytesSpec).pre enc Tryz.prog Tryz.f4 [] false w args ∧ laidMetH Tryz.prog Rows.nodeBytesUptoRow.laid w) ∧ sizedMet enc Tryz.prog Tryz.f4 (Rows.OpenSpec.upto Rows.nodeBytesSpec) false w args)
      (((Rows.OpenSpec.upto Rows.nodeBytesSpec).at G).post enc Tryz.prog Tryz.f4 false true false false) :=
  law_lifted_upto (C := Tryz.checked) (k := 9) (s := Rows.OpenSpec.upto Rows.nodeBytesSpec) (kk := Rows.uptoSmall) rfl (X := fun w _ => laidMetH Tryz.prog Rows.nodeBytesUptoRow.laid w) (fun _ _ _ hh h => h.of_heap hh) (by kernel_rfl) started (by kernel_rfl) Tryz.func4
    (witness_upto (enc := enc) (C := Tryz.checked) (os := os) rfl rfl (X := fun w _ => laidMetH Tryz.prog Rows.nodeBytesUptoRow.laid w) (World.laidAll Tryz.prog os Rows.nodeBytesUptoRow.laid) #[.agg #[.slice none 0 0, .slice none 0 0, .slice none 0 0, .slice none 0 0, .slice none 0 0, .slice none 0 0, .slice none 0 0, .slice none 0 0, .slice none 0 0, .slice none 0 0], .agg #[.int .u16 0, .int .u16 0], .slice none 0 0] 8 (World.laidAll_os _ _ _)
      (World.shaped_of_ZipB (by kernel_rfl) (by kernel_rfl)) (by kernel_rfl) (by kernel_rfl) (by kernel_rfl)
      (by rw [MakeChecks.laidMetH_plain _ _ _ (by kernel_rfl)]; exact laidMet_laidAll _ (by kernel_rfl) (by kernel_rfl)))
    (by kernel_rfl) (by kernel_rfl) (u := 4) rfl Tryz.underlying4 rfl (fun ds h => by match ds, h with | [_, _, _], _ => rfl)
    (sound_law10_NodeBytes NN) (by kernel_rfl) (fun x => by kernel_rfl) RR (bulk_R _ (by kernel_rfl)) (fun x hx => plainBytes10 (by decide) x.1 x.2.1 x.2.2 hx.1 hx.2.1 hx.2.2)
theorem nodeBytesUpto_row : Rows.NodeBytesUptoSaid :=
  OpenClaim.holds_of_cond 4 Tryz.f4 rfl rfl rfl rfl rfl rfl rfl ⟨rfl, rfl, rfl, rfl, rfl⟩ rfl rfl rfl rfl rfl (by kernel_rfl) Tryz.func4 (by kernel_rfl)
    (of_decide_eq_true (by kernel_rfl)) (by unfold Func.isWrapper; first | (rw [if_pos (by decide +kernel)]; kernel_rfl) | (rw [if_neg (by decide +kernel)]; exact ⟨rfl, rfl⟩))
    (fun os started H enc _ G => lifted4 os started H enc G)
theorem nodeBytesUpto_holds : Rows.NodeBytesUptoCardSaid :=
  Claim7.holds_tied_plain_at .later [] [.data, .pinned] true (true, "9d0d0b5c50a28c05a95358e01c7add15e43967e025348d2eaf07c5c51dab118c") false nodeBytesUpto_row (fun _ h => by cases h) (by kernel_rfl) (fun _ h => by cases h) nodeBytesUpto_row_tie rfl ⟨rfl, rfl⟩ (by kernel_rfl) rfl
    (fun f fn hf hfn => by
      obtain rfl : f = 4 := Option.some.inj ((show Tryz.prog.funcNamed "downspout/downspoutlaw10.NodeBytes" = some 4 by kernel_rfl).symm.trans hf) |>.symm
      obtain rfl : fn = Tryz.f4 := (Option.some.inj (Tryz.func4.symm.trans hfn)).symm
      exact ⟨by kernel_rfl, fun j t ht => by
        rw [Tryz.params4] at ht
        have hm : t ∈ [55, 57, 23] := by have := Array.mem_of_getElem? ht; simp at this ⊢; omega
        have hall : ([55, 57, 23].all fun u => !Tryz.prog.wantsStandIn u) = true := by kernel_rfl
        exact (show Tryz.prog.wantsStandIn t = false by simpa using List.all_eq_true.1 hall t hm)⟩)
    (by kernel_rfl)
#print axioms nodeBytesUpto_holds
end Go.Proofs.YtpgikdaeicidaaaGreatDoor
