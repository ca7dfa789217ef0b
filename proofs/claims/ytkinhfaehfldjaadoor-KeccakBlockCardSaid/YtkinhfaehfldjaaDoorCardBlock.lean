/- The tied card of KeccakBlock. -/
import Derived.Test.YtkinhfaehfldjaaDoorG1
import Derived.Test.YtkinhfaehfldjaaDoorCards
import Derived.Test.YtkinhfaehfldjaaDoorTie
namespace Go.Proofs.YtkinhfaehfldjaaDoor
open Go
theorem keccakBlock_card_holds : Rows.KeccakBlockCardSaid :=
  Claim7.holds_tied_plain_at .later [] [.data, .data, .data] true (true, "d4859bb35e0e55594c73b451d98d3b3f896f68aafe890d73772a743aeb94701a") false
    block_holds (fun _ h => by cases h) (by kernel_rfl) (fun _ h => by cases h) keccakBlock_row_tie rfl ⟨rfl, rfl⟩ (by kernel_rfl) rfl
    (fun f fn hf hfn => by
      obtain rfl : f = 6 := Option.some.inj ((show Tryd.prog.funcNamed "loess/loesslaw01.KeccakBlock" = some 6 by kernel_rfl).symm.trans hf) |>.symm
      obtain rfl : fn = Tryd.f6 := (Option.some.inj (Tryd.func6.symm.trans hfn)).symm
      exact ⟨by kernel_rfl, fun j t ht => by
        rw [Tryd.params6] at ht
        have hm : t ∈ [9] := by simpa using Array.mem_of_getElem? ht
        have hall : ([9].all fun u => !Tryd.prog.wantsStandIn u) = true := by kernel_rfl
        exact (show Tryd.prog.wantsStandIn t = false by simpa using List.all_eq_true.1 hall t hm)⟩)
    (by kernel_rfl)
#print axioms keccakBlock_card_holds
end Go.Proofs.YtkinhfaehfldjaaDoor
