/- The tied card of KeccakParts. -/
import Derived.Test.YtkinhfaehfldjaaDoorF2
import Derived.Test.YtkinhfaehfldjaaDoorCards
import Derived.Test.YtkinhfaehfldjaaDoorTie
namespace Go.Proofs.YtkinhfaehfldjaaDoor
open Go
theorem keccakParts_card_holds : Rows.KeccakPartsCardSaid :=
  Claim7.holds_tied_plain_at .later [] [.data, .data, .data] true (true, "d4859bb35e0e55594c73b451d98d3b3f896f68aafe890d73772a743aeb94701a") false
    parts_holds (fun _ h => by cases h) (by kernel_rfl) (fun _ h => by cases h) keccakParts_row_tie rfl ⟨rfl, rfl⟩ (by kernel_rfl) rfl
    (fun f fn hf hfn => by
      obtain rfl : f = 7 := Option.some.inj ((show Tryd.prog.funcNamed "loess/loesslaw01.KeccakParts" = some 7 by kernel_rfl).symm.trans hf) |>.symm
      obtain rfl : fn = Tryd.f7 := (Option.some.inj (Tryd.func7.symm.trans hfn)).symm
      exact ⟨by kernel_rfl, fun j t ht => by
        rw [Tryd.params7] at ht
        have hm : t ∈ [34] := by simpa using Array.mem_of_getElem? ht
        have hall : ([34].all fun u => !Tryd.prog.wantsStandIn u) = true := by kernel_rfl
        exact (show Tryd.prog.wantsStandIn t = false by simpa using List.all_eq_true.1 hall t hm)⟩)
    (by kernel_rfl)
#print axioms keccakParts_card_holds
end Go.Proofs.YtkinhfaehfldjaaDoor
