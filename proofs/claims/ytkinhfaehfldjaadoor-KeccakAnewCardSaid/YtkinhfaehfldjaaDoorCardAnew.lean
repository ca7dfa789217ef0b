/- The tied card of KeccakAnew. -/
import Derived.Test.YtkinhfaehfldjaaDoorD2
import Derived.Test.YtkinhfaehfldjaaDoorCards
import Derived.Test.YtkinhfaehfldjaaDoorTie
namespace Go.Proofs.YtkinhfaehfldjaaDoor
open Go
theorem keccakAnew_card_holds : Rows.KeccakAnewCardSaid :=
  Claim7.holds_tied_plain_at .later [] [.data, .data, .data] true (true, "d4859bb35e0e55594c73b451d98d3b3f896f68aafe890d73772a743aeb94701a") false
    anew_holds (fun _ h => by cases h) (by kernel_rfl) (fun _ h => by cases h) keccakAnew_row_tie rfl ⟨rfl, rfl⟩ (by kernel_rfl) rfl
    (fun f fn hf hfn => by
      obtain rfl : f = 9 := Option.some.inj ((show Tryd.prog.funcNamed "loess/loesslaw01.KeccakAnew" = some 9 by kernel_rfl).symm.trans hf) |>.symm
      obtain rfl : fn = Tryd.f9 := (Option.some.inj (Tryd.func9.symm.trans hfn)).symm
      exact ⟨by kernel_rfl, fun j t ht => by
        rw [Tryd.params9] at ht
        have hm : t ∈ [9, 9] := by simpa using Array.mem_of_getElem? ht
        have hall : ([9, 9].all fun u => !Tryd.prog.wantsStandIn u) = true := by kernel_rfl
        exact (show Tryd.prog.wantsStandIn t = false by simpa using List.all_eq_true.1 hall t hm)⟩)
    (by kernel_rfl)
#print axioms keccakAnew_card_holds
end Go.Proofs.YtkinhfaehfldjaaDoor
