/-
  NARROWER THAN 'FOR EVERY INPUT', by the rows' own cells (each row's printed sentence says how): KeccakPermutes: laid · KeccakSums: laid · KeccakOne: laid · KeccakBlock: laid · KeccakParts: laid · KeccakNil: laid · KeccakAnew: laid.
  DERIVED. THE GIVEN ROWS OF THIS SEAT. 7 by the template 'for every input the law returns true; each argument reads behind the call as it read before'; 0 by the template 'total and deterministic' (their statements: YtkinhfaehfldjaaDoorTotals.lean).
  GIVEN WITH THE SEED: the statements are not yours to turn. If you find one false, say at which input.
  Laid BY PROGRAM, IN A SANDBOX (cutbox-rows.mjs): the forced cells as the released guide's own fill.sh prints them over the translation 347ea61fed4b1b70… (all of the seat's roots in one cut). By AI agents, Wed Nov 11 2026. No macro, syntax, notation, axiom, sorry.
-/
import Derived.Test.YtkinhfaehfldjaaDoorChecked
import GoSem.Claim
import GoSem.ClaimJoined
import GoSem.ClaimMapViews
import Derived.JoinedTies
import Derived.KernelRfl
namespace Go.Proofs.YtkinhfaehfldjaaDoor
/- THE CELL 'sum', in the pinned program and in every row, IS THE sha256 OF THE DUMP (.gsa) THAT YtkinhfaehfldjaaDoorProg.lean LOADS. Nothing in Lean hashes anything: it is a label: what it is worth is what the hold of that sum in a sandbox is worth. -/
noncomputable def Tryd.pinned : Pinned := { name := "ytkinhfaehfldjaadoor", sum := "347ea61fed4b1b706320aa3be096c822bb85d737785a8257bac0ae03fa7f788a", checked := Tryd.checked }
namespace Rows
def none {H : Type} : Left H := { results := [], args := [] }

/- WHAT THE LISTED PACKAGE-LEVEL VARIABLES READ AS WHEN THE CALL BEGINS. Each datum BY PROGRAM (the guide's laid-datum.mjs) off the statement by which the dump's own 'gosem.cut.vars' lays the variable. In a bare row this is a premise. The card (YtkinhfaehfldjaaDoorCards.lean) ties it to the program's text. -/
def laid_loess_keccak_constants {H : Type} : DataW H := .agg [.lit (.int .u64 1), .lit (.int .u64 32898), .lit (.int .u64 9223372036854808714), .lit (.int .u64 9223372039002292224), .lit (.int .u64 32907), .lit (.int .u64 2147483649), .lit (.int .u64 9223372039002292353), .lit (.int .u64 9223372036854808585), .lit (.int .u64 138), .lit (.int .u64 136), .lit (.int .u64 2147516425), .lit (.int .u64 2147483658), .lit (.int .u64 2147516555), .lit (.int .u64 9223372036854775947), .lit (.int .u64 9223372036854808713), .lit (.int .u64 9223372036854808579), .lit (.int .u64 9223372036854808578), .lit (.int .u64 9223372036854775936), .lit (.int .u64 32778), .lit (.int .u64 9223372039002259466), .lit (.int .u64 9223372039002292353), .lit (.int .u64 9223372036854808704), .lit (.int .u64 2147483649), .lit (.int .u64 9223372039002292232)]
def laid_loess_keccak_turns {H : Type} : DataW H := .agg [.lit (.int .i64 0), .lit (.int .i64 1), .lit (.int .i64 62), .lit (.int .i64 28), .lit (.int .i64 27), .lit (.int .i64 36), .lit (.int .i64 44), .lit (.int .i64 6), .lit (.int .i64 55), .lit (.int .i64 20), .lit (.int .i64 3), .lit (.int .i64 10), .lit (.int .i64 43), .lit (.int .i64 25), .lit (.int .i64 39), .lit (.int .i64 41), .lit (.int .i64 45), .lit (.int .i64 15), .lit (.int .i64 21), .lit (.int .i64 8), .lit (.int .i64 18), .lit (.int .i64 2), .lit (.int .i64 61), .lit (.int .i64 56), .lit (.int .i64 14)]
def laid_loess_keccak_places {H : Type} : DataW H := .agg [.lit (.int .i64 0), .lit (.int .i64 10), .lit (.int .i64 20), .lit (.int .i64 5), .lit (.int .i64 15), .lit (.int .i64 16), .lit (.int .i64 1), .lit (.int .i64 11), .lit (.int .i64 21), .lit (.int .i64 6), .lit (.int .i64 7), .lit (.int .i64 17), .lit (.int .i64 2), .lit (.int .i64 12), .lit (.int .i64 22), .lit (.int .i64 23), .lit (.int .i64 8), .lit (.int .i64 18), .lit (.int .i64 3), .lit (.int .i64 13), .lit (.int .i64 14), .lit (.int .i64 24), .lit (.int .i64 9), .lit (.int .i64 19), .lit (.int .i64 4)]

/-- 'loesslaw01.KeccakPermutes': WHATEVER THE INPUT: true; the input reads as it did. -/
def keccakPermutesSpec : ChangeSpec := { name := "keccakPermutes", fn := fun _ => fun
  | [d] => { results := [.lit (.bool true)], args := [d] }
  | _ => none }
def keccakPermutesRow : OpenClaim := { program := "ytkinhfaehfldjaadoor", sum := "347ea61fed4b1b706320aa3be096c822bb85d737785a8257bac0ae03fa7f788a", func := "loess/loesslaw01.KeccakPermutes", spec := "keccakPermutes", named := ["loess/keccak.constants", "loess/keccak.places", "loess/keccak.turns"], apart := false, laid := [("loess/keccak.constants", laid_loess_keccak_constants), ("loess/keccak.turns", laid_loess_keccak_turns), ("loess/keccak.places", laid_loess_keccak_places)] }
def KeccakPermutesSaid : Prop := keccakPermutesRow.holds Tryd.pinned (OpenSpec.ofChange keccakPermutesSpec)

/-- ITS FALSE NEIGHBOUR: 'it returns false'. Refute it at one input. -/
def keccakPermutesWrong : ChangeSpec := { name := "keccakPermutes", fn := fun _ => fun
  | [d] => { results := [.lit (.bool false)], args := [d] }
  | _ => none }
def KeccakPermutesWrongFalsely : Prop := keccakPermutesRow.holds Tryd.pinned (OpenSpec.ofChange keccakPermutesWrong)

/-- 'loesslaw01.KeccakSums': WHATEVER THE INPUT: true; the input reads as it did. -/
def keccakSumsSpec : ChangeSpec := { name := "keccakSums", fn := fun _ => fun
  | [d] => { results := [.lit (.bool true)], args := [d] }
  | _ => none }
def keccakSumsRow : OpenClaim := { program := "ytkinhfaehfldjaadoor", sum := "347ea61fed4b1b706320aa3be096c822bb85d737785a8257bac0ae03fa7f788a", func := "loess/loesslaw01.KeccakSums", spec := "keccakSums", named := ["loess/keccak.constants", "loess/keccak.places", "loess/keccak.turns"], apart := false, laid := [("loess/keccak.constants", laid_loess_keccak_constants), ("loess/keccak.turns", laid_loess_keccak_turns), ("loess/keccak.places", laid_loess_keccak_places)] }
def KeccakSumsSaid : Prop := keccakSumsRow.holds Tryd.pinned (OpenSpec.ofChange keccakSumsSpec)

/-- ITS FALSE NEIGHBOUR: 'it returns false'. Refute it at one input. -/
def keccakSumsWrong : ChangeSpec := { name := "keccakSums", fn := fun _ => fun
  | [d] => { results := [.lit (.bool false)], args := [d] }
  | _ => none }
def KeccakSumsWrongFalsely : Prop := keccakSumsRow.holds Tryd.pinned (OpenSpec.ofChange keccakSumsWrong)

/-- 'loesslaw01.KeccakOne': WHATEVER THE INPUT: true; the input reads as it did. -/
def keccakOneSpec : ChangeSpec := { name := "keccakOne", fn := fun _ => fun
  | [d1, d2] => { results := [.lit (.bool true)], args := [d1, d2] }
  | _ => none }
def keccakOneRow : OpenClaim := { program := "ytkinhfaehfldjaadoor", sum := "347ea61fed4b1b706320aa3be096c822bb85d737785a8257bac0ae03fa7f788a", func := "loess/loesslaw01.KeccakOne", spec := "keccakOne", named := ["loess/keccak.constants", "loess/keccak.places", "loess/keccak.turns"], apart := false, laid := [("loess/keccak.constants", laid_loess_keccak_constants), ("loess/keccak.turns", laid_loess_keccak_turns), ("loess/keccak.places", laid_loess_keccak_places)] }
def KeccakOneSaid : Prop := keccakOneRow.holds Tryd.pinned (OpenSpec.ofChange keccakOneSpec)

/-- ITS FALSE NEIGHBOUR: 'it returns false'. Refute it at one input. -/
def keccakOneWrong : ChangeSpec := { name := "keccakOne", fn := fun _ => fun
  | [d1, d2] => { results := [.lit (.bool false)], args := [d1, d2] }
  | _ => none }
def KeccakOneWrongFalsely : Prop := keccakOneRow.holds Tryd.pinned (OpenSpec.ofChange keccakOneWrong)

/-- 'loesslaw01.KeccakBlock': WHATEVER THE INPUT: true; the input reads as it did. -/
def keccakBlockSpec : ChangeSpec := { name := "keccakBlock", fn := fun _ => fun
  | [d] => { results := [.lit (.bool true)], args := [d] }
  | _ => none }
def keccakBlockRow : OpenClaim := { program := "ytkinhfaehfldjaadoor", sum := "347ea61fed4b1b706320aa3be096c822bb85d737785a8257bac0ae03fa7f788a", func := "loess/loesslaw01.KeccakBlock", spec := "keccakBlock", named := ["loess/keccak.constants", "loess/keccak.places", "loess/keccak.turns"], apart := false, laid := [("loess/keccak.constants", laid_loess_keccak_constants), ("loess/keccak.turns", laid_loess_keccak_turns), ("loess/keccak.places", laid_loess_keccak_places)] }
def KeccakBlockSaid : Prop := keccakBlockRow.holds Tryd.pinned (OpenSpec.ofChange keccakBlockSpec)

/-- ITS FALSE NEIGHBOUR: 'it returns false'. Refute it at one input. -/
def keccakBlockWrong : ChangeSpec := { name := "keccakBlock", fn := fun _ => fun
  | [d] => { results := [.lit (.bool false)], args := [d] }
  | _ => none }
def KeccakBlockWrongFalsely : Prop := keccakBlockRow.holds Tryd.pinned (OpenSpec.ofChange keccakBlockWrong)

/-- 'loesslaw01.KeccakParts': WHATEVER THE INPUT: true; the input reads as it did. -/
def keccakPartsSpec : ChangeSpec := { name := "keccakParts", fn := fun _ => fun
  | [d] => { results := [.lit (.bool true)], args := [d] }
  | _ => none }
def keccakPartsRow : OpenClaim := { program := "ytkinhfaehfldjaadoor", sum := "347ea61fed4b1b706320aa3be096c822bb85d737785a8257bac0ae03fa7f788a", func := "loess/loesslaw01.KeccakParts", spec := "keccakParts", named := ["loess/keccak.constants", "loess/keccak.places", "loess/keccak.turns"], apart := false, laid := [("loess/keccak.constants", laid_loess_keccak_constants), ("loess/keccak.turns", laid_loess_keccak_turns), ("loess/keccak.places", laid_loess_keccak_places)] }
def KeccakPartsSaid : Prop := keccakPartsRow.holds Tryd.pinned (OpenSpec.ofChange keccakPartsSpec)

/-- ITS FALSE NEIGHBOUR: 'it returns false'. Refute it at one input. -/
def keccakPartsWrong : ChangeSpec := { name := "keccakParts", fn := fun _ => fun
  | [d] => { results := [.lit (.bool false)], args := [d] }
  | _ => none }
def KeccakPartsWrongFalsely : Prop := keccakPartsRow.holds Tryd.pinned (OpenSpec.ofChange keccakPartsWrong)

/-- 'loesslaw01.KeccakNil': WHATEVER THE INPUT: true; the input reads as it did. -/
def keccakNilSpec : ChangeSpec := { name := "keccakNil", fn := fun _ => fun
  | [d] => { results := [.lit (.bool true)], args := [d] }
  | _ => none }
def keccakNilRow : OpenClaim := { program := "ytkinhfaehfldjaadoor", sum := "347ea61fed4b1b706320aa3be096c822bb85d737785a8257bac0ae03fa7f788a", func := "loess/loesslaw01.KeccakNil", spec := "keccakNil", named := ["loess/keccak.constants", "loess/keccak.places", "loess/keccak.turns"], apart := false, laid := [("loess/keccak.constants", laid_loess_keccak_constants), ("loess/keccak.turns", laid_loess_keccak_turns), ("loess/keccak.places", laid_loess_keccak_places)] }
def KeccakNilSaid : Prop := keccakNilRow.holds Tryd.pinned (OpenSpec.ofChange keccakNilSpec)

/-- ITS FALSE NEIGHBOUR: 'it returns false'. Refute it at one input. -/
def keccakNilWrong : ChangeSpec := { name := "keccakNil", fn := fun _ => fun
  | [d] => { results := [.lit (.bool false)], args := [d] }
  | _ => none }
def KeccakNilWrongFalsely : Prop := keccakNilRow.holds Tryd.pinned (OpenSpec.ofChange keccakNilWrong)

/-- 'loesslaw01.KeccakAnew': WHATEVER THE INPUT: true; the input reads as it did. -/
def keccakAnewSpec : ChangeSpec := { name := "keccakAnew", fn := fun _ => fun
  | [d1, d2] => { results := [.lit (.bool true)], args := [d1, d2] }
  | _ => none }
def keccakAnewRow : OpenClaim := { program := "ytkinhfaehfldjaadoor", sum := "347ea61fed4b1b706320aa3be096c822bb85d737785a8257bac0ae03fa7f788a", func := "loess/loesslaw01.KeccakAnew", spec := "keccakAnew", named := ["loess/keccak.constants", "loess/keccak.places", "loess/keccak.turns"], apart := false, laid := [("loess/keccak.constants", laid_loess_keccak_constants), ("loess/keccak.turns", laid_loess_keccak_turns), ("loess/keccak.places", laid_loess_keccak_places)] }
def KeccakAnewSaid : Prop := keccakAnewRow.holds Tryd.pinned (OpenSpec.ofChange keccakAnewSpec)

/-- ITS FALSE NEIGHBOUR: 'it returns false'. Refute it at one input. -/
def keccakAnewWrong : ChangeSpec := { name := "keccakAnew", fn := fun _ => fun
  | [d1, d2] => { results := [.lit (.bool false)], args := [d1, d2] }
  | _ => none }
def KeccakAnewWrongFalsely : Prop := keccakAnewRow.holds Tryd.pinned (OpenSpec.ofChange keccakAnewWrong)

/- THE SECOND FORM. 'bulk': how many values and letters a reading holds, each counted each time it is reached (what is shared counts as often as it is met; a slice's spare places count too). A statement '..UptoSaid' is the law's where the arguments, and the package variables that the reading takes, are together of bulk at most 1048576: NARROWER than '..Said'. Prove '..Said' where nothing that the law and all that it calls make is longer than what came in: it says more and counts as full. Else prove '..UptoSaid'. A law counts once. -/
mutual
def uptoBulk {H : Type} : DataW H → Nat
  | .lit (.string bytes) => bytes.length + 1
  | .lit _ => 1
  | .nil => 1
  | .ptr d => uptoBulk d + 1
  | .slice elems spare => uptoBulkAll elems + uptoBulkAll spare + 1
  | .agg parts => uptoBulkAll parts + 1
  | .iface _ d => uptoBulk d + 1
  | .map entries => uptoBulkEntries entries + 1
  | .held _ => 1
def uptoBulkAll {H : Type} : List (DataW H) → Nat
  | [] => 0
  | d :: r => uptoBulk d + uptoBulkAll r
def uptoBulkEntries {H : Type} : List (Lit × DataW H) → Nat
  | [] => 0
  | x :: r => uptoBulkEntry x + uptoBulkEntries r
def uptoBulkEntry {H : Type} : Lit × DataW H → Nat
  | (.string bytes, d) => bytes.length + uptoBulk d + 1
  | (_, d) => uptoBulk d + 1
 end
def uptoSmall : (H : Type) → List (DataW H) → Bool := fun _ ds => decide (uptoBulkAll ds ≤ 1048576)
def OpenSpec.upto (s : _root_.Go.ChangeSpec) : _root_.Go.OpenSpec := { _root_.Go.OpenSpec.ofChange s with cond := some uptoSmall }

/-- 'loesslaw01.KeccakPermutes', WHERE WHAT IT READS IS OF BULK AT MOST 1048576: true; the input reads as it did. -/
def keccakPermutesUptoRow : OpenClaim := { program := "ytkinhfaehfldjaadoor", sum := "347ea61fed4b1b706320aa3be096c822bb85d737785a8257bac0ae03fa7f788a", func := "loess/loesslaw01.KeccakPermutes", spec := "keccakPermutes", named := ["loess/keccak.constants", "loess/keccak.places", "loess/keccak.turns"], apart := false, laid := [("loess/keccak.constants", laid_loess_keccak_constants), ("loess/keccak.turns", laid_loess_keccak_turns), ("loess/keccak.places", laid_loess_keccak_places)], narrowed := true }
def KeccakPermutesUptoSaid : Prop := keccakPermutesUptoRow.holds Tryd.pinned (OpenSpec.upto keccakPermutesSpec)

/-- 'loesslaw01.KeccakSums', WHERE WHAT IT READS IS OF BULK AT MOST 1048576: true; the input reads as it did. -/
def keccakSumsUptoRow : OpenClaim := { program := "ytkinhfaehfldjaadoor", sum := "347ea61fed4b1b706320aa3be096c822bb85d737785a8257bac0ae03fa7f788a", func := "loess/loesslaw01.KeccakSums", spec := "keccakSums", named := ["loess/keccak.constants", "loess/keccak.places", "loess/keccak.turns"], apart := false, laid := [("loess/keccak.constants", laid_loess_keccak_constants), ("loess/keccak.turns", laid_loess_keccak_turns), ("loess/keccak.places", laid_loess_keccak_places)], narrowed := true }
def KeccakSumsUptoSaid : Prop := keccakSumsUptoRow.holds Tryd.pinned (OpenSpec.upto keccakSumsSpec)

/-- 'loesslaw01.KeccakOne', WHERE WHAT IT READS IS OF BULK AT MOST 1048576: true; the input reads as it did. -/
def keccakOneUptoRow : OpenClaim := { program := "ytkinhfaehfldjaadoor", sum := "347ea61fed4b1b706320aa3be096c822bb85d737785a8257bac0ae03fa7f788a", func := "loess/loesslaw01.KeccakOne", spec := "keccakOne", named := ["loess/keccak.constants", "loess/keccak.places", "loess/keccak.turns"], apart := false, laid := [("loess/keccak.constants", laid_loess_keccak_constants), ("loess/keccak.turns", laid_loess_keccak_turns), ("loess/keccak.places", laid_loess_keccak_places)], narrowed := true }
def KeccakOneUptoSaid : Prop := keccakOneUptoRow.holds Tryd.pinned (OpenSpec.upto keccakOneSpec)

/-- 'loesslaw01.KeccakBlock', WHERE WHAT IT READS IS OF BULK AT MOST 1048576: true; the input reads as it did. -/
def keccakBlockUptoRow : OpenClaim := { program := "ytkinhfaehfldjaadoor", sum := "347ea61fed4b1b706320aa3be096c822bb85d737785a8257bac0ae03fa7f788a", func := "loess/loesslaw01.KeccakBlock", spec := "keccakBlock", named := ["loess/keccak.constants", "loess/keccak.places", "loess/keccak.turns"], apart := false, laid := [("loess/keccak.constants", laid_loess_keccak_constants), ("loess/keccak.turns", laid_loess_keccak_turns), ("loess/keccak.places", laid_loess_keccak_places)], narrowed := true }
def KeccakBlockUptoSaid : Prop := keccakBlockUptoRow.holds Tryd.pinned (OpenSpec.upto keccakBlockSpec)

/-- 'loesslaw01.KeccakParts', WHERE WHAT IT READS IS OF BULK AT MOST 1048576: true; the input reads as it did. -/
def keccakPartsUptoRow : OpenClaim := { program := "ytkinhfaehfldjaadoor", sum := "347ea61fed4b1b706320aa3be096c822bb85d737785a8257bac0ae03fa7f788a", func := "loess/loesslaw01.KeccakParts", spec := "keccakParts", named := ["loess/keccak.constants", "loess/keccak.places", "loess/keccak.turns"], apart := false, laid := [("loess/keccak.constants", laid_loess_keccak_constants), ("loess/keccak.turns", laid_loess_keccak_turns), ("loess/keccak.places", laid_loess_keccak_places)], narrowed := true }
def KeccakPartsUptoSaid : Prop := keccakPartsUptoRow.holds Tryd.pinned (OpenSpec.upto keccakPartsSpec)

/-- 'loesslaw01.KeccakNil', WHERE WHAT IT READS IS OF BULK AT MOST 1048576: true; the input reads as it did. -/
def keccakNilUptoRow : OpenClaim := { program := "ytkinhfaehfldjaadoor", sum := "347ea61fed4b1b706320aa3be096c822bb85d737785a8257bac0ae03fa7f788a", func := "loess/loesslaw01.KeccakNil", spec := "keccakNil", named := ["loess/keccak.constants", "loess/keccak.places", "loess/keccak.turns"], apart := false, laid := [("loess/keccak.constants", laid_loess_keccak_constants), ("loess/keccak.turns", laid_loess_keccak_turns), ("loess/keccak.places", laid_loess_keccak_places)], narrowed := true }
def KeccakNilUptoSaid : Prop := keccakNilUptoRow.holds Tryd.pinned (OpenSpec.upto keccakNilSpec)

/-- 'loesslaw01.KeccakAnew', WHERE WHAT IT READS IS OF BULK AT MOST 1048576: true; the input reads as it did. -/
def keccakAnewUptoRow : OpenClaim := { program := "ytkinhfaehfldjaadoor", sum := "347ea61fed4b1b706320aa3be096c822bb85d737785a8257bac0ae03fa7f788a", func := "loess/loesslaw01.KeccakAnew", spec := "keccakAnew", named := ["loess/keccak.constants", "loess/keccak.places", "loess/keccak.turns"], apart := false, laid := [("loess/keccak.constants", laid_loess_keccak_constants), ("loess/keccak.turns", laid_loess_keccak_turns), ("loess/keccak.places", laid_loess_keccak_places)], narrowed := true }
def KeccakAnewUptoSaid : Prop := keccakAnewUptoRow.holds Tryd.pinned (OpenSpec.upto keccakAnewSpec)

end Rows
end Go.Proofs.YtkinhfaehfldjaaDoor
