/-
  NARROWER THAN 'FOR EVERY INPUT', by the rows' own cells (each row's printed sentence says how): StateGrows: laid · StatePaths: laid · StateRows: laid · StateTells: laid · StateFiles: laid · StateOrder: laid.
  DERIVED. THE GIVEN ROWS OF THIS SEAT. 6 by the template 'for every input the law returns true; each argument reads behind the call as it read before'; 0 by the template 'total and deterministic' (their statements: YthnfkjcndidoaaaGreatDoorTotals.lean).
  GIVEN WITH THE SEED: the statements are not yours to turn. If you find one false, say at which input.
  Laid BY PROGRAM, IN A SANDBOX (cutbox-rows.mjs): the forced cells as the released guide's own fill.sh prints them over the translation 166c220d83bc9118… (all of the seat's roots in one cut). By AI agents, Wed Nov 11 2026. No macro, syntax, notation, axiom, sorry.
-/
import Derived.Test.YthnfkjcndidoaaaGreatDoorChecked
import GoSem.Claim
import GoSem.ClaimJoined
import GoSem.ClaimMapViews
import Derived.JoinedTies
import Derived.KernelRfl
namespace Go.Proofs.YthnfkjcndidoaaaGreatDoor
/- THE CELL 'sum', in the pinned program and in every row, IS THE sha256 OF THE DUMP (.gsa) THAT YthnfkjcndidoaaaGreatDoorProg.lean LOADS. Nothing in Lean hashes anything: it is a label: what it is worth is what the hold of that sum in a sandbox is worth. -/
noncomputable def Tryz.pinned : Pinned := { name := "ythnfkjcndidoaaagreatdoor", sum := "166c220d83bc9118c183a8ca9da19dd24a99019a9d28164ea286fa43602967e9", checked := Tryz.checked }
namespace Rows
def none {H : Type} : Left H := { results := [], args := [] }

/- WHAT THE LISTED PACKAGE-LEVEL VARIABLES READ AS WHEN THE CALL BEGINS. Each datum BY PROGRAM (the guide's laid-datum.mjs) off the statement by which the dump's own 'gosem.cut.vars' lays the variable. In a bare row this is a premise. The card (YthnfkjcndidoaaaGreatDoorCards.lean) ties it to the program's text. -/
def laid_math_bits_deBruijn64tab {H : Type} : DataW H := .agg [.lit (.int .u8 0), .lit (.int .u8 1), .lit (.int .u8 56), .lit (.int .u8 2), .lit (.int .u8 57), .lit (.int .u8 49), .lit (.int .u8 28), .lit (.int .u8 3), .lit (.int .u8 61), .lit (.int .u8 58), .lit (.int .u8 42), .lit (.int .u8 50), .lit (.int .u8 38), .lit (.int .u8 29), .lit (.int .u8 17), .lit (.int .u8 4), .lit (.int .u8 62), .lit (.int .u8 47), .lit (.int .u8 59), .lit (.int .u8 36), .lit (.int .u8 45), .lit (.int .u8 43), .lit (.int .u8 51), .lit (.int .u8 22), .lit (.int .u8 53), .lit (.int .u8 39), .lit (.int .u8 33), .lit (.int .u8 30), .lit (.int .u8 24), .lit (.int .u8 18), .lit (.int .u8 12), .lit (.int .u8 5), .lit (.int .u8 63), .lit (.int .u8 55), .lit (.int .u8 48), .lit (.int .u8 27), .lit (.int .u8 60), .lit (.int .u8 41), .lit (.int .u8 37), .lit (.int .u8 16), .lit (.int .u8 46), .lit (.int .u8 35), .lit (.int .u8 44), .lit (.int .u8 21), .lit (.int .u8 52), .lit (.int .u8 32), .lit (.int .u8 23), .lit (.int .u8 11), .lit (.int .u8 54), .lit (.int .u8 26), .lit (.int .u8 40), .lit (.int .u8 15), .lit (.int .u8 34), .lit (.int .u8 20), .lit (.int .u8 31), .lit (.int .u8 10), .lit (.int .u8 25), .lit (.int .u8 14), .lit (.int .u8 19), .lit (.int .u8 9), .lit (.int .u8 13), .lit (.int .u8 8), .lit (.int .u8 7), .lit (.int .u8 6)]

/-- 'centolaw13.StateGrows': WHATEVER THE INPUT: true; the input reads as it did. -/
def stateGrowsSpec : ChangeSpec := { name := "stateGrows", fn := fun _ => fun
  | [d1, d2] => { results := [.lit (.bool true)], args := [d1, d2] }
  | _ => none }
def stateGrowsRow : OpenClaim := { program := "ythnfkjcndidoaaagreatdoor", sum := "166c220d83bc9118c183a8ca9da19dd24a99019a9d28164ea286fa43602967e9", func := "cento/centolaw13.StateGrows", spec := "stateGrows", unfollowed := true, recurses := true, named := ["math/bits.deBruijn64tab"], plainKeys := false, apart := false, laid := [("math/bits.deBruijn64tab", laid_math_bits_deBruijn64tab)] }
def StateGrowsSaid : Prop := stateGrowsRow.holds Tryz.pinned (OpenSpec.ofChange stateGrowsSpec)

/-- ITS FALSE NEIGHBOUR: 'it returns false'. Refute it at one input. -/
def stateGrowsWrong : ChangeSpec := { name := "stateGrows", fn := fun _ => fun
  | [d1, d2] => { results := [.lit (.bool false)], args := [d1, d2] }
  | _ => none }
def StateGrowsWrongFalsely : Prop := stateGrowsRow.holds Tryz.pinned (OpenSpec.ofChange stateGrowsWrong)

/-- 'centolaw13.StatePaths': WHATEVER THE INPUT: true; the input reads as it did. -/
def statePathsSpec : ChangeSpec := { name := "statePaths", fn := fun _ => fun
  | [d] => { results := [.lit (.bool true)], args := [d] }
  | _ => none }
def statePathsRow : OpenClaim := { program := "ythnfkjcndidoaaagreatdoor", sum := "166c220d83bc9118c183a8ca9da19dd24a99019a9d28164ea286fa43602967e9", func := "cento/centolaw13.StatePaths", spec := "statePaths", unfollowed := true, recurses := true, named := ["math/bits.deBruijn64tab"], plainKeys := false, apart := false, laid := [("math/bits.deBruijn64tab", laid_math_bits_deBruijn64tab)] }
def StatePathsSaid : Prop := statePathsRow.holds Tryz.pinned (OpenSpec.ofChange statePathsSpec)

/-- ITS FALSE NEIGHBOUR: 'it returns false'. Refute it at one input. -/
def statePathsWrong : ChangeSpec := { name := "statePaths", fn := fun _ => fun
  | [d] => { results := [.lit (.bool false)], args := [d] }
  | _ => none }
def StatePathsWrongFalsely : Prop := statePathsRow.holds Tryz.pinned (OpenSpec.ofChange statePathsWrong)

/-- 'centolaw13.StateRows': WHATEVER THE INPUT: true; the input reads as it did. -/
def stateRowsSpec : ChangeSpec := { name := "stateRows", fn := fun _ => fun
  | [d1, d2] => { results := [.lit (.bool true)], args := [d1, d2] }
  | _ => none }
def stateRowsRow : OpenClaim := { program := "ythnfkjcndidoaaagreatdoor", sum := "166c220d83bc9118c183a8ca9da19dd24a99019a9d28164ea286fa43602967e9", func := "cento/centolaw13.StateRows", spec := "stateRows", unfollowed := true, recurses := true, named := ["math/bits.deBruijn64tab"], plainKeys := false, apart := false, laid := [("math/bits.deBruijn64tab", laid_math_bits_deBruijn64tab)] }
def StateRowsSaid : Prop := stateRowsRow.holds Tryz.pinned (OpenSpec.ofChange stateRowsSpec)

/-- ITS FALSE NEIGHBOUR: 'it returns false'. Refute it at one input. -/
def stateRowsWrong : ChangeSpec := { name := "stateRows", fn := fun _ => fun
  | [d1, d2] => { results := [.lit (.bool false)], args := [d1, d2] }
  | _ => none }
def StateRowsWrongFalsely : Prop := stateRowsRow.holds Tryz.pinned (OpenSpec.ofChange stateRowsWrong)

/-- 'centolaw13.StateTells': WHATEVER THE INPUT: true; the input reads as it did. -/
def stateTellsSpec : ChangeSpec := { name := "stateTells", fn := fun _ => fun
  | [d1, d2] => { results := [.lit (.bool true)], args := [d1, d2] }
  | _ => none }
def stateTellsRow : OpenClaim := { program := "ythnfkjcndidoaaagreatdoor", sum := "166c220d83bc9118c183a8ca9da19dd24a99019a9d28164ea286fa43602967e9", func := "cento/centolaw13.StateTells", spec := "stateTells", unfollowed := true, recurses := true, named := ["math/bits.deBruijn64tab"], plainKeys := false, apart := false, laid := [("math/bits.deBruijn64tab", laid_math_bits_deBruijn64tab)] }
def StateTellsSaid : Prop := stateTellsRow.holds Tryz.pinned (OpenSpec.ofChange stateTellsSpec)

/-- ITS FALSE NEIGHBOUR: 'it returns false'. Refute it at one input. -/
def stateTellsWrong : ChangeSpec := { name := "stateTells", fn := fun _ => fun
  | [d1, d2] => { results := [.lit (.bool false)], args := [d1, d2] }
  | _ => none }
def StateTellsWrongFalsely : Prop := stateTellsRow.holds Tryz.pinned (OpenSpec.ofChange stateTellsWrong)

/-- 'centolaw13.StateFiles': WHATEVER THE INPUT: true; the input reads as it did. -/
def stateFilesSpec : ChangeSpec := { name := "stateFiles", fn := fun _ => fun
  | [d1, d2] => { results := [.lit (.bool true)], args := [d1, d2] }
  | _ => none }
def stateFilesRow : OpenClaim := { program := "ythnfkjcndidoaaagreatdoor", sum := "166c220d83bc9118c183a8ca9da19dd24a99019a9d28164ea286fa43602967e9", func := "cento/centolaw13.StateFiles", spec := "stateFiles", unfollowed := true, recurses := true, named := ["math/bits.deBruijn64tab"], plainKeys := false, apart := false, laid := [("math/bits.deBruijn64tab", laid_math_bits_deBruijn64tab)] }
def StateFilesSaid : Prop := stateFilesRow.holds Tryz.pinned (OpenSpec.ofChange stateFilesSpec)

/-- ITS FALSE NEIGHBOUR: 'it returns false'. Refute it at one input. -/
def stateFilesWrong : ChangeSpec := { name := "stateFiles", fn := fun _ => fun
  | [d1, d2] => { results := [.lit (.bool false)], args := [d1, d2] }
  | _ => none }
def StateFilesWrongFalsely : Prop := stateFilesRow.holds Tryz.pinned (OpenSpec.ofChange stateFilesWrong)

/-- 'centolaw13.StateOrder': WHATEVER THE INPUT: true; the input reads as it did. -/
def stateOrderSpec : ChangeSpec := { name := "stateOrder", fn := fun _ => fun
  | [d1, d2, d3] => { results := [.lit (.bool true)], args := [d1, d2, d3] }
  | _ => none }
def stateOrderRow : OpenClaim := { program := "ythnfkjcndidoaaagreatdoor", sum := "166c220d83bc9118c183a8ca9da19dd24a99019a9d28164ea286fa43602967e9", func := "cento/centolaw13.StateOrder", spec := "stateOrder", unfollowed := true, recurses := true, named := ["math/bits.deBruijn64tab"], plainKeys := false, apart := false, laid := [("math/bits.deBruijn64tab", laid_math_bits_deBruijn64tab)] }
def StateOrderSaid : Prop := stateOrderRow.holds Tryz.pinned (OpenSpec.ofChange stateOrderSpec)

/-- ITS FALSE NEIGHBOUR: 'it returns false'. Refute it at one input. -/
def stateOrderWrong : ChangeSpec := { name := "stateOrder", fn := fun _ => fun
  | [d1, d2, d3] => { results := [.lit (.bool false)], args := [d1, d2, d3] }
  | _ => none }
def StateOrderWrongFalsely : Prop := stateOrderRow.holds Tryz.pinned (OpenSpec.ofChange stateOrderWrong)

/- THE SECOND FORM. 'bulk': how many values and letters a reading holds, each counted each time it is reached (what is shared counts as often as it is met; a slice's spare places count too). A statement '..UptoSaid' is the law's where the arguments, and the package variables that the reading takes, are together of bulk at most 1048576: NARROWER than '..Said'. Prove '..Said' where nothing that the law and all that it calls make is longer than what came in: it says more and counts as full. Else prove '..UptoSaid'. A law counts once. -/
mutual
def uptoBulk {H : Type} : DataW H → Nat
  | .lit (.string bytes) => bytes.length + 1
  | .lit _ => 1
  | .nil => 1
  | .ptr d => uptoBulk d + 1
  | .slice elems spare => uptoBulkAll elems + uptoBulkAll spare + 1
  | .agg parts => uptoBulkAll parts + 1
  | .iface _ d => uptoBulk d + 1
  | .map entries => uptoBulkEntries entries + 1
  | .held _ => 1
def uptoBulkAll {H : Type} : List (DataW H) → Nat
  | [] => 0
  | d :: r => uptoBulk d + uptoBulkAll r
def uptoBulkEntries {H : Type} : List (Lit × DataW H) → Nat
  | [] => 0
  | x :: r => uptoBulkEntry x + uptoBulkEntries r
def uptoBulkEntry {H : Type} : Lit × DataW H → Nat
  | (.string bytes, d) => bytes.length + uptoBulk d + 1
  | (_, d) => uptoBulk d + 1
 end
def uptoSmall : (H : Type) → List (DataW H) → Bool := fun _ ds => decide (uptoBulkAll ds ≤ 1048576)
def OpenSpec.upto (s : _root_.Go.ChangeSpec) : _root_.Go.OpenSpec := { _root_.Go.OpenSpec.ofChange s with cond := some uptoSmall }

/-- 'centolaw13.StateGrows', WHERE WHAT IT READS IS OF BULK AT MOST 1048576: true; the input reads as it did. -/
def stateGrowsUptoRow : OpenClaim := { program := "ythnfkjcndidoaaagreatdoor", sum := "166c220d83bc9118c183a8ca9da19dd24a99019a9d28164ea286fa43602967e9", func := "cento/centolaw13.StateGrows", spec := "stateGrows", unfollowed := true, recurses := true, named := ["math/bits.deBruijn64tab"], plainKeys := false, apart := false, laid := [("math/bits.deBruijn64tab", laid_math_bits_deBruijn64tab)], narrowed := true }
def StateGrowsUptoSaid : Prop := stateGrowsUptoRow.holds Tryz.pinned (OpenSpec.upto stateGrowsSpec)

/-- 'centolaw13.StatePaths', WHERE WHAT IT READS IS OF BULK AT MOST 1048576: true; the input reads as it did. -/
def statePathsUptoRow : OpenClaim := { program := "ythnfkjcndidoaaagreatdoor", sum := "166c220d83bc9118c183a8ca9da19dd24a99019a9d28164ea286fa43602967e9", func := "cento/centolaw13.StatePaths", spec := "statePaths", unfollowed := true, recurses := true, named := ["math/bits.deBruijn64tab"], plainKeys := false, apart := false, laid := [("math/bits.deBruijn64tab", laid_math_bits_deBruijn64tab)], narrowed := true }
def StatePathsUptoSaid : Prop := statePathsUptoRow.holds Tryz.pinned (OpenSpec.upto statePathsSpec)

/-- 'centolaw13.StateRows', WHERE WHAT IT READS IS OF BULK AT MOST 1048576: true; the input reads as it did. -/
def stateRowsUptoRow : OpenClaim := { program := "ythnfkjcndidoaaagreatdoor", sum := "166c220d83bc9118c183a8ca9da19dd24a99019a9d28164ea286fa43602967e9", func := "cento/centolaw13.StateRows", spec := "stateRows", unfollowed := true, recurses := true, named := ["math/bits.deBruijn64tab"], plainKeys := false, apart := false, laid := [("math/bits.deBruijn64tab", laid_math_bits_deBruijn64tab)], narrowed := true }
def StateRowsUptoSaid : Prop := stateRowsUptoRow.holds Tryz.pinned (OpenSpec.upto stateRowsSpec)

/-- 'centolaw13.StateTells', WHERE WHAT IT READS IS OF BULK AT MOST 1048576: true; the input reads as it did. -/
def stateTellsUptoRow : OpenClaim := { program := "ythnfkjcndidoaaagreatdoor", sum := "166c220d83bc9118c183a8ca9da19dd24a99019a9d28164ea286fa43602967e9", func := "cento/centolaw13.StateTells", spec := "stateTells", unfollowed := true, recurses := true, named := ["math/bits.deBruijn64tab"], plainKeys := false, apart := false, laid := [("math/bits.deBruijn64tab", laid_math_bits_deBruijn64tab)], narrowed := true }
def StateTellsUptoSaid : Prop := stateTellsUptoRow.holds Tryz.pinned (OpenSpec.upto stateTellsSpec)

/-- 'centolaw13.StateFiles', WHERE WHAT IT READS IS OF BULK AT MOST 1048576: true; the input reads as it did. -/
def stateFilesUptoRow : OpenClaim := { program := "ythnfkjcndidoaaagreatdoor", sum := "166c220d83bc9118c183a8ca9da19dd24a99019a9d28164ea286fa43602967e9", func := "cento/centolaw13.StateFiles", spec := "stateFiles", unfollowed := true, recurses := true, named := ["math/bits.deBruijn64tab"], plainKeys := false, apart := false, laid := [("math/bits.deBruijn64tab", laid_math_bits_deBruijn64tab)], narrowed := true }
def StateFilesUptoSaid : Prop := stateFilesUptoRow.holds Tryz.pinned (OpenSpec.upto stateFilesSpec)

/-- 'centolaw13.StateOrder', WHERE WHAT IT READS IS OF BULK AT MOST 1048576: true; the input reads as it did. -/
def stateOrderUptoRow : OpenClaim := { program := "ythnfkjcndidoaaagreatdoor", sum := "166c220d83bc9118c183a8ca9da19dd24a99019a9d28164ea286fa43602967e9", func := "cento/centolaw13.StateOrder", spec := "stateOrder", unfollowed := true, recurses := true, named := ["math/bits.deBruijn64tab"], plainKeys := false, apart := false, laid := [("math/bits.deBruijn64tab", laid_math_bits_deBruijn64tab)], narrowed := true }
def StateOrderUptoSaid : Prop := stateOrderUptoRow.holds Tryz.pinned (OpenSpec.upto stateOrderSpec)

end Rows
end Go.Proofs.YthnfkjcndidoaaaGreatDoor
