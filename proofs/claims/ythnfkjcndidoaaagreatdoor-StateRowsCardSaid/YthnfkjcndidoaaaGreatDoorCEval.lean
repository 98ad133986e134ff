import Derived.Test.YthnfkjcndidoaaaGreatDoorCObj
set_option linter.unusedVariables false
set_option linter.unusedSimpArgs false
namespace Go.Proofs.YthnfkjcndidoaaaGreatDoor
open Go.RowKit Go.Shelf
def pPt : Pt := ⟨1, [], [⟨#[97]⟩], [], [⟨⟨#[97]⟩, [⟨#[120, 10]⟩, ⟨#[121]⟩], [⟨⟨1, 0⟩, ⟨1, 1⟩⟩], []⟩]⟩
def qPt : Pt := ⟨2, [1], [], [], [⟨⟨#[97]⟩, [], [], [⟨1, 0⟩]⟩]⟩
def kFile : Fl := ⟨⟨#[97]⟩, [⟨⟨1, 0⟩, ⟨#[120, 10]⟩, true⟩, ⟨⟨1, 1⟩, ⟨#[121]⟩, false⟩], [⟨0, 1⟩]⟩
theorem evE : ofE [qPt, pPt] = 0 := by kernel_rfl
theorem evT : trackedL [qPt, pPt] = [⟨#[97]⟩] := by kernel_rfl
theorem evAdd : addedL [qPt, pPt] ⟨#[97]⟩ = [⟨⟨1, 0⟩, ⟨#[120, 10]⟩, false⟩, ⟨⟨1, 1⟩, ⟨#[121]⟩, false⟩] := by kernel_rfl
theorem evLines : linesOf [qPt, pPt] ⟨#[97]⟩ = [⟨⟨1, 0⟩, ⟨#[120, 10]⟩, false⟩, ⟨⟨1, 1⟩, ⟨#[121]⟩, false⟩] := by
  refine (lines_is (ys := [⟨⟨1, 0⟩, ⟨#[120, 10]⟩, false⟩, ⟨⟨1, 1⟩, ⟨#[121]⟩, false⟩]) ?_ ?_ ?_).symm
  · rw [evAdd]; decide
  · rw [evAdd]
  · refine List.pairwise_cons.2 ⟨fun y hy => ?_, List.pairwise_cons.2 ⟨fun y hy => by simp at hy, List.Pairwise.nil⟩⟩
    rw [List.mem_singleton.1 hy]
    decide
theorem evF1 : deadBy [⟨⟨1, 0⟩, ⟨#[120, 10]⟩, false⟩, ⟨⟨1, 1⟩, ⟨#[121]⟩, false⟩] (killsOf [qPt, pPt] (hunkIdx [qPt, pPt] ⟨#[97]⟩)) = kFile.lines := by kernel_rfl
theorem evF2 : (relPairsL (closeM (addAll [⟨⟨1, 0⟩, ⟨#[120, 10]⟩, false⟩, ⟨⟨1, 1⟩, ⟨#[121]⟩, false⟩] (edgesOf [qPt, pPt] (hunkIdx [qPt, pPt] ⟨#[97]⟩))))).map prOf = kFile.pairs := by kernel_rfl
theorem evF : ofF [qPt, pPt] = [kFile] := by
  rw [ofF, if_pos evE, evT, List.map_cons, List.map_nil, fileL, evLines, evF1, evF2]
  rfl
theorem evG : ofE [qPt] = 17 := by kernel_rfl
theorem evC : closedB [pPt] = true := by kernel_rfl
theorem evA : aliveL kFile.lines kFile.lines.length = [1] := by kernel_rfl
theorem evS : findL [kFile] ⟨#[98]⟩ = (noFile, false) := by kernel_rfl
theorem evL : legB kFile.lines kFile.lines = true ∧ legV kFile.lines kFile.lines = [0, 1] := by constructor <;> kernel_rfl
theorem evN : countL [kFile] = 2 := by kernel_rfl
end Go.Proofs.YthnfkjcndidoaaaGreatDoor
