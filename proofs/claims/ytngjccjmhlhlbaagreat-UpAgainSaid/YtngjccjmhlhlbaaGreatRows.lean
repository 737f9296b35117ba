/-
  No cell of these rows narrows 'for every input' (looked for: loops, veiled, ifaces, maps, wideKeys, modest, calm, conditions, laid).
  DERIVED. THE GIVEN ROWS OF THIS SEAT. 3 by the template 'for every input the law returns true; each argument reads behind the call as it read before'; 0 by the template 'total and deterministic' (their statements: YtngjccjmhlhlbaaGreatTotals.lean).
  GIVEN WITH THE SEED: the statements are not yours to turn. If you find one false, say at which input.
  Laid BY PROGRAM, IN A SANDBOX (cutbox-rows.mjs): the forced cells as the released guide's own fill.sh prints them over the translation 51e9943ee91b57ab… (all of the seat's roots in one cut). By AI agents, Wed Nov 11 2026. No macro, syntax, notation, axiom, sorry.
-/
import Derived.Test.YtngjccjmhlhlbaaGreatChecked
import GoSem.Claim
import GoSem.ClaimJoined
import GoSem.ClaimMapViews
import Derived.JoinedTies
import Derived.KernelRfl
namespace Go.Proofs.YtngjccjmhlhlbaaGreat
/- THE CELL 'sum', in the pinned program and in every row, IS THE sha256 OF THE DUMP (.gsa) THAT YtngjccjmhlhlbaaGreatProg.lean LOADS. Nothing in Lean hashes anything: it is a label: what it is worth is what the hold of that sum in a sandbox is worth. -/
noncomputable def Tryz.pinned : Pinned := { name := "ytngjccjmhlhlbaagreat", sum := "51e9943ee91b57abec70af7c93fabca31557e0b1fdbd929f4de481cbfcc67979", checked := Tryz.checked }
namespace Rows
def none {H : Type} : Left H := { results := [], args := [] }

/-- 'veneerlaw16.RepModes': WHATEVER THE INPUT: true; the input reads as it did. -/
def repModesSpec : ChangeSpec := { name := "repModes", fn := fun _ => fun
  | [d1, d2] => { results := [.lit (.bool true)], args := [d1, d2] }
  | _ => none }
def repModesRow : OpenClaim := { program := "ytngjccjmhlhlbaagreat", sum := "51e9943ee91b57abec70af7c93fabca31557e0b1fdbd929f4de481cbfcc67979", func := "veneer/veneerlaw16.RepModes", spec := "repModes", inPlace := ["slices.overlaps[veneer/api.Node]", "slices.overlaps[veneer/api.Name]", "slices.overlaps[veneer/api.Row]"], unfollowed := true, recurses := true, apart := false }
def RepModesSaid : Prop := repModesRow.holds Tryz.pinned (OpenSpec.ofChange repModesSpec)

/-- ITS FALSE NEIGHBOUR: 'it returns false'. Refute it at one input. -/
def repModesWrong : ChangeSpec := { name := "repModes", fn := fun _ => fun
  | [d1, d2] => { results := [.lit (.bool false)], args := [d1, d2] }
  | _ => none }
def RepModesWrongFalsely : Prop := repModesRow.holds Tryz.pinned (OpenSpec.ofChange repModesWrong)

/-- 'veneerlaw19.AddDirs': WHATEVER THE INPUT: true; the input reads as it did. -/
def addDirsSpec : ChangeSpec := { name := "addDirs", fn := fun _ => fun
  | [d1, d2, d3] => { results := [.lit (.bool true)], args := [d1, d2, d3] }
  | _ => none }
def addDirsRow : OpenClaim := { program := "ytngjccjmhlhlbaagreat", sum := "51e9943ee91b57abec70af7c93fabca31557e0b1fdbd929f4de481cbfcc67979", func := "veneer/veneerlaw19.AddDirs", spec := "addDirs", inPlace := ["slices.overlaps[veneer/api.Node]", "slices.overlaps[veneer/api.Name]", "slices.overlaps[veneer/api.Row]"], unfollowed := true, recurses := true, apart := false }
def AddDirsSaid : Prop := addDirsRow.holds Tryz.pinned (OpenSpec.ofChange addDirsSpec)

/-- ITS FALSE NEIGHBOUR: 'it returns false'. Refute it at one input. -/
def addDirsWrong : ChangeSpec := { name := "addDirs", fn := fun _ => fun
  | [d1, d2, d3] => { results := [.lit (.bool false)], args := [d1, d2, d3] }
  | _ => none }
def AddDirsWrongFalsely : Prop := addDirsRow.holds Tryz.pinned (OpenSpec.ofChange addDirsWrong)

/-- 'veneerlaw18.UpAgain': WHATEVER THE INPUT: true; the input reads as it did. -/
def upAgainSpec : ChangeSpec := { name := "upAgain", fn := fun _ => fun
  | [d1, d2] => { results := [.lit (.bool true)], args := [d1, d2] }
  | _ => none }
def upAgainRow : OpenClaim := { program := "ytngjccjmhlhlbaagreat", sum := "51e9943ee91b57abec70af7c93fabca31557e0b1fdbd929f4de481cbfcc67979", func := "veneer/veneerlaw18.UpAgain", spec := "upAgain", inPlace := ["slices.overlaps[veneer/api.Node]", "slices.overlaps[veneer/api.Name]", "slices.overlaps[veneer/api.Row]", "slices.overlaps[veneer/api.Block]"], unfollowed := true, recurses := true, apart := false }
def UpAgainSaid : Prop := upAgainRow.holds Tryz.pinned (OpenSpec.ofChange upAgainSpec)

/-- ITS FALSE NEIGHBOUR: 'it returns false'. Refute it at one input. -/
def upAgainWrong : ChangeSpec := { name := "upAgain", fn := fun _ => fun
  | [d1, d2] => { results := [.lit (.bool false)], args := [d1, d2] }
  | _ => none }
def UpAgainWrongFalsely : Prop := upAgainRow.holds Tryz.pinned (OpenSpec.ofChange upAgainWrong)

/- THE SECOND FORM. 'bulk': how many values and letters a reading holds, each counted each time it is reached (what is shared counts as often as it is met; a slice's spare places count too). A statement '..UptoSaid' is the law's where the arguments, and the package variables that the reading takes, are together of bulk at most 1048576: NARROWER than '..Said'. Prove '..Said' where nothing that the law and all that it calls make is longer than what came in: it says more and counts as full. Else prove '..UptoSaid'. A law counts once. -/
mutual
def uptoBulk {H : Type} : DataW H → Nat
  | .lit (.string bytes) => bytes.length + 1
  | .lit _ => 1
  | .nil => 1
  | .ptr d => uptoBulk d + 1
  | .slice elems spare => uptoBulkAll elems + uptoBulkAll spare + 1
  | .agg parts => uptoBulkAll parts + 1
  | .iface _ d => uptoBulk d + 1
  | .map entries => uptoBulkEntries entries + 1
  | .held _ => 1
def uptoBulkAll {H : Type} : List (DataW H) → Nat
  | [] => 0
  | d :: r => uptoBulk d + uptoBulkAll r
def uptoBulkEntries {H : Type} : List (Lit × DataW H) → Nat
  | [] => 0
  | x :: r => uptoBulkEntry x + uptoBulkEntries r
def uptoBulkEntry {H : Type} : Lit × DataW H → Nat
  | (.string bytes, d) => bytes.length + uptoBulk d + 1
  | (_, d) => uptoBulk d + 1
 end
def uptoSmall : (H : Type) → List (DataW H) → Bool := fun _ ds => decide (uptoBulkAll ds ≤ 1048576)
def OpenSpec.upto (s : _root_.Go.ChangeSpec) : _root_.Go.OpenSpec := { _root_.Go.OpenSpec.ofChange s with cond := some uptoSmall }

/-- 'veneerlaw16.RepModes', WHERE WHAT IT READS IS OF BULK AT MOST 1048576: true; the input reads as it did. -/
def repModesUptoRow : OpenClaim := { program := "ytngjccjmhlhlbaagreat", sum := "51e9943ee91b57abec70af7c93fabca31557e0b1fdbd929f4de481cbfcc67979", func := "veneer/veneerlaw16.RepModes", spec := "repModes", inPlace := ["slices.overlaps[veneer/api.Node]", "slices.overlaps[veneer/api.Name]", "slices.overlaps[veneer/api.Row]"], unfollowed := true, recurses := true, apart := false, narrowed := true }
def RepModesUptoSaid : Prop := repModesUptoRow.holds Tryz.pinned (OpenSpec.upto repModesSpec)

/-- 'veneerlaw19.AddDirs', WHERE WHAT IT READS IS OF BULK AT MOST 1048576: true; the input reads as it did. -/
def addDirsUptoRow : OpenClaim := { program := "ytngjccjmhlhlbaagreat", sum := "51e9943ee91b57abec70af7c93fabca31557e0b1fdbd929f4de481cbfcc67979", func := "veneer/veneerlaw19.AddDirs", spec := "addDirs", inPlace := ["slices.overlaps[veneer/api.Node]", "slices.overlaps[veneer/api.Name]", "slices.overlaps[veneer/api.Row]"], unfollowed := true, recurses := true, apart := false, narrowed := true }
def AddDirsUptoSaid : Prop := addDirsUptoRow.holds Tryz.pinned (OpenSpec.upto addDirsSpec)

/-- 'veneerlaw18.UpAgain', WHERE WHAT IT READS IS OF BULK AT MOST 1048576: true; the input reads as it did. -/
def upAgainUptoRow : OpenClaim := { program := "ytngjccjmhlhlbaagreat", sum := "51e9943ee91b57abec70af7c93fabca31557e0b1fdbd929f4de481cbfcc67979", func := "veneer/veneerlaw18.UpAgain", spec := "upAgain", inPlace := ["slices.overlaps[veneer/api.Node]", "slices.overlaps[veneer/api.Name]", "slices.overlaps[veneer/api.Row]", "slices.overlaps[veneer/api.Block]"], unfollowed := true, recurses := true, apart := false, narrowed := true }
def UpAgainUptoSaid : Prop := upAgainUptoRow.holds Tryz.pinned (OpenSpec.upto upAgainSpec)

end Rows
end Go.Proofs.YtngjccjmhlhlbaaGreat
