/- The law at its arguments, walked by the kernel -/
import Derived.Test.YtngjccjmhlhlbaaGreatADFx
set_option linter.unusedVariables false
set_option linter.unusedSimpArgs false
set_option linter.unusedSectionVars false
namespace Go.Den
open Go
set_option maxRecDepth 1000000
variable [Val]
theorem m1_4 : isV (runI E_N 100000 4 [.int .i64 1, .sym (.str [] 0 (some [115]) none 1 20), .sym (.int 2 0 0 511)]) (.bool true) = true := by decide +kernel
theorem g1_4 (h1 : Go.Proofs.namedB (Val.τ 0) = true) (h2 : Go.Proofs.keptB (Val.τ 0) = false) (hs : (Val.τ 0).size ≤ maxLen) : Gives Go.Proofs.Tryz.prog 4 [.int .i64 1, .sym (.str [] 0 (some [115]) none 1 20), .sym (.int 2 0 0 511)] (.bool true) := (runI_gives (okN h1 h2 hs) (isV_eq m1_4)).1
theorem m1_d : isV (runI E_3 100000 4 [.int .i64 1, .str [100], .sym (.int 2 0 0 511)]) (.bool true) = true := by decide +kernel
theorem g1_d : Gives Go.Proofs.Tryz.prog 4 [.int .i64 1, .str [100], .sym (.int 2 0 0 511)] (.bool true) := (runI_gives ok3 (isV_eq m1_d)).1
theorem m1_f : isV (runI E_3 100000 4 [.int .i64 1, .str [102], .sym (.int 2 0 0 511)]) (.bool true) = true := by decide +kernel
theorem g1_f : Gives Go.Proofs.Tryz.prog 4 [.int .i64 1, .str [102], .sym (.int 2 0 0 511)] (.bool true) := (runI_gives ok3 (isV_eq m1_f)).1
theorem m1_s : isV (runI E_3 100000 4 [.int .i64 1, .str [115], .sym (.int 2 0 0 511)]) (.bool true) = true := by decide +kernel
theorem g1_s : Gives Go.Proofs.Tryz.prog 4 [.int .i64 1, .str [115], .sym (.int 2 0 0 511)] (.bool true) := (runI_gives ok3 (isV_eq m1_s)).1
end Go.Den
