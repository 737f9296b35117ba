/- The law at its arguments, walked by the kernel -/
import Derived.Test.YtngjccjmhlhlbaaGreatADFx
set_option linter.unusedVariables false
set_option linter.unusedSimpArgs false
set_option linter.unusedSectionVars false
namespace Go.Den
open Go
set_option maxRecDepth 1000000
variable [Val]
theorem m1_0 : isV (runI E_N 100000 4 [.int .i64 1, .sym (.str [] 0 none (some [46, 119, 104, 46]) 1 20), .sym (.int 2 0 0 511)]) (.bool true) = true := by decide +kernel
theorem g1_0 (h1 : Go.Proofs.namedB (Val.τ 0) = true) (h2 : Go.Proofs.keptB (Val.τ 0) = false) (hs : (Val.τ 0).size ≤ maxLen) : Gives Go.Proofs.Tryz.prog 4 [.int .i64 1, .sym (.str [] 0 none (some [46, 119, 104, 46]) 1 20), .sym (.int 2 0 0 511)] (.bool true) := (runI_gives (okN h1 h2 hs) (isV_eq m1_0)).1
theorem m1_1 : isV (runI E_N 100000 4 [.int .i64 1, .sym (.str [] 0 (some [46, 119, 104, 46, 256]) (some [100]) 1 20), .sym (.int 2 0 0 511)]) (.bool true) = true := by decide +kernel
theorem g1_1 (h1 : Go.Proofs.namedB (Val.τ 0) = true) (h2 : Go.Proofs.keptB (Val.τ 0) = false) (hs : (Val.τ 0).size ≤ maxLen) : Gives Go.Proofs.Tryz.prog 4 [.int .i64 1, .sym (.str [] 0 (some [46, 119, 104, 46, 256]) (some [100]) 1 20), .sym (.int 2 0 0 511)] (.bool true) := (runI_gives (okN h1 h2 hs) (isV_eq m1_1)).1
theorem m1_2 : isV (runI E_N 100000 4 [.int .i64 1, .sym (.str [] 0 (some [100]) (some [102]) 1 20), .sym (.int 2 0 0 511)]) (.bool true) = true := by decide +kernel
theorem g1_2 (h1 : Go.Proofs.namedB (Val.τ 0) = true) (h2 : Go.Proofs.keptB (Val.τ 0) = false) (hs : (Val.τ 0).size ≤ maxLen) : Gives Go.Proofs.Tryz.prog 4 [.int .i64 1, .sym (.str [] 0 (some [100]) (some [102]) 1 20), .sym (.int 2 0 0 511)] (.bool true) := (runI_gives (okN h1 h2 hs) (isV_eq m1_2)).1
theorem m1_3 : isV (runI E_N 100000 4 [.int .i64 1, .sym (.str [] 0 (some [102]) (some [115]) 1 20), .sym (.int 2 0 0 511)]) (.bool true) = true := by decide +kernel
theorem g1_3 (h1 : Go.Proofs.namedB (Val.τ 0) = true) (h2 : Go.Proofs.keptB (Val.τ 0) = false) (hs : (Val.τ 0).size ≤ maxLen) : Gives Go.Proofs.Tryz.prog 4 [.int .i64 1, .sym (.str [] 0 (some [102]) (some [115]) 1 20), .sym (.int 2 0 0 511)] (.bool true) := (runI_gives (okN h1 h2 hs) (isV_eq m1_3)).1
end Go.Den
