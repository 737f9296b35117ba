/- The law at its arguments, walked by the kernel -/
import Derived.Test.YtngjccjmhlhlbaaGreatADFx
set_option linter.unusedVariables false
set_option linter.unusedSimpArgs false
set_option linter.unusedSectionVars false
namespace Go.Den
open Go
set_option maxRecDepth 1000000
variable [Val]
theorem m3_0 : isV (runI E_N 100000 4 [.int .i64 3, .sym (.str [] 0 none (some [46, 119, 104, 46]) 1 20), .sym (.int 2 0 0 511)]) (.bool true) = true := by decide +kernel
theorem g3_0 (h1 : Go.Proofs.namedB (Val.τ 0) = true) (h2 : Go.Proofs.keptB (Val.τ 0) = false) (hs : (Val.τ 0).size ≤ maxLen) : Gives Go.Proofs.Tryz.prog 4 [.int .i64 3, .sym (.str [] 0 none (some [46, 119, 104, 46]) 1 20), .sym (.int 2 0 0 511)] (.bool true) := (runI_gives (okN h1 h2 hs) (isV_eq m3_0)).1
theorem m3_1 : isV (runI E_N 100000 4 [.int .i64 3, .sym (.str [] 0 (some [46, 119, 104, 46, 256]) (some [100]) 1 20), .sym (.int 2 0 0 511)]) (.bool true) = true := by decide +kernel
theorem g3_1 (h1 : Go.Proofs.namedB (Val.τ 0) = true) (h2 : Go.Proofs.keptB (Val.τ 0) = false) (hs : (Val.τ 0).size ≤ maxLen) : Gives Go.Proofs.Tryz.prog 4 [.int .i64 3, .sym (.str [] 0 (some [46, 119, 104, 46, 256]) (some [100]) 1 20), .sym (.int 2 0 0 511)] (.bool true) := (runI_gives (okN h1 h2 hs) (isV_eq m3_1)).1
theorem m3_2 : isV (runI E_N 100000 4 [.int .i64 3, .sym (.str [] 0 (some [100]) (some [102]) 1 20), .sym (.int 2 0 0 511)]) (.bool true) = true := by decide +kernel
theorem g3_2 (h1 : Go.Proofs.namedB (Val.τ 0) = true) (h2 : Go.Proofs.keptB (Val.τ 0) = false) (hs : (Val.τ 0).size ≤ maxLen) : Gives Go.Proofs.Tryz.prog 4 [.int .i64 3, .sym (.str [] 0 (some [100]) (some [102]) 1 20), .sym (.int 2 0 0 511)] (.bool true) := (runI_gives (okN h1 h2 hs) (isV_eq m3_2)).1
theorem m3_3 : isV (runI E_N 100000 4 [.int .i64 3, .sym (.str [] 0 (some [102]) (some [115]) 1 20), .sym (.int 2 0 0 511)]) (.bool true) = true := by decide +kernel
theorem g3_3 (h1 : Go.Proofs.namedB (Val.τ 0) = true) (h2 : Go.Proofs.keptB (Val.τ 0) = false) (hs : (Val.τ 0).size ≤ maxLen) : Gives Go.Proofs.Tryz.prog 4 [.int .i64 3, .sym (.str [] 0 (some [102]) (some [115]) 1 20), .sym (.int 2 0 0 511)] (.bool true) := (runI_gives (okN h1 h2 hs) (isV_eq m3_3)).1
end Go.Den
