/- The law at its arguments, walked by the kernel -/
import Derived.Test.YtngjccjmhlhlbaaGreatUAFx
set_option linter.unusedVariables false
set_option linter.unusedSimpArgs false
set_option linter.unusedSectionVars false
namespace Go.Den
open Go
set_option maxRecDepth 1000000
variable [Val]
theorem ev1 : isV (runI (E_T (.tup [.nil, .int .i64 1]) []) 100000 5 [.bad, path 0 9223372036854775807]) (.bool true) = true := by decide +kernel
theorem ev9 : isV (runI (E_T (.tup [.nil, .int .i64 9]) []) 100000 5 [.bad, path 0 9223372036854775807]) (.bool true) = true := by decide +kernel
theorem eva : isV (runI (E_T (okl .bad) []) 100000 5 [.sym (.int 2 0 (-9223372036854775808) 0), path 0 9223372036854775807]) (.bool true) = true := by decide +kernel
theorem evb : isV (runI (E_T (okl .bad) []) 100000 5 [.sym (.int 2 0 4 9223372036854775807), path 0 9223372036854775807]) (.bool true) = true := by decide +kernel
theorem evc1 : isV (runI (E_T (okl .bad) []) 100000 5 [.int .i64 1, path 61 9223372036854775807]) (.bool true) = true := by decide +kernel
theorem evc2 : isV (runI (E_T (okl .bad) []) 100000 5 [.int .i64 2, path 61 9223372036854775807]) (.bool true) = true := by decide +kernel
theorem evc3 : isV (runI (E_T (okl .bad) []) 100000 5 [.int .i64 3, path 61 9223372036854775807]) (.bool true) = true := by decide +kernel
theorem k1_n : chk0 1 .nil = true := by decide +kernel
theorem k1_e : chk0 1 (.sl true 1 []) = true := by decide +kernel
theorem k1_0 : chk0 1 (cls (.str [46, 119, 104, 46, 46, 119, 104, 46, 120, 105, 110, 111]) 0) = true := by decide +kernel
theorem k1_2 : chk0 1 (cls (.str [100]) 0) = true := by decide +kernel
theorem k1_3 : chk0 1 (cls (.str [102]) 0) = true := by decide +kernel
theorem k1_4 : chk0 1 (cls (.str [115]) 0) = true := by decide +kernel
theorem k1_d0 : chk0 1 (cls2 (.str [100]) (.str [103]) 0) = true := by decide +kernel
theorem k1_d1 : chk0 1 (cls2 (.str [100]) (.str [120]) 0) = true := by decide +kernel
theorem k2_n : chk0 2 .nil = true := by decide +kernel
theorem k2_e : chk0 2 (.sl true 1 []) = true := by decide +kernel
theorem k2_0 : chk0 2 (cls (.str [46, 119, 104, 46, 46, 119, 104, 46, 120, 105, 110, 111]) 0) = true := by decide +kernel
theorem k2_2 : chk0 2 (cls (.str [100]) 0) = true := by decide +kernel
theorem k2_3 : chk0 2 (cls (.str [102]) 0) = true := by decide +kernel
theorem k2_4 : chk0 2 (cls (.str [115]) 0) = true := by decide +kernel
theorem k2_d0 : chk0 2 (cls2 (.str [100]) (.str [103]) 0) = true := by decide +kernel
theorem k2_d1 : chk0 2 (cls2 (.str [100]) (.str [120]) 0) = true := by decide +kernel
theorem k3_n : chk0 3 .nil = true := by decide +kernel
theorem k3_e : chk0 3 (.sl true 1 []) = true := by decide +kernel
theorem k3_0 : chk0 3 (cls (.str [46, 119, 104, 46, 46, 119, 104, 46, 120, 105, 110, 111]) 0) = true := by decide +kernel
theorem k3_2 : chk0 3 (cls (.str [100]) 0) = true := by decide +kernel
theorem k3_3 : chk0 3 (cls (.str [102]) 0) = true := by decide +kernel
theorem k3_4 : chk0 3 (cls (.str [115]) 0) = true := by decide +kernel
theorem k3_d0 : chk0 3 (cls2 (.str [100]) (.str [103]) 0) = true := by decide +kernel
theorem k3_d1 : chk0 3 (cls2 (.str [100]) (.str [120]) 0) = true := by decide +kernel
end Go.Den
