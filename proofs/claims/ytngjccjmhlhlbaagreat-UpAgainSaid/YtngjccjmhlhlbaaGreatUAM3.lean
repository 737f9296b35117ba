/- The law at its arguments, walked by the kernel -/
import Derived.Test.YtngjccjmhlhlbaaGreatUAFx
set_option linter.unusedVariables false
set_option linter.unusedSimpArgs false
set_option linter.unusedSectionVars false
namespace Go.Den
open Go
set_option maxRecDepth 1000000
variable [Val]
theorem cu3_0 : allN (fun n => chk 3 v25_2 (cls (.sym (.str [] 1 none (some [46, 119, 104, 46, 46, 119, 104, 46, 120, 105, 110, 111]) 1 24)) n) 2) 16 = true := by decide +kernel
theorem cu3_1 : allN (fun n => chk 3 v25_2 (cls (.sym (.str [] 1 (some [46, 119, 104, 46, 46, 119, 104, 46, 120, 105, 110, 111]) (some [46, 119, 104, 46, 120, 105, 110, 111]) 1 24)) n) 2) 16 = true := by decide +kernel
theorem cu3_2 : allN (fun n => chk 3 v25_2 (cls (.sym (.str [] 1 (some [46, 119, 104, 46, 120, 105, 110, 111]) (some [100]) 1 24)) n) 2) 16 = true := by decide +kernel
theorem cu3_3 : allN (fun n => chk 3 v25_2 (cls (.sym (.str [] 1 (some [100]) (some [102]) 1 24)) n) 2) 16 = true := by decide +kernel
theorem cu3_4 : allN (fun n => chk 3 v25_2 (cls (.sym (.str [] 1 (some [102]) (some [115]) 1 24)) n) 2) 16 = true := by decide +kernel
theorem cu3_5 : allN (fun n => chk 3 v25_2 (cls (.sym (.str [] 1 (some [115]) none 1 24)) n) 2) 16 = true := by decide +kernel
theorem cp3_1 : allN (fun n => chk 3 v25_2 (cls (.str [46, 119, 104, 46, 120, 105, 110, 111]) n) 2) 16 = true := by decide +kernel
theorem cp3_0 : allN (fun n => chk 3 v25_2 (cls (.str [46, 119, 104, 46, 46, 119, 104, 46, 120, 105, 110, 111]) (n + 1)) 4) 15 = true := by decide +kernel
theorem cp3_3 : allN (fun n => chk 3 v25_2 (cls (.str [102]) (n + 1)) 4) 15 = true := by decide +kernel
theorem cp3_4 : allN (fun n => chk 3 v25_2 (cls (.str [115]) (n + 1)) 4) 15 = true := by decide +kernel
theorem cv3_0 : allN (fun n => chk 3 v25_2 (cls2 (.str [100]) (.sym (.str [] 2 none (some [103]) 1 24)) n) 2) 15 = true := by decide +kernel
theorem cv3_1 : allN (fun n => chk 3 v25_2 (cls2 (.str [100]) (.sym (.str [] 2 (some [103]) (some [120]) 1 24)) n) 2) 15 = true := by decide +kernel
theorem cv3_2 : allN (fun n => chk 3 v25_2 (cls2 (.str [100]) (.sym (.str [] 2 (some [120]) none 1 24)) n) 2) 15 = true := by decide +kernel
theorem cq3_0 : allN (fun n => chk 3 v25_2 (cls2 (.str [100]) (.str [103]) (n + 1)) 4) 14 = true := by decide +kernel
theorem cq3_1 : allN (fun n => chk 3 v25_2 (cls2 (.str [100]) (.str [120]) (n + 1)) 4) 14 = true := by decide +kernel
end Go.Den
