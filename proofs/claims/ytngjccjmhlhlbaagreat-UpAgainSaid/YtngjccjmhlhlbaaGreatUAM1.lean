/- The law at its arguments, walked by the kernel -/
import Derived.Test.YtngjccjmhlhlbaaGreatUAFx
set_option linter.unusedVariables false
set_option linter.unusedSimpArgs false
set_option linter.unusedSectionVars false
namespace Go.Den
open Go
set_option maxRecDepth 1000000
variable [Val]
theorem cu1_0 : allN (fun n => chk 1 v25_0 (cls (.sym (.str [] 1 none (some [46, 119, 104, 46, 46, 119, 104, 46, 120, 105, 110, 111]) 1 24)) n) 2) 16 = true := by decide +kernel
theorem cu1_1 : allN (fun n => chk 1 v25_0 (cls (.sym (.str [] 1 (some [46, 119, 104, 46, 46, 119, 104, 46, 120, 105, 110, 111]) (some [46, 119, 104, 46, 120, 105, 110, 111]) 1 24)) n) 2) 16 = true := by decide +kernel
theorem cu1_2 : allN (fun n => chk 1 v25_0 (cls (.sym (.str [] 1 (some [46, 119, 104, 46, 120, 105, 110, 111]) (some [100]) 1 24)) n) 2) 16 = true := by decide +kernel
theorem cu1_3 : allN (fun n => chk 1 v25_0 (cls (.sym (.str [] 1 (some [100]) (some [102]) 1 24)) n) 2) 16 = true := by decide +kernel
theorem cu1_4 : allN (fun n => chk 1 v25_0 (cls (.sym (.str [] 1 (some [102]) (some [115]) 1 24)) n) 2) 16 = true := by decide +kernel
theorem cu1_5 : allN (fun n => chk 1 v25_0 (cls (.sym (.str [] 1 (some [115]) none 1 24)) n) 2) 16 = true := by decide +kernel
theorem cp1_1 : allN (fun n => chk 1 v25_0 (cls (.str [46, 119, 104, 46, 120, 105, 110, 111]) n) 2) 16 = true := by decide +kernel
theorem cp1_0 : allN (fun n => chk 1 v25_0 (cls (.str [46, 119, 104, 46, 46, 119, 104, 46, 120, 105, 110, 111]) (n + 1)) 4) 15 = true := by decide +kernel
theorem cp1_3 : allN (fun n => chk 1 v25_0 (cls (.str [102]) (n + 1)) 4) 15 = true := by decide +kernel
theorem cp1_4 : allN (fun n => chk 1 v25_0 (cls (.str [115]) (n + 1)) 4) 15 = true := by decide +kernel
theorem cv1_0 : allN (fun n => chk 1 v25_0 (cls2 (.str [100]) (.sym (.str [] 2 none (some [103]) 1 24)) n) 2) 15 = true := by decide +kernel
theorem cv1_1 : allN (fun n => chk 1 v25_0 (cls2 (.str [100]) (.sym (.str [] 2 (some [103]) (some [120]) 1 24)) n) 2) 15 = true := by decide +kernel
theorem cv1_2 : allN (fun n => chk 1 v25_0 (cls2 (.str [100]) (.sym (.str [] 2 (some [120]) none 1 24)) n) 2) 15 = true := by decide +kernel
theorem cq1_0 : allN (fun n => chk 1 v25_0 (cls2 (.str [100]) (.str [103]) (n + 1)) 4) 14 = true := by decide +kernel
theorem cq1_1 : allN (fun n => chk 1 v25_0 (cls2 (.str [100]) (.str [120]) (n + 1)) 4) 14 = true := by decide +kernel
end Go.Den
