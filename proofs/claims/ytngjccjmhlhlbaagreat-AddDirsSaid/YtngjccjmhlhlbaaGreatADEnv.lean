/- What is asked of the program's functions and types, by check -/
import Derived.Test.YtngjccjmhlhlbaaGreatProg
import Derived.Test.YtngjccjmhlhlbaaGreatDenZm
import Derived.Test.YtngjccjmhlhlbaaGreatIns
import Derived.Test.YtngjccjmhlhlbaaGreatEqs
set_option linter.unusedSimpArgs false
set_option linter.unusedSectionVars false
set_option linter.unusedVariables false
namespace Go.Den
open Go
set_option maxRecDepth 100000
variable [Val]
def ti1 : TI := ⟨.func, 1, [.nilf], false⟩
def ti2 : TI := ⟨(.int .i64), 1, [.int .i64 0], false⟩
def ti3 : TI := ⟨(.int .i64), 1, [.int .i64 0], false⟩
def ti4 : TI := ⟨.bool, 1, [.bool false], false⟩
def ti5 : TI := ⟨(.int .u8), 1, [.int .u8 0], false⟩
def ti6 : TI := ⟨(.int .u8), 1, [.int .u8 0], false⟩
def ti7 : TI := ⟨(.struct [(0, 1), (1, 1), (2, 1), (3, 1)]), 4, [.int .i64 0, .int .i64 0, .bool false, .int .u8 0], false⟩
def ti8 : TI := ⟨(.struct [(0, 1), (1, 1), (2, 1), (3, 1)]), 4, [.int .i64 0, .int .i64 0, .bool false, .int .u8 0], false⟩
def ti9 : TI := ⟨.str, 1, [.str []], false⟩
def ti10 : TI := ⟨.str, 1, [.str []], false⟩
def ti11 : TI := ⟨.str, 1, [.str []], false⟩
def ti12 : TI := ⟨(.int .u64), 1, [.int .u64 0], false⟩
def ti13 : TI := ⟨(.struct [(0, 1), (1, 1)]), 2, [.str [], .int .u64 0], false⟩
def ti14 : TI := ⟨(.struct [(0, 1), (1, 1)]), 2, [.str [], .int .u64 0], false⟩
def ti15 : TI := ⟨.ptr, 1, [.nilp], false⟩
def ti16 : TI := ⟨.ptr, 1, [.nilp], false⟩
def ti17 : TI := ⟨.ptr, 1, [.nilp], false⟩
def ti18 : TI := ⟨(.struct [(0, 1)]), 1, [.nilp], false⟩
def ti19 : TI := ⟨(.struct [(0, 1)]), 1, [.nilp], false⟩
def ti21 : TI := ⟨(.int .i32), 1, [.int .i32 0], false⟩
def ti22 : TI := ⟨(.slice 1 1 [.int .u8 0] true), 1, [.nil], false⟩
def ti23 : TI := ⟨(.struct [(0, 1), (1, 1), (2, 1), (3, 1), (4, 1), (5, 1), (6, 1)]), 7, [.int .i64 0, .str [], .str [], .int .i64 0, .int .i64 0, .int .i64 0, .nil], false⟩
def ti24 : TI := ⟨(.struct [(0, 1), (1, 1), (2, 1), (3, 1), (4, 1), (5, 1), (6, 1)]), 7, [.int .i64 0, .str [], .str [], .int .i64 0, .int .i64 0, .int .i64 0, .nil], false⟩
def ti25 : TI := ⟨(.slice 7 88 [.int .i64 0, .str [], .str [], .int .i64 0, .int .i64 0, .int .i64 0, .nil] false), 1, [.nil], false⟩
def ti26 : TI := ⟨(.slice 1 8 [.int .i64 0] false), 1, [.nil], false⟩
def ti27 : TI := ⟨(.struct [(0, 1), (1, 1)]), 2, [.nil, .int .i64 0], false⟩
def ti28 : TI := ⟨(.struct [(0, 1), (1, 1)]), 2, [.nil, .int .i64 0], false⟩
def ti29 : TI := ⟨(.slice 4 48 [.int .i64 0, .int .i64 0, .int .i64 0, .nil] false), 1, [.nil], false⟩
def ti30 : TI := ⟨(.slice 3 24 [.int .i64 0, .int .i64 0, .int .i64 0] false), 1, [.nil], false⟩
def ti31 : TI := ⟨(.struct [(0, 1), (1, 1), (2, 1), (3, 1)]), 4, [.int .i64 0, .nil, .nil, .int .i64 0], false⟩
def ti32 : TI := ⟨(.struct [(0, 1), (1, 1), (2, 1), (3, 1)]), 4, [.int .i64 0, .nil, .nil, .int .i64 0], false⟩
def ti33 : TI := ⟨(.struct [(0, 2), (2, 1), (3, 4)]), 7, [.nil, .int .i64 0, .nil, .int .i64 0, .nil, .nil, .int .i64 0], false⟩
def ti34 : TI := ⟨(.struct [(0, 2), (2, 1), (3, 4)]), 7, [.nil, .int .i64 0, .nil, .int .i64 0, .nil, .nil, .int .i64 0], false⟩
def ti36 : TI := ⟨.func, 1, [.nilf], false⟩
def ti37 : TI := ⟨(.slice 8 104 [.int .i64 0, .int .i64 0, .int .i64 0, .int .i64 0, .int .i64 0, .nil, .str [], .nil] false), 1, [.nil], false⟩
def ti38 : TI := ⟨(.struct [(0, 1), (1, 1), (2, 1), (3, 1)]), 4, [.int .i64 0, .int .i64 0, .int .i64 0, .nil], false⟩
def ti39 : TI := ⟨(.struct [(0, 1), (1, 1), (2, 1), (3, 1)]), 4, [.int .i64 0, .int .i64 0, .int .i64 0, .nil], false⟩
def ti40 : TI := ⟨.func, 1, [.nilf], false⟩
def ti41 : TI := ⟨.func, 1, [.nilf], false⟩
def ti42 : TI := ⟨(.int .i64), 1, [.int .i64 0], false⟩
def ti44 : TI := ⟨.func, 1, [.nilf], false⟩
def ti45 : TI := ⟨(.slice 1 16 [.str []] false), 1, [.nil], false⟩
def ti46 : TI := ⟨(.slice 2 16 [.int .i64 0, .int .i64 0] false), 1, [.nil], false⟩
def ti48 : TI := ⟨.func, 1, [.nilf], false⟩
def ti49 : TI := ⟨(.slice 2 32 [.int .i64 0, .nil] false), 1, [.nil], false⟩
def ti50 : TI := ⟨(.struct [(0, 1), (1, 1)]), 2, [.int .i64 0, .nil], false⟩
def ti51 : TI := ⟨(.struct [(0, 1), (1, 1)]), 2, [.int .i64 0, .nil], false⟩
def ti52 : TI := ⟨(.slice 2 24 [.str [], .int .i64 0] false), 1, [.nil], false⟩
def ti53 : TI := ⟨(.struct [(0, 1), (1, 1), (2, 1), (3, 1), (4, 2), (6, 1), (7, 1)]), 8, [.int .i64 0, .int .i64 0, .int .i64 0, .int .i64 0, .int .i64 0, .nil, .str [], .nil], false⟩
def ti54 : TI := ⟨(.struct [(0, 1), (1, 1), (2, 1), (3, 1), (4, 2), (6, 1), (7, 1)]), 8, [.int .i64 0, .int .i64 0, .int .i64 0, .int .i64 0, .int .i64 0, .nil, .str [], .nil], false⟩
def ti56 : TI := ⟨.func, 1, [.nilf], false⟩
def ti57 : TI := ⟨(.struct [(0, 1), (1, 1)]), 2, [.int .i64 0, .int .i64 0], false⟩
def ti58 : TI := ⟨(.struct [(0, 1), (1, 1)]), 2, [.int .i64 0, .int .i64 0], true⟩
def ti59 : TI := ⟨.func, 1, [.nilf], false⟩
def ti60 : TI := ⟨.func, 1, [.nilf], false⟩
def ti61 : TI := ⟨.func, 1, [.nilf], false⟩
def ti62 : TI := ⟨.func, 1, [.nilf], false⟩
def ti63 : TI := ⟨.func, 1, [.nilf], false⟩
def ti64 : TI := ⟨(.struct [(0, 1), (1, 1), (2, 1), (3, 1), (4, 1)]), 5, [.int .i64 0, .int .i64 0, .int .i64 0, .int .i64 0, .int .i64 0], false⟩
def ti65 : TI := ⟨(.struct [(0, 1), (1, 1), (2, 1), (3, 1), (4, 1)]), 5, [.int .i64 0, .int .i64 0, .int .i64 0, .int .i64 0, .int .i64 0], false⟩
def ti66 : TI := ⟨(.struct [(0, 1), (1, 1), (2, 5)]), 7, [.nil, .nil, .int .i64 0, .int .i64 0, .int .i64 0, .int .i64 0, .int .i64 0], false⟩
def ti67 : TI := ⟨(.struct [(0, 1), (1, 1), (2, 5)]), 7, [.nil, .nil, .int .i64 0, .int .i64 0, .int .i64 0, .int .i64 0, .int .i64 0], false⟩
def ti69 : TI := ⟨.func, 1, [.nilf], false⟩
def ti71 : TI := ⟨.func, 1, [.nilf], false⟩
def ti72 : TI := ⟨.func, 1, [.nilf], false⟩
def ti74 : TI := ⟨.func, 1, [.nilf], false⟩
def ti75 : TI := ⟨.func, 1, [.nilf], false⟩
def ti76 : TI := ⟨.func, 1, [.nilf], false⟩
def ti78 : TI := ⟨.func, 1, [.nilf], false⟩
def ti80 : TI := ⟨.func, 1, [.nilf], false⟩
def ti81 : TI := ⟨.func, 1, [.nilf], false⟩
def ti82 : TI := ⟨.func, 1, [.nilf], false⟩
def ti83 : TI := ⟨.func, 1, [.nilf], false⟩
def ti85 : TI := ⟨.func, 1, [.nilf], false⟩
def ti86 : TI := ⟨.func, 1, [.nilf], false⟩
def ti87 : TI := ⟨.func, 1, [.nilf], false⟩
def ti89 : TI := ⟨.func, 1, [.nilf], false⟩
def ti91 : TI := ⟨.func, 1, [.nilf], false⟩
def ti92 : TI := ⟨.func, 1, [.nilf], false⟩
def ti93 : TI := ⟨.func, 1, [.nilf], false⟩
def ti94 : TI := ⟨.func, 1, [.nilf], false⟩
def ti95 : TI := ⟨.func, 1, [.nilf], false⟩
def ti96 : TI := ⟨.func, 1, [.nilf], false⟩
def ti98 : TI := ⟨.func, 1, [.nilf], false⟩
def ti99 : TI := ⟨.func, 1, [.nilf], false⟩
def ti101 : TI := ⟨.func, 1, [.nilf], false⟩
def ti102 : TI := ⟨.func, 1, [.nilf], false⟩
def ti103 : TI := ⟨.func, 1, [.nilf], false⟩
def ti104 : TI := ⟨.func, 1, [.nilf], false⟩
def ti105 : TI := ⟨.func, 1, [.nilf], false⟩
def ti106 : TI := ⟨.func, 1, [.nilf], false⟩
def ti108 : TI := ⟨.func, 1, [.nilf], false⟩
def ti109 : TI := ⟨.func, 1, [.nilf], false⟩
def ti110 : TI := ⟨.func, 1, [.nilf], false⟩
def ti112 : TI := ⟨.func, 1, [.nilf], false⟩
def ti114 : TI := ⟨.func, 1, [.nilf], false⟩
def ti115 : TI := ⟨.func, 1, [.nilf], false⟩
def ti116 : TI := ⟨.func, 1, [.nilf], false⟩
def ti117 : TI := ⟨.func, 1, [.nilf], false⟩
def ti118 : TI := ⟨.func, 1, [.nilf], false⟩
def ti119 : TI := ⟨.func, 1, [.nilf], false⟩
def ti120 : TI := ⟨.func, 1, [.nilf], false⟩
def ti121 : TI := ⟨.func, 1, [.nilf], false⟩
def ti122 : TI := ⟨.func, 1, [.nilf], false⟩
def ti123 : TI := ⟨.func, 1, [.nilf], false⟩
def ti124 : TI := ⟨.func, 1, [.nilf], false⟩
def ti125 : TI := ⟨.func, 1, [.nilf], false⟩
def ti126 : TI := ⟨.func, 1, [.nilf], false⟩
def ti127 : TI := ⟨.func, 1, [.nilf], false⟩
def ti128 : TI := ⟨.func, 1, [.nilf], false⟩
def ti129 : TI := ⟨.func, 1, [.nilf], false⟩
def ti130 : TI := ⟨.func, 1, [.nilf], false⟩
def ti131 : TI := ⟨.func, 1, [.nilf], false⟩
def ti133 : TI := ⟨.func, 1, [.nilf], false⟩
def ti134 : TI := ⟨.func, 1, [.nilf], false⟩
def ti135 : TI := ⟨.func, 1, [.nilf], false⟩
def ti136 : TI := ⟨.func, 1, [.nilf], false⟩
def ti137 : TI := ⟨(.slice 1 8 [.int .i64 0] false), 1, [.nil], false⟩
def ti139 : TI := ⟨.func, 1, [.nilf], false⟩
def ti140 : TI := ⟨.func, 1, [.nilf], false⟩
def ti141 : TI := ⟨.func, 1, [.nilf], false⟩
def ti143 : TI := ⟨.func, 1, [.nilf], false⟩
def ti144 : TI := ⟨.func, 1, [.nilf], false⟩
def ti145 : TI := ⟨.func, 1, [.nilf], false⟩
def ti146 : TI := ⟨.func, 1, [.nilf], false⟩
def ti148 : TI := ⟨.func, 1, [.nilf], false⟩
def ti149 : TI := ⟨(.struct [(0, 2), (2, 1)]), 3, [.int .i64 0, .int .i64 0, .int .i64 0], false⟩
def ti150 : TI := ⟨(.struct [(0, 2), (2, 1)]), 3, [.int .i64 0, .int .i64 0, .int .i64 0], true⟩
def ti151 : TI := ⟨.func, 1, [.nilf], false⟩
def ti152 : TI := ⟨.func, 1, [.nilf], false⟩
def ti153 : TI := ⟨.func, 1, [.nilf], false⟩
def ti154 : TI := ⟨.func, 1, [.nilf], false⟩
def ti155 : TI := ⟨.func, 1, [.nilf], false⟩
def ti156 : TI := ⟨.func, 1, [.nilf], false⟩
def ti157 : TI := ⟨.func, 1, [.nilf], false⟩
def ti158 : TI := ⟨.func, 1, [.nilf], false⟩
def ti159 : TI := ⟨.func, 1, [.nilf], false⟩
def ti161 : TI := ⟨.func, 1, [.nilf], false⟩
def ti162 : TI := ⟨.func, 1, [.nilf], false⟩
def ti163 : TI := ⟨.func, 1, [.nilf], false⟩
def ti164 : TI := ⟨.func, 1, [.nilf], false⟩
def ti165 : TI := ⟨.func, 1, [.nilf], false⟩
def ti166 : TI := ⟨.func, 1, [.nilf], false⟩
def ti168 : TI := ⟨.func, 1, [.nilf], false⟩
def ti169 : TI := ⟨.func, 1, [.nilf], false⟩
def ti170 : TI := ⟨.func, 1, [.nilf], false⟩
def ti171 : TI := ⟨.func, 1, [.nilf], false⟩
def ti172 : TI := ⟨.func, 1, [.nilf], false⟩
def ti173 : TI := ⟨.func, 1, [.nilf], false⟩
def ti175 : TI := ⟨.func, 1, [.nilf], false⟩
def ti176 : TI := ⟨.func, 1, [.nilf], false⟩
def ti177 : TI := ⟨.func, 1, [.nilf], false⟩
def ti178 : TI := ⟨.func, 1, [.nilf], false⟩
def ti180 : TI := ⟨.func, 1, [.nilf], false⟩
def ti181 : TI := ⟨.func, 1, [.nilf], false⟩
def ti182 : TI := ⟨.func, 1, [.nilf], false⟩
def ti183 : TI := ⟨.func, 1, [.nilf], false⟩
def ti185 : TI := ⟨.func, 1, [.nilf], false⟩
def ti186 : TI := ⟨.func, 1, [.nilf], false⟩
def ti187 : TI := ⟨.func, 1, [.nilf], false⟩
def ti188 : TI := ⟨.func, 1, [.nilf], false⟩
def ti189 : TI := ⟨.func, 1, [.nilf], false⟩
def ti190 : TI := ⟨.func, 1, [.nilf], false⟩
def ti191 : TI := ⟨.func, 1, [.nilf], false⟩
def ti192 : TI := ⟨.func, 1, [.nilf], false⟩
def ti193 : TI := ⟨(.struct [(0, 1), (1, 1)]), 2, [.str [], .int .i64 0], false⟩
def ti194 : TI := ⟨(.struct [(0, 1), (1, 1)]), 2, [.str [], .int .i64 0], true⟩
def ti195 : TI := ⟨.func, 1, [.nilf], false⟩
def ti196 : TI := ⟨.func, 1, [.nilf], false⟩
def ti197 : TI := ⟨.func, 1, [.nilf], false⟩
def ti198 : TI := ⟨.func, 1, [.nilf], false⟩
def ti199 : TI := ⟨.func, 1, [.nilf], false⟩
def ti200 : TI := ⟨.func, 1, [.nilf], false⟩
def ti201 : TI := ⟨.func, 1, [.nilf], false⟩
def ti202 : TI := ⟨.func, 1, [.nilf], false⟩
def ti203 : TI := ⟨.func, 1, [.nilf], false⟩
def ti204 : TI := ⟨.func, 1, [.nilf], false⟩
def ti205 : TI := ⟨(.map 1 false [.int .i64 0]), 1, [.bad], false⟩
def ti207 : TI := ⟨.func, 1, [.nilf], false⟩
def ti209 : TI := ⟨.func, 1, [.nilf], false⟩
def ti210 : TI := ⟨.func, 1, [.nilf], false⟩
def ti211 : TI := ⟨.func, 1, [.nilf], false⟩
def ti212 : TI := ⟨.func, 1, [.nilf], false⟩
def ti213 : TI := ⟨.func, 1, [.nilf], false⟩
def ti214 : TI := ⟨.func, 1, [.nilf], false⟩
def ti215 : TI := ⟨.func, 1, [.nilf], false⟩
def ti216 : TI := ⟨.func, 1, [.nilf], false⟩
def ti217 : TI := ⟨.func, 1, [.nilf], false⟩
def ti219 : TI := ⟨.func, 1, [.nilf], false⟩
def ti220 : TI := ⟨.func, 1, [.nilf], false⟩
def ti221 : TI := ⟨.func, 1, [.nilf], false⟩
def ti222 : TI := ⟨.func, 1, [.nilf], false⟩
def ti223 : TI := ⟨.func, 1, [.nilf], false⟩
def ti224 : TI := ⟨.func, 1, [.nilf], false⟩
def ti225 : TI := ⟨.func, 1, [.nilf], false⟩
def ti226 : TI := ⟨.func, 1, [.nilf], false⟩
def ti227 : TI := ⟨.func, 1, [.nilf], false⟩
def ti228 : TI := ⟨.func, 1, [.nilf], false⟩
def ti229 : TI := ⟨.func, 1, [.nilf], false⟩
def ti230 : TI := ⟨.func, 1, [.nilf], false⟩
def ti231 : TI := ⟨.func, 1, [.nilf], false⟩
def ti233 : TI := ⟨.func, 1, [.nilf], false⟩
def ti234 : TI := ⟨.func, 1, [.nilf], false⟩
def ti235 : TI := ⟨.func, 1, [.nilf], false⟩
def ti236 : TI := ⟨.func, 1, [.nilf], false⟩
def ti237 : TI := ⟨.func, 1, [.nilf], false⟩
def ti238 : TI := ⟨.func, 1, [.nilf], false⟩
def ti239 : TI := ⟨.func, 1, [.nilf], false⟩
def ti240 : TI := ⟨.func, 1, [.nilf], false⟩
def ti241 : TI := ⟨.func, 1, [.nilf], false⟩
def ti242 : TI := ⟨(.struct [(0, 1), (1, 1)]), 2, [.int .i64 0, .nil], false⟩
def ti243 : TI := ⟨(.struct [(0, 1), (1, 1)]), 2, [.int .i64 0, .nil], false⟩
def ti244 : TI := ⟨.func, 1, [.nilf], false⟩
def ti245 : TI := ⟨.func, 1, [.nilf], false⟩
def ti246 : TI := ⟨.func, 1, [.nilf], false⟩
def ti247 : TI := ⟨(.int .u64), 1, [.int .u64 0], false⟩
def ti248 : TI := ⟨.func, 1, [.nilf], false⟩
def ti250 : TI := ⟨.func, 1, [.nilf], false⟩
def ti251 : TI := ⟨.func, 1, [.nilf], false⟩
def ti252 : TI := ⟨.func, 1, [.nilf], false⟩
def ti253 : TI := ⟨.func, 1, [.nilf], false⟩
def ti254 : TI := ⟨.func, 1, [.nilf], false⟩
def ti255 : TI := ⟨.func, 1, [.nilf], false⟩
def ti256 : TI := ⟨.func, 1, [.nilf], false⟩
def ti257 : TI := ⟨.func, 1, [.nilf], false⟩
def ti258 : TI := ⟨.func, 1, [.nilf], false⟩
def ti259 : TI := ⟨.func, 1, [.nilf], false⟩
def ti260 : TI := ⟨.func, 1, [.nilf], false⟩
def ti261 : TI := ⟨.func, 1, [.nilf], false⟩
def ti262 : TI := ⟨.func, 1, [.nilf], false⟩
def ti263 : TI := ⟨.func, 1, [.nilf], false⟩
def ti264 : TI := ⟨.func, 1, [.nilf], false⟩
def ti265 : TI := ⟨.func, 1, [.nilf], false⟩
def ti266 : TI := ⟨.func, 1, [.nilf], false⟩
def ti267 : TI := ⟨.func, 1, [.nilf], false⟩
def ti268 : TI := ⟨.func, 1, [.nilf], false⟩
def ti270 : TI := ⟨.func, 1, [.nilf], false⟩
def ti271 : TI := ⟨.func, 1, [.nilf], false⟩
def ti272 : TI := ⟨.func, 1, [.nilf], false⟩
def ti273 : TI := ⟨.func, 1, [.nilf], false⟩
def ti274 : TI := ⟨.func, 1, [.nilf], false⟩
def ti275 : TI := ⟨.func, 1, [.nilf], false⟩
def ti276 : TI := ⟨.func, 1, [.nilf], false⟩
def ti277 : TI := ⟨.func, 1, [.nilf], false⟩
def ti279 : TI := ⟨.func, 1, [.nilf], false⟩
def ti280 : TI := ⟨.func, 1, [.nilf], false⟩
def ti281 : TI := ⟨.func, 1, [.nilf], false⟩
def ti282 : TI := ⟨.func, 1, [.nilf], false⟩
def ti283 : TI := ⟨.func, 1, [.nilf], false⟩
def ti284 : TI := ⟨.func, 1, [.nilf], false⟩
def ti285 : TI := ⟨.func, 1, [.nilf], false⟩
def ti286 : TI := ⟨.func, 1, [.nilf], false⟩
def ti287 : TI := ⟨.func, 1, [.nilf], false⟩
def ti288 : TI := ⟨.func, 1, [.nilf], false⟩
def ti289 : TI := ⟨.func, 1, [.nilf], false⟩
def ti290 : TI := ⟨.func, 1, [.nilf], false⟩
def ti291 : TI := ⟨.func, 1, [.nilf], false⟩
def ti292 : TI := ⟨.func, 1, [.nilf], false⟩
def ti293 : TI := ⟨.func, 1, [.nilf], false⟩
def ti294 : TI := ⟨.func, 1, [.nilf], false⟩
def ti295 : TI := ⟨.func, 1, [.nilf], false⟩
def ti296 : TI := ⟨.func, 1, [.nilf], false⟩
def ti297 : TI := ⟨.func, 1, [.nilf], false⟩
def ti298 : TI := ⟨.func, 1, [.nilf], false⟩
def ti299 : TI := ⟨.func, 1, [.nilf], false⟩
def ti300 : TI := ⟨.func, 1, [.nilf], false⟩
def ti301 : TI := ⟨.func, 1, [.nilf], false⟩
def ti302 : TI := ⟨.func, 1, [.nilf], false⟩
def ti303 : TI := ⟨.func, 1, [.nilf], false⟩
def ti304 : TI := ⟨.func, 1, [.nilf], false⟩
def ti305 : TI := ⟨.func, 1, [.nilf], false⟩
def ti306 : TI := ⟨.func, 1, [.nilf], false⟩
def ti307 : TI := ⟨.func, 1, [.nilf], false⟩
def ti308 : TI := ⟨.func, 1, [.nilf], false⟩
def ti309 : TI := ⟨.func, 1, [.nilf], false⟩
def ti310 : TI := ⟨(.struct [(0, 1), (1, 1), (2, 1), (3, 1)]), 4, [.nilp, .nilp, .nilp, .str []], false⟩
def ti311 : TI := ⟨(.struct [(0, 1), (1, 1), (2, 1), (3, 1)]), 4, [.nilp, .nilp, .nilp, .str []], false⟩
def ti315 : TI := ⟨.func, 1, [.nilf], false⟩
def ti316 : TI := ⟨(.int .u32), 1, [.int .u32 0], false⟩
def ti317 : TI := ⟨(.int .u8), 1, [.int .u8 0], false⟩
def ti318 : TI := ⟨(.int .u8), 1, [.int .u8 0], false⟩
def ti319 : TI := ⟨.func, 1, [.nilf], false⟩
def ti320 : TI := ⟨.ptr, 1, [.nilp], false⟩
def ti321 : TI := ⟨(.int .i32), 1, [.int .i32 0], false⟩
def ti322 : TI := ⟨(.int .i32), 1, [.int .i32 0], false⟩
def ti323 : TI := ⟨(.struct [(0, 1), (1, 1), (2, 1), (3, 1), (4, 1), (5, 1), (6, 1), (7, 1), (8, 1), (9, 1), (10, 1)]), 11, [.int .u64 0, .int .u64 0, .int .u32 0, .int .u8 0, .int .u8 0, .int .u8 0, .int .u8 0, .nilf, .nilp, .int .i32 0, .int .i32 0], false⟩
def ti324 : TI := ⟨(.struct [(0, 1), (1, 1), (2, 1), (3, 1), (4, 1), (5, 1), (6, 1), (7, 1), (8, 1), (9, 1), (10, 1)]), 11, [.int .u64 0, .int .u64 0, .int .u32 0, .int .u8 0, .int .u8 0, .int .u8 0, .int .u8 0, .nilf, .nilp, .int .i32 0, .int .i32 0], false⟩
def tTree : Tr TI := (.node 168 ti168 (.node 82 ti82 (.node 38 ti38 (.node 18 ti18 (.node 9 ti9 (.node 5 ti5 (.node 3 ti3 (.node 2 ti2 (.node 1 ti1 .leaf .leaf) .leaf) (.node 4 ti4 .leaf .leaf)) (.node 7 ti7 (.node 6 ti6 .leaf .leaf) (.node 8 ti8 .leaf .leaf))) (.node 14 ti14 (.node 12 ti12 (.node 11 ti11 (.node 10 ti10 .leaf .leaf) .leaf) (.node 13 ti13 .leaf .leaf)) (.node 16 ti16 (.node 15 ti15 .leaf .leaf) (.node 17 ti17 .leaf .leaf)))) (.node 28 ti28 (.node 24 ti24 (.node 22 ti22 (.node 21 ti21 (.node 19 ti19 .leaf .leaf) .leaf) (.node 23 ti23 .leaf .leaf)) (.node 26 ti26 (.node 25 ti25 .leaf .leaf) (.node 27 ti27 .leaf .leaf))) (.node 33 ti33 (.node 31 ti31 (.node 30 ti30 (.node 29 ti29 .leaf .leaf) .leaf) (.node 32 ti32 .leaf .leaf)) (.node 36 ti36 (.node 34 ti34 .leaf .leaf) (.node 37 ti37 .leaf .leaf))))) (.node 59 ti59 (.node 49 ti49 (.node 44 ti44 (.node 41 ti41 (.node 40 ti40 (.node 39 ti39 .leaf .leaf) .leaf) (.node 42 ti42 .leaf .leaf)) (.node 46 ti46 (.node 45 ti45 .leaf .leaf) (.node 48 ti48 .leaf .leaf))) (.node 54 ti54 (.node 52 ti52 (.node 51 ti51 (.node 50 ti50 .leaf .leaf) .leaf) (.node 53 ti53 .leaf .leaf)) (.node 57 ti57 (.node 56 ti56 .leaf .leaf) (.node 58 ti58 .leaf .leaf)))) (.node 69 ti69 (.node 64 ti64 (.node 62 ti62 (.node 61 ti61 (.node 60 ti60 .leaf .leaf) .leaf) (.node 63 ti63 .leaf .leaf)) (.node 66 ti66 (.node 65 ti65 .leaf .leaf) (.node 67 ti67 .leaf .leaf))) (.node 76 ti76 (.node 74 ti74 (.node 72 ti72 (.node 71 ti71 .leaf .leaf) .leaf) (.node 75 ti75 .leaf .leaf)) (.node 80 ti80 (.node 78 ti78 .leaf .leaf) (.node 81 ti81 .leaf .leaf)))))) (.node 126 ti126 (.node 105 ti105 (.node 94 ti94 (.node 89 ti89 (.node 86 ti86 (.node 85 ti85 (.node 83 ti83 .leaf .leaf) .leaf) (.node 87 ti87 .leaf .leaf)) (.node 92 ti92 (.node 91 ti91 .leaf .leaf) (.node 93 ti93 .leaf .leaf))) (.node 101 ti101 (.node 98 ti98 (.node 96 ti96 (.node 95 ti95 .leaf .leaf) .leaf) (.node 99 ti99 .leaf .leaf)) (.node 103 ti103 (.node 102 ti102 .leaf .leaf) (.node 104 ti104 .leaf .leaf)))) (.node 117 ti117 (.node 112 ti112 (.node 109 ti109 (.node 108 ti108 (.node 106 ti106 .leaf .leaf) .leaf) (.node 110 ti110 .leaf .leaf)) (.node 115 ti115 (.node 114 ti114 .leaf .leaf) (.node 116 ti116 .leaf .leaf))) (.node 122 ti122 (.node 120 ti120 (.node 119 ti119 (.node 118 ti118 .leaf .leaf) .leaf) (.node 121 ti121 .leaf .leaf)) (.node 124 ti124 (.node 123 ti123 .leaf .leaf) (.node 125 ti125 .leaf .leaf))))) (.node 148 ti148 (.node 136 ti136 (.node 131 ti131 (.node 129 ti129 (.node 128 ti128 (.node 127 ti127 .leaf .leaf) .leaf) (.node 130 ti130 .leaf .leaf)) (.node 134 ti134 (.node 133 ti133 .leaf .leaf) (.node 135 ti135 .leaf .leaf))) (.node 143 ti143 (.node 140 ti140 (.node 139 ti139 (.node 137 ti137 .leaf .leaf) .leaf) (.node 141 ti141 .leaf .leaf)) (.node 145 ti145 (.node 144 ti144 .leaf .leaf) (.node 146 ti146 .leaf .leaf)))) (.node 157 ti157 (.node 153 ti153 (.node 151 ti151 (.node 150 ti150 (.node 149 ti149 .leaf .leaf) .leaf) (.node 152 ti152 .leaf .leaf)) (.node 155 ti155 (.node 154 ti154 .leaf .leaf) (.node 156 ti156 .leaf .leaf))) (.node 163 ti163 (.node 161 ti161 (.node 159 ti159 (.node 158 ti158 .leaf .leaf) .leaf) (.node 162 ti162 .leaf .leaf)) (.node 165 ti165 (.node 164 ti164 .leaf .leaf) (.node 166 ti166 .leaf .leaf))))))) (.node 247 ti247 (.node 209 ti209 (.node 189 ti189 (.node 178 ti178 (.node 173 ti173 (.node 171 ti171 (.node 170 ti170 (.node 169 ti169 .leaf .leaf) .leaf) (.node 172 ti172 .leaf .leaf)) (.node 176 ti176 (.node 175 ti175 .leaf .leaf) (.node 177 ti177 .leaf .leaf))) (.node 185 ti185 (.node 182 ti182 (.node 181 ti181 (.node 180 ti180 .leaf .leaf) .leaf) (.node 183 ti183 .leaf .leaf)) (.node 187 ti187 (.node 186 ti186 .leaf .leaf) (.node 188 ti188 .leaf .leaf)))) (.node 198 ti198 (.node 194 ti194 (.node 192 ti192 (.node 191 ti191 (.node 190 ti190 .leaf .leaf) .leaf) (.node 193 ti193 .leaf .leaf)) (.node 196 ti196 (.node 195 ti195 .leaf .leaf) (.node 197 ti197 .leaf .leaf))) (.node 203 ti203 (.node 201 ti201 (.node 200 ti200 (.node 199 ti199 .leaf .leaf) .leaf) (.node 202 ti202 .leaf .leaf)) (.node 205 ti205 (.node 204 ti204 .leaf .leaf) (.node 207 ti207 .leaf .leaf))))) (.node 228 ti228 (.node 219 ti219 (.node 214 ti214 (.node 212 ti212 (.node 211 ti211 (.node 210 ti210 .leaf .leaf) .leaf) (.node 213 ti213 .leaf .leaf)) (.node 216 ti216 (.node 215 ti215 .leaf .leaf) (.node 217 ti217 .leaf .leaf))) (.node 224 ti224 (.node 222 ti222 (.node 221 ti221 (.node 220 ti220 .leaf .leaf) .leaf) (.node 223 ti223 .leaf .leaf)) (.node 226 ti226 (.node 225 ti225 .leaf .leaf) (.node 227 ti227 .leaf .leaf)))) (.node 238 ti238 (.node 234 ti234 (.node 231 ti231 (.node 230 ti230 (.node 229 ti229 .leaf .leaf) .leaf) (.node 233 ti233 .leaf .leaf)) (.node 236 ti236 (.node 235 ti235 .leaf .leaf) (.node 237 ti237 .leaf .leaf))) (.node 243 ti243 (.node 241 ti241 (.node 240 ti240 (.node 239 ti239 .leaf .leaf) .leaf) (.node 242 ti242 .leaf .leaf)) (.node 245 ti245 (.node 244 ti244 .leaf .leaf) (.node 246 ti246 .leaf .leaf)))))) (.node 286 ti286 (.node 266 ti266 (.node 257 ti257 (.node 253 ti253 (.node 251 ti251 (.node 250 ti250 (.node 248 ti248 .leaf .leaf) .leaf) (.node 252 ti252 .leaf .leaf)) (.node 255 ti255 (.node 254 ti254 .leaf .leaf) (.node 256 ti256 .leaf .leaf))) (.node 262 ti262 (.node 260 ti260 (.node 259 ti259 (.node 258 ti258 .leaf .leaf) .leaf) (.node 261 ti261 .leaf .leaf)) (.node 264 ti264 (.node 263 ti263 .leaf .leaf) (.node 265 ti265 .leaf .leaf)))) (.node 276 ti276 (.node 272 ti272 (.node 270 ti270 (.node 268 ti268 (.node 267 ti267 .leaf .leaf) .leaf) (.node 271 ti271 .leaf .leaf)) (.node 274 ti274 (.node 273 ti273 .leaf .leaf) (.node 275 ti275 .leaf .leaf))) (.node 282 ti282 (.node 280 ti280 (.node 279 ti279 (.node 277 ti277 .leaf .leaf) .leaf) (.node 281 ti281 .leaf .leaf)) (.node 284 ti284 (.node 283 ti283 .leaf .leaf) (.node 285 ti285 .leaf .leaf))))) (.node 304 ti304 (.node 295 ti295 (.node 291 ti291 (.node 289 ti289 (.node 288 ti288 (.node 287 ti287 .leaf .leaf) .leaf) (.node 290 ti290 .leaf .leaf)) (.node 293 ti293 (.node 292 ti292 .leaf .leaf) (.node 294 ti294 .leaf .leaf))) (.node 300 ti300 (.node 298 ti298 (.node 297 ti297 (.node 296 ti296 .leaf .leaf) .leaf) (.node 299 ti299 .leaf .leaf)) (.node 302 ti302 (.node 301 ti301 .leaf .leaf) (.node 303 ti303 .leaf .leaf)))) (.node 316 ti316 (.node 309 ti309 (.node 307 ti307 (.node 306 ti306 (.node 305 ti305 .leaf .leaf) .leaf) (.node 308 ti308 .leaf .leaf)) (.node 311 ti311 (.node 310 ti310 .leaf .leaf) (.node 315 ti315 .leaf .leaf))) (.node 321 ti321 (.node 319 ti319 (.node 318 ti318 (.node 317 ti317 .leaf .leaf) .leaf) (.node 320 ti320 .leaf .leaf)) (.node 323 ti323 (.node 322 ti322 .leaf .leaf) (.node 324 ti324 .leaf .leaf))))))))
noncomputable def gTree : Tr Func := (.node 148 Go.Proofs.Tryz.f148 (.node 81 Go.Proofs.Tryz.f81 (.node 41 Go.Proofs.Tryz.f41 (.node 22 Go.Proofs.Tryz.f22 (.node 14 Go.Proofs.Tryz.f14 (.node 8 Go.Proofs.Tryz.f8 (.node 6 Go.Proofs.Tryz.f6 (.node 4 Go.Proofs.Tryz.f4 .leaf .leaf) (.node 7 Go.Proofs.Tryz.f7 .leaf .leaf)) (.node 10 Go.Proofs.Tryz.f10 (.node 9 Go.Proofs.Tryz.f9 .leaf .leaf) (.node 11 Go.Proofs.Tryz.f11 .leaf .leaf))) (.node 18 Go.Proofs.Tryz.f18 (.node 16 Go.Proofs.Tryz.f16 (.node 15 Go.Proofs.Tryz.f15 .leaf .leaf) (.node 17 Go.Proofs.Tryz.f17 .leaf .leaf)) (.node 20 Go.Proofs.Tryz.f20 (.node 19 Go.Proofs.Tryz.f19 .leaf .leaf) (.node 21 Go.Proofs.Tryz.f21 .leaf .leaf)))) (.node 34 Go.Proofs.Tryz.f34 (.node 30 Go.Proofs.Tryz.f30 (.node 24 Go.Proofs.Tryz.f24 (.node 23 Go.Proofs.Tryz.f23 .leaf .leaf) (.node 29 Go.Proofs.Tryz.f29 .leaf .leaf)) (.node 32 Go.Proofs.Tryz.f32 (.node 31 Go.Proofs.Tryz.f31 .leaf .leaf) (.node 33 Go.Proofs.Tryz.f33 .leaf .leaf))) (.node 38 Go.Proofs.Tryz.f38 (.node 36 Go.Proofs.Tryz.f36 (.node 35 Go.Proofs.Tryz.f35 .leaf .leaf) (.node 37 Go.Proofs.Tryz.f37 .leaf .leaf)) (.node 40 Go.Proofs.Tryz.f40 (.node 39 Go.Proofs.Tryz.f39 .leaf .leaf) .leaf)))) (.node 58 Go.Proofs.Tryz.f58 (.node 50 Go.Proofs.Tryz.f50 (.node 45 Go.Proofs.Tryz.f45 (.node 43 Go.Proofs.Tryz.f43 (.node 42 Go.Proofs.Tryz.f42 .leaf .leaf) (.node 44 Go.Proofs.Tryz.f44 .leaf .leaf)) (.node 48 Go.Proofs.Tryz.f48 (.node 46 Go.Proofs.Tryz.f46 .leaf .leaf) (.node 49 Go.Proofs.Tryz.f49 .leaf .leaf))) (.node 54 Go.Proofs.Tryz.f54 (.node 52 Go.Proofs.Tryz.f52 (.node 51 Go.Proofs.Tryz.f51 .leaf .leaf) (.node 53 Go.Proofs.Tryz.f53 .leaf .leaf)) (.node 56 Go.Proofs.Tryz.f56 (.node 55 Go.Proofs.Tryz.f55 .leaf .leaf) (.node 57 Go.Proofs.Tryz.f57 .leaf .leaf)))) (.node 74 Go.Proofs.Tryz.f74 (.node 70 Go.Proofs.Tryz.f70 (.node 62 Go.Proofs.Tryz.f62 (.node 59 Go.Proofs.Tryz.f59 .leaf .leaf) (.node 63 Go.Proofs.Tryz.f63 .leaf .leaf)) (.node 72 Go.Proofs.Tryz.f72 (.node 71 Go.Proofs.Tryz.f71 .leaf .leaf) (.node 73 Go.Proofs.Tryz.f73 .leaf .leaf))) (.node 78 Go.Proofs.Tryz.f78 (.node 76 Go.Proofs.Tryz.f76 (.node 75 Go.Proofs.Tryz.f75 .leaf .leaf) (.node 77 Go.Proofs.Tryz.f77 .leaf .leaf)) (.node 80 Go.Proofs.Tryz.f80 (.node 79 Go.Proofs.Tryz.f79 .leaf .leaf) .leaf))))) (.node 112 Go.Proofs.Tryz.f112 (.node 97 Go.Proofs.Tryz.f97 (.node 89 Go.Proofs.Tryz.f89 (.node 85 Go.Proofs.Tryz.f85 (.node 83 Go.Proofs.Tryz.f83 (.node 82 Go.Proofs.Tryz.f82 .leaf .leaf) (.node 84 Go.Proofs.Tryz.f84 .leaf .leaf)) (.node 87 Go.Proofs.Tryz.f87 (.node 86 Go.Proofs.Tryz.f86 .leaf .leaf) (.node 88 Go.Proofs.Tryz.f88 .leaf .leaf))) (.node 93 Go.Proofs.Tryz.f93 (.node 91 Go.Proofs.Tryz.f91 (.node 90 Go.Proofs.Tryz.f90 .leaf .leaf) (.node 92 Go.Proofs.Tryz.f92 .leaf .leaf)) (.node 95 Go.Proofs.Tryz.f95 (.node 94 Go.Proofs.Tryz.f94 .leaf .leaf) (.node 96 Go.Proofs.Tryz.f96 .leaf .leaf)))) (.node 105 Go.Proofs.Tryz.f105 (.node 101 Go.Proofs.Tryz.f101 (.node 99 Go.Proofs.Tryz.f99 (.node 98 Go.Proofs.Tryz.f98 .leaf .leaf) (.node 100 Go.Proofs.Tryz.f100 .leaf .leaf)) (.node 103 Go.Proofs.Tryz.f103 (.node 102 Go.Proofs.Tryz.f102 .leaf .leaf) (.node 104 Go.Proofs.Tryz.f104 .leaf .leaf))) (.node 109 Go.Proofs.Tryz.f109 (.node 107 Go.Proofs.Tryz.f107 (.node 106 Go.Proofs.Tryz.f106 .leaf .leaf) (.node 108 Go.Proofs.Tryz.f108 .leaf .leaf)) (.node 111 Go.Proofs.Tryz.f111 (.node 110 Go.Proofs.Tryz.f110 .leaf .leaf) .leaf)))) (.node 128 Go.Proofs.Tryz.f128 (.node 120 Go.Proofs.Tryz.f120 (.node 116 Go.Proofs.Tryz.f116 (.node 114 Go.Proofs.Tryz.f114 (.node 113 Go.Proofs.Tryz.f113 .leaf .leaf) (.node 115 Go.Proofs.Tryz.f115 .leaf .leaf)) (.node 118 Go.Proofs.Tryz.f118 (.node 117 Go.Proofs.Tryz.f117 .leaf .leaf) (.node 119 Go.Proofs.Tryz.f119 .leaf .leaf))) (.node 124 Go.Proofs.Tryz.f124 (.node 122 Go.Proofs.Tryz.f122 (.node 121 Go.Proofs.Tryz.f121 .leaf .leaf) (.node 123 Go.Proofs.Tryz.f123 .leaf .leaf)) (.node 126 Go.Proofs.Tryz.f126 (.node 125 Go.Proofs.Tryz.f125 .leaf .leaf) (.node 127 Go.Proofs.Tryz.f127 .leaf .leaf)))) (.node 141 Go.Proofs.Tryz.f141 (.node 136 Go.Proofs.Tryz.f136 (.node 133 Go.Proofs.Tryz.f133 (.node 131 Go.Proofs.Tryz.f131 .leaf .leaf) (.node 134 Go.Proofs.Tryz.f134 .leaf .leaf)) (.node 139 Go.Proofs.Tryz.f139 (.node 138 Go.Proofs.Tryz.f138 .leaf .leaf) (.node 140 Go.Proofs.Tryz.f140 .leaf .leaf))) (.node 145 Go.Proofs.Tryz.f145 (.node 143 Go.Proofs.Tryz.f143 (.node 142 Go.Proofs.Tryz.f142 .leaf .leaf) (.node 144 Go.Proofs.Tryz.f144 .leaf .leaf)) (.node 147 Go.Proofs.Tryz.f147 (.node 146 Go.Proofs.Tryz.f146 .leaf .leaf) .leaf)))))) (.node 210 Go.Proofs.Tryz.f210 (.node 179 Go.Proofs.Tryz.f179 (.node 164 Go.Proofs.Tryz.f164 (.node 156 Go.Proofs.Tryz.f156 (.node 152 Go.Proofs.Tryz.f152 (.node 150 Go.Proofs.Tryz.f150 (.node 149 Go.Proofs.Tryz.f149 .leaf .leaf) (.node 151 Go.Proofs.Tryz.f151 .leaf .leaf)) (.node 154 Go.Proofs.Tryz.f154 (.node 153 Go.Proofs.Tryz.f153 .leaf .leaf) (.node 155 Go.Proofs.Tryz.f155 .leaf .leaf))) (.node 160 Go.Proofs.Tryz.f160 (.node 158 Go.Proofs.Tryz.f158 (.node 157 Go.Proofs.Tryz.f157 .leaf .leaf) (.node 159 Go.Proofs.Tryz.f159 .leaf .leaf)) (.node 162 Go.Proofs.Tryz.f162 (.node 161 Go.Proofs.Tryz.f161 .leaf .leaf) (.node 163 Go.Proofs.Tryz.f163 .leaf .leaf)))) (.node 172 Go.Proofs.Tryz.f172 (.node 168 Go.Proofs.Tryz.f168 (.node 166 Go.Proofs.Tryz.f166 (.node 165 Go.Proofs.Tryz.f165 .leaf .leaf) (.node 167 Go.Proofs.Tryz.f167 .leaf .leaf)) (.node 170 Go.Proofs.Tryz.f170 (.node 169 Go.Proofs.Tryz.f169 .leaf .leaf) (.node 171 Go.Proofs.Tryz.f171 .leaf .leaf))) (.node 176 Go.Proofs.Tryz.f176 (.node 174 Go.Proofs.Tryz.f174 (.node 173 Go.Proofs.Tryz.f173 .leaf .leaf) (.node 175 Go.Proofs.Tryz.f175 .leaf .leaf)) (.node 178 Go.Proofs.Tryz.f178 (.node 177 Go.Proofs.Tryz.f177 .leaf .leaf) .leaf)))) (.node 195 Go.Proofs.Tryz.f195 (.node 187 Go.Proofs.Tryz.f187 (.node 183 Go.Proofs.Tryz.f183 (.node 181 Go.Proofs.Tryz.f181 (.node 180 Go.Proofs.Tryz.f180 .leaf .leaf) (.node 182 Go.Proofs.Tryz.f182 .leaf .leaf)) (.node 185 Go.Proofs.Tryz.f185 (.node 184 Go.Proofs.Tryz.f184 .leaf .leaf) (.node 186 Go.Proofs.Tryz.f186 .leaf .leaf))) (.node 191 Go.Proofs.Tryz.f191 (.node 189 Go.Proofs.Tryz.f189 (.node 188 Go.Proofs.Tryz.f188 .leaf .leaf) (.node 190 Go.Proofs.Tryz.f190 .leaf .leaf)) (.node 193 Go.Proofs.Tryz.f193 (.node 192 Go.Proofs.Tryz.f192 .leaf .leaf) (.node 194 Go.Proofs.Tryz.f194 .leaf .leaf)))) (.node 203 Go.Proofs.Tryz.f203 (.node 199 Go.Proofs.Tryz.f199 (.node 197 Go.Proofs.Tryz.f197 (.node 196 Go.Proofs.Tryz.f196 .leaf .leaf) (.node 198 Go.Proofs.Tryz.f198 .leaf .leaf)) (.node 201 Go.Proofs.Tryz.f201 (.node 200 Go.Proofs.Tryz.f200 .leaf .leaf) (.node 202 Go.Proofs.Tryz.f202 .leaf .leaf))) (.node 207 Go.Proofs.Tryz.f207 (.node 205 Go.Proofs.Tryz.f205 (.node 204 Go.Proofs.Tryz.f204 .leaf .leaf) (.node 206 Go.Proofs.Tryz.f206 .leaf .leaf)) (.node 209 Go.Proofs.Tryz.f209 (.node 208 Go.Proofs.Tryz.f208 .leaf .leaf) .leaf))))) (.node 250 Go.Proofs.Tryz.f250 (.node 235 Go.Proofs.Tryz.f235 (.node 227 Go.Proofs.Tryz.f227 (.node 221 Go.Proofs.Tryz.f221 (.node 216 Go.Proofs.Tryz.f216 (.node 215 Go.Proofs.Tryz.f215 .leaf .leaf) (.node 217 Go.Proofs.Tryz.f217 .leaf .leaf)) (.node 225 Go.Proofs.Tryz.f225 (.node 224 Go.Proofs.Tryz.f224 .leaf .leaf) (.node 226 Go.Proofs.Tryz.f226 .leaf .leaf))) (.node 231 Go.Proofs.Tryz.f231 (.node 229 Go.Proofs.Tryz.f229 (.node 228 Go.Proofs.Tryz.f228 .leaf .leaf) (.node 230 Go.Proofs.Tryz.f230 .leaf .leaf)) (.node 233 Go.Proofs.Tryz.f233 (.node 232 Go.Proofs.Tryz.f232 .leaf .leaf) (.node 234 Go.Proofs.Tryz.f234 .leaf .leaf)))) (.node 243 Go.Proofs.Tryz.f243 (.node 239 Go.Proofs.Tryz.f239 (.node 237 Go.Proofs.Tryz.f237 (.node 236 Go.Proofs.Tryz.f236 .leaf .leaf) (.node 238 Go.Proofs.Tryz.f238 .leaf .leaf)) (.node 241 Go.Proofs.Tryz.f241 (.node 240 Go.Proofs.Tryz.f240 .leaf .leaf) (.node 242 Go.Proofs.Tryz.f242 .leaf .leaf))) (.node 247 Go.Proofs.Tryz.f247 (.node 245 Go.Proofs.Tryz.f245 (.node 244 Go.Proofs.Tryz.f244 .leaf .leaf) (.node 246 Go.Proofs.Tryz.f246 .leaf .leaf)) (.node 249 Go.Proofs.Tryz.f249 (.node 248 Go.Proofs.Tryz.f248 .leaf .leaf) .leaf)))) (.node 268 Go.Proofs.Tryz.f268 (.node 258 Go.Proofs.Tryz.f258 (.node 254 Go.Proofs.Tryz.f254 (.node 252 Go.Proofs.Tryz.f252 (.node 251 Go.Proofs.Tryz.f251 .leaf .leaf) (.node 253 Go.Proofs.Tryz.f253 .leaf .leaf)) (.node 256 Go.Proofs.Tryz.f256 (.node 255 Go.Proofs.Tryz.f255 .leaf .leaf) (.node 257 Go.Proofs.Tryz.f257 .leaf .leaf))) (.node 265 Go.Proofs.Tryz.f265 (.node 260 Go.Proofs.Tryz.f260 (.node 259 Go.Proofs.Tryz.f259 .leaf .leaf) (.node 261 Go.Proofs.Tryz.f261 .leaf .leaf)) (.node 267 Go.Proofs.Tryz.f267 (.node 266 Go.Proofs.Tryz.f266 .leaf .leaf) .leaf))) (.node 281 Go.Proofs.Tryz.f281 (.node 276 Go.Proofs.Tryz.f276 (.node 274 Go.Proofs.Tryz.f274 (.node 269 Go.Proofs.Tryz.f269 .leaf .leaf) (.node 275 Go.Proofs.Tryz.f275 .leaf .leaf)) (.node 279 Go.Proofs.Tryz.f279 (.node 277 Go.Proofs.Tryz.f277 .leaf .leaf) (.node 280 Go.Proofs.Tryz.f280 .leaf .leaf))) (.node 287 Go.Proofs.Tryz.f287 (.node 283 Go.Proofs.Tryz.f283 (.node 282 Go.Proofs.Tryz.f282 .leaf .leaf) (.node 284 Go.Proofs.Tryz.f284 .leaf .leaf)) (.node 293 Go.Proofs.Tryz.f293 (.node 288 Go.Proofs.Tryz.f288 .leaf .leaf) .leaf)))))))
def dr4 : Tr (List HOp) := (.node 13 [⟨1, 0, 0, [11], []⟩, ⟨3, 0, 0, [111], []⟩, ⟨0, 0, 0, [7], []⟩, ⟨0, 0, 0, [113], []⟩, ⟨1, 0, 1, [114], []⟩, ⟨0, 0, 0, [115], []⟩, ⟨3, 0, 0, [112, 116], []⟩, ⟨0, 0, 0, [117], []⟩, ⟨0, 0, 0, [110], []⟩, ⟨0, 0, 0, [110], []⟩, ⟨2, 0, 0, [], []⟩, ⟨3, 0, 0, [15, 118], [10]⟩, ⟨0, 0, 0, [119], []⟩] .leaf .leaf)
def dr6 : Tr (List HOp) := (.node 7 [⟨0, 0, 0, [6], []⟩, ⟨1, 0, 1, [29], []⟩, ⟨0, 0, 0, [1], []⟩, ⟨0, 0, 0, [7], []⟩, ⟨0, 0, 0, [31, 32], []⟩, ⟨1, 0, 0, [33], []⟩, ⟨3, 0, 0, [34], []⟩, ⟨2, 0, 0, [35], []⟩, ⟨3, 0, 0, [30, 36], [7]⟩, ⟨0, 0, 0, [6], []⟩, ⟨3, 0, 0, [38, 37], []⟩] (.node 3 [⟨2, 0, 0, [], []⟩, ⟨0, 0, 0, [2], []⟩, ⟨1, 0, 0, [16], []⟩, ⟨3, 0, 0, [15, 17], [0]⟩, ⟨0, 0, 0, [2], []⟩, ⟨1, 0, 1, [19], []⟩, ⟨0, 0, 0, [18, 20], []⟩, ⟨0, 0, 0, [21], []⟩, ⟨2, 0, 0, [], []⟩, ⟨3, 0, 0, [6, 22], [8]⟩] .leaf .leaf) .leaf)
def dr7 : Tr (List HOp) := .leaf
def dr8 : Tr (List HOp) := (.node 4 [⟨1, 0, 0, [2], []⟩, ⟨0, 0, 0, [1], []⟩, ⟨0, 0, 0, [5], []⟩, ⟨0, 0, 0, [14, 15], []⟩, ⟨1, 0, 0, [16], []⟩, ⟨3, 0, 0, [13, 17], []⟩, ⟨0, 0, 0, [18], []⟩, ⟨0, 0, 0, [12], []⟩, ⟨0, 0, 0, [12], []⟩, ⟨0, 0, 0, [12], []⟩, ⟨3, 0, 0, [2, 19], []⟩] .leaf .leaf)
def dr9 : Tr (List HOp) := (.node 10 [⟨1, 0, 0, [3], []⟩, ⟨0, 0, 0, [1], []⟩, ⟨0, 0, 0, [14], []⟩, ⟨1, 0, 0, [49, 50], []⟩, ⟨3, 0, 0, [48, 51], []⟩, ⟨0, 0, 0, [52], []⟩, ⟨0, 0, 0, [47], []⟩, ⟨0, 0, 0, [47], []⟩, ⟨0, 0, 0, [47], []⟩, ⟨0, 0, 0, [53], []⟩, ⟨0, 0, 0, [54], []⟩, ⟨0, 0, 0, [55], []⟩] (.node 4 [⟨1, 0, 0, [3], []⟩, ⟨0, 0, 0, [9], []⟩, ⟨0, 0, 0, [33], []⟩, ⟨1, 0, 0, [34], []⟩, ⟨3, 0, 0, [32, 35], []⟩, ⟨0, 0, 0, [36], []⟩, ⟨0, 0, 0, [37], []⟩] .leaf .leaf) .leaf)
def dr10 : Tr (List HOp) := (.node 9 [⟨1, 0, 0, [2], []⟩, ⟨0, 0, 0, [7], []⟩, ⟨0, 0, 0, [1], []⟩, ⟨0, 0, 0, [9], []⟩, ⟨0, 0, 0, [35, 36], []⟩, ⟨1, 0, 0, [37], []⟩, ⟨3, 0, 0, [33, 34, 38], []⟩, ⟨0, 0, 0, [39], []⟩] (.node 7 [⟨1, 0, 0, [2], []⟩, ⟨0, 0, 0, [7], []⟩, ⟨0, 0, 0, [28], []⟩, ⟨1, 0, 0, [29], []⟩, ⟨3, 0, 0, [27, 30], []⟩, ⟨0, 0, 0, [31], []⟩] (.node 3 [⟨1, 0, 0, [2], []⟩, ⟨3, 0, 0, [15], []⟩, ⟨0, 0, 0, [2], []⟩, ⟨1, 0, 1, [17], []⟩, ⟨0, 0, 0, [18], []⟩, ⟨0, 0, 0, [19], []⟩, ⟨0, 0, 0, [16], []⟩, ⟨0, 0, 0, [20], []⟩] .leaf .leaf) .leaf) (.node 12 [⟨0, 0, 0, [8], []⟩, ⟨1, 0, 0, [2], []⟩, ⟨0, 0, 0, [7], []⟩, ⟨0, 0, 0, [1], []⟩, ⟨0, 0, 0, [9], []⟩, ⟨0, 0, 0, [46, 47], []⟩, ⟨1, 0, 0, [48], []⟩, ⟨3, 0, 0, [44, 45, 49], []⟩, ⟨0, 0, 0, [43, 50], []⟩, ⟨0, 0, 0, [51], []⟩] .leaf .leaf))
def dr11 : Tr (List HOp) := (.node 8 [⟨0, 0, 0, [6], []⟩, ⟨1, 0, 0, [8], []⟩, ⟨0, 0, 0, [37], []⟩, ⟨3, 0, 0, [5, 38], []⟩] (.node 4 [⟨0, 0, 0, [6], []⟩, ⟨1, 0, 0, [8], []⟩, ⟨0, 0, 0, [24], []⟩, ⟨3, 0, 0, [5, 25], []⟩] .leaf .leaf) .leaf)
def dr14 : Tr (List HOp) := .leaf
def dr15 : Tr (List HOp) := .leaf
def dr16 : Tr (List HOp) := .leaf
def dr17 : Tr (List HOp) := (.node 10 [⟨1, 0, 0, [11], []⟩, ⟨1, 0, 1, [9], []⟩, ⟨3, 0, 0, [4, 52], []⟩, ⟨3, 0, 0, [5, 53], []⟩, ⟨0, 0, 0, [], []⟩] (.node 6 [⟨1, 0, 0, [2], []⟩, ⟨1, 0, 1, [9], []⟩, ⟨3, 0, 0, [4, 39], []⟩, ⟨3, 0, 0, [5, 40], []⟩, ⟨0, 0, 0, [], []⟩] .leaf .leaf) .leaf)
def dr18 : Tr (List HOp) := .leaf
def dr19 : Tr (List HOp) := .leaf
def dr20 : Tr (List HOp) := .leaf
def dr21 : Tr (List HOp) := (.node 3 [⟨1, 0, 1, [1], []⟩, ⟨0, 0, 0, [1], []⟩, ⟨0, 0, 0, [9], []⟩, ⟨1, 0, 1, [10], []⟩, ⟨0, 0, 0, [11], []⟩, ⟨1, 0, 0, [1], []⟩, ⟨3, 0, 0, [13], []⟩, ⟨3, 0, 0, [8, 12, 14], []⟩, ⟨3, 0, 0, [2, 15], []⟩] .leaf .leaf)
def dr22 : Tr (List HOp) := (.node 6 [⟨0, 0, 0, [2], []⟩, ⟨1, 0, 0, [48], []⟩, ⟨0, 0, 0, [5], []⟩, ⟨0, 0, 0, [49, 50], []⟩, ⟨1, 0, 0, [51], []⟩, ⟨0, 0, 0, [3], []⟩, ⟨1, 0, 0, [53], []⟩, ⟨0, 0, 0, [5], []⟩, ⟨0, 0, 0, [54, 55], []⟩, ⟨1, 0, 0, [56], []⟩, ⟨3, 0, 0, [52, 57], []⟩, ⟨0, 0, 0, [58], []⟩] .leaf .leaf)
def dr23 : Tr (List HOp) := (.node 3 [⟨1, 0, 0, [1], []⟩, ⟨0, 0, 0, [2], []⟩, ⟨0, 0, 0, [22], []⟩, ⟨1, 0, 0, [23], []⟩, ⟨3, 0, 0, [21, 24], []⟩, ⟨0, 0, 0, [25], []⟩, ⟨0, 0, 0, [20], []⟩, ⟨0, 0, 0, [20], []⟩, ⟨2, 0, 0, [], []⟩, ⟨0, 0, 0, [26], []⟩, ⟨3, 0, 0, [6, 27], [8]⟩] .leaf .leaf)
def dr24 : Tr (List HOp) := .leaf
def dr29 : Tr (List HOp) := .leaf
def dr30 : Tr (List HOp) := .leaf
def dr31 : Tr (List HOp) := .leaf
def dr32 : Tr (List HOp) := .leaf
def dr33 : Tr (List HOp) := (.node 11 [⟨1, 0, 1, [1], []⟩, ⟨1, 0, 0, [1], []⟩, ⟨3, 0, 0, [49], []⟩, ⟨0, 0, 0, [3], []⟩, ⟨3, 0, 0, [48, 50, 51], []⟩, ⟨0, 0, 0, [52], []⟩] (.node 3 [⟨1, 0, 1, [1], []⟩, ⟨1, 0, 0, [1], []⟩, ⟨3, 0, 0, [18], []⟩, ⟨3, 0, 0, [17, 19], []⟩, ⟨0, 0, 0, [20], []⟩, ⟨0, 0, 0, [16], []⟩, ⟨0, 0, 0, [16], []⟩, ⟨0, 0, 0, [21], []⟩, ⟨0, 0, 0, [22], []⟩] .leaf .leaf) .leaf)
def dr34 : Tr (List HOp) := .leaf
def dr35 : Tr (List HOp) := (.node 7 [⟨1, 0, 0, [2], []⟩, ⟨0, 0, 0, [4], []⟩, ⟨0, 0, 0, [26], []⟩, ⟨1, 0, 0, [27], []⟩, ⟨3, 0, 0, [25, 28], []⟩, ⟨0, 0, 0, [29], []⟩] (.node 3 [⟨1, 0, 0, [2], []⟩, ⟨3, 0, 0, [13], []⟩, ⟨0, 0, 0, [2], []⟩, ⟨1, 0, 1, [15], []⟩, ⟨0, 0, 0, [16], []⟩, ⟨0, 0, 0, [17], []⟩, ⟨0, 0, 0, [14], []⟩, ⟨0, 0, 0, [18], []⟩] .leaf .leaf) .leaf)
def dr36 : Tr (List HOp) := .leaf
def dr37 : Tr (List HOp) := (.node 8 [⟨0, 0, 0, [5], []⟩, ⟨1, 0, 0, [37], []⟩, ⟨0, 0, 0, [13], []⟩, ⟨0, 0, 0, [39], []⟩, ⟨1, 0, 0, [40], []⟩, ⟨3, 0, 0, [38, 41], []⟩, ⟨0, 0, 0, [42], []⟩, ⟨0, 0, 0, [36], []⟩, ⟨0, 0, 0, [36], []⟩, ⟨0, 0, 0, [43], []⟩, ⟨0, 0, 0, [44], []⟩] (.node 6 [⟨1, 0, 0, [5], []⟩, ⟨0, 0, 0, [15], []⟩, ⟨1, 0, 1, [33], []⟩, ⟨3, 0, 0, [10, 32], []⟩, ⟨0, 0, 0, [34], []⟩, ⟨0, 0, 0, [], []⟩] .leaf .leaf) (.node 9 [⟨1, 0, 1, [5], []⟩, ⟨0, 0, 0, [2], []⟩, ⟨0, 0, 0, [3], []⟩, ⟨0, 0, 0, [4], []⟩, ⟨1, 0, 0, [5], []⟩, ⟨0, 0, 0, [13], []⟩, ⟨0, 0, 0, [50], []⟩, ⟨1, 0, 0, [51], []⟩, ⟨3, 0, 0, [49, 52], []⟩, ⟨0, 0, 0, [53], []⟩, ⟨0, 0, 0, [54], []⟩, ⟨0, 0, 0, [16], []⟩, ⟨3, 0, 0, [45, 46, 47, 48, 55, 56], []⟩, ⟨0, 0, 0, [57], []⟩, ⟨0, 0, 0, [57], []⟩, ⟨0, 0, 0, [57], []⟩, ⟨3, 0, 0, [10, 58], []⟩, ⟨0, 0, 0, [59], []⟩, ⟨0, 0, 0, [60], []⟩] .leaf .leaf))
def dr38 : Tr (List HOp) := .leaf
def dr39 : Tr (List HOp) := .leaf
def dr40 : Tr (List HOp) := .leaf
def dr41 : Tr (List HOp) := .leaf
def dr42 : Tr (List HOp) := (.node 4 [⟨0, 0, 0, [2], []⟩, ⟨1, 0, 0, [14], []⟩, ⟨0, 0, 0, [6], []⟩, ⟨0, 0, 0, [15, 16], []⟩, ⟨0, 0, 0, [17], []⟩, ⟨1, 0, 0, [18], []⟩, ⟨1, 0, 0, [3], []⟩, ⟨0, 0, 0, [19, 20], []⟩] .leaf .leaf)
def dr43 : Tr (List HOp) := (.node 3 [⟨0, 0, 0, [2], []⟩, ⟨1, 0, 0, [20], []⟩, ⟨0, 0, 0, [3], []⟩, ⟨1, 0, 0, [22], []⟩, ⟨0, 0, 0, [21, 23], []⟩, ⟨1, 0, 0, [24], []⟩, ⟨0, 0, 0, [3], []⟩, ⟨1, 0, 0, [26], []⟩, ⟨3, 0, 0, [25, 27], []⟩, ⟨0, 0, 0, [28], []⟩, ⟨0, 0, 0, [19], []⟩, ⟨0, 0, 0, [19], []⟩, ⟨2, 0, 0, [], []⟩, ⟨3, 0, 0, [5, 29], [12]⟩, ⟨0, 0, 0, [30], []⟩] .leaf .leaf)
def dr44 : Tr (List HOp) := .leaf
def dr45 : Tr (List HOp) := .leaf
def dr46 : Tr (List HOp) := (.node 6 [⟨0, 0, 0, [2], []⟩, ⟨1, 0, 0, [41], []⟩, ⟨0, 0, 0, [5], []⟩, ⟨0, 0, 0, [42, 43], []⟩, ⟨1, 0, 0, [44], []⟩, ⟨0, 0, 0, [3], []⟩, ⟨1, 0, 0, [46], []⟩, ⟨0, 0, 0, [5], []⟩, ⟨0, 0, 0, [47, 48], []⟩, ⟨1, 0, 0, [49], []⟩, ⟨3, 0, 0, [45, 50], []⟩, ⟨0, 0, 0, [51], []⟩] .leaf .leaf)
def dr48 : Tr (List HOp) := .leaf
def dr49 : Tr (List HOp) := .leaf
def dr50 : Tr (List HOp) := (.node 14 [⟨1, 0, 0, [2], []⟩, ⟨0, 0, 0, [12], []⟩, ⟨0, 0, 0, [88], []⟩, ⟨1, 0, 0, [89], []⟩, ⟨3, 0, 0, [87, 90], []⟩, ⟨0, 0, 0, [91], []⟩, ⟨0, 0, 0, [86], []⟩, ⟨0, 0, 0, [86], []⟩, ⟨2, 0, 0, [], []⟩, ⟨0, 0, 0, [92], []⟩, ⟨3, 0, 0, [16, 93], [8]⟩] .leaf .leaf)
def dr51 : Tr (List HOp) := (.node 3 [⟨0, 0, 0, [12], []⟩, ⟨0, 0, 0, [27], []⟩, ⟨0, 0, 0, [28], []⟩, ⟨0, 0, 0, [10, 29], []⟩, ⟨1, 0, 0, [30, 29], []⟩, ⟨0, 0, 0, [2, 29], []⟩, ⟨0, 0, 0, [31, 32, 29], []⟩, ⟨1, 0, 0, [33, 29], []⟩, ⟨0, 0, 0, [11, 29], []⟩, ⟨0, 0, 0, [1, 29], []⟩, ⟨0, 0, 0, [9, 29], []⟩, ⟨0, 0, 0, [36, 37, 29], []⟩, ⟨1, 0, 0, [38, 29], []⟩, ⟨3, 0, 0, [34, 35, 39, 29], []⟩, ⟨0, 0, 0, [40, 29], []⟩, ⟨0, 0, 0, [29, 41], []⟩] (.node 2 [⟨1, 0, 0, [3], []⟩, ⟨0, 0, 0, [1], []⟩, ⟨0, 0, 0, [9], []⟩, ⟨1, 0, 0, [19, 20], []⟩, ⟨0, 0, 0, [2], []⟩, ⟨3, 0, 0, [18, 21, 22], []⟩, ⟨0, 0, 0, [23], []⟩, ⟨0, 0, 0, [17], []⟩, ⟨0, 0, 0, [17], []⟩, ⟨0, 0, 0, [17], []⟩, ⟨2, 0, 0, [], []⟩, ⟨3, 0, 0, [10, 24], [10]⟩, ⟨0, 0, 0, [25], []⟩, ⟨0, 0, 0, [26], []⟩] .leaf .leaf) (.node 5 [⟨0, 0, 0, [10], []⟩, ⟨1, 0, 1, [46], []⟩, ⟨0, 0, 0, [2], []⟩, ⟨0, 0, 0, [47, 48], []⟩, ⟨1, 0, 1, [49], []⟩, ⟨0, 0, 0, [11], []⟩, ⟨0, 0, 0, [1], []⟩, ⟨0, 0, 0, [9], []⟩, ⟨0, 0, 0, [52, 53], []⟩, ⟨1, 0, 0, [54], []⟩, ⟨3, 0, 0, [55], []⟩, ⟨3, 0, 0, [50, 51, 56], []⟩, ⟨0, 0, 0, [57], []⟩, ⟨0, 0, 0, [45], []⟩, ⟨0, 0, 0, [45], []⟩, ⟨2, 0, 0, [], []⟩, ⟨3, 0, 0, [13, 58], [15]⟩, ⟨0, 0, 0, [59], []⟩] .leaf .leaf))
def dr52 : Tr (List HOp) := (.node 6 [⟨1, 0, 0, [13], []⟩, ⟨0, 0, 0, [2], []⟩, ⟨0, 0, 0, [14], []⟩, ⟨0, 0, 0, [1], []⟩, ⟨0, 0, 0, [1], []⟩, ⟨0, 0, 0, [42], []⟩, ⟨0, 0, 0, [43], []⟩, ⟨0, 0, 0, [41, 44], []⟩, ⟨1, 0, 0, [45], []⟩, ⟨1, 0, 0, [8], []⟩, ⟨0, 0, 0, [4], []⟩, ⟨3, 0, 0, [38, 39, 40, 46, 47, 48], []⟩, ⟨0, 0, 0, [49], []⟩, ⟨0, 0, 0, [37], []⟩, ⟨0, 0, 0, [37], []⟩, ⟨0, 0, 0, [37], []⟩, ⟨3, 0, 0, [13, 50], []⟩, ⟨0, 0, 0, [51], []⟩, ⟨0, 0, 0, [52], []⟩] (.node 3 [⟨1, 0, 0, [5], []⟩, ⟨0, 0, 0, [1], []⟩, ⟨0, 0, 0, [1], []⟩, ⟨0, 0, 0, [24], []⟩, ⟨0, 0, 0, [25], []⟩, ⟨1, 0, 0, [23, 26], []⟩, ⟨0, 0, 0, [2], []⟩, ⟨3, 0, 0, [22, 27, 28], []⟩, ⟨0, 0, 0, [29], []⟩, ⟨0, 0, 0, [21], []⟩, ⟨0, 0, 0, [21], []⟩, ⟨0, 0, 0, [21], []⟩, ⟨2, 0, 0, [], []⟩, ⟨3, 0, 0, [13, 30], [12]⟩, ⟨0, 0, 0, [31], []⟩, ⟨0, 0, 0, [32], []⟩] .leaf .leaf) .leaf)
def dr53 : Tr (List HOp) := .leaf
def dr54 : Tr (List HOp) := (.node 4 [⟨0, 0, 0, [9], []⟩, ⟨1, 0, 1, [31], []⟩, ⟨0, 0, 0, [2], []⟩, ⟨0, 0, 0, [32, 33], []⟩, ⟨1, 0, 1, [34], []⟩, ⟨0, 0, 0, [10], []⟩, ⟨0, 0, 0, [1], []⟩, ⟨0, 0, 0, [1], []⟩, ⟨0, 0, 0, [38], []⟩, ⟨0, 0, 0, [39], []⟩, ⟨0, 0, 0, [37, 40], []⟩, ⟨1, 0, 0, [41], []⟩, ⟨3, 0, 0, [42], []⟩, ⟨3, 0, 0, [35, 36, 43], []⟩, ⟨0, 0, 0, [44], []⟩, ⟨0, 0, 0, [30], []⟩, ⟨0, 0, 0, [30], []⟩, ⟨2, 0, 0, [], []⟩, ⟨3, 0, 0, [12, 45], [17]⟩, ⟨0, 0, 0, [46], []⟩] (.node 1 [⟨1, 0, 0, [3], []⟩, ⟨0, 0, 0, [1], []⟩, ⟨0, 0, 0, [1], []⟩, ⟨0, 0, 0, [17], []⟩, ⟨0, 0, 0, [18], []⟩, ⟨1, 0, 0, [16, 19], []⟩, ⟨0, 0, 0, [2], []⟩, ⟨3, 0, 0, [15, 20, 21], []⟩, ⟨0, 0, 0, [22], []⟩, ⟨0, 0, 0, [14], []⟩, ⟨0, 0, 0, [14], []⟩, ⟨0, 0, 0, [14], []⟩, ⟨2, 0, 0, [], []⟩, ⟨3, 0, 0, [9, 23], [12]⟩, ⟨0, 0, 0, [24], []⟩, ⟨0, 0, 0, [25], []⟩] .leaf .leaf) .leaf)
def dr55 : Tr (List HOp) := (.node 4 [⟨0, 0, 0, [13], []⟩, ⟨1, 0, 0, [36], []⟩, ⟨0, 0, 0, [2], []⟩, ⟨0, 0, 0, [37, 38], []⟩, ⟨1, 0, 0, [39], []⟩, ⟨0, 0, 0, [14], []⟩, ⟨0, 0, 0, [1], []⟩, ⟨0, 0, 0, [1], []⟩, ⟨0, 0, 0, [43], []⟩, ⟨0, 0, 0, [44], []⟩, ⟨0, 0, 0, [42, 45], []⟩, ⟨1, 0, 0, [46], []⟩, ⟨1, 0, 0, [8], []⟩, ⟨3, 0, 0, [40, 41, 47, 48], []⟩, ⟨0, 0, 0, [49], []⟩, ⟨0, 0, 0, [35], []⟩, ⟨0, 0, 0, [35], []⟩, ⟨0, 0, 0, [35], []⟩, ⟨2, 0, 0, [], []⟩, ⟨3, 0, 0, [16, 50], [18]⟩, ⟨0, 0, 0, [51], []⟩, ⟨0, 0, 0, [52], []⟩] (.node 1 [⟨1, 0, 0, [5], []⟩, ⟨0, 0, 0, [1], []⟩, ⟨0, 0, 0, [1], []⟩, ⟨0, 0, 0, [22], []⟩, ⟨0, 0, 0, [23], []⟩, ⟨1, 0, 0, [21, 24], []⟩, ⟨0, 0, 0, [2], []⟩, ⟨3, 0, 0, [20, 25, 26], []⟩, ⟨0, 0, 0, [27], []⟩, ⟨0, 0, 0, [19], []⟩, ⟨0, 0, 0, [19], []⟩, ⟨0, 0, 0, [19], []⟩, ⟨2, 0, 0, [], []⟩, ⟨3, 0, 0, [13, 28], [12]⟩, ⟨0, 0, 0, [29], []⟩, ⟨0, 0, 0, [30], []⟩] .leaf .leaf) .leaf)
def dr56 : Tr (List HOp) := .leaf
def dr57 : Tr (List HOp) := .leaf
def dr58 : Tr (List HOp) := (.node 14 [⟨1, 0, 0, [3], []⟩, ⟨0, 0, 0, [2], []⟩, ⟨0, 0, 0, [11], []⟩, ⟨0, 0, 0, [12], []⟩, ⟨0, 0, 0, [70, 71], []⟩, ⟨1, 0, 0, [72], []⟩, ⟨3, 0, 0, [68, 69, 73], []⟩, ⟨0, 0, 0, [74], []⟩] (.node 7 [⟨1, 0, 0, [3], []⟩, ⟨0, 0, 0, [2], []⟩, ⟨0, 0, 0, [48], []⟩, ⟨1, 0, 0, [49], []⟩, ⟨3, 0, 0, [47, 50], []⟩, ⟨0, 0, 0, [51], []⟩] (.node 1 [⟨1, 0, 0, [3], []⟩, ⟨0, 0, 0, [2], []⟩, ⟨0, 0, 0, [18], []⟩, ⟨1, 0, 0, [19], []⟩, ⟨3, 0, 0, [17, 20], []⟩, ⟨0, 0, 0, [21], []⟩, ⟨0, 0, 0, [16], []⟩, ⟨0, 0, 0, [16], []⟩, ⟨2, 0, 0, [], []⟩, ⟨0, 0, 0, [22], []⟩, ⟨3, 0, 0, [8, 23], [8]⟩] .leaf .leaf) .leaf) (.node 16 [⟨1, 0, 0, [8], []⟩, ⟨0, 0, 0, [11], []⟩, ⟨0, 0, 0, [12], []⟩, ⟨0, 0, 0, [84, 85], []⟩, ⟨1, 0, 0, [86], []⟩, ⟨0, 0, 0, [14], []⟩, ⟨3, 0, 0, [83, 87, 88], []⟩, ⟨3, 0, 0, [8, 89], []⟩] (.node 15 [⟨1, 0, 0, [3], []⟩, ⟨0, 0, 0, [13], []⟩, ⟨0, 0, 0, [77], []⟩, ⟨1, 0, 0, [78], []⟩, ⟨3, 0, 0, [76, 79], []⟩, ⟨0, 0, 0, [80], []⟩, ⟨0, 0, 0, [75], []⟩, ⟨0, 0, 0, [75], []⟩, ⟨2, 0, 0, [], []⟩, ⟨0, 0, 0, [81], []⟩, ⟨3, 0, 0, [15, 82], [8]⟩] .leaf .leaf) .leaf))
def dr59 : Tr (List HOp) := (.node 9 [⟨1, 0, 1, [15], []⟩, ⟨0, 0, 0, [1], []⟩, ⟨0, 0, 0, [14], []⟩, ⟨1, 0, 0, [3], []⟩, ⟨1, 0, 0, [12], []⟩, ⟨3, 0, 0, [58, 59], []⟩, ⟨0, 0, 0, [60], []⟩, ⟨0, 0, 0, [61], []⟩, ⟨0, 0, 0, [2], []⟩, ⟨3, 0, 0, [55, 56, 57, 62, 63], []⟩, ⟨0, 0, 0, [64], []⟩, ⟨0, 0, 0, [54], []⟩, ⟨0, 0, 0, [54], []⟩, ⟨0, 0, 0, [54], []⟩, ⟨3, 0, 0, [15, 65], []⟩, ⟨0, 0, 0, [67], []⟩] (.node 6 [⟨1, 0, 0, [3], []⟩, ⟨0, 0, 0, [8], []⟩, ⟨0, 0, 0, [9], []⟩, ⟨0, 0, 0, [10], []⟩, ⟨3, 0, 0, [36, 37, 38, 39], []⟩, ⟨0, 0, 0, [12], []⟩, ⟨1, 0, 1, [41], []⟩, ⟨3, 0, 0, [40, 42], []⟩] .leaf .leaf) .leaf)
def dr62 : Tr (List HOp) := .leaf
def dr63 : Tr (List HOp) := .leaf
def dr70 : Tr (List HOp) := .leaf
def dr71 : Tr (List HOp) := .leaf
def dr72 : Tr (List HOp) := (.node 8 [⟨0, 0, 0, [6], []⟩, ⟨1, 0, 0, [85], []⟩, ⟨0, 0, 0, [1], []⟩, ⟨1, 0, 0, [87], []⟩, ⟨0, 0, 0, [86, 88], []⟩, ⟨0, 0, 0, [89], []⟩, ⟨0, 0, 0, [5, 90], []⟩, ⟨0, 0, 0, [91, 90], []⟩, ⟨0, 0, 0, [92, 90], []⟩, ⟨0, 0, 0, [6, 93], []⟩, ⟨1, 0, 0, [94, 93], []⟩, ⟨0, 0, 0, [1, 93], []⟩, ⟨1, 0, 0, [96, 93], []⟩, ⟨0, 0, 0, [5, 93], []⟩, ⟨0, 0, 0, [98, 93], []⟩, ⟨0, 0, 0, [97, 99, 93], []⟩, ⟨0, 0, 0, [100, 93], []⟩, ⟨1, 0, 0, [101, 93], []⟩, ⟨0, 0, 0, [95, 102, 93], []⟩, ⟨0, 0, 0, [93, 103, 90], []⟩, ⟨0, 0, 0, [90, 104], []⟩, ⟨0, 0, 0, [105], []⟩, ⟨1, 0, 0, [1, 106], []⟩, ⟨1, 0, 0, [6, 106], []⟩, ⟨3, 0, 0, [107, 108, 106], []⟩, ⟨0, 0, 0, [109, 106], []⟩, ⟨0, 0, 0, [106, 110], []⟩] .leaf .leaf)
def dr73 : Tr (List HOp) := .leaf
def dr74 : Tr (List HOp) := .leaf
def dr75 : Tr (List HOp) := .leaf
def dr76 : Tr (List HOp) := (.node 10 [⟨0, 0, 0, [0], []⟩, ⟨0, 0, 0, [6], []⟩, ⟨0, 0, 0, [43, 44], []⟩, ⟨1, 0, 2, [45], []⟩, ⟨0, 0, 0, [46], []⟩, ⟨0, 0, 0, [0], []⟩, ⟨0, 0, 0, [6], []⟩, ⟨0, 0, 0, [49], []⟩, ⟨0, 0, 0, [6], []⟩, ⟨0, 0, 0, [51], []⟩, ⟨1, 0, 0, [48, 50, 52], []⟩, ⟨3, 0, 0, [53], []⟩, ⟨0, 0, 0, [47, 54], []⟩, ⟨0, 0, 0, [0], []⟩, ⟨0, 0, 0, [6], []⟩, ⟨0, 0, 0, [57], []⟩, ⟨0, 0, 0, [6], []⟩, ⟨0, 0, 0, [59], []⟩, ⟨1, 0, 1, [56, 58, 60], []⟩, ⟨3, 0, 0, [61], []⟩, ⟨0, 0, 0, [55, 62], []⟩, ⟨2, 0, 0, [], []⟩, ⟨3, 0, 0, [7, 63], [21]⟩] (.node 6 [⟨0, 0, 0, [0], []⟩, ⟨1, 0, 0, [29], []⟩, ⟨3, 0, 0, [30], []⟩, ⟨0, 0, 0, [0], []⟩, ⟨0, 0, 0, [32], []⟩, ⟨1, 0, 1, [33], []⟩, ⟨0, 0, 0, [34], []⟩, ⟨0, 0, 0, [31, 35], []⟩, ⟨2, 0, 0, [], []⟩, ⟨3, 0, 0, [5, 36], [8]⟩] .leaf .leaf) (.node 14 [⟨1, 0, 0, [5], []⟩, ⟨3, 0, 0, [81], []⟩, ⟨1, 1, 1, [82], []⟩, ⟨0, 0, 0, [0], []⟩, ⟨1, 0, 1, [84], []⟩, ⟨0, 0, 0, [83, 85], []⟩] .leaf .leaf))
def dr77 : Tr (List HOp) := .leaf
def dr78 : Tr (List HOp) := (.node 3 [⟨1, 0, 1, [1], []⟩, ⟨0, 0, 0, [], []⟩, ⟨1, 0, 0, [1], []⟩, ⟨3, 0, 0, [10], []⟩, ⟨3, 0, 0, [8, 9, 11], []⟩, ⟨3, 0, 0, [2, 12], []⟩] .leaf .leaf)
def dr79 : Tr (List HOp) := (.node 10 [⟨1, 0, 1, [4], []⟩, ⟨0, 0, 0, [7], []⟩, ⟨0, 0, 0, [1], []⟩, ⟨1, 0, 0, [45], []⟩, ⟨3, 0, 0, [46], []⟩, ⟨3, 0, 0, [43, 44, 47], []⟩, ⟨0, 0, 0, [48], []⟩, ⟨0, 0, 0, [42], []⟩, ⟨0, 0, 0, [42], []⟩, ⟨3, 0, 0, [4, 49], []⟩, ⟨0, 0, 0, [50], []⟩] .leaf .leaf)
def dr80 : Tr (List HOp) := (.node 9 [⟨1, 0, 0, [1], []⟩, ⟨0, 0, 0, [1], []⟩, ⟨1, 0, 0, [49], []⟩, ⟨0, 0, 0, [4], []⟩, ⟨0, 0, 0, [50, 51], []⟩, ⟨1, 0, 0, [52], []⟩, ⟨3, 0, 0, [48, 53], []⟩, ⟨0, 0, 0, [54], []⟩, ⟨0, 0, 0, [55], []⟩, ⟨0, 0, 0, [4, 56], []⟩, ⟨0, 0, 0, [57, 56], []⟩, ⟨0, 0, 0, [58, 56], []⟩, ⟨0, 0, 0, [1, 59], []⟩, ⟨1, 1, 1, [60, 59], []⟩, ⟨0, 0, 0, [4, 59], []⟩, ⟨0, 0, 0, [62, 59], []⟩, ⟨0, 0, 0, [61, 63, 59], []⟩, ⟨0, 0, 0, [64, 59], []⟩, ⟨1, 1, 1, [65, 59], []⟩, ⟨0, 0, 0, [1, 59], []⟩, ⟨1, 1, 1, [67, 59], []⟩, ⟨0, 0, 0, [4, 59], []⟩, ⟨0, 0, 0, [68, 69, 59], []⟩, ⟨0, 0, 0, [70, 59], []⟩, ⟨1, 1, 1, [71, 59], []⟩, ⟨0, 0, 0, [66, 72, 59], []⟩, ⟨0, 0, 0, [59, 73, 56], []⟩, ⟨0, 0, 0, [56, 74], []⟩] (.node 4 [⟨1, 0, 0, [1], []⟩, ⟨0, 0, 0, [1], []⟩, ⟨1, 0, 0, [13], []⟩, ⟨0, 0, 0, [3], []⟩, ⟨0, 0, 0, [14, 15], []⟩, ⟨1, 0, 0, [16], []⟩, ⟨3, 0, 0, [12, 17], []⟩, ⟨0, 0, 0, [18], []⟩, ⟨0, 0, 0, [19], []⟩, ⟨0, 0, 0, [3, 20], []⟩, ⟨0, 0, 0, [21, 20], []⟩, ⟨0, 0, 0, [22, 20], []⟩, ⟨0, 0, 0, [1, 23], []⟩, ⟨1, 1, 1, [24, 23], []⟩, ⟨0, 0, 0, [3, 23], []⟩, ⟨0, 0, 0, [26, 23], []⟩, ⟨0, 0, 0, [25, 27, 23], []⟩, ⟨0, 0, 0, [28, 23], []⟩, ⟨1, 1, 1, [29, 23], []⟩, ⟨0, 0, 0, [1, 23], []⟩, ⟨1, 1, 1, [31, 23], []⟩, ⟨0, 0, 0, [3, 23], []⟩, ⟨0, 0, 0, [32, 33, 23], []⟩, ⟨0, 0, 0, [34, 23], []⟩, ⟨1, 1, 1, [35, 23], []⟩, ⟨3, 0, 0, [30, 36, 23], []⟩, ⟨0, 0, 0, [37, 23], []⟩, ⟨0, 0, 0, [23, 38, 20], []⟩, ⟨0, 0, 0, [20, 39], []⟩] .leaf .leaf) .leaf)
def dr81 : Tr (List HOp) := (.node 11 [⟨0, 0, 0, [3], []⟩, ⟨1, 0, 0, [65], []⟩, ⟨0, 0, 0, [1], []⟩, ⟨0, 0, 0, [13], []⟩, ⟨0, 0, 0, [67, 68], []⟩, ⟨1, 0, 0, [69], []⟩, ⟨3, 0, 0, [66, 70], []⟩, ⟨0, 0, 0, [71], []⟩, ⟨0, 0, 0, [64], []⟩, ⟨0, 0, 0, [64], []⟩, ⟨0, 0, 0, [72], []⟩, ⟨0, 0, 0, [73], []⟩] (.node 4 [⟨1, 0, 0, [3], []⟩, ⟨0, 0, 0, [1], []⟩, ⟨0, 0, 0, [32], []⟩, ⟨1, 0, 0, [33], []⟩, ⟨3, 0, 0, [31, 34], []⟩, ⟨0, 0, 0, [35], []⟩] (.node 1 [⟨0, 0, 0, [3], []⟩, ⟨1, 0, 0, [20], []⟩, ⟨0, 0, 0, [1], []⟩, ⟨0, 0, 0, [22], []⟩, ⟨1, 0, 0, [23], []⟩, ⟨3, 0, 0, [21, 24], []⟩, ⟨0, 0, 0, [25], []⟩, ⟨0, 0, 0, [19], []⟩, ⟨0, 0, 0, [19], []⟩, ⟨0, 0, 0, [26], []⟩, ⟨0, 0, 0, [27], []⟩] .leaf .leaf) .leaf) (.node 24 [⟨1, 0, 1, [3], []⟩, ⟨1, 0, 0, [3], []⟩, ⟨0, 0, 0, [1], []⟩, ⟨0, 0, 0, [17], []⟩, ⟨0, 0, 0, [18], []⟩, ⟨0, 0, 0, [114, 115], []⟩, ⟨1, 0, 0, [116], []⟩, ⟨3, 0, 0, [112, 113, 117], []⟩, ⟨0, 0, 0, [2], []⟩, ⟨3, 0, 0, [111, 118, 119], []⟩, ⟨0, 0, 0, [120], []⟩, ⟨0, 0, 0, [110], []⟩, ⟨0, 0, 0, [110], []⟩, ⟨0, 0, 0, [121], []⟩, ⟨0, 0, 0, [122], []⟩] .leaf .leaf))
def dr82 : Tr (List HOp) := .leaf
def dr83 : Tr (List HOp) := (.node 8 [⟨1, 0, 0, [3], []⟩, ⟨0, 0, 0, [1], []⟩, ⟨0, 0, 0, [40], []⟩, ⟨1, 0, 0, [41], []⟩, ⟨0, 0, 0, [7], []⟩, ⟨3, 0, 0, [39, 42, 43], []⟩, ⟨0, 0, 0, [44], []⟩] (.node 2 [⟨1, 0, 0, [3], []⟩, ⟨0, 0, 0, [1], []⟩, ⟨0, 0, 0, [22], []⟩, ⟨1, 0, 0, [23], []⟩, ⟨3, 0, 0, [21, 24], []⟩, ⟨0, 0, 0, [25], []⟩] (.node 1 [⟨0, 0, 0, [3], []⟩, ⟨1, 0, 0, [13], []⟩, ⟨0, 0, 0, [1], []⟩, ⟨0, 0, 0, [15], []⟩, ⟨1, 0, 0, [16], []⟩, ⟨3, 0, 0, [14, 17], []⟩, ⟨0, 0, 0, [18], []⟩, ⟨0, 0, 0, [12], []⟩, ⟨0, 0, 0, [12], []⟩, ⟨0, 0, 0, [19], []⟩, ⟨0, 0, 0, [20], []⟩] .leaf .leaf) .leaf) (.node 13 [⟨1, 0, 1, [3], []⟩, ⟨1, 0, 0, [3], []⟩, ⟨0, 0, 0, [1], []⟩, ⟨0, 0, 0, [10], []⟩, ⟨0, 0, 0, [11], []⟩, ⟨0, 0, 0, [57, 58], []⟩, ⟨1, 0, 0, [59], []⟩, ⟨3, 0, 0, [55, 56, 60], []⟩, ⟨0, 0, 0, [2], []⟩, ⟨3, 0, 0, [54, 61, 62], []⟩, ⟨0, 0, 0, [63], []⟩] .leaf .leaf))
def dr84 : Tr (List HOp) := .leaf
def dr85 : Tr (List HOp) := .leaf
def dr86 : Tr (List HOp) := .leaf
def dr87 : Tr (List HOp) := .leaf
def dr88 : Tr (List HOp) := .leaf
def dr89 : Tr (List HOp) := (.node 27 [⟨1, 0, 0, [11], []⟩, ⟨1, 0, 1, [12], []⟩, ⟨0, 0, 0, [10], []⟩, ⟨3, 0, 0, [6, 118], []⟩, ⟨3, 0, 0, [7, 119], []⟩, ⟨0, 0, 0, [120], []⟩] (.node 26 [⟨0, 0, 0, [12], []⟩, ⟨1, 0, 0, [107], []⟩, ⟨0, 0, 0, [9], []⟩, ⟨1, 0, 0, [109], []⟩, ⟨0, 0, 0, [13], []⟩, ⟨0, 0, 0, [110, 111], []⟩, ⟨0, 0, 0, [112], []⟩, ⟨1, 0, 0, [113], []⟩, ⟨2, 0, 0, [114], []⟩, ⟨3, 0, 0, [108, 115], [8]⟩, ⟨0, 0, 0, [12], []⟩, ⟨3, 0, 0, [117, 116], []⟩] .leaf .leaf) .leaf)
def dr90 : Tr (List HOp) := .leaf
def dr91 : Tr (List HOp) := .leaf
def dr92 : Tr (List HOp) := .leaf
def dr93 : Tr (List HOp) := (.node 3 [⟨0, 0, 0, [2], []⟩, ⟨1, 0, 0, [20], []⟩, ⟨0, 0, 0, [3], []⟩, ⟨1, 0, 0, [22], []⟩, ⟨0, 0, 0, [21, 23], []⟩, ⟨1, 0, 0, [24], []⟩, ⟨0, 0, 0, [3], []⟩, ⟨1, 0, 0, [26], []⟩, ⟨3, 0, 0, [25, 27], []⟩, ⟨0, 0, 0, [28], []⟩, ⟨0, 0, 0, [19], []⟩, ⟨0, 0, 0, [19], []⟩, ⟨2, 0, 0, [], []⟩, ⟨3, 0, 0, [5, 29], [12]⟩, ⟨0, 0, 0, [30], []⟩] .leaf .leaf)
def dr94 : Tr (List HOp) := .leaf
def dr95 : Tr (List HOp) := (.node 1 [⟨0, 0, 0, [6], []⟩, ⟨1, 0, 0, [19], []⟩, ⟨0, 0, 0, [1], []⟩, ⟨0, 0, 0, [20, 21], []⟩, ⟨1, 0, 0, [22], []⟩, ⟨0, 0, 0, [2], []⟩, ⟨0, 0, 0, [3], []⟩, ⟨1, 0, 0, [10], []⟩, ⟨3, 0, 0, [23, 24, 25, 26], []⟩, ⟨0, 0, 0, [27], []⟩, ⟨0, 0, 0, [18], []⟩, ⟨0, 0, 0, [18], []⟩, ⟨0, 0, 0, [18], []⟩, ⟨2, 0, 0, [], []⟩, ⟨3, 0, 0, [15, 28], [13]⟩, ⟨0, 0, 0, [29], []⟩, ⟨0, 0, 0, [30], []⟩] .leaf .leaf)
def dr96 : Tr (List HOp) := (.node 18 [⟨0, 0, 0, [8], []⟩, ⟨0, 0, 0, [11], []⟩, ⟨1, 0, 0, [89], []⟩, ⟨0, 0, 0, [88], []⟩, ⟨0, 0, 0, [90], []⟩] (.node 15 [⟨0, 0, 0, [8], []⟩, ⟨0, 0, 0, [11], []⟩, ⟨1, 0, 0, [78], []⟩, ⟨0, 0, 0, [79], []⟩, ⟨0, 0, 0, [77], []⟩, ⟨0, 0, 0, [80], []⟩] (.node 7 [⟨0, 0, 0, [3], []⟩, ⟨1, 0, 0, [34], []⟩, ⟨0, 0, 0, [11], []⟩, ⟨1, 0, 0, [36], []⟩, ⟨0, 0, 0, [35, 37], []⟩, ⟨1, 0, 0, [38], []⟩, ⟨0, 0, 0, [11], []⟩, ⟨1, 0, 0, [40], []⟩, ⟨3, 0, 0, [39, 41], []⟩, ⟨0, 0, 0, [42], []⟩, ⟨0, 0, 0, [33], []⟩, ⟨0, 0, 0, [33], []⟩, ⟨2, 0, 0, [], []⟩, ⟨3, 0, 0, [12, 43], [12]⟩, ⟨0, 0, 0, [44], []⟩] .leaf .leaf) .leaf) (.node 20 [⟨0, 0, 0, [8], []⟩, ⟨0, 0, 0, [11], []⟩, ⟨1, 0, 0, [96], []⟩, ⟨0, 0, 0, [95], []⟩, ⟨0, 0, 0, [97], []⟩] .leaf .leaf))
def dr97 : Tr (List HOp) := (.node 6 [⟨0, 0, 0, [0], []⟩, ⟨0, 0, 0, [5], []⟩, ⟨0, 0, 0, [17, 18], []⟩, ⟨1, 0, 0, [19], []⟩, ⟨0, 0, 0, [1], []⟩, ⟨0, 0, 0, [5], []⟩, ⟨0, 0, 0, [21, 22], []⟩, ⟨1, 0, 0, [23], []⟩, ⟨0, 0, 0, [20, 24], []⟩] .leaf .leaf)
def dr98 : Tr (List HOp) := .leaf
def dr99 : Tr (List HOp) := .leaf
def dr100 : Tr (List HOp) := (.node 6 [⟨1, 0, 0, [3], []⟩, ⟨0, 0, 0, [9], []⟩, ⟨0, 0, 0, [10], []⟩, ⟨0, 0, 0, [1], []⟩, ⟨0, 0, 0, [1], []⟩, ⟨0, 0, 0, [35], []⟩, ⟨0, 0, 0, [36], []⟩, ⟨0, 0, 0, [34, 37], []⟩, ⟨1, 0, 0, [38], []⟩, ⟨3, 0, 0, [31, 32, 33, 39], []⟩, ⟨0, 0, 0, [40], []⟩] .leaf .leaf)
def dr101 : Tr (List HOp) := (.node 10 [⟨1, 0, 0, [13], []⟩, ⟨0, 0, 0, [1], []⟩, ⟨0, 0, 0, [1], []⟩, ⟨0, 0, 0, [79], []⟩, ⟨0, 0, 0, [80], []⟩, ⟨1, 0, 0, [78, 81], []⟩, ⟨0, 0, 0, [11], []⟩, ⟨1, 0, 0, [83], []⟩, ⟨3, 0, 0, [77, 82, 84], []⟩, ⟨0, 0, 0, [85], []⟩, ⟨0, 0, 0, [76], []⟩, ⟨0, 0, 0, [76], []⟩, ⟨0, 0, 0, [76], []⟩, ⟨2, 0, 0, [], []⟩, ⟨3, 0, 0, [16, 86], [13]⟩, ⟨0, 0, 0, [87], []⟩, ⟨0, 0, 0, [88], []⟩] (.node 6 [⟨1, 0, 1, [3], []⟩, ⟨0, 0, 0, [1], []⟩, ⟨0, 0, 0, [2], []⟩, ⟨1, 0, 0, [3], []⟩, ⟨1, 0, 0, [11], []⟩, ⟨3, 0, 0, [56, 57], []⟩, ⟨0, 0, 0, [58], []⟩, ⟨3, 0, 0, [53, 54, 55, 59], []⟩, ⟨0, 0, 0, [60], []⟩, ⟨0, 0, 0, [60], []⟩, ⟨3, 0, 0, [6, 61], []⟩, ⟨0, 0, 0, [62], []⟩] (.node 5 [⟨1, 0, 0, [3], []⟩, ⟨0, 0, 0, [8], []⟩, ⟨0, 0, 0, [9], []⟩, ⟨0, 0, 0, [1], []⟩, ⟨0, 0, 0, [1], []⟩, ⟨0, 0, 0, [43], []⟩, ⟨0, 0, 0, [44], []⟩, ⟨0, 0, 0, [42, 45], []⟩, ⟨1, 0, 0, [46], []⟩, ⟨3, 0, 0, [39, 40, 41, 47], []⟩, ⟨0, 0, 0, [11], []⟩, ⟨1, 0, 1, [49], []⟩, ⟨3, 0, 0, [48, 50], []⟩, ⟨0, 0, 0, [51], []⟩] .leaf .leaf) .leaf) (.node 13 [⟨0, 0, 0, [16], []⟩, ⟨1, 0, 0, [94], []⟩, ⟨0, 0, 0, [11], []⟩, ⟨1, 0, 0, [96], []⟩, ⟨0, 0, 0, [95, 97], []⟩, ⟨1, 0, 0, [98], []⟩, ⟨0, 0, 0, [17], []⟩, ⟨0, 0, 0, [1], []⟩, ⟨0, 0, 0, [1], []⟩, ⟨0, 0, 0, [102], []⟩, ⟨0, 0, 0, [103], []⟩, ⟨0, 0, 0, [101, 104], []⟩, ⟨1, 0, 0, [105], []⟩, ⟨0, 0, 0, [11], []⟩, ⟨1, 0, 0, [107], []⟩, ⟨3, 0, 0, [99, 100, 106, 108], []⟩, ⟨0, 0, 0, [109], []⟩, ⟨0, 0, 0, [93], []⟩, ⟨0, 0, 0, [93], []⟩, ⟨2, 0, 0, [], []⟩, ⟨3, 0, 0, [19, 110], [19]⟩, ⟨0, 0, 0, [111], []⟩] .leaf .leaf))
def dr102 : Tr (List HOp) := (.node 11 [⟨1, 0, 1, [2], []⟩, ⟨0, 0, 0, [1], []⟩, ⟨0, 0, 0, [2], []⟩, ⟨1, 0, 0, [62], []⟩, ⟨0, 0, 0, [9], []⟩, ⟨1, 0, 0, [64], []⟩, ⟨3, 0, 0, [63, 65], []⟩, ⟨3, 0, 0, [60, 61, 66], []⟩, ⟨0, 0, 0, [67], []⟩, ⟨0, 0, 0, [59], []⟩, ⟨0, 0, 0, [59], []⟩, ⟨3, 0, 0, [12, 68], []⟩, ⟨0, 0, 0, [69], []⟩] (.node 10 [⟨1, 0, 0, [12], []⟩, ⟨0, 0, 0, [1], []⟩, ⟨1, 0, 0, [9], []⟩, ⟨3, 0, 0, [49, 50, 51], []⟩, ⟨0, 0, 0, [1], []⟩, ⟨0, 0, 0, [9], []⟩, ⟨1, 0, 1, [54], []⟩, ⟨3, 0, 0, [52, 53, 55], []⟩, ⟨0, 0, 0, [56], []⟩, ⟨0, 0, 0, [48], []⟩, ⟨0, 0, 0, [48], []⟩, ⟨3, 0, 0, [12, 57], []⟩, ⟨0, 0, 0, [58], []⟩] .leaf .leaf) .leaf)
def dr103 : Tr (List HOp) := (.node 9 [⟨1, 0, 1, [2], []⟩, ⟨0, 0, 0, [1], []⟩, ⟨0, 0, 0, [2], []⟩, ⟨1, 0, 0, [60], []⟩, ⟨0, 0, 0, [9], []⟩, ⟨1, 0, 0, [62], []⟩, ⟨3, 0, 0, [61, 63], []⟩, ⟨3, 0, 0, [58, 59, 64], []⟩, ⟨0, 0, 0, [65], []⟩, ⟨0, 0, 0, [57], []⟩, ⟨0, 0, 0, [57], []⟩, ⟨3, 0, 0, [12, 66], []⟩, ⟨0, 0, 0, [67], []⟩] (.node 8 [⟨1, 0, 0, [2], []⟩, ⟨0, 0, 0, [9], []⟩, ⟨1, 0, 0, [43], []⟩, ⟨0, 0, 0, [9], []⟩, ⟨1, 0, 0, [45], []⟩, ⟨3, 0, 0, [42, 44, 46], []⟩, ⟨0, 0, 0, [1], []⟩, ⟨1, 0, 1, [9], []⟩, ⟨3, 0, 0, [47, 48, 49], []⟩, ⟨0, 0, 0, [1], []⟩, ⟨0, 0, 0, [9], []⟩, ⟨1, 0, 2, [52], []⟩, ⟨3, 0, 0, [50, 51, 53], []⟩, ⟨0, 0, 0, [54], []⟩, ⟨0, 0, 0, [41], []⟩, ⟨0, 0, 0, [41], []⟩, ⟨3, 0, 0, [12, 55], []⟩, ⟨0, 0, 0, [56], []⟩] .leaf .leaf) .leaf)
def dr104 : Tr (List HOp) := (.node 9 [⟨1, 0, 0, [8], []⟩, ⟨0, 0, 0, [10], []⟩, ⟨0, 0, 0, [50], []⟩, ⟨1, 0, 0, [51], []⟩, ⟨3, 0, 0, [49, 52], []⟩, ⟨0, 0, 0, [53], []⟩, ⟨0, 0, 0, [48], []⟩, ⟨0, 0, 0, [48], []⟩, ⟨2, 0, 0, [], []⟩, ⟨0, 0, 0, [54], []⟩, ⟨3, 0, 0, [14, 55], [8]⟩] (.node 7 [⟨1, 0, 0, [8], []⟩, ⟨0, 0, 0, [10], []⟩, ⟨0, 0, 0, [37], []⟩, ⟨1, 0, 0, [38], []⟩, ⟨3, 0, 0, [36, 39], []⟩] .leaf .leaf) .leaf)
def dr105 : Tr (List HOp) := .leaf
def dr106 : Tr (List HOp) := (.node 1 [⟨1, 0, 1, [3], []⟩, ⟨0, 0, 0, [1], []⟩, ⟨0, 0, 0, [2], []⟩, ⟨3, 0, 0, [9], []⟩, ⟨3, 0, 0, [7, 8, 10], []⟩, ⟨0, 0, 0, [11], []⟩] .leaf .leaf)
def dr107 : Tr (List HOp) := (.node 7 [⟨1, 0, 1, [3], []⟩, ⟨1, 0, 0, [8], []⟩, ⟨0, 0, 0, [2], []⟩, ⟨3, 0, 0, [32, 33], []⟩, ⟨3, 0, 0, [31, 34], []⟩, ⟨3, 0, 0, [3, 35], []⟩] .leaf .leaf)
def dr108 : Tr (List HOp) := .leaf
def dr109 : Tr (List HOp) := .leaf
def dr110 : Tr (List HOp) := .leaf
def dr111 : Tr (List HOp) := (.node 15 [⟨0, 0, 0, [12], []⟩, ⟨1, 0, 0, [62], []⟩, ⟨0, 0, 0, [15], []⟩, ⟨0, 0, 0, [64], []⟩, ⟨1, 0, 0, [65], []⟩, ⟨3, 0, 0, [63, 66], []⟩, ⟨0, 0, 0, [67], []⟩, ⟨0, 0, 0, [61], []⟩, ⟨0, 0, 0, [61], []⟩, ⟨0, 0, 0, [68], []⟩, ⟨0, 0, 0, [69], []⟩] (.node 12 [⟨1, 0, 0, [12], []⟩, ⟨0, 0, 0, [9], []⟩, ⟨0, 0, 0, [1], []⟩, ⟨0, 0, 0, [14], []⟩, ⟨0, 0, 0, [51, 52], []⟩, ⟨1, 0, 0, [53], []⟩, ⟨3, 0, 0, [49, 50, 54], []⟩, ⟨0, 0, 0, [55], []⟩] (.node 4 [⟨1, 0, 0, [3], []⟩, ⟨0, 0, 0, [9], []⟩, ⟨0, 0, 0, [34], []⟩, ⟨1, 0, 0, [35], []⟩, ⟨3, 0, 0, [33, 36], []⟩, ⟨0, 0, 0, [37], []⟩] .leaf .leaf) .leaf) (.node 22 [⟨1, 0, 0, [12], []⟩, ⟨0, 0, 0, [9], []⟩, ⟨0, 0, 0, [1], []⟩, ⟨0, 0, 0, [14], []⟩, ⟨0, 0, 0, [111, 112], []⟩, ⟨1, 0, 0, [113], []⟩, ⟨3, 0, 0, [109, 110, 114], []⟩, ⟨0, 0, 0, [115], []⟩] (.node 16 [⟨0, 0, 0, [12], []⟩, ⟨1, 0, 1, [71], []⟩, ⟨0, 0, 0, [2], []⟩, ⟨0, 0, 0, [72, 73], []⟩, ⟨1, 0, 1, [74], []⟩, ⟨0, 0, 0, [13], []⟩, ⟨0, 0, 0, [1], []⟩, ⟨0, 0, 0, [14], []⟩, ⟨0, 0, 0, [77, 78], []⟩, ⟨1, 0, 1, [79], []⟩, ⟨1, 0, 0, [12], []⟩, ⟨0, 0, 0, [15], []⟩, ⟨0, 0, 0, [82], []⟩, ⟨1, 0, 0, [83], []⟩, ⟨3, 0, 0, [81, 84], []⟩, ⟨0, 0, 0, [85], []⟩, ⟨0, 0, 0, [86], []⟩, ⟨3, 0, 0, [75, 76, 80, 87], []⟩, ⟨0, 0, 0, [88], []⟩, ⟨0, 0, 0, [70], []⟩, ⟨0, 0, 0, [70], []⟩, ⟨0, 0, 0, [70], []⟩, ⟨2, 0, 0, [], []⟩, ⟨3, 0, 0, [19, 89], [22]⟩, ⟨0, 0, 0, [90], []⟩, ⟨0, 0, 0, [91], []⟩] .leaf .leaf) .leaf))
def dr112 : Tr (List HOp) := .leaf
def dr113 : Tr (List HOp) := .leaf
def dr114 : Tr (List HOp) := .leaf
def dr115 : Tr (List HOp) := .leaf
def dr116 : Tr (List HOp) := (.node 5 [⟨2, 0, 0, [], []⟩, ⟨0, 0, 0, [3], []⟩, ⟨1, 0, 0, [30], []⟩, ⟨0, 0, 0, [7], []⟩, ⟨1, 0, 0, [31, 32], []⟩, ⟨3, 0, 0, [29, 33], [0]⟩, ⟨1, 0, 1, [4], []⟩, ⟨0, 0, 0, [2], []⟩, ⟨0, 0, 0, [35, 36], []⟩, ⟨2, 0, 0, [37], []⟩, ⟨3, 0, 0, [34, 38], [9]⟩, ⟨0, 0, 0, [39], []⟩] (.node 3 [⟨0, 0, 0, [7], []⟩, ⟨0, 0, 0, [3], []⟩, ⟨1, 0, 0, [13], []⟩, ⟨0, 0, 0, [14], []⟩, ⟨0, 0, 0, [12, 15], []⟩, ⟨0, 0, 0, [16], []⟩, ⟨0, 0, 0, [3, 17], []⟩, ⟨1, 0, 0, [18, 17], []⟩, ⟨0, 0, 0, [7, 17], []⟩, ⟨0, 0, 0, [19, 20, 17], []⟩, ⟨0, 0, 0, [21, 17], []⟩, ⟨1, 0, 0, [22, 17], []⟩, ⟨1, 0, 0, [4, 17], []⟩, ⟨3, 0, 0, [23, 24, 17], []⟩, ⟨0, 0, 0, [17, 25], []⟩] .leaf .leaf) .leaf)
def dr117 : Tr (List HOp) := .leaf
def dr118 : Tr (List HOp) := (.node 5 [⟨0, 0, 0, [3], []⟩, ⟨1, 0, 1, [15], []⟩, ⟨0, 0, 0, [1], []⟩, ⟨1, 0, 1, [17], []⟩, ⟨0, 0, 0, [4], []⟩, ⟨0, 0, 0, [18, 19], []⟩, ⟨0, 0, 0, [20], []⟩, ⟨1, 0, 1, [21], []⟩, ⟨2, 0, 0, [], []⟩, ⟨0, 0, 0, [1], []⟩, ⟨1, 0, 0, [24], []⟩, ⟨0, 0, 0, [4], []⟩, ⟨0, 0, 0, [25, 26], []⟩, ⟨0, 0, 0, [27], []⟩, ⟨1, 0, 0, [28], []⟩, ⟨3, 0, 0, [23, 29], [8]⟩, ⟨0, 0, 0, [22, 30], []⟩, ⟨2, 0, 0, [31], []⟩, ⟨3, 0, 0, [16, 32], [17]⟩, ⟨0, 0, 0, [3], []⟩, ⟨3, 0, 0, [34, 33], []⟩] .leaf .leaf)
def dr119 : Tr (List HOp) := (.node 5 [⟨2, 0, 0, [], []⟩, ⟨0, 0, 0, [2], []⟩, ⟨1, 0, 0, [30], []⟩, ⟨0, 0, 0, [5], []⟩, ⟨1, 0, 0, [31, 32], []⟩, ⟨3, 0, 0, [29, 33], [0]⟩, ⟨1, 0, 1, [3], []⟩, ⟨3, 0, 0, [35], []⟩, ⟨2, 0, 0, [36], []⟩, ⟨3, 0, 0, [34, 37], [8]⟩, ⟨0, 0, 0, [38], []⟩] (.node 3 [⟨0, 0, 0, [5], []⟩, ⟨0, 0, 0, [2], []⟩, ⟨1, 0, 0, [12], []⟩, ⟨0, 0, 0, [13], []⟩, ⟨0, 0, 0, [11, 14], []⟩, ⟨0, 0, 0, [15], []⟩, ⟨0, 0, 0, [2, 16], []⟩, ⟨1, 0, 0, [17, 16], []⟩, ⟨0, 0, 0, [5, 16], []⟩, ⟨0, 0, 0, [18, 19, 16], []⟩, ⟨0, 0, 0, [20, 16], []⟩, ⟨1, 0, 0, [21, 16], []⟩, ⟨0, 0, 0, [3, 16], []⟩, ⟨1, 0, 0, [23, 16], []⟩, ⟨0, 0, 0, [22, 24, 16], []⟩, ⟨0, 0, 0, [16, 25], []⟩] .leaf .leaf) .leaf)
def dr120 : Tr (List HOp) := (.node 5 [⟨0, 0, 0, [2], []⟩, ⟨1, 0, 0, [18], []⟩, ⟨0, 0, 0, [1], []⟩, ⟨0, 0, 0, [6], []⟩, ⟨0, 0, 0, [20, 21], []⟩, ⟨0, 0, 0, [22], []⟩, ⟨1, 0, 0, [23], []⟩, ⟨0, 0, 0, [19, 24], []⟩, ⟨1, 0, 0, [25], []⟩, ⟨0, 0, 0, [1], []⟩, ⟨0, 0, 0, [6], []⟩, ⟨0, 0, 0, [27, 28], []⟩, ⟨0, 0, 0, [29], []⟩, ⟨1, 0, 0, [30], []⟩, ⟨3, 0, 0, [26, 31], []⟩, ⟨0, 0, 0, [32], []⟩, ⟨0, 0, 0, [17], []⟩, ⟨0, 0, 0, [17], []⟩, ⟨2, 0, 0, [], []⟩, ⟨3, 0, 0, [7, 33], [18]⟩, ⟨0, 0, 0, [34], []⟩] .leaf .leaf)
def dr121 : Tr (List HOp) := .leaf
def dr122 : Tr (List HOp) := .leaf
def dr123 : Tr (List HOp) := .leaf
def dr124 : Tr (List HOp) := .leaf
def dr125 : Tr (List HOp) := (.node 5 [⟨0, 0, 0, [9], []⟩, ⟨1, 0, 0, [32], []⟩, ⟨0, 0, 0, [5], []⟩, ⟨1, 0, 0, [34], []⟩, ⟨0, 0, 0, [33, 35], []⟩, ⟨1, 0, 0, [36], []⟩, ⟨0, 0, 0, [10], []⟩, ⟨0, 0, 0, [1], []⟩, ⟨0, 0, 0, [8], []⟩, ⟨0, 0, 0, [39, 40], []⟩, ⟨1, 0, 0, [41], []⟩, ⟨0, 0, 0, [5], []⟩, ⟨1, 0, 0, [43], []⟩, ⟨3, 0, 0, [37, 38, 42, 44], []⟩, ⟨0, 0, 0, [45], []⟩, ⟨0, 0, 0, [31], []⟩, ⟨0, 0, 0, [31], []⟩, ⟨2, 0, 0, [], []⟩, ⟨3, 0, 0, [12, 46], [17]⟩, ⟨0, 0, 0, [47], []⟩] (.node 2 [⟨1, 0, 0, [3], []⟩, ⟨0, 0, 0, [1], []⟩, ⟨0, 0, 0, [8], []⟩, ⟨1, 0, 0, [18, 19], []⟩, ⟨0, 0, 0, [5], []⟩, ⟨1, 0, 0, [21], []⟩, ⟨3, 0, 0, [17, 20, 22], []⟩, ⟨0, 0, 0, [23], []⟩, ⟨0, 0, 0, [16], []⟩, ⟨0, 0, 0, [16], []⟩, ⟨0, 0, 0, [16], []⟩, ⟨2, 0, 0, [], []⟩, ⟨3, 0, 0, [9, 24], [11]⟩, ⟨0, 0, 0, [25], []⟩, ⟨0, 0, 0, [26], []⟩] .leaf .leaf) .leaf)
def dr126 : Tr (List HOp) := .leaf
def dr127 : Tr (List HOp) := .leaf
def dr128 : Tr (List HOp) := .leaf
def dr131 : Tr (List HOp) := (.node 6 [⟨0, 0, 0, [2], []⟩, ⟨0, 0, 0, [1], []⟩, ⟨1, 0, 0, [21], []⟩, ⟨0, 0, 0, [22], []⟩, ⟨0, 0, 0, [20], []⟩, ⟨0, 0, 0, [23], []⟩] .leaf .leaf)
def dr133 : Tr (List HOp) := (.node 6 [⟨0, 0, 0, [2], []⟩, ⟨1, 0, 1, [24], []⟩, ⟨0, 0, 0, [5], []⟩, ⟨1, 0, 0, [3], []⟩, ⟨3, 0, 0, [27], []⟩, ⟨2, 0, 0, [28], []⟩, ⟨3, 0, 0, [25, 26, 29], [5]⟩, ⟨0, 0, 0, [2], []⟩, ⟨3, 0, 0, [31, 30], []⟩] (.node 4 [⟨0, 0, 0, [2], []⟩, ⟨1, 0, 1, [17], []⟩, ⟨0, 0, 0, [5], []⟩, ⟨1, 0, 0, [3], []⟩, ⟨3, 0, 0, [20], []⟩, ⟨0, 0, 0, [18, 19], []⟩, ⟨3, 0, 0, [22, 21], []⟩] .leaf .leaf) .leaf)
def dr134 : Tr (List HOp) := .leaf
def dr136 : Tr (List HOp) := (.node 1 [⟨0, 0, 0, [1], []⟩, ⟨1, 0, 0, [3], []⟩, ⟨3, 0, 0, [4], []⟩, ⟨0, 0, 0, [1], []⟩, ⟨1, 0, 1, [6], []⟩, ⟨3, 0, 0, [7], []⟩, ⟨0, 0, 0, [1], []⟩, ⟨3, 0, 0, [9, 5], []⟩, ⟨0, 0, 0, [1], []⟩, ⟨3, 0, 0, [10, 8], []⟩] .leaf .leaf)
def dr138 : Tr (List HOp) := .leaf
def dr139 : Tr (List HOp) := (.node 6 [⟨0, 0, 0, [4], []⟩, ⟨0, 0, 0, [1], []⟩, ⟨1, 0, 0, [24], []⟩, ⟨0, 0, 0, [25], []⟩, ⟨0, 0, 0, [23], []⟩, ⟨0, 0, 0, [26], []⟩] .leaf .leaf)
def dr140 : Tr (List HOp) := (.node 11 [⟨0, 0, 0, [7], []⟩, ⟨0, 0, 0, [90], []⟩, ⟨0, 0, 0, [91], []⟩, ⟨0, 0, 0, [3, 92], []⟩, ⟨1, 0, 0, [93, 92], []⟩, ⟨0, 0, 0, [5, 92], []⟩, ⟨0, 0, 0, [94, 95, 92], []⟩, ⟨0, 0, 0, [96, 92], []⟩, ⟨1, 0, 0, [97, 92], []⟩, ⟨3, 0, 0, [98, 92], []⟩, ⟨0, 0, 0, [99, 92], []⟩, ⟨0, 0, 0, [92, 100], []⟩, ⟨0, 0, 0, [101], []⟩, ⟨0, 0, 0, [5, 102], []⟩, ⟨0, 0, 0, [103, 102], []⟩, ⟨0, 0, 0, [104, 102], []⟩, ⟨0, 0, 0, [3, 105], []⟩, ⟨1, 1, 1, [106, 105], []⟩, ⟨0, 0, 0, [5, 105], []⟩, ⟨0, 0, 0, [107, 108, 105], []⟩, ⟨0, 0, 0, [109, 105], []⟩, ⟨1, 1, 1, [110, 105], []⟩, ⟨0, 0, 0, [3, 105], []⟩, ⟨1, 1, 1, [112, 105], []⟩, ⟨0, 0, 0, [5, 105], []⟩, ⟨0, 0, 0, [114, 105], []⟩, ⟨0, 0, 0, [113, 115, 105], []⟩, ⟨0, 0, 0, [116, 105], []⟩, ⟨1, 1, 1, [117, 105], []⟩, ⟨0, 0, 0, [111, 118, 105], []⟩, ⟨0, 0, 0, [105, 119, 102], []⟩, ⟨0, 0, 0, [102, 120], []⟩] (.node 10 [⟨1, 0, 0, [2], []⟩, ⟨0, 0, 0, [3], []⟩, ⟨1, 0, 0, [81], []⟩, ⟨0, 0, 0, [5], []⟩, ⟨0, 0, 0, [82, 83], []⟩, ⟨0, 0, 0, [84], []⟩, ⟨1, 0, 0, [85], []⟩, ⟨3, 0, 0, [80, 86], []⟩, ⟨0, 0, 0, [87], []⟩, ⟨0, 0, 0, [79], []⟩, ⟨0, 0, 0, [79], []⟩, ⟨2, 0, 0, [], []⟩, ⟨3, 0, 0, [6, 88], [11]⟩, ⟨0, 0, 0, [89], []⟩] .leaf .leaf) .leaf)
def dr141 : Tr (List HOp) := .leaf
def dr142 : Tr (List HOp) := (.node 10 [⟨1, 0, 2, [4], []⟩, ⟨0, 0, 0, [13], []⟩, ⟨0, 0, 0, [2], []⟩, ⟨0, 0, 0, [49], []⟩, ⟨2, 0, 0, [], []⟩, ⟨0, 0, 0, [3], []⟩, ⟨3, 0, 0, [51, 52], [4]⟩, ⟨0, 0, 0, [13], []⟩, ⟨2, 0, 0, [54], []⟩, ⟨3, 0, 0, [53, 55], [8]⟩, ⟨3, 0, 0, [47, 48, 50, 56], []⟩, ⟨0, 0, 0, [57], []⟩, ⟨0, 0, 0, [46], []⟩, ⟨0, 0, 0, [46], []⟩, ⟨0, 0, 0, [58], []⟩, ⟨0, 0, 0, [59], []⟩] .leaf .leaf)
def dr143 : Tr (List HOp) := .leaf
def dr144 : Tr (List HOp) := (.node 1 [⟨0, 0, 0, [0], []⟩, ⟨0, 0, 0, [3], []⟩, ⟨1, 0, 0, [4], []⟩, ⟨0, 0, 0, [5], []⟩, ⟨0, 0, 0, [6], []⟩, ⟨0, 0, 0, [0], []⟩, ⟨0, 0, 0, [8], []⟩, ⟨1, 0, 0, [9], []⟩, ⟨0, 0, 0, [10], []⟩, ⟨0, 0, 0, [11], []⟩, ⟨0, 0, 0, [7, 12], []⟩, ⟨0, 0, 0, [0], []⟩, ⟨0, 0, 0, [14], []⟩, ⟨1, 0, 0, [15], []⟩, ⟨0, 0, 0, [16], []⟩, ⟨0, 0, 0, [17], []⟩, ⟨0, 0, 0, [13, 18], []⟩, ⟨0, 0, 0, [0], []⟩, ⟨0, 0, 0, [20], []⟩, ⟨1, 0, 0, [21], []⟩, ⟨0, 0, 0, [22], []⟩, ⟨0, 0, 0, [19, 23], []⟩, ⟨0, 0, 0, [24], []⟩] .leaf .leaf)
def dr145 : Tr (List HOp) := (.node 5 [⟨0, 0, 0, [3], []⟩, ⟨0, 0, 0, [1], []⟩, ⟨1, 0, 0, [27], []⟩, ⟨3, 0, 0, [28], []⟩, ⟨3, 0, 0, [26, 29], []⟩, ⟨0, 0, 0, [1], []⟩, ⟨1, 0, 2, [31], []⟩, ⟨3, 0, 0, [32], []⟩, ⟨3, 0, 0, [30, 33], []⟩, ⟨0, 0, 0, [34], []⟩] (.node 3 [⟨0, 0, 0, [1], []⟩, ⟨1, 0, 0, [7], []⟩, ⟨3, 0, 0, [8], []⟩, ⟨0, 0, 0, [1], []⟩, ⟨1, 0, 1, [10], []⟩, ⟨0, 0, 0, [11], []⟩, ⟨3, 0, 0, [12], []⟩, ⟨3, 0, 0, [9, 13], []⟩, ⟨0, 0, 0, [1], []⟩, ⟨1, 0, 3, [15], []⟩, ⟨0, 0, 0, [16], []⟩, ⟨3, 0, 0, [17], []⟩, ⟨3, 0, 0, [14, 18], []⟩, ⟨0, 0, 0, [19], []⟩] .leaf .leaf) .leaf)
def dr146 : Tr (List HOp) := (.node 10 [⟨1, 0, 0, [4], []⟩, ⟨0, 0, 0, [2], []⟩, ⟨0, 0, 0, [11], []⟩, ⟨0, 0, 0, [46, 47], []⟩, ⟨1, 0, 0, [48], []⟩, ⟨0, 0, 0, [10], []⟩, ⟨3, 0, 0, [45, 49, 50], []⟩, ⟨3, 0, 0, [4, 51], []⟩] (.node 2 [⟨1, 0, 0, [3], []⟩, ⟨0, 0, 0, [2], []⟩, ⟨0, 0, 0, [23], []⟩, ⟨1, 0, 0, [24], []⟩, ⟨3, 0, 0, [22, 25], []⟩, ⟨0, 0, 0, [26], []⟩] (.node 1 [⟨1, 0, 0, [4], []⟩, ⟨0, 0, 0, [2], []⟩, ⟨0, 0, 0, [16], []⟩, ⟨1, 0, 0, [17], []⟩, ⟨3, 0, 0, [15, 18], []⟩, ⟨0, 0, 0, [19], []⟩, ⟨0, 0, 0, [14], []⟩, ⟨0, 0, 0, [14], []⟩, ⟨0, 0, 0, [20], []⟩, ⟨0, 0, 0, [21], []⟩] .leaf .leaf) .leaf) (.node 17 [⟨1, 0, 1, [3], []⟩, ⟨1, 0, 1, [4], []⟩, ⟨1, 0, 0, [3], []⟩, ⟨0, 0, 0, [2], []⟩, ⟨0, 0, 0, [12], []⟩, ⟨0, 0, 0, [13], []⟩, ⟨0, 0, 0, [73, 74], []⟩, ⟨1, 0, 0, [75], []⟩, ⟨3, 0, 0, [71, 72, 76], []⟩, ⟨3, 0, 0, [69, 70, 77], []⟩, ⟨3, 0, 0, [4, 78], []⟩] (.node 12 [⟨1, 0, 0, [4], []⟩, ⟨0, 0, 0, [10], []⟩, ⟨0, 0, 0, [2], []⟩, ⟨0, 0, 0, [56], []⟩, ⟨1, 0, 0, [57], []⟩, ⟨3, 0, 0, [54, 55, 58], []⟩, ⟨3, 0, 0, [6, 59], []⟩] .leaf .leaf) .leaf))
def dr147 : Tr (List HOp) := .leaf
def dr148 : Tr (List HOp) := (.node 8 [⟨0, 0, 0, [10], []⟩, ⟨1, 0, 0, [46], []⟩, ⟨0, 0, 0, [2], []⟩, ⟨0, 0, 0, [3], []⟩, ⟨0, 0, 0, [49], []⟩, ⟨3, 0, 0, [47, 48, 50], []⟩, ⟨0, 0, 0, [4], []⟩, ⟨1, 0, 1, [52], []⟩, ⟨0, 0, 0, [13], []⟩, ⟨0, 0, 0, [53, 54], []⟩, ⟨0, 0, 0, [51, 55], []⟩] .leaf .leaf)
def dr149 : Tr (List HOp) := .leaf
def dr150 : Tr (List HOp) := .leaf
def dr151 : Tr (List HOp) := (.node 9 [⟨0, 0, 0, [8], []⟩, ⟨0, 0, 0, [32], []⟩, ⟨0, 0, 0, [10, 33], []⟩, ⟨0, 0, 0, [34, 33], []⟩, ⟨1, 0, 0, [35, 33], []⟩, ⟨0, 0, 0, [1, 33], []⟩, ⟨0, 0, 0, [36, 37, 33], []⟩, ⟨0, 0, 0, [38, 33], []⟩, ⟨0, 0, 0, [10, 39], []⟩, ⟨0, 0, 0, [40, 39], []⟩, ⟨1, 0, 0, [41, 39], []⟩, ⟨0, 0, 0, [5, 39], []⟩, ⟨1, 0, 0, [43, 39], []⟩, ⟨0, 0, 0, [7, 39], []⟩, ⟨0, 0, 0, [44, 45, 39], []⟩, ⟨0, 0, 0, [46, 39], []⟩, ⟨1, 0, 0, [47, 39], []⟩, ⟨0, 0, 0, [42, 48, 39], []⟩, ⟨0, 0, 0, [39, 49, 33], []⟩, ⟨0, 0, 0, [50, 33], []⟩, ⟨0, 0, 0, [10, 51], []⟩, ⟨1, 0, 0, [52, 51], []⟩, ⟨3, 0, 0, [53, 51], []⟩, ⟨0, 0, 0, [5, 51], []⟩, ⟨1, 0, 1, [55, 51], []⟩, ⟨0, 0, 0, [7, 51], []⟩, ⟨0, 0, 0, [56, 57, 51], []⟩, ⟨0, 0, 0, [58, 51], []⟩, ⟨1, 0, 1, [59, 51], []⟩, ⟨0, 0, 0, [54, 60, 51], []⟩, ⟨0, 0, 0, [51, 61, 33], []⟩, ⟨0, 0, 0, [33, 62], []⟩, ⟨0, 0, 0, [63], []⟩] .leaf .leaf)
def dr152 : Tr (List HOp) := (.node 3 [⟨0, 0, 0, [3], []⟩, ⟨1, 0, 0, [25], []⟩, ⟨0, 0, 0, [7], []⟩, ⟨1, 0, 0, [27], []⟩, ⟨3, 0, 0, [26, 28], []⟩, ⟨0, 0, 0, [29], []⟩, ⟨0, 0, 0, [9, 30], []⟩, ⟨0, 0, 0, [2, 30], []⟩, ⟨0, 0, 0, [31, 32, 30], []⟩, ⟨0, 0, 0, [33, 30], []⟩, ⟨0, 0, 0, [3, 34], []⟩, ⟨1, 1, 2, [35, 34], []⟩, ⟨0, 0, 0, [7, 34], []⟩, ⟨1, 1, 2, [37, 34], []⟩, ⟨0, 0, 0, [36, 38, 34], []⟩, ⟨1, 1, 2, [39, 34], []⟩, ⟨0, 0, 0, [7, 34], []⟩, ⟨1, 1, 2, [41, 34], []⟩, ⟨0, 0, 0, [2, 34], []⟩, ⟨3, 0, 0, [43, 34], []⟩, ⟨3, 0, 0, [40, 42, 44, 34], []⟩, ⟨0, 0, 0, [34, 45, 30], []⟩, ⟨0, 0, 0, [30, 46], []⟩] .leaf .leaf)
def dr153 : Tr (List HOp) := .leaf
def dr154 : Tr (List HOp) := (.node 6 [⟨1, 0, 0, [7], []⟩, ⟨0, 0, 0, [1], []⟩, ⟨0, 0, 0, [1], []⟩, ⟨0, 0, 0, [29], []⟩, ⟨0, 0, 0, [30], []⟩, ⟨0, 0, 0, [28, 31], []⟩, ⟨1, 0, 1, [32], []⟩, ⟨3, 0, 0, [4, 27], []⟩, ⟨0, 0, 0, [33], []⟩, ⟨0, 0, 0, [], []⟩] (.node 1 [⟨1, 0, 0, [2], []⟩, ⟨0, 0, 0, [1], []⟩, ⟨0, 0, 0, [1], []⟩, ⟨0, 0, 0, [12], []⟩, ⟨0, 0, 0, [13], []⟩, ⟨1, 0, 0, [11, 14], []⟩, ⟨3, 0, 0, [10, 15], []⟩, ⟨0, 0, 0, [16], []⟩, ⟨0, 0, 0, [9], []⟩, ⟨0, 0, 0, [9], []⟩, ⟨2, 0, 0, [], []⟩, ⟨3, 0, 0, [7, 17], [10]⟩, ⟨0, 0, 0, [18], []⟩] .leaf .leaf) .leaf)
def dr155 : Tr (List HOp) := (.node 7 [⟨1, 0, 0, [6], []⟩, ⟨0, 0, 0, [1], []⟩, ⟨0, 0, 0, [8], []⟩, ⟨0, 0, 0, [28, 29], []⟩, ⟨1, 0, 0, [30], []⟩, ⟨3, 0, 0, [27, 31], []⟩, ⟨0, 0, 0, [32], []⟩, ⟨0, 0, 0, [26], []⟩, ⟨0, 0, 0, [26], []⟩, ⟨0, 0, 0, [33], []⟩, ⟨0, 0, 0, [34], []⟩] .leaf .leaf)
def dr156 : Tr (List HOp) := .leaf
def dr157 : Tr (List HOp) := .leaf
def dr158 : Tr (List HOp) := .leaf
def dr159 : Tr (List HOp) := (.node 5 [⟨1, 0, 0, [2], []⟩, ⟨0, 0, 0, [3], []⟩, ⟨1, 0, 0, [18], []⟩, ⟨0, 0, 0, [6], []⟩, ⟨0, 0, 0, [19, 20], []⟩, ⟨0, 0, 0, [21], []⟩, ⟨1, 0, 0, [22], []⟩, ⟨3, 0, 0, [17, 23], []⟩, ⟨0, 0, 0, [24], []⟩, ⟨0, 0, 0, [16], []⟩, ⟨0, 0, 0, [16], []⟩, ⟨2, 0, 0, [], []⟩, ⟨3, 0, 0, [7, 25], [11]⟩, ⟨0, 0, 0, [26], []⟩] .leaf .leaf)
def dr160 : Tr (List HOp) := .leaf
def dr161 : Tr (List HOp) := .leaf
def dr162 : Tr (List HOp) := .leaf
def dr163 : Tr (List HOp) := (.node 14 [⟨1, 0, 1, [3], []⟩, ⟨1, 0, 1, [9], []⟩, ⟨0, 0, 0, [2], []⟩, ⟨3, 0, 0, [64], []⟩, ⟨3, 0, 0, [62, 63, 65], []⟩] (.node 13 [⟨0, 0, 0, [6], []⟩, ⟨0, 0, 0, [12], []⟩, ⟨1, 0, 0, [60], []⟩, ⟨0, 0, 0, [59], []⟩, ⟨0, 0, 0, [61], []⟩] (.node 11 [⟨0, 0, 0, [6], []⟩, ⟨0, 0, 0, [12], []⟩, ⟨1, 0, 0, [52], []⟩, ⟨0, 0, 0, [53], []⟩, ⟨0, 0, 0, [51], []⟩, ⟨0, 0, 0, [54], []⟩] .leaf .leaf) .leaf) (.node 17 [⟨0, 0, 0, [6], []⟩, ⟨0, 0, 0, [3], []⟩, ⟨1, 0, 0, [72], []⟩, ⟨0, 0, 0, [73], []⟩, ⟨0, 0, 0, [74], []⟩, ⟨0, 0, 0, [71], []⟩, ⟨0, 0, 0, [75], []⟩] (.node 15 [⟨0, 0, 0, [6], []⟩, ⟨0, 0, 0, [9], []⟩, ⟨1, 0, 0, [68], []⟩, ⟨0, 0, 0, [67], []⟩, ⟨0, 0, 0, [69], []⟩] .leaf .leaf) .leaf))
def dr164 : Tr (List HOp) := (.node 8 [⟨0, 0, 0, [9], []⟩, ⟨0, 0, 0, [9], []⟩, ⟨0, 0, 0, [8], []⟩, ⟨0, 0, 0, [36, 37], []⟩, ⟨0, 0, 0, [38], []⟩, ⟨0, 0, 0, [2, 39], []⟩, ⟨0, 0, 0, [0, 39], []⟩, ⟨0, 0, 0, [9, 39], []⟩, ⟨0, 0, 0, [41, 42, 39], []⟩, ⟨1, 0, 0, [43, 39], []⟩, ⟨1, 0, 0, [4, 39], []⟩, ⟨3, 0, 0, [40, 44, 45, 39], []⟩, ⟨0, 0, 0, [46, 39], []⟩, ⟨0, 0, 0, [39, 47], []⟩, ⟨0, 0, 0, [35], []⟩, ⟨0, 0, 0, [48], []⟩] (.node 5 [⟨0, 0, 0, [2], []⟩, ⟨0, 0, 0, [0], []⟩, ⟨0, 0, 0, [11], []⟩, ⟨0, 0, 0, [25, 26], []⟩, ⟨1, 0, 0, [27], []⟩, ⟨1, 0, 0, [4], []⟩, ⟨3, 0, 0, [24, 28, 29], []⟩, ⟨0, 0, 0, [30], []⟩] .leaf .leaf) .leaf)
def dr165 : Tr (List HOp) := (.node 1 [⟨0, 0, 0, [2], []⟩, ⟨0, 0, 0, [5], []⟩, ⟨1, 0, 0, [6], []⟩, ⟨0, 0, 0, [3], []⟩, ⟨1, 0, 0, [8], []⟩, ⟨3, 0, 0, [7, 9], []⟩, ⟨0, 0, 0, [2], []⟩, ⟨0, 0, 0, [11], []⟩, ⟨1, 0, 1, [12], []⟩, ⟨0, 0, 0, [3], []⟩, ⟨1, 0, 1, [14], []⟩, ⟨3, 0, 0, [13, 15], []⟩, ⟨2, 0, 0, [10, 16], []⟩, ⟨3, 0, 0, [17], [12]⟩, ⟨0, 0, 0, [18], []⟩] .leaf .leaf)
def dr166 : Tr (List HOp) := (.node 10 [⟨1, 0, 1, [4], []⟩, ⟨1, 0, 0, [11], []⟩, ⟨0, 0, 0, [2], []⟩, ⟨0, 0, 0, [16], []⟩, ⟨3, 0, 0, [64, 65, 66], []⟩, ⟨3, 0, 0, [63, 67], []⟩, ⟨3, 0, 0, [4, 68], []⟩] .leaf .leaf)
def dr167 : Tr (List HOp) := .leaf
def dr168 : Tr (List HOp) := .leaf
def dr169 : Tr (List HOp) := (.node 1 [⟨0, 0, 0, [2], []⟩, ⟨1, 0, 0, [5], []⟩, ⟨0, 0, 0, [3], []⟩, ⟨1, 0, 0, [7], []⟩, ⟨3, 0, 0, [6, 8], []⟩, ⟨0, 0, 0, [9], []⟩, ⟨0, 0, 0, [2, 10], []⟩, ⟨1, 1, 1, [11, 10], []⟩, ⟨0, 0, 0, [3, 10], []⟩, ⟨1, 1, 1, [13, 10], []⟩, ⟨0, 0, 0, [12, 14, 10], []⟩, ⟨1, 1, 1, [15, 10], []⟩, ⟨0, 0, 0, [3, 10], []⟩, ⟨1, 1, 1, [17, 10], []⟩, ⟨3, 0, 0, [16, 18, 10], []⟩, ⟨0, 0, 0, [10, 19], []⟩, ⟨0, 0, 0, [20], []⟩] .leaf .leaf)
def dr170 : Tr (List HOp) := (.node 1 [⟨0, 0, 0, [3], []⟩, ⟨1, 0, 0, [7], []⟩, ⟨0, 0, 0, [4], []⟩, ⟨1, 0, 0, [9], []⟩, ⟨3, 0, 0, [8, 10], []⟩, ⟨0, 0, 0, [11], []⟩, ⟨0, 0, 0, [3, 12], []⟩, ⟨1, 1, 1, [13, 12], []⟩, ⟨0, 0, 0, [4, 12], []⟩, ⟨1, 1, 1, [15, 12], []⟩, ⟨0, 0, 0, [14, 16, 12], []⟩, ⟨1, 1, 1, [17, 12], []⟩, ⟨0, 0, 0, [4, 12], []⟩, ⟨1, 1, 1, [19, 12], []⟩, ⟨0, 0, 0, [2, 12], []⟩, ⟨3, 0, 0, [18, 20, 21, 12], []⟩, ⟨0, 0, 0, [12, 22], []⟩, ⟨0, 0, 0, [23], []⟩] .leaf .leaf)
def dr171 : Tr (List HOp) := (.node 6 [⟨0, 0, 0, [0], []⟩, ⟨0, 0, 0, [5], []⟩, ⟨0, 0, 0, [17, 18], []⟩, ⟨1, 0, 0, [19], []⟩, ⟨0, 0, 0, [1], []⟩, ⟨0, 0, 0, [5], []⟩, ⟨0, 0, 0, [21, 22], []⟩, ⟨1, 0, 0, [23], []⟩, ⟨0, 0, 0, [20, 24], []⟩] .leaf .leaf)
def dr172 : Tr (List HOp) := (.node 1 [⟨0, 0, 0, [2], []⟩, ⟨1, 0, 0, [5], []⟩, ⟨0, 0, 0, [3], []⟩, ⟨1, 0, 0, [7], []⟩, ⟨0, 0, 0, [6, 8], []⟩, ⟨0, 0, 0, [9], []⟩, ⟨1, 0, 0, [2, 10], []⟩, ⟨0, 0, 0, [2, 10], []⟩, ⟨1, 0, 0, [12, 10], []⟩, ⟨3, 0, 0, [11, 13, 10], []⟩, ⟨1, 1, 2, [14, 10], []⟩, ⟨1, 0, 1, [3, 10], []⟩, ⟨0, 0, 0, [3, 10], []⟩, ⟨1, 0, 1, [17, 10], []⟩, ⟨3, 0, 0, [16, 18, 10], []⟩, ⟨1, 2, 2, [19, 10], []⟩, ⟨0, 0, 0, [15, 20, 10], []⟩, ⟨0, 0, 0, [10, 21], []⟩, ⟨0, 0, 0, [22], []⟩] .leaf .leaf)
def dr173 : Tr (List HOp) := .leaf
def dr174 : Tr (List HOp) := .leaf
def dr175 : Tr (List HOp) := (.node 14 [⟨0, 0, 0, [9], []⟩, ⟨0, 0, 0, [11], []⟩, ⟨0, 0, 0, [43, 44], []⟩, ⟨1, 0, 0, [45], []⟩, ⟨0, 0, 0, [4], []⟩, ⟨0, 0, 0, [47], []⟩, ⟨1, 0, 0, [48], []⟩, ⟨0, 0, 0, [46, 49], []⟩] .leaf .leaf)
def dr176 : Tr (List HOp) := .leaf
def dr177 : Tr (List HOp) := .leaf
def dr178 : Tr (List HOp) := .leaf
def dr179 : Tr (List HOp) := .leaf
def dr180 : Tr (List HOp) := .leaf
def dr181 : Tr (List HOp) := .leaf
def dr182 : Tr (List HOp) := (.node 2 [⟨0, 0, 0, [3], []⟩, ⟨1, 0, 0, [28], []⟩, ⟨0, 0, 0, [5], []⟩, ⟨1, 0, 0, [30], []⟩, ⟨0, 0, 0, [29, 31], []⟩, ⟨1, 0, 0, [32], []⟩, ⟨0, 0, 0, [8], []⟩, ⟨0, 0, 0, [1], []⟩, ⟨0, 0, 0, [1], []⟩, ⟨0, 0, 0, [36], []⟩, ⟨0, 0, 0, [37], []⟩, ⟨0, 0, 0, [35, 38], []⟩, ⟨1, 0, 0, [39], []⟩, ⟨3, 0, 0, [33, 34, 40], []⟩, ⟨0, 0, 0, [41], []⟩, ⟨0, 0, 0, [27], []⟩, ⟨0, 0, 0, [27], []⟩, ⟨2, 0, 0, [], []⟩, ⟨3, 0, 0, [10, 42], [17]⟩, ⟨0, 0, 0, [43], []⟩] (.node 1 [⟨1, 0, 0, [3], []⟩, ⟨0, 0, 0, [1], []⟩, ⟨0, 0, 0, [1], []⟩, ⟨0, 0, 0, [17], []⟩, ⟨0, 0, 0, [18], []⟩, ⟨1, 0, 0, [16, 19], []⟩, ⟨0, 0, 0, [5], []⟩, ⟨1, 0, 0, [21], []⟩, ⟨3, 0, 0, [15, 20, 22], []⟩, ⟨0, 0, 0, [23], []⟩, ⟨0, 0, 0, [14], []⟩, ⟨0, 0, 0, [14], []⟩, ⟨0, 0, 0, [14], []⟩, ⟨2, 0, 0, [], []⟩, ⟨3, 0, 0, [7, 24], [13]⟩, ⟨0, 0, 0, [25], []⟩, ⟨0, 0, 0, [26], []⟩] .leaf .leaf) .leaf)
def dr183 : Tr (List HOp) := (.node 7 [⟨1, 0, 1, [8], []⟩, ⟨0, 0, 0, [2], []⟩, ⟨0, 0, 0, [9], []⟩, ⟨0, 0, 0, [11], []⟩, ⟨3, 0, 0, [49], []⟩, ⟨3, 0, 0, [46, 47, 48, 50], []⟩, ⟨0, 0, 0, [51], []⟩, ⟨0, 0, 0, [45], []⟩, ⟨0, 0, 0, [45], []⟩, ⟨2, 0, 0, [], []⟩, ⟨3, 0, 0, [12, 52], [9]⟩, ⟨0, 0, 0, [53], []⟩] (.node 1 [⟨1, 0, 0, [3], []⟩, ⟨0, 0, 0, [1], []⟩, ⟨0, 0, 0, [1], []⟩, ⟨0, 0, 0, [17], []⟩, ⟨0, 0, 0, [18], []⟩, ⟨1, 0, 0, [16, 19], []⟩, ⟨0, 0, 0, [2], []⟩, ⟨3, 0, 0, [15, 20, 21], []⟩, ⟨0, 0, 0, [22], []⟩, ⟨0, 0, 0, [14], []⟩, ⟨0, 0, 0, [14], []⟩, ⟨0, 0, 0, [14], []⟩, ⟨2, 0, 0, [], []⟩, ⟨3, 0, 0, [8, 23], [12]⟩, ⟨0, 0, 0, [24], []⟩, ⟨0, 0, 0, [25], []⟩] .leaf .leaf) .leaf)
def dr184 : Tr (List HOp) := .leaf
def dr185 : Tr (List HOp) := (.node 3 [⟨1, 0, 1, [2], []⟩, ⟨1, 0, 0, [2], []⟩, ⟨3, 0, 0, [10], []⟩, ⟨0, 0, 0, [1], []⟩, ⟨3, 0, 0, [9, 11, 12], []⟩, ⟨0, 0, 0, [13], []⟩] .leaf .leaf)
def dr186 : Tr (List HOp) := (.node 3 [⟨0, 0, 0, [2], []⟩, ⟨1, 0, 2, [32], []⟩, ⟨0, 0, 0, [5], []⟩, ⟨1, 0, 2, [34], []⟩, ⟨0, 0, 0, [33, 35], []⟩, ⟨1, 0, 2, [36], []⟩, ⟨1, 0, 0, [2], []⟩, ⟨0, 0, 0, [5], []⟩, ⟨1, 0, 0, [39], []⟩, ⟨3, 0, 0, [38, 40], []⟩, ⟨0, 0, 0, [1], []⟩, ⟨3, 0, 0, [42], []⟩, ⟨3, 0, 0, [37, 41, 43], []⟩, ⟨0, 0, 0, [44], []⟩, ⟨0, 0, 0, [31], []⟩, ⟨0, 0, 0, [31], []⟩, ⟨2, 0, 0, [], []⟩, ⟨3, 0, 0, [7, 45], [16]⟩, ⟨0, 0, 0, [46], []⟩] .leaf .leaf)
def dr187 : Tr (List HOp) := (.node 6 [⟨0, 0, 0, [3], []⟩, ⟨1, 0, 0, [44], []⟩, ⟨0, 0, 0, [1], []⟩, ⟨0, 0, 0, [45, 46], []⟩, ⟨1, 0, 0, [47], []⟩, ⟨0, 0, 0, [2], []⟩, ⟨0, 0, 0, [7], []⟩, ⟨1, 0, 0, [50], []⟩, ⟨0, 0, 0, [8], []⟩, ⟨0, 0, 0, [51, 52], []⟩, ⟨0, 0, 0, [53], []⟩, ⟨1, 0, 0, [54], []⟩, ⟨3, 0, 0, [48, 49, 55], []⟩, ⟨0, 0, 0, [56], []⟩, ⟨0, 0, 0, [43], []⟩, ⟨0, 0, 0, [43], []⟩, ⟨2, 0, 0, [], []⟩, ⟨3, 0, 0, [9, 57], [16]⟩, ⟨0, 0, 0, [58], []⟩] (.node 5 [⟨0, 0, 0, [7], []⟩, ⟨1, 0, 0, [23], []⟩, ⟨0, 0, 0, [8], []⟩, ⟨0, 0, 0, [24, 25], []⟩, ⟨0, 0, 0, [26], []⟩, ⟨1, 0, 0, [27], []⟩, ⟨3, 0, 0, [28], []⟩, ⟨0, 0, 0, [29], []⟩, ⟨1, 1, 1, [3, 30], []⟩, ⟨0, 0, 0, [1, 30], []⟩, ⟨0, 0, 0, [7, 30], []⟩, ⟨1, 1, 1, [33, 30], []⟩, ⟨0, 0, 0, [8, 30], []⟩, ⟨0, 0, 0, [34, 35, 30], []⟩, ⟨0, 0, 0, [36, 30], []⟩, ⟨1, 1, 1, [37, 30], []⟩, ⟨0, 0, 0, [32, 38, 30], []⟩, ⟨3, 0, 0, [31, 39, 30], []⟩, ⟨0, 0, 0, [40, 30], []⟩, ⟨0, 0, 0, [30, 41], []⟩] .leaf .leaf) .leaf)
def dr188 : Tr (List HOp) := .leaf
def dr189 : Tr (List HOp) := (.node 4 [⟨1, 0, 0, [2], []⟩, ⟨0, 0, 0, [6], []⟩, ⟨0, 0, 0, [20], []⟩, ⟨1, 0, 0, [21], []⟩, ⟨3, 0, 0, [19, 22], []⟩] .leaf .leaf)
def dr190 : Tr (List HOp) := (.node 10 [⟨1, 0, 2, [13], []⟩, ⟨0, 0, 0, [1], []⟩, ⟨0, 0, 0, [15], []⟩, ⟨0, 0, 0, [16], []⟩, ⟨0, 0, 0, [58, 59], []⟩, ⟨1, 0, 0, [60], []⟩, ⟨3, 0, 0, [57, 61], []⟩, ⟨0, 0, 0, [2], []⟩, ⟨0, 0, 0, [15], []⟩, ⟨0, 0, 0, [16], []⟩, ⟨0, 0, 0, [64, 65], []⟩, ⟨1, 0, 1, [66], []⟩, ⟨3, 0, 0, [63, 67], []⟩, ⟨3, 0, 0, [56, 62, 68], []⟩, ⟨0, 0, 0, [69], []⟩, ⟨0, 0, 0, [55], []⟩, ⟨0, 0, 0, [55], []⟩, ⟨3, 0, 0, [13, 70], []⟩, ⟨0, 0, 0, [71], []⟩] (.node 2 [⟨1, 0, 0, [3], []⟩, ⟨0, 0, 0, [8], []⟩, ⟨0, 0, 0, [26], []⟩, ⟨1, 0, 0, [27], []⟩, ⟨3, 0, 0, [25, 28], []⟩, ⟨0, 0, 0, [29], []⟩, ⟨0, 0, 0, [24], []⟩, ⟨0, 0, 0, [24], []⟩, ⟨2, 0, 0, [], []⟩, ⟨0, 0, 0, [30], []⟩, ⟨3, 0, 0, [12, 31], [8]⟩] .leaf .leaf) .leaf)
def dr191 : Tr (List HOp) := (.node 21 [⟨1, 0, 0, [16], []⟩, ⟨1, 0, 1, [10], []⟩, ⟨3, 0, 0, [4, 122], []⟩, ⟨3, 0, 0, [5, 123], []⟩, ⟨0, 0, 0, [], []⟩] (.node 15 [⟨1, 0, 1, [2], []⟩, ⟨0, 0, 0, [1], []⟩, ⟨0, 0, 0, [2], []⟩, ⟨1, 0, 0, [90], []⟩, ⟨0, 0, 0, [10], []⟩, ⟨1, 0, 0, [92], []⟩, ⟨3, 0, 0, [91, 93], []⟩, ⟨1, 0, 1, [12], []⟩, ⟨0, 0, 0, [11], []⟩, ⟨3, 0, 0, [88, 89, 94, 95, 96], []⟩, ⟨0, 0, 0, [97], []⟩, ⟨0, 0, 0, [97], []⟩, ⟨0, 0, 0, [97], []⟩, ⟨3, 0, 0, [4, 98], []⟩, ⟨3, 0, 0, [5, 99], []⟩, ⟨0, 0, 0, [100], []⟩] (.node 11 [⟨1, 0, 0, [2], []⟩, ⟨1, 0, 1, [13], []⟩, ⟨3, 0, 0, [4, 70], []⟩, ⟨3, 0, 0, [5, 71], []⟩, ⟨0, 0, 0, [], []⟩] .leaf .leaf) .leaf) (.node 31 [⟨1, 0, 0, [26], []⟩, ⟨1, 0, 1, [27], []⟩, ⟨3, 0, 0, [4, 181], []⟩, ⟨3, 0, 0, [5, 182], []⟩, ⟨0, 0, 0, [], []⟩] .leaf .leaf))
def dr192 : Tr (List HOp) := .leaf
def dr193 : Tr (List HOp) := .leaf
def dr194 : Tr (List HOp) := .leaf
def dr195 : Tr (List HOp) := .leaf
def dr196 : Tr (List HOp) := .leaf
def dr197 : Tr (List HOp) := .leaf
def dr198 : Tr (List HOp) := .leaf
def dr199 : Tr (List HOp) := .leaf
def dr200 : Tr (List HOp) := (.node 2 [⟨1, 0, 1, [3], []⟩, ⟨1, 0, 0, [7], []⟩, ⟨0, 0, 0, [2], []⟩, ⟨3, 0, 0, [16, 17], []⟩, ⟨3, 0, 0, [15, 18], []⟩, ⟨3, 0, 0, [6, 19], []⟩] .leaf .leaf)
def dr201 : Tr (List HOp) := .leaf
def dr202 : Tr (List HOp) := (.node 2 [⟨1, 0, 1, [4], []⟩, ⟨1, 0, 0, [9], []⟩, ⟨0, 0, 0, [2], []⟩, ⟨0, 0, 0, [3], []⟩, ⟨3, 0, 0, [18, 19, 20], []⟩, ⟨3, 0, 0, [17, 21], []⟩, ⟨3, 0, 0, [8, 22], []⟩] .leaf .leaf)
def dr203 : Tr (List HOp) := (.node 5 [⟨0, 0, 0, [2], []⟩, ⟨1, 0, 0, [14], []⟩, ⟨0, 0, 0, [6], []⟩, ⟨0, 0, 0, [15, 16], []⟩, ⟨0, 0, 0, [17], []⟩, ⟨1, 0, 0, [18], []⟩, ⟨1, 0, 0, [3], []⟩, ⟨0, 0, 0, [19, 20], []⟩] .leaf .leaf)
def dr204 : Tr (List HOp) := (.node 6 [⟨2, 0, 0, [], []⟩, ⟨0, 0, 0, [0], []⟩, ⟨0, 0, 0, [5], []⟩, ⟨1, 0, 0, [34, 35], []⟩, ⟨3, 0, 0, [33, 36], [0]⟩, ⟨0, 0, 0, [1], []⟩, ⟨2, 0, 0, [38], []⟩, ⟨3, 0, 0, [37, 39], [6]⟩, ⟨0, 0, 0, [0], []⟩, ⟨0, 0, 0, [5], []⟩, ⟨1, 0, 2, [41, 42], []⟩, ⟨3, 0, 0, [40, 43], []⟩, ⟨0, 0, 0, [44], []⟩] .leaf .leaf)
def dr205 : Tr (List HOp) := .leaf
def dr206 : Tr (List HOp) := (.node 6 [⟨1, 0, 0, [2], []⟩, ⟨0, 0, 0, [4], []⟩, ⟨0, 0, 0, [28], []⟩, ⟨1, 0, 0, [29], []⟩, ⟨3, 0, 0, [27, 30], []⟩, ⟨0, 0, 0, [31], []⟩, ⟨0, 0, 0, [32], []⟩] (.node 3 [⟨1, 0, 0, [2], []⟩, ⟨0, 0, 0, [1], []⟩, ⟨0, 0, 0, [1], []⟩, ⟨0, 0, 0, [14], []⟩, ⟨0, 0, 0, [15], []⟩, ⟨1, 0, 0, [13, 16], []⟩, ⟨3, 0, 0, [12, 17], []⟩, ⟨0, 0, 0, [18], []⟩, ⟨0, 0, 0, [11], []⟩, ⟨0, 0, 0, [11], []⟩, ⟨0, 0, 0, [11], []⟩, ⟨0, 0, 0, [19], []⟩, ⟨0, 0, 0, [20], []⟩, ⟨0, 0, 0, [21], []⟩] .leaf .leaf) (.node 8 [⟨0, 0, 0, [4], []⟩, ⟨0, 0, 0, [5], []⟩, ⟨0, 0, 0, [1], []⟩, ⟨0, 0, 0, [1], []⟩, ⟨0, 0, 0, [36], []⟩, ⟨0, 0, 0, [37], []⟩, ⟨0, 0, 0, [35, 38], []⟩, ⟨1, 0, 0, [39], []⟩, ⟨0, 0, 0, [33], []⟩, ⟨0, 0, 0, [34], []⟩, ⟨0, 0, 0, [40], []⟩, ⟨0, 0, 0, [], []⟩] .leaf .leaf))
def dr207 : Tr (List HOp) := .leaf
def dr208 : Tr (List HOp) := (.node 4 [⟨1, 0, 1, [3], []⟩, ⟨1, 0, 1, [8], []⟩, ⟨0, 0, 0, [2], []⟩, ⟨3, 0, 0, [17], []⟩, ⟨3, 0, 0, [15, 16, 18], []⟩] .leaf .leaf)
def dr209 : Tr (List HOp) := (.node 6 [⟨1, 0, 0, [4], []⟩, ⟨1, 0, 0, [11], []⟩, ⟨3, 0, 0, [32, 33], []⟩, ⟨1, 0, 1, [10], []⟩, ⟨0, 0, 0, [2], []⟩, ⟨0, 0, 0, [3], []⟩, ⟨3, 0, 0, [35, 36, 37], []⟩, ⟨3, 0, 0, [34, 38], []⟩, ⟨3, 0, 0, [8, 39], []⟩, ⟨0, 0, 0, [], []⟩] (.node 1 [⟨1, 0, 0, [4], []⟩, ⟨0, 0, 0, [1], []⟩, ⟨3, 0, 0, [14, 15], []⟩, ⟨1, 0, 1, [4], []⟩, ⟨0, 0, 0, [3], []⟩, ⟨3, 0, 0, [17, 18], []⟩, ⟨2, 0, 0, [], []⟩, ⟨2, 0, 0, [], []⟩, ⟨3, 0, 0, [10, 16], [6, 7]⟩, ⟨3, 0, 0, [11, 19], []⟩] .leaf .leaf) .leaf)
def dr210 : Tr (List HOp) := .leaf
def dr215 : Tr (List HOp) := .leaf
def dr216 : Tr (List HOp) := (.node 5 [⟨0, 0, 0, [1], []⟩, ⟨1, 0, 1, [17], []⟩, ⟨0, 0, 0, [3], []⟩, ⟨1, 0, 0, [4], []⟩, ⟨3, 0, 0, [20], []⟩, ⟨0, 0, 0, [18, 19], []⟩, ⟨3, 0, 0, [22, 21], []⟩] .leaf .leaf)
def dr217 : Tr (List HOp) := .leaf
def dr221 : Tr (List HOp) := .leaf
def dr224 : Tr (List HOp) := .leaf
def dr225 : Tr (List HOp) := (.node 7 [⟨0, 0, 0, [4], []⟩, ⟨1, 0, 0, [26], []⟩, ⟨0, 0, 0, [27], []⟩, ⟨0, 0, 0, [28], []⟩, ⟨0, 0, 0, [4, 29], []⟩, ⟨1, 0, 0, [30, 29], []⟩, ⟨0, 0, 0, [31, 29], []⟩, ⟨0, 0, 0, [29, 32], []⟩, ⟨0, 0, 0, [33], []⟩, ⟨0, 0, 0, [4, 34], []⟩, ⟨1, 0, 0, [35, 34], []⟩, ⟨0, 0, 0, [36, 34], []⟩, ⟨0, 0, 0, [1, 34], []⟩, ⟨1, 0, 0, [38, 34], []⟩, ⟨0, 0, 0, [37, 39, 34], []⟩, ⟨0, 0, 0, [34, 40], []⟩, ⟨0, 0, 0, [41], []⟩, ⟨0, 0, 0, [4, 42], []⟩, ⟨1, 0, 0, [43, 42], []⟩, ⟨0, 0, 0, [44, 42], []⟩, ⟨0, 0, 0, [45, 42], []⟩, ⟨0, 0, 0, [42, 46], []⟩, ⟨0, 0, 0, [47], []⟩, ⟨0, 0, 0, [3, 48], []⟩, ⟨0, 0, 0, [49, 48], []⟩, ⟨0, 0, 0, [50, 48], []⟩, ⟨0, 0, 0, [4, 51], []⟩, ⟨1, 0, 0, [52, 51], []⟩, ⟨0, 0, 0, [1, 51], []⟩, ⟨1, 0, 0, [54, 51], []⟩, ⟨0, 0, 0, [3, 51], []⟩, ⟨0, 0, 0, [56, 51], []⟩, ⟨0, 0, 0, [55, 57, 51], []⟩, ⟨0, 0, 0, [58, 51], []⟩, ⟨1, 0, 0, [59, 51], []⟩, ⟨0, 0, 0, [53, 60, 51], []⟩, ⟨0, 0, 0, [51, 61, 48], []⟩, ⟨0, 0, 0, [48, 62], []⟩] .leaf .leaf)
def dr226 : Tr (List HOp) := .leaf
def dr227 : Tr (List HOp) := .leaf
def dr228 : Tr (List HOp) := (.node 6 [⟨0, 0, 0, [3], []⟩, ⟨0, 0, 0, [0], []⟩, ⟨0, 0, 0, [4], []⟩, ⟨0, 0, 0, [22, 23], []⟩, ⟨0, 0, 0, [24], []⟩, ⟨0, 0, 0, [25], []⟩, ⟨1, 0, 0, [26], []⟩, ⟨3, 0, 0, [27], []⟩, ⟨3, 0, 0, [21, 28], []⟩, ⟨0, 0, 0, [0], []⟩, ⟨0, 0, 0, [4], []⟩, ⟨0, 0, 0, [30, 31], []⟩, ⟨0, 0, 0, [32], []⟩, ⟨1, 0, 2, [33], []⟩, ⟨3, 0, 0, [34], []⟩, ⟨3, 0, 0, [29, 35], []⟩, ⟨0, 0, 0, [36], []⟩] .leaf .leaf)
def dr229 : Tr (List HOp) := (.node 5 [⟨2, 0, 0, [], []⟩, ⟨0, 0, 0, [3], []⟩, ⟨1, 0, 0, [30], []⟩, ⟨0, 0, 0, [7], []⟩, ⟨1, 0, 0, [31, 32], []⟩, ⟨3, 0, 0, [29, 33], [0]⟩, ⟨1, 0, 1, [5], []⟩, ⟨0, 0, 0, [1], []⟩, ⟨0, 0, 0, [35, 36], []⟩, ⟨2, 0, 0, [37], []⟩, ⟨3, 0, 0, [34, 38], [9]⟩, ⟨0, 0, 0, [39], []⟩] .leaf .leaf)
def dr230 : Tr (List HOp) := .leaf
def dr231 : Tr (List HOp) := .leaf
def dr232 : Tr (List HOp) := (.node 7 [⟨0, 0, 0, [3], []⟩, ⟨1, 0, 1, [24], []⟩, ⟨1, 0, 0, [3], []⟩, ⟨0, 0, 0, [8], []⟩, ⟨3, 0, 0, [26, 27], []⟩, ⟨0, 0, 0, [25, 28], []⟩, ⟨0, 0, 0, [29], []⟩, ⟨1, 1, 1, [30], []⟩, ⟨0, 0, 0, [1], []⟩, ⟨0, 0, 0, [7], []⟩, ⟨0, 0, 0, [32, 33], []⟩, ⟨0, 0, 0, [34], []⟩, ⟨0, 0, 0, [2], []⟩, ⟨0, 0, 0, [7], []⟩, ⟨0, 0, 0, [36, 37], []⟩, ⟨1, 0, 1, [38], []⟩, ⟨0, 0, 0, [31, 35], []⟩, ⟨3, 0, 0, [40, 39], []⟩] .leaf .leaf)
def dr233 : Tr (List HOp) := .leaf
def dr234 : Tr (List HOp) := (.node 10 [⟨0, 0, 0, [3], []⟩, ⟨1, 0, 0, [49], []⟩, ⟨0, 0, 0, [9], []⟩, ⟨0, 0, 0, [50, 51], []⟩, ⟨0, 0, 0, [52], []⟩, ⟨1, 0, 0, [53], []⟩, ⟨0, 0, 0, [7], []⟩, ⟨1, 0, 0, [55], []⟩, ⟨0, 0, 0, [54, 56], []⟩, ⟨0, 0, 0, [57], []⟩, ⟨0, 0, 0, [11, 58], []⟩, ⟨1, 0, 0, [59, 58], []⟩, ⟨0, 0, 0, [2, 58], []⟩, ⟨0, 0, 0, [60, 61, 58], []⟩, ⟨0, 0, 0, [58, 62], []⟩] .leaf .leaf)
def dr235 : Tr (List HOp) := (.node 6 [⟨0, 0, 0, [0], []⟩, ⟨0, 0, 0, [5], []⟩, ⟨0, 0, 0, [17, 18], []⟩, ⟨1, 0, 0, [19], []⟩, ⟨0, 0, 0, [1], []⟩, ⟨0, 0, 0, [5], []⟩, ⟨0, 0, 0, [21, 22], []⟩, ⟨1, 0, 0, [23], []⟩, ⟨0, 0, 0, [20, 24], []⟩] .leaf .leaf)
def dr236 : Tr (List HOp) := .leaf
def dr237 : Tr (List HOp) := .leaf
def dr238 : Tr (List HOp) := .leaf
def dr239 : Tr (List HOp) := .leaf
def dr240 : Tr (List HOp) := .leaf
def dr241 : Tr (List HOp) := .leaf
def dr242 : Tr (List HOp) := .leaf
def dr243 : Tr (List HOp) := (.node 1 [⟨1, 0, 1, [3], []⟩, ⟨0, 0, 0, [1], []⟩, ⟨0, 0, 0, [2], []⟩, ⟨3, 0, 0, [9], []⟩, ⟨3, 0, 0, [7, 8, 10], []⟩, ⟨0, 0, 0, [11], []⟩] .leaf .leaf)
def dr244 : Tr (List HOp) := (.node 4 [⟨1, 0, 0, [2], []⟩, ⟨0, 0, 0, [8], []⟩, ⟨0, 0, 0, [26], []⟩, ⟨1, 0, 0, [27], []⟩, ⟨3, 0, 0, [25, 28], []⟩, ⟨0, 0, 0, [29], []⟩] (.node 1 [⟨1, 0, 0, [2], []⟩, ⟨0, 0, 0, [1], []⟩, ⟨0, 0, 0, [1], []⟩, ⟨0, 0, 0, [14], []⟩, ⟨0, 0, 0, [15], []⟩, ⟨1, 0, 0, [13, 16], []⟩, ⟨3, 0, 0, [12, 17], []⟩, ⟨0, 0, 0, [18], []⟩, ⟨0, 0, 0, [11], []⟩, ⟨0, 0, 0, [11], []⟩, ⟨0, 0, 0, [11], []⟩, ⟨0, 0, 0, [19], []⟩, ⟨0, 0, 0, [20], []⟩, ⟨0, 0, 0, [21], []⟩] .leaf .leaf) (.node 6 [⟨0, 0, 0, [8], []⟩, ⟨0, 0, 0, [9], []⟩, ⟨0, 0, 0, [1], []⟩, ⟨0, 0, 0, [1], []⟩, ⟨0, 0, 0, [34], []⟩, ⟨0, 0, 0, [35], []⟩, ⟨0, 0, 0, [33, 36], []⟩, ⟨1, 0, 0, [37], []⟩, ⟨0, 0, 0, [31], []⟩, ⟨0, 0, 0, [32], []⟩, ⟨0, 0, 0, [38], []⟩, ⟨0, 0, 0, [], []⟩] .leaf .leaf))
def dr245 : Tr (List HOp) := (.node 8 [⟨0, 0, 0, [0], []⟩, ⟨0, 0, 0, [7], []⟩, ⟨0, 0, 0, [20, 21], []⟩, ⟨0, 0, 0, [22], []⟩, ⟨1, 0, 0, [23], []⟩, ⟨0, 0, 0, [1], []⟩, ⟨0, 0, 0, [6], []⟩, ⟨0, 0, 0, [25, 26], []⟩, ⟨1, 0, 0, [27], []⟩, ⟨0, 0, 0, [24, 28], []⟩] .leaf .leaf)
def dr246 : Tr (List HOp) := (.node 5 [⟨1, 0, 0, [2], []⟩, ⟨0, 0, 0, [1], []⟩, ⟨0, 0, 0, [6], []⟩, ⟨0, 0, 0, [17, 18], []⟩, ⟨1, 0, 0, [19], []⟩, ⟨3, 0, 0, [16, 20], []⟩, ⟨1, 0, 1, [2], []⟩, ⟨0, 0, 0, [5], []⟩, ⟨3, 0, 0, [22, 23], []⟩, ⟨0, 0, 0, [21, 24], []⟩] .leaf .leaf)
def dr247 : Tr (List HOp) := (.node 4 [⟨1, 0, 0, [3], []⟩, ⟨0, 0, 0, [1], []⟩, ⟨0, 0, 0, [7], []⟩, ⟨0, 0, 0, [15, 16], []⟩, ⟨1, 0, 0, [17], []⟩, ⟨0, 0, 0, [2], []⟩, ⟨3, 0, 0, [14, 18, 19], []⟩] .leaf .leaf)
def dr248 : Tr (List HOp) := (.node 8 [⟨0, 0, 0, [8], []⟩, ⟨1, 0, 1, [45], []⟩, ⟨0, 0, 0, [4], []⟩, ⟨1, 0, 1, [47], []⟩, ⟨0, 0, 0, [46, 48], []⟩, ⟨1, 0, 1, [49], []⟩, ⟨0, 0, 0, [9], []⟩, ⟨0, 0, 0, [2], []⟩, ⟨3, 0, 0, [52], []⟩, ⟨0, 0, 0, [4], []⟩, ⟨1, 0, 1, [54], []⟩, ⟨3, 0, 0, [50, 51, 53, 55], []⟩, ⟨0, 0, 0, [56], []⟩, ⟨0, 0, 0, [44], []⟩, ⟨0, 0, 0, [44], []⟩, ⟨2, 0, 0, [], []⟩, ⟨3, 0, 0, [13, 57], [15]⟩, ⟨0, 0, 0, [58], []⟩] .leaf .leaf)
def dr249 : Tr (List HOp) := (.node 8 [⟨1, 0, 0, [3], []⟩, ⟨0, 0, 0, [1], []⟩, ⟨0, 0, 0, [8], []⟩, ⟨0, 0, 0, [9], []⟩, ⟨0, 0, 0, [30, 31], []⟩, ⟨1, 0, 0, [32], []⟩, ⟨3, 0, 0, [28, 29, 33], []⟩, ⟨0, 0, 0, [34], []⟩] (.node 1 [⟨1, 0, 0, [3], []⟩, ⟨0, 0, 0, [1], []⟩, ⟨0, 0, 0, [14], []⟩, ⟨1, 0, 0, [15], []⟩, ⟨3, 0, 0, [13, 16], []⟩, ⟨0, 0, 0, [17], []⟩] .leaf .leaf) (.node 9 [⟨1, 0, 0, [3], []⟩, ⟨0, 0, 0, [10], []⟩, ⟨0, 0, 0, [37], []⟩, ⟨1, 0, 0, [38], []⟩, ⟨3, 0, 0, [36, 39], []⟩, ⟨0, 0, 0, [40], []⟩, ⟨0, 0, 0, [35], []⟩, ⟨0, 0, 0, [35], []⟩, ⟨2, 0, 0, [], []⟩, ⟨0, 0, 0, [41], []⟩, ⟨3, 0, 0, [12, 42], [8]⟩] .leaf .leaf))
def dr250 : Tr (List HOp) := .leaf
def dr251 : Tr (List HOp) := .leaf
def dr252 : Tr (List HOp) := .leaf
def dr253 : Tr (List HOp) := .leaf
def dr254 : Tr (List HOp) := (.node 7 [⟨1, 0, 0, [13], []⟩, ⟨1, 0, 1, [16], []⟩, ⟨3, 0, 0, [10, 45], []⟩, ⟨3, 0, 0, [11, 46], []⟩, ⟨0, 0, 0, [], []⟩] .leaf .leaf)
def dr255 : Tr (List HOp) := (.node 8 [⟨1, 0, 1, [3], []⟩, ⟨0, 0, 0, [4], []⟩, ⟨1, 0, 1, [55], []⟩, ⟨1, 0, 0, [8], []⟩, ⟨1, 0, 0, [9], []⟩, ⟨3, 0, 0, [57, 58], []⟩, ⟨3, 0, 0, [54, 56, 59], []⟩, ⟨3, 0, 0, [6, 60], []⟩, ⟨0, 0, 0, [], []⟩] (.node 7 [⟨1, 0, 0, [13], []⟩, ⟨0, 0, 0, [5], []⟩, ⟨1, 0, 1, [50], []⟩, ⟨0, 0, 0, [9], []⟩, ⟨3, 0, 0, [52, 49], []⟩, ⟨0, 0, 0, [9], []⟩, ⟨3, 0, 0, [53, 51], []⟩] .leaf .leaf) .leaf)
def dr256 : Tr (List HOp) := (.node 2 [⟨0, 0, 0, [10], []⟩, ⟨0, 0, 0, [1], []⟩, ⟨0, 0, 0, [1], []⟩, ⟨0, 0, 0, [26], []⟩, ⟨0, 0, 0, [27], []⟩, ⟨0, 0, 0, [25, 28], []⟩, ⟨1, 0, 0, [29], []⟩, ⟨0, 0, 0, [11], []⟩, ⟨0, 0, 0, [24], []⟩, ⟨0, 0, 0, [30], []⟩, ⟨0, 0, 0, [31], []⟩] (.node 1 [⟨1, 0, 0, [3], []⟩, ⟨0, 0, 0, [1], []⟩, ⟨0, 0, 0, [1], []⟩, ⟨0, 0, 0, [15], []⟩, ⟨0, 0, 0, [16], []⟩, ⟨1, 0, 0, [14, 17], []⟩, ⟨0, 0, 0, [2], []⟩, ⟨3, 0, 0, [13, 18, 19], []⟩, ⟨0, 0, 0, [20], []⟩, ⟨0, 0, 0, [12], []⟩, ⟨0, 0, 0, [12], []⟩, ⟨0, 0, 0, [12], []⟩, ⟨2, 0, 0, [], []⟩, ⟨3, 0, 0, [9, 21], [12]⟩, ⟨0, 0, 0, [22], []⟩, ⟨0, 0, 0, [23], []⟩] .leaf .leaf) .leaf)
def dr257 : Tr (List HOp) := (.node 6 [⟨0, 0, 0, [19], []⟩, ⟨1, 0, 0, [45], []⟩, ⟨1, 0, 0, [18], []⟩, ⟨0, 0, 0, [5], []⟩, ⟨3, 0, 0, [46, 47, 48], []⟩, ⟨0, 0, 0, [5], []⟩, ⟨1, 0, 1, [18], []⟩, ⟨3, 0, 0, [49, 50, 51], []⟩, ⟨0, 0, 0, [19], []⟩, ⟨3, 0, 0, [53, 52], []⟩] (.node 1 [⟨0, 0, 0, [6], []⟩, ⟨1, 0, 0, [21], []⟩, ⟨0, 0, 0, [1], []⟩, ⟨0, 0, 0, [22, 23], []⟩, ⟨1, 0, 0, [24], []⟩, ⟨0, 0, 0, [2], []⟩, ⟨0, 0, 0, [3], []⟩, ⟨1, 0, 0, [10], []⟩, ⟨3, 0, 0, [25, 26, 27, 28], []⟩, ⟨0, 0, 0, [29], []⟩, ⟨0, 0, 0, [20], []⟩, ⟨0, 0, 0, [20], []⟩, ⟨0, 0, 0, [20], []⟩, ⟨2, 0, 0, [], []⟩, ⟨3, 0, 0, [15, 30], [13]⟩, ⟨0, 0, 0, [31], []⟩, ⟨0, 0, 0, [32], []⟩] .leaf .leaf) (.node 7 [⟨1, 0, 0, [19], []⟩, ⟨1, 0, 1, [18], []⟩, ⟨3, 0, 0, [12, 54], []⟩, ⟨3, 0, 0, [13, 55], []⟩, ⟨0, 0, 0, [], []⟩] .leaf .leaf))
def dr258 : Tr (List HOp) := .leaf
def dr259 : Tr (List HOp) := (.node 5 [⟨0, 0, 0, [0], []⟩, ⟨0, 0, 0, [1], []⟩, ⟨1, 0, 0, [20, 21], []⟩, ⟨0, 0, 0, [0], []⟩, ⟨0, 0, 0, [2], []⟩, ⟨1, 0, 0, [23, 24], []⟩, ⟨3, 0, 0, [22, 25], []⟩, ⟨0, 0, 0, [26], []⟩] .leaf .leaf)
def dr260 : Tr (List HOp) := (.node 5 [⟨0, 0, 0, [0], []⟩, ⟨0, 0, 0, [1], []⟩, ⟨1, 0, 0, [20, 21], []⟩, ⟨0, 0, 0, [0], []⟩, ⟨0, 0, 0, [2], []⟩, ⟨1, 0, 0, [23, 24], []⟩, ⟨3, 0, 0, [22, 25], []⟩, ⟨0, 0, 0, [26], []⟩] .leaf .leaf)
def dr261 : Tr (List HOp) := .leaf
def dr265 : Tr (List HOp) := .leaf
def dr266 : Tr (List HOp) := .leaf
def dr267 : Tr (List HOp) := .leaf
def dr268 : Tr (List HOp) := (.node 5 [⟨0, 0, 0, [1], []⟩, ⟨1, 0, 1, [14], []⟩, ⟨0, 0, 0, [3], []⟩, ⟨0, 0, 0, [1], []⟩, ⟨1, 0, 0, [17], []⟩, ⟨0, 0, 0, [3], []⟩, ⟨0, 0, 0, [18, 19], []⟩, ⟨0, 0, 0, [20], []⟩, ⟨1, 0, 0, [21], []⟩, ⟨3, 0, 0, [22], []⟩, ⟨0, 0, 0, [15, 16], []⟩, ⟨0, 0, 0, [24], []⟩, ⟨3, 0, 0, [25, 23], []⟩] .leaf .leaf)
def dr269 : Tr (List HOp) := .leaf
def dr274 : Tr (List HOp) := .leaf
def dr275 : Tr (List HOp) := .leaf
def dr276 : Tr (List HOp) := .leaf
def dr277 : Tr (List HOp) := .leaf
def dr279 : Tr (List HOp) := .leaf
def dr280 : Tr (List HOp) := .leaf
def dr281 : Tr (List HOp) := .leaf
def dr282 : Tr (List HOp) := .leaf
def dr283 : Tr (List HOp) := .leaf
def dr284 : Tr (List HOp) := .leaf
def dr287 : Tr (List HOp) := .leaf
def dr288 : Tr (List HOp) := .leaf
def dr293 : Tr (List HOp) := .leaf
noncomputable def hTree : Tr Hint := (.node 148 ⟨72058143810533151, dr148.get⟩ (.node 81 ⟨21267810201778898048460472582924664783, dr81.get⟩ (.node 41 ⟨335, dr41.get⟩ (.node 22 ⟨576497036187140159, dr22.get⟩ (.node 14 ⟨524429, dr14.get⟩ (.node 8 ⟨567, dr8.get⟩ (.node 6 ⟨1153484454627386359, dr6.get⟩ (.node 4 ⟨151115727469420833012935, dr4.get⟩ .leaf .leaf) (.node 7 ⟨19, dr7.get⟩ .leaf .leaf)) (.node 10 ⟨4402358274039, dr10.get⟩ (.node 9 ⟨147573969084565552079, dr9.get⟩ .leaf .leaf) (.node 11 ⟨8598325119, dr11.get⟩ .leaf .leaf))) (.node 18 ⟨2256197893815615, dr18.get⟩ (.node 16 ⟨29, dr16.get⟩ (.node 15 ⟨5, dr15.get⟩ .leaf .leaf) (.node 17 ⟨281749863014399, dr17.get⟩ .leaf .leaf)) (.node 20 ⟨2099319, dr20.get⟩ (.node 19 ⟨9024791575264575, dr19.get⟩ .leaf .leaf) (.node 21 ⟨71, dr21.get⟩ .leaf .leaf)))) (.node 34 ⟨79383056208983298144258236399, dr34.get⟩ (.node 30 ⟨543, dr30.get⟩ (.node 24 ⟨18926647685195718787581, dr24.get⟩ (.node 23 ⟨1959, dr23.get⟩ .leaf .leaf) (.node 29 ⟨1152921504607961143, dr29.get⟩ .leaf .leaf)) (.node 32 ⟨137506064511, dr32.get⟩ (.node 31 ⟨1075839967, dr31.get⟩ .leaf .leaf) (.node 33 ⟨140772921868351, dr33.get⟩ .leaf .leaf))) (.node 38 ⟨543, dr38.get⟩ (.node 36 ⟨31, dr36.get⟩ (.node 35 ⟨8797174632823, dr35.get⟩ .leaf .leaf) (.node 37 ⟨2210511935, dr37.get⟩ .leaf .leaf)) (.node 40 ⟨207, dr40.get⟩ (.node 39 ⟨31, dr39.get⟩ .leaf .leaf) .leaf)))) (.node 58 ⟨36897991781406244831, dr58.get⟩ (.node 50 ⟨21948379471472412676306640600754250882431, dr50.get⟩ (.node 45 ⟨31, dr45.get⟩ (.node 43 ⟨131135, dr43.get⟩ (.node 42 ⟨2099327, dr42.get⟩ .leaf .leaf) (.node 44 ⟨2099319, dr44.get⟩ .leaf .leaf)) (.node 48 ⟨70868010239, dr48.get⟩ (.node 46 ⟨4503883095212095, dr46.get⟩ .leaf .leaf) (.node 49 ⟨7, dr49.get⟩ .leaf .leaf))) (.node 54 ⟨281475110944719, dr54.get⟩ (.node 52 ⟨18014415690005823, dr52.get⟩ (.node 51 ⟨4398046527439, dr51.get⟩ .leaf .leaf) (.node 53 ⟨207, dr53.get⟩ .leaf .leaf)) (.node 56 ⟨207, dr56.get⟩ (.node 55 ⟨18014402804972863, dr55.get⟩ .leaf .leaf) (.node 57 ⟨7, dr57.get⟩ .leaf .leaf)))) (.node 74 ⟨2099319, dr74.get⟩ (.node 70 ⟨1049039, dr70.get⟩ (.node 62 ⟨65783, dr62.get⟩ (.node 59 ⟨77380992336215981984636879, dr59.get⟩ .leaf .leaf) (.node 63 ⟨23, dr63.get⟩ .leaf .leaf)) (.node 72 ⟨5444686620382917967317114343346218730495, dr72.get⟩ (.node 71 ⟨16777487, dr71.get⟩ .leaf .leaf) (.node 73 ⟨1125899915235575, dr73.get⟩ .leaf .leaf))) (.node 78 ⟨71, dr78.get⟩ (.node 76 ⟨77371547603242546179997949, dr76.get⟩ (.node 75 ⟨137443153695, dr75.get⟩ .leaf .leaf) (.node 77 ⟨23, dr77.get⟩ .leaf .leaf)) (.node 80 ⟨37778931899241045426719, dr80.get⟩ (.node 79 ⟨4503616840795071, dr79.get⟩ .leaf .leaf) .leaf))))) (.node 112 ⟨549757915087, dr112.get⟩ (.node 97 ⟨33571891, dr97.get⟩ (.node 89 ⟨20450846824971610929518128152543, dr89.get⟩ (.node 85 ⟨2363633199632179314655, dr85.get⟩ (.node 83 ⟨18448996149541998287, dr83.get⟩ (.node 82 ⟨56677909396853046119415, dr82.get⟩ .leaf .leaf) (.node 84 ⟨7, dr84.get⟩ .leaf .leaf)) (.node 87 ⟨4398600691663, dr87.get⟩ (.node 86 ⟨295436425843771973599, dr86.get⟩ .leaf .leaf) (.node 88 ⟨332307157403782402913007396294492111, dr88.get⟩ .leaf .leaf))) (.node 93 ⟨131135, dr93.get⟩ (.node 91 ⟨335, dr91.get⟩ (.node 90 ⟨927, dr90.get⟩ .leaf .leaf) (.node 92 ⟨207, dr92.get⟩ .leaf .leaf)) (.node 95 ⟨4295226495, dr95.get⟩ (.node 94 ⟨65791, dr94.get⟩ .leaf .leaf) (.node 96 ⟨19961788446141301960980291535, dr96.get⟩ .leaf .leaf)))) (.node 105 ⟨9008299841163231, dr105.get⟩ (.node 101 ⟨10384594955019139279910607014309839, dr101.get⟩ (.node 99 ⟨2077, dr99.get⟩ (.node 98 ⟨31, dr98.get⟩ .leaf .leaf) (.node 100 ⟨613907651780253677813743, dr100.get⟩ .leaf .leaf)) (.node 103 ⟨1209516115426087400396663, dr103.get⟩ (.node 102 ⟨153476910834275837810551, dr102.get⟩ .leaf .leaf) (.node 104 ⟨4740813228051460536271, dr104.get⟩ .leaf .leaf))) (.node 109 ⟨111, dr109.get⟩ (.node 107 ⟨8796097220559, dr107.get⟩ (.node 106 ⟨79, dr106.get⟩ .leaf .leaf) (.node 108 ⟨5, dr108.get⟩ .leaf .leaf)) (.node 111 ⟨9903520315436034348499598287, dr111.get⟩ (.node 110 ⟨134223647, dr110.get⟩ .leaf .leaf) .leaf)))) (.node 128 ⟨79, dr128.get⟩ (.node 120 ⟨288230925907543799, dr120.get⟩ (.node 116 ⟨67109343, dr116.get⟩ (.node 114 ⟨111, dr114.get⟩ (.node 113 ⟨5, dr113.get⟩ .leaf .leaf) (.node 115 ⟨35184388994975, dr115.get⟩ .leaf .leaf)) (.node 118 ⟨4127, dr118.get⟩ (.node 117 ⟨134223647, dr117.get⟩ .leaf .leaf) (.node 119 ⟨67108991, dr119.get⟩ .leaf .leaf))) (.node 124 ⟨4302311199, dr124.get⟩ (.node 122 ⟨33554679, dr122.get⟩ (.node 121 ⟨67109327, dr121.get⟩ .leaf .leaf) (.node 123 ⟨19, dr123.get⟩ .leaf .leaf)) (.node 126 ⟨2147618759, dr126.get⟩ (.node 125 ⟨562950221864943, dr125.get⟩ .leaf .leaf) (.node 127 ⟨23, dr127.get⟩ .leaf .leaf)))) (.node 141 ⟨137447346423, dr141.get⟩ (.node 136 ⟨7, dr136.get⟩ (.node 133 ⟨65663, dr133.get⟩ (.node 131 ⟨1967, dr131.get⟩ .leaf .leaf) (.node 134 ⟨33015, dr134.get⟩ .leaf .leaf)) (.node 139 ⟨1087, dr139.get⟩ (.node 138 ⟨2103, dr138.get⟩ .leaf .leaf) (.node 140 ⟨2658455991569909665142811848005910719, dr140.get⟩ .leaf .leaf))) (.node 145 ⟨79, dr145.get⟩ (.node 143 ⟨183, dr143.get⟩ (.node 142 ⟨2305878211034117919, dr142.get⟩ .leaf .leaf) (.node 144 ⟨5, dr144.get⟩ .leaf .leaf)) (.node 147 ⟨269485519, dr147.get⟩ (.node 146 ⟨73795987894286958431, dr146.get⟩ .leaf .leaf) .leaf)))))) (.node 210 ⟨604275, dr210.get⟩ (.node 179 ⟨274894731039, dr179.get⟩ (.node 164 ⟨2147618775, dr164.get⟩ (.node 156 ⟨2104095, dr156.get⟩ (.node 152 ⟨140737488356063, dr152.get⟩ (.node 150 ⟨31, dr150.get⟩ (.node 149 ⟨31, dr149.get⟩ .leaf .leaf) (.node 151 ⟨36893488147427526639, dr151.get⟩ .leaf .leaf)) (.node 154 ⟨34603511, dr154.get⟩ (.node 153 ⟨8333, dr153.get⟩ .leaf .leaf) (.node 155 ⟨68736780151, dr155.get⟩ .leaf .leaf))) (.node 160 ⟨8606759999, dr160.get⟩ (.node 158 ⟨16793663, dr158.get⟩ (.node 157 ⟨19, dr157.get⟩ .leaf .leaf) (.node 159 ⟨8447, dr159.get⟩ .leaf .leaf)) (.node 162 ⟨279307124983, dr162.get⟩ (.node 161 ⟨33231, dr161.get⟩ .leaf .leaf) (.node 163 ⟨73823295363195600591, dr163.get⟩ .leaf .leaf)))) (.node 172 ⟨31, dr172.get⟩ (.node 168 ⟨262623, dr168.get⟩ (.node 166 ⟨140737555591071, dr166.get⟩ (.node 165 ⟨31, dr165.get⟩ .leaf .leaf) (.node 167 ⟨111, dr167.get⟩ .leaf .leaf)) (.node 170 ⟨95, dr170.get⟩ (.node 169 ⟨31, dr169.get⟩ .leaf .leaf) (.node 171 ⟨33571891, dr171.get⟩ .leaf .leaf))) (.node 176 ⟨2199157726527, dr176.get⟩ (.node 174 ⟨135268343, dr174.get⟩ (.node 173 ⟨9453709, dr173.get⟩ .leaf .leaf) (.node 175 ⟨289357411574615839, dr175.get⟩ .leaf .leaf)) (.node 178 ⟨17179903775, dr178.get⟩ (.node 177 ⟨131635, dr177.get⟩ .leaf .leaf) .leaf)))) (.node 195 ⟨2097399, dr195.get⟩ (.node 187 ⟨4398047560655, dr187.get⟩ (.node 183 ⟨36037593246220239, dr183.get⟩ (.node 181 ⟨538971599, dr181.get⟩ (.node 180 ⟨4294967775, dr180.get⟩ .leaf .leaf) (.node 182 ⟨144115188075865455, dr182.get⟩ .leaf .leaf)) (.node 185 ⟨279, dr185.get⟩ (.node 184 ⟨2162807, dr184.get⟩ .leaf .leaf) (.node 186 ⟨1073742071, dr186.get⟩ .leaf .leaf))) (.node 191 ⟨191562307983645440025725367533095474382626320668425975, dr191.get⟩ (.node 189 ⟨8520055, dr189.get⟩ (.node 188 ⟨16793719, dr188.get⟩ .leaf .leaf) (.node 190 ⟨9680851294395168408598991, dr190.get⟩ .leaf .leaf)) (.node 193 ⟨55, dr193.get⟩ (.node 192 ⟨1231, dr192.get⟩ .leaf .leaf) (.node 194 ⟨33015, dr194.get⟩ .leaf .leaf)))) (.node 203 ⟨2099327, dr203.get⟩ (.node 199 ⟨463, dr199.get⟩ (.node 197 ⟨21, dr197.get⟩ (.node 196 ⟨32887, dr196.get⟩ .leaf .leaf) (.node 198 ⟨262707, dr198.get⟩ .leaf .leaf)) (.node 201 ⟨2099319, dr201.get⟩ (.node 200 ⟨207, dr200.get⟩ .leaf .leaf) (.node 202 ⟨799, dr202.get⟩ .leaf .leaf))) (.node 207 ⟨66483, dr207.get⟩ (.node 205 ⟨2099319, dr205.get⟩ (.node 204 ⟨2147614771, dr204.get⟩ .leaf .leaf) (.node 206 ⟨71304439, dr206.get⟩ .leaf .leaf)) (.node 209 ⟨67120927, dr209.get⟩ (.node 208 ⟨532303, dr208.get⟩ .leaf .leaf) .leaf))))) (.node 250 ⟨183, dr250.get⟩ (.node 235 ⟨33571891, dr235.get⟩ (.node 227 ⟨5, dr227.get⟩ (.node 221 ⟨21, dr221.get⟩ (.node 216 ⟨15391, dr216.get⟩ (.node 215 ⟨55, dr215.get⟩ .leaf .leaf) (.node 217 ⟨7, dr217.get⟩ .leaf .leaf)) (.node 225 ⟨9671452673777217671798847, dr225.get⟩ (.node 224 ⟨1049655, dr224.get⟩ .leaf .leaf) (.node 226 ⟨131635, dr226.get⟩ .leaf .leaf))) (.node 231 ⟨136315343, dr231.get⟩ (.node 229 ⟨67109359, dr229.get⟩ (.node 228 ⟨285, dr228.get⟩ .leaf .leaf) (.node 230 ⟨275549028855, dr230.get⟩ .leaf .leaf)) (.node 233 ⟨32781, dr233.get⟩ (.node 232 ⟨8796093039055, dr232.get⟩ .leaf .leaf) (.node 234 ⟨83010629815263825615, dr234.get⟩ .leaf .leaf)))) (.node 243 ⟨79, dr243.get⟩ (.node 239 ⟨604275, dr239.get⟩ (.node 237 ⟨735, dr237.get⟩ (.node 236 ⟨8388863, dr236.get⟩ .leaf .leaf) (.node 238 ⟨17389, dr238.get⟩ .leaf .leaf)) (.node 241 ⟨23, dr241.get⟩ (.node 240 ⟨207, dr240.get⟩ .leaf .leaf) (.node 242 ⟨23, dr242.get⟩ .leaf .leaf))) (.node 247 ⟨1050831, dr247.get⟩ (.node 245 ⟨537004275, dr245.get⟩ (.node 244 ⟨1082132471, dr244.get⟩ .leaf .leaf) (.node 246 ⟨33562743, dr246.get⟩ .leaf .leaf)) (.node 249 ⟨35184405909455, dr249.get⟩ (.node 248 ⟨1152921538968715231, dr248.get⟩ .leaf .leaf) .leaf)))) (.node 268 ⟨7183, dr268.get⟩ (.node 258 ⟨55, dr258.get⟩ (.node 254 ⟨4295097663, dr254.get⟩ (.node 252 ⟨19, dr252.get⟩ (.node 251 ⟨2099319, dr251.get⟩ .leaf .leaf) (.node 253 ⟨134225903, dr253.get⟩ .leaf .leaf)) (.node 256 ⟨3535, dr256.get⟩ (.node 255 ⟨140737488366591, dr255.get⟩ .leaf .leaf) (.node 257 ⟨17180914815, dr257.get⟩ .leaf .leaf))) (.node 265 ⟨2147618759, dr265.get⟩ (.node 260 ⟨65735, dr260.get⟩ (.node 259 ⟨65735, dr259.get⟩ .leaf .leaf) (.node 261 ⟨5, dr261.get⟩ .leaf .leaf)) (.node 267 ⟨21, dr267.get⟩ (.node 266 ⟨23, dr266.get⟩ .leaf .leaf) .leaf))) (.node 281 ⟨1039, dr281.get⟩ (.node 276 ⟨23, dr276.get⟩ (.node 274 ⟨67110007, dr274.get⟩ (.node 269 ⟨21, dr269.get⟩ .leaf .leaf) (.node 275 ⟨23, dr275.get⟩ .leaf .leaf)) (.node 279 ⟨1231, dr279.get⟩ (.node 277 ⟨5, dr277.get⟩ .leaf .leaf) (.node 280 ⟨55, dr280.get⟩ .leaf .leaf))) (.node 287 ⟨21, dr287.get⟩ (.node 283 ⟨23, dr283.get⟩ (.node 282 ⟨2147618759, dr282.get⟩ .leaf .leaf) (.node 284 ⟨604275, dr284.get⟩ .leaf .leaf)) (.node 293 ⟨5, dr293.get⟩ (.node 288 ⟨21, dr288.get⟩ .leaf .leaf) .leaf)))))))
def oTree : Tr Bool := (.node 227 true (.node 195 true (.node 133 true (.node 123 true (.node 118 true .leaf .leaf) (.node 126 true .leaf .leaf)) (.node 164 true (.node 136 true .leaf .leaf) .leaf)) (.node 216 true (.node 207 true (.node 197 true .leaf .leaf) .leaf) (.node 221 true (.node 217 true .leaf .leaf) .leaf))) (.node 268 true (.node 260 true (.node 259 true (.node 228 true .leaf .leaf) .leaf) (.node 267 true (.node 265 true .leaf .leaf) .leaf)) (.node 282 true (.node 274 true (.node 269 true .leaf .leaf) .leaf) (.node 288 true (.node 287 true .leaf .leaf) .leaf))))
def iTree : Tr (Nat × Nat) := (.node 218 (8, 104) (.node 137 (3, 24) .leaf .leaf) (.node 278 (2, 24) .leaf .leaf))
noncomputable def E0 : Env := { T := tTree.get, G := gTree.get, hint := hTree.get, own := fun n => (oTree.get n).isSome, ins := iTree.get, orc := fun _ => none }
theorem tOk : tTree.allB (fun k i => ifb (tiB Go.Proofs.Tryz.prog k i) (impB i.eq (ifb (Nat.beq k 194) (eqAV (.agg i.zero) (.agg [.str [], .int .i64 0])) (ifb (Nat.beq k 150) (eqAV (.agg i.zero) (.agg [.int .i64 0, .int .i64 0, .int .i64 0])) (ifb (Nat.beq k 58) (eqAV (.agg i.zero) (.agg [.int .i64 0, .int .i64 0])) (false))))) false) = true := by decide +kernel
theorem tAll : tTree.All fun k i => tiB Go.Proofs.Tryz.prog k i = true ∧ (i.eq = true → EqOk Go.Proofs.Tryz.prog k i.zero) := by
  refine Tr.all_of (fun k i h => ?_) tOk
  obtain ⟨h1, h2⟩ := ifb_and h
  refine ⟨h1, fun he => ?_⟩
  have h0 := impB_mp h2 he
  rcases ifb_some2 h0 with ⟨h3, h4⟩ | h0
  · have := eqAV_true _ _ h4
    injection this with this
    rw [beq_eq_of h3, this]; exact Go.Proofs.eq194
  rcases ifb_some2 h0 with ⟨h3, h4⟩ | h0
  · have := eqAV_true _ _ h4
    injection this with this
    rw [beq_eq_of h3, this]; exact Go.Proofs.eq150
  rcases ifb_some2 h0 with ⟨h3, h4⟩ | h0
  · have := eqAV_true _ _ h4
    injection this with this
    rw [beq_eq_of h3, this]; exact Go.Proofs.eq58
  cases h0
theorem fOk4 : Go.Proofs.Tryz.prog.funcs[4]? = some Go.Proofs.Tryz.f4 ∧ Go.Proofs.Tryz.f4.name ≠ "runtime.NumGoroutine" := ⟨Go.Proofs.Tryz.func4, by decide +kernel⟩
theorem fOk6 : Go.Proofs.Tryz.prog.funcs[6]? = some Go.Proofs.Tryz.f6 ∧ Go.Proofs.Tryz.f6.name ≠ "runtime.NumGoroutine" := ⟨Go.Proofs.Tryz.func6, by decide +kernel⟩
theorem fOk7 : Go.Proofs.Tryz.prog.funcs[7]? = some Go.Proofs.Tryz.f7 ∧ Go.Proofs.Tryz.f7.name ≠ "runtime.NumGoroutine" := ⟨Go.Proofs.Tryz.func7, by decide +kernel⟩
theorem fOk8 : Go.Proofs.Tryz.prog.funcs[8]? = some Go.Proofs.Tryz.f8 ∧ Go.Proofs.Tryz.f8.name ≠ "runtime.NumGoroutine" := ⟨Go.Proofs.Tryz.func8, by decide +kernel⟩
theorem fOk9 : Go.Proofs.Tryz.prog.funcs[9]? = some Go.Proofs.Tryz.f9 ∧ Go.Proofs.Tryz.f9.name ≠ "runtime.NumGoroutine" := ⟨Go.Proofs.Tryz.func9, by decide +kernel⟩
theorem fOk10 : Go.Proofs.Tryz.prog.funcs[10]? = some Go.Proofs.Tryz.f10 ∧ Go.Proofs.Tryz.f10.name ≠ "runtime.NumGoroutine" := ⟨Go.Proofs.Tryz.func10, by decide +kernel⟩
theorem fOk11 : Go.Proofs.Tryz.prog.funcs[11]? = some Go.Proofs.Tryz.f11 ∧ Go.Proofs.Tryz.f11.name ≠ "runtime.NumGoroutine" := ⟨Go.Proofs.Tryz.func11, by decide +kernel⟩
theorem fOk14 : Go.Proofs.Tryz.prog.funcs[14]? = some Go.Proofs.Tryz.f14 ∧ Go.Proofs.Tryz.f14.name ≠ "runtime.NumGoroutine" := ⟨Go.Proofs.Tryz.func14, by decide +kernel⟩
theorem fOk15 : Go.Proofs.Tryz.prog.funcs[15]? = some Go.Proofs.Tryz.f15 ∧ Go.Proofs.Tryz.f15.name ≠ "runtime.NumGoroutine" := ⟨Go.Proofs.Tryz.func15, by decide +kernel⟩
theorem fOk16 : Go.Proofs.Tryz.prog.funcs[16]? = some Go.Proofs.Tryz.f16 ∧ Go.Proofs.Tryz.f16.name ≠ "runtime.NumGoroutine" := ⟨Go.Proofs.Tryz.func16, by decide +kernel⟩
theorem fOk17 : Go.Proofs.Tryz.prog.funcs[17]? = some Go.Proofs.Tryz.f17 ∧ Go.Proofs.Tryz.f17.name ≠ "runtime.NumGoroutine" := ⟨Go.Proofs.Tryz.func17, by decide +kernel⟩
theorem fOk18 : Go.Proofs.Tryz.prog.funcs[18]? = some Go.Proofs.Tryz.f18 ∧ Go.Proofs.Tryz.f18.name ≠ "runtime.NumGoroutine" := ⟨Go.Proofs.Tryz.func18, by decide +kernel⟩
theorem fOk19 : Go.Proofs.Tryz.prog.funcs[19]? = some Go.Proofs.Tryz.f19 ∧ Go.Proofs.Tryz.f19.name ≠ "runtime.NumGoroutine" := ⟨Go.Proofs.Tryz.func19, by decide +kernel⟩
theorem fOk20 : Go.Proofs.Tryz.prog.funcs[20]? = some Go.Proofs.Tryz.f20 ∧ Go.Proofs.Tryz.f20.name ≠ "runtime.NumGoroutine" := ⟨Go.Proofs.Tryz.func20, by decide +kernel⟩
theorem fOk21 : Go.Proofs.Tryz.prog.funcs[21]? = some Go.Proofs.Tryz.f21 ∧ Go.Proofs.Tryz.f21.name ≠ "runtime.NumGoroutine" := ⟨Go.Proofs.Tryz.func21, by decide +kernel⟩
theorem fOk22 : Go.Proofs.Tryz.prog.funcs[22]? = some Go.Proofs.Tryz.f22 ∧ Go.Proofs.Tryz.f22.name ≠ "runtime.NumGoroutine" := ⟨Go.Proofs.Tryz.func22, by decide +kernel⟩
theorem fOk23 : Go.Proofs.Tryz.prog.funcs[23]? = some Go.Proofs.Tryz.f23 ∧ Go.Proofs.Tryz.f23.name ≠ "runtime.NumGoroutine" := ⟨Go.Proofs.Tryz.func23, by decide +kernel⟩
theorem fOk24 : Go.Proofs.Tryz.prog.funcs[24]? = some Go.Proofs.Tryz.f24 ∧ Go.Proofs.Tryz.f24.name ≠ "runtime.NumGoroutine" := ⟨Go.Proofs.Tryz.func24, by decide +kernel⟩
theorem fOk29 : Go.Proofs.Tryz.prog.funcs[29]? = some Go.Proofs.Tryz.f29 ∧ Go.Proofs.Tryz.f29.name ≠ "runtime.NumGoroutine" := ⟨Go.Proofs.Tryz.func29, by decide +kernel⟩
theorem fOk30 : Go.Proofs.Tryz.prog.funcs[30]? = some Go.Proofs.Tryz.f30 ∧ Go.Proofs.Tryz.f30.name ≠ "runtime.NumGoroutine" := ⟨Go.Proofs.Tryz.func30, by decide +kernel⟩
theorem fOk31 : Go.Proofs.Tryz.prog.funcs[31]? = some Go.Proofs.Tryz.f31 ∧ Go.Proofs.Tryz.f31.name ≠ "runtime.NumGoroutine" := ⟨Go.Proofs.Tryz.func31, by decide +kernel⟩
theorem fOk32 : Go.Proofs.Tryz.prog.funcs[32]? = some Go.Proofs.Tryz.f32 ∧ Go.Proofs.Tryz.f32.name ≠ "runtime.NumGoroutine" := ⟨Go.Proofs.Tryz.func32, by decide +kernel⟩
theorem fOk33 : Go.Proofs.Tryz.prog.funcs[33]? = some Go.Proofs.Tryz.f33 ∧ Go.Proofs.Tryz.f33.name ≠ "runtime.NumGoroutine" := ⟨Go.Proofs.Tryz.func33, by decide +kernel⟩
theorem fOk34 : Go.Proofs.Tryz.prog.funcs[34]? = some Go.Proofs.Tryz.f34 ∧ Go.Proofs.Tryz.f34.name ≠ "runtime.NumGoroutine" := ⟨Go.Proofs.Tryz.func34, by decide +kernel⟩
theorem fOk35 : Go.Proofs.Tryz.prog.funcs[35]? = some Go.Proofs.Tryz.f35 ∧ Go.Proofs.Tryz.f35.name ≠ "runtime.NumGoroutine" := ⟨Go.Proofs.Tryz.func35, by decide +kernel⟩
theorem fOk36 : Go.Proofs.Tryz.prog.funcs[36]? = some Go.Proofs.Tryz.f36 ∧ Go.Proofs.Tryz.f36.name ≠ "runtime.NumGoroutine" := ⟨Go.Proofs.Tryz.func36, by decide +kernel⟩
theorem fOk37 : Go.Proofs.Tryz.prog.funcs[37]? = some Go.Proofs.Tryz.f37 ∧ Go.Proofs.Tryz.f37.name ≠ "runtime.NumGoroutine" := ⟨Go.Proofs.Tryz.func37, by decide +kernel⟩
theorem fOk38 : Go.Proofs.Tryz.prog.funcs[38]? = some Go.Proofs.Tryz.f38 ∧ Go.Proofs.Tryz.f38.name ≠ "runtime.NumGoroutine" := ⟨Go.Proofs.Tryz.func38, by decide +kernel⟩
theorem fOk39 : Go.Proofs.Tryz.prog.funcs[39]? = some Go.Proofs.Tryz.f39 ∧ Go.Proofs.Tryz.f39.name ≠ "runtime.NumGoroutine" := ⟨Go.Proofs.Tryz.func39, by decide +kernel⟩
theorem fOk40 : Go.Proofs.Tryz.prog.funcs[40]? = some Go.Proofs.Tryz.f40 ∧ Go.Proofs.Tryz.f40.name ≠ "runtime.NumGoroutine" := ⟨Go.Proofs.Tryz.func40, by decide +kernel⟩
theorem fOk41 : Go.Proofs.Tryz.prog.funcs[41]? = some Go.Proofs.Tryz.f41 ∧ Go.Proofs.Tryz.f41.name ≠ "runtime.NumGoroutine" := ⟨Go.Proofs.Tryz.func41, by decide +kernel⟩
theorem fOk42 : Go.Proofs.Tryz.prog.funcs[42]? = some Go.Proofs.Tryz.f42 ∧ Go.Proofs.Tryz.f42.name ≠ "runtime.NumGoroutine" := ⟨Go.Proofs.Tryz.func42, by decide +kernel⟩
theorem fOk43 : Go.Proofs.Tryz.prog.funcs[43]? = some Go.Proofs.Tryz.f43 ∧ Go.Proofs.Tryz.f43.name ≠ "runtime.NumGoroutine" := ⟨Go.Proofs.Tryz.func43, by decide +kernel⟩
theorem fOk44 : Go.Proofs.Tryz.prog.funcs[44]? = some Go.Proofs.Tryz.f44 ∧ Go.Proofs.Tryz.f44.name ≠ "runtime.NumGoroutine" := ⟨Go.Proofs.Tryz.func44, by decide +kernel⟩
theorem fOk45 : Go.Proofs.Tryz.prog.funcs[45]? = some Go.Proofs.Tryz.f45 ∧ Go.Proofs.Tryz.f45.name ≠ "runtime.NumGoroutine" := ⟨Go.Proofs.Tryz.func45, by decide +kernel⟩
theorem fOk46 : Go.Proofs.Tryz.prog.funcs[46]? = some Go.Proofs.Tryz.f46 ∧ Go.Proofs.Tryz.f46.name ≠ "runtime.NumGoroutine" := ⟨Go.Proofs.Tryz.func46, by decide +kernel⟩
theorem fOk48 : Go.Proofs.Tryz.prog.funcs[48]? = some Go.Proofs.Tryz.f48 ∧ Go.Proofs.Tryz.f48.name ≠ "runtime.NumGoroutine" := ⟨Go.Proofs.Tryz.func48, by decide +kernel⟩
theorem fOk49 : Go.Proofs.Tryz.prog.funcs[49]? = some Go.Proofs.Tryz.f49 ∧ Go.Proofs.Tryz.f49.name ≠ "runtime.NumGoroutine" := ⟨Go.Proofs.Tryz.func49, by decide +kernel⟩
theorem fOk50 : Go.Proofs.Tryz.prog.funcs[50]? = some Go.Proofs.Tryz.f50 ∧ Go.Proofs.Tryz.f50.name ≠ "runtime.NumGoroutine" := ⟨Go.Proofs.Tryz.func50, by decide +kernel⟩
theorem fOk51 : Go.Proofs.Tryz.prog.funcs[51]? = some Go.Proofs.Tryz.f51 ∧ Go.Proofs.Tryz.f51.name ≠ "runtime.NumGoroutine" := ⟨Go.Proofs.Tryz.func51, by decide +kernel⟩
theorem fOk52 : Go.Proofs.Tryz.prog.funcs[52]? = some Go.Proofs.Tryz.f52 ∧ Go.Proofs.Tryz.f52.name ≠ "runtime.NumGoroutine" := ⟨Go.Proofs.Tryz.func52, by decide +kernel⟩
theorem fOk53 : Go.Proofs.Tryz.prog.funcs[53]? = some Go.Proofs.Tryz.f53 ∧ Go.Proofs.Tryz.f53.name ≠ "runtime.NumGoroutine" := ⟨Go.Proofs.Tryz.func53, by decide +kernel⟩
theorem fOk54 : Go.Proofs.Tryz.prog.funcs[54]? = some Go.Proofs.Tryz.f54 ∧ Go.Proofs.Tryz.f54.name ≠ "runtime.NumGoroutine" := ⟨Go.Proofs.Tryz.func54, by decide +kernel⟩
theorem fOk55 : Go.Proofs.Tryz.prog.funcs[55]? = some Go.Proofs.Tryz.f55 ∧ Go.Proofs.Tryz.f55.name ≠ "runtime.NumGoroutine" := ⟨Go.Proofs.Tryz.func55, by decide +kernel⟩
theorem fOk56 : Go.Proofs.Tryz.prog.funcs[56]? = some Go.Proofs.Tryz.f56 ∧ Go.Proofs.Tryz.f56.name ≠ "runtime.NumGoroutine" := ⟨Go.Proofs.Tryz.func56, by decide +kernel⟩
theorem fOk57 : Go.Proofs.Tryz.prog.funcs[57]? = some Go.Proofs.Tryz.f57 ∧ Go.Proofs.Tryz.f57.name ≠ "runtime.NumGoroutine" := ⟨Go.Proofs.Tryz.func57, by decide +kernel⟩
theorem fOk58 : Go.Proofs.Tryz.prog.funcs[58]? = some Go.Proofs.Tryz.f58 ∧ Go.Proofs.Tryz.f58.name ≠ "runtime.NumGoroutine" := ⟨Go.Proofs.Tryz.func58, by decide +kernel⟩
theorem fOk59 : Go.Proofs.Tryz.prog.funcs[59]? = some Go.Proofs.Tryz.f59 ∧ Go.Proofs.Tryz.f59.name ≠ "runtime.NumGoroutine" := ⟨Go.Proofs.Tryz.func59, by decide +kernel⟩
theorem fOk62 : Go.Proofs.Tryz.prog.funcs[62]? = some Go.Proofs.Tryz.f62 ∧ Go.Proofs.Tryz.f62.name ≠ "runtime.NumGoroutine" := ⟨Go.Proofs.Tryz.func62, by decide +kernel⟩
theorem fOk63 : Go.Proofs.Tryz.prog.funcs[63]? = some Go.Proofs.Tryz.f63 ∧ Go.Proofs.Tryz.f63.name ≠ "runtime.NumGoroutine" := ⟨Go.Proofs.Tryz.func63, by decide +kernel⟩
theorem fOk70 : Go.Proofs.Tryz.prog.funcs[70]? = some Go.Proofs.Tryz.f70 ∧ Go.Proofs.Tryz.f70.name ≠ "runtime.NumGoroutine" := ⟨Go.Proofs.Tryz.func70, by decide +kernel⟩
theorem fOk71 : Go.Proofs.Tryz.prog.funcs[71]? = some Go.Proofs.Tryz.f71 ∧ Go.Proofs.Tryz.f71.name ≠ "runtime.NumGoroutine" := ⟨Go.Proofs.Tryz.func71, by decide +kernel⟩
theorem fOk72 : Go.Proofs.Tryz.prog.funcs[72]? = some Go.Proofs.Tryz.f72 ∧ Go.Proofs.Tryz.f72.name ≠ "runtime.NumGoroutine" := ⟨Go.Proofs.Tryz.func72, by decide +kernel⟩
theorem fOk73 : Go.Proofs.Tryz.prog.funcs[73]? = some Go.Proofs.Tryz.f73 ∧ Go.Proofs.Tryz.f73.name ≠ "runtime.NumGoroutine" := ⟨Go.Proofs.Tryz.func73, by decide +kernel⟩
theorem fOk74 : Go.Proofs.Tryz.prog.funcs[74]? = some Go.Proofs.Tryz.f74 ∧ Go.Proofs.Tryz.f74.name ≠ "runtime.NumGoroutine" := ⟨Go.Proofs.Tryz.func74, by decide +kernel⟩
theorem fOk75 : Go.Proofs.Tryz.prog.funcs[75]? = some Go.Proofs.Tryz.f75 ∧ Go.Proofs.Tryz.f75.name ≠ "runtime.NumGoroutine" := ⟨Go.Proofs.Tryz.func75, by decide +kernel⟩
theorem fOk76 : Go.Proofs.Tryz.prog.funcs[76]? = some Go.Proofs.Tryz.f76 ∧ Go.Proofs.Tryz.f76.name ≠ "runtime.NumGoroutine" := ⟨Go.Proofs.Tryz.func76, by decide +kernel⟩
theorem fOk77 : Go.Proofs.Tryz.prog.funcs[77]? = some Go.Proofs.Tryz.f77 ∧ Go.Proofs.Tryz.f77.name ≠ "runtime.NumGoroutine" := ⟨Go.Proofs.Tryz.func77, by decide +kernel⟩
theorem fOk78 : Go.Proofs.Tryz.prog.funcs[78]? = some Go.Proofs.Tryz.f78 ∧ Go.Proofs.Tryz.f78.name ≠ "runtime.NumGoroutine" := ⟨Go.Proofs.Tryz.func78, by decide +kernel⟩
theorem fOk79 : Go.Proofs.Tryz.prog.funcs[79]? = some Go.Proofs.Tryz.f79 ∧ Go.Proofs.Tryz.f79.name ≠ "runtime.NumGoroutine" := ⟨Go.Proofs.Tryz.func79, by decide +kernel⟩
theorem fOk80 : Go.Proofs.Tryz.prog.funcs[80]? = some Go.Proofs.Tryz.f80 ∧ Go.Proofs.Tryz.f80.name ≠ "runtime.NumGoroutine" := ⟨Go.Proofs.Tryz.func80, by decide +kernel⟩
theorem fOk81 : Go.Proofs.Tryz.prog.funcs[81]? = some Go.Proofs.Tryz.f81 ∧ Go.Proofs.Tryz.f81.name ≠ "runtime.NumGoroutine" := ⟨Go.Proofs.Tryz.func81, by decide +kernel⟩
theorem fOk82 : Go.Proofs.Tryz.prog.funcs[82]? = some Go.Proofs.Tryz.f82 ∧ Go.Proofs.Tryz.f82.name ≠ "runtime.NumGoroutine" := ⟨Go.Proofs.Tryz.func82, by decide +kernel⟩
theorem fOk83 : Go.Proofs.Tryz.prog.funcs[83]? = some Go.Proofs.Tryz.f83 ∧ Go.Proofs.Tryz.f83.name ≠ "runtime.NumGoroutine" := ⟨Go.Proofs.Tryz.func83, by decide +kernel⟩
theorem fOk84 : Go.Proofs.Tryz.prog.funcs[84]? = some Go.Proofs.Tryz.f84 ∧ Go.Proofs.Tryz.f84.name ≠ "runtime.NumGoroutine" := ⟨Go.Proofs.Tryz.func84, by decide +kernel⟩
theorem fOk85 : Go.Proofs.Tryz.prog.funcs[85]? = some Go.Proofs.Tryz.f85 ∧ Go.Proofs.Tryz.f85.name ≠ "runtime.NumGoroutine" := ⟨Go.Proofs.Tryz.func85, by decide +kernel⟩
theorem fOk86 : Go.Proofs.Tryz.prog.funcs[86]? = some Go.Proofs.Tryz.f86 ∧ Go.Proofs.Tryz.f86.name ≠ "runtime.NumGoroutine" := ⟨Go.Proofs.Tryz.func86, by decide +kernel⟩
theorem fOk87 : Go.Proofs.Tryz.prog.funcs[87]? = some Go.Proofs.Tryz.f87 ∧ Go.Proofs.Tryz.f87.name ≠ "runtime.NumGoroutine" := ⟨Go.Proofs.Tryz.func87, by decide +kernel⟩
theorem fOk88 : Go.Proofs.Tryz.prog.funcs[88]? = some Go.Proofs.Tryz.f88 ∧ Go.Proofs.Tryz.f88.name ≠ "runtime.NumGoroutine" := ⟨Go.Proofs.Tryz.func88, by decide +kernel⟩
theorem fOk89 : Go.Proofs.Tryz.prog.funcs[89]? = some Go.Proofs.Tryz.f89 ∧ Go.Proofs.Tryz.f89.name ≠ "runtime.NumGoroutine" := ⟨Go.Proofs.Tryz.func89, by decide +kernel⟩
theorem fOk90 : Go.Proofs.Tryz.prog.funcs[90]? = some Go.Proofs.Tryz.f90 ∧ Go.Proofs.Tryz.f90.name ≠ "runtime.NumGoroutine" := ⟨Go.Proofs.Tryz.func90, by decide +kernel⟩
theorem fOk91 : Go.Proofs.Tryz.prog.funcs[91]? = some Go.Proofs.Tryz.f91 ∧ Go.Proofs.Tryz.f91.name ≠ "runtime.NumGoroutine" := ⟨Go.Proofs.Tryz.func91, by decide +kernel⟩
theorem fOk92 : Go.Proofs.Tryz.prog.funcs[92]? = some Go.Proofs.Tryz.f92 ∧ Go.Proofs.Tryz.f92.name ≠ "runtime.NumGoroutine" := ⟨Go.Proofs.Tryz.func92, by decide +kernel⟩
theorem fOk93 : Go.Proofs.Tryz.prog.funcs[93]? = some Go.Proofs.Tryz.f93 ∧ Go.Proofs.Tryz.f93.name ≠ "runtime.NumGoroutine" := ⟨Go.Proofs.Tryz.func93, by decide +kernel⟩
theorem fOk94 : Go.Proofs.Tryz.prog.funcs[94]? = some Go.Proofs.Tryz.f94 ∧ Go.Proofs.Tryz.f94.name ≠ "runtime.NumGoroutine" := ⟨Go.Proofs.Tryz.func94, by decide +kernel⟩
theorem fOk95 : Go.Proofs.Tryz.prog.funcs[95]? = some Go.Proofs.Tryz.f95 ∧ Go.Proofs.Tryz.f95.name ≠ "runtime.NumGoroutine" := ⟨Go.Proofs.Tryz.func95, by decide +kernel⟩
theorem fOk96 : Go.Proofs.Tryz.prog.funcs[96]? = some Go.Proofs.Tryz.f96 ∧ Go.Proofs.Tryz.f96.name ≠ "runtime.NumGoroutine" := ⟨Go.Proofs.Tryz.func96, by decide +kernel⟩
theorem fOk97 : Go.Proofs.Tryz.prog.funcs[97]? = some Go.Proofs.Tryz.f97 ∧ Go.Proofs.Tryz.f97.name ≠ "runtime.NumGoroutine" := ⟨Go.Proofs.Tryz.func97, by decide +kernel⟩
theorem fOk98 : Go.Proofs.Tryz.prog.funcs[98]? = some Go.Proofs.Tryz.f98 ∧ Go.Proofs.Tryz.f98.name ≠ "runtime.NumGoroutine" := ⟨Go.Proofs.Tryz.func98, by decide +kernel⟩
theorem fOk99 : Go.Proofs.Tryz.prog.funcs[99]? = some Go.Proofs.Tryz.f99 ∧ Go.Proofs.Tryz.f99.name ≠ "runtime.NumGoroutine" := ⟨Go.Proofs.Tryz.func99, by decide +kernel⟩
theorem fOk100 : Go.Proofs.Tryz.prog.funcs[100]? = some Go.Proofs.Tryz.f100 ∧ Go.Proofs.Tryz.f100.name ≠ "runtime.NumGoroutine" := ⟨Go.Proofs.Tryz.func100, by decide +kernel⟩
theorem fOk101 : Go.Proofs.Tryz.prog.funcs[101]? = some Go.Proofs.Tryz.f101 ∧ Go.Proofs.Tryz.f101.name ≠ "runtime.NumGoroutine" := ⟨Go.Proofs.Tryz.func101, by decide +kernel⟩
theorem fOk102 : Go.Proofs.Tryz.prog.funcs[102]? = some Go.Proofs.Tryz.f102 ∧ Go.Proofs.Tryz.f102.name ≠ "runtime.NumGoroutine" := ⟨Go.Proofs.Tryz.func102, by decide +kernel⟩
theorem fOk103 : Go.Proofs.Tryz.prog.funcs[103]? = some Go.Proofs.Tryz.f103 ∧ Go.Proofs.Tryz.f103.name ≠ "runtime.NumGoroutine" := ⟨Go.Proofs.Tryz.func103, by decide +kernel⟩
theorem fOk104 : Go.Proofs.Tryz.prog.funcs[104]? = some Go.Proofs.Tryz.f104 ∧ Go.Proofs.Tryz.f104.name ≠ "runtime.NumGoroutine" := ⟨Go.Proofs.Tryz.func104, by decide +kernel⟩
theorem fOk105 : Go.Proofs.Tryz.prog.funcs[105]? = some Go.Proofs.Tryz.f105 ∧ Go.Proofs.Tryz.f105.name ≠ "runtime.NumGoroutine" := ⟨Go.Proofs.Tryz.func105, by decide +kernel⟩
theorem fOk106 : Go.Proofs.Tryz.prog.funcs[106]? = some Go.Proofs.Tryz.f106 ∧ Go.Proofs.Tryz.f106.name ≠ "runtime.NumGoroutine" := ⟨Go.Proofs.Tryz.func106, by decide +kernel⟩
theorem fOk107 : Go.Proofs.Tryz.prog.funcs[107]? = some Go.Proofs.Tryz.f107 ∧ Go.Proofs.Tryz.f107.name ≠ "runtime.NumGoroutine" := ⟨Go.Proofs.Tryz.func107, by decide +kernel⟩
theorem fOk108 : Go.Proofs.Tryz.prog.funcs[108]? = some Go.Proofs.Tryz.f108 ∧ Go.Proofs.Tryz.f108.name ≠ "runtime.NumGoroutine" := ⟨Go.Proofs.Tryz.func108, by decide +kernel⟩
theorem fOk109 : Go.Proofs.Tryz.prog.funcs[109]? = some Go.Proofs.Tryz.f109 ∧ Go.Proofs.Tryz.f109.name ≠ "runtime.NumGoroutine" := ⟨Go.Proofs.Tryz.func109, by decide +kernel⟩
theorem fOk110 : Go.Proofs.Tryz.prog.funcs[110]? = some Go.Proofs.Tryz.f110 ∧ Go.Proofs.Tryz.f110.name ≠ "runtime.NumGoroutine" := ⟨Go.Proofs.Tryz.func110, by decide +kernel⟩
theorem fOk111 : Go.Proofs.Tryz.prog.funcs[111]? = some Go.Proofs.Tryz.f111 ∧ Go.Proofs.Tryz.f111.name ≠ "runtime.NumGoroutine" := ⟨Go.Proofs.Tryz.func111, by decide +kernel⟩
theorem fOk112 : Go.Proofs.Tryz.prog.funcs[112]? = some Go.Proofs.Tryz.f112 ∧ Go.Proofs.Tryz.f112.name ≠ "runtime.NumGoroutine" := ⟨Go.Proofs.Tryz.func112, by decide +kernel⟩
theorem fOk113 : Go.Proofs.Tryz.prog.funcs[113]? = some Go.Proofs.Tryz.f113 ∧ Go.Proofs.Tryz.f113.name ≠ "runtime.NumGoroutine" := ⟨Go.Proofs.Tryz.func113, by decide +kernel⟩
theorem fOk114 : Go.Proofs.Tryz.prog.funcs[114]? = some Go.Proofs.Tryz.f114 ∧ Go.Proofs.Tryz.f114.name ≠ "runtime.NumGoroutine" := ⟨Go.Proofs.Tryz.func114, by decide +kernel⟩
theorem fOk115 : Go.Proofs.Tryz.prog.funcs[115]? = some Go.Proofs.Tryz.f115 ∧ Go.Proofs.Tryz.f115.name ≠ "runtime.NumGoroutine" := ⟨Go.Proofs.Tryz.func115, by decide +kernel⟩
theorem fOk116 : Go.Proofs.Tryz.prog.funcs[116]? = some Go.Proofs.Tryz.f116 ∧ Go.Proofs.Tryz.f116.name ≠ "runtime.NumGoroutine" := ⟨Go.Proofs.Tryz.func116, by decide +kernel⟩
theorem fOk117 : Go.Proofs.Tryz.prog.funcs[117]? = some Go.Proofs.Tryz.f117 ∧ Go.Proofs.Tryz.f117.name ≠ "runtime.NumGoroutine" := ⟨Go.Proofs.Tryz.func117, by decide +kernel⟩
theorem fOk118 : Go.Proofs.Tryz.prog.funcs[118]? = some Go.Proofs.Tryz.f118 ∧ Go.Proofs.Tryz.f118.name ≠ "runtime.NumGoroutine" := ⟨Go.Proofs.Tryz.func118, by decide +kernel⟩
theorem fOk119 : Go.Proofs.Tryz.prog.funcs[119]? = some Go.Proofs.Tryz.f119 ∧ Go.Proofs.Tryz.f119.name ≠ "runtime.NumGoroutine" := ⟨Go.Proofs.Tryz.func119, by decide +kernel⟩
theorem fOk120 : Go.Proofs.Tryz.prog.funcs[120]? = some Go.Proofs.Tryz.f120 ∧ Go.Proofs.Tryz.f120.name ≠ "runtime.NumGoroutine" := ⟨Go.Proofs.Tryz.func120, by decide +kernel⟩
theorem fOk121 : Go.Proofs.Tryz.prog.funcs[121]? = some Go.Proofs.Tryz.f121 ∧ Go.Proofs.Tryz.f121.name ≠ "runtime.NumGoroutine" := ⟨Go.Proofs.Tryz.func121, by decide +kernel⟩
theorem fOk122 : Go.Proofs.Tryz.prog.funcs[122]? = some Go.Proofs.Tryz.f122 ∧ Go.Proofs.Tryz.f122.name ≠ "runtime.NumGoroutine" := ⟨Go.Proofs.Tryz.func122, by decide +kernel⟩
theorem fOk123 : Go.Proofs.Tryz.prog.funcs[123]? = some Go.Proofs.Tryz.f123 ∧ Go.Proofs.Tryz.f123.name ≠ "runtime.NumGoroutine" := ⟨Go.Proofs.Tryz.func123, by decide +kernel⟩
theorem fOk124 : Go.Proofs.Tryz.prog.funcs[124]? = some Go.Proofs.Tryz.f124 ∧ Go.Proofs.Tryz.f124.name ≠ "runtime.NumGoroutine" := ⟨Go.Proofs.Tryz.func124, by decide +kernel⟩
theorem fOk125 : Go.Proofs.Tryz.prog.funcs[125]? = some Go.Proofs.Tryz.f125 ∧ Go.Proofs.Tryz.f125.name ≠ "runtime.NumGoroutine" := ⟨Go.Proofs.Tryz.func125, by decide +kernel⟩
theorem fOk126 : Go.Proofs.Tryz.prog.funcs[126]? = some Go.Proofs.Tryz.f126 ∧ Go.Proofs.Tryz.f126.name ≠ "runtime.NumGoroutine" := ⟨Go.Proofs.Tryz.func126, by decide +kernel⟩
theorem fOk127 : Go.Proofs.Tryz.prog.funcs[127]? = some Go.Proofs.Tryz.f127 ∧ Go.Proofs.Tryz.f127.name ≠ "runtime.NumGoroutine" := ⟨Go.Proofs.Tryz.func127, by decide +kernel⟩
theorem fOk128 : Go.Proofs.Tryz.prog.funcs[128]? = some Go.Proofs.Tryz.f128 ∧ Go.Proofs.Tryz.f128.name ≠ "runtime.NumGoroutine" := ⟨Go.Proofs.Tryz.func128, by decide +kernel⟩
theorem fOk131 : Go.Proofs.Tryz.prog.funcs[131]? = some Go.Proofs.Tryz.f131 ∧ Go.Proofs.Tryz.f131.name ≠ "runtime.NumGoroutine" := ⟨Go.Proofs.Tryz.func131, by decide +kernel⟩
theorem fOk133 : Go.Proofs.Tryz.prog.funcs[133]? = some Go.Proofs.Tryz.f133 ∧ Go.Proofs.Tryz.f133.name ≠ "runtime.NumGoroutine" := ⟨Go.Proofs.Tryz.func133, by decide +kernel⟩
theorem fOk134 : Go.Proofs.Tryz.prog.funcs[134]? = some Go.Proofs.Tryz.f134 ∧ Go.Proofs.Tryz.f134.name ≠ "runtime.NumGoroutine" := ⟨Go.Proofs.Tryz.func134, by decide +kernel⟩
theorem fOk136 : Go.Proofs.Tryz.prog.funcs[136]? = some Go.Proofs.Tryz.f136 ∧ Go.Proofs.Tryz.f136.name ≠ "runtime.NumGoroutine" := ⟨Go.Proofs.Tryz.func136, by decide +kernel⟩
theorem fOk138 : Go.Proofs.Tryz.prog.funcs[138]? = some Go.Proofs.Tryz.f138 ∧ Go.Proofs.Tryz.f138.name ≠ "runtime.NumGoroutine" := ⟨Go.Proofs.Tryz.func138, by decide +kernel⟩
theorem fOk139 : Go.Proofs.Tryz.prog.funcs[139]? = some Go.Proofs.Tryz.f139 ∧ Go.Proofs.Tryz.f139.name ≠ "runtime.NumGoroutine" := ⟨Go.Proofs.Tryz.func139, by decide +kernel⟩
theorem fOk140 : Go.Proofs.Tryz.prog.funcs[140]? = some Go.Proofs.Tryz.f140 ∧ Go.Proofs.Tryz.f140.name ≠ "runtime.NumGoroutine" := ⟨Go.Proofs.Tryz.func140, by decide +kernel⟩
theorem fOk141 : Go.Proofs.Tryz.prog.funcs[141]? = some Go.Proofs.Tryz.f141 ∧ Go.Proofs.Tryz.f141.name ≠ "runtime.NumGoroutine" := ⟨Go.Proofs.Tryz.func141, by decide +kernel⟩
theorem fOk142 : Go.Proofs.Tryz.prog.funcs[142]? = some Go.Proofs.Tryz.f142 ∧ Go.Proofs.Tryz.f142.name ≠ "runtime.NumGoroutine" := ⟨Go.Proofs.Tryz.func142, by decide +kernel⟩
theorem fOk143 : Go.Proofs.Tryz.prog.funcs[143]? = some Go.Proofs.Tryz.f143 ∧ Go.Proofs.Tryz.f143.name ≠ "runtime.NumGoroutine" := ⟨Go.Proofs.Tryz.func143, by decide +kernel⟩
theorem fOk144 : Go.Proofs.Tryz.prog.funcs[144]? = some Go.Proofs.Tryz.f144 ∧ Go.Proofs.Tryz.f144.name ≠ "runtime.NumGoroutine" := ⟨Go.Proofs.Tryz.func144, by decide +kernel⟩
theorem fOk145 : Go.Proofs.Tryz.prog.funcs[145]? = some Go.Proofs.Tryz.f145 ∧ Go.Proofs.Tryz.f145.name ≠ "runtime.NumGoroutine" := ⟨Go.Proofs.Tryz.func145, by decide +kernel⟩
theorem fOk146 : Go.Proofs.Tryz.prog.funcs[146]? = some Go.Proofs.Tryz.f146 ∧ Go.Proofs.Tryz.f146.name ≠ "runtime.NumGoroutine" := ⟨Go.Proofs.Tryz.func146, by decide +kernel⟩
theorem fOk147 : Go.Proofs.Tryz.prog.funcs[147]? = some Go.Proofs.Tryz.f147 ∧ Go.Proofs.Tryz.f147.name ≠ "runtime.NumGoroutine" := ⟨Go.Proofs.Tryz.func147, by decide +kernel⟩
theorem fOk148 : Go.Proofs.Tryz.prog.funcs[148]? = some Go.Proofs.Tryz.f148 ∧ Go.Proofs.Tryz.f148.name ≠ "runtime.NumGoroutine" := ⟨Go.Proofs.Tryz.func148, by decide +kernel⟩
theorem fOk149 : Go.Proofs.Tryz.prog.funcs[149]? = some Go.Proofs.Tryz.f149 ∧ Go.Proofs.Tryz.f149.name ≠ "runtime.NumGoroutine" := ⟨Go.Proofs.Tryz.func149, by decide +kernel⟩
theorem fOk150 : Go.Proofs.Tryz.prog.funcs[150]? = some Go.Proofs.Tryz.f150 ∧ Go.Proofs.Tryz.f150.name ≠ "runtime.NumGoroutine" := ⟨Go.Proofs.Tryz.func150, by decide +kernel⟩
theorem fOk151 : Go.Proofs.Tryz.prog.funcs[151]? = some Go.Proofs.Tryz.f151 ∧ Go.Proofs.Tryz.f151.name ≠ "runtime.NumGoroutine" := ⟨Go.Proofs.Tryz.func151, by decide +kernel⟩
theorem fOk152 : Go.Proofs.Tryz.prog.funcs[152]? = some Go.Proofs.Tryz.f152 ∧ Go.Proofs.Tryz.f152.name ≠ "runtime.NumGoroutine" := ⟨Go.Proofs.Tryz.func152, by decide +kernel⟩
theorem fOk153 : Go.Proofs.Tryz.prog.funcs[153]? = some Go.Proofs.Tryz.f153 ∧ Go.Proofs.Tryz.f153.name ≠ "runtime.NumGoroutine" := ⟨Go.Proofs.Tryz.func153, by decide +kernel⟩
theorem fOk154 : Go.Proofs.Tryz.prog.funcs[154]? = some Go.Proofs.Tryz.f154 ∧ Go.Proofs.Tryz.f154.name ≠ "runtime.NumGoroutine" := ⟨Go.Proofs.Tryz.func154, by decide +kernel⟩
theorem fOk155 : Go.Proofs.Tryz.prog.funcs[155]? = some Go.Proofs.Tryz.f155 ∧ Go.Proofs.Tryz.f155.name ≠ "runtime.NumGoroutine" := ⟨Go.Proofs.Tryz.func155, by decide +kernel⟩
theorem fOk156 : Go.Proofs.Tryz.prog.funcs[156]? = some Go.Proofs.Tryz.f156 ∧ Go.Proofs.Tryz.f156.name ≠ "runtime.NumGoroutine" := ⟨Go.Proofs.Tryz.func156, by decide +kernel⟩
theorem fOk157 : Go.Proofs.Tryz.prog.funcs[157]? = some Go.Proofs.Tryz.f157 ∧ Go.Proofs.Tryz.f157.name ≠ "runtime.NumGoroutine" := ⟨Go.Proofs.Tryz.func157, by decide +kernel⟩
theorem fOk158 : Go.Proofs.Tryz.prog.funcs[158]? = some Go.Proofs.Tryz.f158 ∧ Go.Proofs.Tryz.f158.name ≠ "runtime.NumGoroutine" := ⟨Go.Proofs.Tryz.func158, by decide +kernel⟩
theorem fOk159 : Go.Proofs.Tryz.prog.funcs[159]? = some Go.Proofs.Tryz.f159 ∧ Go.Proofs.Tryz.f159.name ≠ "runtime.NumGoroutine" := ⟨Go.Proofs.Tryz.func159, by decide +kernel⟩
theorem fOk160 : Go.Proofs.Tryz.prog.funcs[160]? = some Go.Proofs.Tryz.f160 ∧ Go.Proofs.Tryz.f160.name ≠ "runtime.NumGoroutine" := ⟨Go.Proofs.Tryz.func160, by decide +kernel⟩
theorem fOk161 : Go.Proofs.Tryz.prog.funcs[161]? = some Go.Proofs.Tryz.f161 ∧ Go.Proofs.Tryz.f161.name ≠ "runtime.NumGoroutine" := ⟨Go.Proofs.Tryz.func161, by decide +kernel⟩
theorem fOk162 : Go.Proofs.Tryz.prog.funcs[162]? = some Go.Proofs.Tryz.f162 ∧ Go.Proofs.Tryz.f162.name ≠ "runtime.NumGoroutine" := ⟨Go.Proofs.Tryz.func162, by decide +kernel⟩
theorem fOk163 : Go.Proofs.Tryz.prog.funcs[163]? = some Go.Proofs.Tryz.f163 ∧ Go.Proofs.Tryz.f163.name ≠ "runtime.NumGoroutine" := ⟨Go.Proofs.Tryz.func163, by decide +kernel⟩
theorem fOk164 : Go.Proofs.Tryz.prog.funcs[164]? = some Go.Proofs.Tryz.f164 ∧ Go.Proofs.Tryz.f164.name ≠ "runtime.NumGoroutine" := ⟨Go.Proofs.Tryz.func164, by decide +kernel⟩
theorem fOk165 : Go.Proofs.Tryz.prog.funcs[165]? = some Go.Proofs.Tryz.f165 ∧ Go.Proofs.Tryz.f165.name ≠ "runtime.NumGoroutine" := ⟨Go.Proofs.Tryz.func165, by decide +kernel⟩
theorem fOk166 : Go.Proofs.Tryz.prog.funcs[166]? = some Go.Proofs.Tryz.f166 ∧ Go.Proofs.Tryz.f166.name ≠ "runtime.NumGoroutine" := ⟨Go.Proofs.Tryz.func166, by decide +kernel⟩
theorem fOk167 : Go.Proofs.Tryz.prog.funcs[167]? = some Go.Proofs.Tryz.f167 ∧ Go.Proofs.Tryz.f167.name ≠ "runtime.NumGoroutine" := ⟨Go.Proofs.Tryz.func167, by decide +kernel⟩
theorem fOk168 : Go.Proofs.Tryz.prog.funcs[168]? = some Go.Proofs.Tryz.f168 ∧ Go.Proofs.Tryz.f168.name ≠ "runtime.NumGoroutine" := ⟨Go.Proofs.Tryz.func168, by decide +kernel⟩
theorem fOk169 : Go.Proofs.Tryz.prog.funcs[169]? = some Go.Proofs.Tryz.f169 ∧ Go.Proofs.Tryz.f169.name ≠ "runtime.NumGoroutine" := ⟨Go.Proofs.Tryz.func169, by decide +kernel⟩
theorem fOk170 : Go.Proofs.Tryz.prog.funcs[170]? = some Go.Proofs.Tryz.f170 ∧ Go.Proofs.Tryz.f170.name ≠ "runtime.NumGoroutine" := ⟨Go.Proofs.Tryz.func170, by decide +kernel⟩
theorem fOk171 : Go.Proofs.Tryz.prog.funcs[171]? = some Go.Proofs.Tryz.f171 ∧ Go.Proofs.Tryz.f171.name ≠ "runtime.NumGoroutine" := ⟨Go.Proofs.Tryz.func171, by decide +kernel⟩
theorem fOk172 : Go.Proofs.Tryz.prog.funcs[172]? = some Go.Proofs.Tryz.f172 ∧ Go.Proofs.Tryz.f172.name ≠ "runtime.NumGoroutine" := ⟨Go.Proofs.Tryz.func172, by decide +kernel⟩
theorem fOk173 : Go.Proofs.Tryz.prog.funcs[173]? = some Go.Proofs.Tryz.f173 ∧ Go.Proofs.Tryz.f173.name ≠ "runtime.NumGoroutine" := ⟨Go.Proofs.Tryz.func173, by decide +kernel⟩
theorem fOk174 : Go.Proofs.Tryz.prog.funcs[174]? = some Go.Proofs.Tryz.f174 ∧ Go.Proofs.Tryz.f174.name ≠ "runtime.NumGoroutine" := ⟨Go.Proofs.Tryz.func174, by decide +kernel⟩
theorem fOk175 : Go.Proofs.Tryz.prog.funcs[175]? = some Go.Proofs.Tryz.f175 ∧ Go.Proofs.Tryz.f175.name ≠ "runtime.NumGoroutine" := ⟨Go.Proofs.Tryz.func175, by decide +kernel⟩
theorem fOk176 : Go.Proofs.Tryz.prog.funcs[176]? = some Go.Proofs.Tryz.f176 ∧ Go.Proofs.Tryz.f176.name ≠ "runtime.NumGoroutine" := ⟨Go.Proofs.Tryz.func176, by decide +kernel⟩
theorem fOk177 : Go.Proofs.Tryz.prog.funcs[177]? = some Go.Proofs.Tryz.f177 ∧ Go.Proofs.Tryz.f177.name ≠ "runtime.NumGoroutine" := ⟨Go.Proofs.Tryz.func177, by decide +kernel⟩
theorem fOk178 : Go.Proofs.Tryz.prog.funcs[178]? = some Go.Proofs.Tryz.f178 ∧ Go.Proofs.Tryz.f178.name ≠ "runtime.NumGoroutine" := ⟨Go.Proofs.Tryz.func178, by decide +kernel⟩
theorem fOk179 : Go.Proofs.Tryz.prog.funcs[179]? = some Go.Proofs.Tryz.f179 ∧ Go.Proofs.Tryz.f179.name ≠ "runtime.NumGoroutine" := ⟨Go.Proofs.Tryz.func179, by decide +kernel⟩
theorem fOk180 : Go.Proofs.Tryz.prog.funcs[180]? = some Go.Proofs.Tryz.f180 ∧ Go.Proofs.Tryz.f180.name ≠ "runtime.NumGoroutine" := ⟨Go.Proofs.Tryz.func180, by decide +kernel⟩
theorem fOk181 : Go.Proofs.Tryz.prog.funcs[181]? = some Go.Proofs.Tryz.f181 ∧ Go.Proofs.Tryz.f181.name ≠ "runtime.NumGoroutine" := ⟨Go.Proofs.Tryz.func181, by decide +kernel⟩
theorem fOk182 : Go.Proofs.Tryz.prog.funcs[182]? = some Go.Proofs.Tryz.f182 ∧ Go.Proofs.Tryz.f182.name ≠ "runtime.NumGoroutine" := ⟨Go.Proofs.Tryz.func182, by decide +kernel⟩
theorem fOk183 : Go.Proofs.Tryz.prog.funcs[183]? = some Go.Proofs.Tryz.f183 ∧ Go.Proofs.Tryz.f183.name ≠ "runtime.NumGoroutine" := ⟨Go.Proofs.Tryz.func183, by decide +kernel⟩
theorem fOk184 : Go.Proofs.Tryz.prog.funcs[184]? = some Go.Proofs.Tryz.f184 ∧ Go.Proofs.Tryz.f184.name ≠ "runtime.NumGoroutine" := ⟨Go.Proofs.Tryz.func184, by decide +kernel⟩
theorem fOk185 : Go.Proofs.Tryz.prog.funcs[185]? = some Go.Proofs.Tryz.f185 ∧ Go.Proofs.Tryz.f185.name ≠ "runtime.NumGoroutine" := ⟨Go.Proofs.Tryz.func185, by decide +kernel⟩
theorem fOk186 : Go.Proofs.Tryz.prog.funcs[186]? = some Go.Proofs.Tryz.f186 ∧ Go.Proofs.Tryz.f186.name ≠ "runtime.NumGoroutine" := ⟨Go.Proofs.Tryz.func186, by decide +kernel⟩
theorem fOk187 : Go.Proofs.Tryz.prog.funcs[187]? = some Go.Proofs.Tryz.f187 ∧ Go.Proofs.Tryz.f187.name ≠ "runtime.NumGoroutine" := ⟨Go.Proofs.Tryz.func187, by decide +kernel⟩
theorem fOk188 : Go.Proofs.Tryz.prog.funcs[188]? = some Go.Proofs.Tryz.f188 ∧ Go.Proofs.Tryz.f188.name ≠ "runtime.NumGoroutine" := ⟨Go.Proofs.Tryz.func188, by decide +kernel⟩
theorem fOk189 : Go.Proofs.Tryz.prog.funcs[189]? = some Go.Proofs.Tryz.f189 ∧ Go.Proofs.Tryz.f189.name ≠ "runtime.NumGoroutine" := ⟨Go.Proofs.Tryz.func189, by decide +kernel⟩
theorem fOk190 : Go.Proofs.Tryz.prog.funcs[190]? = some Go.Proofs.Tryz.f190 ∧ Go.Proofs.Tryz.f190.name ≠ "runtime.NumGoroutine" := ⟨Go.Proofs.Tryz.func190, by decide +kernel⟩
theorem fOk191 : Go.Proofs.Tryz.prog.funcs[191]? = some Go.Proofs.Tryz.f191 ∧ Go.Proofs.Tryz.f191.name ≠ "runtime.NumGoroutine" := ⟨Go.Proofs.Tryz.func191, by decide +kernel⟩
theorem fOk192 : Go.Proofs.Tryz.prog.funcs[192]? = some Go.Proofs.Tryz.f192 ∧ Go.Proofs.Tryz.f192.name ≠ "runtime.NumGoroutine" := ⟨Go.Proofs.Tryz.func192, by decide +kernel⟩
theorem fOk193 : Go.Proofs.Tryz.prog.funcs[193]? = some Go.Proofs.Tryz.f193 ∧ Go.Proofs.Tryz.f193.name ≠ "runtime.NumGoroutine" := ⟨Go.Proofs.Tryz.func193, by decide +kernel⟩
theorem fOk194 : Go.Proofs.Tryz.prog.funcs[194]? = some Go.Proofs.Tryz.f194 ∧ Go.Proofs.Tryz.f194.name ≠ "runtime.NumGoroutine" := ⟨Go.Proofs.Tryz.func194, by decide +kernel⟩
theorem fOk195 : Go.Proofs.Tryz.prog.funcs[195]? = some Go.Proofs.Tryz.f195 ∧ Go.Proofs.Tryz.f195.name ≠ "runtime.NumGoroutine" := ⟨Go.Proofs.Tryz.func195, by decide +kernel⟩
theorem fOk196 : Go.Proofs.Tryz.prog.funcs[196]? = some Go.Proofs.Tryz.f196 ∧ Go.Proofs.Tryz.f196.name ≠ "runtime.NumGoroutine" := ⟨Go.Proofs.Tryz.func196, by decide +kernel⟩
theorem fOk197 : Go.Proofs.Tryz.prog.funcs[197]? = some Go.Proofs.Tryz.f197 ∧ Go.Proofs.Tryz.f197.name ≠ "runtime.NumGoroutine" := ⟨Go.Proofs.Tryz.func197, by decide +kernel⟩
theorem fOk198 : Go.Proofs.Tryz.prog.funcs[198]? = some Go.Proofs.Tryz.f198 ∧ Go.Proofs.Tryz.f198.name ≠ "runtime.NumGoroutine" := ⟨Go.Proofs.Tryz.func198, by decide +kernel⟩
theorem fOk199 : Go.Proofs.Tryz.prog.funcs[199]? = some Go.Proofs.Tryz.f199 ∧ Go.Proofs.Tryz.f199.name ≠ "runtime.NumGoroutine" := ⟨Go.Proofs.Tryz.func199, by decide +kernel⟩
theorem fOk200 : Go.Proofs.Tryz.prog.funcs[200]? = some Go.Proofs.Tryz.f200 ∧ Go.Proofs.Tryz.f200.name ≠ "runtime.NumGoroutine" := ⟨Go.Proofs.Tryz.func200, by decide +kernel⟩
theorem fOk201 : Go.Proofs.Tryz.prog.funcs[201]? = some Go.Proofs.Tryz.f201 ∧ Go.Proofs.Tryz.f201.name ≠ "runtime.NumGoroutine" := ⟨Go.Proofs.Tryz.func201, by decide +kernel⟩
theorem fOk202 : Go.Proofs.Tryz.prog.funcs[202]? = some Go.Proofs.Tryz.f202 ∧ Go.Proofs.Tryz.f202.name ≠ "runtime.NumGoroutine" := ⟨Go.Proofs.Tryz.func202, by decide +kernel⟩
theorem fOk203 : Go.Proofs.Tryz.prog.funcs[203]? = some Go.Proofs.Tryz.f203 ∧ Go.Proofs.Tryz.f203.name ≠ "runtime.NumGoroutine" := ⟨Go.Proofs.Tryz.func203, by decide +kernel⟩
theorem fOk204 : Go.Proofs.Tryz.prog.funcs[204]? = some Go.Proofs.Tryz.f204 ∧ Go.Proofs.Tryz.f204.name ≠ "runtime.NumGoroutine" := ⟨Go.Proofs.Tryz.func204, by decide +kernel⟩
theorem fOk205 : Go.Proofs.Tryz.prog.funcs[205]? = some Go.Proofs.Tryz.f205 ∧ Go.Proofs.Tryz.f205.name ≠ "runtime.NumGoroutine" := ⟨Go.Proofs.Tryz.func205, by decide +kernel⟩
theorem fOk206 : Go.Proofs.Tryz.prog.funcs[206]? = some Go.Proofs.Tryz.f206 ∧ Go.Proofs.Tryz.f206.name ≠ "runtime.NumGoroutine" := ⟨Go.Proofs.Tryz.func206, by decide +kernel⟩
theorem fOk207 : Go.Proofs.Tryz.prog.funcs[207]? = some Go.Proofs.Tryz.f207 ∧ Go.Proofs.Tryz.f207.name ≠ "runtime.NumGoroutine" := ⟨Go.Proofs.Tryz.func207, by decide +kernel⟩
theorem fOk208 : Go.Proofs.Tryz.prog.funcs[208]? = some Go.Proofs.Tryz.f208 ∧ Go.Proofs.Tryz.f208.name ≠ "runtime.NumGoroutine" := ⟨Go.Proofs.Tryz.func208, by decide +kernel⟩
theorem fOk209 : Go.Proofs.Tryz.prog.funcs[209]? = some Go.Proofs.Tryz.f209 ∧ Go.Proofs.Tryz.f209.name ≠ "runtime.NumGoroutine" := ⟨Go.Proofs.Tryz.func209, by decide +kernel⟩
theorem fOk210 : Go.Proofs.Tryz.prog.funcs[210]? = some Go.Proofs.Tryz.f210 ∧ Go.Proofs.Tryz.f210.name ≠ "runtime.NumGoroutine" := ⟨Go.Proofs.Tryz.func210, by decide +kernel⟩
theorem fOk215 : Go.Proofs.Tryz.prog.funcs[215]? = some Go.Proofs.Tryz.f215 ∧ Go.Proofs.Tryz.f215.name ≠ "runtime.NumGoroutine" := ⟨Go.Proofs.Tryz.func215, by decide +kernel⟩
theorem fOk216 : Go.Proofs.Tryz.prog.funcs[216]? = some Go.Proofs.Tryz.f216 ∧ Go.Proofs.Tryz.f216.name ≠ "runtime.NumGoroutine" := ⟨Go.Proofs.Tryz.func216, by decide +kernel⟩
theorem fOk217 : Go.Proofs.Tryz.prog.funcs[217]? = some Go.Proofs.Tryz.f217 ∧ Go.Proofs.Tryz.f217.name ≠ "runtime.NumGoroutine" := ⟨Go.Proofs.Tryz.func217, by decide +kernel⟩
theorem fOk221 : Go.Proofs.Tryz.prog.funcs[221]? = some Go.Proofs.Tryz.f221 ∧ Go.Proofs.Tryz.f221.name ≠ "runtime.NumGoroutine" := ⟨Go.Proofs.Tryz.func221, by decide +kernel⟩
theorem fOk224 : Go.Proofs.Tryz.prog.funcs[224]? = some Go.Proofs.Tryz.f224 ∧ Go.Proofs.Tryz.f224.name ≠ "runtime.NumGoroutine" := ⟨Go.Proofs.Tryz.func224, by decide +kernel⟩
theorem fOk225 : Go.Proofs.Tryz.prog.funcs[225]? = some Go.Proofs.Tryz.f225 ∧ Go.Proofs.Tryz.f225.name ≠ "runtime.NumGoroutine" := ⟨Go.Proofs.Tryz.func225, by decide +kernel⟩
theorem fOk226 : Go.Proofs.Tryz.prog.funcs[226]? = some Go.Proofs.Tryz.f226 ∧ Go.Proofs.Tryz.f226.name ≠ "runtime.NumGoroutine" := ⟨Go.Proofs.Tryz.func226, by decide +kernel⟩
theorem fOk227 : Go.Proofs.Tryz.prog.funcs[227]? = some Go.Proofs.Tryz.f227 ∧ Go.Proofs.Tryz.f227.name ≠ "runtime.NumGoroutine" := ⟨Go.Proofs.Tryz.func227, by decide +kernel⟩
theorem fOk228 : Go.Proofs.Tryz.prog.funcs[228]? = some Go.Proofs.Tryz.f228 ∧ Go.Proofs.Tryz.f228.name ≠ "runtime.NumGoroutine" := ⟨Go.Proofs.Tryz.func228, by decide +kernel⟩
theorem fOk229 : Go.Proofs.Tryz.prog.funcs[229]? = some Go.Proofs.Tryz.f229 ∧ Go.Proofs.Tryz.f229.name ≠ "runtime.NumGoroutine" := ⟨Go.Proofs.Tryz.func229, by decide +kernel⟩
theorem fOk230 : Go.Proofs.Tryz.prog.funcs[230]? = some Go.Proofs.Tryz.f230 ∧ Go.Proofs.Tryz.f230.name ≠ "runtime.NumGoroutine" := ⟨Go.Proofs.Tryz.func230, by decide +kernel⟩
theorem fOk231 : Go.Proofs.Tryz.prog.funcs[231]? = some Go.Proofs.Tryz.f231 ∧ Go.Proofs.Tryz.f231.name ≠ "runtime.NumGoroutine" := ⟨Go.Proofs.Tryz.func231, by decide +kernel⟩
theorem fOk232 : Go.Proofs.Tryz.prog.funcs[232]? = some Go.Proofs.Tryz.f232 ∧ Go.Proofs.Tryz.f232.name ≠ "runtime.NumGoroutine" := ⟨Go.Proofs.Tryz.func232, by decide +kernel⟩
theorem fOk233 : Go.Proofs.Tryz.prog.funcs[233]? = some Go.Proofs.Tryz.f233 ∧ Go.Proofs.Tryz.f233.name ≠ "runtime.NumGoroutine" := ⟨Go.Proofs.Tryz.func233, by decide +kernel⟩
theorem fOk234 : Go.Proofs.Tryz.prog.funcs[234]? = some Go.Proofs.Tryz.f234 ∧ Go.Proofs.Tryz.f234.name ≠ "runtime.NumGoroutine" := ⟨Go.Proofs.Tryz.func234, by decide +kernel⟩
theorem fOk235 : Go.Proofs.Tryz.prog.funcs[235]? = some Go.Proofs.Tryz.f235 ∧ Go.Proofs.Tryz.f235.name ≠ "runtime.NumGoroutine" := ⟨Go.Proofs.Tryz.func235, by decide +kernel⟩
theorem fOk236 : Go.Proofs.Tryz.prog.funcs[236]? = some Go.Proofs.Tryz.f236 ∧ Go.Proofs.Tryz.f236.name ≠ "runtime.NumGoroutine" := ⟨Go.Proofs.Tryz.func236, by decide +kernel⟩
theorem fOk237 : Go.Proofs.Tryz.prog.funcs[237]? = some Go.Proofs.Tryz.f237 ∧ Go.Proofs.Tryz.f237.name ≠ "runtime.NumGoroutine" := ⟨Go.Proofs.Tryz.func237, by decide +kernel⟩
theorem fOk238 : Go.Proofs.Tryz.prog.funcs[238]? = some Go.Proofs.Tryz.f238 ∧ Go.Proofs.Tryz.f238.name ≠ "runtime.NumGoroutine" := ⟨Go.Proofs.Tryz.func238, by decide +kernel⟩
theorem fOk239 : Go.Proofs.Tryz.prog.funcs[239]? = some Go.Proofs.Tryz.f239 ∧ Go.Proofs.Tryz.f239.name ≠ "runtime.NumGoroutine" := ⟨Go.Proofs.Tryz.func239, by decide +kernel⟩
theorem fOk240 : Go.Proofs.Tryz.prog.funcs[240]? = some Go.Proofs.Tryz.f240 ∧ Go.Proofs.Tryz.f240.name ≠ "runtime.NumGoroutine" := ⟨Go.Proofs.Tryz.func240, by decide +kernel⟩
theorem fOk241 : Go.Proofs.Tryz.prog.funcs[241]? = some Go.Proofs.Tryz.f241 ∧ Go.Proofs.Tryz.f241.name ≠ "runtime.NumGoroutine" := ⟨Go.Proofs.Tryz.func241, by decide +kernel⟩
theorem fOk242 : Go.Proofs.Tryz.prog.funcs[242]? = some Go.Proofs.Tryz.f242 ∧ Go.Proofs.Tryz.f242.name ≠ "runtime.NumGoroutine" := ⟨Go.Proofs.Tryz.func242, by decide +kernel⟩
theorem fOk243 : Go.Proofs.Tryz.prog.funcs[243]? = some Go.Proofs.Tryz.f243 ∧ Go.Proofs.Tryz.f243.name ≠ "runtime.NumGoroutine" := ⟨Go.Proofs.Tryz.func243, by decide +kernel⟩
theorem fOk244 : Go.Proofs.Tryz.prog.funcs[244]? = some Go.Proofs.Tryz.f244 ∧ Go.Proofs.Tryz.f244.name ≠ "runtime.NumGoroutine" := ⟨Go.Proofs.Tryz.func244, by decide +kernel⟩
theorem fOk245 : Go.Proofs.Tryz.prog.funcs[245]? = some Go.Proofs.Tryz.f245 ∧ Go.Proofs.Tryz.f245.name ≠ "runtime.NumGoroutine" := ⟨Go.Proofs.Tryz.func245, by decide +kernel⟩
theorem fOk246 : Go.Proofs.Tryz.prog.funcs[246]? = some Go.Proofs.Tryz.f246 ∧ Go.Proofs.Tryz.f246.name ≠ "runtime.NumGoroutine" := ⟨Go.Proofs.Tryz.func246, by decide +kernel⟩
theorem fOk247 : Go.Proofs.Tryz.prog.funcs[247]? = some Go.Proofs.Tryz.f247 ∧ Go.Proofs.Tryz.f247.name ≠ "runtime.NumGoroutine" := ⟨Go.Proofs.Tryz.func247, by decide +kernel⟩
theorem fOk248 : Go.Proofs.Tryz.prog.funcs[248]? = some Go.Proofs.Tryz.f248 ∧ Go.Proofs.Tryz.f248.name ≠ "runtime.NumGoroutine" := ⟨Go.Proofs.Tryz.func248, by decide +kernel⟩
theorem fOk249 : Go.Proofs.Tryz.prog.funcs[249]? = some Go.Proofs.Tryz.f249 ∧ Go.Proofs.Tryz.f249.name ≠ "runtime.NumGoroutine" := ⟨Go.Proofs.Tryz.func249, by decide +kernel⟩
theorem fOk250 : Go.Proofs.Tryz.prog.funcs[250]? = some Go.Proofs.Tryz.f250 ∧ Go.Proofs.Tryz.f250.name ≠ "runtime.NumGoroutine" := ⟨Go.Proofs.Tryz.func250, by decide +kernel⟩
theorem fOk251 : Go.Proofs.Tryz.prog.funcs[251]? = some Go.Proofs.Tryz.f251 ∧ Go.Proofs.Tryz.f251.name ≠ "runtime.NumGoroutine" := ⟨Go.Proofs.Tryz.func251, by decide +kernel⟩
theorem fOk252 : Go.Proofs.Tryz.prog.funcs[252]? = some Go.Proofs.Tryz.f252 ∧ Go.Proofs.Tryz.f252.name ≠ "runtime.NumGoroutine" := ⟨Go.Proofs.Tryz.func252, by decide +kernel⟩
theorem fOk253 : Go.Proofs.Tryz.prog.funcs[253]? = some Go.Proofs.Tryz.f253 ∧ Go.Proofs.Tryz.f253.name ≠ "runtime.NumGoroutine" := ⟨Go.Proofs.Tryz.func253, by decide +kernel⟩
theorem fOk254 : Go.Proofs.Tryz.prog.funcs[254]? = some Go.Proofs.Tryz.f254 ∧ Go.Proofs.Tryz.f254.name ≠ "runtime.NumGoroutine" := ⟨Go.Proofs.Tryz.func254, by decide +kernel⟩
theorem fOk255 : Go.Proofs.Tryz.prog.funcs[255]? = some Go.Proofs.Tryz.f255 ∧ Go.Proofs.Tryz.f255.name ≠ "runtime.NumGoroutine" := ⟨Go.Proofs.Tryz.func255, by decide +kernel⟩
theorem fOk256 : Go.Proofs.Tryz.prog.funcs[256]? = some Go.Proofs.Tryz.f256 ∧ Go.Proofs.Tryz.f256.name ≠ "runtime.NumGoroutine" := ⟨Go.Proofs.Tryz.func256, by decide +kernel⟩
theorem fOk257 : Go.Proofs.Tryz.prog.funcs[257]? = some Go.Proofs.Tryz.f257 ∧ Go.Proofs.Tryz.f257.name ≠ "runtime.NumGoroutine" := ⟨Go.Proofs.Tryz.func257, by decide +kernel⟩
theorem fOk258 : Go.Proofs.Tryz.prog.funcs[258]? = some Go.Proofs.Tryz.f258 ∧ Go.Proofs.Tryz.f258.name ≠ "runtime.NumGoroutine" := ⟨Go.Proofs.Tryz.func258, by decide +kernel⟩
theorem fOk259 : Go.Proofs.Tryz.prog.funcs[259]? = some Go.Proofs.Tryz.f259 ∧ Go.Proofs.Tryz.f259.name ≠ "runtime.NumGoroutine" := ⟨Go.Proofs.Tryz.func259, by decide +kernel⟩
theorem fOk260 : Go.Proofs.Tryz.prog.funcs[260]? = some Go.Proofs.Tryz.f260 ∧ Go.Proofs.Tryz.f260.name ≠ "runtime.NumGoroutine" := ⟨Go.Proofs.Tryz.func260, by decide +kernel⟩
theorem fOk261 : Go.Proofs.Tryz.prog.funcs[261]? = some Go.Proofs.Tryz.f261 ∧ Go.Proofs.Tryz.f261.name ≠ "runtime.NumGoroutine" := ⟨Go.Proofs.Tryz.func261, by decide +kernel⟩
theorem fOk265 : Go.Proofs.Tryz.prog.funcs[265]? = some Go.Proofs.Tryz.f265 ∧ Go.Proofs.Tryz.f265.name ≠ "runtime.NumGoroutine" := ⟨Go.Proofs.Tryz.func265, by decide +kernel⟩
theorem fOk266 : Go.Proofs.Tryz.prog.funcs[266]? = some Go.Proofs.Tryz.f266 ∧ Go.Proofs.Tryz.f266.name ≠ "runtime.NumGoroutine" := ⟨Go.Proofs.Tryz.func266, by decide +kernel⟩
theorem fOk267 : Go.Proofs.Tryz.prog.funcs[267]? = some Go.Proofs.Tryz.f267 ∧ Go.Proofs.Tryz.f267.name ≠ "runtime.NumGoroutine" := ⟨Go.Proofs.Tryz.func267, by decide +kernel⟩
theorem fOk268 : Go.Proofs.Tryz.prog.funcs[268]? = some Go.Proofs.Tryz.f268 ∧ Go.Proofs.Tryz.f268.name ≠ "runtime.NumGoroutine" := ⟨Go.Proofs.Tryz.func268, by decide +kernel⟩
theorem fOk269 : Go.Proofs.Tryz.prog.funcs[269]? = some Go.Proofs.Tryz.f269 ∧ Go.Proofs.Tryz.f269.name ≠ "runtime.NumGoroutine" := ⟨Go.Proofs.Tryz.func269, by decide +kernel⟩
theorem fOk274 : Go.Proofs.Tryz.prog.funcs[274]? = some Go.Proofs.Tryz.f274 ∧ Go.Proofs.Tryz.f274.name ≠ "runtime.NumGoroutine" := ⟨Go.Proofs.Tryz.func274, by decide +kernel⟩
theorem fOk275 : Go.Proofs.Tryz.prog.funcs[275]? = some Go.Proofs.Tryz.f275 ∧ Go.Proofs.Tryz.f275.name ≠ "runtime.NumGoroutine" := ⟨Go.Proofs.Tryz.func275, by decide +kernel⟩
theorem fOk276 : Go.Proofs.Tryz.prog.funcs[276]? = some Go.Proofs.Tryz.f276 ∧ Go.Proofs.Tryz.f276.name ≠ "runtime.NumGoroutine" := ⟨Go.Proofs.Tryz.func276, by decide +kernel⟩
theorem fOk277 : Go.Proofs.Tryz.prog.funcs[277]? = some Go.Proofs.Tryz.f277 ∧ Go.Proofs.Tryz.f277.name ≠ "runtime.NumGoroutine" := ⟨Go.Proofs.Tryz.func277, by decide +kernel⟩
theorem fOk279 : Go.Proofs.Tryz.prog.funcs[279]? = some Go.Proofs.Tryz.f279 ∧ Go.Proofs.Tryz.f279.name ≠ "runtime.NumGoroutine" := ⟨Go.Proofs.Tryz.func279, by decide +kernel⟩
theorem fOk280 : Go.Proofs.Tryz.prog.funcs[280]? = some Go.Proofs.Tryz.f280 ∧ Go.Proofs.Tryz.f280.name ≠ "runtime.NumGoroutine" := ⟨Go.Proofs.Tryz.func280, by decide +kernel⟩
theorem fOk281 : Go.Proofs.Tryz.prog.funcs[281]? = some Go.Proofs.Tryz.f281 ∧ Go.Proofs.Tryz.f281.name ≠ "runtime.NumGoroutine" := ⟨Go.Proofs.Tryz.func281, by decide +kernel⟩
theorem fOk282 : Go.Proofs.Tryz.prog.funcs[282]? = some Go.Proofs.Tryz.f282 ∧ Go.Proofs.Tryz.f282.name ≠ "runtime.NumGoroutine" := ⟨Go.Proofs.Tryz.func282, by decide +kernel⟩
theorem fOk283 : Go.Proofs.Tryz.prog.funcs[283]? = some Go.Proofs.Tryz.f283 ∧ Go.Proofs.Tryz.f283.name ≠ "runtime.NumGoroutine" := ⟨Go.Proofs.Tryz.func283, by decide +kernel⟩
theorem fOk284 : Go.Proofs.Tryz.prog.funcs[284]? = some Go.Proofs.Tryz.f284 ∧ Go.Proofs.Tryz.f284.name ≠ "runtime.NumGoroutine" := ⟨Go.Proofs.Tryz.func284, by decide +kernel⟩
theorem fOk287 : Go.Proofs.Tryz.prog.funcs[287]? = some Go.Proofs.Tryz.f287 ∧ Go.Proofs.Tryz.f287.name ≠ "runtime.NumGoroutine" := ⟨Go.Proofs.Tryz.func287, by decide +kernel⟩
theorem fOk288 : Go.Proofs.Tryz.prog.funcs[288]? = some Go.Proofs.Tryz.f288 ∧ Go.Proofs.Tryz.f288.name ≠ "runtime.NumGoroutine" := ⟨Go.Proofs.Tryz.func288, by decide +kernel⟩
theorem fOk293 : Go.Proofs.Tryz.prog.funcs[293]? = some Go.Proofs.Tryz.f293 ∧ Go.Proofs.Tryz.f293.name ≠ "runtime.NumGoroutine" := ⟨Go.Proofs.Tryz.func293, by decide +kernel⟩
theorem gAll : gTree.All fun g fn => Go.Proofs.Tryz.prog.funcs[g]? = some fn ∧ fn.name ≠ "runtime.NumGoroutine" := ⟨fOk148, ⟨fOk81, ⟨fOk41, ⟨fOk22, ⟨fOk14, ⟨fOk8, ⟨fOk6, ⟨fOk4, trivial, trivial⟩, ⟨fOk7, trivial, trivial⟩⟩, ⟨fOk10, ⟨fOk9, trivial, trivial⟩, ⟨fOk11, trivial, trivial⟩⟩⟩, ⟨fOk18, ⟨fOk16, ⟨fOk15, trivial, trivial⟩, ⟨fOk17, trivial, trivial⟩⟩, ⟨fOk20, ⟨fOk19, trivial, trivial⟩, ⟨fOk21, trivial, trivial⟩⟩⟩⟩, ⟨fOk34, ⟨fOk30, ⟨fOk24, ⟨fOk23, trivial, trivial⟩, ⟨fOk29, trivial, trivial⟩⟩, ⟨fOk32, ⟨fOk31, trivial, trivial⟩, ⟨fOk33, trivial, trivial⟩⟩⟩, ⟨fOk38, ⟨fOk36, ⟨fOk35, trivial, trivial⟩, ⟨fOk37, trivial, trivial⟩⟩, ⟨fOk40, ⟨fOk39, trivial, trivial⟩, trivial⟩⟩⟩⟩, ⟨fOk58, ⟨fOk50, ⟨fOk45, ⟨fOk43, ⟨fOk42, trivial, trivial⟩, ⟨fOk44, trivial, trivial⟩⟩, ⟨fOk48, ⟨fOk46, trivial, trivial⟩, ⟨fOk49, trivial, trivial⟩⟩⟩, ⟨fOk54, ⟨fOk52, ⟨fOk51, trivial, trivial⟩, ⟨fOk53, trivial, trivial⟩⟩, ⟨fOk56, ⟨fOk55, trivial, trivial⟩, ⟨fOk57, trivial, trivial⟩⟩⟩⟩, ⟨fOk74, ⟨fOk70, ⟨fOk62, ⟨fOk59, trivial, trivial⟩, ⟨fOk63, trivial, trivial⟩⟩, ⟨fOk72, ⟨fOk71, trivial, trivial⟩, ⟨fOk73, trivial, trivial⟩⟩⟩, ⟨fOk78, ⟨fOk76, ⟨fOk75, trivial, trivial⟩, ⟨fOk77, trivial, trivial⟩⟩, ⟨fOk80, ⟨fOk79, trivial, trivial⟩, trivial⟩⟩⟩⟩⟩, ⟨fOk112, ⟨fOk97, ⟨fOk89, ⟨fOk85, ⟨fOk83, ⟨fOk82, trivial, trivial⟩, ⟨fOk84, trivial, trivial⟩⟩, ⟨fOk87, ⟨fOk86, trivial, trivial⟩, ⟨fOk88, trivial, trivial⟩⟩⟩, ⟨fOk93, ⟨fOk91, ⟨fOk90, trivial, trivial⟩, ⟨fOk92, trivial, trivial⟩⟩, ⟨fOk95, ⟨fOk94, trivial, trivial⟩, ⟨fOk96, trivial, trivial⟩⟩⟩⟩, ⟨fOk105, ⟨fOk101, ⟨fOk99, ⟨fOk98, trivial, trivial⟩, ⟨fOk100, trivial, trivial⟩⟩, ⟨fOk103, ⟨fOk102, trivial, trivial⟩, ⟨fOk104, trivial, trivial⟩⟩⟩, ⟨fOk109, ⟨fOk107, ⟨fOk106, trivial, trivial⟩, ⟨fOk108, trivial, trivial⟩⟩, ⟨fOk111, ⟨fOk110, trivial, trivial⟩, trivial⟩⟩⟩⟩, ⟨fOk128, ⟨fOk120, ⟨fOk116, ⟨fOk114, ⟨fOk113, trivial, trivial⟩, ⟨fOk115, trivial, trivial⟩⟩, ⟨fOk118, ⟨fOk117, trivial, trivial⟩, ⟨fOk119, trivial, trivial⟩⟩⟩, ⟨fOk124, ⟨fOk122, ⟨fOk121, trivial, trivial⟩, ⟨fOk123, trivial, trivial⟩⟩, ⟨fOk126, ⟨fOk125, trivial, trivial⟩, ⟨fOk127, trivial, trivial⟩⟩⟩⟩, ⟨fOk141, ⟨fOk136, ⟨fOk133, ⟨fOk131, trivial, trivial⟩, ⟨fOk134, trivial, trivial⟩⟩, ⟨fOk139, ⟨fOk138, trivial, trivial⟩, ⟨fOk140, trivial, trivial⟩⟩⟩, ⟨fOk145, ⟨fOk143, ⟨fOk142, trivial, trivial⟩, ⟨fOk144, trivial, trivial⟩⟩, ⟨fOk147, ⟨fOk146, trivial, trivial⟩, trivial⟩⟩⟩⟩⟩⟩, ⟨fOk210, ⟨fOk179, ⟨fOk164, ⟨fOk156, ⟨fOk152, ⟨fOk150, ⟨fOk149, trivial, trivial⟩, ⟨fOk151, trivial, trivial⟩⟩, ⟨fOk154, ⟨fOk153, trivial, trivial⟩, ⟨fOk155, trivial, trivial⟩⟩⟩, ⟨fOk160, ⟨fOk158, ⟨fOk157, trivial, trivial⟩, ⟨fOk159, trivial, trivial⟩⟩, ⟨fOk162, ⟨fOk161, trivial, trivial⟩, ⟨fOk163, trivial, trivial⟩⟩⟩⟩, ⟨fOk172, ⟨fOk168, ⟨fOk166, ⟨fOk165, trivial, trivial⟩, ⟨fOk167, trivial, trivial⟩⟩, ⟨fOk170, ⟨fOk169, trivial, trivial⟩, ⟨fOk171, trivial, trivial⟩⟩⟩, ⟨fOk176, ⟨fOk174, ⟨fOk173, trivial, trivial⟩, ⟨fOk175, trivial, trivial⟩⟩, ⟨fOk178, ⟨fOk177, trivial, trivial⟩, trivial⟩⟩⟩⟩, ⟨fOk195, ⟨fOk187, ⟨fOk183, ⟨fOk181, ⟨fOk180, trivial, trivial⟩, ⟨fOk182, trivial, trivial⟩⟩, ⟨fOk185, ⟨fOk184, trivial, trivial⟩, ⟨fOk186, trivial, trivial⟩⟩⟩, ⟨fOk191, ⟨fOk189, ⟨fOk188, trivial, trivial⟩, ⟨fOk190, trivial, trivial⟩⟩, ⟨fOk193, ⟨fOk192, trivial, trivial⟩, ⟨fOk194, trivial, trivial⟩⟩⟩⟩, ⟨fOk203, ⟨fOk199, ⟨fOk197, ⟨fOk196, trivial, trivial⟩, ⟨fOk198, trivial, trivial⟩⟩, ⟨fOk201, ⟨fOk200, trivial, trivial⟩, ⟨fOk202, trivial, trivial⟩⟩⟩, ⟨fOk207, ⟨fOk205, ⟨fOk204, trivial, trivial⟩, ⟨fOk206, trivial, trivial⟩⟩, ⟨fOk209, ⟨fOk208, trivial, trivial⟩, trivial⟩⟩⟩⟩⟩, ⟨fOk250, ⟨fOk235, ⟨fOk227, ⟨fOk221, ⟨fOk216, ⟨fOk215, trivial, trivial⟩, ⟨fOk217, trivial, trivial⟩⟩, ⟨fOk225, ⟨fOk224, trivial, trivial⟩, ⟨fOk226, trivial, trivial⟩⟩⟩, ⟨fOk231, ⟨fOk229, ⟨fOk228, trivial, trivial⟩, ⟨fOk230, trivial, trivial⟩⟩, ⟨fOk233, ⟨fOk232, trivial, trivial⟩, ⟨fOk234, trivial, trivial⟩⟩⟩⟩, ⟨fOk243, ⟨fOk239, ⟨fOk237, ⟨fOk236, trivial, trivial⟩, ⟨fOk238, trivial, trivial⟩⟩, ⟨fOk241, ⟨fOk240, trivial, trivial⟩, ⟨fOk242, trivial, trivial⟩⟩⟩, ⟨fOk247, ⟨fOk245, ⟨fOk244, trivial, trivial⟩, ⟨fOk246, trivial, trivial⟩⟩, ⟨fOk249, ⟨fOk248, trivial, trivial⟩, trivial⟩⟩⟩⟩, ⟨fOk268, ⟨fOk258, ⟨fOk254, ⟨fOk252, ⟨fOk251, trivial, trivial⟩, ⟨fOk253, trivial, trivial⟩⟩, ⟨fOk256, ⟨fOk255, trivial, trivial⟩, ⟨fOk257, trivial, trivial⟩⟩⟩, ⟨fOk265, ⟨fOk260, ⟨fOk259, trivial, trivial⟩, ⟨fOk261, trivial, trivial⟩⟩, ⟨fOk267, ⟨fOk266, trivial, trivial⟩, trivial⟩⟩⟩, ⟨fOk281, ⟨fOk276, ⟨fOk274, ⟨fOk269, trivial, trivial⟩, ⟨fOk275, trivial, trivial⟩⟩, ⟨fOk279, ⟨fOk277, trivial, trivial⟩, ⟨fOk280, trivial, trivial⟩⟩⟩, ⟨fOk287, ⟨fOk283, ⟨fOk282, trivial, trivial⟩, ⟨fOk284, trivial, trivial⟩⟩, ⟨fOk293, ⟨fOk288, trivial, trivial⟩, trivial⟩⟩⟩⟩⟩⟩⟩
theorem cOk4 : fnB E0 Go.Proofs.Tryz.f4 4 = true := by decide +kernel
theorem cOk6 : fnB E0 Go.Proofs.Tryz.f6 6 = true := by decide +kernel
theorem cOk7 : fnB E0 Go.Proofs.Tryz.f7 7 = true := by decide +kernel
theorem cOk8 : fnB E0 Go.Proofs.Tryz.f8 8 = true := by decide +kernel
theorem cOk9 : fnB E0 Go.Proofs.Tryz.f9 9 = true := by decide +kernel
theorem cOk10 : fnB E0 Go.Proofs.Tryz.f10 10 = true := by decide +kernel
theorem cOk11 : fnB E0 Go.Proofs.Tryz.f11 11 = true := by decide +kernel
theorem cOk14 : fnB E0 Go.Proofs.Tryz.f14 14 = true := by decide +kernel
theorem cOk15 : fnB E0 Go.Proofs.Tryz.f15 15 = true := by decide +kernel
theorem cOk16 : fnB E0 Go.Proofs.Tryz.f16 16 = true := by decide +kernel
theorem cOk17 : fnB E0 Go.Proofs.Tryz.f17 17 = true := by decide +kernel
theorem cOk18 : fnB E0 Go.Proofs.Tryz.f18 18 = true := by decide +kernel
theorem cOk19 : fnB E0 Go.Proofs.Tryz.f19 19 = true := by decide +kernel
theorem cOk20 : fnB E0 Go.Proofs.Tryz.f20 20 = true := by decide +kernel
theorem cOk21 : fnB E0 Go.Proofs.Tryz.f21 21 = true := by decide +kernel
theorem cOk22 : fnB E0 Go.Proofs.Tryz.f22 22 = true := by decide +kernel
theorem cOk23 : fnB E0 Go.Proofs.Tryz.f23 23 = true := by decide +kernel
theorem cOk24 : fnB E0 Go.Proofs.Tryz.f24 24 = true := by decide +kernel
theorem cOk29 : fnB E0 Go.Proofs.Tryz.f29 29 = true := by decide +kernel
theorem cOk30 : fnB E0 Go.Proofs.Tryz.f30 30 = true := by decide +kernel
theorem cOk31 : fnB E0 Go.Proofs.Tryz.f31 31 = true := by decide +kernel
theorem cOk32 : fnB E0 Go.Proofs.Tryz.f32 32 = true := by decide +kernel
theorem cOk33 : fnB E0 Go.Proofs.Tryz.f33 33 = true := by decide +kernel
theorem cOk34 : fnB E0 Go.Proofs.Tryz.f34 34 = true := by decide +kernel
theorem cOk35 : fnB E0 Go.Proofs.Tryz.f35 35 = true := by decide +kernel
theorem cOk36 : fnB E0 Go.Proofs.Tryz.f36 36 = true := by decide +kernel
theorem cOk37 : fnB E0 Go.Proofs.Tryz.f37 37 = true := by decide +kernel
theorem cOk38 : fnB E0 Go.Proofs.Tryz.f38 38 = true := by decide +kernel
theorem cOk39 : fnB E0 Go.Proofs.Tryz.f39 39 = true := by decide +kernel
theorem cOk40 : fnB E0 Go.Proofs.Tryz.f40 40 = true := by decide +kernel
theorem cOk41 : fnB E0 Go.Proofs.Tryz.f41 41 = true := by decide +kernel
theorem cOk42 : fnB E0 Go.Proofs.Tryz.f42 42 = true := by decide +kernel
theorem cOk43 : fnB E0 Go.Proofs.Tryz.f43 43 = true := by decide +kernel
theorem cOk44 : fnB E0 Go.Proofs.Tryz.f44 44 = true := by decide +kernel
theorem cOk45 : fnB E0 Go.Proofs.Tryz.f45 45 = true := by decide +kernel
theorem cOk46 : fnB E0 Go.Proofs.Tryz.f46 46 = true := by decide +kernel
theorem cOk48 : fnB E0 Go.Proofs.Tryz.f48 48 = true := by decide +kernel
theorem cOk49 : fnB E0 Go.Proofs.Tryz.f49 49 = true := by decide +kernel
theorem cOk50 : fnB E0 Go.Proofs.Tryz.f50 50 = true := by decide +kernel
theorem cOk51 : fnB E0 Go.Proofs.Tryz.f51 51 = true := by decide +kernel
theorem cOk52 : fnB E0 Go.Proofs.Tryz.f52 52 = true := by decide +kernel
theorem cOk53 : fnB E0 Go.Proofs.Tryz.f53 53 = true := by decide +kernel
theorem cOk54 : fnB E0 Go.Proofs.Tryz.f54 54 = true := by decide +kernel
theorem cOk55 : fnB E0 Go.Proofs.Tryz.f55 55 = true := by decide +kernel
theorem cOk56 : fnB E0 Go.Proofs.Tryz.f56 56 = true := by decide +kernel
theorem cOk57 : fnB E0 Go.Proofs.Tryz.f57 57 = true := by decide +kernel
theorem cOk58 : fnB E0 Go.Proofs.Tryz.f58 58 = true := by decide +kernel
theorem cOk59 : fnB E0 Go.Proofs.Tryz.f59 59 = true := by decide +kernel
theorem cOk62 : fnB E0 Go.Proofs.Tryz.f62 62 = true := by decide +kernel
theorem cOk63 : fnB E0 Go.Proofs.Tryz.f63 63 = true := by decide +kernel
theorem cOk70 : fnB E0 Go.Proofs.Tryz.f70 70 = true := by decide +kernel
theorem cOk71 : fnB E0 Go.Proofs.Tryz.f71 71 = true := by decide +kernel
theorem cOk72 : fnB E0 Go.Proofs.Tryz.f72 72 = true := by decide +kernel
theorem cOk73 : fnB E0 Go.Proofs.Tryz.f73 73 = true := by decide +kernel
theorem cOk74 : fnB E0 Go.Proofs.Tryz.f74 74 = true := by decide +kernel
theorem cOk75 : fnB E0 Go.Proofs.Tryz.f75 75 = true := by decide +kernel
theorem cOk76 : fnB E0 Go.Proofs.Tryz.f76 76 = true := by decide +kernel
theorem cOk77 : fnB E0 Go.Proofs.Tryz.f77 77 = true := by decide +kernel
theorem cOk78 : fnB E0 Go.Proofs.Tryz.f78 78 = true := by decide +kernel
theorem cOk79 : fnB E0 Go.Proofs.Tryz.f79 79 = true := by decide +kernel
theorem cOk80 : fnB E0 Go.Proofs.Tryz.f80 80 = true := by decide +kernel
theorem cOk81 : fnB E0 Go.Proofs.Tryz.f81 81 = true := by decide +kernel
theorem cOk82 : fnB E0 Go.Proofs.Tryz.f82 82 = true := by decide +kernel
theorem cOk83 : fnB E0 Go.Proofs.Tryz.f83 83 = true := by decide +kernel
theorem cOk84 : fnB E0 Go.Proofs.Tryz.f84 84 = true := by decide +kernel
theorem cOk85 : fnB E0 Go.Proofs.Tryz.f85 85 = true := by decide +kernel
theorem cOk86 : fnB E0 Go.Proofs.Tryz.f86 86 = true := by decide +kernel
theorem cOk87 : fnB E0 Go.Proofs.Tryz.f87 87 = true := by decide +kernel
theorem cOk88 : fnB E0 Go.Proofs.Tryz.f88 88 = true := by decide +kernel
theorem cOk89 : fnB E0 Go.Proofs.Tryz.f89 89 = true := by decide +kernel
theorem cOk90 : fnB E0 Go.Proofs.Tryz.f90 90 = true := by decide +kernel
theorem cOk91 : fnB E0 Go.Proofs.Tryz.f91 91 = true := by decide +kernel
theorem cOk92 : fnB E0 Go.Proofs.Tryz.f92 92 = true := by decide +kernel
theorem cOk93 : fnB E0 Go.Proofs.Tryz.f93 93 = true := by decide +kernel
theorem cOk94 : fnB E0 Go.Proofs.Tryz.f94 94 = true := by decide +kernel
theorem cOk95 : fnB E0 Go.Proofs.Tryz.f95 95 = true := by decide +kernel
theorem cOk96 : fnB E0 Go.Proofs.Tryz.f96 96 = true := by decide +kernel
theorem cOk97 : fnB E0 Go.Proofs.Tryz.f97 97 = true := by decide +kernel
theorem cOk98 : fnB E0 Go.Proofs.Tryz.f98 98 = true := by decide +kernel
theorem cOk99 : fnB E0 Go.Proofs.Tryz.f99 99 = true := by decide +kernel
theorem cOk100 : fnB E0 Go.Proofs.Tryz.f100 100 = true := by decide +kernel
theorem cOk101 : fnB E0 Go.Proofs.Tryz.f101 101 = true := by decide +kernel
theorem cOk102 : fnB E0 Go.Proofs.Tryz.f102 102 = true := by decide +kernel
theorem cOk103 : fnB E0 Go.Proofs.Tryz.f103 103 = true := by decide +kernel
theorem cOk104 : fnB E0 Go.Proofs.Tryz.f104 104 = true := by decide +kernel
theorem cOk105 : fnB E0 Go.Proofs.Tryz.f105 105 = true := by decide +kernel
theorem cOk106 : fnB E0 Go.Proofs.Tryz.f106 106 = true := by decide +kernel
theorem cOk107 : fnB E0 Go.Proofs.Tryz.f107 107 = true := by decide +kernel
theorem cOk108 : fnB E0 Go.Proofs.Tryz.f108 108 = true := by decide +kernel
theorem cOk109 : fnB E0 Go.Proofs.Tryz.f109 109 = true := by decide +kernel
theorem cOk110 : fnB E0 Go.Proofs.Tryz.f110 110 = true := by decide +kernel
theorem cOk111 : fnB E0 Go.Proofs.Tryz.f111 111 = true := by decide +kernel
theorem cOk112 : fnB E0 Go.Proofs.Tryz.f112 112 = true := by decide +kernel
theorem cOk113 : fnB E0 Go.Proofs.Tryz.f113 113 = true := by decide +kernel
theorem cOk114 : fnB E0 Go.Proofs.Tryz.f114 114 = true := by decide +kernel
theorem cOk115 : fnB E0 Go.Proofs.Tryz.f115 115 = true := by decide +kernel
theorem cOk116 : fnB E0 Go.Proofs.Tryz.f116 116 = true := by decide +kernel
theorem cOk117 : fnB E0 Go.Proofs.Tryz.f117 117 = true := by decide +kernel
theorem cOk118 : fnB E0 Go.Proofs.Tryz.f118 118 = true := by decide +kernel
theorem cOk119 : fnB E0 Go.Proofs.Tryz.f119 119 = true := by decide +kernel
theorem cOk120 : fnB E0 Go.Proofs.Tryz.f120 120 = true := by decide +kernel
theorem cOk121 : fnB E0 Go.Proofs.Tryz.f121 121 = true := by decide +kernel
theorem cOk122 : fnB E0 Go.Proofs.Tryz.f122 122 = true := by decide +kernel
theorem cOk123 : fnB E0 Go.Proofs.Tryz.f123 123 = true := by decide +kernel
theorem cOk124 : fnB E0 Go.Proofs.Tryz.f124 124 = true := by decide +kernel
theorem cOk125 : fnB E0 Go.Proofs.Tryz.f125 125 = true := by decide +kernel
theorem cOk126 : fnB E0 Go.Proofs.Tryz.f126 126 = true := by decide +kernel
theorem cOk127 : fnB E0 Go.Proofs.Tryz.f127 127 = true := by decide +kernel
theorem cOk128 : fnB E0 Go.Proofs.Tryz.f128 128 = true := by decide +kernel
theorem cOk131 : fnB E0 Go.Proofs.Tryz.f131 131 = true := by decide +kernel
theorem cOk133 : fnB E0 Go.Proofs.Tryz.f133 133 = true := by decide +kernel
theorem cOk134 : fnB E0 Go.Proofs.Tryz.f134 134 = true := by decide +kernel
theorem cOk136 : fnB E0 Go.Proofs.Tryz.f136 136 = true := by decide +kernel
theorem cOk138 : fnB E0 Go.Proofs.Tryz.f138 138 = true := by decide +kernel
theorem cOk139 : fnB E0 Go.Proofs.Tryz.f139 139 = true := by decide +kernel
theorem cOk140 : fnB E0 Go.Proofs.Tryz.f140 140 = true := by decide +kernel
theorem cOk141 : fnB E0 Go.Proofs.Tryz.f141 141 = true := by decide +kernel
theorem cOk142 : fnB E0 Go.Proofs.Tryz.f142 142 = true := by decide +kernel
theorem cOk143 : fnB E0 Go.Proofs.Tryz.f143 143 = true := by decide +kernel
theorem cOk144 : fnB E0 Go.Proofs.Tryz.f144 144 = true := by decide +kernel
theorem cOk145 : fnB E0 Go.Proofs.Tryz.f145 145 = true := by decide +kernel
theorem cOk146 : fnB E0 Go.Proofs.Tryz.f146 146 = true := by decide +kernel
theorem cOk147 : fnB E0 Go.Proofs.Tryz.f147 147 = true := by decide +kernel
theorem cOk148 : fnB E0 Go.Proofs.Tryz.f148 148 = true := by decide +kernel
theorem cOk149 : fnB E0 Go.Proofs.Tryz.f149 149 = true := by decide +kernel
theorem cOk150 : fnB E0 Go.Proofs.Tryz.f150 150 = true := by decide +kernel
theorem cOk151 : fnB E0 Go.Proofs.Tryz.f151 151 = true := by decide +kernel
theorem cOk152 : fnB E0 Go.Proofs.Tryz.f152 152 = true := by decide +kernel
theorem cOk153 : fnB E0 Go.Proofs.Tryz.f153 153 = true := by decide +kernel
theorem cOk154 : fnB E0 Go.Proofs.Tryz.f154 154 = true := by decide +kernel
theorem cOk155 : fnB E0 Go.Proofs.Tryz.f155 155 = true := by decide +kernel
theorem cOk156 : fnB E0 Go.Proofs.Tryz.f156 156 = true := by decide +kernel
theorem cOk157 : fnB E0 Go.Proofs.Tryz.f157 157 = true := by decide +kernel
theorem cOk158 : fnB E0 Go.Proofs.Tryz.f158 158 = true := by decide +kernel
theorem cOk159 : fnB E0 Go.Proofs.Tryz.f159 159 = true := by decide +kernel
theorem cOk160 : fnB E0 Go.Proofs.Tryz.f160 160 = true := by decide +kernel
theorem cOk161 : fnB E0 Go.Proofs.Tryz.f161 161 = true := by decide +kernel
theorem cOk162 : fnB E0 Go.Proofs.Tryz.f162 162 = true := by decide +kernel
theorem cOk163 : fnB E0 Go.Proofs.Tryz.f163 163 = true := by decide +kernel
theorem cOk164 : fnB E0 Go.Proofs.Tryz.f164 164 = true := by decide +kernel
theorem cOk165 : fnB E0 Go.Proofs.Tryz.f165 165 = true := by decide +kernel
theorem cOk166 : fnB E0 Go.Proofs.Tryz.f166 166 = true := by decide +kernel
theorem cOk167 : fnB E0 Go.Proofs.Tryz.f167 167 = true := by decide +kernel
theorem cOk168 : fnB E0 Go.Proofs.Tryz.f168 168 = true := by decide +kernel
theorem cOk169 : fnB E0 Go.Proofs.Tryz.f169 169 = true := by decide +kernel
theorem cOk170 : fnB E0 Go.Proofs.Tryz.f170 170 = true := by decide +kernel
theorem cOk171 : fnB E0 Go.Proofs.Tryz.f171 171 = true := by decide +kernel
theorem cOk172 : fnB E0 Go.Proofs.Tryz.f172 172 = true := by decide +kernel
theorem cOk173 : fnB E0 Go.Proofs.Tryz.f173 173 = true := by decide +kernel
theorem cOk174 : fnB E0 Go.Proofs.Tryz.f174 174 = true := by decide +kernel
theorem cOk175 : fnB E0 Go.Proofs.Tryz.f175 175 = true := by decide +kernel
theorem cOk176 : fnB E0 Go.Proofs.Tryz.f176 176 = true := by decide +kernel
theorem cOk177 : fnB E0 Go.Proofs.Tryz.f177 177 = true := by decide +kernel
theorem cOk178 : fnB E0 Go.Proofs.Tryz.f178 178 = true := by decide +kernel
theorem cOk179 : fnB E0 Go.Proofs.Tryz.f179 179 = true := by decide +kernel
theorem cOk180 : fnB E0 Go.Proofs.Tryz.f180 180 = true := by decide +kernel
theorem cOk181 : fnB E0 Go.Proofs.Tryz.f181 181 = true := by decide +kernel
theorem cOk182 : fnB E0 Go.Proofs.Tryz.f182 182 = true := by decide +kernel
theorem cOk183 : fnB E0 Go.Proofs.Tryz.f183 183 = true := by decide +kernel
theorem cOk184 : fnB E0 Go.Proofs.Tryz.f184 184 = true := by decide +kernel
theorem cOk185 : fnB E0 Go.Proofs.Tryz.f185 185 = true := by decide +kernel
theorem cOk186 : fnB E0 Go.Proofs.Tryz.f186 186 = true := by decide +kernel
theorem cOk187 : fnB E0 Go.Proofs.Tryz.f187 187 = true := by decide +kernel
theorem cOk188 : fnB E0 Go.Proofs.Tryz.f188 188 = true := by decide +kernel
theorem cOk189 : fnB E0 Go.Proofs.Tryz.f189 189 = true := by decide +kernel
theorem cOk190 : fnB E0 Go.Proofs.Tryz.f190 190 = true := by decide +kernel
theorem cOk191 : fnB E0 Go.Proofs.Tryz.f191 191 = true := by decide +kernel
theorem cOk192 : fnB E0 Go.Proofs.Tryz.f192 192 = true := by decide +kernel
theorem cOk193 : fnB E0 Go.Proofs.Tryz.f193 193 = true := by decide +kernel
theorem cOk194 : fnB E0 Go.Proofs.Tryz.f194 194 = true := by decide +kernel
theorem cOk195 : fnB E0 Go.Proofs.Tryz.f195 195 = true := by decide +kernel
theorem cOk196 : fnB E0 Go.Proofs.Tryz.f196 196 = true := by decide +kernel
theorem cOk197 : fnB E0 Go.Proofs.Tryz.f197 197 = true := by decide +kernel
theorem cOk198 : fnB E0 Go.Proofs.Tryz.f198 198 = true := by decide +kernel
theorem cOk199 : fnB E0 Go.Proofs.Tryz.f199 199 = true := by decide +kernel
theorem cOk200 : fnB E0 Go.Proofs.Tryz.f200 200 = true := by decide +kernel
theorem cOk201 : fnB E0 Go.Proofs.Tryz.f201 201 = true := by decide +kernel
theorem cOk202 : fnB E0 Go.Proofs.Tryz.f202 202 = true := by decide +kernel
theorem cOk203 : fnB E0 Go.Proofs.Tryz.f203 203 = true := by decide +kernel
theorem cOk204 : fnB E0 Go.Proofs.Tryz.f204 204 = true := by decide +kernel
theorem cOk205 : fnB E0 Go.Proofs.Tryz.f205 205 = true := by decide +kernel
theorem cOk206 : fnB E0 Go.Proofs.Tryz.f206 206 = true := by decide +kernel
theorem cOk207 : fnB E0 Go.Proofs.Tryz.f207 207 = true := by decide +kernel
theorem cOk208 : fnB E0 Go.Proofs.Tryz.f208 208 = true := by decide +kernel
theorem cOk209 : fnB E0 Go.Proofs.Tryz.f209 209 = true := by decide +kernel
theorem cOk210 : fnB E0 Go.Proofs.Tryz.f210 210 = true := by decide +kernel
theorem cOk215 : fnB E0 Go.Proofs.Tryz.f215 215 = true := by decide +kernel
theorem cOk216 : fnB E0 Go.Proofs.Tryz.f216 216 = true := by decide +kernel
theorem cOk217 : fnB E0 Go.Proofs.Tryz.f217 217 = true := by decide +kernel
theorem cOk221 : fnB E0 Go.Proofs.Tryz.f221 221 = true := by decide +kernel
theorem cOk224 : fnB E0 Go.Proofs.Tryz.f224 224 = true := by decide +kernel
theorem cOk225 : fnB E0 Go.Proofs.Tryz.f225 225 = true := by decide +kernel
theorem cOk226 : fnB E0 Go.Proofs.Tryz.f226 226 = true := by decide +kernel
theorem cOk227 : fnB E0 Go.Proofs.Tryz.f227 227 = true := by decide +kernel
theorem cOk228 : fnB E0 Go.Proofs.Tryz.f228 228 = true := by decide +kernel
theorem cOk229 : fnB E0 Go.Proofs.Tryz.f229 229 = true := by decide +kernel
theorem cOk230 : fnB E0 Go.Proofs.Tryz.f230 230 = true := by decide +kernel
theorem cOk231 : fnB E0 Go.Proofs.Tryz.f231 231 = true := by decide +kernel
theorem cOk232 : fnB E0 Go.Proofs.Tryz.f232 232 = true := by decide +kernel
theorem cOk233 : fnB E0 Go.Proofs.Tryz.f233 233 = true := by decide +kernel
theorem cOk234 : fnB E0 Go.Proofs.Tryz.f234 234 = true := by decide +kernel
theorem cOk235 : fnB E0 Go.Proofs.Tryz.f235 235 = true := by decide +kernel
theorem cOk236 : fnB E0 Go.Proofs.Tryz.f236 236 = true := by decide +kernel
theorem cOk237 : fnB E0 Go.Proofs.Tryz.f237 237 = true := by decide +kernel
theorem cOk238 : fnB E0 Go.Proofs.Tryz.f238 238 = true := by decide +kernel
theorem cOk239 : fnB E0 Go.Proofs.Tryz.f239 239 = true := by decide +kernel
theorem cOk240 : fnB E0 Go.Proofs.Tryz.f240 240 = true := by decide +kernel
theorem cOk241 : fnB E0 Go.Proofs.Tryz.f241 241 = true := by decide +kernel
theorem cOk242 : fnB E0 Go.Proofs.Tryz.f242 242 = true := by decide +kernel
theorem cOk243 : fnB E0 Go.Proofs.Tryz.f243 243 = true := by decide +kernel
theorem cOk244 : fnB E0 Go.Proofs.Tryz.f244 244 = true := by decide +kernel
theorem cOk245 : fnB E0 Go.Proofs.Tryz.f245 245 = true := by decide +kernel
theorem cOk246 : fnB E0 Go.Proofs.Tryz.f246 246 = true := by decide +kernel
theorem cOk247 : fnB E0 Go.Proofs.Tryz.f247 247 = true := by decide +kernel
theorem cOk248 : fnB E0 Go.Proofs.Tryz.f248 248 = true := by decide +kernel
theorem cOk249 : fnB E0 Go.Proofs.Tryz.f249 249 = true := by decide +kernel
theorem cOk250 : fnB E0 Go.Proofs.Tryz.f250 250 = true := by decide +kernel
theorem cOk251 : fnB E0 Go.Proofs.Tryz.f251 251 = true := by decide +kernel
theorem cOk252 : fnB E0 Go.Proofs.Tryz.f252 252 = true := by decide +kernel
theorem cOk253 : fnB E0 Go.Proofs.Tryz.f253 253 = true := by decide +kernel
theorem cOk254 : fnB E0 Go.Proofs.Tryz.f254 254 = true := by decide +kernel
theorem cOk255 : fnB E0 Go.Proofs.Tryz.f255 255 = true := by decide +kernel
theorem cOk256 : fnB E0 Go.Proofs.Tryz.f256 256 = true := by decide +kernel
theorem cOk257 : fnB E0 Go.Proofs.Tryz.f257 257 = true := by decide +kernel
theorem cOk258 : fnB E0 Go.Proofs.Tryz.f258 258 = true := by decide +kernel
theorem cOk259 : fnB E0 Go.Proofs.Tryz.f259 259 = true := by decide +kernel
theorem cOk260 : fnB E0 Go.Proofs.Tryz.f260 260 = true := by decide +kernel
theorem cOk261 : fnB E0 Go.Proofs.Tryz.f261 261 = true := by decide +kernel
theorem cOk265 : fnB E0 Go.Proofs.Tryz.f265 265 = true := by decide +kernel
theorem cOk266 : fnB E0 Go.Proofs.Tryz.f266 266 = true := by decide +kernel
theorem cOk267 : fnB E0 Go.Proofs.Tryz.f267 267 = true := by decide +kernel
theorem cOk268 : fnB E0 Go.Proofs.Tryz.f268 268 = true := by decide +kernel
theorem cOk269 : fnB E0 Go.Proofs.Tryz.f269 269 = true := by decide +kernel
theorem cOk274 : fnB E0 Go.Proofs.Tryz.f274 274 = true := by decide +kernel
theorem cOk275 : fnB E0 Go.Proofs.Tryz.f275 275 = true := by decide +kernel
theorem cOk276 : fnB E0 Go.Proofs.Tryz.f276 276 = true := by decide +kernel
theorem cOk277 : fnB E0 Go.Proofs.Tryz.f277 277 = true := by decide +kernel
theorem cOk279 : fnB E0 Go.Proofs.Tryz.f279 279 = true := by decide +kernel
theorem cOk280 : fnB E0 Go.Proofs.Tryz.f280 280 = true := by decide +kernel
theorem cOk281 : fnB E0 Go.Proofs.Tryz.f281 281 = true := by decide +kernel
theorem cOk282 : fnB E0 Go.Proofs.Tryz.f282 282 = true := by decide +kernel
theorem cOk283 : fnB E0 Go.Proofs.Tryz.f283 283 = true := by decide +kernel
theorem cOk284 : fnB E0 Go.Proofs.Tryz.f284 284 = true := by decide +kernel
theorem cOk287 : fnB E0 Go.Proofs.Tryz.f287 287 = true := by decide +kernel
theorem cOk288 : fnB E0 Go.Proofs.Tryz.f288 288 = true := by decide +kernel
theorem cOk293 : fnB E0 Go.Proofs.Tryz.f293 293 = true := by decide +kernel
theorem cAll : gTree.All fun g fn => fnB E0 fn g = true := ⟨cOk148, ⟨cOk81, ⟨cOk41, ⟨cOk22, ⟨cOk14, ⟨cOk8, ⟨cOk6, ⟨cOk4, trivial, trivial⟩, ⟨cOk7, trivial, trivial⟩⟩, ⟨cOk10, ⟨cOk9, trivial, trivial⟩, ⟨cOk11, trivial, trivial⟩⟩⟩, ⟨cOk18, ⟨cOk16, ⟨cOk15, trivial, trivial⟩, ⟨cOk17, trivial, trivial⟩⟩, ⟨cOk20, ⟨cOk19, trivial, trivial⟩, ⟨cOk21, trivial, trivial⟩⟩⟩⟩, ⟨cOk34, ⟨cOk30, ⟨cOk24, ⟨cOk23, trivial, trivial⟩, ⟨cOk29, trivial, trivial⟩⟩, ⟨cOk32, ⟨cOk31, trivial, trivial⟩, ⟨cOk33, trivial, trivial⟩⟩⟩, ⟨cOk38, ⟨cOk36, ⟨cOk35, trivial, trivial⟩, ⟨cOk37, trivial, trivial⟩⟩, ⟨cOk40, ⟨cOk39, trivial, trivial⟩, trivial⟩⟩⟩⟩, ⟨cOk58, ⟨cOk50, ⟨cOk45, ⟨cOk43, ⟨cOk42, trivial, trivial⟩, ⟨cOk44, trivial, trivial⟩⟩, ⟨cOk48, ⟨cOk46, trivial, trivial⟩, ⟨cOk49, trivial, trivial⟩⟩⟩, ⟨cOk54, ⟨cOk52, ⟨cOk51, trivial, trivial⟩, ⟨cOk53, trivial, trivial⟩⟩, ⟨cOk56, ⟨cOk55, trivial, trivial⟩, ⟨cOk57, trivial, trivial⟩⟩⟩⟩, ⟨cOk74, ⟨cOk70, ⟨cOk62, ⟨cOk59, trivial, trivial⟩, ⟨cOk63, trivial, trivial⟩⟩, ⟨cOk72, ⟨cOk71, trivial, trivial⟩, ⟨cOk73, trivial, trivial⟩⟩⟩, ⟨cOk78, ⟨cOk76, ⟨cOk75, trivial, trivial⟩, ⟨cOk77, trivial, trivial⟩⟩, ⟨cOk80, ⟨cOk79, trivial, trivial⟩, trivial⟩⟩⟩⟩⟩, ⟨cOk112, ⟨cOk97, ⟨cOk89, ⟨cOk85, ⟨cOk83, ⟨cOk82, trivial, trivial⟩, ⟨cOk84, trivial, trivial⟩⟩, ⟨cOk87, ⟨cOk86, trivial, trivial⟩, ⟨cOk88, trivial, trivial⟩⟩⟩, ⟨cOk93, ⟨cOk91, ⟨cOk90, trivial, trivial⟩, ⟨cOk92, trivial, trivial⟩⟩, ⟨cOk95, ⟨cOk94, trivial, trivial⟩, ⟨cOk96, trivial, trivial⟩⟩⟩⟩, ⟨cOk105, ⟨cOk101, ⟨cOk99, ⟨cOk98, trivial, trivial⟩, ⟨cOk100, trivial, trivial⟩⟩, ⟨cOk103, ⟨cOk102, trivial, trivial⟩, ⟨cOk104, trivial, trivial⟩⟩⟩, ⟨cOk109, ⟨cOk107, ⟨cOk106, trivial, trivial⟩, ⟨cOk108, trivial, trivial⟩⟩, ⟨cOk111, ⟨cOk110, trivial, trivial⟩, trivial⟩⟩⟩⟩, ⟨cOk128, ⟨cOk120, ⟨cOk116, ⟨cOk114, ⟨cOk113, trivial, trivial⟩, ⟨cOk115, trivial, trivial⟩⟩, ⟨cOk118, ⟨cOk117, trivial, trivial⟩, ⟨cOk119, trivial, trivial⟩⟩⟩, ⟨cOk124, ⟨cOk122, ⟨cOk121, trivial, trivial⟩, ⟨cOk123, trivial, trivial⟩⟩, ⟨cOk126, ⟨cOk125, trivial, trivial⟩, ⟨cOk127, trivial, trivial⟩⟩⟩⟩, ⟨cOk141, ⟨cOk136, ⟨cOk133, ⟨cOk131, trivial, trivial⟩, ⟨cOk134, trivial, trivial⟩⟩, ⟨cOk139, ⟨cOk138, trivial, trivial⟩, ⟨cOk140, trivial, trivial⟩⟩⟩, ⟨cOk145, ⟨cOk143, ⟨cOk142, trivial, trivial⟩, ⟨cOk144, trivial, trivial⟩⟩, ⟨cOk147, ⟨cOk146, trivial, trivial⟩, trivial⟩⟩⟩⟩⟩⟩, ⟨cOk210, ⟨cOk179, ⟨cOk164, ⟨cOk156, ⟨cOk152, ⟨cOk150, ⟨cOk149, trivial, trivial⟩, ⟨cOk151, trivial, trivial⟩⟩, ⟨cOk154, ⟨cOk153, trivial, trivial⟩, ⟨cOk155, trivial, trivial⟩⟩⟩, ⟨cOk160, ⟨cOk158, ⟨cOk157, trivial, trivial⟩, ⟨cOk159, trivial, trivial⟩⟩, ⟨cOk162, ⟨cOk161, trivial, trivial⟩, ⟨cOk163, trivial, trivial⟩⟩⟩⟩, ⟨cOk172, ⟨cOk168, ⟨cOk166, ⟨cOk165, trivial, trivial⟩, ⟨cOk167, trivial, trivial⟩⟩, ⟨cOk170, ⟨cOk169, trivial, trivial⟩, ⟨cOk171, trivial, trivial⟩⟩⟩, ⟨cOk176, ⟨cOk174, ⟨cOk173, trivial, trivial⟩, ⟨cOk175, trivial, trivial⟩⟩, ⟨cOk178, ⟨cOk177, trivial, trivial⟩, trivial⟩⟩⟩⟩, ⟨cOk195, ⟨cOk187, ⟨cOk183, ⟨cOk181, ⟨cOk180, trivial, trivial⟩, ⟨cOk182, trivial, trivial⟩⟩, ⟨cOk185, ⟨cOk184, trivial, trivial⟩, ⟨cOk186, trivial, trivial⟩⟩⟩, ⟨cOk191, ⟨cOk189, ⟨cOk188, trivial, trivial⟩, ⟨cOk190, trivial, trivial⟩⟩, ⟨cOk193, ⟨cOk192, trivial, trivial⟩, ⟨cOk194, trivial, trivial⟩⟩⟩⟩, ⟨cOk203, ⟨cOk199, ⟨cOk197, ⟨cOk196, trivial, trivial⟩, ⟨cOk198, trivial, trivial⟩⟩, ⟨cOk201, ⟨cOk200, trivial, trivial⟩, ⟨cOk202, trivial, trivial⟩⟩⟩, ⟨cOk207, ⟨cOk205, ⟨cOk204, trivial, trivial⟩, ⟨cOk206, trivial, trivial⟩⟩, ⟨cOk209, ⟨cOk208, trivial, trivial⟩, trivial⟩⟩⟩⟩⟩, ⟨cOk250, ⟨cOk235, ⟨cOk227, ⟨cOk221, ⟨cOk216, ⟨cOk215, trivial, trivial⟩, ⟨cOk217, trivial, trivial⟩⟩, ⟨cOk225, ⟨cOk224, trivial, trivial⟩, ⟨cOk226, trivial, trivial⟩⟩⟩, ⟨cOk231, ⟨cOk229, ⟨cOk228, trivial, trivial⟩, ⟨cOk230, trivial, trivial⟩⟩, ⟨cOk233, ⟨cOk232, trivial, trivial⟩, ⟨cOk234, trivial, trivial⟩⟩⟩⟩, ⟨cOk243, ⟨cOk239, ⟨cOk237, ⟨cOk236, trivial, trivial⟩, ⟨cOk238, trivial, trivial⟩⟩, ⟨cOk241, ⟨cOk240, trivial, trivial⟩, ⟨cOk242, trivial, trivial⟩⟩⟩, ⟨cOk247, ⟨cOk245, ⟨cOk244, trivial, trivial⟩, ⟨cOk246, trivial, trivial⟩⟩, ⟨cOk249, ⟨cOk248, trivial, trivial⟩, trivial⟩⟩⟩⟩, ⟨cOk268, ⟨cOk258, ⟨cOk254, ⟨cOk252, ⟨cOk251, trivial, trivial⟩, ⟨cOk253, trivial, trivial⟩⟩, ⟨cOk256, ⟨cOk255, trivial, trivial⟩, ⟨cOk257, trivial, trivial⟩⟩⟩, ⟨cOk265, ⟨cOk260, ⟨cOk259, trivial, trivial⟩, ⟨cOk261, trivial, trivial⟩⟩, ⟨cOk267, ⟨cOk266, trivial, trivial⟩, trivial⟩⟩⟩, ⟨cOk281, ⟨cOk276, ⟨cOk274, ⟨cOk269, trivial, trivial⟩, ⟨cOk275, trivial, trivial⟩⟩, ⟨cOk279, ⟨cOk277, trivial, trivial⟩, ⟨cOk280, trivial, trivial⟩⟩⟩, ⟨cOk287, ⟨cOk283, ⟨cOk282, trivial, trivial⟩, ⟨cOk284, trivial, trivial⟩⟩, ⟨cOk293, ⟨cOk288, trivial, trivial⟩, trivial⟩⟩⟩⟩⟩⟩⟩
theorem iAll : iTree.All fun g zb => ∀ (args : List AV) (h : Heap) (f : K) (r : Fin2), insertOp zb h args f = some r →
    (∃ fn, Go.Proofs.Tryz.prog.funcs[g]? = some fn ∧ fn.name ≠ "runtime.NumGoroutine" ∧ fn.body.isSome = true) ∧
    ∃ v h', f v h' = some r ∧ ∀ φ I w (cs : List Value), Sim φ I h w → RelL w φ I args cs → Calls Go.Proofs.Tryz.prog g cs.toArray w fun e w' => ∃ c, e = .returned c ∧ Post h φ I w v h' c w' := by
  exact ⟨ins_sound Go.Proofs.insWalk218 Go.Proofs.Tryz.underlying37 Go.Proofs.Tryz.underlying3 (infoB_bytes (zero := [.int .i64 0, .int .i64 0, .int .i64 0, .int .i64 0, .int .i64 0, .nil, .str [], .nil]) (by decide +kernel) (by decide +kernel)) (by decide), ⟨ins_sound Go.Proofs.insWalk137 Go.Proofs.Tryz.underlying30 Go.Proofs.Tryz.underlying3 (infoB_bytes (zero := [.int .i64 0, .int .i64 0, .int .i64 0]) (by decide +kernel) (by decide +kernel)) (by decide), trivial, trivial⟩, ⟨ins_sound Go.Proofs.insWalk278 Go.Proofs.Tryz.underlying52 Go.Proofs.Tryz.underlying3 (infoB_bytes (zero := [.str [], .int .i64 0]) (by decide +kernel) (by decide +kernel)) (by decide), trivial, trivial⟩⟩
theorem base : EnvBase Go.Proofs.Tryz.prog E0 where
  types := (types_of rfl tAll).1
  fields := (types_of rfl tAll).2
  fns := fun g fn h => Tr.get_all gAll h
  code := fun g fn h => Tr.get_all cAll h
  ins := fun g zb h => Tr.get_all iAll h
  mixed := rfl
end Go.Den
