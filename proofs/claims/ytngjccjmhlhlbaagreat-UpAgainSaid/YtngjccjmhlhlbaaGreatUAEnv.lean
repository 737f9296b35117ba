/- What is asked of the program's functions and types, by check -/
import Derived.Test.YtngjccjmhlhlbaaGreatProg
import Derived.Test.YtngjccjmhlhlbaaGreatDenZm
import Derived.Test.YtngjccjmhlhlbaaGreatIns
import Derived.Test.YtngjccjmhlhlbaaGreatEqs
set_option linter.unusedSimpArgs false
set_option linter.unusedSectionVars false
set_option linter.unusedVariables false
namespace Go.Den
open Go
set_option maxRecDepth 100000
variable [Val]
def ti1 : TI := ⟨.func, 1, [.nilf], false⟩
def ti2 : TI := ⟨(.int .i64), 1, [.int .i64 0], false⟩
def ti3 : TI := ⟨(.int .i64), 1, [.int .i64 0], false⟩
def ti4 : TI := ⟨.bool, 1, [.bool false], false⟩
def ti5 : TI := ⟨(.int .u8), 1, [.int .u8 0], false⟩
def ti6 : TI := ⟨(.int .u8), 1, [.int .u8 0], false⟩
def ti7 : TI := ⟨(.struct [(0, 1), (1, 1), (2, 1), (3, 1)]), 4, [.int .i64 0, .int .i64 0, .bool false, .int .u8 0], false⟩
def ti8 : TI := ⟨(.struct [(0, 1), (1, 1), (2, 1), (3, 1)]), 4, [.int .i64 0, .int .i64 0, .bool false, .int .u8 0], false⟩
def ti9 : TI := ⟨.str, 1, [.str []], false⟩
def ti10 : TI := ⟨.str, 1, [.str []], false⟩
def ti11 : TI := ⟨.str, 1, [.str []], false⟩
def ti12 : TI := ⟨(.int .u64), 1, [.int .u64 0], false⟩
def ti13 : TI := ⟨(.struct [(0, 1), (1, 1)]), 2, [.str [], .int .u64 0], false⟩
def ti14 : TI := ⟨(.struct [(0, 1), (1, 1)]), 2, [.str [], .int .u64 0], false⟩
def ti15 : TI := ⟨.ptr, 1, [.nilp], false⟩
def ti16 : TI := ⟨.ptr, 1, [.nilp], false⟩
def ti17 : TI := ⟨.ptr, 1, [.nilp], false⟩
def ti18 : TI := ⟨(.struct [(0, 1)]), 1, [.nilp], false⟩
def ti19 : TI := ⟨(.struct [(0, 1)]), 1, [.nilp], false⟩
def ti21 : TI := ⟨(.int .i32), 1, [.int .i32 0], false⟩
def ti22 : TI := ⟨(.slice 1 1 [.int .u8 0] true), 1, [.nil], false⟩
def ti23 : TI := ⟨(.struct [(0, 1), (1, 1), (2, 1), (3, 1), (4, 1), (5, 1), (6, 1)]), 7, [.int .i64 0, .str [], .str [], .int .i64 0, .int .i64 0, .int .i64 0, .nil], false⟩
def ti24 : TI := ⟨(.struct [(0, 1), (1, 1), (2, 1), (3, 1), (4, 1), (5, 1), (6, 1)]), 7, [.int .i64 0, .str [], .str [], .int .i64 0, .int .i64 0, .int .i64 0, .nil], false⟩
def ti25 : TI := ⟨(.slice 7 88 [.int .i64 0, .str [], .str [], .int .i64 0, .int .i64 0, .int .i64 0, .nil] false), 1, [.nil], false⟩
def ti26 : TI := ⟨(.slice 1 8 [.int .i64 0] false), 1, [.nil], false⟩
def ti27 : TI := ⟨(.struct [(0, 1), (1, 1)]), 2, [.nil, .int .i64 0], false⟩
def ti28 : TI := ⟨(.struct [(0, 1), (1, 1)]), 2, [.nil, .int .i64 0], false⟩
def ti29 : TI := ⟨(.slice 4 48 [.int .i64 0, .int .i64 0, .int .i64 0, .nil] false), 1, [.nil], false⟩
def ti30 : TI := ⟨(.slice 3 24 [.int .i64 0, .int .i64 0, .int .i64 0] false), 1, [.nil], false⟩
def ti31 : TI := ⟨(.struct [(0, 1), (1, 1), (2, 1), (3, 1)]), 4, [.int .i64 0, .nil, .nil, .int .i64 0], false⟩
def ti32 : TI := ⟨(.struct [(0, 1), (1, 1), (2, 1), (3, 1)]), 4, [.int .i64 0, .nil, .nil, .int .i64 0], false⟩
def ti33 : TI := ⟨(.struct [(0, 2), (2, 1), (3, 4)]), 7, [.nil, .int .i64 0, .nil, .int .i64 0, .nil, .nil, .int .i64 0], false⟩
def ti34 : TI := ⟨(.struct [(0, 2), (2, 1), (3, 4)]), 7, [.nil, .int .i64 0, .nil, .int .i64 0, .nil, .nil, .int .i64 0], false⟩
def ti36 : TI := ⟨.func, 1, [.nilf], false⟩
def ti37 : TI := ⟨(.slice 8 104 [.int .i64 0, .int .i64 0, .int .i64 0, .int .i64 0, .int .i64 0, .nil, .str [], .nil] false), 1, [.nil], false⟩
def ti38 : TI := ⟨(.struct [(0, 1), (1, 1), (2, 1), (3, 1)]), 4, [.int .i64 0, .int .i64 0, .int .i64 0, .nil], false⟩
def ti39 : TI := ⟨(.struct [(0, 1), (1, 1), (2, 1), (3, 1)]), 4, [.int .i64 0, .int .i64 0, .int .i64 0, .nil], false⟩
def ti40 : TI := ⟨.func, 1, [.nilf], false⟩
def ti41 : TI := ⟨.func, 1, [.nilf], false⟩
def ti42 : TI := ⟨(.int .i64), 1, [.int .i64 0], false⟩
def ti44 : TI := ⟨.func, 1, [.nilf], false⟩
def ti45 : TI := ⟨(.slice 1 16 [.str []] false), 1, [.nil], false⟩
def ti46 : TI := ⟨(.slice 2 16 [.int .i64 0, .int .i64 0] false), 1, [.nil], false⟩
def ti48 : TI := ⟨.func, 1, [.nilf], false⟩
def ti49 : TI := ⟨(.slice 2 32 [.int .i64 0, .nil] false), 1, [.nil], false⟩
def ti50 : TI := ⟨(.struct [(0, 1), (1, 1)]), 2, [.int .i64 0, .nil], false⟩
def ti51 : TI := ⟨(.struct [(0, 1), (1, 1)]), 2, [.int .i64 0, .nil], false⟩
def ti52 : TI := ⟨(.slice 2 24 [.str [], .int .i64 0] false), 1, [.nil], false⟩
def ti53 : TI := ⟨(.struct [(0, 1), (1, 1), (2, 1), (3, 1), (4, 2), (6, 1), (7, 1)]), 8, [.int .i64 0, .int .i64 0, .int .i64 0, .int .i64 0, .int .i64 0, .nil, .str [], .nil], false⟩
def ti54 : TI := ⟨(.struct [(0, 1), (1, 1), (2, 1), (3, 1), (4, 2), (6, 1), (7, 1)]), 8, [.int .i64 0, .int .i64 0, .int .i64 0, .int .i64 0, .int .i64 0, .nil, .str [], .nil], false⟩
def ti56 : TI := ⟨.func, 1, [.nilf], false⟩
def ti57 : TI := ⟨(.struct [(0, 1), (1, 1)]), 2, [.int .i64 0, .int .i64 0], false⟩
def ti58 : TI := ⟨(.struct [(0, 1), (1, 1)]), 2, [.int .i64 0, .int .i64 0], true⟩
def ti59 : TI := ⟨.func, 1, [.nilf], false⟩
def ti60 : TI := ⟨.func, 1, [.nilf], false⟩
def ti61 : TI := ⟨.func, 1, [.nilf], false⟩
def ti62 : TI := ⟨.func, 1, [.nilf], false⟩
def ti63 : TI := ⟨.func, 1, [.nilf], false⟩
def ti64 : TI := ⟨(.struct [(0, 1), (1, 1), (2, 1), (3, 1), (4, 1)]), 5, [.int .i64 0, .int .i64 0, .int .i64 0, .int .i64 0, .int .i64 0], false⟩
def ti65 : TI := ⟨(.struct [(0, 1), (1, 1), (2, 1), (3, 1), (4, 1)]), 5, [.int .i64 0, .int .i64 0, .int .i64 0, .int .i64 0, .int .i64 0], false⟩
def ti66 : TI := ⟨(.struct [(0, 1), (1, 1), (2, 5)]), 7, [.nil, .nil, .int .i64 0, .int .i64 0, .int .i64 0, .int .i64 0, .int .i64 0], false⟩
def ti67 : TI := ⟨(.struct [(0, 1), (1, 1), (2, 5)]), 7, [.nil, .nil, .int .i64 0, .int .i64 0, .int .i64 0, .int .i64 0, .int .i64 0], false⟩
def ti69 : TI := ⟨.func, 1, [.nilf], false⟩
def ti71 : TI := ⟨.func, 1, [.nilf], false⟩
def ti72 : TI := ⟨.func, 1, [.nilf], false⟩
def ti74 : TI := ⟨.func, 1, [.nilf], false⟩
def ti75 : TI := ⟨.func, 1, [.nilf], false⟩
def ti76 : TI := ⟨.func, 1, [.nilf], false⟩
def ti78 : TI := ⟨.func, 1, [.nilf], false⟩
def ti80 : TI := ⟨.func, 1, [.nilf], false⟩
def ti81 : TI := ⟨.func, 1, [.nilf], false⟩
def ti82 : TI := ⟨.func, 1, [.nilf], false⟩
def ti83 : TI := ⟨.func, 1, [.nilf], false⟩
def ti85 : TI := ⟨.func, 1, [.nilf], false⟩
def ti86 : TI := ⟨.func, 1, [.nilf], false⟩
def ti87 : TI := ⟨.func, 1, [.nilf], false⟩
def ti89 : TI := ⟨.func, 1, [.nilf], false⟩
def ti91 : TI := ⟨.func, 1, [.nilf], false⟩
def ti92 : TI := ⟨.func, 1, [.nilf], false⟩
def ti93 : TI := ⟨.func, 1, [.nilf], false⟩
def ti94 : TI := ⟨.func, 1, [.nilf], false⟩
def ti95 : TI := ⟨.func, 1, [.nilf], false⟩
def ti96 : TI := ⟨.func, 1, [.nilf], false⟩
def ti98 : TI := ⟨.func, 1, [.nilf], false⟩
def ti99 : TI := ⟨.func, 1, [.nilf], false⟩
def ti101 : TI := ⟨.func, 1, [.nilf], false⟩
def ti102 : TI := ⟨.func, 1, [.nilf], false⟩
def ti103 : TI := ⟨.func, 1, [.nilf], false⟩
def ti104 : TI := ⟨.func, 1, [.nilf], false⟩
def ti105 : TI := ⟨.func, 1, [.nilf], false⟩
def ti106 : TI := ⟨.func, 1, [.nilf], false⟩
def ti108 : TI := ⟨.func, 1, [.nilf], false⟩
def ti109 : TI := ⟨.func, 1, [.nilf], false⟩
def ti110 : TI := ⟨.func, 1, [.nilf], false⟩
def ti112 : TI := ⟨.func, 1, [.nilf], false⟩
def ti114 : TI := ⟨.func, 1, [.nilf], false⟩
def ti115 : TI := ⟨.func, 1, [.nilf], false⟩
def ti116 : TI := ⟨.func, 1, [.nilf], false⟩
def ti117 : TI := ⟨.func, 1, [.nilf], false⟩
def ti118 : TI := ⟨.func, 1, [.nilf], false⟩
def ti119 : TI := ⟨.func, 1, [.nilf], false⟩
def ti120 : TI := ⟨.func, 1, [.nilf], false⟩
def ti121 : TI := ⟨.func, 1, [.nilf], false⟩
def ti122 : TI := ⟨.func, 1, [.nilf], false⟩
def ti123 : TI := ⟨.func, 1, [.nilf], false⟩
def ti124 : TI := ⟨.func, 1, [.nilf], false⟩
def ti125 : TI := ⟨.func, 1, [.nilf], false⟩
def ti126 : TI := ⟨.func, 1, [.nilf], false⟩
def ti127 : TI := ⟨.func, 1, [.nilf], false⟩
def ti128 : TI := ⟨.func, 1, [.nilf], false⟩
def ti129 : TI := ⟨.func, 1, [.nilf], false⟩
def ti130 : TI := ⟨.func, 1, [.nilf], false⟩
def ti131 : TI := ⟨.func, 1, [.nilf], false⟩
def ti133 : TI := ⟨.func, 1, [.nilf], false⟩
def ti134 : TI := ⟨.func, 1, [.nilf], false⟩
def ti135 : TI := ⟨.func, 1, [.nilf], false⟩
def ti136 : TI := ⟨.func, 1, [.nilf], false⟩
def ti137 : TI := ⟨(.slice 1 8 [.int .i64 0] false), 1, [.nil], false⟩
def ti139 : TI := ⟨.func, 1, [.nilf], false⟩
def ti140 : TI := ⟨.func, 1, [.nilf], false⟩
def ti141 : TI := ⟨.func, 1, [.nilf], false⟩
def ti143 : TI := ⟨.func, 1, [.nilf], false⟩
def ti144 : TI := ⟨.func, 1, [.nilf], false⟩
def ti145 : TI := ⟨.func, 1, [.nilf], false⟩
def ti146 : TI := ⟨.func, 1, [.nilf], false⟩
def ti148 : TI := ⟨.func, 1, [.nilf], false⟩
def ti149 : TI := ⟨(.struct [(0, 2), (2, 1)]), 3, [.int .i64 0, .int .i64 0, .int .i64 0], false⟩
def ti150 : TI := ⟨(.struct [(0, 2), (2, 1)]), 3, [.int .i64 0, .int .i64 0, .int .i64 0], true⟩
def ti151 : TI := ⟨.func, 1, [.nilf], false⟩
def ti152 : TI := ⟨.func, 1, [.nilf], false⟩
def ti153 : TI := ⟨.func, 1, [.nilf], false⟩
def ti154 : TI := ⟨.func, 1, [.nilf], false⟩
def ti155 : TI := ⟨.func, 1, [.nilf], false⟩
def ti156 : TI := ⟨.func, 1, [.nilf], false⟩
def ti157 : TI := ⟨.func, 1, [.nilf], false⟩
def ti158 : TI := ⟨.func, 1, [.nilf], false⟩
def ti159 : TI := ⟨.func, 1, [.nilf], false⟩
def ti161 : TI := ⟨.func, 1, [.nilf], false⟩
def ti162 : TI := ⟨.func, 1, [.nilf], false⟩
def ti163 : TI := ⟨.func, 1, [.nilf], false⟩
def ti164 : TI := ⟨.func, 1, [.nilf], false⟩
def ti165 : TI := ⟨.func, 1, [.nilf], false⟩
def ti166 : TI := ⟨.func, 1, [.nilf], false⟩
def ti168 : TI := ⟨.func, 1, [.nilf], false⟩
def ti169 : TI := ⟨.func, 1, [.nilf], false⟩
def ti170 : TI := ⟨.func, 1, [.nilf], false⟩
def ti171 : TI := ⟨.func, 1, [.nilf], false⟩
def ti172 : TI := ⟨.func, 1, [.nilf], false⟩
def ti173 : TI := ⟨.func, 1, [.nilf], false⟩
def ti175 : TI := ⟨.func, 1, [.nilf], false⟩
def ti176 : TI := ⟨.func, 1, [.nilf], false⟩
def ti177 : TI := ⟨.func, 1, [.nilf], false⟩
def ti178 : TI := ⟨.func, 1, [.nilf], false⟩
def ti180 : TI := ⟨.func, 1, [.nilf], false⟩
def ti181 : TI := ⟨.func, 1, [.nilf], false⟩
def ti182 : TI := ⟨.func, 1, [.nilf], false⟩
def ti183 : TI := ⟨.func, 1, [.nilf], false⟩
def ti185 : TI := ⟨.func, 1, [.nilf], false⟩
def ti186 : TI := ⟨.func, 1, [.nilf], false⟩
def ti187 : TI := ⟨.func, 1, [.nilf], false⟩
def ti188 : TI := ⟨.func, 1, [.nilf], false⟩
def ti189 : TI := ⟨.func, 1, [.nilf], false⟩
def ti190 : TI := ⟨.func, 1, [.nilf], false⟩
def ti191 : TI := ⟨.func, 1, [.nilf], false⟩
def ti192 : TI := ⟨.func, 1, [.nilf], false⟩
def ti193 : TI := ⟨(.struct [(0, 1), (1, 1)]), 2, [.str [], .int .i64 0], false⟩
def ti194 : TI := ⟨(.struct [(0, 1), (1, 1)]), 2, [.str [], .int .i64 0], true⟩
def ti195 : TI := ⟨.func, 1, [.nilf], false⟩
def ti196 : TI := ⟨.func, 1, [.nilf], false⟩
def ti197 : TI := ⟨.func, 1, [.nilf], false⟩
def ti198 : TI := ⟨.func, 1, [.nilf], false⟩
def ti199 : TI := ⟨.func, 1, [.nilf], false⟩
def ti200 : TI := ⟨.func, 1, [.nilf], false⟩
def ti201 : TI := ⟨.func, 1, [.nilf], false⟩
def ti202 : TI := ⟨.func, 1, [.nilf], false⟩
def ti203 : TI := ⟨.func, 1, [.nilf], false⟩
def ti204 : TI := ⟨.func, 1, [.nilf], false⟩
def ti205 : TI := ⟨(.map 1 false [.int .i64 0]), 1, [.bad], false⟩
def ti207 : TI := ⟨.func, 1, [.nilf], false⟩
def ti209 : TI := ⟨.func, 1, [.nilf], false⟩
def ti210 : TI := ⟨.func, 1, [.nilf], false⟩
def ti211 : TI := ⟨.func, 1, [.nilf], false⟩
def ti212 : TI := ⟨.func, 1, [.nilf], false⟩
def ti213 : TI := ⟨.func, 1, [.nilf], false⟩
def ti214 : TI := ⟨.func, 1, [.nilf], false⟩
def ti215 : TI := ⟨.func, 1, [.nilf], false⟩
def ti216 : TI := ⟨.func, 1, [.nilf], false⟩
def ti217 : TI := ⟨.func, 1, [.nilf], false⟩
def ti219 : TI := ⟨.func, 1, [.nilf], false⟩
def ti220 : TI := ⟨.func, 1, [.nilf], false⟩
def ti221 : TI := ⟨.func, 1, [.nilf], false⟩
def ti222 : TI := ⟨.func, 1, [.nilf], false⟩
def ti223 : TI := ⟨.func, 1, [.nilf], false⟩
def ti224 : TI := ⟨.func, 1, [.nilf], false⟩
def ti225 : TI := ⟨.func, 1, [.nilf], false⟩
def ti226 : TI := ⟨.func, 1, [.nilf], false⟩
def ti227 : TI := ⟨.func, 1, [.nilf], false⟩
def ti228 : TI := ⟨.func, 1, [.nilf], false⟩
def ti229 : TI := ⟨.func, 1, [.nilf], false⟩
def ti230 : TI := ⟨.func, 1, [.nilf], false⟩
def ti231 : TI := ⟨.func, 1, [.nilf], false⟩
def ti233 : TI := ⟨.func, 1, [.nilf], false⟩
def ti234 : TI := ⟨.func, 1, [.nilf], false⟩
def ti235 : TI := ⟨.func, 1, [.nilf], false⟩
def ti236 : TI := ⟨.func, 1, [.nilf], false⟩
def ti237 : TI := ⟨.func, 1, [.nilf], false⟩
def ti238 : TI := ⟨.func, 1, [.nilf], false⟩
def ti239 : TI := ⟨.func, 1, [.nilf], false⟩
def ti240 : TI := ⟨.func, 1, [.nilf], false⟩
def ti241 : TI := ⟨.func, 1, [.nilf], false⟩
def ti242 : TI := ⟨(.struct [(0, 1), (1, 1)]), 2, [.int .i64 0, .nil], false⟩
def ti243 : TI := ⟨(.struct [(0, 1), (1, 1)]), 2, [.int .i64 0, .nil], false⟩
def ti244 : TI := ⟨.func, 1, [.nilf], false⟩
def ti245 : TI := ⟨.func, 1, [.nilf], false⟩
def ti246 : TI := ⟨.func, 1, [.nilf], false⟩
def ti247 : TI := ⟨(.int .u64), 1, [.int .u64 0], false⟩
def ti248 : TI := ⟨.func, 1, [.nilf], false⟩
def ti250 : TI := ⟨.func, 1, [.nilf], false⟩
def ti251 : TI := ⟨.func, 1, [.nilf], false⟩
def ti252 : TI := ⟨.func, 1, [.nilf], false⟩
def ti253 : TI := ⟨.func, 1, [.nilf], false⟩
def ti254 : TI := ⟨.func, 1, [.nilf], false⟩
def ti255 : TI := ⟨.func, 1, [.nilf], false⟩
def ti256 : TI := ⟨.func, 1, [.nilf], false⟩
def ti257 : TI := ⟨.func, 1, [.nilf], false⟩
def ti258 : TI := ⟨.func, 1, [.nilf], false⟩
def ti259 : TI := ⟨.func, 1, [.nilf], false⟩
def ti260 : TI := ⟨.func, 1, [.nilf], false⟩
def ti261 : TI := ⟨.func, 1, [.nilf], false⟩
def ti262 : TI := ⟨.func, 1, [.nilf], false⟩
def ti263 : TI := ⟨.func, 1, [.nilf], false⟩
def ti264 : TI := ⟨.func, 1, [.nilf], false⟩
def ti265 : TI := ⟨.func, 1, [.nilf], false⟩
def ti266 : TI := ⟨.func, 1, [.nilf], false⟩
def ti267 : TI := ⟨.func, 1, [.nilf], false⟩
def ti268 : TI := ⟨.func, 1, [.nilf], false⟩
def ti270 : TI := ⟨.func, 1, [.nilf], false⟩
def ti271 : TI := ⟨.func, 1, [.nilf], false⟩
def ti272 : TI := ⟨.func, 1, [.nilf], false⟩
def ti273 : TI := ⟨.func, 1, [.nilf], false⟩
def ti274 : TI := ⟨.func, 1, [.nilf], false⟩
def ti275 : TI := ⟨.func, 1, [.nilf], false⟩
def ti276 : TI := ⟨.func, 1, [.nilf], false⟩
def ti277 : TI := ⟨.func, 1, [.nilf], false⟩
def ti279 : TI := ⟨.func, 1, [.nilf], false⟩
def ti280 : TI := ⟨.func, 1, [.nilf], false⟩
def ti281 : TI := ⟨.func, 1, [.nilf], false⟩
def ti282 : TI := ⟨.func, 1, [.nilf], false⟩
def ti283 : TI := ⟨.func, 1, [.nilf], false⟩
def ti284 : TI := ⟨.func, 1, [.nilf], false⟩
def ti285 : TI := ⟨.func, 1, [.nilf], false⟩
def ti286 : TI := ⟨.func, 1, [.nilf], false⟩
def ti287 : TI := ⟨.func, 1, [.nilf], false⟩
def ti288 : TI := ⟨.func, 1, [.nilf], false⟩
def ti289 : TI := ⟨.func, 1, [.nilf], false⟩
def ti290 : TI := ⟨.func, 1, [.nilf], false⟩
def ti291 : TI := ⟨.func, 1, [.nilf], false⟩
def ti292 : TI := ⟨.func, 1, [.nilf], false⟩
def ti293 : TI := ⟨.func, 1, [.nilf], false⟩
def ti294 : TI := ⟨.func, 1, [.nilf], false⟩
def ti295 : TI := ⟨.func, 1, [.nilf], false⟩
def ti296 : TI := ⟨.func, 1, [.nilf], false⟩
def ti297 : TI := ⟨.func, 1, [.nilf], false⟩
def ti298 : TI := ⟨.func, 1, [.nilf], false⟩
def ti299 : TI := ⟨.func, 1, [.nilf], false⟩
def ti300 : TI := ⟨.func, 1, [.nilf], false⟩
def ti301 : TI := ⟨.func, 1, [.nilf], false⟩
def ti302 : TI := ⟨.func, 1, [.nilf], false⟩
def ti303 : TI := ⟨.func, 1, [.nilf], false⟩
def ti304 : TI := ⟨.func, 1, [.nilf], false⟩
def ti305 : TI := ⟨.func, 1, [.nilf], false⟩
def ti306 : TI := ⟨.func, 1, [.nilf], false⟩
def ti307 : TI := ⟨.func, 1, [.nilf], false⟩
def ti308 : TI := ⟨.func, 1, [.nilf], false⟩
def ti309 : TI := ⟨.func, 1, [.nilf], false⟩
def ti310 : TI := ⟨(.struct [(0, 1), (1, 1), (2, 1), (3, 1)]), 4, [.nilp, .nilp, .nilp, .str []], false⟩
def ti311 : TI := ⟨(.struct [(0, 1), (1, 1), (2, 1), (3, 1)]), 4, [.nilp, .nilp, .nilp, .str []], false⟩
def ti315 : TI := ⟨.func, 1, [.nilf], false⟩
def ti316 : TI := ⟨(.int .u32), 1, [.int .u32 0], false⟩
def ti317 : TI := ⟨(.int .u8), 1, [.int .u8 0], false⟩
def ti318 : TI := ⟨(.int .u8), 1, [.int .u8 0], false⟩
def ti319 : TI := ⟨.func, 1, [.nilf], false⟩
def ti320 : TI := ⟨.ptr, 1, [.nilp], false⟩
def ti321 : TI := ⟨(.int .i32), 1, [.int .i32 0], false⟩
def ti322 : TI := ⟨(.int .i32), 1, [.int .i32 0], false⟩
def ti323 : TI := ⟨(.struct [(0, 1), (1, 1), (2, 1), (3, 1), (4, 1), (5, 1), (6, 1), (7, 1), (8, 1), (9, 1), (10, 1)]), 11, [.int .u64 0, .int .u64 0, .int .u32 0, .int .u8 0, .int .u8 0, .int .u8 0, .int .u8 0, .nilf, .nilp, .int .i32 0, .int .i32 0], false⟩
def ti324 : TI := ⟨(.struct [(0, 1), (1, 1), (2, 1), (3, 1), (4, 1), (5, 1), (6, 1), (7, 1), (8, 1), (9, 1), (10, 1)]), 11, [.int .u64 0, .int .u64 0, .int .u32 0, .int .u8 0, .int .u8 0, .int .u8 0, .int .u8 0, .nilf, .nilp, .int .i32 0, .int .i32 0], false⟩
def tTree : Tr TI := (.node 168 ti168 (.node 82 ti82 (.node 38 ti38 (.node 18 ti18 (.node 9 ti9 (.node 5 ti5 (.node 3 ti3 (.node 2 ti2 (.node 1 ti1 .leaf .leaf) .leaf) (.node 4 ti4 .leaf .leaf)) (.node 7 ti7 (.node 6 ti6 .leaf .leaf) (.node 8 ti8 .leaf .leaf))) (.node 14 ti14 (.node 12 ti12 (.node 11 ti11 (.node 10 ti10 .leaf .leaf) .leaf) (.node 13 ti13 .leaf .leaf)) (.node 16 ti16 (.node 15 ti15 .leaf .leaf) (.node 17 ti17 .leaf .leaf)))) (.node 28 ti28 (.node 24 ti24 (.node 22 ti22 (.node 21 ti21 (.node 19 ti19 .leaf .leaf) .leaf) (.node 23 ti23 .leaf .leaf)) (.node 26 ti26 (.node 25 ti25 .leaf .leaf) (.node 27 ti27 .leaf .leaf))) (.node 33 ti33 (.node 31 ti31 (.node 30 ti30 (.node 29 ti29 .leaf .leaf) .leaf) (.node 32 ti32 .leaf .leaf)) (.node 36 ti36 (.node 34 ti34 .leaf .leaf) (.node 37 ti37 .leaf .leaf))))) (.node 59 ti59 (.node 49 ti49 (.node 44 ti44 (.node 41 ti41 (.node 40 ti40 (.node 39 ti39 .leaf .leaf) .leaf) (.node 42 ti42 .leaf .leaf)) (.node 46 ti46 (.node 45 ti45 .leaf .leaf) (.node 48 ti48 .leaf .leaf))) (.node 54 ti54 (.node 52 ti52 (.node 51 ti51 (.node 50 ti50 .leaf .leaf) .leaf) (.node 53 ti53 .leaf .leaf)) (.node 57 ti57 (.node 56 ti56 .leaf .leaf) (.node 58 ti58 .leaf .leaf)))) (.node 69 ti69 (.node 64 ti64 (.node 62 ti62 (.node 61 ti61 (.node 60 ti60 .leaf .leaf) .leaf) (.node 63 ti63 .leaf .leaf)) (.node 66 ti66 (.node 65 ti65 .leaf .leaf) (.node 67 ti67 .leaf .leaf))) (.node 76 ti76 (.node 74 ti74 (.node 72 ti72 (.node 71 ti71 .leaf .leaf) .leaf) (.node 75 ti75 .leaf .leaf)) (.node 80 ti80 (.node 78 ti78 .leaf .leaf) (.node 81 ti81 .leaf .leaf)))))) (.node 126 ti126 (.node 105 ti105 (.node 94 ti94 (.node 89 ti89 (.node 86 ti86 (.node 85 ti85 (.node 83 ti83 .leaf .leaf) .leaf) (.node 87 ti87 .leaf .leaf)) (.node 92 ti92 (.node 91 ti91 .leaf .leaf) (.node 93 ti93 .leaf .leaf))) (.node 101 ti101 (.node 98 ti98 (.node 96 ti96 (.node 95 ti95 .leaf .leaf) .leaf) (.node 99 ti99 .leaf .leaf)) (.node 103 ti103 (.node 102 ti102 .leaf .leaf) (.node 104 ti104 .leaf .leaf)))) (.node 117 ti117 (.node 112 ti112 (.node 109 ti109 (.node 108 ti108 (.node 106 ti106 .leaf .leaf) .leaf) (.node 110 ti110 .leaf .leaf)) (.node 115 ti115 (.node 114 ti114 .leaf .leaf) (.node 116 ti116 .leaf .leaf))) (.node 122 ti122 (.node 120 ti120 (.node 119 ti119 (.node 118 ti118 .leaf .leaf) .leaf) (.node 121 ti121 .leaf .leaf)) (.node 124 ti124 (.node 123 ti123 .leaf .leaf) (.node 125 ti125 .leaf .leaf))))) (.node 148 ti148 (.node 136 ti136 (.node 131 ti131 (.node 129 ti129 (.node 128 ti128 (.node 127 ti127 .leaf .leaf) .leaf) (.node 130 ti130 .leaf .leaf)) (.node 134 ti134 (.node 133 ti133 .leaf .leaf) (.node 135 ti135 .leaf .leaf))) (.node 143 ti143 (.node 140 ti140 (.node 139 ti139 (.node 137 ti137 .leaf .leaf) .leaf) (.node 141 ti141 .leaf .leaf)) (.node 145 ti145 (.node 144 ti144 .leaf .leaf) (.node 146 ti146 .leaf .leaf)))) (.node 157 ti157 (.node 153 ti153 (.node 151 ti151 (.node 150 ti150 (.node 149 ti149 .leaf .leaf) .leaf) (.node 152 ti152 .leaf .leaf)) (.node 155 ti155 (.node 154 ti154 .leaf .leaf) (.node 156 ti156 .leaf .leaf))) (.node 163 ti163 (.node 161 ti161 (.node 159 ti159 (.node 158 ti158 .leaf .leaf) .leaf) (.node 162 ti162 .leaf .leaf)) (.node 165 ti165 (.node 164 ti164 .leaf .leaf) (.node 166 ti166 .leaf .leaf))))))) (.node 247 ti247 (.node 209 ti209 (.node 189 ti189 (.node 178 ti178 (.node 173 ti173 (.node 171 ti171 (.node 170 ti170 (.node 169 ti169 .leaf .leaf) .leaf) (.node 172 ti172 .leaf .leaf)) (.node 176 ti176 (.node 175 ti175 .leaf .leaf) (.node 177 ti177 .leaf .leaf))) (.node 185 ti185 (.node 182 ti182 (.node 181 ti181 (.node 180 ti180 .leaf .leaf) .leaf) (.node 183 ti183 .leaf .leaf)) (.node 187 ti187 (.node 186 ti186 .leaf .leaf) (.node 188 ti188 .leaf .leaf)))) (.node 198 ti198 (.node 194 ti194 (.node 192 ti192 (.node 191 ti191 (.node 190 ti190 .leaf .leaf) .leaf) (.node 193 ti193 .leaf .leaf)) (.node 196 ti196 (.node 195 ti195 .leaf .leaf) (.node 197 ti197 .leaf .leaf))) (.node 203 ti203 (.node 201 ti201 (.node 200 ti200 (.node 199 ti199 .leaf .leaf) .leaf) (.node 202 ti202 .leaf .leaf)) (.node 205 ti205 (.node 204 ti204 .leaf .leaf) (.node 207 ti207 .leaf .leaf))))) (.node 228 ti228 (.node 219 ti219 (.node 214 ti214 (.node 212 ti212 (.node 211 ti211 (.node 210 ti210 .leaf .leaf) .leaf) (.node 213 ti213 .leaf .leaf)) (.node 216 ti216 (.node 215 ti215 .leaf .leaf) (.node 217 ti217 .leaf .leaf))) (.node 224 ti224 (.node 222 ti222 (.node 221 ti221 (.node 220 ti220 .leaf .leaf) .leaf) (.node 223 ti223 .leaf .leaf)) (.node 226 ti226 (.node 225 ti225 .leaf .leaf) (.node 227 ti227 .leaf .leaf)))) (.node 238 ti238 (.node 234 ti234 (.node 231 ti231 (.node 230 ti230 (.node 229 ti229 .leaf .leaf) .leaf) (.node 233 ti233 .leaf .leaf)) (.node 236 ti236 (.node 235 ti235 .leaf .leaf) (.node 237 ti237 .leaf .leaf))) (.node 243 ti243 (.node 241 ti241 (.node 240 ti240 (.node 239 ti239 .leaf .leaf) .leaf) (.node 242 ti242 .leaf .leaf)) (.node 245 ti245 (.node 244 ti244 .leaf .leaf) (.node 246 ti246 .leaf .leaf)))))) (.node 286 ti286 (.node 266 ti266 (.node 257 ti257 (.node 253 ti253 (.node 251 ti251 (.node 250 ti250 (.node 248 ti248 .leaf .leaf) .leaf) (.node 252 ti252 .leaf .leaf)) (.node 255 ti255 (.node 254 ti254 .leaf .leaf) (.node 256 ti256 .leaf .leaf))) (.node 262 ti262 (.node 260 ti260 (.node 259 ti259 (.node 258 ti258 .leaf .leaf) .leaf) (.node 261 ti261 .leaf .leaf)) (.node 264 ti264 (.node 263 ti263 .leaf .leaf) (.node 265 ti265 .leaf .leaf)))) (.node 276 ti276 (.node 272 ti272 (.node 270 ti270 (.node 268 ti268 (.node 267 ti267 .leaf .leaf) .leaf) (.node 271 ti271 .leaf .leaf)) (.node 274 ti274 (.node 273 ti273 .leaf .leaf) (.node 275 ti275 .leaf .leaf))) (.node 282 ti282 (.node 280 ti280 (.node 279 ti279 (.node 277 ti277 .leaf .leaf) .leaf) (.node 281 ti281 .leaf .leaf)) (.node 284 ti284 (.node 283 ti283 .leaf .leaf) (.node 285 ti285 .leaf .leaf))))) (.node 304 ti304 (.node 295 ti295 (.node 291 ti291 (.node 289 ti289 (.node 288 ti288 (.node 287 ti287 .leaf .leaf) .leaf) (.node 290 ti290 .leaf .leaf)) (.node 293 ti293 (.node 292 ti292 .leaf .leaf) (.node 294 ti294 .leaf .leaf))) (.node 300 ti300 (.node 298 ti298 (.node 297 ti297 (.node 296 ti296 .leaf .leaf) .leaf) (.node 299 ti299 .leaf .leaf)) (.node 302 ti302 (.node 301 ti301 .leaf .leaf) (.node 303 ti303 .leaf .leaf)))) (.node 316 ti316 (.node 309 ti309 (.node 307 ti307 (.node 306 ti306 (.node 305 ti305 .leaf .leaf) .leaf) (.node 308 ti308 .leaf .leaf)) (.node 311 ti311 (.node 310 ti310 .leaf .leaf) (.node 315 ti315 .leaf .leaf))) (.node 321 ti321 (.node 319 ti319 (.node 318 ti318 (.node 317 ti317 .leaf .leaf) .leaf) (.node 320 ti320 .leaf .leaf)) (.node 323 ti323 (.node 322 ti322 .leaf .leaf) (.node 324 ti324 .leaf .leaf))))))))
noncomputable def gTree : Tr Func := (.node 142 Go.Proofs.Tryz.f142 (.node 76 Go.Proofs.Tryz.f76 (.node 40 Go.Proofs.Tryz.f40 (.node 28 Go.Proofs.Tryz.f28 (.node 15 Go.Proofs.Tryz.f15 (.node 8 Go.Proofs.Tryz.f8 (.node 6 Go.Proofs.Tryz.f6 (.node 5 Go.Proofs.Tryz.f5 .leaf .leaf) (.node 7 Go.Proofs.Tryz.f7 .leaf .leaf)) (.node 14 Go.Proofs.Tryz.f14 (.node 9 Go.Proofs.Tryz.f9 .leaf .leaf) .leaf)) (.node 25 Go.Proofs.Tryz.f25 (.node 24 Go.Proofs.Tryz.f24 (.node 20 Go.Proofs.Tryz.f20 .leaf .leaf) .leaf) (.node 27 Go.Proofs.Tryz.f27 (.node 26 Go.Proofs.Tryz.f26 .leaf .leaf) .leaf))) (.node 34 Go.Proofs.Tryz.f34 (.node 31 Go.Proofs.Tryz.f31 (.node 30 Go.Proofs.Tryz.f30 (.node 29 Go.Proofs.Tryz.f29 .leaf .leaf) .leaf) (.node 33 Go.Proofs.Tryz.f33 (.node 32 Go.Proofs.Tryz.f32 .leaf .leaf) .leaf)) (.node 37 Go.Proofs.Tryz.f37 (.node 36 Go.Proofs.Tryz.f36 (.node 35 Go.Proofs.Tryz.f35 .leaf .leaf) .leaf) (.node 39 Go.Proofs.Tryz.f39 (.node 38 Go.Proofs.Tryz.f38 .leaf .leaf) .leaf)))) (.node 64 Go.Proofs.Tryz.f64 (.node 52 Go.Proofs.Tryz.f52 (.node 45 Go.Proofs.Tryz.f45 (.node 43 Go.Proofs.Tryz.f43 (.node 42 Go.Proofs.Tryz.f42 .leaf .leaf) (.node 44 Go.Proofs.Tryz.f44 .leaf .leaf)) (.node 49 Go.Proofs.Tryz.f49 (.node 46 Go.Proofs.Tryz.f46 .leaf .leaf) .leaf)) (.node 61 Go.Proofs.Tryz.f61 (.node 60 Go.Proofs.Tryz.f60 (.node 57 Go.Proofs.Tryz.f57 .leaf .leaf) .leaf) (.node 63 Go.Proofs.Tryz.f63 (.node 62 Go.Proofs.Tryz.f62 .leaf .leaf) .leaf))) (.node 70 Go.Proofs.Tryz.f70 (.node 67 Go.Proofs.Tryz.f67 (.node 66 Go.Proofs.Tryz.f66 (.node 65 Go.Proofs.Tryz.f65 .leaf .leaf) .leaf) (.node 69 Go.Proofs.Tryz.f69 (.node 68 Go.Proofs.Tryz.f68 .leaf .leaf) .leaf)) (.node 73 Go.Proofs.Tryz.f73 (.node 72 Go.Proofs.Tryz.f72 (.node 71 Go.Proofs.Tryz.f71 .leaf .leaf) .leaf) (.node 75 Go.Proofs.Tryz.f75 (.node 74 Go.Proofs.Tryz.f74 .leaf .leaf) .leaf))))) (.node 112 Go.Proofs.Tryz.f112 (.node 89 Go.Proofs.Tryz.f89 (.node 83 Go.Proofs.Tryz.f83 (.node 80 Go.Proofs.Tryz.f80 (.node 78 Go.Proofs.Tryz.f78 (.node 77 Go.Proofs.Tryz.f77 .leaf .leaf) (.node 79 Go.Proofs.Tryz.f79 .leaf .leaf)) (.node 82 Go.Proofs.Tryz.f82 (.node 81 Go.Proofs.Tryz.f81 .leaf .leaf) .leaf)) (.node 86 Go.Proofs.Tryz.f86 (.node 85 Go.Proofs.Tryz.f85 (.node 84 Go.Proofs.Tryz.f84 .leaf .leaf) .leaf) (.node 88 Go.Proofs.Tryz.f88 (.node 87 Go.Proofs.Tryz.f87 .leaf .leaf) .leaf))) (.node 95 Go.Proofs.Tryz.f95 (.node 92 Go.Proofs.Tryz.f92 (.node 91 Go.Proofs.Tryz.f91 (.node 90 Go.Proofs.Tryz.f90 .leaf .leaf) .leaf) (.node 94 Go.Proofs.Tryz.f94 (.node 93 Go.Proofs.Tryz.f93 .leaf .leaf) .leaf)) (.node 98 Go.Proofs.Tryz.f98 (.node 97 Go.Proofs.Tryz.f97 (.node 96 Go.Proofs.Tryz.f96 .leaf .leaf) .leaf) (.node 108 Go.Proofs.Tryz.f108 (.node 107 Go.Proofs.Tryz.f107 .leaf .leaf) .leaf)))) (.node 129 Go.Proofs.Tryz.f129 (.node 119 Go.Proofs.Tryz.f119 (.node 115 Go.Proofs.Tryz.f115 (.node 114 Go.Proofs.Tryz.f114 (.node 113 Go.Proofs.Tryz.f113 .leaf .leaf) .leaf) (.node 118 Go.Proofs.Tryz.f118 (.node 116 Go.Proofs.Tryz.f116 .leaf .leaf) .leaf)) (.node 126 Go.Proofs.Tryz.f126 (.node 121 Go.Proofs.Tryz.f121 (.node 120 Go.Proofs.Tryz.f120 .leaf .leaf) .leaf) (.node 128 Go.Proofs.Tryz.f128 (.node 127 Go.Proofs.Tryz.f127 .leaf .leaf) .leaf))) (.node 135 Go.Proofs.Tryz.f135 (.node 132 Go.Proofs.Tryz.f132 (.node 131 Go.Proofs.Tryz.f131 (.node 130 Go.Proofs.Tryz.f130 .leaf .leaf) .leaf) (.node 134 Go.Proofs.Tryz.f134 (.node 133 Go.Proofs.Tryz.f133 .leaf .leaf) .leaf)) (.node 139 Go.Proofs.Tryz.f139 (.node 138 Go.Proofs.Tryz.f138 (.node 136 Go.Proofs.Tryz.f136 .leaf .leaf) .leaf) (.node 141 Go.Proofs.Tryz.f141 (.node 140 Go.Proofs.Tryz.f140 .leaf .leaf) .leaf)))))) (.node 216 Go.Proofs.Tryz.f216 (.node 167 Go.Proofs.Tryz.f167 (.node 155 Go.Proofs.Tryz.f155 (.node 149 Go.Proofs.Tryz.f149 (.node 146 Go.Proofs.Tryz.f146 (.node 144 Go.Proofs.Tryz.f144 (.node 143 Go.Proofs.Tryz.f143 .leaf .leaf) (.node 145 Go.Proofs.Tryz.f145 .leaf .leaf)) (.node 148 Go.Proofs.Tryz.f148 (.node 147 Go.Proofs.Tryz.f147 .leaf .leaf) .leaf)) (.node 152 Go.Proofs.Tryz.f152 (.node 151 Go.Proofs.Tryz.f151 (.node 150 Go.Proofs.Tryz.f150 .leaf .leaf) .leaf) (.node 154 Go.Proofs.Tryz.f154 (.node 153 Go.Proofs.Tryz.f153 .leaf .leaf) .leaf))) (.node 161 Go.Proofs.Tryz.f161 (.node 158 Go.Proofs.Tryz.f158 (.node 157 Go.Proofs.Tryz.f157 (.node 156 Go.Proofs.Tryz.f156 .leaf .leaf) .leaf) (.node 160 Go.Proofs.Tryz.f160 (.node 159 Go.Proofs.Tryz.f159 .leaf .leaf) .leaf)) (.node 164 Go.Proofs.Tryz.f164 (.node 163 Go.Proofs.Tryz.f163 (.node 162 Go.Proofs.Tryz.f162 .leaf .leaf) .leaf) (.node 166 Go.Proofs.Tryz.f166 (.node 165 Go.Proofs.Tryz.f165 .leaf .leaf) .leaf)))) (.node 200 Go.Proofs.Tryz.f200 (.node 193 Go.Proofs.Tryz.f193 (.node 170 Go.Proofs.Tryz.f170 (.node 169 Go.Proofs.Tryz.f169 (.node 168 Go.Proofs.Tryz.f168 .leaf .leaf) .leaf) (.node 172 Go.Proofs.Tryz.f172 (.node 171 Go.Proofs.Tryz.f171 .leaf .leaf) .leaf)) (.node 196 Go.Proofs.Tryz.f196 (.node 195 Go.Proofs.Tryz.f195 (.node 194 Go.Proofs.Tryz.f194 .leaf .leaf) .leaf) (.node 199 Go.Proofs.Tryz.f199 (.node 197 Go.Proofs.Tryz.f197 .leaf .leaf) .leaf))) (.node 210 Go.Proofs.Tryz.f210 (.node 203 Go.Proofs.Tryz.f203 (.node 202 Go.Proofs.Tryz.f202 (.node 201 Go.Proofs.Tryz.f201 .leaf .leaf) .leaf) (.node 205 Go.Proofs.Tryz.f205 (.node 204 Go.Proofs.Tryz.f204 .leaf .leaf) .leaf)) (.node 213 Go.Proofs.Tryz.f213 (.node 212 Go.Proofs.Tryz.f212 (.node 211 Go.Proofs.Tryz.f211 .leaf .leaf) .leaf) (.node 215 Go.Proofs.Tryz.f215 (.node 214 Go.Proofs.Tryz.f214 .leaf .leaf) .leaf))))) (.node 251 Go.Proofs.Tryz.f251 (.node 232 Go.Proofs.Tryz.f232 (.node 226 Go.Proofs.Tryz.f226 (.node 221 Go.Proofs.Tryz.f221 (.node 219 Go.Proofs.Tryz.f219 (.node 217 Go.Proofs.Tryz.f217 .leaf .leaf) (.node 220 Go.Proofs.Tryz.f220 .leaf .leaf)) (.node 225 Go.Proofs.Tryz.f225 (.node 224 Go.Proofs.Tryz.f224 .leaf .leaf) .leaf)) (.node 229 Go.Proofs.Tryz.f229 (.node 228 Go.Proofs.Tryz.f228 (.node 227 Go.Proofs.Tryz.f227 .leaf .leaf) .leaf) (.node 231 Go.Proofs.Tryz.f231 (.node 230 Go.Proofs.Tryz.f230 .leaf .leaf) .leaf))) (.node 238 Go.Proofs.Tryz.f238 (.node 235 Go.Proofs.Tryz.f235 (.node 234 Go.Proofs.Tryz.f234 (.node 233 Go.Proofs.Tryz.f233 .leaf .leaf) .leaf) (.node 237 Go.Proofs.Tryz.f237 (.node 236 Go.Proofs.Tryz.f236 .leaf .leaf) .leaf)) (.node 241 Go.Proofs.Tryz.f241 (.node 240 Go.Proofs.Tryz.f240 (.node 239 Go.Proofs.Tryz.f239 .leaf .leaf) .leaf) (.node 243 Go.Proofs.Tryz.f243 (.node 242 Go.Proofs.Tryz.f242 .leaf .leaf) .leaf)))) (.node 272 Go.Proofs.Tryz.f272 (.node 263 Go.Proofs.Tryz.f263 (.node 260 Go.Proofs.Tryz.f260 (.node 259 Go.Proofs.Tryz.f259 (.node 258 Go.Proofs.Tryz.f258 .leaf .leaf) .leaf) (.node 262 Go.Proofs.Tryz.f262 (.node 261 Go.Proofs.Tryz.f261 .leaf .leaf) .leaf)) (.node 267 Go.Proofs.Tryz.f267 (.node 266 Go.Proofs.Tryz.f266 (.node 265 Go.Proofs.Tryz.f265 .leaf .leaf) .leaf) (.node 269 Go.Proofs.Tryz.f269 (.node 268 Go.Proofs.Tryz.f268 .leaf .leaf) .leaf))) (.node 282 Go.Proofs.Tryz.f282 (.node 276 Go.Proofs.Tryz.f276 (.node 275 Go.Proofs.Tryz.f275 (.node 274 Go.Proofs.Tryz.f274 .leaf .leaf) .leaf) (.node 279 Go.Proofs.Tryz.f279 (.node 277 Go.Proofs.Tryz.f277 .leaf .leaf) .leaf)) (.node 287 Go.Proofs.Tryz.f287 (.node 284 Go.Proofs.Tryz.f284 (.node 283 Go.Proofs.Tryz.f283 .leaf .leaf) .leaf) (.node 293 Go.Proofs.Tryz.f293 (.node 288 Go.Proofs.Tryz.f288 .leaf .leaf) .leaf)))))))
def dr5 : Tr (List HOp) := .leaf
def dr6 : Tr (List HOp) := (.node 7 [⟨0, 0, 0, [6], []⟩, ⟨1, 0, 1, [29], []⟩, ⟨0, 0, 0, [1], []⟩, ⟨0, 0, 0, [7], []⟩, ⟨0, 0, 0, [31, 32], []⟩, ⟨1, 0, 0, [33], []⟩, ⟨3, 0, 0, [34], []⟩, ⟨2, 0, 0, [35], []⟩, ⟨3, 0, 0, [30, 36], [7]⟩, ⟨0, 0, 0, [6], []⟩, ⟨3, 0, 0, [38, 37], []⟩] (.node 3 [⟨2, 0, 0, [], []⟩, ⟨0, 0, 0, [2], []⟩, ⟨1, 0, 0, [16], []⟩, ⟨3, 0, 0, [15, 17], [0]⟩, ⟨0, 0, 0, [2], []⟩, ⟨1, 0, 1, [19], []⟩, ⟨0, 0, 0, [18, 20], []⟩, ⟨0, 0, 0, [21], []⟩, ⟨2, 0, 0, [], []⟩, ⟨3, 0, 0, [6, 22], [8]⟩] .leaf .leaf) .leaf)
def dr7 : Tr (List HOp) := .leaf
def dr8 : Tr (List HOp) := (.node 4 [⟨1, 0, 0, [2], []⟩, ⟨0, 0, 0, [1], []⟩, ⟨0, 0, 0, [5], []⟩, ⟨0, 0, 0, [14, 15], []⟩, ⟨1, 0, 0, [16], []⟩, ⟨3, 0, 0, [13, 17], []⟩, ⟨0, 0, 0, [18], []⟩, ⟨0, 0, 0, [12], []⟩, ⟨0, 0, 0, [12], []⟩, ⟨0, 0, 0, [12], []⟩, ⟨3, 0, 0, [2, 19], []⟩] .leaf .leaf)
def dr9 : Tr (List HOp) := (.node 10 [⟨1, 0, 0, [3], []⟩, ⟨0, 0, 0, [1], []⟩, ⟨0, 0, 0, [14], []⟩, ⟨1, 0, 0, [49, 50], []⟩, ⟨3, 0, 0, [48, 51], []⟩, ⟨0, 0, 0, [52], []⟩, ⟨0, 0, 0, [47], []⟩, ⟨0, 0, 0, [47], []⟩, ⟨0, 0, 0, [47], []⟩, ⟨0, 0, 0, [53], []⟩, ⟨0, 0, 0, [54], []⟩, ⟨0, 0, 0, [55], []⟩] (.node 4 [⟨1, 0, 0, [3], []⟩, ⟨0, 0, 0, [9], []⟩, ⟨0, 0, 0, [33], []⟩, ⟨1, 0, 0, [34], []⟩, ⟨3, 0, 0, [32, 35], []⟩, ⟨0, 0, 0, [36], []⟩, ⟨0, 0, 0, [37], []⟩] .leaf .leaf) .leaf)
def dr14 : Tr (List HOp) := .leaf
def dr15 : Tr (List HOp) := .leaf
def dr20 : Tr (List HOp) := .leaf
def dr24 : Tr (List HOp) := .leaf
def dr25 : Tr (List HOp) := .leaf
def dr26 : Tr (List HOp) := (.node 15 [⟨1, 0, 1, [2], []⟩, ⟨0, 0, 0, [1], []⟩, ⟨0, 0, 0, [2], []⟩, ⟨1, 0, 0, [74], []⟩, ⟨0, 0, 0, [10], []⟩, ⟨1, 0, 0, [76], []⟩, ⟨3, 0, 0, [75, 77], []⟩, ⟨1, 0, 1, [12], []⟩, ⟨0, 0, 0, [11], []⟩, ⟨3, 0, 0, [72, 73, 78, 79, 80], []⟩, ⟨0, 0, 0, [81], []⟩, ⟨0, 0, 0, [71], []⟩, ⟨0, 0, 0, [71], []⟩, ⟨0, 0, 0, [71], []⟩, ⟨3, 0, 0, [15, 82], []⟩, ⟨3, 0, 0, [16, 83], []⟩, ⟨0, 0, 0, [84], []⟩] (.node 14 [⟨1, 0, 0, [2], []⟩, ⟨1, 0, 1, [10], []⟩, ⟨2, 0, 0, [], []⟩, ⟨2, 0, 0, [], []⟩, ⟨3, 0, 0, [15, 69], [2, 3]⟩, ⟨3, 0, 0, [16, 70], []⟩, ⟨0, 0, 0, [], []⟩] (.node 12 [⟨1, 0, 0, [2], []⟩, ⟨1, 0, 1, [13], []⟩, ⟨3, 0, 0, [4, 63], []⟩, ⟨3, 0, 0, [5, 64], []⟩, ⟨0, 0, 0, [], []⟩] .leaf .leaf) .leaf) (.node 23 [⟨1, 0, 0, [15], []⟩, ⟨1, 0, 1, [16], []⟩, ⟨3, 0, 0, [4, 134], []⟩, ⟨3, 0, 0, [5, 135], []⟩, ⟨0, 0, 0, [], []⟩] (.node 19 [⟨1, 0, 0, [2], []⟩, ⟨0, 0, 0, [1], []⟩, ⟨1, 0, 0, [10], []⟩, ⟨3, 0, 0, [110, 111, 112], []⟩, ⟨0, 0, 0, [1], []⟩, ⟨0, 0, 0, [10], []⟩, ⟨1, 0, 1, [115], []⟩, ⟨1, 0, 1, [12], []⟩, ⟨0, 0, 0, [11], []⟩, ⟨3, 0, 0, [113, 114, 116, 117, 118], []⟩, ⟨0, 0, 0, [119], []⟩, ⟨0, 0, 0, [109], []⟩, ⟨0, 0, 0, [109], []⟩, ⟨0, 0, 0, [109], []⟩, ⟨3, 0, 0, [15, 120], []⟩, ⟨3, 0, 0, [16, 121], []⟩, ⟨0, 0, 0, [122], []⟩] .leaf .leaf) .leaf))
def dr27 : Tr (List HOp) := (.node 6 [⟨0, 0, 0, [2], []⟩, ⟨1, 0, 0, [48], []⟩, ⟨0, 0, 0, [5], []⟩, ⟨0, 0, 0, [49, 50], []⟩, ⟨1, 0, 0, [51], []⟩, ⟨0, 0, 0, [3], []⟩, ⟨1, 0, 0, [53], []⟩, ⟨0, 0, 0, [5], []⟩, ⟨0, 0, 0, [54, 55], []⟩, ⟨1, 0, 0, [56], []⟩, ⟨3, 0, 0, [52, 57], []⟩, ⟨0, 0, 0, [58], []⟩] .leaf .leaf)
def dr28 : Tr (List HOp) := .leaf
def dr29 : Tr (List HOp) := .leaf
def dr30 : Tr (List HOp) := .leaf
def dr31 : Tr (List HOp) := .leaf
def dr32 : Tr (List HOp) := .leaf
def dr33 : Tr (List HOp) := (.node 11 [⟨1, 0, 1, [1], []⟩, ⟨1, 0, 0, [1], []⟩, ⟨3, 0, 0, [49], []⟩, ⟨0, 0, 0, [3], []⟩, ⟨3, 0, 0, [48, 50, 51], []⟩, ⟨0, 0, 0, [52], []⟩] (.node 3 [⟨1, 0, 1, [1], []⟩, ⟨1, 0, 0, [1], []⟩, ⟨3, 0, 0, [18], []⟩, ⟨3, 0, 0, [17, 19], []⟩, ⟨0, 0, 0, [20], []⟩, ⟨0, 0, 0, [16], []⟩, ⟨0, 0, 0, [16], []⟩, ⟨0, 0, 0, [21], []⟩, ⟨0, 0, 0, [22], []⟩] .leaf .leaf) .leaf)
def dr34 : Tr (List HOp) := .leaf
def dr35 : Tr (List HOp) := (.node 7 [⟨1, 0, 0, [2], []⟩, ⟨0, 0, 0, [4], []⟩, ⟨0, 0, 0, [26], []⟩, ⟨1, 0, 0, [27], []⟩, ⟨3, 0, 0, [25, 28], []⟩, ⟨0, 0, 0, [29], []⟩] (.node 3 [⟨1, 0, 0, [2], []⟩, ⟨3, 0, 0, [13], []⟩, ⟨0, 0, 0, [2], []⟩, ⟨1, 0, 1, [15], []⟩, ⟨0, 0, 0, [16], []⟩, ⟨0, 0, 0, [17], []⟩, ⟨0, 0, 0, [14], []⟩, ⟨0, 0, 0, [18], []⟩] .leaf .leaf) .leaf)
def dr36 : Tr (List HOp) := .leaf
def dr37 : Tr (List HOp) := (.node 8 [⟨0, 0, 0, [5], []⟩, ⟨1, 0, 0, [37], []⟩, ⟨0, 0, 0, [13], []⟩, ⟨0, 0, 0, [39], []⟩, ⟨1, 0, 0, [40], []⟩, ⟨3, 0, 0, [38, 41], []⟩, ⟨0, 0, 0, [42], []⟩, ⟨0, 0, 0, [36], []⟩, ⟨0, 0, 0, [36], []⟩, ⟨0, 0, 0, [43], []⟩, ⟨0, 0, 0, [44], []⟩] (.node 6 [⟨1, 0, 0, [5], []⟩, ⟨0, 0, 0, [15], []⟩, ⟨1, 0, 1, [33], []⟩, ⟨3, 0, 0, [10, 32], []⟩, ⟨0, 0, 0, [34], []⟩, ⟨0, 0, 0, [], []⟩] .leaf .leaf) (.node 9 [⟨1, 0, 1, [5], []⟩, ⟨0, 0, 0, [2], []⟩, ⟨0, 0, 0, [3], []⟩, ⟨0, 0, 0, [4], []⟩, ⟨1, 0, 0, [5], []⟩, ⟨0, 0, 0, [13], []⟩, ⟨0, 0, 0, [50], []⟩, ⟨1, 0, 0, [51], []⟩, ⟨3, 0, 0, [49, 52], []⟩, ⟨0, 0, 0, [53], []⟩, ⟨0, 0, 0, [54], []⟩, ⟨0, 0, 0, [16], []⟩, ⟨3, 0, 0, [45, 46, 47, 48, 55, 56], []⟩, ⟨0, 0, 0, [57], []⟩, ⟨0, 0, 0, [57], []⟩, ⟨0, 0, 0, [57], []⟩, ⟨3, 0, 0, [10, 58], []⟩, ⟨0, 0, 0, [59], []⟩, ⟨0, 0, 0, [60], []⟩] .leaf .leaf))
def dr38 : Tr (List HOp) := .leaf
def dr39 : Tr (List HOp) := .leaf
def dr40 : Tr (List HOp) := .leaf
def dr42 : Tr (List HOp) := (.node 4 [⟨0, 0, 0, [2], []⟩, ⟨1, 0, 0, [14], []⟩, ⟨0, 0, 0, [6], []⟩, ⟨0, 0, 0, [15, 16], []⟩, ⟨0, 0, 0, [17], []⟩, ⟨1, 0, 0, [18], []⟩, ⟨1, 0, 0, [3], []⟩, ⟨0, 0, 0, [19, 20], []⟩] .leaf .leaf)
def dr43 : Tr (List HOp) := (.node 3 [⟨0, 0, 0, [2], []⟩, ⟨1, 0, 0, [20], []⟩, ⟨0, 0, 0, [3], []⟩, ⟨1, 0, 0, [22], []⟩, ⟨0, 0, 0, [21, 23], []⟩, ⟨1, 0, 0, [24], []⟩, ⟨0, 0, 0, [3], []⟩, ⟨1, 0, 0, [26], []⟩, ⟨3, 0, 0, [25, 27], []⟩, ⟨0, 0, 0, [28], []⟩, ⟨0, 0, 0, [19], []⟩, ⟨0, 0, 0, [19], []⟩, ⟨2, 0, 0, [], []⟩, ⟨3, 0, 0, [5, 29], [12]⟩, ⟨0, 0, 0, [30], []⟩] .leaf .leaf)
def dr44 : Tr (List HOp) := .leaf
def dr45 : Tr (List HOp) := .leaf
def dr46 : Tr (List HOp) := (.node 6 [⟨0, 0, 0, [2], []⟩, ⟨1, 0, 0, [41], []⟩, ⟨0, 0, 0, [5], []⟩, ⟨0, 0, 0, [42, 43], []⟩, ⟨1, 0, 0, [44], []⟩, ⟨0, 0, 0, [3], []⟩, ⟨1, 0, 0, [46], []⟩, ⟨0, 0, 0, [5], []⟩, ⟨0, 0, 0, [47, 48], []⟩, ⟨1, 0, 0, [49], []⟩, ⟨3, 0, 0, [45, 50], []⟩, ⟨0, 0, 0, [51], []⟩] .leaf .leaf)
def dr49 : Tr (List HOp) := .leaf
def dr52 : Tr (List HOp) := (.node 6 [⟨1, 0, 0, [13], []⟩, ⟨0, 0, 0, [2], []⟩, ⟨0, 0, 0, [14], []⟩, ⟨0, 0, 0, [1], []⟩, ⟨0, 0, 0, [1], []⟩, ⟨0, 0, 0, [42], []⟩, ⟨0, 0, 0, [43], []⟩, ⟨0, 0, 0, [41, 44], []⟩, ⟨1, 0, 0, [45], []⟩, ⟨1, 0, 0, [8], []⟩, ⟨0, 0, 0, [4], []⟩, ⟨3, 0, 0, [38, 39, 40, 46, 47, 48], []⟩, ⟨0, 0, 0, [49], []⟩, ⟨0, 0, 0, [37], []⟩, ⟨0, 0, 0, [37], []⟩, ⟨0, 0, 0, [37], []⟩, ⟨3, 0, 0, [13, 50], []⟩, ⟨0, 0, 0, [51], []⟩, ⟨0, 0, 0, [52], []⟩] (.node 3 [⟨1, 0, 0, [5], []⟩, ⟨0, 0, 0, [1], []⟩, ⟨0, 0, 0, [1], []⟩, ⟨0, 0, 0, [24], []⟩, ⟨0, 0, 0, [25], []⟩, ⟨1, 0, 0, [23, 26], []⟩, ⟨0, 0, 0, [2], []⟩, ⟨3, 0, 0, [22, 27, 28], []⟩, ⟨0, 0, 0, [29], []⟩, ⟨0, 0, 0, [21], []⟩, ⟨0, 0, 0, [21], []⟩, ⟨0, 0, 0, [21], []⟩, ⟨2, 0, 0, [], []⟩, ⟨3, 0, 0, [13, 30], [12]⟩, ⟨0, 0, 0, [31], []⟩, ⟨0, 0, 0, [32], []⟩] .leaf .leaf) .leaf)
def dr57 : Tr (List HOp) := .leaf
def dr60 : Tr (List HOp) := (.node 2 [⟨1, 0, 0, [3], []⟩, ⟨1, 0, 1, [5], []⟩, ⟨3, 0, 0, [6, 18], []⟩, ⟨3, 0, 0, [7, 19], []⟩, ⟨0, 0, 0, [], []⟩] .leaf .leaf)
def dr61 : Tr (List HOp) := (.node 6 [⟨0, 0, 0, [6], []⟩, ⟨1, 0, 0, [8], []⟩, ⟨0, 0, 0, [37], []⟩, ⟨3, 0, 0, [5, 38], []⟩] .leaf .leaf)
def dr62 : Tr (List HOp) := .leaf
def dr63 : Tr (List HOp) := .leaf
def dr64 : Tr (List HOp) := .leaf
def dr65 : Tr (List HOp) := (.node 5 [⟨0, 0, 0, [10], []⟩, ⟨1, 0, 0, [3], []⟩, ⟨1, 0, 0, [4], []⟩, ⟨3, 0, 0, [33, 34], []⟩, ⟨0, 0, 0, [35], []⟩, ⟨0, 0, 0, [36], []⟩, ⟨0, 0, 0, [37], []⟩, ⟨0, 0, 0, [32, 38], []⟩, ⟨0, 0, 0, [5], []⟩, ⟨0, 0, 0, [40], []⟩, ⟨1, 0, 1, [41], []⟩, ⟨0, 0, 0, [42], []⟩, ⟨0, 0, 0, [39, 43], []⟩, ⟨0, 0, 0, [8], []⟩, ⟨1, 0, 1, [45], []⟩, ⟨0, 0, 0, [44, 46], []⟩] (.node 3 [⟨0, 0, 0, [5], []⟩, ⟨1, 0, 0, [21], []⟩, ⟨0, 0, 0, [5], []⟩, ⟨1, 0, 1, [23], []⟩, ⟨0, 0, 0, [9], []⟩, ⟨3, 0, 0, [25, 22], []⟩, ⟨0, 0, 0, [9], []⟩, ⟨3, 0, 0, [26, 24], []⟩] .leaf .leaf) (.node 7 [⟨1, 0, 1, [3], []⟩, ⟨0, 0, 0, [4], []⟩, ⟨1, 0, 1, [50], []⟩, ⟨1, 0, 0, [8], []⟩, ⟨1, 0, 0, [9], []⟩, ⟨3, 0, 0, [52, 53], []⟩, ⟨3, 0, 0, [49, 51, 54], []⟩, ⟨3, 0, 0, [6, 55], []⟩, ⟨0, 0, 0, [], []⟩] .leaf .leaf))
def dr66 : Tr (List HOp) := .leaf
def dr67 : Tr (List HOp) := (.node 7 [⟨0, 0, 0, [3], []⟩, ⟨1, 0, 0, [41], []⟩, ⟨0, 0, 0, [5], []⟩, ⟨1, 0, 0, [43], []⟩, ⟨0, 0, 0, [42, 44], []⟩, ⟨1, 0, 0, [45], []⟩, ⟨0, 0, 0, [12], []⟩, ⟨1, 0, 0, [47], []⟩, ⟨0, 0, 0, [1], []⟩, ⟨0, 0, 0, [7], []⟩, ⟨0, 0, 0, [49, 50], []⟩, ⟨1, 0, 0, [51], []⟩, ⟨3, 0, 0, [46, 48, 52], []⟩, ⟨0, 0, 0, [53], []⟩, ⟨0, 0, 0, [40], []⟩, ⟨0, 0, 0, [40], []⟩, ⟨2, 0, 0, [], []⟩, ⟨3, 0, 0, [13, 54], [16]⟩, ⟨0, 0, 0, [55], []⟩] (.node 2 [⟨1, 0, 0, [3], []⟩, ⟨0, 0, 0, [1], []⟩, ⟨0, 0, 0, [7], []⟩, ⟨1, 0, 0, [22, 23], []⟩, ⟨3, 0, 0, [21, 24], []⟩, ⟨0, 0, 0, [25], []⟩, ⟨0, 0, 0, [20], []⟩, ⟨0, 0, 0, [20], []⟩, ⟨0, 0, 0, [20], []⟩, ⟨0, 0, 0, [26], []⟩, ⟨0, 0, 0, [27], []⟩, ⟨0, 0, 0, [28], []⟩] .leaf .leaf) (.node 10 [⟨0, 0, 0, [3], []⟩, ⟨1, 0, 0, [63], []⟩, ⟨0, 0, 0, [5], []⟩, ⟨1, 0, 0, [65], []⟩, ⟨0, 0, 0, [64, 66], []⟩, ⟨1, 0, 0, [67], []⟩, ⟨0, 0, 0, [5], []⟩, ⟨1, 0, 0, [69], []⟩, ⟨3, 0, 0, [68, 70], []⟩, ⟨0, 0, 0, [71], []⟩, ⟨0, 0, 0, [62], []⟩, ⟨0, 0, 0, [62], []⟩, ⟨2, 0, 0, [], []⟩, ⟨3, 0, 0, [15, 72], [12]⟩, ⟨0, 0, 0, [73], []⟩] .leaf .leaf))
def dr68 : Tr (List HOp) := .leaf
def dr69 : Tr (List HOp) := .leaf
def dr70 : Tr (List HOp) := .leaf
def dr71 : Tr (List HOp) := .leaf
def dr72 : Tr (List HOp) := (.node 8 [⟨0, 0, 0, [6], []⟩, ⟨1, 0, 0, [85], []⟩, ⟨0, 0, 0, [1], []⟩, ⟨1, 0, 0, [87], []⟩, ⟨0, 0, 0, [86, 88], []⟩, ⟨0, 0, 0, [89], []⟩, ⟨0, 0, 0, [5, 90], []⟩, ⟨0, 0, 0, [91, 90], []⟩, ⟨0, 0, 0, [92, 90], []⟩, ⟨0, 0, 0, [6, 93], []⟩, ⟨1, 0, 0, [94, 93], []⟩, ⟨0, 0, 0, [1, 93], []⟩, ⟨1, 0, 0, [96, 93], []⟩, ⟨0, 0, 0, [5, 93], []⟩, ⟨0, 0, 0, [98, 93], []⟩, ⟨0, 0, 0, [97, 99, 93], []⟩, ⟨0, 0, 0, [100, 93], []⟩, ⟨1, 0, 0, [101, 93], []⟩, ⟨0, 0, 0, [95, 102, 93], []⟩, ⟨0, 0, 0, [93, 103, 90], []⟩, ⟨0, 0, 0, [90, 104], []⟩, ⟨0, 0, 0, [105], []⟩, ⟨1, 0, 0, [1, 106], []⟩, ⟨1, 0, 0, [6, 106], []⟩, ⟨3, 0, 0, [107, 108, 106], []⟩, ⟨0, 0, 0, [109, 106], []⟩, ⟨0, 0, 0, [106, 110], []⟩] .leaf .leaf)
def dr73 : Tr (List HOp) := .leaf
def dr74 : Tr (List HOp) := .leaf
def dr75 : Tr (List HOp) := .leaf
def dr76 : Tr (List HOp) := (.node 10 [⟨0, 0, 0, [0], []⟩, ⟨0, 0, 0, [6], []⟩, ⟨0, 0, 0, [43, 44], []⟩, ⟨1, 0, 2, [45], []⟩, ⟨0, 0, 0, [46], []⟩, ⟨0, 0, 0, [0], []⟩, ⟨0, 0, 0, [6], []⟩, ⟨0, 0, 0, [49], []⟩, ⟨0, 0, 0, [6], []⟩, ⟨0, 0, 0, [51], []⟩, ⟨1, 0, 0, [48, 50, 52], []⟩, ⟨3, 0, 0, [53], []⟩, ⟨0, 0, 0, [47, 54], []⟩, ⟨0, 0, 0, [0], []⟩, ⟨0, 0, 0, [6], []⟩, ⟨0, 0, 0, [57], []⟩, ⟨0, 0, 0, [6], []⟩, ⟨0, 0, 0, [59], []⟩, ⟨1, 0, 1, [56, 58, 60], []⟩, ⟨3, 0, 0, [61], []⟩, ⟨0, 0, 0, [55, 62], []⟩, ⟨2, 0, 0, [], []⟩, ⟨3, 0, 0, [7, 63], [21]⟩] (.node 6 [⟨0, 0, 0, [0], []⟩, ⟨1, 0, 0, [29], []⟩, ⟨3, 0, 0, [30], []⟩, ⟨0, 0, 0, [0], []⟩, ⟨0, 0, 0, [32], []⟩, ⟨1, 0, 1, [33], []⟩, ⟨0, 0, 0, [34], []⟩, ⟨0, 0, 0, [31, 35], []⟩, ⟨2, 0, 0, [], []⟩, ⟨3, 0, 0, [5, 36], [8]⟩] .leaf .leaf) (.node 14 [⟨1, 0, 0, [5], []⟩, ⟨3, 0, 0, [81], []⟩, ⟨1, 1, 1, [82], []⟩, ⟨0, 0, 0, [0], []⟩, ⟨1, 0, 1, [84], []⟩, ⟨0, 0, 0, [83, 85], []⟩] .leaf .leaf))
def dr77 : Tr (List HOp) := .leaf
def dr78 : Tr (List HOp) := (.node 3 [⟨1, 0, 1, [1], []⟩, ⟨0, 0, 0, [], []⟩, ⟨1, 0, 0, [1], []⟩, ⟨3, 0, 0, [10], []⟩, ⟨3, 0, 0, [8, 9, 11], []⟩, ⟨3, 0, 0, [2, 12], []⟩] .leaf .leaf)
def dr79 : Tr (List HOp) := (.node 10 [⟨1, 0, 1, [4], []⟩, ⟨0, 0, 0, [7], []⟩, ⟨0, 0, 0, [1], []⟩, ⟨1, 0, 0, [45], []⟩, ⟨3, 0, 0, [46], []⟩, ⟨3, 0, 0, [43, 44, 47], []⟩, ⟨0, 0, 0, [48], []⟩, ⟨0, 0, 0, [42], []⟩, ⟨0, 0, 0, [42], []⟩, ⟨3, 0, 0, [4, 49], []⟩, ⟨0, 0, 0, [50], []⟩] .leaf .leaf)
def dr80 : Tr (List HOp) := (.node 9 [⟨1, 0, 0, [1], []⟩, ⟨0, 0, 0, [1], []⟩, ⟨1, 0, 0, [49], []⟩, ⟨0, 0, 0, [4], []⟩, ⟨0, 0, 0, [50, 51], []⟩, ⟨1, 0, 0, [52], []⟩, ⟨3, 0, 0, [48, 53], []⟩, ⟨0, 0, 0, [54], []⟩, ⟨0, 0, 0, [55], []⟩, ⟨0, 0, 0, [4, 56], []⟩, ⟨0, 0, 0, [57, 56], []⟩, ⟨0, 0, 0, [58, 56], []⟩, ⟨0, 0, 0, [1, 59], []⟩, ⟨1, 1, 1, [60, 59], []⟩, ⟨0, 0, 0, [4, 59], []⟩, ⟨0, 0, 0, [62, 59], []⟩, ⟨0, 0, 0, [61, 63, 59], []⟩, ⟨0, 0, 0, [64, 59], []⟩, ⟨1, 1, 1, [65, 59], []⟩, ⟨0, 0, 0, [1, 59], []⟩, ⟨1, 1, 1, [67, 59], []⟩, ⟨0, 0, 0, [4, 59], []⟩, ⟨0, 0, 0, [68, 69, 59], []⟩, ⟨0, 0, 0, [70, 59], []⟩, ⟨1, 1, 1, [71, 59], []⟩, ⟨0, 0, 0, [66, 72, 59], []⟩, ⟨0, 0, 0, [59, 73, 56], []⟩, ⟨0, 0, 0, [56, 74], []⟩] (.node 4 [⟨1, 0, 0, [1], []⟩, ⟨0, 0, 0, [1], []⟩, ⟨1, 0, 0, [13], []⟩, ⟨0, 0, 0, [3], []⟩, ⟨0, 0, 0, [14, 15], []⟩, ⟨1, 0, 0, [16], []⟩, ⟨3, 0, 0, [12, 17], []⟩, ⟨0, 0, 0, [18], []⟩, ⟨0, 0, 0, [19], []⟩, ⟨0, 0, 0, [3, 20], []⟩, ⟨0, 0, 0, [21, 20], []⟩, ⟨0, 0, 0, [22, 20], []⟩, ⟨0, 0, 0, [1, 23], []⟩, ⟨1, 1, 1, [24, 23], []⟩, ⟨0, 0, 0, [3, 23], []⟩, ⟨0, 0, 0, [26, 23], []⟩, ⟨0, 0, 0, [25, 27, 23], []⟩, ⟨0, 0, 0, [28, 23], []⟩, ⟨1, 1, 1, [29, 23], []⟩, ⟨0, 0, 0, [1, 23], []⟩, ⟨1, 1, 1, [31, 23], []⟩, ⟨0, 0, 0, [3, 23], []⟩, ⟨0, 0, 0, [32, 33, 23], []⟩, ⟨0, 0, 0, [34, 23], []⟩, ⟨1, 1, 1, [35, 23], []⟩, ⟨3, 0, 0, [30, 36, 23], []⟩, ⟨0, 0, 0, [37, 23], []⟩, ⟨0, 0, 0, [23, 38, 20], []⟩, ⟨0, 0, 0, [20, 39], []⟩] .leaf .leaf) .leaf)
def dr81 : Tr (List HOp) := (.node 11 [⟨0, 0, 0, [3], []⟩, ⟨1, 0, 0, [65], []⟩, ⟨0, 0, 0, [1], []⟩, ⟨0, 0, 0, [13], []⟩, ⟨0, 0, 0, [67, 68], []⟩, ⟨1, 0, 0, [69], []⟩, ⟨3, 0, 0, [66, 70], []⟩, ⟨0, 0, 0, [71], []⟩, ⟨0, 0, 0, [64], []⟩, ⟨0, 0, 0, [64], []⟩, ⟨0, 0, 0, [72], []⟩, ⟨0, 0, 0, [73], []⟩] (.node 4 [⟨1, 0, 0, [3], []⟩, ⟨0, 0, 0, [1], []⟩, ⟨0, 0, 0, [32], []⟩, ⟨1, 0, 0, [33], []⟩, ⟨3, 0, 0, [31, 34], []⟩, ⟨0, 0, 0, [35], []⟩] (.node 1 [⟨0, 0, 0, [3], []⟩, ⟨1, 0, 0, [20], []⟩, ⟨0, 0, 0, [1], []⟩, ⟨0, 0, 0, [22], []⟩, ⟨1, 0, 0, [23], []⟩, ⟨3, 0, 0, [21, 24], []⟩, ⟨0, 0, 0, [25], []⟩, ⟨0, 0, 0, [19], []⟩, ⟨0, 0, 0, [19], []⟩, ⟨0, 0, 0, [26], []⟩, ⟨0, 0, 0, [27], []⟩] .leaf .leaf) .leaf) (.node 24 [⟨1, 0, 1, [3], []⟩, ⟨1, 0, 0, [3], []⟩, ⟨0, 0, 0, [1], []⟩, ⟨0, 0, 0, [17], []⟩, ⟨0, 0, 0, [18], []⟩, ⟨0, 0, 0, [114, 115], []⟩, ⟨1, 0, 0, [116], []⟩, ⟨3, 0, 0, [112, 113, 117], []⟩, ⟨0, 0, 0, [2], []⟩, ⟨3, 0, 0, [111, 118, 119], []⟩, ⟨0, 0, 0, [120], []⟩, ⟨0, 0, 0, [110], []⟩, ⟨0, 0, 0, [110], []⟩, ⟨0, 0, 0, [121], []⟩, ⟨0, 0, 0, [122], []⟩] .leaf .leaf))
def dr82 : Tr (List HOp) := .leaf
def dr83 : Tr (List HOp) := (.node 8 [⟨1, 0, 0, [3], []⟩, ⟨0, 0, 0, [1], []⟩, ⟨0, 0, 0, [40], []⟩, ⟨1, 0, 0, [41], []⟩, ⟨0, 0, 0, [7], []⟩, ⟨3, 0, 0, [39, 42, 43], []⟩, ⟨0, 0, 0, [44], []⟩] (.node 2 [⟨1, 0, 0, [3], []⟩, ⟨0, 0, 0, [1], []⟩, ⟨0, 0, 0, [22], []⟩, ⟨1, 0, 0, [23], []⟩, ⟨3, 0, 0, [21, 24], []⟩, ⟨0, 0, 0, [25], []⟩] (.node 1 [⟨0, 0, 0, [3], []⟩, ⟨1, 0, 0, [13], []⟩, ⟨0, 0, 0, [1], []⟩, ⟨0, 0, 0, [15], []⟩, ⟨1, 0, 0, [16], []⟩, ⟨3, 0, 0, [14, 17], []⟩, ⟨0, 0, 0, [18], []⟩, ⟨0, 0, 0, [12], []⟩, ⟨0, 0, 0, [12], []⟩, ⟨0, 0, 0, [19], []⟩, ⟨0, 0, 0, [20], []⟩] .leaf .leaf) .leaf) (.node 13 [⟨1, 0, 1, [3], []⟩, ⟨1, 0, 0, [3], []⟩, ⟨0, 0, 0, [1], []⟩, ⟨0, 0, 0, [10], []⟩, ⟨0, 0, 0, [11], []⟩, ⟨0, 0, 0, [57, 58], []⟩, ⟨1, 0, 0, [59], []⟩, ⟨3, 0, 0, [55, 56, 60], []⟩, ⟨0, 0, 0, [2], []⟩, ⟨3, 0, 0, [54, 61, 62], []⟩, ⟨0, 0, 0, [63], []⟩] .leaf .leaf))
def dr84 : Tr (List HOp) := .leaf
def dr85 : Tr (List HOp) := .leaf
def dr86 : Tr (List HOp) := .leaf
def dr87 : Tr (List HOp) := .leaf
def dr88 : Tr (List HOp) := .leaf
def dr89 : Tr (List HOp) := (.node 27 [⟨1, 0, 0, [11], []⟩, ⟨1, 0, 1, [12], []⟩, ⟨0, 0, 0, [10], []⟩, ⟨3, 0, 0, [6, 118], []⟩, ⟨3, 0, 0, [7, 119], []⟩, ⟨0, 0, 0, [120], []⟩] (.node 26 [⟨0, 0, 0, [12], []⟩, ⟨1, 0, 0, [107], []⟩, ⟨0, 0, 0, [9], []⟩, ⟨1, 0, 0, [109], []⟩, ⟨0, 0, 0, [13], []⟩, ⟨0, 0, 0, [110, 111], []⟩, ⟨0, 0, 0, [112], []⟩, ⟨1, 0, 0, [113], []⟩, ⟨2, 0, 0, [114], []⟩, ⟨3, 0, 0, [108, 115], [8]⟩, ⟨0, 0, 0, [12], []⟩, ⟨3, 0, 0, [117, 116], []⟩] .leaf .leaf) .leaf)
def dr90 : Tr (List HOp) := .leaf
def dr91 : Tr (List HOp) := .leaf
def dr92 : Tr (List HOp) := .leaf
def dr93 : Tr (List HOp) := (.node 3 [⟨0, 0, 0, [2], []⟩, ⟨1, 0, 0, [20], []⟩, ⟨0, 0, 0, [3], []⟩, ⟨1, 0, 0, [22], []⟩, ⟨0, 0, 0, [21, 23], []⟩, ⟨1, 0, 0, [24], []⟩, ⟨0, 0, 0, [3], []⟩, ⟨1, 0, 0, [26], []⟩, ⟨3, 0, 0, [25, 27], []⟩, ⟨0, 0, 0, [28], []⟩, ⟨0, 0, 0, [19], []⟩, ⟨0, 0, 0, [19], []⟩, ⟨2, 0, 0, [], []⟩, ⟨3, 0, 0, [5, 29], [12]⟩, ⟨0, 0, 0, [30], []⟩] .leaf .leaf)
def dr94 : Tr (List HOp) := .leaf
def dr95 : Tr (List HOp) := (.node 1 [⟨0, 0, 0, [6], []⟩, ⟨1, 0, 0, [19], []⟩, ⟨0, 0, 0, [1], []⟩, ⟨0, 0, 0, [20, 21], []⟩, ⟨1, 0, 0, [22], []⟩, ⟨0, 0, 0, [2], []⟩, ⟨0, 0, 0, [3], []⟩, ⟨1, 0, 0, [10], []⟩, ⟨3, 0, 0, [23, 24, 25, 26], []⟩, ⟨0, 0, 0, [27], []⟩, ⟨0, 0, 0, [18], []⟩, ⟨0, 0, 0, [18], []⟩, ⟨0, 0, 0, [18], []⟩, ⟨2, 0, 0, [], []⟩, ⟨3, 0, 0, [15, 28], [13]⟩, ⟨0, 0, 0, [29], []⟩, ⟨0, 0, 0, [30], []⟩] .leaf .leaf)
def dr96 : Tr (List HOp) := (.node 18 [⟨0, 0, 0, [8], []⟩, ⟨0, 0, 0, [11], []⟩, ⟨1, 0, 0, [89], []⟩, ⟨0, 0, 0, [88], []⟩, ⟨0, 0, 0, [90], []⟩] (.node 15 [⟨0, 0, 0, [8], []⟩, ⟨0, 0, 0, [11], []⟩, ⟨1, 0, 0, [78], []⟩, ⟨0, 0, 0, [79], []⟩, ⟨0, 0, 0, [77], []⟩, ⟨0, 0, 0, [80], []⟩] (.node 7 [⟨0, 0, 0, [3], []⟩, ⟨1, 0, 0, [34], []⟩, ⟨0, 0, 0, [11], []⟩, ⟨1, 0, 0, [36], []⟩, ⟨0, 0, 0, [35, 37], []⟩, ⟨1, 0, 0, [38], []⟩, ⟨0, 0, 0, [11], []⟩, ⟨1, 0, 0, [40], []⟩, ⟨3, 0, 0, [39, 41], []⟩, ⟨0, 0, 0, [42], []⟩, ⟨0, 0, 0, [33], []⟩, ⟨0, 0, 0, [33], []⟩, ⟨2, 0, 0, [], []⟩, ⟨3, 0, 0, [12, 43], [12]⟩, ⟨0, 0, 0, [44], []⟩] .leaf .leaf) .leaf) (.node 20 [⟨0, 0, 0, [8], []⟩, ⟨0, 0, 0, [11], []⟩, ⟨1, 0, 0, [96], []⟩, ⟨0, 0, 0, [95], []⟩, ⟨0, 0, 0, [97], []⟩] .leaf .leaf))
def dr97 : Tr (List HOp) := (.node 6 [⟨0, 0, 0, [0], []⟩, ⟨0, 0, 0, [5], []⟩, ⟨0, 0, 0, [17, 18], []⟩, ⟨1, 0, 0, [19], []⟩, ⟨0, 0, 0, [1], []⟩, ⟨0, 0, 0, [5], []⟩, ⟨0, 0, 0, [21, 22], []⟩, ⟨1, 0, 0, [23], []⟩, ⟨0, 0, 0, [20, 24], []⟩] .leaf .leaf)
def dr98 : Tr (List HOp) := .leaf
def dr107 : Tr (List HOp) := (.node 7 [⟨1, 0, 1, [3], []⟩, ⟨1, 0, 0, [8], []⟩, ⟨0, 0, 0, [2], []⟩, ⟨3, 0, 0, [32, 33], []⟩, ⟨3, 0, 0, [31, 34], []⟩, ⟨3, 0, 0, [3, 35], []⟩] .leaf .leaf)
def dr108 : Tr (List HOp) := .leaf
def dr112 : Tr (List HOp) := .leaf
def dr113 : Tr (List HOp) := .leaf
def dr114 : Tr (List HOp) := .leaf
def dr115 : Tr (List HOp) := .leaf
def dr116 : Tr (List HOp) := (.node 5 [⟨2, 0, 0, [], []⟩, ⟨0, 0, 0, [3], []⟩, ⟨1, 0, 0, [30], []⟩, ⟨0, 0, 0, [7], []⟩, ⟨1, 0, 0, [31, 32], []⟩, ⟨3, 0, 0, [29, 33], [0]⟩, ⟨1, 0, 1, [4], []⟩, ⟨0, 0, 0, [2], []⟩, ⟨0, 0, 0, [35, 36], []⟩, ⟨2, 0, 0, [37], []⟩, ⟨3, 0, 0, [34, 38], [9]⟩, ⟨0, 0, 0, [39], []⟩] (.node 3 [⟨0, 0, 0, [7], []⟩, ⟨0, 0, 0, [3], []⟩, ⟨1, 0, 0, [13], []⟩, ⟨0, 0, 0, [14], []⟩, ⟨0, 0, 0, [12, 15], []⟩, ⟨0, 0, 0, [16], []⟩, ⟨0, 0, 0, [3, 17], []⟩, ⟨1, 0, 0, [18, 17], []⟩, ⟨0, 0, 0, [7, 17], []⟩, ⟨0, 0, 0, [19, 20, 17], []⟩, ⟨0, 0, 0, [21, 17], []⟩, ⟨1, 0, 0, [22, 17], []⟩, ⟨1, 0, 0, [4, 17], []⟩, ⟨3, 0, 0, [23, 24, 17], []⟩, ⟨0, 0, 0, [17, 25], []⟩] .leaf .leaf) .leaf)
def dr118 : Tr (List HOp) := (.node 5 [⟨0, 0, 0, [3], []⟩, ⟨1, 0, 1, [15], []⟩, ⟨0, 0, 0, [1], []⟩, ⟨1, 0, 1, [17], []⟩, ⟨0, 0, 0, [4], []⟩, ⟨0, 0, 0, [18, 19], []⟩, ⟨0, 0, 0, [20], []⟩, ⟨1, 0, 1, [21], []⟩, ⟨2, 0, 0, [], []⟩, ⟨0, 0, 0, [1], []⟩, ⟨1, 0, 0, [24], []⟩, ⟨0, 0, 0, [4], []⟩, ⟨0, 0, 0, [25, 26], []⟩, ⟨0, 0, 0, [27], []⟩, ⟨1, 0, 0, [28], []⟩, ⟨3, 0, 0, [23, 29], [8]⟩, ⟨0, 0, 0, [22, 30], []⟩, ⟨2, 0, 0, [31], []⟩, ⟨3, 0, 0, [16, 32], [17]⟩, ⟨0, 0, 0, [3], []⟩, ⟨3, 0, 0, [34, 33], []⟩] .leaf .leaf)
def dr119 : Tr (List HOp) := (.node 5 [⟨2, 0, 0, [], []⟩, ⟨0, 0, 0, [2], []⟩, ⟨1, 0, 0, [30], []⟩, ⟨0, 0, 0, [5], []⟩, ⟨1, 0, 0, [31, 32], []⟩, ⟨3, 0, 0, [29, 33], [0]⟩, ⟨1, 0, 1, [3], []⟩, ⟨3, 0, 0, [35], []⟩, ⟨2, 0, 0, [36], []⟩, ⟨3, 0, 0, [34, 37], [8]⟩, ⟨0, 0, 0, [38], []⟩] (.node 3 [⟨0, 0, 0, [5], []⟩, ⟨0, 0, 0, [2], []⟩, ⟨1, 0, 0, [12], []⟩, ⟨0, 0, 0, [13], []⟩, ⟨0, 0, 0, [11, 14], []⟩, ⟨0, 0, 0, [15], []⟩, ⟨0, 0, 0, [2, 16], []⟩, ⟨1, 0, 0, [17, 16], []⟩, ⟨0, 0, 0, [5, 16], []⟩, ⟨0, 0, 0, [18, 19, 16], []⟩, ⟨0, 0, 0, [20, 16], []⟩, ⟨1, 0, 0, [21, 16], []⟩, ⟨0, 0, 0, [3, 16], []⟩, ⟨1, 0, 0, [23, 16], []⟩, ⟨0, 0, 0, [22, 24, 16], []⟩, ⟨0, 0, 0, [16, 25], []⟩] .leaf .leaf) .leaf)
def dr120 : Tr (List HOp) := (.node 5 [⟨0, 0, 0, [2], []⟩, ⟨1, 0, 0, [18], []⟩, ⟨0, 0, 0, [1], []⟩, ⟨0, 0, 0, [6], []⟩, ⟨0, 0, 0, [20, 21], []⟩, ⟨0, 0, 0, [22], []⟩, ⟨1, 0, 0, [23], []⟩, ⟨0, 0, 0, [19, 24], []⟩, ⟨1, 0, 0, [25], []⟩, ⟨0, 0, 0, [1], []⟩, ⟨0, 0, 0, [6], []⟩, ⟨0, 0, 0, [27, 28], []⟩, ⟨0, 0, 0, [29], []⟩, ⟨1, 0, 0, [30], []⟩, ⟨3, 0, 0, [26, 31], []⟩, ⟨0, 0, 0, [32], []⟩, ⟨0, 0, 0, [17], []⟩, ⟨0, 0, 0, [17], []⟩, ⟨2, 0, 0, [], []⟩, ⟨3, 0, 0, [7, 33], [18]⟩, ⟨0, 0, 0, [34], []⟩] .leaf .leaf)
def dr121 : Tr (List HOp) := .leaf
def dr126 : Tr (List HOp) := .leaf
def dr127 : Tr (List HOp) := .leaf
def dr128 : Tr (List HOp) := .leaf
def dr129 : Tr (List HOp) := (.node 10 [⟨0, 0, 0, [1], []⟩, ⟨0, 0, 0, [10], []⟩, ⟨0, 0, 0, [48, 49], []⟩, ⟨0, 0, 0, [2], []⟩, ⟨0, 0, 0, [10], []⟩, ⟨1, 0, 0, [51, 52], []⟩, ⟨0, 0, 0, [50], []⟩, ⟨0, 0, 0, [53], []⟩] .leaf .leaf)
def dr130 : Tr (List HOp) := .leaf
def dr131 : Tr (List HOp) := (.node 6 [⟨0, 0, 0, [2], []⟩, ⟨0, 0, 0, [1], []⟩, ⟨1, 0, 0, [21], []⟩, ⟨0, 0, 0, [22], []⟩, ⟨0, 0, 0, [20], []⟩, ⟨0, 0, 0, [23], []⟩] .leaf .leaf)
def dr132 : Tr (List HOp) := .leaf
def dr133 : Tr (List HOp) := (.node 6 [⟨0, 0, 0, [2], []⟩, ⟨1, 0, 1, [24], []⟩, ⟨0, 0, 0, [5], []⟩, ⟨1, 0, 0, [3], []⟩, ⟨3, 0, 0, [27], []⟩, ⟨2, 0, 0, [28], []⟩, ⟨3, 0, 0, [25, 26, 29], [5]⟩, ⟨0, 0, 0, [2], []⟩, ⟨3, 0, 0, [31, 30], []⟩] (.node 4 [⟨0, 0, 0, [2], []⟩, ⟨1, 0, 1, [17], []⟩, ⟨0, 0, 0, [5], []⟩, ⟨1, 0, 0, [3], []⟩, ⟨3, 0, 0, [20], []⟩, ⟨0, 0, 0, [18, 19], []⟩, ⟨3, 0, 0, [22, 21], []⟩] .leaf .leaf) .leaf)
def dr134 : Tr (List HOp) := .leaf
def dr135 : Tr (List HOp) := .leaf
def dr136 : Tr (List HOp) := (.node 1 [⟨0, 0, 0, [1], []⟩, ⟨1, 0, 0, [3], []⟩, ⟨3, 0, 0, [4], []⟩, ⟨0, 0, 0, [1], []⟩, ⟨1, 0, 1, [6], []⟩, ⟨3, 0, 0, [7], []⟩, ⟨0, 0, 0, [1], []⟩, ⟨3, 0, 0, [9, 5], []⟩, ⟨0, 0, 0, [1], []⟩, ⟨3, 0, 0, [10, 8], []⟩] .leaf .leaf)
def dr138 : Tr (List HOp) := .leaf
def dr139 : Tr (List HOp) := (.node 6 [⟨0, 0, 0, [4], []⟩, ⟨0, 0, 0, [1], []⟩, ⟨1, 0, 0, [24], []⟩, ⟨0, 0, 0, [25], []⟩, ⟨0, 0, 0, [23], []⟩, ⟨0, 0, 0, [26], []⟩] .leaf .leaf)
def dr140 : Tr (List HOp) := (.node 11 [⟨0, 0, 0, [7], []⟩, ⟨0, 0, 0, [90], []⟩, ⟨0, 0, 0, [91], []⟩, ⟨0, 0, 0, [3, 92], []⟩, ⟨1, 0, 0, [93, 92], []⟩, ⟨0, 0, 0, [5, 92], []⟩, ⟨0, 0, 0, [94, 95, 92], []⟩, ⟨0, 0, 0, [96, 92], []⟩, ⟨1, 0, 0, [97, 92], []⟩, ⟨3, 0, 0, [98, 92], []⟩, ⟨0, 0, 0, [99, 92], []⟩, ⟨0, 0, 0, [92, 100], []⟩, ⟨0, 0, 0, [101], []⟩, ⟨0, 0, 0, [5, 102], []⟩, ⟨0, 0, 0, [103, 102], []⟩, ⟨0, 0, 0, [104, 102], []⟩, ⟨0, 0, 0, [3, 105], []⟩, ⟨1, 1, 1, [106, 105], []⟩, ⟨0, 0, 0, [5, 105], []⟩, ⟨0, 0, 0, [107, 108, 105], []⟩, ⟨0, 0, 0, [109, 105], []⟩, ⟨1, 1, 1, [110, 105], []⟩, ⟨0, 0, 0, [3, 105], []⟩, ⟨1, 1, 1, [112, 105], []⟩, ⟨0, 0, 0, [5, 105], []⟩, ⟨0, 0, 0, [114, 105], []⟩, ⟨0, 0, 0, [113, 115, 105], []⟩, ⟨0, 0, 0, [116, 105], []⟩, ⟨1, 1, 1, [117, 105], []⟩, ⟨0, 0, 0, [111, 118, 105], []⟩, ⟨0, 0, 0, [105, 119, 102], []⟩, ⟨0, 0, 0, [102, 120], []⟩] (.node 10 [⟨1, 0, 0, [2], []⟩, ⟨0, 0, 0, [3], []⟩, ⟨1, 0, 0, [81], []⟩, ⟨0, 0, 0, [5], []⟩, ⟨0, 0, 0, [82, 83], []⟩, ⟨0, 0, 0, [84], []⟩, ⟨1, 0, 0, [85], []⟩, ⟨3, 0, 0, [80, 86], []⟩, ⟨0, 0, 0, [87], []⟩, ⟨0, 0, 0, [79], []⟩, ⟨0, 0, 0, [79], []⟩, ⟨2, 0, 0, [], []⟩, ⟨3, 0, 0, [6, 88], [11]⟩, ⟨0, 0, 0, [89], []⟩] .leaf .leaf) .leaf)
def dr141 : Tr (List HOp) := .leaf
def dr142 : Tr (List HOp) := (.node 10 [⟨1, 0, 2, [4], []⟩, ⟨0, 0, 0, [13], []⟩, ⟨0, 0, 0, [2], []⟩, ⟨0, 0, 0, [49], []⟩, ⟨2, 0, 0, [], []⟩, ⟨0, 0, 0, [3], []⟩, ⟨3, 0, 0, [51, 52], [4]⟩, ⟨0, 0, 0, [13], []⟩, ⟨2, 0, 0, [54], []⟩, ⟨3, 0, 0, [53, 55], [8]⟩, ⟨3, 0, 0, [47, 48, 50, 56], []⟩, ⟨0, 0, 0, [57], []⟩, ⟨0, 0, 0, [46], []⟩, ⟨0, 0, 0, [46], []⟩, ⟨0, 0, 0, [58], []⟩, ⟨0, 0, 0, [59], []⟩] .leaf .leaf)
def dr143 : Tr (List HOp) := .leaf
def dr144 : Tr (List HOp) := (.node 1 [⟨0, 0, 0, [0], []⟩, ⟨0, 0, 0, [3], []⟩, ⟨1, 0, 0, [4], []⟩, ⟨0, 0, 0, [5], []⟩, ⟨0, 0, 0, [6], []⟩, ⟨0, 0, 0, [0], []⟩, ⟨0, 0, 0, [8], []⟩, ⟨1, 0, 0, [9], []⟩, ⟨0, 0, 0, [10], []⟩, ⟨0, 0, 0, [11], []⟩, ⟨0, 0, 0, [7, 12], []⟩, ⟨0, 0, 0, [0], []⟩, ⟨0, 0, 0, [14], []⟩, ⟨1, 0, 0, [15], []⟩, ⟨0, 0, 0, [16], []⟩, ⟨0, 0, 0, [17], []⟩, ⟨0, 0, 0, [13, 18], []⟩, ⟨0, 0, 0, [0], []⟩, ⟨0, 0, 0, [20], []⟩, ⟨1, 0, 0, [21], []⟩, ⟨0, 0, 0, [22], []⟩, ⟨0, 0, 0, [19, 23], []⟩, ⟨0, 0, 0, [24], []⟩] .leaf .leaf)
def dr145 : Tr (List HOp) := (.node 5 [⟨0, 0, 0, [3], []⟩, ⟨0, 0, 0, [1], []⟩, ⟨1, 0, 0, [27], []⟩, ⟨3, 0, 0, [28], []⟩, ⟨3, 0, 0, [26, 29], []⟩, ⟨0, 0, 0, [1], []⟩, ⟨1, 0, 2, [31], []⟩, ⟨3, 0, 0, [32], []⟩, ⟨3, 0, 0, [30, 33], []⟩, ⟨0, 0, 0, [34], []⟩] (.node 3 [⟨0, 0, 0, [1], []⟩, ⟨1, 0, 0, [7], []⟩, ⟨3, 0, 0, [8], []⟩, ⟨0, 0, 0, [1], []⟩, ⟨1, 0, 1, [10], []⟩, ⟨0, 0, 0, [11], []⟩, ⟨3, 0, 0, [12], []⟩, ⟨3, 0, 0, [9, 13], []⟩, ⟨0, 0, 0, [1], []⟩, ⟨1, 0, 3, [15], []⟩, ⟨0, 0, 0, [16], []⟩, ⟨3, 0, 0, [17], []⟩, ⟨3, 0, 0, [14, 18], []⟩, ⟨0, 0, 0, [19], []⟩] .leaf .leaf) .leaf)
def dr146 : Tr (List HOp) := (.node 10 [⟨1, 0, 0, [4], []⟩, ⟨0, 0, 0, [2], []⟩, ⟨0, 0, 0, [11], []⟩, ⟨0, 0, 0, [46, 47], []⟩, ⟨1, 0, 0, [48], []⟩, ⟨0, 0, 0, [10], []⟩, ⟨3, 0, 0, [45, 49, 50], []⟩, ⟨3, 0, 0, [4, 51], []⟩] (.node 2 [⟨1, 0, 0, [3], []⟩, ⟨0, 0, 0, [2], []⟩, ⟨0, 0, 0, [23], []⟩, ⟨1, 0, 0, [24], []⟩, ⟨3, 0, 0, [22, 25], []⟩, ⟨0, 0, 0, [26], []⟩] (.node 1 [⟨1, 0, 0, [4], []⟩, ⟨0, 0, 0, [2], []⟩, ⟨0, 0, 0, [16], []⟩, ⟨1, 0, 0, [17], []⟩, ⟨3, 0, 0, [15, 18], []⟩, ⟨0, 0, 0, [19], []⟩, ⟨0, 0, 0, [14], []⟩, ⟨0, 0, 0, [14], []⟩, ⟨0, 0, 0, [20], []⟩, ⟨0, 0, 0, [21], []⟩] .leaf .leaf) .leaf) (.node 17 [⟨1, 0, 1, [3], []⟩, ⟨1, 0, 1, [4], []⟩, ⟨1, 0, 0, [3], []⟩, ⟨0, 0, 0, [2], []⟩, ⟨0, 0, 0, [12], []⟩, ⟨0, 0, 0, [13], []⟩, ⟨0, 0, 0, [73, 74], []⟩, ⟨1, 0, 0, [75], []⟩, ⟨3, 0, 0, [71, 72, 76], []⟩, ⟨3, 0, 0, [69, 70, 77], []⟩, ⟨3, 0, 0, [4, 78], []⟩] (.node 12 [⟨1, 0, 0, [4], []⟩, ⟨0, 0, 0, [10], []⟩, ⟨0, 0, 0, [2], []⟩, ⟨0, 0, 0, [56], []⟩, ⟨1, 0, 0, [57], []⟩, ⟨3, 0, 0, [54, 55, 58], []⟩, ⟨3, 0, 0, [6, 59], []⟩] .leaf .leaf) .leaf))
def dr147 : Tr (List HOp) := .leaf
def dr148 : Tr (List HOp) := (.node 8 [⟨0, 0, 0, [10], []⟩, ⟨1, 0, 0, [46], []⟩, ⟨0, 0, 0, [2], []⟩, ⟨0, 0, 0, [3], []⟩, ⟨0, 0, 0, [49], []⟩, ⟨3, 0, 0, [47, 48, 50], []⟩, ⟨0, 0, 0, [4], []⟩, ⟨1, 0, 1, [52], []⟩, ⟨0, 0, 0, [13], []⟩, ⟨0, 0, 0, [53, 54], []⟩, ⟨0, 0, 0, [51, 55], []⟩] .leaf .leaf)
def dr149 : Tr (List HOp) := .leaf
def dr150 : Tr (List HOp) := .leaf
def dr151 : Tr (List HOp) := (.node 9 [⟨0, 0, 0, [8], []⟩, ⟨0, 0, 0, [32], []⟩, ⟨0, 0, 0, [10, 33], []⟩, ⟨0, 0, 0, [34, 33], []⟩, ⟨1, 0, 0, [35, 33], []⟩, ⟨0, 0, 0, [1, 33], []⟩, ⟨0, 0, 0, [36, 37, 33], []⟩, ⟨0, 0, 0, [38, 33], []⟩, ⟨0, 0, 0, [10, 39], []⟩, ⟨0, 0, 0, [40, 39], []⟩, ⟨1, 0, 0, [41, 39], []⟩, ⟨0, 0, 0, [5, 39], []⟩, ⟨1, 0, 0, [43, 39], []⟩, ⟨0, 0, 0, [7, 39], []⟩, ⟨0, 0, 0, [44, 45, 39], []⟩, ⟨0, 0, 0, [46, 39], []⟩, ⟨1, 0, 0, [47, 39], []⟩, ⟨0, 0, 0, [42, 48, 39], []⟩, ⟨0, 0, 0, [39, 49, 33], []⟩, ⟨0, 0, 0, [50, 33], []⟩, ⟨0, 0, 0, [10, 51], []⟩, ⟨1, 0, 0, [52, 51], []⟩, ⟨3, 0, 0, [53, 51], []⟩, ⟨0, 0, 0, [5, 51], []⟩, ⟨1, 0, 1, [55, 51], []⟩, ⟨0, 0, 0, [7, 51], []⟩, ⟨0, 0, 0, [56, 57, 51], []⟩, ⟨0, 0, 0, [58, 51], []⟩, ⟨1, 0, 1, [59, 51], []⟩, ⟨0, 0, 0, [54, 60, 51], []⟩, ⟨0, 0, 0, [51, 61, 33], []⟩, ⟨0, 0, 0, [33, 62], []⟩, ⟨0, 0, 0, [63], []⟩] .leaf .leaf)
def dr152 : Tr (List HOp) := (.node 3 [⟨0, 0, 0, [3], []⟩, ⟨1, 0, 0, [25], []⟩, ⟨0, 0, 0, [7], []⟩, ⟨1, 0, 0, [27], []⟩, ⟨3, 0, 0, [26, 28], []⟩, ⟨0, 0, 0, [29], []⟩, ⟨0, 0, 0, [9, 30], []⟩, ⟨0, 0, 0, [2, 30], []⟩, ⟨0, 0, 0, [31, 32, 30], []⟩, ⟨0, 0, 0, [33, 30], []⟩, ⟨0, 0, 0, [3, 34], []⟩, ⟨1, 1, 2, [35, 34], []⟩, ⟨0, 0, 0, [7, 34], []⟩, ⟨1, 1, 2, [37, 34], []⟩, ⟨0, 0, 0, [36, 38, 34], []⟩, ⟨1, 1, 2, [39, 34], []⟩, ⟨0, 0, 0, [7, 34], []⟩, ⟨1, 1, 2, [41, 34], []⟩, ⟨0, 0, 0, [2, 34], []⟩, ⟨3, 0, 0, [43, 34], []⟩, ⟨3, 0, 0, [40, 42, 44, 34], []⟩, ⟨0, 0, 0, [34, 45, 30], []⟩, ⟨0, 0, 0, [30, 46], []⟩] .leaf .leaf)
def dr153 : Tr (List HOp) := .leaf
def dr154 : Tr (List HOp) := (.node 6 [⟨1, 0, 0, [7], []⟩, ⟨0, 0, 0, [1], []⟩, ⟨0, 0, 0, [1], []⟩, ⟨0, 0, 0, [29], []⟩, ⟨0, 0, 0, [30], []⟩, ⟨0, 0, 0, [28, 31], []⟩, ⟨1, 0, 1, [32], []⟩, ⟨3, 0, 0, [4, 27], []⟩, ⟨0, 0, 0, [33], []⟩, ⟨0, 0, 0, [], []⟩] (.node 1 [⟨1, 0, 0, [2], []⟩, ⟨0, 0, 0, [1], []⟩, ⟨0, 0, 0, [1], []⟩, ⟨0, 0, 0, [12], []⟩, ⟨0, 0, 0, [13], []⟩, ⟨1, 0, 0, [11, 14], []⟩, ⟨3, 0, 0, [10, 15], []⟩, ⟨0, 0, 0, [16], []⟩, ⟨0, 0, 0, [9], []⟩, ⟨0, 0, 0, [9], []⟩, ⟨2, 0, 0, [], []⟩, ⟨3, 0, 0, [7, 17], [10]⟩, ⟨0, 0, 0, [18], []⟩] .leaf .leaf) .leaf)
def dr155 : Tr (List HOp) := (.node 7 [⟨1, 0, 0, [6], []⟩, ⟨0, 0, 0, [1], []⟩, ⟨0, 0, 0, [8], []⟩, ⟨0, 0, 0, [28, 29], []⟩, ⟨1, 0, 0, [30], []⟩, ⟨3, 0, 0, [27, 31], []⟩, ⟨0, 0, 0, [32], []⟩, ⟨0, 0, 0, [26], []⟩, ⟨0, 0, 0, [26], []⟩, ⟨0, 0, 0, [33], []⟩, ⟨0, 0, 0, [34], []⟩] .leaf .leaf)
def dr156 : Tr (List HOp) := .leaf
def dr157 : Tr (List HOp) := .leaf
def dr158 : Tr (List HOp) := .leaf
def dr159 : Tr (List HOp) := (.node 5 [⟨1, 0, 0, [2], []⟩, ⟨0, 0, 0, [3], []⟩, ⟨1, 0, 0, [18], []⟩, ⟨0, 0, 0, [6], []⟩, ⟨0, 0, 0, [19, 20], []⟩, ⟨0, 0, 0, [21], []⟩, ⟨1, 0, 0, [22], []⟩, ⟨3, 0, 0, [17, 23], []⟩, ⟨0, 0, 0, [24], []⟩, ⟨0, 0, 0, [16], []⟩, ⟨0, 0, 0, [16], []⟩, ⟨2, 0, 0, [], []⟩, ⟨3, 0, 0, [7, 25], [11]⟩, ⟨0, 0, 0, [26], []⟩] .leaf .leaf)
def dr160 : Tr (List HOp) := .leaf
def dr161 : Tr (List HOp) := .leaf
def dr162 : Tr (List HOp) := .leaf
def dr163 : Tr (List HOp) := (.node 14 [⟨1, 0, 1, [3], []⟩, ⟨1, 0, 1, [9], []⟩, ⟨0, 0, 0, [2], []⟩, ⟨3, 0, 0, [64], []⟩, ⟨3, 0, 0, [62, 63, 65], []⟩] (.node 13 [⟨0, 0, 0, [6], []⟩, ⟨0, 0, 0, [12], []⟩, ⟨1, 0, 0, [60], []⟩, ⟨0, 0, 0, [59], []⟩, ⟨0, 0, 0, [61], []⟩] (.node 11 [⟨0, 0, 0, [6], []⟩, ⟨0, 0, 0, [12], []⟩, ⟨1, 0, 0, [52], []⟩, ⟨0, 0, 0, [53], []⟩, ⟨0, 0, 0, [51], []⟩, ⟨0, 0, 0, [54], []⟩] .leaf .leaf) .leaf) (.node 17 [⟨0, 0, 0, [6], []⟩, ⟨0, 0, 0, [3], []⟩, ⟨1, 0, 0, [72], []⟩, ⟨0, 0, 0, [73], []⟩, ⟨0, 0, 0, [74], []⟩, ⟨0, 0, 0, [71], []⟩, ⟨0, 0, 0, [75], []⟩] (.node 15 [⟨0, 0, 0, [6], []⟩, ⟨0, 0, 0, [9], []⟩, ⟨1, 0, 0, [68], []⟩, ⟨0, 0, 0, [67], []⟩, ⟨0, 0, 0, [69], []⟩] .leaf .leaf) .leaf))
def dr164 : Tr (List HOp) := (.node 8 [⟨0, 0, 0, [9], []⟩, ⟨0, 0, 0, [9], []⟩, ⟨0, 0, 0, [8], []⟩, ⟨0, 0, 0, [36, 37], []⟩, ⟨0, 0, 0, [38], []⟩, ⟨0, 0, 0, [2, 39], []⟩, ⟨0, 0, 0, [0, 39], []⟩, ⟨0, 0, 0, [9, 39], []⟩, ⟨0, 0, 0, [41, 42, 39], []⟩, ⟨1, 0, 0, [43, 39], []⟩, ⟨1, 0, 0, [4, 39], []⟩, ⟨3, 0, 0, [40, 44, 45, 39], []⟩, ⟨0, 0, 0, [46, 39], []⟩, ⟨0, 0, 0, [39, 47], []⟩, ⟨0, 0, 0, [35], []⟩, ⟨0, 0, 0, [48], []⟩] (.node 5 [⟨0, 0, 0, [2], []⟩, ⟨0, 0, 0, [0], []⟩, ⟨0, 0, 0, [11], []⟩, ⟨0, 0, 0, [25, 26], []⟩, ⟨1, 0, 0, [27], []⟩, ⟨1, 0, 0, [4], []⟩, ⟨3, 0, 0, [24, 28, 29], []⟩, ⟨0, 0, 0, [30], []⟩] .leaf .leaf) .leaf)
def dr165 : Tr (List HOp) := (.node 1 [⟨0, 0, 0, [2], []⟩, ⟨0, 0, 0, [5], []⟩, ⟨1, 0, 0, [6], []⟩, ⟨0, 0, 0, [3], []⟩, ⟨1, 0, 0, [8], []⟩, ⟨3, 0, 0, [7, 9], []⟩, ⟨0, 0, 0, [2], []⟩, ⟨0, 0, 0, [11], []⟩, ⟨1, 0, 1, [12], []⟩, ⟨0, 0, 0, [3], []⟩, ⟨1, 0, 1, [14], []⟩, ⟨3, 0, 0, [13, 15], []⟩, ⟨2, 0, 0, [10, 16], []⟩, ⟨3, 0, 0, [17], [12]⟩, ⟨0, 0, 0, [18], []⟩] .leaf .leaf)
def dr166 : Tr (List HOp) := (.node 10 [⟨1, 0, 1, [4], []⟩, ⟨1, 0, 0, [11], []⟩, ⟨0, 0, 0, [2], []⟩, ⟨0, 0, 0, [16], []⟩, ⟨3, 0, 0, [64, 65, 66], []⟩, ⟨3, 0, 0, [63, 67], []⟩, ⟨3, 0, 0, [4, 68], []⟩] .leaf .leaf)
def dr167 : Tr (List HOp) := .leaf
def dr168 : Tr (List HOp) := .leaf
def dr169 : Tr (List HOp) := (.node 1 [⟨0, 0, 0, [2], []⟩, ⟨1, 0, 0, [5], []⟩, ⟨0, 0, 0, [3], []⟩, ⟨1, 0, 0, [7], []⟩, ⟨3, 0, 0, [6, 8], []⟩, ⟨0, 0, 0, [9], []⟩, ⟨0, 0, 0, [2, 10], []⟩, ⟨1, 1, 1, [11, 10], []⟩, ⟨0, 0, 0, [3, 10], []⟩, ⟨1, 1, 1, [13, 10], []⟩, ⟨0, 0, 0, [12, 14, 10], []⟩, ⟨1, 1, 1, [15, 10], []⟩, ⟨0, 0, 0, [3, 10], []⟩, ⟨1, 1, 1, [17, 10], []⟩, ⟨3, 0, 0, [16, 18, 10], []⟩, ⟨0, 0, 0, [10, 19], []⟩, ⟨0, 0, 0, [20], []⟩] .leaf .leaf)
def dr170 : Tr (List HOp) := (.node 1 [⟨0, 0, 0, [3], []⟩, ⟨1, 0, 0, [7], []⟩, ⟨0, 0, 0, [4], []⟩, ⟨1, 0, 0, [9], []⟩, ⟨3, 0, 0, [8, 10], []⟩, ⟨0, 0, 0, [11], []⟩, ⟨0, 0, 0, [3, 12], []⟩, ⟨1, 1, 1, [13, 12], []⟩, ⟨0, 0, 0, [4, 12], []⟩, ⟨1, 1, 1, [15, 12], []⟩, ⟨0, 0, 0, [14, 16, 12], []⟩, ⟨1, 1, 1, [17, 12], []⟩, ⟨0, 0, 0, [4, 12], []⟩, ⟨1, 1, 1, [19, 12], []⟩, ⟨0, 0, 0, [2, 12], []⟩, ⟨3, 0, 0, [18, 20, 21, 12], []⟩, ⟨0, 0, 0, [12, 22], []⟩, ⟨0, 0, 0, [23], []⟩] .leaf .leaf)
def dr171 : Tr (List HOp) := (.node 6 [⟨0, 0, 0, [0], []⟩, ⟨0, 0, 0, [5], []⟩, ⟨0, 0, 0, [17, 18], []⟩, ⟨1, 0, 0, [19], []⟩, ⟨0, 0, 0, [1], []⟩, ⟨0, 0, 0, [5], []⟩, ⟨0, 0, 0, [21, 22], []⟩, ⟨1, 0, 0, [23], []⟩, ⟨0, 0, 0, [20, 24], []⟩] .leaf .leaf)
def dr172 : Tr (List HOp) := (.node 1 [⟨0, 0, 0, [2], []⟩, ⟨1, 0, 0, [5], []⟩, ⟨0, 0, 0, [3], []⟩, ⟨1, 0, 0, [7], []⟩, ⟨0, 0, 0, [6, 8], []⟩, ⟨0, 0, 0, [9], []⟩, ⟨1, 0, 0, [2, 10], []⟩, ⟨0, 0, 0, [2, 10], []⟩, ⟨1, 0, 0, [12, 10], []⟩, ⟨3, 0, 0, [11, 13, 10], []⟩, ⟨1, 1, 2, [14, 10], []⟩, ⟨1, 0, 1, [3, 10], []⟩, ⟨0, 0, 0, [3, 10], []⟩, ⟨1, 0, 1, [17, 10], []⟩, ⟨3, 0, 0, [16, 18, 10], []⟩, ⟨1, 2, 2, [19, 10], []⟩, ⟨0, 0, 0, [15, 20, 10], []⟩, ⟨0, 0, 0, [10, 21], []⟩, ⟨0, 0, 0, [22], []⟩] .leaf .leaf)
def dr193 : Tr (List HOp) := .leaf
def dr194 : Tr (List HOp) := .leaf
def dr195 : Tr (List HOp) := .leaf
def dr196 : Tr (List HOp) := .leaf
def dr197 : Tr (List HOp) := .leaf
def dr199 : Tr (List HOp) := .leaf
def dr200 : Tr (List HOp) := (.node 2 [⟨1, 0, 1, [3], []⟩, ⟨1, 0, 0, [7], []⟩, ⟨0, 0, 0, [2], []⟩, ⟨3, 0, 0, [16, 17], []⟩, ⟨3, 0, 0, [15, 18], []⟩, ⟨3, 0, 0, [6, 19], []⟩] .leaf .leaf)
def dr201 : Tr (List HOp) := .leaf
def dr202 : Tr (List HOp) := (.node 2 [⟨1, 0, 1, [4], []⟩, ⟨1, 0, 0, [9], []⟩, ⟨0, 0, 0, [2], []⟩, ⟨0, 0, 0, [3], []⟩, ⟨3, 0, 0, [18, 19, 20], []⟩, ⟨3, 0, 0, [17, 21], []⟩, ⟨3, 0, 0, [8, 22], []⟩] .leaf .leaf)
def dr203 : Tr (List HOp) := (.node 5 [⟨0, 0, 0, [2], []⟩, ⟨1, 0, 0, [14], []⟩, ⟨0, 0, 0, [6], []⟩, ⟨0, 0, 0, [15, 16], []⟩, ⟨0, 0, 0, [17], []⟩, ⟨1, 0, 0, [18], []⟩, ⟨1, 0, 0, [3], []⟩, ⟨0, 0, 0, [19, 20], []⟩] .leaf .leaf)
def dr204 : Tr (List HOp) := (.node 6 [⟨2, 0, 0, [], []⟩, ⟨0, 0, 0, [0], []⟩, ⟨0, 0, 0, [5], []⟩, ⟨1, 0, 0, [34, 35], []⟩, ⟨3, 0, 0, [33, 36], [0]⟩, ⟨0, 0, 0, [1], []⟩, ⟨2, 0, 0, [38], []⟩, ⟨3, 0, 0, [37, 39], [6]⟩, ⟨0, 0, 0, [0], []⟩, ⟨0, 0, 0, [5], []⟩, ⟨1, 0, 2, [41, 42], []⟩, ⟨3, 0, 0, [40, 43], []⟩, ⟨0, 0, 0, [44], []⟩] .leaf .leaf)
def dr205 : Tr (List HOp) := .leaf
def dr210 : Tr (List HOp) := .leaf
def dr211 : Tr (List HOp) := (.node 5 [⟨0, 0, 0, [3], []⟩, ⟨1, 0, 1, [16], []⟩, ⟨0, 0, 0, [5], []⟩, ⟨1, 0, 1, [18], []⟩, ⟨0, 0, 0, [5], []⟩, ⟨1, 0, 0, [20], []⟩, ⟨3, 0, 0, [21], []⟩, ⟨0, 0, 0, [19, 22], []⟩, ⟨2, 0, 0, [23], []⟩, ⟨3, 0, 0, [17, 24], [8]⟩, ⟨0, 0, 0, [3], []⟩, ⟨3, 0, 0, [26, 25], []⟩] .leaf .leaf)
def dr212 : Tr (List HOp) := .leaf
def dr213 : Tr (List HOp) := .leaf
def dr214 : Tr (List HOp) := .leaf
def dr215 : Tr (List HOp) := .leaf
def dr216 : Tr (List HOp) := (.node 5 [⟨0, 0, 0, [1], []⟩, ⟨1, 0, 1, [17], []⟩, ⟨0, 0, 0, [3], []⟩, ⟨1, 0, 0, [4], []⟩, ⟨3, 0, 0, [20], []⟩, ⟨0, 0, 0, [18, 19], []⟩, ⟨3, 0, 0, [22, 21], []⟩] .leaf .leaf)
def dr217 : Tr (List HOp) := .leaf
def dr219 : Tr (List HOp) := .leaf
def dr220 : Tr (List HOp) := .leaf
def dr221 : Tr (List HOp) := .leaf
def dr224 : Tr (List HOp) := .leaf
def dr225 : Tr (List HOp) := (.node 7 [⟨0, 0, 0, [4], []⟩, ⟨1, 0, 0, [26], []⟩, ⟨0, 0, 0, [27], []⟩, ⟨0, 0, 0, [28], []⟩, ⟨0, 0, 0, [4, 29], []⟩, ⟨1, 0, 0, [30, 29], []⟩, ⟨0, 0, 0, [31, 29], []⟩, ⟨0, 0, 0, [29, 32], []⟩, ⟨0, 0, 0, [33], []⟩, ⟨0, 0, 0, [4, 34], []⟩, ⟨1, 0, 0, [35, 34], []⟩, ⟨0, 0, 0, [36, 34], []⟩, ⟨0, 0, 0, [1, 34], []⟩, ⟨1, 0, 0, [38, 34], []⟩, ⟨0, 0, 0, [37, 39, 34], []⟩, ⟨0, 0, 0, [34, 40], []⟩, ⟨0, 0, 0, [41], []⟩, ⟨0, 0, 0, [4, 42], []⟩, ⟨1, 0, 0, [43, 42], []⟩, ⟨0, 0, 0, [44, 42], []⟩, ⟨0, 0, 0, [45, 42], []⟩, ⟨0, 0, 0, [42, 46], []⟩, ⟨0, 0, 0, [47], []⟩, ⟨0, 0, 0, [3, 48], []⟩, ⟨0, 0, 0, [49, 48], []⟩, ⟨0, 0, 0, [50, 48], []⟩, ⟨0, 0, 0, [4, 51], []⟩, ⟨1, 0, 0, [52, 51], []⟩, ⟨0, 0, 0, [1, 51], []⟩, ⟨1, 0, 0, [54, 51], []⟩, ⟨0, 0, 0, [3, 51], []⟩, ⟨0, 0, 0, [56, 51], []⟩, ⟨0, 0, 0, [55, 57, 51], []⟩, ⟨0, 0, 0, [58, 51], []⟩, ⟨1, 0, 0, [59, 51], []⟩, ⟨0, 0, 0, [53, 60, 51], []⟩, ⟨0, 0, 0, [51, 61, 48], []⟩, ⟨0, 0, 0, [48, 62], []⟩] .leaf .leaf)
def dr226 : Tr (List HOp) := .leaf
def dr227 : Tr (List HOp) := .leaf
def dr228 : Tr (List HOp) := (.node 6 [⟨0, 0, 0, [3], []⟩, ⟨0, 0, 0, [0], []⟩, ⟨0, 0, 0, [4], []⟩, ⟨0, 0, 0, [22, 23], []⟩, ⟨0, 0, 0, [24], []⟩, ⟨0, 0, 0, [25], []⟩, ⟨1, 0, 0, [26], []⟩, ⟨3, 0, 0, [27], []⟩, ⟨3, 0, 0, [21, 28], []⟩, ⟨0, 0, 0, [0], []⟩, ⟨0, 0, 0, [4], []⟩, ⟨0, 0, 0, [30, 31], []⟩, ⟨0, 0, 0, [32], []⟩, ⟨1, 0, 2, [33], []⟩, ⟨3, 0, 0, [34], []⟩, ⟨3, 0, 0, [29, 35], []⟩, ⟨0, 0, 0, [36], []⟩] .leaf .leaf)
def dr229 : Tr (List HOp) := (.node 5 [⟨2, 0, 0, [], []⟩, ⟨0, 0, 0, [3], []⟩, ⟨1, 0, 0, [30], []⟩, ⟨0, 0, 0, [7], []⟩, ⟨1, 0, 0, [31, 32], []⟩, ⟨3, 0, 0, [29, 33], [0]⟩, ⟨1, 0, 1, [5], []⟩, ⟨0, 0, 0, [1], []⟩, ⟨0, 0, 0, [35, 36], []⟩, ⟨2, 0, 0, [37], []⟩, ⟨3, 0, 0, [34, 38], [9]⟩, ⟨0, 0, 0, [39], []⟩] .leaf .leaf)
def dr230 : Tr (List HOp) := .leaf
def dr231 : Tr (List HOp) := .leaf
def dr232 : Tr (List HOp) := (.node 7 [⟨0, 0, 0, [3], []⟩, ⟨1, 0, 1, [24], []⟩, ⟨1, 0, 0, [3], []⟩, ⟨0, 0, 0, [8], []⟩, ⟨3, 0, 0, [26, 27], []⟩, ⟨0, 0, 0, [25, 28], []⟩, ⟨0, 0, 0, [29], []⟩, ⟨1, 1, 1, [30], []⟩, ⟨0, 0, 0, [1], []⟩, ⟨0, 0, 0, [7], []⟩, ⟨0, 0, 0, [32, 33], []⟩, ⟨0, 0, 0, [34], []⟩, ⟨0, 0, 0, [2], []⟩, ⟨0, 0, 0, [7], []⟩, ⟨0, 0, 0, [36, 37], []⟩, ⟨1, 0, 1, [38], []⟩, ⟨0, 0, 0, [31, 35], []⟩, ⟨3, 0, 0, [40, 39], []⟩] .leaf .leaf)
def dr233 : Tr (List HOp) := .leaf
def dr234 : Tr (List HOp) := (.node 10 [⟨0, 0, 0, [3], []⟩, ⟨1, 0, 0, [49], []⟩, ⟨0, 0, 0, [9], []⟩, ⟨0, 0, 0, [50, 51], []⟩, ⟨0, 0, 0, [52], []⟩, ⟨1, 0, 0, [53], []⟩, ⟨0, 0, 0, [7], []⟩, ⟨1, 0, 0, [55], []⟩, ⟨0, 0, 0, [54, 56], []⟩, ⟨0, 0, 0, [57], []⟩, ⟨0, 0, 0, [11, 58], []⟩, ⟨1, 0, 0, [59, 58], []⟩, ⟨0, 0, 0, [2, 58], []⟩, ⟨0, 0, 0, [60, 61, 58], []⟩, ⟨0, 0, 0, [58, 62], []⟩] .leaf .leaf)
def dr235 : Tr (List HOp) := (.node 6 [⟨0, 0, 0, [0], []⟩, ⟨0, 0, 0, [5], []⟩, ⟨0, 0, 0, [17, 18], []⟩, ⟨1, 0, 0, [19], []⟩, ⟨0, 0, 0, [1], []⟩, ⟨0, 0, 0, [5], []⟩, ⟨0, 0, 0, [21, 22], []⟩, ⟨1, 0, 0, [23], []⟩, ⟨0, 0, 0, [20, 24], []⟩] .leaf .leaf)
def dr236 : Tr (List HOp) := .leaf
def dr237 : Tr (List HOp) := .leaf
def dr238 : Tr (List HOp) := .leaf
def dr239 : Tr (List HOp) := .leaf
def dr240 : Tr (List HOp) := .leaf
def dr241 : Tr (List HOp) := .leaf
def dr242 : Tr (List HOp) := .leaf
def dr243 : Tr (List HOp) := (.node 1 [⟨1, 0, 1, [3], []⟩, ⟨0, 0, 0, [1], []⟩, ⟨0, 0, 0, [2], []⟩, ⟨3, 0, 0, [9], []⟩, ⟨3, 0, 0, [7, 8, 10], []⟩, ⟨0, 0, 0, [11], []⟩] .leaf .leaf)
def dr251 : Tr (List HOp) := .leaf
def dr258 : Tr (List HOp) := .leaf
def dr259 : Tr (List HOp) := (.node 5 [⟨0, 0, 0, [0], []⟩, ⟨0, 0, 0, [1], []⟩, ⟨1, 0, 0, [20, 21], []⟩, ⟨0, 0, 0, [0], []⟩, ⟨0, 0, 0, [2], []⟩, ⟨1, 0, 0, [23, 24], []⟩, ⟨3, 0, 0, [22, 25], []⟩, ⟨0, 0, 0, [26], []⟩] .leaf .leaf)
def dr260 : Tr (List HOp) := (.node 5 [⟨0, 0, 0, [0], []⟩, ⟨0, 0, 0, [1], []⟩, ⟨1, 0, 0, [20, 21], []⟩, ⟨0, 0, 0, [0], []⟩, ⟨0, 0, 0, [2], []⟩, ⟨1, 0, 0, [23, 24], []⟩, ⟨3, 0, 0, [22, 25], []⟩, ⟨0, 0, 0, [26], []⟩] .leaf .leaf)
def dr261 : Tr (List HOp) := .leaf
def dr262 : Tr (List HOp) := .leaf
def dr263 : Tr (List HOp) := .leaf
def dr265 : Tr (List HOp) := .leaf
def dr266 : Tr (List HOp) := .leaf
def dr267 : Tr (List HOp) := .leaf
def dr268 : Tr (List HOp) := (.node 5 [⟨0, 0, 0, [1], []⟩, ⟨1, 0, 1, [14], []⟩, ⟨0, 0, 0, [3], []⟩, ⟨0, 0, 0, [1], []⟩, ⟨1, 0, 0, [17], []⟩, ⟨0, 0, 0, [3], []⟩, ⟨0, 0, 0, [18, 19], []⟩, ⟨0, 0, 0, [20], []⟩, ⟨1, 0, 0, [21], []⟩, ⟨3, 0, 0, [22], []⟩, ⟨0, 0, 0, [15, 16], []⟩, ⟨0, 0, 0, [24], []⟩, ⟨3, 0, 0, [25, 23], []⟩] .leaf .leaf)
def dr269 : Tr (List HOp) := .leaf
def dr272 : Tr (List HOp) := .leaf
def dr274 : Tr (List HOp) := .leaf
def dr275 : Tr (List HOp) := .leaf
def dr276 : Tr (List HOp) := .leaf
def dr277 : Tr (List HOp) := .leaf
def dr279 : Tr (List HOp) := .leaf
def dr282 : Tr (List HOp) := .leaf
def dr283 : Tr (List HOp) := .leaf
def dr284 : Tr (List HOp) := .leaf
def dr287 : Tr (List HOp) := .leaf
def dr288 : Tr (List HOp) := .leaf
def dr293 : Tr (List HOp) := .leaf
noncomputable def hTree : Tr Hint := (.node 142 ⟨2305878211034117919, dr142.get⟩ (.node 76 ⟨77371547603242546179997949, dr76.get⟩ (.node 40 ⟨207, dr40.get⟩ (.node 28 ⟨31, dr28.get⟩ (.node 15 ⟨5, dr15.get⟩ (.node 8 ⟨567, dr8.get⟩ (.node 6 ⟨1153484454627386359, dr6.get⟩ (.node 5 ⟨8589950963, dr5.get⟩ .leaf .leaf) (.node 7 ⟨19, dr7.get⟩ .leaf .leaf)) (.node 14 ⟨524429, dr14.get⟩ (.node 9 ⟨147573969084565552079, dr9.get⟩ .leaf .leaf) .leaf)) (.node 25 ⟨29, dr25.get⟩ (.node 24 ⟨18926647685195718787581, dr24.get⟩ (.node 20 ⟨2099319, dr20.get⟩ .leaf .leaf) .leaf) (.node 27 ⟨576497036187140159, dr27.get⟩ (.node 26 ⟨21267658073802141423207536701380624119, dr26.get⟩ .leaf .leaf) .leaf))) (.node 34 ⟨79383056208983298144258236399, dr34.get⟩ (.node 31 ⟨1075839967, dr31.get⟩ (.node 30 ⟨543, dr30.get⟩ (.node 29 ⟨1152921504607961143, dr29.get⟩ .leaf .leaf) .leaf) (.node 33 ⟨140772921868351, dr33.get⟩ (.node 32 ⟨137506064511, dr32.get⟩ .leaf .leaf) .leaf)) (.node 37 ⟨2210511935, dr37.get⟩ (.node 36 ⟨31, dr36.get⟩ (.node 35 ⟨8797174632823, dr35.get⟩ .leaf .leaf) .leaf) (.node 39 ⟨31, dr39.get⟩ (.node 38 ⟨543, dr38.get⟩ .leaf .leaf) .leaf)))) (.node 64 ⟨7, dr64.get⟩ (.node 52 ⟨18014415690005823, dr52.get⟩ (.node 45 ⟨31, dr45.get⟩ (.node 43 ⟨131135, dr43.get⟩ (.node 42 ⟨2099327, dr42.get⟩ .leaf .leaf) (.node 44 ⟨2099319, dr44.get⟩ .leaf .leaf)) (.node 49 ⟨7, dr49.get⟩ (.node 46 ⟨4503883095212095, dr46.get⟩ .leaf .leaf) .leaf)) (.node 61 ⟨8589936511, dr61.get⟩ (.node 60 ⟨17180008431, dr60.get⟩ (.node 57 ⟨7, dr57.get⟩ .leaf .leaf) .leaf) (.node 63 ⟨23, dr63.get⟩ (.node 62 ⟨65783, dr62.get⟩ .leaf .leaf) .leaf))) (.node 70 ⟨1049039, dr70.get⟩ (.node 67 ⟨37778931863514970665455, dr67.get⟩ (.node 66 ⟨64831, dr66.get⟩ (.node 65 ⟨140737488357375, dr65.get⟩ .leaf .leaf) .leaf) (.node 69 ⟨262639, dr69.get⟩ (.node 68 ⟨270391, dr68.get⟩ .leaf .leaf) .leaf)) (.node 73 ⟨1125899915235575, dr73.get⟩ (.node 72 ⟨5444686620382917967317114343346218730495, dr72.get⟩ (.node 71 ⟨16777487, dr71.get⟩ .leaf .leaf) .leaf) (.node 75 ⟨137443153695, dr75.get⟩ (.node 74 ⟨2099319, dr74.get⟩ .leaf .leaf) .leaf))))) (.node 112 ⟨549757915087, dr112.get⟩ (.node 89 ⟨20450846824971610929518128152543, dr89.get⟩ (.node 83 ⟨18448996149541998287, dr83.get⟩ (.node 80 ⟨37778931899241045426719, dr80.get⟩ (.node 78 ⟨71, dr78.get⟩ (.node 77 ⟨23, dr77.get⟩ .leaf .leaf) (.node 79 ⟨4503616840795071, dr79.get⟩ .leaf .leaf)) (.node 82 ⟨56677909396853046119415, dr82.get⟩ (.node 81 ⟨21267810201778898048460472582924664783, dr81.get⟩ .leaf .leaf) .leaf)) (.node 86 ⟨295436425843771973599, dr86.get⟩ (.node 85 ⟨2363633199632179314655, dr85.get⟩ (.node 84 ⟨7, dr84.get⟩ .leaf .leaf) .leaf) (.node 88 ⟨332307157403782402913007396294492111, dr88.get⟩ (.node 87 ⟨4398600691663, dr87.get⟩ .leaf .leaf) .leaf))) (.node 95 ⟨4295226495, dr95.get⟩ (.node 92 ⟨207, dr92.get⟩ (.node 91 ⟨335, dr91.get⟩ (.node 90 ⟨927, dr90.get⟩ .leaf .leaf) .leaf) (.node 94 ⟨65791, dr94.get⟩ (.node 93 ⟨131135, dr93.get⟩ .leaf .leaf) .leaf)) (.node 98 ⟨31, dr98.get⟩ (.node 97 ⟨33571891, dr97.get⟩ (.node 96 ⟨19961788446141301960980291535, dr96.get⟩ .leaf .leaf) .leaf) (.node 108 ⟨5, dr108.get⟩ (.node 107 ⟨8796097220559, dr107.get⟩ .leaf .leaf) .leaf)))) (.node 129 ⟨134252239, dr129.get⟩ (.node 119 ⟨67108991, dr119.get⟩ (.node 115 ⟨35184388994975, dr115.get⟩ (.node 114 ⟨111, dr114.get⟩ (.node 113 ⟨5, dr113.get⟩ .leaf .leaf) .leaf) (.node 118 ⟨4127, dr118.get⟩ (.node 116 ⟨67109343, dr116.get⟩ .leaf .leaf) .leaf)) (.node 126 ⟨2147618759, dr126.get⟩ (.node 121 ⟨67109327, dr121.get⟩ (.node 120 ⟨288230925907543799, dr120.get⟩ .leaf .leaf) .leaf) (.node 128 ⟨79, dr128.get⟩ (.node 127 ⟨23, dr127.get⟩ .leaf .leaf) .leaf))) (.node 135 ⟨31, dr135.get⟩ (.node 132 ⟨111, dr132.get⟩ (.node 131 ⟨1967, dr131.get⟩ (.node 130 ⟨2104271, dr130.get⟩ .leaf .leaf) .leaf) (.node 134 ⟨33015, dr134.get⟩ (.node 133 ⟨65663, dr133.get⟩ .leaf .leaf) .leaf)) (.node 139 ⟨1087, dr139.get⟩ (.node 138 ⟨2103, dr138.get⟩ (.node 136 ⟨7, dr136.get⟩ .leaf .leaf) .leaf) (.node 141 ⟨137447346423, dr141.get⟩ (.node 140 ⟨2658455991569909665142811848005910719, dr140.get⟩ .leaf .leaf) .leaf)))))) (.node 216 ⟨15391, dr216.get⟩ (.node 167 ⟨111, dr167.get⟩ (.node 155 ⟨68736780151, dr155.get⟩ (.node 149 ⟨31, dr149.get⟩ (.node 146 ⟨73795987894286958431, dr146.get⟩ (.node 144 ⟨5, dr144.get⟩ (.node 143 ⟨183, dr143.get⟩ .leaf .leaf) (.node 145 ⟨79, dr145.get⟩ .leaf .leaf)) (.node 148 ⟨72058143810533151, dr148.get⟩ (.node 147 ⟨269485519, dr147.get⟩ .leaf .leaf) .leaf)) (.node 152 ⟨140737488356063, dr152.get⟩ (.node 151 ⟨36893488147427526639, dr151.get⟩ (.node 150 ⟨31, dr150.get⟩ .leaf .leaf) .leaf) (.node 154 ⟨34603511, dr154.get⟩ (.node 153 ⟨8333, dr153.get⟩ .leaf .leaf) .leaf))) (.node 161 ⟨33231, dr161.get⟩ (.node 158 ⟨16793663, dr158.get⟩ (.node 157 ⟨19, dr157.get⟩ (.node 156 ⟨2104095, dr156.get⟩ .leaf .leaf) .leaf) (.node 160 ⟨8606759999, dr160.get⟩ (.node 159 ⟨8447, dr159.get⟩ .leaf .leaf) .leaf)) (.node 164 ⟨2147618775, dr164.get⟩ (.node 163 ⟨73823295363195600591, dr163.get⟩ (.node 162 ⟨279307124983, dr162.get⟩ .leaf .leaf) .leaf) (.node 166 ⟨140737555591071, dr166.get⟩ (.node 165 ⟨31, dr165.get⟩ .leaf .leaf) .leaf)))) (.node 200 ⟨207, dr200.get⟩ (.node 193 ⟨55, dr193.get⟩ (.node 170 ⟨95, dr170.get⟩ (.node 169 ⟨31, dr169.get⟩ (.node 168 ⟨262623, dr168.get⟩ .leaf .leaf) .leaf) (.node 172 ⟨31, dr172.get⟩ (.node 171 ⟨33571891, dr171.get⟩ .leaf .leaf) .leaf)) (.node 196 ⟨32887, dr196.get⟩ (.node 195 ⟨2097399, dr195.get⟩ (.node 194 ⟨33015, dr194.get⟩ .leaf .leaf) .leaf) (.node 199 ⟨463, dr199.get⟩ (.node 197 ⟨21, dr197.get⟩ .leaf .leaf) .leaf))) (.node 210 ⟨604275, dr210.get⟩ (.node 203 ⟨2099327, dr203.get⟩ (.node 202 ⟨799, dr202.get⟩ (.node 201 ⟨2099319, dr201.get⟩ .leaf .leaf) .leaf) (.node 205 ⟨2099319, dr205.get⟩ (.node 204 ⟨2147614771, dr204.get⟩ .leaf .leaf) .leaf)) (.node 213 ⟨21, dr213.get⟩ (.node 212 ⟨65783, dr212.get⟩ (.node 211 ⟨15407, dr211.get⟩ .leaf .leaf) .leaf) (.node 215 ⟨55, dr215.get⟩ (.node 214 ⟨549760008399, dr214.get⟩ .leaf .leaf) .leaf))))) (.node 251 ⟨2099319, dr251.get⟩ (.node 232 ⟨8796093039055, dr232.get⟩ (.node 226 ⟨131635, dr226.get⟩ (.node 221 ⟨21, dr221.get⟩ (.node 219 ⟨537399539, dr219.get⟩ (.node 217 ⟨7, dr217.get⟩ .leaf .leaf) (.node 220 ⟨15, dr220.get⟩ .leaf .leaf)) (.node 225 ⟨9671452673777217671798847, dr225.get⟩ (.node 224 ⟨1049655, dr224.get⟩ .leaf .leaf) .leaf)) (.node 229 ⟨67109359, dr229.get⟩ (.node 228 ⟨285, dr228.get⟩ (.node 227 ⟨5, dr227.get⟩ .leaf .leaf) .leaf) (.node 231 ⟨136315343, dr231.get⟩ (.node 230 ⟨275549028855, dr230.get⟩ .leaf .leaf) .leaf))) (.node 238 ⟨17389, dr238.get⟩ (.node 235 ⟨33571891, dr235.get⟩ (.node 234 ⟨83010629815263825615, dr234.get⟩ (.node 233 ⟨32781, dr233.get⟩ .leaf .leaf) .leaf) (.node 237 ⟨735, dr237.get⟩ (.node 236 ⟨8388863, dr236.get⟩ .leaf .leaf) .leaf)) (.node 241 ⟨23, dr241.get⟩ (.node 240 ⟨207, dr240.get⟩ (.node 239 ⟨604275, dr239.get⟩ .leaf .leaf) .leaf) (.node 243 ⟨79, dr243.get⟩ (.node 242 ⟨23, dr242.get⟩ .leaf .leaf) .leaf)))) (.node 272 ⟨66483, dr272.get⟩ (.node 263 ⟨23, dr263.get⟩ (.node 260 ⟨65735, dr260.get⟩ (.node 259 ⟨65735, dr259.get⟩ (.node 258 ⟨55, dr258.get⟩ .leaf .leaf) .leaf) (.node 262 ⟨2147618759, dr262.get⟩ (.node 261 ⟨5, dr261.get⟩ .leaf .leaf) .leaf)) (.node 267 ⟨21, dr267.get⟩ (.node 266 ⟨23, dr266.get⟩ (.node 265 ⟨2147618759, dr265.get⟩ .leaf .leaf) .leaf) (.node 269 ⟨21, dr269.get⟩ (.node 268 ⟨7183, dr268.get⟩ .leaf .leaf) .leaf))) (.node 282 ⟨2147618759, dr282.get⟩ (.node 276 ⟨23, dr276.get⟩ (.node 275 ⟨23, dr275.get⟩ (.node 274 ⟨67110007, dr274.get⟩ .leaf .leaf) .leaf) (.node 279 ⟨1231, dr279.get⟩ (.node 277 ⟨5, dr277.get⟩ .leaf .leaf) .leaf)) (.node 287 ⟨21, dr287.get⟩ (.node 284 ⟨604275, dr284.get⟩ (.node 283 ⟨23, dr283.get⟩ .leaf .leaf) .leaf) (.node 293 ⟨5, dr293.get⟩ (.node 288 ⟨21, dr288.get⟩ .leaf .leaf) .leaf)))))))
def oTree : Tr Bool := (.node 221 true (.node 211 true (.node 136 true (.node 126 true (.node 118 true .leaf .leaf) (.node 133 true .leaf .leaf)) (.node 195 true (.node 164 true .leaf .leaf) (.node 197 true .leaf .leaf))) (.node 216 true (.node 213 true (.node 212 true .leaf .leaf) (.node 214 true .leaf .leaf)) (.node 219 true (.node 217 true .leaf .leaf) .leaf))) (.node 268 true (.node 260 true (.node 228 true (.node 227 true .leaf .leaf) (.node 259 true .leaf .leaf)) (.node 265 true (.node 262 true .leaf .leaf) (.node 267 true .leaf .leaf))) (.node 282 true (.node 272 true (.node 269 true .leaf .leaf) (.node 274 true .leaf .leaf)) (.node 288 true (.node 287 true .leaf .leaf) .leaf))))
def iTree : Tr (Nat × Nat) := (.node 264 (2, 32) (.node 218 (8, 104) (.node 137 (3, 24) .leaf .leaf) .leaf) (.node 278 (2, 24) .leaf .leaf))
noncomputable def E0 : Env := { T := tTree.get, G := gTree.get, hint := hTree.get, own := fun n => (oTree.get n).isSome, ins := iTree.get, orc := fun _ => none }
theorem tOk : tTree.allB (fun k i => ifb (tiB Go.Proofs.Tryz.prog k i) (impB i.eq (ifb (Nat.beq k 194) (eqAV (.agg i.zero) (.agg [.str [], .int .i64 0])) (ifb (Nat.beq k 150) (eqAV (.agg i.zero) (.agg [.int .i64 0, .int .i64 0, .int .i64 0])) (ifb (Nat.beq k 58) (eqAV (.agg i.zero) (.agg [.int .i64 0, .int .i64 0])) (false))))) false) = true := by decide +kernel
theorem tAll : tTree.All fun k i => tiB Go.Proofs.Tryz.prog k i = true ∧ (i.eq = true → EqOk Go.Proofs.Tryz.prog k i.zero) := by
  refine Tr.all_of (fun k i h => ?_) tOk
  obtain ⟨h1, h2⟩ := ifb_and h
  refine ⟨h1, fun he => ?_⟩
  have h0 := impB_mp h2 he
  rcases ifb_some2 h0 with ⟨h3, h4⟩ | h0
  · have := eqAV_true _ _ h4
    injection this with this
    rw [beq_eq_of h3, this]; exact Go.Proofs.eq194
  rcases ifb_some2 h0 with ⟨h3, h4⟩ | h0
  · have := eqAV_true _ _ h4
    injection this with this
    rw [beq_eq_of h3, this]; exact Go.Proofs.eq150
  rcases ifb_some2 h0 with ⟨h3, h4⟩ | h0
  · have := eqAV_true _ _ h4
    injection this with this
    rw [beq_eq_of h3, this]; exact Go.Proofs.eq58
  cases h0
theorem fOk5 : Go.Proofs.Tryz.prog.funcs[5]? = some Go.Proofs.Tryz.f5 ∧ Go.Proofs.Tryz.f5.name ≠ "runtime.NumGoroutine" := ⟨Go.Proofs.Tryz.func5, by decide +kernel⟩
theorem fOk6 : Go.Proofs.Tryz.prog.funcs[6]? = some Go.Proofs.Tryz.f6 ∧ Go.Proofs.Tryz.f6.name ≠ "runtime.NumGoroutine" := ⟨Go.Proofs.Tryz.func6, by decide +kernel⟩
theorem fOk7 : Go.Proofs.Tryz.prog.funcs[7]? = some Go.Proofs.Tryz.f7 ∧ Go.Proofs.Tryz.f7.name ≠ "runtime.NumGoroutine" := ⟨Go.Proofs.Tryz.func7, by decide +kernel⟩
theorem fOk8 : Go.Proofs.Tryz.prog.funcs[8]? = some Go.Proofs.Tryz.f8 ∧ Go.Proofs.Tryz.f8.name ≠ "runtime.NumGoroutine" := ⟨Go.Proofs.Tryz.func8, by decide +kernel⟩
theorem fOk9 : Go.Proofs.Tryz.prog.funcs[9]? = some Go.Proofs.Tryz.f9 ∧ Go.Proofs.Tryz.f9.name ≠ "runtime.NumGoroutine" := ⟨Go.Proofs.Tryz.func9, by decide +kernel⟩
theorem fOk14 : Go.Proofs.Tryz.prog.funcs[14]? = some Go.Proofs.Tryz.f14 ∧ Go.Proofs.Tryz.f14.name ≠ "runtime.NumGoroutine" := ⟨Go.Proofs.Tryz.func14, by decide +kernel⟩
theorem fOk15 : Go.Proofs.Tryz.prog.funcs[15]? = some Go.Proofs.Tryz.f15 ∧ Go.Proofs.Tryz.f15.name ≠ "runtime.NumGoroutine" := ⟨Go.Proofs.Tryz.func15, by decide +kernel⟩
theorem fOk20 : Go.Proofs.Tryz.prog.funcs[20]? = some Go.Proofs.Tryz.f20 ∧ Go.Proofs.Tryz.f20.name ≠ "runtime.NumGoroutine" := ⟨Go.Proofs.Tryz.func20, by decide +kernel⟩
theorem fOk24 : Go.Proofs.Tryz.prog.funcs[24]? = some Go.Proofs.Tryz.f24 ∧ Go.Proofs.Tryz.f24.name ≠ "runtime.NumGoroutine" := ⟨Go.Proofs.Tryz.func24, by decide +kernel⟩
theorem fOk25 : Go.Proofs.Tryz.prog.funcs[25]? = some Go.Proofs.Tryz.f25 ∧ Go.Proofs.Tryz.f25.name ≠ "runtime.NumGoroutine" := ⟨Go.Proofs.Tryz.func25, by decide +kernel⟩
theorem fOk26 : Go.Proofs.Tryz.prog.funcs[26]? = some Go.Proofs.Tryz.f26 ∧ Go.Proofs.Tryz.f26.name ≠ "runtime.NumGoroutine" := ⟨Go.Proofs.Tryz.func26, by decide +kernel⟩
theorem fOk27 : Go.Proofs.Tryz.prog.funcs[27]? = some Go.Proofs.Tryz.f27 ∧ Go.Proofs.Tryz.f27.name ≠ "runtime.NumGoroutine" := ⟨Go.Proofs.Tryz.func27, by decide +kernel⟩
theorem fOk28 : Go.Proofs.Tryz.prog.funcs[28]? = some Go.Proofs.Tryz.f28 ∧ Go.Proofs.Tryz.f28.name ≠ "runtime.NumGoroutine" := ⟨Go.Proofs.Tryz.func28, by decide +kernel⟩
theorem fOk29 : Go.Proofs.Tryz.prog.funcs[29]? = some Go.Proofs.Tryz.f29 ∧ Go.Proofs.Tryz.f29.name ≠ "runtime.NumGoroutine" := ⟨Go.Proofs.Tryz.func29, by decide +kernel⟩
theorem fOk30 : Go.Proofs.Tryz.prog.funcs[30]? = some Go.Proofs.Tryz.f30 ∧ Go.Proofs.Tryz.f30.name ≠ "runtime.NumGoroutine" := ⟨Go.Proofs.Tryz.func30, by decide +kernel⟩
theorem fOk31 : Go.Proofs.Tryz.prog.funcs[31]? = some Go.Proofs.Tryz.f31 ∧ Go.Proofs.Tryz.f31.name ≠ "runtime.NumGoroutine" := ⟨Go.Proofs.Tryz.func31, by decide +kernel⟩
theorem fOk32 : Go.Proofs.Tryz.prog.funcs[32]? = some Go.Proofs.Tryz.f32 ∧ Go.Proofs.Tryz.f32.name ≠ "runtime.NumGoroutine" := ⟨Go.Proofs.Tryz.func32, by decide +kernel⟩
theorem fOk33 : Go.Proofs.Tryz.prog.funcs[33]? = some Go.Proofs.Tryz.f33 ∧ Go.Proofs.Tryz.f33.name ≠ "runtime.NumGoroutine" := ⟨Go.Proofs.Tryz.func33, by decide +kernel⟩
theorem fOk34 : Go.Proofs.Tryz.prog.funcs[34]? = some Go.Proofs.Tryz.f34 ∧ Go.Proofs.Tryz.f34.name ≠ "runtime.NumGoroutine" := ⟨Go.Proofs.Tryz.func34, by decide +kernel⟩
theorem fOk35 : Go.Proofs.Tryz.prog.funcs[35]? = some Go.Proofs.Tryz.f35 ∧ Go.Proofs.Tryz.f35.name ≠ "runtime.NumGoroutine" := ⟨Go.Proofs.Tryz.func35, by decide +kernel⟩
theorem fOk36 : Go.Proofs.Tryz.prog.funcs[36]? = some Go.Proofs.Tryz.f36 ∧ Go.Proofs.Tryz.f36.name ≠ "runtime.NumGoroutine" := ⟨Go.Proofs.Tryz.func36, by decide +kernel⟩
theorem fOk37 : Go.Proofs.Tryz.prog.funcs[37]? = some Go.Proofs.Tryz.f37 ∧ Go.Proofs.Tryz.f37.name ≠ "runtime.NumGoroutine" := ⟨Go.Proofs.Tryz.func37, by decide +kernel⟩
theorem fOk38 : Go.Proofs.Tryz.prog.funcs[38]? = some Go.Proofs.Tryz.f38 ∧ Go.Proofs.Tryz.f38.name ≠ "runtime.NumGoroutine" := ⟨Go.Proofs.Tryz.func38, by decide +kernel⟩
theorem fOk39 : Go.Proofs.Tryz.prog.funcs[39]? = some Go.Proofs.Tryz.f39 ∧ Go.Proofs.Tryz.f39.name ≠ "runtime.NumGoroutine" := ⟨Go.Proofs.Tryz.func39, by decide +kernel⟩
theorem fOk40 : Go.Proofs.Tryz.prog.funcs[40]? = some Go.Proofs.Tryz.f40 ∧ Go.Proofs.Tryz.f40.name ≠ "runtime.NumGoroutine" := ⟨Go.Proofs.Tryz.func40, by decide +kernel⟩
theorem fOk42 : Go.Proofs.Tryz.prog.funcs[42]? = some Go.Proofs.Tryz.f42 ∧ Go.Proofs.Tryz.f42.name ≠ "runtime.NumGoroutine" := ⟨Go.Proofs.Tryz.func42, by decide +kernel⟩
theorem fOk43 : Go.Proofs.Tryz.prog.funcs[43]? = some Go.Proofs.Tryz.f43 ∧ Go.Proofs.Tryz.f43.name ≠ "runtime.NumGoroutine" := ⟨Go.Proofs.Tryz.func43, by decide +kernel⟩
theorem fOk44 : Go.Proofs.Tryz.prog.funcs[44]? = some Go.Proofs.Tryz.f44 ∧ Go.Proofs.Tryz.f44.name ≠ "runtime.NumGoroutine" := ⟨Go.Proofs.Tryz.func44, by decide +kernel⟩
theorem fOk45 : Go.Proofs.Tryz.prog.funcs[45]? = some Go.Proofs.Tryz.f45 ∧ Go.Proofs.Tryz.f45.name ≠ "runtime.NumGoroutine" := ⟨Go.Proofs.Tryz.func45, by decide +kernel⟩
theorem fOk46 : Go.Proofs.Tryz.prog.funcs[46]? = some Go.Proofs.Tryz.f46 ∧ Go.Proofs.Tryz.f46.name ≠ "runtime.NumGoroutine" := ⟨Go.Proofs.Tryz.func46, by decide +kernel⟩
theorem fOk49 : Go.Proofs.Tryz.prog.funcs[49]? = some Go.Proofs.Tryz.f49 ∧ Go.Proofs.Tryz.f49.name ≠ "runtime.NumGoroutine" := ⟨Go.Proofs.Tryz.func49, by decide +kernel⟩
theorem fOk52 : Go.Proofs.Tryz.prog.funcs[52]? = some Go.Proofs.Tryz.f52 ∧ Go.Proofs.Tryz.f52.name ≠ "runtime.NumGoroutine" := ⟨Go.Proofs.Tryz.func52, by decide +kernel⟩
theorem fOk57 : Go.Proofs.Tryz.prog.funcs[57]? = some Go.Proofs.Tryz.f57 ∧ Go.Proofs.Tryz.f57.name ≠ "runtime.NumGoroutine" := ⟨Go.Proofs.Tryz.func57, by decide +kernel⟩
theorem fOk60 : Go.Proofs.Tryz.prog.funcs[60]? = some Go.Proofs.Tryz.f60 ∧ Go.Proofs.Tryz.f60.name ≠ "runtime.NumGoroutine" := ⟨Go.Proofs.Tryz.func60, by decide +kernel⟩
theorem fOk61 : Go.Proofs.Tryz.prog.funcs[61]? = some Go.Proofs.Tryz.f61 ∧ Go.Proofs.Tryz.f61.name ≠ "runtime.NumGoroutine" := ⟨Go.Proofs.Tryz.func61, by decide +kernel⟩
theorem fOk62 : Go.Proofs.Tryz.prog.funcs[62]? = some Go.Proofs.Tryz.f62 ∧ Go.Proofs.Tryz.f62.name ≠ "runtime.NumGoroutine" := ⟨Go.Proofs.Tryz.func62, by decide +kernel⟩
theorem fOk63 : Go.Proofs.Tryz.prog.funcs[63]? = some Go.Proofs.Tryz.f63 ∧ Go.Proofs.Tryz.f63.name ≠ "runtime.NumGoroutine" := ⟨Go.Proofs.Tryz.func63, by decide +kernel⟩
theorem fOk64 : Go.Proofs.Tryz.prog.funcs[64]? = some Go.Proofs.Tryz.f64 ∧ Go.Proofs.Tryz.f64.name ≠ "runtime.NumGoroutine" := ⟨Go.Proofs.Tryz.func64, by decide +kernel⟩
theorem fOk65 : Go.Proofs.Tryz.prog.funcs[65]? = some Go.Proofs.Tryz.f65 ∧ Go.Proofs.Tryz.f65.name ≠ "runtime.NumGoroutine" := ⟨Go.Proofs.Tryz.func65, by decide +kernel⟩
theorem fOk66 : Go.Proofs.Tryz.prog.funcs[66]? = some Go.Proofs.Tryz.f66 ∧ Go.Proofs.Tryz.f66.name ≠ "runtime.NumGoroutine" := ⟨Go.Proofs.Tryz.func66, by decide +kernel⟩
theorem fOk67 : Go.Proofs.Tryz.prog.funcs[67]? = some Go.Proofs.Tryz.f67 ∧ Go.Proofs.Tryz.f67.name ≠ "runtime.NumGoroutine" := ⟨Go.Proofs.Tryz.func67, by decide +kernel⟩
theorem fOk68 : Go.Proofs.Tryz.prog.funcs[68]? = some Go.Proofs.Tryz.f68 ∧ Go.Proofs.Tryz.f68.name ≠ "runtime.NumGoroutine" := ⟨Go.Proofs.Tryz.func68, by decide +kernel⟩
theorem fOk69 : Go.Proofs.Tryz.prog.funcs[69]? = some Go.Proofs.Tryz.f69 ∧ Go.Proofs.Tryz.f69.name ≠ "runtime.NumGoroutine" := ⟨Go.Proofs.Tryz.func69, by decide +kernel⟩
theorem fOk70 : Go.Proofs.Tryz.prog.funcs[70]? = some Go.Proofs.Tryz.f70 ∧ Go.Proofs.Tryz.f70.name ≠ "runtime.NumGoroutine" := ⟨Go.Proofs.Tryz.func70, by decide +kernel⟩
theorem fOk71 : Go.Proofs.Tryz.prog.funcs[71]? = some Go.Proofs.Tryz.f71 ∧ Go.Proofs.Tryz.f71.name ≠ "runtime.NumGoroutine" := ⟨Go.Proofs.Tryz.func71, by decide +kernel⟩
theorem fOk72 : Go.Proofs.Tryz.prog.funcs[72]? = some Go.Proofs.Tryz.f72 ∧ Go.Proofs.Tryz.f72.name ≠ "runtime.NumGoroutine" := ⟨Go.Proofs.Tryz.func72, by decide +kernel⟩
theorem fOk73 : Go.Proofs.Tryz.prog.funcs[73]? = some Go.Proofs.Tryz.f73 ∧ Go.Proofs.Tryz.f73.name ≠ "runtime.NumGoroutine" := ⟨Go.Proofs.Tryz.func73, by decide +kernel⟩
theorem fOk74 : Go.Proofs.Tryz.prog.funcs[74]? = some Go.Proofs.Tryz.f74 ∧ Go.Proofs.Tryz.f74.name ≠ "runtime.NumGoroutine" := ⟨Go.Proofs.Tryz.func74, by decide +kernel⟩
theorem fOk75 : Go.Proofs.Tryz.prog.funcs[75]? = some Go.Proofs.Tryz.f75 ∧ Go.Proofs.Tryz.f75.name ≠ "runtime.NumGoroutine" := ⟨Go.Proofs.Tryz.func75, by decide +kernel⟩
theorem fOk76 : Go.Proofs.Tryz.prog.funcs[76]? = some Go.Proofs.Tryz.f76 ∧ Go.Proofs.Tryz.f76.name ≠ "runtime.NumGoroutine" := ⟨Go.Proofs.Tryz.func76, by decide +kernel⟩
theorem fOk77 : Go.Proofs.Tryz.prog.funcs[77]? = some Go.Proofs.Tryz.f77 ∧ Go.Proofs.Tryz.f77.name ≠ "runtime.NumGoroutine" := ⟨Go.Proofs.Tryz.func77, by decide +kernel⟩
theorem fOk78 : Go.Proofs.Tryz.prog.funcs[78]? = some Go.Proofs.Tryz.f78 ∧ Go.Proofs.Tryz.f78.name ≠ "runtime.NumGoroutine" := ⟨Go.Proofs.Tryz.func78, by decide +kernel⟩
theorem fOk79 : Go.Proofs.Tryz.prog.funcs[79]? = some Go.Proofs.Tryz.f79 ∧ Go.Proofs.Tryz.f79.name ≠ "runtime.NumGoroutine" := ⟨Go.Proofs.Tryz.func79, by decide +kernel⟩
theorem fOk80 : Go.Proofs.Tryz.prog.funcs[80]? = some Go.Proofs.Tryz.f80 ∧ Go.Proofs.Tryz.f80.name ≠ "runtime.NumGoroutine" := ⟨Go.Proofs.Tryz.func80, by decide +kernel⟩
theorem fOk81 : Go.Proofs.Tryz.prog.funcs[81]? = some Go.Proofs.Tryz.f81 ∧ Go.Proofs.Tryz.f81.name ≠ "runtime.NumGoroutine" := ⟨Go.Proofs.Tryz.func81, by decide +kernel⟩
theorem fOk82 : Go.Proofs.Tryz.prog.funcs[82]? = some Go.Proofs.Tryz.f82 ∧ Go.Proofs.Tryz.f82.name ≠ "runtime.NumGoroutine" := ⟨Go.Proofs.Tryz.func82, by decide +kernel⟩
theorem fOk83 : Go.Proofs.Tryz.prog.funcs[83]? = some Go.Proofs.Tryz.f83 ∧ Go.Proofs.Tryz.f83.name ≠ "runtime.NumGoroutine" := ⟨Go.Proofs.Tryz.func83, by decide +kernel⟩
theorem fOk84 : Go.Proofs.Tryz.prog.funcs[84]? = some Go.Proofs.Tryz.f84 ∧ Go.Proofs.Tryz.f84.name ≠ "runtime.NumGoroutine" := ⟨Go.Proofs.Tryz.func84, by decide +kernel⟩
theorem fOk85 : Go.Proofs.Tryz.prog.funcs[85]? = some Go.Proofs.Tryz.f85 ∧ Go.Proofs.Tryz.f85.name ≠ "runtime.NumGoroutine" := ⟨Go.Proofs.Tryz.func85, by decide +kernel⟩
theorem fOk86 : Go.Proofs.Tryz.prog.funcs[86]? = some Go.Proofs.Tryz.f86 ∧ Go.Proofs.Tryz.f86.name ≠ "runtime.NumGoroutine" := ⟨Go.Proofs.Tryz.func86, by decide +kernel⟩
theorem fOk87 : Go.Proofs.Tryz.prog.funcs[87]? = some Go.Proofs.Tryz.f87 ∧ Go.Proofs.Tryz.f87.name ≠ "runtime.NumGoroutine" := ⟨Go.Proofs.Tryz.func87, by decide +kernel⟩
theorem fOk88 : Go.Proofs.Tryz.prog.funcs[88]? = some Go.Proofs.Tryz.f88 ∧ Go.Proofs.Tryz.f88.name ≠ "runtime.NumGoroutine" := ⟨Go.Proofs.Tryz.func88, by decide +kernel⟩
theorem fOk89 : Go.Proofs.Tryz.prog.funcs[89]? = some Go.Proofs.Tryz.f89 ∧ Go.Proofs.Tryz.f89.name ≠ "runtime.NumGoroutine" := ⟨Go.Proofs.Tryz.func89, by decide +kernel⟩
theorem fOk90 : Go.Proofs.Tryz.prog.funcs[90]? = some Go.Proofs.Tryz.f90 ∧ Go.Proofs.Tryz.f90.name ≠ "runtime.NumGoroutine" := ⟨Go.Proofs.Tryz.func90, by decide +kernel⟩
theorem fOk91 : Go.Proofs.Tryz.prog.funcs[91]? = some Go.Proofs.Tryz.f91 ∧ Go.Proofs.Tryz.f91.name ≠ "runtime.NumGoroutine" := ⟨Go.Proofs.Tryz.func91, by decide +kernel⟩
theorem fOk92 : Go.Proofs.Tryz.prog.funcs[92]? = some Go.Proofs.Tryz.f92 ∧ Go.Proofs.Tryz.f92.name ≠ "runtime.NumGoroutine" := ⟨Go.Proofs.Tryz.func92, by decide +kernel⟩
theorem fOk93 : Go.Proofs.Tryz.prog.funcs[93]? = some Go.Proofs.Tryz.f93 ∧ Go.Proofs.Tryz.f93.name ≠ "runtime.NumGoroutine" := ⟨Go.Proofs.Tryz.func93, by decide +kernel⟩
theorem fOk94 : Go.Proofs.Tryz.prog.funcs[94]? = some Go.Proofs.Tryz.f94 ∧ Go.Proofs.Tryz.f94.name ≠ "runtime.NumGoroutine" := ⟨Go.Proofs.Tryz.func94, by decide +kernel⟩
theorem fOk95 : Go.Proofs.Tryz.prog.funcs[95]? = some Go.Proofs.Tryz.f95 ∧ Go.Proofs.Tryz.f95.name ≠ "runtime.NumGoroutine" := ⟨Go.Proofs.Tryz.func95, by decide +kernel⟩
theorem fOk96 : Go.Proofs.Tryz.prog.funcs[96]? = some Go.Proofs.Tryz.f96 ∧ Go.Proofs.Tryz.f96.name ≠ "runtime.NumGoroutine" := ⟨Go.Proofs.Tryz.func96, by decide +kernel⟩
theorem fOk97 : Go.Proofs.Tryz.prog.funcs[97]? = some Go.Proofs.Tryz.f97 ∧ Go.Proofs.Tryz.f97.name ≠ "runtime.NumGoroutine" := ⟨Go.Proofs.Tryz.func97, by decide +kernel⟩
theorem fOk98 : Go.Proofs.Tryz.prog.funcs[98]? = some Go.Proofs.Tryz.f98 ∧ Go.Proofs.Tryz.f98.name ≠ "runtime.NumGoroutine" := ⟨Go.Proofs.Tryz.func98, by decide +kernel⟩
theorem fOk107 : Go.Proofs.Tryz.prog.funcs[107]? = some Go.Proofs.Tryz.f107 ∧ Go.Proofs.Tryz.f107.name ≠ "runtime.NumGoroutine" := ⟨Go.Proofs.Tryz.func107, by decide +kernel⟩
theorem fOk108 : Go.Proofs.Tryz.prog.funcs[108]? = some Go.Proofs.Tryz.f108 ∧ Go.Proofs.Tryz.f108.name ≠ "runtime.NumGoroutine" := ⟨Go.Proofs.Tryz.func108, by decide +kernel⟩
theorem fOk112 : Go.Proofs.Tryz.prog.funcs[112]? = some Go.Proofs.Tryz.f112 ∧ Go.Proofs.Tryz.f112.name ≠ "runtime.NumGoroutine" := ⟨Go.Proofs.Tryz.func112, by decide +kernel⟩
theorem fOk113 : Go.Proofs.Tryz.prog.funcs[113]? = some Go.Proofs.Tryz.f113 ∧ Go.Proofs.Tryz.f113.name ≠ "runtime.NumGoroutine" := ⟨Go.Proofs.Tryz.func113, by decide +kernel⟩
theorem fOk114 : Go.Proofs.Tryz.prog.funcs[114]? = some Go.Proofs.Tryz.f114 ∧ Go.Proofs.Tryz.f114.name ≠ "runtime.NumGoroutine" := ⟨Go.Proofs.Tryz.func114, by decide +kernel⟩
theorem fOk115 : Go.Proofs.Tryz.prog.funcs[115]? = some Go.Proofs.Tryz.f115 ∧ Go.Proofs.Tryz.f115.name ≠ "runtime.NumGoroutine" := ⟨Go.Proofs.Tryz.func115, by decide +kernel⟩
theorem fOk116 : Go.Proofs.Tryz.prog.funcs[116]? = some Go.Proofs.Tryz.f116 ∧ Go.Proofs.Tryz.f116.name ≠ "runtime.NumGoroutine" := ⟨Go.Proofs.Tryz.func116, by decide +kernel⟩
theorem fOk118 : Go.Proofs.Tryz.prog.funcs[118]? = some Go.Proofs.Tryz.f118 ∧ Go.Proofs.Tryz.f118.name ≠ "runtime.NumGoroutine" := ⟨Go.Proofs.Tryz.func118, by decide +kernel⟩
theorem fOk119 : Go.Proofs.Tryz.prog.funcs[119]? = some Go.Proofs.Tryz.f119 ∧ Go.Proofs.Tryz.f119.name ≠ "runtime.NumGoroutine" := ⟨Go.Proofs.Tryz.func119, by decide +kernel⟩
theorem fOk120 : Go.Proofs.Tryz.prog.funcs[120]? = some Go.Proofs.Tryz.f120 ∧ Go.Proofs.Tryz.f120.name ≠ "runtime.NumGoroutine" := ⟨Go.Proofs.Tryz.func120, by decide +kernel⟩
theorem fOk121 : Go.Proofs.Tryz.prog.funcs[121]? = some Go.Proofs.Tryz.f121 ∧ Go.Proofs.Tryz.f121.name ≠ "runtime.NumGoroutine" := ⟨Go.Proofs.Tryz.func121, by decide +kernel⟩
theorem fOk126 : Go.Proofs.Tryz.prog.funcs[126]? = some Go.Proofs.Tryz.f126 ∧ Go.Proofs.Tryz.f126.name ≠ "runtime.NumGoroutine" := ⟨Go.Proofs.Tryz.func126, by decide +kernel⟩
theorem fOk127 : Go.Proofs.Tryz.prog.funcs[127]? = some Go.Proofs.Tryz.f127 ∧ Go.Proofs.Tryz.f127.name ≠ "runtime.NumGoroutine" := ⟨Go.Proofs.Tryz.func127, by decide +kernel⟩
theorem fOk128 : Go.Proofs.Tryz.prog.funcs[128]? = some Go.Proofs.Tryz.f128 ∧ Go.Proofs.Tryz.f128.name ≠ "runtime.NumGoroutine" := ⟨Go.Proofs.Tryz.func128, by decide +kernel⟩
theorem fOk129 : Go.Proofs.Tryz.prog.funcs[129]? = some Go.Proofs.Tryz.f129 ∧ Go.Proofs.Tryz.f129.name ≠ "runtime.NumGoroutine" := ⟨Go.Proofs.Tryz.func129, by decide +kernel⟩
theorem fOk130 : Go.Proofs.Tryz.prog.funcs[130]? = some Go.Proofs.Tryz.f130 ∧ Go.Proofs.Tryz.f130.name ≠ "runtime.NumGoroutine" := ⟨Go.Proofs.Tryz.func130, by decide +kernel⟩
theorem fOk131 : Go.Proofs.Tryz.prog.funcs[131]? = some Go.Proofs.Tryz.f131 ∧ Go.Proofs.Tryz.f131.name ≠ "runtime.NumGoroutine" := ⟨Go.Proofs.Tryz.func131, by decide +kernel⟩
theorem fOk132 : Go.Proofs.Tryz.prog.funcs[132]? = some Go.Proofs.Tryz.f132 ∧ Go.Proofs.Tryz.f132.name ≠ "runtime.NumGoroutine" := ⟨Go.Proofs.Tryz.func132, by decide +kernel⟩
theorem fOk133 : Go.Proofs.Tryz.prog.funcs[133]? = some Go.Proofs.Tryz.f133 ∧ Go.Proofs.Tryz.f133.name ≠ "runtime.NumGoroutine" := ⟨Go.Proofs.Tryz.func133, by decide +kernel⟩
theorem fOk134 : Go.Proofs.Tryz.prog.funcs[134]? = some Go.Proofs.Tryz.f134 ∧ Go.Proofs.Tryz.f134.name ≠ "runtime.NumGoroutine" := ⟨Go.Proofs.Tryz.func134, by decide +kernel⟩
theorem fOk135 : Go.Proofs.Tryz.prog.funcs[135]? = some Go.Proofs.Tryz.f135 ∧ Go.Proofs.Tryz.f135.name ≠ "runtime.NumGoroutine" := ⟨Go.Proofs.Tryz.func135, by decide +kernel⟩
theorem fOk136 : Go.Proofs.Tryz.prog.funcs[136]? = some Go.Proofs.Tryz.f136 ∧ Go.Proofs.Tryz.f136.name ≠ "runtime.NumGoroutine" := ⟨Go.Proofs.Tryz.func136, by decide +kernel⟩
theorem fOk138 : Go.Proofs.Tryz.prog.funcs[138]? = some Go.Proofs.Tryz.f138 ∧ Go.Proofs.Tryz.f138.name ≠ "runtime.NumGoroutine" := ⟨Go.Proofs.Tryz.func138, by decide +kernel⟩
theorem fOk139 : Go.Proofs.Tryz.prog.funcs[139]? = some Go.Proofs.Tryz.f139 ∧ Go.Proofs.Tryz.f139.name ≠ "runtime.NumGoroutine" := ⟨Go.Proofs.Tryz.func139, by decide +kernel⟩
theorem fOk140 : Go.Proofs.Tryz.prog.funcs[140]? = some Go.Proofs.Tryz.f140 ∧ Go.Proofs.Tryz.f140.name ≠ "runtime.NumGoroutine" := ⟨Go.Proofs.Tryz.func140, by decide +kernel⟩
theorem fOk141 : Go.Proofs.Tryz.prog.funcs[141]? = some Go.Proofs.Tryz.f141 ∧ Go.Proofs.Tryz.f141.name ≠ "runtime.NumGoroutine" := ⟨Go.Proofs.Tryz.func141, by decide +kernel⟩
theorem fOk142 : Go.Proofs.Tryz.prog.funcs[142]? = some Go.Proofs.Tryz.f142 ∧ Go.Proofs.Tryz.f142.name ≠ "runtime.NumGoroutine" := ⟨Go.Proofs.Tryz.func142, by decide +kernel⟩
theorem fOk143 : Go.Proofs.Tryz.prog.funcs[143]? = some Go.Proofs.Tryz.f143 ∧ Go.Proofs.Tryz.f143.name ≠ "runtime.NumGoroutine" := ⟨Go.Proofs.Tryz.func143, by decide +kernel⟩
theorem fOk144 : Go.Proofs.Tryz.prog.funcs[144]? = some Go.Proofs.Tryz.f144 ∧ Go.Proofs.Tryz.f144.name ≠ "runtime.NumGoroutine" := ⟨Go.Proofs.Tryz.func144, by decide +kernel⟩
theorem fOk145 : Go.Proofs.Tryz.prog.funcs[145]? = some Go.Proofs.Tryz.f145 ∧ Go.Proofs.Tryz.f145.name ≠ "runtime.NumGoroutine" := ⟨Go.Proofs.Tryz.func145, by decide +kernel⟩
theorem fOk146 : Go.Proofs.Tryz.prog.funcs[146]? = some Go.Proofs.Tryz.f146 ∧ Go.Proofs.Tryz.f146.name ≠ "runtime.NumGoroutine" := ⟨Go.Proofs.Tryz.func146, by decide +kernel⟩
theorem fOk147 : Go.Proofs.Tryz.prog.funcs[147]? = some Go.Proofs.Tryz.f147 ∧ Go.Proofs.Tryz.f147.name ≠ "runtime.NumGoroutine" := ⟨Go.Proofs.Tryz.func147, by decide +kernel⟩
theorem fOk148 : Go.Proofs.Tryz.prog.funcs[148]? = some Go.Proofs.Tryz.f148 ∧ Go.Proofs.Tryz.f148.name ≠ "runtime.NumGoroutine" := ⟨Go.Proofs.Tryz.func148, by decide +kernel⟩
theorem fOk149 : Go.Proofs.Tryz.prog.funcs[149]? = some Go.Proofs.Tryz.f149 ∧ Go.Proofs.Tryz.f149.name ≠ "runtime.NumGoroutine" := ⟨Go.Proofs.Tryz.func149, by decide +kernel⟩
theorem fOk150 : Go.Proofs.Tryz.prog.funcs[150]? = some Go.Proofs.Tryz.f150 ∧ Go.Proofs.Tryz.f150.name ≠ "runtime.NumGoroutine" := ⟨Go.Proofs.Tryz.func150, by decide +kernel⟩
theorem fOk151 : Go.Proofs.Tryz.prog.funcs[151]? = some Go.Proofs.Tryz.f151 ∧ Go.Proofs.Tryz.f151.name ≠ "runtime.NumGoroutine" := ⟨Go.Proofs.Tryz.func151, by decide +kernel⟩
theorem fOk152 : Go.Proofs.Tryz.prog.funcs[152]? = some Go.Proofs.Tryz.f152 ∧ Go.Proofs.Tryz.f152.name ≠ "runtime.NumGoroutine" := ⟨Go.Proofs.Tryz.func152, by decide +kernel⟩
theorem fOk153 : Go.Proofs.Tryz.prog.funcs[153]? = some Go.Proofs.Tryz.f153 ∧ Go.Proofs.Tryz.f153.name ≠ "runtime.NumGoroutine" := ⟨Go.Proofs.Tryz.func153, by decide +kernel⟩
theorem fOk154 : Go.Proofs.Tryz.prog.funcs[154]? = some Go.Proofs.Tryz.f154 ∧ Go.Proofs.Tryz.f154.name ≠ "runtime.NumGoroutine" := ⟨Go.Proofs.Tryz.func154, by decide +kernel⟩
theorem fOk155 : Go.Proofs.Tryz.prog.funcs[155]? = some Go.Proofs.Tryz.f155 ∧ Go.Proofs.Tryz.f155.name ≠ "runtime.NumGoroutine" := ⟨Go.Proofs.Tryz.func155, by decide +kernel⟩
theorem fOk156 : Go.Proofs.Tryz.prog.funcs[156]? = some Go.Proofs.Tryz.f156 ∧ Go.Proofs.Tryz.f156.name ≠ "runtime.NumGoroutine" := ⟨Go.Proofs.Tryz.func156, by decide +kernel⟩
theorem fOk157 : Go.Proofs.Tryz.prog.funcs[157]? = some Go.Proofs.Tryz.f157 ∧ Go.Proofs.Tryz.f157.name ≠ "runtime.NumGoroutine" := ⟨Go.Proofs.Tryz.func157, by decide +kernel⟩
theorem fOk158 : Go.Proofs.Tryz.prog.funcs[158]? = some Go.Proofs.Tryz.f158 ∧ Go.Proofs.Tryz.f158.name ≠ "runtime.NumGoroutine" := ⟨Go.Proofs.Tryz.func158, by decide +kernel⟩
theorem fOk159 : Go.Proofs.Tryz.prog.funcs[159]? = some Go.Proofs.Tryz.f159 ∧ Go.Proofs.Tryz.f159.name ≠ "runtime.NumGoroutine" := ⟨Go.Proofs.Tryz.func159, by decide +kernel⟩
theorem fOk160 : Go.Proofs.Tryz.prog.funcs[160]? = some Go.Proofs.Tryz.f160 ∧ Go.Proofs.Tryz.f160.name ≠ "runtime.NumGoroutine" := ⟨Go.Proofs.Tryz.func160, by decide +kernel⟩
theorem fOk161 : Go.Proofs.Tryz.prog.funcs[161]? = some Go.Proofs.Tryz.f161 ∧ Go.Proofs.Tryz.f161.name ≠ "runtime.NumGoroutine" := ⟨Go.Proofs.Tryz.func161, by decide +kernel⟩
theorem fOk162 : Go.Proofs.Tryz.prog.funcs[162]? = some Go.Proofs.Tryz.f162 ∧ Go.Proofs.Tryz.f162.name ≠ "runtime.NumGoroutine" := ⟨Go.Proofs.Tryz.func162, by decide +kernel⟩
theorem fOk163 : Go.Proofs.Tryz.prog.funcs[163]? = some Go.Proofs.Tryz.f163 ∧ Go.Proofs.Tryz.f163.name ≠ "runtime.NumGoroutine" := ⟨Go.Proofs.Tryz.func163, by decide +kernel⟩
theorem fOk164 : Go.Proofs.Tryz.prog.funcs[164]? = some Go.Proofs.Tryz.f164 ∧ Go.Proofs.Tryz.f164.name ≠ "runtime.NumGoroutine" := ⟨Go.Proofs.Tryz.func164, by decide +kernel⟩
theorem fOk165 : Go.Proofs.Tryz.prog.funcs[165]? = some Go.Proofs.Tryz.f165 ∧ Go.Proofs.Tryz.f165.name ≠ "runtime.NumGoroutine" := ⟨Go.Proofs.Tryz.func165, by decide +kernel⟩
theorem fOk166 : Go.Proofs.Tryz.prog.funcs[166]? = some Go.Proofs.Tryz.f166 ∧ Go.Proofs.Tryz.f166.name ≠ "runtime.NumGoroutine" := ⟨Go.Proofs.Tryz.func166, by decide +kernel⟩
theorem fOk167 : Go.Proofs.Tryz.prog.funcs[167]? = some Go.Proofs.Tryz.f167 ∧ Go.Proofs.Tryz.f167.name ≠ "runtime.NumGoroutine" := ⟨Go.Proofs.Tryz.func167, by decide +kernel⟩
theorem fOk168 : Go.Proofs.Tryz.prog.funcs[168]? = some Go.Proofs.Tryz.f168 ∧ Go.Proofs.Tryz.f168.name ≠ "runtime.NumGoroutine" := ⟨Go.Proofs.Tryz.func168, by decide +kernel⟩
theorem fOk169 : Go.Proofs.Tryz.prog.funcs[169]? = some Go.Proofs.Tryz.f169 ∧ Go.Proofs.Tryz.f169.name ≠ "runtime.NumGoroutine" := ⟨Go.Proofs.Tryz.func169, by decide +kernel⟩
theorem fOk170 : Go.Proofs.Tryz.prog.funcs[170]? = some Go.Proofs.Tryz.f170 ∧ Go.Proofs.Tryz.f170.name ≠ "runtime.NumGoroutine" := ⟨Go.Proofs.Tryz.func170, by decide +kernel⟩
theorem fOk171 : Go.Proofs.Tryz.prog.funcs[171]? = some Go.Proofs.Tryz.f171 ∧ Go.Proofs.Tryz.f171.name ≠ "runtime.NumGoroutine" := ⟨Go.Proofs.Tryz.func171, by decide +kernel⟩
theorem fOk172 : Go.Proofs.Tryz.prog.funcs[172]? = some Go.Proofs.Tryz.f172 ∧ Go.Proofs.Tryz.f172.name ≠ "runtime.NumGoroutine" := ⟨Go.Proofs.Tryz.func172, by decide +kernel⟩
theorem fOk193 : Go.Proofs.Tryz.prog.funcs[193]? = some Go.Proofs.Tryz.f193 ∧ Go.Proofs.Tryz.f193.name ≠ "runtime.NumGoroutine" := ⟨Go.Proofs.Tryz.func193, by decide +kernel⟩
theorem fOk194 : Go.Proofs.Tryz.prog.funcs[194]? = some Go.Proofs.Tryz.f194 ∧ Go.Proofs.Tryz.f194.name ≠ "runtime.NumGoroutine" := ⟨Go.Proofs.Tryz.func194, by decide +kernel⟩
theorem fOk195 : Go.Proofs.Tryz.prog.funcs[195]? = some Go.Proofs.Tryz.f195 ∧ Go.Proofs.Tryz.f195.name ≠ "runtime.NumGoroutine" := ⟨Go.Proofs.Tryz.func195, by decide +kernel⟩
theorem fOk196 : Go.Proofs.Tryz.prog.funcs[196]? = some Go.Proofs.Tryz.f196 ∧ Go.Proofs.Tryz.f196.name ≠ "runtime.NumGoroutine" := ⟨Go.Proofs.Tryz.func196, by decide +kernel⟩
theorem fOk197 : Go.Proofs.Tryz.prog.funcs[197]? = some Go.Proofs.Tryz.f197 ∧ Go.Proofs.Tryz.f197.name ≠ "runtime.NumGoroutine" := ⟨Go.Proofs.Tryz.func197, by decide +kernel⟩
theorem fOk199 : Go.Proofs.Tryz.prog.funcs[199]? = some Go.Proofs.Tryz.f199 ∧ Go.Proofs.Tryz.f199.name ≠ "runtime.NumGoroutine" := ⟨Go.Proofs.Tryz.func199, by decide +kernel⟩
theorem fOk200 : Go.Proofs.Tryz.prog.funcs[200]? = some Go.Proofs.Tryz.f200 ∧ Go.Proofs.Tryz.f200.name ≠ "runtime.NumGoroutine" := ⟨Go.Proofs.Tryz.func200, by decide +kernel⟩
theorem fOk201 : Go.Proofs.Tryz.prog.funcs[201]? = some Go.Proofs.Tryz.f201 ∧ Go.Proofs.Tryz.f201.name ≠ "runtime.NumGoroutine" := ⟨Go.Proofs.Tryz.func201, by decide +kernel⟩
theorem fOk202 : Go.Proofs.Tryz.prog.funcs[202]? = some Go.Proofs.Tryz.f202 ∧ Go.Proofs.Tryz.f202.name ≠ "runtime.NumGoroutine" := ⟨Go.Proofs.Tryz.func202, by decide +kernel⟩
theorem fOk203 : Go.Proofs.Tryz.prog.funcs[203]? = some Go.Proofs.Tryz.f203 ∧ Go.Proofs.Tryz.f203.name ≠ "runtime.NumGoroutine" := ⟨Go.Proofs.Tryz.func203, by decide +kernel⟩
theorem fOk204 : Go.Proofs.Tryz.prog.funcs[204]? = some Go.Proofs.Tryz.f204 ∧ Go.Proofs.Tryz.f204.name ≠ "runtime.NumGoroutine" := ⟨Go.Proofs.Tryz.func204, by decide +kernel⟩
theorem fOk205 : Go.Proofs.Tryz.prog.funcs[205]? = some Go.Proofs.Tryz.f205 ∧ Go.Proofs.Tryz.f205.name ≠ "runtime.NumGoroutine" := ⟨Go.Proofs.Tryz.func205, by decide +kernel⟩
theorem fOk210 : Go.Proofs.Tryz.prog.funcs[210]? = some Go.Proofs.Tryz.f210 ∧ Go.Proofs.Tryz.f210.name ≠ "runtime.NumGoroutine" := ⟨Go.Proofs.Tryz.func210, by decide +kernel⟩
theorem fOk211 : Go.Proofs.Tryz.prog.funcs[211]? = some Go.Proofs.Tryz.f211 ∧ Go.Proofs.Tryz.f211.name ≠ "runtime.NumGoroutine" := ⟨Go.Proofs.Tryz.func211, by decide +kernel⟩
theorem fOk212 : Go.Proofs.Tryz.prog.funcs[212]? = some Go.Proofs.Tryz.f212 ∧ Go.Proofs.Tryz.f212.name ≠ "runtime.NumGoroutine" := ⟨Go.Proofs.Tryz.func212, by decide +kernel⟩
theorem fOk213 : Go.Proofs.Tryz.prog.funcs[213]? = some Go.Proofs.Tryz.f213 ∧ Go.Proofs.Tryz.f213.name ≠ "runtime.NumGoroutine" := ⟨Go.Proofs.Tryz.func213, by decide +kernel⟩
theorem fOk214 : Go.Proofs.Tryz.prog.funcs[214]? = some Go.Proofs.Tryz.f214 ∧ Go.Proofs.Tryz.f214.name ≠ "runtime.NumGoroutine" := ⟨Go.Proofs.Tryz.func214, by decide +kernel⟩
theorem fOk215 : Go.Proofs.Tryz.prog.funcs[215]? = some Go.Proofs.Tryz.f215 ∧ Go.Proofs.Tryz.f215.name ≠ "runtime.NumGoroutine" := ⟨Go.Proofs.Tryz.func215, by decide +kernel⟩
theorem fOk216 : Go.Proofs.Tryz.prog.funcs[216]? = some Go.Proofs.Tryz.f216 ∧ Go.Proofs.Tryz.f216.name ≠ "runtime.NumGoroutine" := ⟨Go.Proofs.Tryz.func216, by decide +kernel⟩
theorem fOk217 : Go.Proofs.Tryz.prog.funcs[217]? = some Go.Proofs.Tryz.f217 ∧ Go.Proofs.Tryz.f217.name ≠ "runtime.NumGoroutine" := ⟨Go.Proofs.Tryz.func217, by decide +kernel⟩
theorem fOk219 : Go.Proofs.Tryz.prog.funcs[219]? = some Go.Proofs.Tryz.f219 ∧ Go.Proofs.Tryz.f219.name ≠ "runtime.NumGoroutine" := ⟨Go.Proofs.Tryz.func219, by decide +kernel⟩
theorem fOk220 : Go.Proofs.Tryz.prog.funcs[220]? = some Go.Proofs.Tryz.f220 ∧ Go.Proofs.Tryz.f220.name ≠ "runtime.NumGoroutine" := ⟨Go.Proofs.Tryz.func220, by decide +kernel⟩
theorem fOk221 : Go.Proofs.Tryz.prog.funcs[221]? = some Go.Proofs.Tryz.f221 ∧ Go.Proofs.Tryz.f221.name ≠ "runtime.NumGoroutine" := ⟨Go.Proofs.Tryz.func221, by decide +kernel⟩
theorem fOk224 : Go.Proofs.Tryz.prog.funcs[224]? = some Go.Proofs.Tryz.f224 ∧ Go.Proofs.Tryz.f224.name ≠ "runtime.NumGoroutine" := ⟨Go.Proofs.Tryz.func224, by decide +kernel⟩
theorem fOk225 : Go.Proofs.Tryz.prog.funcs[225]? = some Go.Proofs.Tryz.f225 ∧ Go.Proofs.Tryz.f225.name ≠ "runtime.NumGoroutine" := ⟨Go.Proofs.Tryz.func225, by decide +kernel⟩
theorem fOk226 : Go.Proofs.Tryz.prog.funcs[226]? = some Go.Proofs.Tryz.f226 ∧ Go.Proofs.Tryz.f226.name ≠ "runtime.NumGoroutine" := ⟨Go.Proofs.Tryz.func226, by decide +kernel⟩
theorem fOk227 : Go.Proofs.Tryz.prog.funcs[227]? = some Go.Proofs.Tryz.f227 ∧ Go.Proofs.Tryz.f227.name ≠ "runtime.NumGoroutine" := ⟨Go.Proofs.Tryz.func227, by decide +kernel⟩
theorem fOk228 : Go.Proofs.Tryz.prog.funcs[228]? = some Go.Proofs.Tryz.f228 ∧ Go.Proofs.Tryz.f228.name ≠ "runtime.NumGoroutine" := ⟨Go.Proofs.Tryz.func228, by decide +kernel⟩
theorem fOk229 : Go.Proofs.Tryz.prog.funcs[229]? = some Go.Proofs.Tryz.f229 ∧ Go.Proofs.Tryz.f229.name ≠ "runtime.NumGoroutine" := ⟨Go.Proofs.Tryz.func229, by decide +kernel⟩
theorem fOk230 : Go.Proofs.Tryz.prog.funcs[230]? = some Go.Proofs.Tryz.f230 ∧ Go.Proofs.Tryz.f230.name ≠ "runtime.NumGoroutine" := ⟨Go.Proofs.Tryz.func230, by decide +kernel⟩
theorem fOk231 : Go.Proofs.Tryz.prog.funcs[231]? = some Go.Proofs.Tryz.f231 ∧ Go.Proofs.Tryz.f231.name ≠ "runtime.NumGoroutine" := ⟨Go.Proofs.Tryz.func231, by decide +kernel⟩
theorem fOk232 : Go.Proofs.Tryz.prog.funcs[232]? = some Go.Proofs.Tryz.f232 ∧ Go.Proofs.Tryz.f232.name ≠ "runtime.NumGoroutine" := ⟨Go.Proofs.Tryz.func232, by decide +kernel⟩
theorem fOk233 : Go.Proofs.Tryz.prog.funcs[233]? = some Go.Proofs.Tryz.f233 ∧ Go.Proofs.Tryz.f233.name ≠ "runtime.NumGoroutine" := ⟨Go.Proofs.Tryz.func233, by decide +kernel⟩
theorem fOk234 : Go.Proofs.Tryz.prog.funcs[234]? = some Go.Proofs.Tryz.f234 ∧ Go.Proofs.Tryz.f234.name ≠ "runtime.NumGoroutine" := ⟨Go.Proofs.Tryz.func234, by decide +kernel⟩
theorem fOk235 : Go.Proofs.Tryz.prog.funcs[235]? = some Go.Proofs.Tryz.f235 ∧ Go.Proofs.Tryz.f235.name ≠ "runtime.NumGoroutine" := ⟨Go.Proofs.Tryz.func235, by decide +kernel⟩
theorem fOk236 : Go.Proofs.Tryz.prog.funcs[236]? = some Go.Proofs.Tryz.f236 ∧ Go.Proofs.Tryz.f236.name ≠ "runtime.NumGoroutine" := ⟨Go.Proofs.Tryz.func236, by decide +kernel⟩
theorem fOk237 : Go.Proofs.Tryz.prog.funcs[237]? = some Go.Proofs.Tryz.f237 ∧ Go.Proofs.Tryz.f237.name ≠ "runtime.NumGoroutine" := ⟨Go.Proofs.Tryz.func237, by decide +kernel⟩
theorem fOk238 : Go.Proofs.Tryz.prog.funcs[238]? = some Go.Proofs.Tryz.f238 ∧ Go.Proofs.Tryz.f238.name ≠ "runtime.NumGoroutine" := ⟨Go.Proofs.Tryz.func238, by decide +kernel⟩
theorem fOk239 : Go.Proofs.Tryz.prog.funcs[239]? = some Go.Proofs.Tryz.f239 ∧ Go.Proofs.Tryz.f239.name ≠ "runtime.NumGoroutine" := ⟨Go.Proofs.Tryz.func239, by decide +kernel⟩
theorem fOk240 : Go.Proofs.Tryz.prog.funcs[240]? = some Go.Proofs.Tryz.f240 ∧ Go.Proofs.Tryz.f240.name ≠ "runtime.NumGoroutine" := ⟨Go.Proofs.Tryz.func240, by decide +kernel⟩
theorem fOk241 : Go.Proofs.Tryz.prog.funcs[241]? = some Go.Proofs.Tryz.f241 ∧ Go.Proofs.Tryz.f241.name ≠ "runtime.NumGoroutine" := ⟨Go.Proofs.Tryz.func241, by decide +kernel⟩
theorem fOk242 : Go.Proofs.Tryz.prog.funcs[242]? = some Go.Proofs.Tryz.f242 ∧ Go.Proofs.Tryz.f242.name ≠ "runtime.NumGoroutine" := ⟨Go.Proofs.Tryz.func242, by decide +kernel⟩
theorem fOk243 : Go.Proofs.Tryz.prog.funcs[243]? = some Go.Proofs.Tryz.f243 ∧ Go.Proofs.Tryz.f243.name ≠ "runtime.NumGoroutine" := ⟨Go.Proofs.Tryz.func243, by decide +kernel⟩
theorem fOk251 : Go.Proofs.Tryz.prog.funcs[251]? = some Go.Proofs.Tryz.f251 ∧ Go.Proofs.Tryz.f251.name ≠ "runtime.NumGoroutine" := ⟨Go.Proofs.Tryz.func251, by decide +kernel⟩
theorem fOk258 : Go.Proofs.Tryz.prog.funcs[258]? = some Go.Proofs.Tryz.f258 ∧ Go.Proofs.Tryz.f258.name ≠ "runtime.NumGoroutine" := ⟨Go.Proofs.Tryz.func258, by decide +kernel⟩
theorem fOk259 : Go.Proofs.Tryz.prog.funcs[259]? = some Go.Proofs.Tryz.f259 ∧ Go.Proofs.Tryz.f259.name ≠ "runtime.NumGoroutine" := ⟨Go.Proofs.Tryz.func259, by decide +kernel⟩
theorem fOk260 : Go.Proofs.Tryz.prog.funcs[260]? = some Go.Proofs.Tryz.f260 ∧ Go.Proofs.Tryz.f260.name ≠ "runtime.NumGoroutine" := ⟨Go.Proofs.Tryz.func260, by decide +kernel⟩
theorem fOk261 : Go.Proofs.Tryz.prog.funcs[261]? = some Go.Proofs.Tryz.f261 ∧ Go.Proofs.Tryz.f261.name ≠ "runtime.NumGoroutine" := ⟨Go.Proofs.Tryz.func261, by decide +kernel⟩
theorem fOk262 : Go.Proofs.Tryz.prog.funcs[262]? = some Go.Proofs.Tryz.f262 ∧ Go.Proofs.Tryz.f262.name ≠ "runtime.NumGoroutine" := ⟨Go.Proofs.Tryz.func262, by decide +kernel⟩
theorem fOk263 : Go.Proofs.Tryz.prog.funcs[263]? = some Go.Proofs.Tryz.f263 ∧ Go.Proofs.Tryz.f263.name ≠ "runtime.NumGoroutine" := ⟨Go.Proofs.Tryz.func263, by decide +kernel⟩
theorem fOk265 : Go.Proofs.Tryz.prog.funcs[265]? = some Go.Proofs.Tryz.f265 ∧ Go.Proofs.Tryz.f265.name ≠ "runtime.NumGoroutine" := ⟨Go.Proofs.Tryz.func265, by decide +kernel⟩
theorem fOk266 : Go.Proofs.Tryz.prog.funcs[266]? = some Go.Proofs.Tryz.f266 ∧ Go.Proofs.Tryz.f266.name ≠ "runtime.NumGoroutine" := ⟨Go.Proofs.Tryz.func266, by decide +kernel⟩
theorem fOk267 : Go.Proofs.Tryz.prog.funcs[267]? = some Go.Proofs.Tryz.f267 ∧ Go.Proofs.Tryz.f267.name ≠ "runtime.NumGoroutine" := ⟨Go.Proofs.Tryz.func267, by decide +kernel⟩
theorem fOk268 : Go.Proofs.Tryz.prog.funcs[268]? = some Go.Proofs.Tryz.f268 ∧ Go.Proofs.Tryz.f268.name ≠ "runtime.NumGoroutine" := ⟨Go.Proofs.Tryz.func268, by decide +kernel⟩
theorem fOk269 : Go.Proofs.Tryz.prog.funcs[269]? = some Go.Proofs.Tryz.f269 ∧ Go.Proofs.Tryz.f269.name ≠ "runtime.NumGoroutine" := ⟨Go.Proofs.Tryz.func269, by decide +kernel⟩
theorem fOk272 : Go.Proofs.Tryz.prog.funcs[272]? = some Go.Proofs.Tryz.f272 ∧ Go.Proofs.Tryz.f272.name ≠ "runtime.NumGoroutine" := ⟨Go.Proofs.Tryz.func272, by decide +kernel⟩
theorem fOk274 : Go.Proofs.Tryz.prog.funcs[274]? = some Go.Proofs.Tryz.f274 ∧ Go.Proofs.Tryz.f274.name ≠ "runtime.NumGoroutine" := ⟨Go.Proofs.Tryz.func274, by decide +kernel⟩
theorem fOk275 : Go.Proofs.Tryz.prog.funcs[275]? = some Go.Proofs.Tryz.f275 ∧ Go.Proofs.Tryz.f275.name ≠ "runtime.NumGoroutine" := ⟨Go.Proofs.Tryz.func275, by decide +kernel⟩
theorem fOk276 : Go.Proofs.Tryz.prog.funcs[276]? = some Go.Proofs.Tryz.f276 ∧ Go.Proofs.Tryz.f276.name ≠ "runtime.NumGoroutine" := ⟨Go.Proofs.Tryz.func276, by decide +kernel⟩
theorem fOk277 : Go.Proofs.Tryz.prog.funcs[277]? = some Go.Proofs.Tryz.f277 ∧ Go.Proofs.Tryz.f277.name ≠ "runtime.NumGoroutine" := ⟨Go.Proofs.Tryz.func277, by decide +kernel⟩
theorem fOk279 : Go.Proofs.Tryz.prog.funcs[279]? = some Go.Proofs.Tryz.f279 ∧ Go.Proofs.Tryz.f279.name ≠ "runtime.NumGoroutine" := ⟨Go.Proofs.Tryz.func279, by decide +kernel⟩
theorem fOk282 : Go.Proofs.Tryz.prog.funcs[282]? = some Go.Proofs.Tryz.f282 ∧ Go.Proofs.Tryz.f282.name ≠ "runtime.NumGoroutine" := ⟨Go.Proofs.Tryz.func282, by decide +kernel⟩
theorem fOk283 : Go.Proofs.Tryz.prog.funcs[283]? = some Go.Proofs.Tryz.f283 ∧ Go.Proofs.Tryz.f283.name ≠ "runtime.NumGoroutine" := ⟨Go.Proofs.Tryz.func283, by decide +kernel⟩
theorem fOk284 : Go.Proofs.Tryz.prog.funcs[284]? = some Go.Proofs.Tryz.f284 ∧ Go.Proofs.Tryz.f284.name ≠ "runtime.NumGoroutine" := ⟨Go.Proofs.Tryz.func284, by decide +kernel⟩
theorem fOk287 : Go.Proofs.Tryz.prog.funcs[287]? = some Go.Proofs.Tryz.f287 ∧ Go.Proofs.Tryz.f287.name ≠ "runtime.NumGoroutine" := ⟨Go.Proofs.Tryz.func287, by decide +kernel⟩
theorem fOk288 : Go.Proofs.Tryz.prog.funcs[288]? = some Go.Proofs.Tryz.f288 ∧ Go.Proofs.Tryz.f288.name ≠ "runtime.NumGoroutine" := ⟨Go.Proofs.Tryz.func288, by decide +kernel⟩
theorem fOk293 : Go.Proofs.Tryz.prog.funcs[293]? = some Go.Proofs.Tryz.f293 ∧ Go.Proofs.Tryz.f293.name ≠ "runtime.NumGoroutine" := ⟨Go.Proofs.Tryz.func293, by decide +kernel⟩
theorem gAll : gTree.All fun g fn => Go.Proofs.Tryz.prog.funcs[g]? = some fn ∧ fn.name ≠ "runtime.NumGoroutine" := ⟨fOk142, ⟨fOk76, ⟨fOk40, ⟨fOk28, ⟨fOk15, ⟨fOk8, ⟨fOk6, ⟨fOk5, trivial, trivial⟩, ⟨fOk7, trivial, trivial⟩⟩, ⟨fOk14, ⟨fOk9, trivial, trivial⟩, trivial⟩⟩, ⟨fOk25, ⟨fOk24, ⟨fOk20, trivial, trivial⟩, trivial⟩, ⟨fOk27, ⟨fOk26, trivial, trivial⟩, trivial⟩⟩⟩, ⟨fOk34, ⟨fOk31, ⟨fOk30, ⟨fOk29, trivial, trivial⟩, trivial⟩, ⟨fOk33, ⟨fOk32, trivial, trivial⟩, trivial⟩⟩, ⟨fOk37, ⟨fOk36, ⟨fOk35, trivial, trivial⟩, trivial⟩, ⟨fOk39, ⟨fOk38, trivial, trivial⟩, trivial⟩⟩⟩⟩, ⟨fOk64, ⟨fOk52, ⟨fOk45, ⟨fOk43, ⟨fOk42, trivial, trivial⟩, ⟨fOk44, trivial, trivial⟩⟩, ⟨fOk49, ⟨fOk46, trivial, trivial⟩, trivial⟩⟩, ⟨fOk61, ⟨fOk60, ⟨fOk57, trivial, trivial⟩, trivial⟩, ⟨fOk63, ⟨fOk62, trivial, trivial⟩, trivial⟩⟩⟩, ⟨fOk70, ⟨fOk67, ⟨fOk66, ⟨fOk65, trivial, trivial⟩, trivial⟩, ⟨fOk69, ⟨fOk68, trivial, trivial⟩, trivial⟩⟩, ⟨fOk73, ⟨fOk72, ⟨fOk71, trivial, trivial⟩, trivial⟩, ⟨fOk75, ⟨fOk74, trivial, trivial⟩, trivial⟩⟩⟩⟩⟩, ⟨fOk112, ⟨fOk89, ⟨fOk83, ⟨fOk80, ⟨fOk78, ⟨fOk77, trivial, trivial⟩, ⟨fOk79, trivial, trivial⟩⟩, ⟨fOk82, ⟨fOk81, trivial, trivial⟩, trivial⟩⟩, ⟨fOk86, ⟨fOk85, ⟨fOk84, trivial, trivial⟩, trivial⟩, ⟨fOk88, ⟨fOk87, trivial, trivial⟩, trivial⟩⟩⟩, ⟨fOk95, ⟨fOk92, ⟨fOk91, ⟨fOk90, trivial, trivial⟩, trivial⟩, ⟨fOk94, ⟨fOk93, trivial, trivial⟩, trivial⟩⟩, ⟨fOk98, ⟨fOk97, ⟨fOk96, trivial, trivial⟩, trivial⟩, ⟨fOk108, ⟨fOk107, trivial, trivial⟩, trivial⟩⟩⟩⟩, ⟨fOk129, ⟨fOk119, ⟨fOk115, ⟨fOk114, ⟨fOk113, trivial, trivial⟩, trivial⟩, ⟨fOk118, ⟨fOk116, trivial, trivial⟩, trivial⟩⟩, ⟨fOk126, ⟨fOk121, ⟨fOk120, trivial, trivial⟩, trivial⟩, ⟨fOk128, ⟨fOk127, trivial, trivial⟩, trivial⟩⟩⟩, ⟨fOk135, ⟨fOk132, ⟨fOk131, ⟨fOk130, trivial, trivial⟩, trivial⟩, ⟨fOk134, ⟨fOk133, trivial, trivial⟩, trivial⟩⟩, ⟨fOk139, ⟨fOk138, ⟨fOk136, trivial, trivial⟩, trivial⟩, ⟨fOk141, ⟨fOk140, trivial, trivial⟩, trivial⟩⟩⟩⟩⟩⟩, ⟨fOk216, ⟨fOk167, ⟨fOk155, ⟨fOk149, ⟨fOk146, ⟨fOk144, ⟨fOk143, trivial, trivial⟩, ⟨fOk145, trivial, trivial⟩⟩, ⟨fOk148, ⟨fOk147, trivial, trivial⟩, trivial⟩⟩, ⟨fOk152, ⟨fOk151, ⟨fOk150, trivial, trivial⟩, trivial⟩, ⟨fOk154, ⟨fOk153, trivial, trivial⟩, trivial⟩⟩⟩, ⟨fOk161, ⟨fOk158, ⟨fOk157, ⟨fOk156, trivial, trivial⟩, trivial⟩, ⟨fOk160, ⟨fOk159, trivial, trivial⟩, trivial⟩⟩, ⟨fOk164, ⟨fOk163, ⟨fOk162, trivial, trivial⟩, trivial⟩, ⟨fOk166, ⟨fOk165, trivial, trivial⟩, trivial⟩⟩⟩⟩, ⟨fOk200, ⟨fOk193, ⟨fOk170, ⟨fOk169, ⟨fOk168, trivial, trivial⟩, trivial⟩, ⟨fOk172, ⟨fOk171, trivial, trivial⟩, trivial⟩⟩, ⟨fOk196, ⟨fOk195, ⟨fOk194, trivial, trivial⟩, trivial⟩, ⟨fOk199, ⟨fOk197, trivial, trivial⟩, trivial⟩⟩⟩, ⟨fOk210, ⟨fOk203, ⟨fOk202, ⟨fOk201, trivial, trivial⟩, trivial⟩, ⟨fOk205, ⟨fOk204, trivial, trivial⟩, trivial⟩⟩, ⟨fOk213, ⟨fOk212, ⟨fOk211, trivial, trivial⟩, trivial⟩, ⟨fOk215, ⟨fOk214, trivial, trivial⟩, trivial⟩⟩⟩⟩⟩, ⟨fOk251, ⟨fOk232, ⟨fOk226, ⟨fOk221, ⟨fOk219, ⟨fOk217, trivial, trivial⟩, ⟨fOk220, trivial, trivial⟩⟩, ⟨fOk225, ⟨fOk224, trivial, trivial⟩, trivial⟩⟩, ⟨fOk229, ⟨fOk228, ⟨fOk227, trivial, trivial⟩, trivial⟩, ⟨fOk231, ⟨fOk230, trivial, trivial⟩, trivial⟩⟩⟩, ⟨fOk238, ⟨fOk235, ⟨fOk234, ⟨fOk233, trivial, trivial⟩, trivial⟩, ⟨fOk237, ⟨fOk236, trivial, trivial⟩, trivial⟩⟩, ⟨fOk241, ⟨fOk240, ⟨fOk239, trivial, trivial⟩, trivial⟩, ⟨fOk243, ⟨fOk242, trivial, trivial⟩, trivial⟩⟩⟩⟩, ⟨fOk272, ⟨fOk263, ⟨fOk260, ⟨fOk259, ⟨fOk258, trivial, trivial⟩, trivial⟩, ⟨fOk262, ⟨fOk261, trivial, trivial⟩, trivial⟩⟩, ⟨fOk267, ⟨fOk266, ⟨fOk265, trivial, trivial⟩, trivial⟩, ⟨fOk269, ⟨fOk268, trivial, trivial⟩, trivial⟩⟩⟩, ⟨fOk282, ⟨fOk276, ⟨fOk275, ⟨fOk274, trivial, trivial⟩, trivial⟩, ⟨fOk279, ⟨fOk277, trivial, trivial⟩, trivial⟩⟩, ⟨fOk287, ⟨fOk284, ⟨fOk283, trivial, trivial⟩, trivial⟩, ⟨fOk293, ⟨fOk288, trivial, trivial⟩, trivial⟩⟩⟩⟩⟩⟩⟩
theorem cOk5 : fnB E0 Go.Proofs.Tryz.f5 5 = true := by decide +kernel
theorem cOk6 : fnB E0 Go.Proofs.Tryz.f6 6 = true := by decide +kernel
theorem cOk7 : fnB E0 Go.Proofs.Tryz.f7 7 = true := by decide +kernel
theorem cOk8 : fnB E0 Go.Proofs.Tryz.f8 8 = true := by decide +kernel
theorem cOk9 : fnB E0 Go.Proofs.Tryz.f9 9 = true := by decide +kernel
theorem cOk14 : fnB E0 Go.Proofs.Tryz.f14 14 = true := by decide +kernel
theorem cOk15 : fnB E0 Go.Proofs.Tryz.f15 15 = true := by decide +kernel
theorem cOk20 : fnB E0 Go.Proofs.Tryz.f20 20 = true := by decide +kernel
theorem cOk24 : fnB E0 Go.Proofs.Tryz.f24 24 = true := by decide +kernel
theorem cOk25 : fnB E0 Go.Proofs.Tryz.f25 25 = true := by decide +kernel
theorem cOk26 : fnB E0 Go.Proofs.Tryz.f26 26 = true := by decide +kernel
theorem cOk27 : fnB E0 Go.Proofs.Tryz.f27 27 = true := by decide +kernel
theorem cOk28 : fnB E0 Go.Proofs.Tryz.f28 28 = true := by decide +kernel
theorem cOk29 : fnB E0 Go.Proofs.Tryz.f29 29 = true := by decide +kernel
theorem cOk30 : fnB E0 Go.Proofs.Tryz.f30 30 = true := by decide +kernel
theorem cOk31 : fnB E0 Go.Proofs.Tryz.f31 31 = true := by decide +kernel
theorem cOk32 : fnB E0 Go.Proofs.Tryz.f32 32 = true := by decide +kernel
theorem cOk33 : fnB E0 Go.Proofs.Tryz.f33 33 = true := by decide +kernel
theorem cOk34 : fnB E0 Go.Proofs.Tryz.f34 34 = true := by decide +kernel
theorem cOk35 : fnB E0 Go.Proofs.Tryz.f35 35 = true := by decide +kernel
theorem cOk36 : fnB E0 Go.Proofs.Tryz.f36 36 = true := by decide +kernel
theorem cOk37 : fnB E0 Go.Proofs.Tryz.f37 37 = true := by decide +kernel
theorem cOk38 : fnB E0 Go.Proofs.Tryz.f38 38 = true := by decide +kernel
theorem cOk39 : fnB E0 Go.Proofs.Tryz.f39 39 = true := by decide +kernel
theorem cOk40 : fnB E0 Go.Proofs.Tryz.f40 40 = true := by decide +kernel
theorem cOk42 : fnB E0 Go.Proofs.Tryz.f42 42 = true := by decide +kernel
theorem cOk43 : fnB E0 Go.Proofs.Tryz.f43 43 = true := by decide +kernel
theorem cOk44 : fnB E0 Go.Proofs.Tryz.f44 44 = true := by decide +kernel
theorem cOk45 : fnB E0 Go.Proofs.Tryz.f45 45 = true := by decide +kernel
theorem cOk46 : fnB E0 Go.Proofs.Tryz.f46 46 = true := by decide +kernel
theorem cOk49 : fnB E0 Go.Proofs.Tryz.f49 49 = true := by decide +kernel
theorem cOk52 : fnB E0 Go.Proofs.Tryz.f52 52 = true := by decide +kernel
theorem cOk57 : fnB E0 Go.Proofs.Tryz.f57 57 = true := by decide +kernel
theorem cOk60 : fnB E0 Go.Proofs.Tryz.f60 60 = true := by decide +kernel
theorem cOk61 : fnB E0 Go.Proofs.Tryz.f61 61 = true := by decide +kernel
theorem cOk62 : fnB E0 Go.Proofs.Tryz.f62 62 = true := by decide +kernel
theorem cOk63 : fnB E0 Go.Proofs.Tryz.f63 63 = true := by decide +kernel
theorem cOk64 : fnB E0 Go.Proofs.Tryz.f64 64 = true := by decide +kernel
theorem cOk65 : fnB E0 Go.Proofs.Tryz.f65 65 = true := by decide +kernel
theorem cOk66 : fnB E0 Go.Proofs.Tryz.f66 66 = true := by decide +kernel
theorem cOk67 : fnB E0 Go.Proofs.Tryz.f67 67 = true := by decide +kernel
theorem cOk68 : fnB E0 Go.Proofs.Tryz.f68 68 = true := by decide +kernel
theorem cOk69 : fnB E0 Go.Proofs.Tryz.f69 69 = true := by decide +kernel
theorem cOk70 : fnB E0 Go.Proofs.Tryz.f70 70 = true := by decide +kernel
theorem cOk71 : fnB E0 Go.Proofs.Tryz.f71 71 = true := by decide +kernel
theorem cOk72 : fnB E0 Go.Proofs.Tryz.f72 72 = true := by decide +kernel
theorem cOk73 : fnB E0 Go.Proofs.Tryz.f73 73 = true := by decide +kernel
theorem cOk74 : fnB E0 Go.Proofs.Tryz.f74 74 = true := by decide +kernel
theorem cOk75 : fnB E0 Go.Proofs.Tryz.f75 75 = true := by decide +kernel
theorem cOk76 : fnB E0 Go.Proofs.Tryz.f76 76 = true := by decide +kernel
theorem cOk77 : fnB E0 Go.Proofs.Tryz.f77 77 = true := by decide +kernel
theorem cOk78 : fnB E0 Go.Proofs.Tryz.f78 78 = true := by decide +kernel
theorem cOk79 : fnB E0 Go.Proofs.Tryz.f79 79 = true := by decide +kernel
theorem cOk80 : fnB E0 Go.Proofs.Tryz.f80 80 = true := by decide +kernel
theorem cOk81 : fnB E0 Go.Proofs.Tryz.f81 81 = true := by decide +kernel
theorem cOk82 : fnB E0 Go.Proofs.Tryz.f82 82 = true := by decide +kernel
theorem cOk83 : fnB E0 Go.Proofs.Tryz.f83 83 = true := by decide +kernel
theorem cOk84 : fnB E0 Go.Proofs.Tryz.f84 84 = true := by decide +kernel
theorem cOk85 : fnB E0 Go.Proofs.Tryz.f85 85 = true := by decide +kernel
theorem cOk86 : fnB E0 Go.Proofs.Tryz.f86 86 = true := by decide +kernel
theorem cOk87 : fnB E0 Go.Proofs.Tryz.f87 87 = true := by decide +kernel
theorem cOk88 : fnB E0 Go.Proofs.Tryz.f88 88 = true := by decide +kernel
theorem cOk89 : fnB E0 Go.Proofs.Tryz.f89 89 = true := by decide +kernel
theorem cOk90 : fnB E0 Go.Proofs.Tryz.f90 90 = true := by decide +kernel
theorem cOk91 : fnB E0 Go.Proofs.Tryz.f91 91 = true := by decide +kernel
theorem cOk92 : fnB E0 Go.Proofs.Tryz.f92 92 = true := by decide +kernel
theorem cOk93 : fnB E0 Go.Proofs.Tryz.f93 93 = true := by decide +kernel
theorem cOk94 : fnB E0 Go.Proofs.Tryz.f94 94 = true := by decide +kernel
theorem cOk95 : fnB E0 Go.Proofs.Tryz.f95 95 = true := by decide +kernel
theorem cOk96 : fnB E0 Go.Proofs.Tryz.f96 96 = true := by decide +kernel
theorem cOk97 : fnB E0 Go.Proofs.Tryz.f97 97 = true := by decide +kernel
theorem cOk98 : fnB E0 Go.Proofs.Tryz.f98 98 = true := by decide +kernel
theorem cOk107 : fnB E0 Go.Proofs.Tryz.f107 107 = true := by decide +kernel
theorem cOk108 : fnB E0 Go.Proofs.Tryz.f108 108 = true := by decide +kernel
theorem cOk112 : fnB E0 Go.Proofs.Tryz.f112 112 = true := by decide +kernel
theorem cOk113 : fnB E0 Go.Proofs.Tryz.f113 113 = true := by decide +kernel
theorem cOk114 : fnB E0 Go.Proofs.Tryz.f114 114 = true := by decide +kernel
theorem cOk115 : fnB E0 Go.Proofs.Tryz.f115 115 = true := by decide +kernel
theorem cOk116 : fnB E0 Go.Proofs.Tryz.f116 116 = true := by decide +kernel
theorem cOk118 : fnB E0 Go.Proofs.Tryz.f118 118 = true := by decide +kernel
theorem cOk119 : fnB E0 Go.Proofs.Tryz.f119 119 = true := by decide +kernel
theorem cOk120 : fnB E0 Go.Proofs.Tryz.f120 120 = true := by decide +kernel
theorem cOk121 : fnB E0 Go.Proofs.Tryz.f121 121 = true := by decide +kernel
theorem cOk126 : fnB E0 Go.Proofs.Tryz.f126 126 = true := by decide +kernel
theorem cOk127 : fnB E0 Go.Proofs.Tryz.f127 127 = true := by decide +kernel
theorem cOk128 : fnB E0 Go.Proofs.Tryz.f128 128 = true := by decide +kernel
theorem cOk129 : fnB E0 Go.Proofs.Tryz.f129 129 = true := by decide +kernel
theorem cOk130 : fnB E0 Go.Proofs.Tryz.f130 130 = true := by decide +kernel
theorem cOk131 : fnB E0 Go.Proofs.Tryz.f131 131 = true := by decide +kernel
theorem cOk132 : fnB E0 Go.Proofs.Tryz.f132 132 = true := by decide +kernel
theorem cOk133 : fnB E0 Go.Proofs.Tryz.f133 133 = true := by decide +kernel
theorem cOk134 : fnB E0 Go.Proofs.Tryz.f134 134 = true := by decide +kernel
theorem cOk135 : fnB E0 Go.Proofs.Tryz.f135 135 = true := by decide +kernel
theorem cOk136 : fnB E0 Go.Proofs.Tryz.f136 136 = true := by decide +kernel
theorem cOk138 : fnB E0 Go.Proofs.Tryz.f138 138 = true := by decide +kernel
theorem cOk139 : fnB E0 Go.Proofs.Tryz.f139 139 = true := by decide +kernel
theorem cOk140 : fnB E0 Go.Proofs.Tryz.f140 140 = true := by decide +kernel
theorem cOk141 : fnB E0 Go.Proofs.Tryz.f141 141 = true := by decide +kernel
theorem cOk142 : fnB E0 Go.Proofs.Tryz.f142 142 = true := by decide +kernel
theorem cOk143 : fnB E0 Go.Proofs.Tryz.f143 143 = true := by decide +kernel
theorem cOk144 : fnB E0 Go.Proofs.Tryz.f144 144 = true := by decide +kernel
theorem cOk145 : fnB E0 Go.Proofs.Tryz.f145 145 = true := by decide +kernel
theorem cOk146 : fnB E0 Go.Proofs.Tryz.f146 146 = true := by decide +kernel
theorem cOk147 : fnB E0 Go.Proofs.Tryz.f147 147 = true := by decide +kernel
theorem cOk148 : fnB E0 Go.Proofs.Tryz.f148 148 = true := by decide +kernel
theorem cOk149 : fnB E0 Go.Proofs.Tryz.f149 149 = true := by decide +kernel
theorem cOk150 : fnB E0 Go.Proofs.Tryz.f150 150 = true := by decide +kernel
theorem cOk151 : fnB E0 Go.Proofs.Tryz.f151 151 = true := by decide +kernel
theorem cOk152 : fnB E0 Go.Proofs.Tryz.f152 152 = true := by decide +kernel
theorem cOk153 : fnB E0 Go.Proofs.Tryz.f153 153 = true := by decide +kernel
theorem cOk154 : fnB E0 Go.Proofs.Tryz.f154 154 = true := by decide +kernel
theorem cOk155 : fnB E0 Go.Proofs.Tryz.f155 155 = true := by decide +kernel
theorem cOk156 : fnB E0 Go.Proofs.Tryz.f156 156 = true := by decide +kernel
theorem cOk157 : fnB E0 Go.Proofs.Tryz.f157 157 = true := by decide +kernel
theorem cOk158 : fnB E0 Go.Proofs.Tryz.f158 158 = true := by decide +kernel
theorem cOk159 : fnB E0 Go.Proofs.Tryz.f159 159 = true := by decide +kernel
theorem cOk160 : fnB E0 Go.Proofs.Tryz.f160 160 = true := by decide +kernel
theorem cOk161 : fnB E0 Go.Proofs.Tryz.f161 161 = true := by decide +kernel
theorem cOk162 : fnB E0 Go.Proofs.Tryz.f162 162 = true := by decide +kernel
theorem cOk163 : fnB E0 Go.Proofs.Tryz.f163 163 = true := by decide +kernel
theorem cOk164 : fnB E0 Go.Proofs.Tryz.f164 164 = true := by decide +kernel
theorem cOk165 : fnB E0 Go.Proofs.Tryz.f165 165 = true := by decide +kernel
theorem cOk166 : fnB E0 Go.Proofs.Tryz.f166 166 = true := by decide +kernel
theorem cOk167 : fnB E0 Go.Proofs.Tryz.f167 167 = true := by decide +kernel
theorem cOk168 : fnB E0 Go.Proofs.Tryz.f168 168 = true := by decide +kernel
theorem cOk169 : fnB E0 Go.Proofs.Tryz.f169 169 = true := by decide +kernel
theorem cOk170 : fnB E0 Go.Proofs.Tryz.f170 170 = true := by decide +kernel
theorem cOk171 : fnB E0 Go.Proofs.Tryz.f171 171 = true := by decide +kernel
theorem cOk172 : fnB E0 Go.Proofs.Tryz.f172 172 = true := by decide +kernel
theorem cOk193 : fnB E0 Go.Proofs.Tryz.f193 193 = true := by decide +kernel
theorem cOk194 : fnB E0 Go.Proofs.Tryz.f194 194 = true := by decide +kernel
theorem cOk195 : fnB E0 Go.Proofs.Tryz.f195 195 = true := by decide +kernel
theorem cOk196 : fnB E0 Go.Proofs.Tryz.f196 196 = true := by decide +kernel
theorem cOk197 : fnB E0 Go.Proofs.Tryz.f197 197 = true := by decide +kernel
theorem cOk199 : fnB E0 Go.Proofs.Tryz.f199 199 = true := by decide +kernel
theorem cOk200 : fnB E0 Go.Proofs.Tryz.f200 200 = true := by decide +kernel
theorem cOk201 : fnB E0 Go.Proofs.Tryz.f201 201 = true := by decide +kernel
theorem cOk202 : fnB E0 Go.Proofs.Tryz.f202 202 = true := by decide +kernel
theorem cOk203 : fnB E0 Go.Proofs.Tryz.f203 203 = true := by decide +kernel
theorem cOk204 : fnB E0 Go.Proofs.Tryz.f204 204 = true := by decide +kernel
theorem cOk205 : fnB E0 Go.Proofs.Tryz.f205 205 = true := by decide +kernel
theorem cOk210 : fnB E0 Go.Proofs.Tryz.f210 210 = true := by decide +kernel
theorem cOk211 : fnB E0 Go.Proofs.Tryz.f211 211 = true := by decide +kernel
theorem cOk212 : fnB E0 Go.Proofs.Tryz.f212 212 = true := by decide +kernel
theorem cOk213 : fnB E0 Go.Proofs.Tryz.f213 213 = true := by decide +kernel
theorem cOk214 : fnB E0 Go.Proofs.Tryz.f214 214 = true := by decide +kernel
theorem cOk215 : fnB E0 Go.Proofs.Tryz.f215 215 = true := by decide +kernel
theorem cOk216 : fnB E0 Go.Proofs.Tryz.f216 216 = true := by decide +kernel
theorem cOk217 : fnB E0 Go.Proofs.Tryz.f217 217 = true := by decide +kernel
theorem cOk219 : fnB E0 Go.Proofs.Tryz.f219 219 = true := by decide +kernel
theorem cOk220 : fnB E0 Go.Proofs.Tryz.f220 220 = true := by decide +kernel
theorem cOk221 : fnB E0 Go.Proofs.Tryz.f221 221 = true := by decide +kernel
theorem cOk224 : fnB E0 Go.Proofs.Tryz.f224 224 = true := by decide +kernel
theorem cOk225 : fnB E0 Go.Proofs.Tryz.f225 225 = true := by decide +kernel
theorem cOk226 : fnB E0 Go.Proofs.Tryz.f226 226 = true := by decide +kernel
theorem cOk227 : fnB E0 Go.Proofs.Tryz.f227 227 = true := by decide +kernel
theorem cOk228 : fnB E0 Go.Proofs.Tryz.f228 228 = true := by decide +kernel
theorem cOk229 : fnB E0 Go.Proofs.Tryz.f229 229 = true := by decide +kernel
theorem cOk230 : fnB E0 Go.Proofs.Tryz.f230 230 = true := by decide +kernel
theorem cOk231 : fnB E0 Go.Proofs.Tryz.f231 231 = true := by decide +kernel
theorem cOk232 : fnB E0 Go.Proofs.Tryz.f232 232 = true := by decide +kernel
theorem cOk233 : fnB E0 Go.Proofs.Tryz.f233 233 = true := by decide +kernel
theorem cOk234 : fnB E0 Go.Proofs.Tryz.f234 234 = true := by decide +kernel
theorem cOk235 : fnB E0 Go.Proofs.Tryz.f235 235 = true := by decide +kernel
theorem cOk236 : fnB E0 Go.Proofs.Tryz.f236 236 = true := by decide +kernel
theorem cOk237 : fnB E0 Go.Proofs.Tryz.f237 237 = true := by decide +kernel
theorem cOk238 : fnB E0 Go.Proofs.Tryz.f238 238 = true := by decide +kernel
theorem cOk239 : fnB E0 Go.Proofs.Tryz.f239 239 = true := by decide +kernel
theorem cOk240 : fnB E0 Go.Proofs.Tryz.f240 240 = true := by decide +kernel
theorem cOk241 : fnB E0 Go.Proofs.Tryz.f241 241 = true := by decide +kernel
theorem cOk242 : fnB E0 Go.Proofs.Tryz.f242 242 = true := by decide +kernel
theorem cOk243 : fnB E0 Go.Proofs.Tryz.f243 243 = true := by decide +kernel
theorem cOk251 : fnB E0 Go.Proofs.Tryz.f251 251 = true := by decide +kernel
theorem cOk258 : fnB E0 Go.Proofs.Tryz.f258 258 = true := by decide +kernel
theorem cOk259 : fnB E0 Go.Proofs.Tryz.f259 259 = true := by decide +kernel
theorem cOk260 : fnB E0 Go.Proofs.Tryz.f260 260 = true := by decide +kernel
theorem cOk261 : fnB E0 Go.Proofs.Tryz.f261 261 = true := by decide +kernel
theorem cOk262 : fnB E0 Go.Proofs.Tryz.f262 262 = true := by decide +kernel
theorem cOk263 : fnB E0 Go.Proofs.Tryz.f263 263 = true := by decide +kernel
theorem cOk265 : fnB E0 Go.Proofs.Tryz.f265 265 = true := by decide +kernel
theorem cOk266 : fnB E0 Go.Proofs.Tryz.f266 266 = true := by decide +kernel
theorem cOk267 : fnB E0 Go.Proofs.Tryz.f267 267 = true := by decide +kernel
theorem cOk268 : fnB E0 Go.Proofs.Tryz.f268 268 = true := by decide +kernel
theorem cOk269 : fnB E0 Go.Proofs.Tryz.f269 269 = true := by decide +kernel
theorem cOk272 : fnB E0 Go.Proofs.Tryz.f272 272 = true := by decide +kernel
theorem cOk274 : fnB E0 Go.Proofs.Tryz.f274 274 = true := by decide +kernel
theorem cOk275 : fnB E0 Go.Proofs.Tryz.f275 275 = true := by decide +kernel
theorem cOk276 : fnB E0 Go.Proofs.Tryz.f276 276 = true := by decide +kernel
theorem cOk277 : fnB E0 Go.Proofs.Tryz.f277 277 = true := by decide +kernel
theorem cOk279 : fnB E0 Go.Proofs.Tryz.f279 279 = true := by decide +kernel
theorem cOk282 : fnB E0 Go.Proofs.Tryz.f282 282 = true := by decide +kernel
theorem cOk283 : fnB E0 Go.Proofs.Tryz.f283 283 = true := by decide +kernel
theorem cOk284 : fnB E0 Go.Proofs.Tryz.f284 284 = true := by decide +kernel
theorem cOk287 : fnB E0 Go.Proofs.Tryz.f287 287 = true := by decide +kernel
theorem cOk288 : fnB E0 Go.Proofs.Tryz.f288 288 = true := by decide +kernel
theorem cOk293 : fnB E0 Go.Proofs.Tryz.f293 293 = true := by decide +kernel
theorem cAll : gTree.All fun g fn => fnB E0 fn g = true := ⟨cOk142, ⟨cOk76, ⟨cOk40, ⟨cOk28, ⟨cOk15, ⟨cOk8, ⟨cOk6, ⟨cOk5, trivial, trivial⟩, ⟨cOk7, trivial, trivial⟩⟩, ⟨cOk14, ⟨cOk9, trivial, trivial⟩, trivial⟩⟩, ⟨cOk25, ⟨cOk24, ⟨cOk20, trivial, trivial⟩, trivial⟩, ⟨cOk27, ⟨cOk26, trivial, trivial⟩, trivial⟩⟩⟩, ⟨cOk34, ⟨cOk31, ⟨cOk30, ⟨cOk29, trivial, trivial⟩, trivial⟩, ⟨cOk33, ⟨cOk32, trivial, trivial⟩, trivial⟩⟩, ⟨cOk37, ⟨cOk36, ⟨cOk35, trivial, trivial⟩, trivial⟩, ⟨cOk39, ⟨cOk38, trivial, trivial⟩, trivial⟩⟩⟩⟩, ⟨cOk64, ⟨cOk52, ⟨cOk45, ⟨cOk43, ⟨cOk42, trivial, trivial⟩, ⟨cOk44, trivial, trivial⟩⟩, ⟨cOk49, ⟨cOk46, trivial, trivial⟩, trivial⟩⟩, ⟨cOk61, ⟨cOk60, ⟨cOk57, trivial, trivial⟩, trivial⟩, ⟨cOk63, ⟨cOk62, trivial, trivial⟩, trivial⟩⟩⟩, ⟨cOk70, ⟨cOk67, ⟨cOk66, ⟨cOk65, trivial, trivial⟩, trivial⟩, ⟨cOk69, ⟨cOk68, trivial, trivial⟩, trivial⟩⟩, ⟨cOk73, ⟨cOk72, ⟨cOk71, trivial, trivial⟩, trivial⟩, ⟨cOk75, ⟨cOk74, trivial, trivial⟩, trivial⟩⟩⟩⟩⟩, ⟨cOk112, ⟨cOk89, ⟨cOk83, ⟨cOk80, ⟨cOk78, ⟨cOk77, trivial, trivial⟩, ⟨cOk79, trivial, trivial⟩⟩, ⟨cOk82, ⟨cOk81, trivial, trivial⟩, trivial⟩⟩, ⟨cOk86, ⟨cOk85, ⟨cOk84, trivial, trivial⟩, trivial⟩, ⟨cOk88, ⟨cOk87, trivial, trivial⟩, trivial⟩⟩⟩, ⟨cOk95, ⟨cOk92, ⟨cOk91, ⟨cOk90, trivial, trivial⟩, trivial⟩, ⟨cOk94, ⟨cOk93, trivial, trivial⟩, trivial⟩⟩, ⟨cOk98, ⟨cOk97, ⟨cOk96, trivial, trivial⟩, trivial⟩, ⟨cOk108, ⟨cOk107, trivial, trivial⟩, trivial⟩⟩⟩⟩, ⟨cOk129, ⟨cOk119, ⟨cOk115, ⟨cOk114, ⟨cOk113, trivial, trivial⟩, trivial⟩, ⟨cOk118, ⟨cOk116, trivial, trivial⟩, trivial⟩⟩, ⟨cOk126, ⟨cOk121, ⟨cOk120, trivial, trivial⟩, trivial⟩, ⟨cOk128, ⟨cOk127, trivial, trivial⟩, trivial⟩⟩⟩, ⟨cOk135, ⟨cOk132, ⟨cOk131, ⟨cOk130, trivial, trivial⟩, trivial⟩, ⟨cOk134, ⟨cOk133, trivial, trivial⟩, trivial⟩⟩, ⟨cOk139, ⟨cOk138, ⟨cOk136, trivial, trivial⟩, trivial⟩, ⟨cOk141, ⟨cOk140, trivial, trivial⟩, trivial⟩⟩⟩⟩⟩⟩, ⟨cOk216, ⟨cOk167, ⟨cOk155, ⟨cOk149, ⟨cOk146, ⟨cOk144, ⟨cOk143, trivial, trivial⟩, ⟨cOk145, trivial, trivial⟩⟩, ⟨cOk148, ⟨cOk147, trivial, trivial⟩, trivial⟩⟩, ⟨cOk152, ⟨cOk151, ⟨cOk150, trivial, trivial⟩, trivial⟩, ⟨cOk154, ⟨cOk153, trivial, trivial⟩, trivial⟩⟩⟩, ⟨cOk161, ⟨cOk158, ⟨cOk157, ⟨cOk156, trivial, trivial⟩, trivial⟩, ⟨cOk160, ⟨cOk159, trivial, trivial⟩, trivial⟩⟩, ⟨cOk164, ⟨cOk163, ⟨cOk162, trivial, trivial⟩, trivial⟩, ⟨cOk166, ⟨cOk165, trivial, trivial⟩, trivial⟩⟩⟩⟩, ⟨cOk200, ⟨cOk193, ⟨cOk170, ⟨cOk169, ⟨cOk168, trivial, trivial⟩, trivial⟩, ⟨cOk172, ⟨cOk171, trivial, trivial⟩, trivial⟩⟩, ⟨cOk196, ⟨cOk195, ⟨cOk194, trivial, trivial⟩, trivial⟩, ⟨cOk199, ⟨cOk197, trivial, trivial⟩, trivial⟩⟩⟩, ⟨cOk210, ⟨cOk203, ⟨cOk202, ⟨cOk201, trivial, trivial⟩, trivial⟩, ⟨cOk205, ⟨cOk204, trivial, trivial⟩, trivial⟩⟩, ⟨cOk213, ⟨cOk212, ⟨cOk211, trivial, trivial⟩, trivial⟩, ⟨cOk215, ⟨cOk214, trivial, trivial⟩, trivial⟩⟩⟩⟩⟩, ⟨cOk251, ⟨cOk232, ⟨cOk226, ⟨cOk221, ⟨cOk219, ⟨cOk217, trivial, trivial⟩, ⟨cOk220, trivial, trivial⟩⟩, ⟨cOk225, ⟨cOk224, trivial, trivial⟩, trivial⟩⟩, ⟨cOk229, ⟨cOk228, ⟨cOk227, trivial, trivial⟩, trivial⟩, ⟨cOk231, ⟨cOk230, trivial, trivial⟩, trivial⟩⟩⟩, ⟨cOk238, ⟨cOk235, ⟨cOk234, ⟨cOk233, trivial, trivial⟩, trivial⟩, ⟨cOk237, ⟨cOk236, trivial, trivial⟩, trivial⟩⟩, ⟨cOk241, ⟨cOk240, ⟨cOk239, trivial, trivial⟩, trivial⟩, ⟨cOk243, ⟨cOk242, trivial, trivial⟩, trivial⟩⟩⟩⟩, ⟨cOk272, ⟨cOk263, ⟨cOk260, ⟨cOk259, ⟨cOk258, trivial, trivial⟩, trivial⟩, ⟨cOk262, ⟨cOk261, trivial, trivial⟩, trivial⟩⟩, ⟨cOk267, ⟨cOk266, ⟨cOk265, trivial, trivial⟩, trivial⟩, ⟨cOk269, ⟨cOk268, trivial, trivial⟩, trivial⟩⟩⟩, ⟨cOk282, ⟨cOk276, ⟨cOk275, ⟨cOk274, trivial, trivial⟩, trivial⟩, ⟨cOk279, ⟨cOk277, trivial, trivial⟩, trivial⟩⟩, ⟨cOk287, ⟨cOk284, ⟨cOk283, trivial, trivial⟩, trivial⟩, ⟨cOk293, ⟨cOk288, trivial, trivial⟩, trivial⟩⟩⟩⟩⟩⟩⟩
theorem iAll : iTree.All fun g zb => ∀ (args : List AV) (h : Heap) (f : K) (r : Fin2), insertOp zb h args f = some r →
    (∃ fn, Go.Proofs.Tryz.prog.funcs[g]? = some fn ∧ fn.name ≠ "runtime.NumGoroutine" ∧ fn.body.isSome = true) ∧
    ∃ v h', f v h' = some r ∧ ∀ φ I w (cs : List Value), Sim φ I h w → RelL w φ I args cs → Calls Go.Proofs.Tryz.prog g cs.toArray w fun e w' => ∃ c, e = .returned c ∧ Post h φ I w v h' c w' := by
  exact ⟨ins_sound Go.Proofs.insWalk264 Go.Proofs.Tryz.underlying49 Go.Proofs.Tryz.underlying3 (infoB_bytes (zero := [.int .i64 0, .nil]) (by decide +kernel) (by decide +kernel)) (by decide), ⟨ins_sound Go.Proofs.insWalk218 Go.Proofs.Tryz.underlying37 Go.Proofs.Tryz.underlying3 (infoB_bytes (zero := [.int .i64 0, .int .i64 0, .int .i64 0, .int .i64 0, .int .i64 0, .nil, .str [], .nil]) (by decide +kernel) (by decide +kernel)) (by decide), ⟨ins_sound Go.Proofs.insWalk137 Go.Proofs.Tryz.underlying30 Go.Proofs.Tryz.underlying3 (infoB_bytes (zero := [.int .i64 0, .int .i64 0, .int .i64 0]) (by decide +kernel) (by decide +kernel)) (by decide), trivial, trivial⟩, trivial⟩, ⟨ins_sound Go.Proofs.insWalk278 Go.Proofs.Tryz.underlying52 Go.Proofs.Tryz.underlying3 (infoB_bytes (zero := [.str [], .int .i64 0]) (by decide +kernel) (by decide +kernel)) (by decide), trivial, trivial⟩⟩
theorem base : EnvBase Go.Proofs.Tryz.prog E0 where
  types := (types_of rfl tAll).1
  fields := (types_of rfl tAll).2
  fns := fun g fn h => Tr.get_all gAll h
  code := fun g fn h => Tr.get_all cAll h
  ins := fun g zb h => Tr.get_all iAll h
  mixed := rfl
end Go.Den
