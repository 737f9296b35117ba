/- What is asked of the program's functions and types, by check -/
import Derived.Test.YthkclhpmnjnnfaaGreatProg
import Derived.Test.YthkclhpmnjnnfaaGreatDenZm
import Derived.Test.YthkclhpmnjnnfaaGreatIns
import Derived.Test.YthkclhpmnjnnfaaGreatEqs
set_option linter.unusedSimpArgs false
set_option linter.unusedVariables false
namespace Go.Den
open Go
set_option maxRecDepth 100000
def ti1 : TI := ⟨.func, 1, [.nilf], false⟩
def ti2 : TI := ⟨(.int .i64), 1, [.int .i64 0], false⟩
def ti3 : TI := ⟨(.int .i64), 1, [.int .i64 0], false⟩
def ti4 : TI := ⟨.bool, 1, [.bool false], false⟩
def ti5 : TI := ⟨(.int .u8), 1, [.int .u8 0], false⟩
def ti6 : TI := ⟨(.int .u8), 1, [.int .u8 0], false⟩
def ti7 : TI := ⟨(.struct [(0, 1), (1, 1), (2, 1), (3, 1)]), 4, [.int .i64 0, .int .i64 0, .bool false, .int .u8 0], false⟩
def ti8 : TI := ⟨(.struct [(0, 1), (1, 1), (2, 1), (3, 1)]), 4, [.int .i64 0, .int .i64 0, .bool false, .int .u8 0], false⟩
def ti9 : TI := ⟨.str, 1, [.str []], false⟩
def ti10 : TI := ⟨.str, 1, [.str []], false⟩
def ti11 : TI := ⟨.str, 1, [.str []], false⟩
def ti12 : TI := ⟨(.int .u64), 1, [.int .u64 0], false⟩
def ti13 : TI := ⟨(.struct [(0, 1), (1, 1)]), 2, [.str [], .int .u64 0], false⟩
def ti14 : TI := ⟨(.struct [(0, 1), (1, 1)]), 2, [.str [], .int .u64 0], false⟩
def ti15 : TI := ⟨.ptr, 1, [.nilp], false⟩
def ti16 : TI := ⟨.ptr, 1, [.nilp], false⟩
def ti17 : TI := ⟨.ptr, 1, [.nilp], false⟩
def ti18 : TI := ⟨(.struct [(0, 1)]), 1, [.nilp], false⟩
def ti19 : TI := ⟨(.struct [(0, 1)]), 1, [.nilp], false⟩
def ti21 : TI := ⟨(.int .i32), 1, [.int .i32 0], false⟩
def ti22 : TI := ⟨(.slice 1 16 [.str []] false), 1, [.nil], false⟩
def ti23 : TI := ⟨(.slice 1 24 [.nil] false), 1, [.nil], false⟩
def ti24 : TI := ⟨(.int .i64), 1, [.int .i64 0], false⟩
def ti25 : TI := ⟨(.slice 1 8 [.int .i64 0] false), 1, [.nil], false⟩
def ti26 : TI := ⟨(.slice 1 8 [.int .i64 0] false), 1, [.nil], false⟩
def ti27 : TI := ⟨(.struct [(0, 1), (1, 1)]), 2, [.nil, .int .i64 0], false⟩
def ti28 : TI := ⟨(.struct [(0, 1), (1, 1)]), 2, [.nil, .int .i64 0], false⟩
def ti29 : TI := ⟨(.slice 4 48 [.int .i64 0, .int .i64 0, .int .i64 0, .nil] false), 1, [.nil], false⟩
def ti30 : TI := ⟨(.slice 3 24 [.int .i64 0, .int .i64 0, .int .i64 0] false), 1, [.nil], false⟩
def ti31 : TI := ⟨(.struct [(0, 1), (1, 1), (2, 1), (3, 1)]), 4, [.int .i64 0, .nil, .nil, .int .i64 0], false⟩
def ti32 : TI := ⟨(.struct [(0, 1), (1, 1), (2, 1), (3, 1)]), 4, [.int .i64 0, .nil, .nil, .int .i64 0], false⟩
def ti33 : TI := ⟨(.struct [(0, 2), (2, 1), (3, 4)]), 7, [.nil, .int .i64 0, .nil, .int .i64 0, .nil, .nil, .int .i64 0], false⟩
def ti34 : TI := ⟨(.struct [(0, 2), (2, 1), (3, 4)]), 7, [.nil, .int .i64 0, .nil, .int .i64 0, .nil, .nil, .int .i64 0], false⟩
def ti35 : TI := ⟨.func, 1, [.nilf], false⟩
def ti37 : TI := ⟨.func, 1, [.nilf], false⟩
def ti38 : TI := ⟨.func, 1, [.nilf], false⟩
def ti39 : TI := ⟨(.slice 2 32 [.int .i64 0, .nil] false), 1, [.nil], false⟩
def ti40 : TI := ⟨(.struct [(0, 1), (1, 1)]), 2, [.int .i64 0, .nil], false⟩
def ti41 : TI := ⟨(.struct [(0, 1), (1, 1)]), 2, [.int .i64 0, .nil], false⟩
def ti42 : TI := ⟨(.slice 2 24 [.str [], .int .i64 0] false), 1, [.nil], false⟩
def ti43 : TI := ⟨(.struct [(0, 1), (1, 1), (2, 1), (3, 1), (4, 2), (6, 1), (7, 1)]), 8, [.int .i64 0, .int .i64 0, .int .i64 0, .int .i64 0, .int .i64 0, .nil, .str [], .nil], false⟩
def ti44 : TI := ⟨(.struct [(0, 1), (1, 1), (2, 1), (3, 1), (4, 2), (6, 1), (7, 1)]), 8, [.int .i64 0, .int .i64 0, .int .i64 0, .int .i64 0, .int .i64 0, .nil, .str [], .nil], false⟩
def ti45 : TI := ⟨(.slice 2 16 [.int .i64 0, .int .i64 0] false), 1, [.nil], false⟩
def ti47 : TI := ⟨.func, 1, [.nilf], false⟩
def ti48 : TI := ⟨.func, 1, [.nilf], false⟩
def ti49 : TI := ⟨.func, 1, [.nilf], false⟩
def ti50 : TI := ⟨.func, 1, [.nilf], false⟩
def ti52 : TI := ⟨.func, 1, [.nilf], false⟩
def ti54 : TI := ⟨.func, 1, [.nilf], false⟩
def ti55 : TI := ⟨(.slice 8 104 [.int .i64 0, .int .i64 0, .int .i64 0, .int .i64 0, .int .i64 0, .nil, .str [], .nil] false), 1, [.nil], false⟩
def ti56 : TI := ⟨(.struct [(0, 1), (1, 1), (2, 1), (3, 1)]), 4, [.int .i64 0, .int .i64 0, .int .i64 0, .nil], false⟩
def ti57 : TI := ⟨(.struct [(0, 1), (1, 1), (2, 1), (3, 1)]), 4, [.int .i64 0, .int .i64 0, .int .i64 0, .nil], false⟩
def ti58 : TI := ⟨.func, 1, [.nilf], false⟩
def ti60 : TI := ⟨.func, 1, [.nilf], false⟩
def ti61 : TI := ⟨.func, 1, [.nilf], false⟩
def ti63 : TI := ⟨.func, 1, [.nilf], false⟩
def ti64 : TI := ⟨(.struct [(0, 1), (1, 1)]), 2, [.int .i64 0, .int .i64 0], false⟩
def ti65 : TI := ⟨(.struct [(0, 1), (1, 1)]), 2, [.int .i64 0, .int .i64 0], true⟩
def ti66 : TI := ⟨.func, 1, [.nilf], false⟩
def ti67 : TI := ⟨.func, 1, [.nilf], false⟩
def ti68 : TI := ⟨.func, 1, [.nilf], false⟩
def ti69 : TI := ⟨(.slice 1 1 [.int .u8 0] true), 1, [.nil], false⟩
def ti70 : TI := ⟨(.struct [(0, 1), (1, 1), (2, 1), (3, 1), (4, 1)]), 5, [.int .i64 0, .int .i64 0, .int .i64 0, .int .i64 0, .int .i64 0], false⟩
def ti71 : TI := ⟨(.struct [(0, 1), (1, 1), (2, 1), (3, 1), (4, 1)]), 5, [.int .i64 0, .int .i64 0, .int .i64 0, .int .i64 0, .int .i64 0], false⟩
def ti72 : TI := ⟨(.struct [(0, 1), (1, 1), (2, 5)]), 7, [.nil, .nil, .int .i64 0, .int .i64 0, .int .i64 0, .int .i64 0, .int .i64 0], false⟩
def ti73 : TI := ⟨(.struct [(0, 1), (1, 1), (2, 5)]), 7, [.nil, .nil, .int .i64 0, .int .i64 0, .int .i64 0, .int .i64 0, .int .i64 0], false⟩
def ti75 : TI := ⟨.func, 1, [.nilf], false⟩
def ti76 : TI := ⟨(.struct [(0, 1), (1, 1), (2, 1), (3, 1), (4, 1), (5, 1), (6, 1)]), 7, [.int .i64 0, .str [], .str [], .int .i64 0, .int .i64 0, .int .i64 0, .nil], false⟩
def ti77 : TI := ⟨(.struct [(0, 1), (1, 1), (2, 1), (3, 1), (4, 1), (5, 1), (6, 1)]), 7, [.int .i64 0, .str [], .str [], .int .i64 0, .int .i64 0, .int .i64 0, .nil], false⟩
def ti79 : TI := ⟨.func, 1, [.nilf], false⟩
def ti81 : TI := ⟨.func, 1, [.nilf], false⟩
def ti82 : TI := ⟨.func, 1, [.nilf], false⟩
def ti83 : TI := ⟨(.slice 7 88 [.int .i64 0, .str [], .str [], .int .i64 0, .int .i64 0, .int .i64 0, .nil] false), 1, [.nil], false⟩
def ti85 : TI := ⟨.func, 1, [.nilf], false⟩
def ti86 : TI := ⟨.func, 1, [.nilf], false⟩
def ti87 : TI := ⟨.func, 1, [.nilf], false⟩
def ti89 : TI := ⟨.func, 1, [.nilf], false⟩
def ti90 : TI := ⟨.func, 1, [.nilf], false⟩
def ti91 : TI := ⟨.func, 1, [.nilf], false⟩
def ti92 : TI := ⟨.func, 1, [.nilf], false⟩
def ti93 : TI := ⟨.func, 1, [.nilf], false⟩
def ti94 : TI := ⟨.func, 1, [.nilf], false⟩
def ti95 : TI := ⟨.func, 1, [.nilf], false⟩
def ti96 : TI := ⟨.func, 1, [.nilf], false⟩
def ti97 : TI := ⟨.func, 1, [.nilf], false⟩
def ti98 : TI := ⟨.func, 1, [.nilf], false⟩
def ti99 : TI := ⟨.func, 1, [.nilf], false⟩
def ti101 : TI := ⟨.func, 1, [.nilf], false⟩
def ti102 : TI := ⟨.func, 1, [.nilf], false⟩
def ti103 : TI := ⟨.func, 1, [.nilf], false⟩
def ti104 : TI := ⟨.func, 1, [.nilf], false⟩
def ti106 : TI := ⟨.func, 1, [.nilf], false⟩
def ti108 : TI := ⟨.func, 1, [.nilf], false⟩
def ti110 : TI := ⟨.func, 1, [.nilf], false⟩
def ti111 : TI := ⟨.func, 1, [.nilf], false⟩
def ti112 : TI := ⟨.func, 1, [.nilf], false⟩
def ti113 : TI := ⟨.func, 1, [.nilf], false⟩
def ti114 : TI := ⟨.func, 1, [.nilf], false⟩
def ti115 : TI := ⟨.func, 1, [.nilf], false⟩
def ti116 : TI := ⟨.func, 1, [.nilf], false⟩
def ti117 : TI := ⟨.func, 1, [.nilf], false⟩
def ti118 : TI := ⟨.func, 1, [.nilf], false⟩
def ti119 : TI := ⟨.func, 1, [.nilf], false⟩
def ti120 : TI := ⟨.func, 1, [.nilf], false⟩
def ti121 : TI := ⟨.func, 1, [.nilf], false⟩
def ti122 : TI := ⟨.func, 1, [.nilf], false⟩
def ti123 : TI := ⟨.func, 1, [.nilf], false⟩
def ti124 : TI := ⟨.func, 1, [.nilf], false⟩
def ti125 : TI := ⟨.func, 1, [.nilf], false⟩
def ti126 : TI := ⟨.func, 1, [.nilf], false⟩
def ti128 : TI := ⟨.func, 1, [.nilf], false⟩
def ti130 : TI := ⟨.func, 1, [.nilf], false⟩
def ti131 : TI := ⟨.func, 1, [.nilf], false⟩
def ti132 : TI := ⟨.func, 1, [.nilf], false⟩
def ti133 : TI := ⟨.func, 1, [.nilf], false⟩
def ti134 : TI := ⟨.func, 1, [.nilf], false⟩
def ti135 : TI := ⟨.func, 1, [.nilf], false⟩
def ti137 : TI := ⟨.func, 1, [.nilf], false⟩
def ti138 : TI := ⟨.func, 1, [.nilf], false⟩
def ti139 : TI := ⟨.func, 1, [.nilf], false⟩
def ti141 : TI := ⟨.func, 1, [.nilf], false⟩
def ti142 : TI := ⟨.func, 1, [.nilf], false⟩
def ti144 : TI := ⟨.func, 1, [.nilf], false⟩
def ti145 : TI := ⟨.func, 1, [.nilf], false⟩
def ti146 : TI := ⟨.func, 1, [.nilf], false⟩
def ti147 : TI := ⟨.func, 1, [.nilf], false⟩
def ti148 : TI := ⟨.func, 1, [.nilf], false⟩
def ti149 : TI := ⟨.func, 1, [.nilf], false⟩
def ti150 : TI := ⟨.func, 1, [.nilf], false⟩
def ti151 : TI := ⟨.func, 1, [.nilf], false⟩
def ti152 : TI := ⟨.func, 1, [.nilf], false⟩
def ti153 : TI := ⟨.func, 1, [.nilf], false⟩
def ti154 : TI := ⟨(.struct [(0, 2), (2, 1)]), 3, [.int .i64 0, .int .i64 0, .int .i64 0], false⟩
def ti155 : TI := ⟨(.struct [(0, 2), (2, 1)]), 3, [.int .i64 0, .int .i64 0, .int .i64 0], false⟩
def ti157 : TI := ⟨.func, 1, [.nilf], false⟩
def ti158 : TI := ⟨.func, 1, [.nilf], false⟩
def ti159 : TI := ⟨.func, 1, [.nilf], false⟩
def ti160 : TI := ⟨.func, 1, [.nilf], false⟩
def ti161 : TI := ⟨(.struct [(0, 1), (1, 1)]), 2, [.str [], .int .i64 0], false⟩
def ti162 : TI := ⟨(.struct [(0, 1), (1, 1)]), 2, [.str [], .int .i64 0], true⟩
def ti163 : TI := ⟨.func, 1, [.nilf], false⟩
def ti165 : TI := ⟨.func, 1, [.nilf], false⟩
def ti166 : TI := ⟨.func, 1, [.nilf], false⟩
def ti167 : TI := ⟨.func, 1, [.nilf], false⟩
def ti168 : TI := ⟨.func, 1, [.nilf], false⟩
def ti169 : TI := ⟨.func, 1, [.nilf], false⟩
def ti170 : TI := ⟨.func, 1, [.nilf], false⟩
def ti171 : TI := ⟨.func, 1, [.nilf], false⟩
def ti173 : TI := ⟨.func, 1, [.nilf], false⟩
def ti174 : TI := ⟨.func, 1, [.nilf], false⟩
def ti175 : TI := ⟨.func, 1, [.nilf], false⟩
def ti176 : TI := ⟨.func, 1, [.nilf], false⟩
def ti177 : TI := ⟨(.map 1 false [.int .i64 0]), 1, [.bad], false⟩
def ti178 : TI := ⟨.func, 1, [.nilf], false⟩
def ti180 : TI := ⟨.func, 1, [.nilf], false⟩
def ti182 : TI := ⟨.func, 1, [.nilf], false⟩
def ti184 : TI := ⟨.func, 1, [.nilf], false⟩
def ti185 : TI := ⟨.func, 1, [.nilf], false⟩
def ti186 : TI := ⟨.func, 1, [.nilf], false⟩
def ti187 : TI := ⟨.func, 1, [.nilf], false⟩
def ti188 : TI := ⟨.func, 1, [.nilf], false⟩
def ti189 : TI := ⟨.func, 1, [.nilf], false⟩
def ti190 : TI := ⟨.func, 1, [.nilf], false⟩
def ti191 : TI := ⟨.func, 1, [.nilf], false⟩
def ti192 : TI := ⟨.func, 1, [.nilf], false⟩
def ti194 : TI := ⟨.func, 1, [.nilf], false⟩
def ti195 : TI := ⟨.func, 1, [.nilf], false⟩
def ti196 : TI := ⟨.func, 1, [.nilf], false⟩
def ti197 : TI := ⟨.func, 1, [.nilf], false⟩
def ti198 : TI := ⟨.func, 1, [.nilf], false⟩
def ti199 : TI := ⟨.func, 1, [.nilf], false⟩
def ti200 : TI := ⟨.func, 1, [.nilf], false⟩
def ti201 : TI := ⟨.func, 1, [.nilf], false⟩
def ti202 : TI := ⟨.func, 1, [.nilf], false⟩
def ti203 : TI := ⟨(.slice 1 8 [.int .i64 0] false), 1, [.nil], false⟩
def ti205 : TI := ⟨.func, 1, [.nilf], false⟩
def ti206 : TI := ⟨.func, 1, [.nilf], false⟩
def ti207 : TI := ⟨.func, 1, [.nilf], false⟩
def ti208 : TI := ⟨.func, 1, [.nilf], false⟩
def ti209 : TI := ⟨.func, 1, [.nilf], false⟩
def ti210 : TI := ⟨.func, 1, [.nilf], false⟩
def ti211 : TI := ⟨.func, 1, [.nilf], false⟩
def ti212 : TI := ⟨.func, 1, [.nilf], false⟩
def ti213 : TI := ⟨.func, 1, [.nilf], false⟩
def ti214 : TI := ⟨.func, 1, [.nilf], false⟩
def ti215 : TI := ⟨.func, 1, [.nilf], false⟩
def ti216 : TI := ⟨.func, 1, [.nilf], false⟩
def ti217 : TI := ⟨(.struct [(0, 1), (1, 1)]), 2, [.int .i64 0, .nil], false⟩
def ti218 : TI := ⟨(.struct [(0, 1), (1, 1)]), 2, [.int .i64 0, .nil], false⟩
def ti219 : TI := ⟨(.int .u64), 1, [.int .u64 0], false⟩
def ti220 : TI := ⟨.func, 1, [.nilf], false⟩
def ti221 : TI := ⟨.func, 1, [.nilf], false⟩
def ti222 : TI := ⟨.func, 1, [.nilf], false⟩
def ti223 : TI := ⟨.func, 1, [.nilf], false⟩
def ti224 : TI := ⟨.func, 1, [.nilf], false⟩
def ti226 : TI := ⟨.func, 1, [.nilf], false⟩
def ti227 : TI := ⟨.func, 1, [.nilf], false⟩
def ti228 : TI := ⟨.func, 1, [.nilf], false⟩
def ti229 : TI := ⟨.func, 1, [.nilf], false⟩
def ti230 : TI := ⟨.func, 1, [.nilf], false⟩
def ti231 : TI := ⟨.func, 1, [.nilf], false⟩
def ti232 : TI := ⟨.func, 1, [.nilf], false⟩
def ti233 : TI := ⟨.func, 1, [.nilf], false⟩
def ti235 : TI := ⟨.func, 1, [.nilf], false⟩
def ti236 : TI := ⟨.func, 1, [.nilf], false⟩
def ti238 : TI := ⟨.func, 1, [.nilf], false⟩
def ti239 : TI := ⟨.func, 1, [.nilf], false⟩
def ti240 : TI := ⟨.func, 1, [.nilf], false⟩
def ti241 : TI := ⟨.func, 1, [.nilf], false⟩
def ti242 : TI := ⟨.func, 1, [.nilf], false⟩
def ti243 : TI := ⟨.func, 1, [.nilf], false⟩
def ti244 : TI := ⟨.func, 1, [.nilf], false⟩
def ti245 : TI := ⟨.func, 1, [.nilf], false⟩
def ti246 : TI := ⟨.func, 1, [.nilf], false⟩
def ti247 : TI := ⟨.func, 1, [.nilf], false⟩
def ti248 : TI := ⟨.func, 1, [.nilf], false⟩
def ti249 : TI := ⟨.func, 1, [.nilf], false⟩
def ti250 : TI := ⟨.func, 1, [.nilf], false⟩
def ti251 : TI := ⟨.func, 1, [.nilf], false⟩
def ti252 : TI := ⟨.func, 1, [.nilf], false⟩
def ti253 : TI := ⟨.func, 1, [.nilf], false⟩
def ti254 : TI := ⟨.func, 1, [.nilf], false⟩
def ti255 : TI := ⟨.func, 1, [.nilf], false⟩
def ti256 : TI := ⟨.func, 1, [.nilf], false⟩
def ti257 : TI := ⟨.func, 1, [.nilf], false⟩
def ti258 : TI := ⟨.func, 1, [.nilf], false⟩
def ti259 : TI := ⟨.func, 1, [.nilf], false⟩
def ti260 : TI := ⟨.func, 1, [.nilf], false⟩
def ti261 : TI := ⟨.func, 1, [.nilf], false⟩
def ti262 : TI := ⟨.func, 1, [.nilf], false⟩
def ti263 : TI := ⟨.func, 1, [.nilf], false⟩
def ti264 : TI := ⟨.func, 1, [.nilf], false⟩
def ti265 : TI := ⟨.func, 1, [.nilf], false⟩
def ti266 : TI := ⟨.func, 1, [.nilf], false⟩
def ti267 : TI := ⟨.func, 1, [.nilf], false⟩
def ti268 : TI := ⟨.func, 1, [.nilf], false⟩
def ti269 : TI := ⟨.func, 1, [.nilf], false⟩
def ti270 : TI := ⟨.func, 1, [.nilf], false⟩
def ti271 : TI := ⟨.func, 1, [.nilf], false⟩
def ti272 : TI := ⟨.func, 1, [.nilf], false⟩
def ti273 : TI := ⟨.func, 1, [.nilf], false⟩
def ti275 : TI := ⟨.func, 1, [.nilf], false⟩
def ti276 : TI := ⟨.func, 1, [.nilf], false⟩
def ti277 : TI := ⟨.func, 1, [.nilf], false⟩
def ti278 : TI := ⟨.func, 1, [.nilf], false⟩
def ti279 : TI := ⟨.func, 1, [.nilf], false⟩
def ti280 : TI := ⟨.func, 1, [.nilf], false⟩
def ti281 : TI := ⟨.func, 1, [.nilf], false⟩
def ti282 : TI := ⟨.func, 1, [.nilf], false⟩
def ti283 : TI := ⟨.func, 1, [.nilf], false⟩
def ti284 : TI := ⟨.func, 1, [.nilf], false⟩
def ti285 : TI := ⟨.func, 1, [.nilf], false⟩
def ti286 : TI := ⟨.func, 1, [.nilf], false⟩
def ti287 : TI := ⟨.func, 1, [.nilf], false⟩
def ti289 : TI := ⟨.func, 1, [.nilf], false⟩
def ti290 : TI := ⟨.func, 1, [.nilf], false⟩
def ti291 : TI := ⟨.func, 1, [.nilf], false⟩
def ti292 : TI := ⟨.func, 1, [.nilf], false⟩
def ti293 : TI := ⟨.func, 1, [.nilf], false⟩
def ti294 : TI := ⟨.func, 1, [.nilf], false⟩
def ti295 : TI := ⟨.func, 1, [.nilf], false⟩
def ti296 : TI := ⟨.func, 1, [.nilf], false⟩
def ti297 : TI := ⟨.func, 1, [.nilf], false⟩
def ti298 : TI := ⟨.func, 1, [.nilf], false⟩
def ti299 : TI := ⟨.func, 1, [.nilf], false⟩
def ti300 : TI := ⟨.func, 1, [.nilf], false⟩
def ti301 : TI := ⟨.func, 1, [.nilf], false⟩
def ti302 : TI := ⟨.func, 1, [.nilf], false⟩
def ti303 : TI := ⟨.func, 1, [.nilf], false⟩
def ti304 : TI := ⟨.func, 1, [.nilf], false⟩
def ti305 : TI := ⟨.func, 1, [.nilf], false⟩
def ti306 : TI := ⟨.func, 1, [.nilf], false⟩
def ti307 : TI := ⟨.func, 1, [.nilf], false⟩
def ti308 : TI := ⟨.func, 1, [.nilf], false⟩
def ti309 : TI := ⟨.func, 1, [.nilf], false⟩
def ti310 : TI := ⟨(.struct [(0, 1), (1, 1), (2, 1), (3, 1)]), 4, [.nilp, .nilp, .nilp, .str []], false⟩
def ti311 : TI := ⟨(.struct [(0, 1), (1, 1), (2, 1), (3, 1)]), 4, [.nilp, .nilp, .nilp, .str []], false⟩
def ti315 : TI := ⟨.func, 1, [.nilf], false⟩
def ti316 : TI := ⟨(.int .u32), 1, [.int .u32 0], false⟩
def ti317 : TI := ⟨(.int .u8), 1, [.int .u8 0], false⟩
def ti318 : TI := ⟨(.int .u8), 1, [.int .u8 0], false⟩
def ti319 : TI := ⟨.func, 1, [.nilf], false⟩
def ti320 : TI := ⟨.ptr, 1, [.nilp], false⟩
def ti321 : TI := ⟨(.int .i32), 1, [.int .i32 0], false⟩
def ti322 : TI := ⟨(.int .i32), 1, [.int .i32 0], false⟩
def ti323 : TI := ⟨(.struct [(0, 1), (1, 1), (2, 1), (3, 1), (4, 1), (5, 1), (6, 1), (7, 1), (8, 1), (9, 1), (10, 1)]), 11, [.int .u64 0, .int .u64 0, .int .u32 0, .int .u8 0, .int .u8 0, .int .u8 0, .int .u8 0, .nilf, .nilp, .int .i32 0, .int .i32 0], false⟩
def ti324 : TI := ⟨(.struct [(0, 1), (1, 1), (2, 1), (3, 1), (4, 1), (5, 1), (6, 1), (7, 1), (8, 1), (9, 1), (10, 1)]), 11, [.int .u64 0, .int .u64 0, .int .u32 0, .int .u8 0, .int .u8 0, .int .u8 0, .int .u8 0, .nilf, .nilp, .int .i32 0, .int .i32 0], false⟩
def tTree : Tr TI := (.node 167 ti167 (.node 82 ti82 (.node 38 ti38 (.node 18 ti18 (.node 9 ti9 (.node 5 ti5 (.node 3 ti3 (.node 2 ti2 (.node 1 ti1 .leaf .leaf) .leaf) (.node 4 ti4 .leaf .leaf)) (.node 7 ti7 (.node 6 ti6 .leaf .leaf) (.node 8 ti8 .leaf .leaf))) (.node 14 ti14 (.node 12 ti12 (.node 11 ti11 (.node 10 ti10 .leaf .leaf) .leaf) (.node 13 ti13 .leaf .leaf)) (.node 16 ti16 (.node 15 ti15 .leaf .leaf) (.node 17 ti17 .leaf .leaf)))) (.node 28 ti28 (.node 24 ti24 (.node 22 ti22 (.node 21 ti21 (.node 19 ti19 .leaf .leaf) .leaf) (.node 23 ti23 .leaf .leaf)) (.node 26 ti26 (.node 25 ti25 .leaf .leaf) (.node 27 ti27 .leaf .leaf))) (.node 33 ti33 (.node 31 ti31 (.node 30 ti30 (.node 29 ti29 .leaf .leaf) .leaf) (.node 32 ti32 .leaf .leaf)) (.node 35 ti35 (.node 34 ti34 .leaf .leaf) (.node 37 ti37 .leaf .leaf))))) (.node 60 ti60 (.node 48 ti48 (.node 43 ti43 (.node 41 ti41 (.node 40 ti40 (.node 39 ti39 .leaf .leaf) .leaf) (.node 42 ti42 .leaf .leaf)) (.node 45 ti45 (.node 44 ti44 .leaf .leaf) (.node 47 ti47 .leaf .leaf))) (.node 55 ti55 (.node 52 ti52 (.node 50 ti50 (.node 49 ti49 .leaf .leaf) .leaf) (.node 54 ti54 .leaf .leaf)) (.node 57 ti57 (.node 56 ti56 .leaf .leaf) (.node 58 ti58 .leaf .leaf)))) (.node 70 ti70 (.node 66 ti66 (.node 64 ti64 (.node 63 ti63 (.node 61 ti61 .leaf .leaf) .leaf) (.node 65 ti65 .leaf .leaf)) (.node 68 ti68 (.node 67 ti67 .leaf .leaf) (.node 69 ti69 .leaf .leaf))) (.node 76 ti76 (.node 73 ti73 (.node 72 ti72 (.node 71 ti71 .leaf .leaf) .leaf) (.node 75 ti75 .leaf .leaf)) (.node 79 ti79 (.node 77 ti77 .leaf .leaf) (.node 81 ti81 .leaf .leaf)))))) (.node 124 ti124 (.node 103 ti103 (.node 93 ti93 (.node 89 ti89 (.node 86 ti86 (.node 85 ti85 (.node 83 ti83 .leaf .leaf) .leaf) (.node 87 ti87 .leaf .leaf)) (.node 91 ti91 (.node 90 ti90 .leaf .leaf) (.node 92 ti92 .leaf .leaf))) (.node 98 ti98 (.node 96 ti96 (.node 95 ti95 (.node 94 ti94 .leaf .leaf) .leaf) (.node 97 ti97 .leaf .leaf)) (.node 101 ti101 (.node 99 ti99 .leaf .leaf) (.node 102 ti102 .leaf .leaf)))) (.node 115 ti115 (.node 111 ti111 (.node 108 ti108 (.node 106 ti106 (.node 104 ti104 .leaf .leaf) .leaf) (.node 110 ti110 .leaf .leaf)) (.node 113 ti113 (.node 112 ti112 .leaf .leaf) (.node 114 ti114 .leaf .leaf))) (.node 120 ti120 (.node 118 ti118 (.node 117 ti117 (.node 116 ti116 .leaf .leaf) .leaf) (.node 119 ti119 .leaf .leaf)) (.node 122 ti122 (.node 121 ti121 .leaf .leaf) (.node 123 ti123 .leaf .leaf))))) (.node 147 ti147 (.node 135 ti135 (.node 131 ti131 (.node 128 ti128 (.node 126 ti126 (.node 125 ti125 .leaf .leaf) .leaf) (.node 130 ti130 .leaf .leaf)) (.node 133 ti133 (.node 132 ti132 .leaf .leaf) (.node 134 ti134 .leaf .leaf))) (.node 142 ti142 (.node 139 ti139 (.node 138 ti138 (.node 137 ti137 .leaf .leaf) .leaf) (.node 141 ti141 .leaf .leaf)) (.node 145 ti145 (.node 144 ti144 .leaf .leaf) (.node 146 ti146 .leaf .leaf)))) (.node 157 ti157 (.node 152 ti152 (.node 150 ti150 (.node 149 ti149 (.node 148 ti148 .leaf .leaf) .leaf) (.node 151 ti151 .leaf .leaf)) (.node 154 ti154 (.node 153 ti153 .leaf .leaf) (.node 155 ti155 .leaf .leaf))) (.node 162 ti162 (.node 160 ti160 (.node 159 ti159 (.node 158 ti158 .leaf .leaf) .leaf) (.node 161 ti161 .leaf .leaf)) (.node 165 ti165 (.node 163 ti163 .leaf .leaf) (.node 166 ti166 .leaf .leaf))))))) (.node 248 ti248 (.node 209 ti209 (.node 189 ti189 (.node 177 ti177 (.node 173 ti173 (.node 170 ti170 (.node 169 ti169 (.node 168 ti168 .leaf .leaf) .leaf) (.node 171 ti171 .leaf .leaf)) (.node 175 ti175 (.node 174 ti174 .leaf .leaf) (.node 176 ti176 .leaf .leaf))) (.node 185 ti185 (.node 182 ti182 (.node 180 ti180 (.node 178 ti178 .leaf .leaf) .leaf) (.node 184 ti184 .leaf .leaf)) (.node 187 ti187 (.node 186 ti186 .leaf .leaf) (.node 188 ti188 .leaf .leaf)))) (.node 199 ti199 (.node 195 ti195 (.node 192 ti192 (.node 191 ti191 (.node 190 ti190 .leaf .leaf) .leaf) (.node 194 ti194 .leaf .leaf)) (.node 197 ti197 (.node 196 ti196 .leaf .leaf) (.node 198 ti198 .leaf .leaf))) (.node 205 ti205 (.node 202 ti202 (.node 201 ti201 (.node 200 ti200 .leaf .leaf) .leaf) (.node 203 ti203 .leaf .leaf)) (.node 207 ti207 (.node 206 ti206 .leaf .leaf) (.node 208 ti208 .leaf .leaf))))) (.node 228 ti228 (.node 218 ti218 (.node 214 ti214 (.node 212 ti212 (.node 211 ti211 (.node 210 ti210 .leaf .leaf) .leaf) (.node 213 ti213 .leaf .leaf)) (.node 216 ti216 (.node 215 ti215 .leaf .leaf) (.node 217 ti217 .leaf .leaf))) (.node 223 ti223 (.node 221 ti221 (.node 220 ti220 (.node 219 ti219 .leaf .leaf) .leaf) (.node 222 ti222 .leaf .leaf)) (.node 226 ti226 (.node 224 ti224 .leaf .leaf) (.node 227 ti227 .leaf .leaf)))) (.node 239 ti239 (.node 233 ti233 (.node 231 ti231 (.node 230 ti230 (.node 229 ti229 .leaf .leaf) .leaf) (.node 232 ti232 .leaf .leaf)) (.node 236 ti236 (.node 235 ti235 .leaf .leaf) (.node 238 ti238 .leaf .leaf))) (.node 244 ti244 (.node 242 ti242 (.node 241 ti241 (.node 240 ti240 .leaf .leaf) .leaf) (.node 243 ti243 .leaf .leaf)) (.node 246 ti246 (.node 245 ti245 .leaf .leaf) (.node 247 ti247 .leaf .leaf)))))) (.node 285 ti285 (.node 266 ti266 (.node 257 ti257 (.node 253 ti253 (.node 251 ti251 (.node 250 ti250 (.node 249 ti249 .leaf .leaf) .leaf) (.node 252 ti252 .leaf .leaf)) (.node 255 ti255 (.node 254 ti254 .leaf .leaf) (.node 256 ti256 .leaf .leaf))) (.node 262 ti262 (.node 260 ti260 (.node 259 ti259 (.node 258 ti258 .leaf .leaf) .leaf) (.node 261 ti261 .leaf .leaf)) (.node 264 ti264 (.node 263 ti263 .leaf .leaf) (.node 265 ti265 .leaf .leaf)))) (.node 276 ti276 (.node 271 ti271 (.node 269 ti269 (.node 268 ti268 (.node 267 ti267 .leaf .leaf) .leaf) (.node 270 ti270 .leaf .leaf)) (.node 273 ti273 (.node 272 ti272 .leaf .leaf) (.node 275 ti275 .leaf .leaf))) (.node 281 ti281 (.node 279 ti279 (.node 278 ti278 (.node 277 ti277 .leaf .leaf) .leaf) (.node 280 ti280 .leaf .leaf)) (.node 283 ti283 (.node 282 ti282 .leaf .leaf) (.node 284 ti284 .leaf .leaf))))) (.node 304 ti304 (.node 295 ti295 (.node 291 ti291 (.node 289 ti289 (.node 287 ti287 (.node 286 ti286 .leaf .leaf) .leaf) (.node 290 ti290 .leaf .leaf)) (.node 293 ti293 (.node 292 ti292 .leaf .leaf) (.node 294 ti294 .leaf .leaf))) (.node 300 ti300 (.node 298 ti298 (.node 297 ti297 (.node 296 ti296 .leaf .leaf) .leaf) (.node 299 ti299 .leaf .leaf)) (.node 302 ti302 (.node 301 ti301 .leaf .leaf) (.node 303 ti303 .leaf .leaf)))) (.node 316 ti316 (.node 309 ti309 (.node 307 ti307 (.node 306 ti306 (.node 305 ti305 .leaf .leaf) .leaf) (.node 308 ti308 .leaf .leaf)) (.node 311 ti311 (.node 310 ti310 .leaf .leaf) (.node 315 ti315 .leaf .leaf))) (.node 321 ti321 (.node 319 ti319 (.node 318 ti318 (.node 317 ti317 .leaf .leaf) .leaf) (.node 320 ti320 .leaf .leaf)) (.node 323 ti323 (.node 322 ti322 .leaf .leaf) (.node 324 ti324 .leaf .leaf))))))))
noncomputable def gTree : Tr Func := (.node 144 Go.Proofs.Tryz.f144 (.node 81 Go.Proofs.Tryz.f81 (.node 42 Go.Proofs.Tryz.f42 (.node 27 Go.Proofs.Tryz.f27 (.node 17 Go.Proofs.Tryz.f17 (.node 12 Go.Proofs.Tryz.f12 (.node 10 Go.Proofs.Tryz.f10 (.node 5 Go.Proofs.Tryz.f5 .leaf .leaf) .leaf) (.node 16 Go.Proofs.Tryz.f16 (.node 15 Go.Proofs.Tryz.f15 .leaf .leaf) .leaf)) (.node 21 Go.Proofs.Tryz.f21 (.node 20 Go.Proofs.Tryz.f20 (.node 19 Go.Proofs.Tryz.f19 .leaf .leaf) .leaf) (.node 25 Go.Proofs.Tryz.f25 (.node 23 Go.Proofs.Tryz.f23 .leaf .leaf) .leaf))) (.node 37 Go.Proofs.Tryz.f37 (.node 34 Go.Proofs.Tryz.f34 (.node 32 Go.Proofs.Tryz.f32 (.node 31 Go.Proofs.Tryz.f31 .leaf .leaf) .leaf) (.node 36 Go.Proofs.Tryz.f36 (.node 35 Go.Proofs.Tryz.f35 .leaf .leaf) .leaf)) (.node 40 Go.Proofs.Tryz.f40 (.node 39 Go.Proofs.Tryz.f39 (.node 38 Go.Proofs.Tryz.f38 .leaf .leaf) .leaf) (.node 41 Go.Proofs.Tryz.f41 .leaf .leaf)))) (.node 54 Go.Proofs.Tryz.f54 (.node 49 Go.Proofs.Tryz.f49 (.node 46 Go.Proofs.Tryz.f46 (.node 44 Go.Proofs.Tryz.f44 (.node 43 Go.Proofs.Tryz.f43 .leaf .leaf) .leaf) (.node 48 Go.Proofs.Tryz.f48 (.node 47 Go.Proofs.Tryz.f47 .leaf .leaf) .leaf)) (.node 52 Go.Proofs.Tryz.f52 (.node 51 Go.Proofs.Tryz.f51 (.node 50 Go.Proofs.Tryz.f50 .leaf .leaf) .leaf) (.node 53 Go.Proofs.Tryz.f53 .leaf .leaf))) (.node 76 Go.Proofs.Tryz.f76 (.node 62 Go.Proofs.Tryz.f62 (.node 61 Go.Proofs.Tryz.f61 (.node 55 Go.Proofs.Tryz.f55 .leaf .leaf) .leaf) (.node 65 Go.Proofs.Tryz.f65 (.node 63 Go.Proofs.Tryz.f63 .leaf .leaf) .leaf)) (.node 79 Go.Proofs.Tryz.f79 (.node 78 Go.Proofs.Tryz.f78 (.node 77 Go.Proofs.Tryz.f77 .leaf .leaf) .leaf) (.node 80 Go.Proofs.Tryz.f80 .leaf .leaf))))) (.node 104 Go.Proofs.Tryz.f104 (.node 92 Go.Proofs.Tryz.f92 (.node 87 Go.Proofs.Tryz.f87 (.node 84 Go.Proofs.Tryz.f84 (.node 83 Go.Proofs.Tryz.f83 (.node 82 Go.Proofs.Tryz.f82 .leaf .leaf) .leaf) (.node 86 Go.Proofs.Tryz.f86 (.node 85 Go.Proofs.Tryz.f85 .leaf .leaf) .leaf)) (.node 90 Go.Proofs.Tryz.f90 (.node 89 Go.Proofs.Tryz.f89 (.node 88 Go.Proofs.Tryz.f88 .leaf .leaf) .leaf) (.node 91 Go.Proofs.Tryz.f91 .leaf .leaf))) (.node 99 Go.Proofs.Tryz.f99 (.node 95 Go.Proofs.Tryz.f95 (.node 94 Go.Proofs.Tryz.f94 (.node 93 Go.Proofs.Tryz.f93 .leaf .leaf) .leaf) (.node 98 Go.Proofs.Tryz.f98 (.node 96 Go.Proofs.Tryz.f96 .leaf .leaf) .leaf)) (.node 102 Go.Proofs.Tryz.f102 (.node 101 Go.Proofs.Tryz.f101 (.node 100 Go.Proofs.Tryz.f100 .leaf .leaf) .leaf) (.node 103 Go.Proofs.Tryz.f103 .leaf .leaf)))) (.node 133 Go.Proofs.Tryz.f133 (.node 123 Go.Proofs.Tryz.f123 (.node 107 Go.Proofs.Tryz.f107 (.node 106 Go.Proofs.Tryz.f106 (.node 105 Go.Proofs.Tryz.f105 .leaf .leaf) .leaf) (.node 115 Go.Proofs.Tryz.f115 (.node 108 Go.Proofs.Tryz.f108 .leaf .leaf) .leaf)) (.node 130 Go.Proofs.Tryz.f130 (.node 127 Go.Proofs.Tryz.f127 (.node 124 Go.Proofs.Tryz.f124 .leaf .leaf) .leaf) (.node 132 Go.Proofs.Tryz.f132 .leaf .leaf))) (.node 139 Go.Proofs.Tryz.f139 (.node 136 Go.Proofs.Tryz.f136 (.node 135 Go.Proofs.Tryz.f135 (.node 134 Go.Proofs.Tryz.f134 .leaf .leaf) .leaf) (.node 138 Go.Proofs.Tryz.f138 (.node 137 Go.Proofs.Tryz.f137 .leaf .leaf) .leaf)) (.node 142 Go.Proofs.Tryz.f142 (.node 141 Go.Proofs.Tryz.f141 (.node 140 Go.Proofs.Tryz.f140 .leaf .leaf) .leaf) (.node 143 Go.Proofs.Tryz.f143 .leaf .leaf)))))) (.node 220 Go.Proofs.Tryz.f220 (.node 167 Go.Proofs.Tryz.f167 (.node 156 Go.Proofs.Tryz.f156 (.node 150 Go.Proofs.Tryz.f150 (.node 147 Go.Proofs.Tryz.f147 (.node 146 Go.Proofs.Tryz.f146 (.node 145 Go.Proofs.Tryz.f145 .leaf .leaf) .leaf) (.node 149 Go.Proofs.Tryz.f149 (.node 148 Go.Proofs.Tryz.f148 .leaf .leaf) .leaf)) (.node 153 Go.Proofs.Tryz.f153 (.node 152 Go.Proofs.Tryz.f152 (.node 151 Go.Proofs.Tryz.f151 .leaf .leaf) .leaf) (.node 155 Go.Proofs.Tryz.f155 (.node 154 Go.Proofs.Tryz.f154 .leaf .leaf) .leaf))) (.node 162 Go.Proofs.Tryz.f162 (.node 159 Go.Proofs.Tryz.f159 (.node 158 Go.Proofs.Tryz.f158 (.node 157 Go.Proofs.Tryz.f157 .leaf .leaf) .leaf) (.node 161 Go.Proofs.Tryz.f161 (.node 160 Go.Proofs.Tryz.f160 .leaf .leaf) .leaf)) (.node 165 Go.Proofs.Tryz.f165 (.node 164 Go.Proofs.Tryz.f164 (.node 163 Go.Proofs.Tryz.f163 .leaf .leaf) .leaf) (.node 166 Go.Proofs.Tryz.f166 .leaf .leaf)))) (.node 201 Go.Proofs.Tryz.f201 (.node 174 Go.Proofs.Tryz.f174 (.node 171 Go.Proofs.Tryz.f171 (.node 170 Go.Proofs.Tryz.f170 (.node 168 Go.Proofs.Tryz.f168 .leaf .leaf) .leaf) (.node 173 Go.Proofs.Tryz.f173 (.node 172 Go.Proofs.Tryz.f172 .leaf .leaf) .leaf)) (.node 177 Go.Proofs.Tryz.f177 (.node 176 Go.Proofs.Tryz.f176 (.node 175 Go.Proofs.Tryz.f175 .leaf .leaf) .leaf) (.node 188 Go.Proofs.Tryz.f188 .leaf .leaf))) (.node 215 Go.Proofs.Tryz.f215 (.node 212 Go.Proofs.Tryz.f212 (.node 211 Go.Proofs.Tryz.f211 (.node 208 Go.Proofs.Tryz.f208 .leaf .leaf) .leaf) (.node 214 Go.Proofs.Tryz.f214 (.node 213 Go.Proofs.Tryz.f213 .leaf .leaf) .leaf)) (.node 218 Go.Proofs.Tryz.f218 (.node 217 Go.Proofs.Tryz.f217 (.node 216 Go.Proofs.Tryz.f216 .leaf .leaf) .leaf) (.node 219 Go.Proofs.Tryz.f219 .leaf .leaf))))) (.node 243 Go.Proofs.Tryz.f243 (.node 231 Go.Proofs.Tryz.f231 (.node 226 Go.Proofs.Tryz.f226 (.node 223 Go.Proofs.Tryz.f223 (.node 222 Go.Proofs.Tryz.f222 (.node 221 Go.Proofs.Tryz.f221 .leaf .leaf) .leaf) (.node 225 Go.Proofs.Tryz.f225 (.node 224 Go.Proofs.Tryz.f224 .leaf .leaf) .leaf)) (.node 229 Go.Proofs.Tryz.f229 (.node 228 Go.Proofs.Tryz.f228 (.node 227 Go.Proofs.Tryz.f227 .leaf .leaf) .leaf) (.node 230 Go.Proofs.Tryz.f230 .leaf .leaf))) (.node 238 Go.Proofs.Tryz.f238 (.node 235 Go.Proofs.Tryz.f235 (.node 234 Go.Proofs.Tryz.f234 (.node 232 Go.Proofs.Tryz.f232 .leaf .leaf) .leaf) (.node 237 Go.Proofs.Tryz.f237 (.node 236 Go.Proofs.Tryz.f236 .leaf .leaf) .leaf)) (.node 241 Go.Proofs.Tryz.f241 (.node 240 Go.Proofs.Tryz.f240 (.node 239 Go.Proofs.Tryz.f239 .leaf .leaf) .leaf) (.node 242 Go.Proofs.Tryz.f242 .leaf .leaf)))) (.node 278 Go.Proofs.Tryz.f278 (.node 259 Go.Proofs.Tryz.f259 (.node 248 Go.Proofs.Tryz.f248 (.node 247 Go.Proofs.Tryz.f247 (.node 244 Go.Proofs.Tryz.f244 .leaf .leaf) .leaf) (.node 257 Go.Proofs.Tryz.f257 (.node 254 Go.Proofs.Tryz.f254 .leaf .leaf) .leaf)) (.node 271 Go.Proofs.Tryz.f271 (.node 264 Go.Proofs.Tryz.f264 (.node 263 Go.Proofs.Tryz.f263 .leaf .leaf) .leaf) (.node 272 Go.Proofs.Tryz.f272 .leaf .leaf))) (.node 284 Go.Proofs.Tryz.f284 (.node 281 Go.Proofs.Tryz.f281 (.node 280 Go.Proofs.Tryz.f280 (.node 279 Go.Proofs.Tryz.f279 .leaf .leaf) .leaf) (.node 283 Go.Proofs.Tryz.f283 (.node 282 Go.Proofs.Tryz.f282 .leaf .leaf) .leaf)) (.node 289 Go.Proofs.Tryz.f289 (.node 288 Go.Proofs.Tryz.f288 (.node 287 Go.Proofs.Tryz.f287 .leaf .leaf) .leaf) (.node 290 Go.Proofs.Tryz.f290 .leaf .leaf)))))))
def dr5 : Tr (List HOp) := (.node 5 [⟨1, 0, 0, [5], []⟩, ⟨3, 0, 0, [49], []⟩, ⟨1, 0, 1, [6], []⟩, ⟨3, 0, 0, [51], []⟩, ⟨2, 0, 0, [], []⟩, ⟨2, 0, 0, [], []⟩, ⟨3, 0, 0, [8, 50], [4, 5]⟩, ⟨3, 0, 0, [9, 52], []⟩] .leaf .leaf)
def dr10 : Tr (List HOp) := (.node 10 [⟨1, 0, 0, [3], []⟩, ⟨0, 0, 0, [1], []⟩, ⟨0, 0, 0, [14], []⟩, ⟨1, 0, 0, [49, 50], []⟩, ⟨3, 0, 0, [48, 51], []⟩, ⟨0, 0, 0, [52], []⟩, ⟨0, 0, 0, [47], []⟩, ⟨0, 0, 0, [47], []⟩, ⟨0, 0, 0, [47], []⟩, ⟨0, 0, 0, [53], []⟩, ⟨0, 0, 0, [54], []⟩, ⟨0, 0, 0, [55], []⟩] (.node 4 [⟨1, 0, 0, [3], []⟩, ⟨0, 0, 0, [9], []⟩, ⟨0, 0, 0, [33], []⟩, ⟨1, 0, 0, [34], []⟩, ⟨3, 0, 0, [32, 35], []⟩, ⟨0, 0, 0, [36], []⟩, ⟨0, 0, 0, [37], []⟩] .leaf .leaf) .leaf)
def dr12 : Tr (List HOp) := (.node 9 [⟨1, 0, 0, [2], []⟩, ⟨0, 0, 0, [7], []⟩, ⟨0, 0, 0, [1], []⟩, ⟨0, 0, 0, [9], []⟩, ⟨0, 0, 0, [35, 36], []⟩, ⟨1, 0, 0, [37], []⟩, ⟨3, 0, 0, [33, 34, 38], []⟩, ⟨0, 0, 0, [39], []⟩] (.node 7 [⟨1, 0, 0, [2], []⟩, ⟨0, 0, 0, [7], []⟩, ⟨0, 0, 0, [28], []⟩, ⟨1, 0, 0, [29], []⟩, ⟨3, 0, 0, [27, 30], []⟩, ⟨0, 0, 0, [31], []⟩] (.node 3 [⟨1, 0, 0, [2], []⟩, ⟨3, 0, 0, [15], []⟩, ⟨0, 0, 0, [2], []⟩, ⟨1, 0, 1, [17], []⟩, ⟨0, 0, 0, [18], []⟩, ⟨0, 0, 0, [19], []⟩, ⟨0, 0, 0, [16], []⟩, ⟨0, 0, 0, [20], []⟩] .leaf .leaf) .leaf) (.node 12 [⟨0, 0, 0, [8], []⟩, ⟨1, 0, 0, [2], []⟩, ⟨0, 0, 0, [7], []⟩, ⟨0, 0, 0, [1], []⟩, ⟨0, 0, 0, [9], []⟩, ⟨0, 0, 0, [46, 47], []⟩, ⟨1, 0, 0, [48], []⟩, ⟨3, 0, 0, [44, 45, 49], []⟩, ⟨0, 0, 0, [43, 50], []⟩, ⟨0, 0, 0, [51], []⟩] .leaf .leaf))
def dr15 : Tr (List HOp) := .leaf
def dr16 : Tr (List HOp) := (.node 3 [⟨0, 0, 0, [11], []⟩, ⟨0, 0, 0, [25], []⟩, ⟨0, 0, 0, [26], []⟩, ⟨0, 0, 0, [9, 27], []⟩, ⟨1, 0, 0, [28, 27], []⟩, ⟨0, 0, 0, [2, 27], []⟩, ⟨0, 0, 0, [29, 30, 27], []⟩, ⟨1, 0, 0, [31, 27], []⟩, ⟨0, 0, 0, [10, 27], []⟩, ⟨0, 0, 0, [1, 27], []⟩, ⟨0, 0, 0, [8, 27], []⟩, ⟨0, 0, 0, [34, 35, 27], []⟩, ⟨1, 0, 0, [36, 27], []⟩, ⟨3, 0, 0, [32, 33, 37, 27], []⟩, ⟨0, 0, 0, [27, 38], []⟩] (.node 2 [⟨1, 0, 0, [3], []⟩, ⟨0, 0, 0, [1], []⟩, ⟨0, 0, 0, [8], []⟩, ⟨1, 0, 0, [17, 18], []⟩, ⟨0, 0, 0, [2], []⟩, ⟨3, 0, 0, [16, 19, 20], []⟩, ⟨0, 0, 0, [21], []⟩, ⟨0, 0, 0, [15], []⟩, ⟨0, 0, 0, [15], []⟩, ⟨0, 0, 0, [15], []⟩, ⟨2, 0, 0, [], []⟩, ⟨3, 0, 0, [9, 22], [10]⟩, ⟨0, 0, 0, [23], []⟩, ⟨0, 0, 0, [24], []⟩] .leaf .leaf) (.node 5 [⟨1, 0, 1, [9], []⟩, ⟨0, 0, 0, [2], []⟩, ⟨0, 0, 0, [10], []⟩, ⟨0, 0, 0, [1], []⟩, ⟨0, 0, 0, [8], []⟩, ⟨0, 0, 0, [46, 47], []⟩, ⟨1, 0, 0, [48], []⟩, ⟨3, 0, 0, [49], []⟩, ⟨3, 0, 0, [43, 44, 45, 50], []⟩, ⟨0, 0, 0, [51], []⟩, ⟨0, 0, 0, [42], []⟩, ⟨0, 0, 0, [42], []⟩, ⟨3, 0, 0, [9, 52], []⟩, ⟨0, 0, 0, [53], []⟩] .leaf .leaf))
def dr17 : Tr (List HOp) := (.node 3 [⟨0, 0, 0, [12], []⟩, ⟨0, 0, 0, [27], []⟩, ⟨0, 0, 0, [28], []⟩, ⟨0, 0, 0, [10, 29], []⟩, ⟨1, 0, 0, [30, 29], []⟩, ⟨0, 0, 0, [2, 29], []⟩, ⟨0, 0, 0, [31, 32, 29], []⟩, ⟨1, 0, 0, [33, 29], []⟩, ⟨0, 0, 0, [11, 29], []⟩, ⟨0, 0, 0, [1, 29], []⟩, ⟨0, 0, 0, [9, 29], []⟩, ⟨0, 0, 0, [36, 37, 29], []⟩, ⟨1, 0, 0, [38, 29], []⟩, ⟨3, 0, 0, [34, 35, 39, 29], []⟩, ⟨0, 0, 0, [40, 29], []⟩, ⟨0, 0, 0, [29, 41], []⟩] (.node 2 [⟨1, 0, 0, [3], []⟩, ⟨0, 0, 0, [1], []⟩, ⟨0, 0, 0, [9], []⟩, ⟨1, 0, 0, [19, 20], []⟩, ⟨0, 0, 0, [2], []⟩, ⟨3, 0, 0, [18, 21, 22], []⟩, ⟨0, 0, 0, [23], []⟩, ⟨0, 0, 0, [17], []⟩, ⟨0, 0, 0, [17], []⟩, ⟨0, 0, 0, [17], []⟩, ⟨2, 0, 0, [], []⟩, ⟨3, 0, 0, [10, 24], [10]⟩, ⟨0, 0, 0, [25], []⟩, ⟨0, 0, 0, [26], []⟩] .leaf .leaf) (.node 5 [⟨0, 0, 0, [10], []⟩, ⟨1, 0, 1, [46], []⟩, ⟨0, 0, 0, [2], []⟩, ⟨0, 0, 0, [47, 48], []⟩, ⟨1, 0, 1, [49], []⟩, ⟨0, 0, 0, [11], []⟩, ⟨0, 0, 0, [1], []⟩, ⟨0, 0, 0, [9], []⟩, ⟨0, 0, 0, [52, 53], []⟩, ⟨1, 0, 0, [54], []⟩, ⟨3, 0, 0, [55], []⟩, ⟨3, 0, 0, [50, 51, 56], []⟩, ⟨0, 0, 0, [57], []⟩, ⟨0, 0, 0, [45], []⟩, ⟨0, 0, 0, [45], []⟩, ⟨2, 0, 0, [], []⟩, ⟨3, 0, 0, [13, 58], [15]⟩, ⟨0, 0, 0, [59], []⟩] .leaf .leaf))
def dr19 : Tr (List HOp) := (.node 5 [⟨0, 0, 0, [3], []⟩, ⟨0, 0, 0, [31], []⟩, ⟨0, 0, 0, [32], []⟩, ⟨0, 0, 0, [6, 33], []⟩, ⟨0, 0, 0, [34, 33], []⟩, ⟨0, 0, 0, [33, 35], []⟩, ⟨0, 0, 0, [36], []⟩, ⟨0, 0, 0, [9, 37], []⟩, ⟨0, 0, 0, [38, 37], []⟩, ⟨0, 0, 0, [37, 39], []⟩, ⟨0, 0, 0, [40], []⟩, ⟨0, 0, 0, [8, 41], []⟩, ⟨0, 0, 0, [41, 42], []⟩, ⟨0, 0, 0, [43], []⟩, ⟨1, 0, 0, [7, 44], []⟩, ⟨3, 0, 0, [45, 44], []⟩, ⟨1, 0, 1, [1, 44], []⟩, ⟨3, 0, 0, [47, 44], []⟩, ⟨3, 0, 0, [46, 48, 44], []⟩, ⟨0, 0, 0, [44, 49], []⟩, ⟨0, 0, 0, [50], []⟩, ⟨3, 0, 0, [51], []⟩, ⟨0, 0, 0, [52, 51], []⟩, ⟨0, 0, 0, [51, 53], []⟩, ⟨0, 0, 0, [54], []⟩] .leaf .leaf)
def dr20 : Tr (List HOp) := (.node 3 [⟨1, 0, 1, [1], []⟩, ⟨0, 0, 0, [1], []⟩, ⟨0, 0, 0, [9], []⟩, ⟨1, 0, 1, [10], []⟩, ⟨0, 0, 0, [11], []⟩, ⟨1, 0, 0, [1], []⟩, ⟨3, 0, 0, [13], []⟩, ⟨3, 0, 0, [8, 12, 14], []⟩, ⟨3, 0, 0, [2, 15], []⟩] .leaf .leaf)
def dr21 : Tr (List HOp) := .leaf
def dr23 : Tr (List HOp) := (.node 8 [⟨0, 0, 0, [6], []⟩, ⟨1, 0, 0, [8], []⟩, ⟨0, 0, 0, [37], []⟩, ⟨3, 0, 0, [5, 38], []⟩] (.node 4 [⟨0, 0, 0, [6], []⟩, ⟨1, 0, 0, [8], []⟩, ⟨0, 0, 0, [24], []⟩, ⟨3, 0, 0, [5, 25], []⟩] .leaf .leaf) .leaf)
def dr25 : Tr (List HOp) := (.node 3 [⟨0, 0, 0, [2], []⟩, ⟨1, 0, 0, [20], []⟩, ⟨0, 0, 0, [3], []⟩, ⟨1, 0, 0, [22], []⟩, ⟨0, 0, 0, [21, 23], []⟩, ⟨1, 0, 0, [24], []⟩, ⟨0, 0, 0, [3], []⟩, ⟨1, 0, 0, [26], []⟩, ⟨3, 0, 0, [25, 27], []⟩, ⟨0, 0, 0, [28], []⟩, ⟨0, 0, 0, [19], []⟩, ⟨0, 0, 0, [19], []⟩, ⟨2, 0, 0, [], []⟩, ⟨3, 0, 0, [5, 29], [12]⟩, ⟨0, 0, 0, [30], []⟩] .leaf .leaf)
def dr27 : Tr (List HOp) := .leaf
def dr31 : Tr (List HOp) := .leaf
def dr32 : Tr (List HOp) := (.node 6 [⟨0, 0, 0, [2], []⟩, ⟨1, 0, 0, [41], []⟩, ⟨0, 0, 0, [5], []⟩, ⟨0, 0, 0, [42, 43], []⟩, ⟨1, 0, 0, [44], []⟩, ⟨0, 0, 0, [3], []⟩, ⟨1, 0, 0, [46], []⟩, ⟨0, 0, 0, [5], []⟩, ⟨0, 0, 0, [47, 48], []⟩, ⟨1, 0, 0, [49], []⟩, ⟨3, 0, 0, [45, 50], []⟩, ⟨0, 0, 0, [51], []⟩] .leaf .leaf)
def dr34 : Tr (List HOp) := (.node 7 [⟨0, 0, 0, [6], []⟩, ⟨1, 0, 1, [29], []⟩, ⟨0, 0, 0, [1], []⟩, ⟨0, 0, 0, [7], []⟩, ⟨0, 0, 0, [31, 32], []⟩, ⟨1, 0, 0, [33], []⟩, ⟨3, 0, 0, [34], []⟩, ⟨2, 0, 0, [35], []⟩, ⟨3, 0, 0, [30, 36], [7]⟩, ⟨0, 0, 0, [6], []⟩, ⟨3, 0, 0, [38, 37], []⟩] (.node 3 [⟨2, 0, 0, [], []⟩, ⟨0, 0, 0, [2], []⟩, ⟨1, 0, 0, [16], []⟩, ⟨3, 0, 0, [15, 17], [0]⟩, ⟨0, 0, 0, [2], []⟩, ⟨1, 0, 1, [19], []⟩, ⟨0, 0, 0, [18, 20], []⟩, ⟨0, 0, 0, [21], []⟩, ⟨2, 0, 0, [], []⟩, ⟨3, 0, 0, [6, 22], [8]⟩] .leaf .leaf) .leaf)
def dr35 : Tr (List HOp) := .leaf
def dr36 : Tr (List HOp) := (.node 4 [⟨1, 0, 0, [2], []⟩, ⟨0, 0, 0, [1], []⟩, ⟨0, 0, 0, [5], []⟩, ⟨0, 0, 0, [14, 15], []⟩, ⟨1, 0, 0, [16], []⟩, ⟨3, 0, 0, [13, 17], []⟩, ⟨0, 0, 0, [18], []⟩, ⟨0, 0, 0, [12], []⟩, ⟨0, 0, 0, [12], []⟩, ⟨0, 0, 0, [12], []⟩, ⟨3, 0, 0, [2, 19], []⟩] .leaf .leaf)
def dr37 : Tr (List HOp) := (.node 7 [⟨1, 0, 0, [2], []⟩, ⟨0, 0, 0, [4], []⟩, ⟨0, 0, 0, [26], []⟩, ⟨1, 0, 0, [27], []⟩, ⟨3, 0, 0, [25, 28], []⟩, ⟨0, 0, 0, [29], []⟩] (.node 3 [⟨1, 0, 0, [2], []⟩, ⟨3, 0, 0, [13], []⟩, ⟨0, 0, 0, [2], []⟩, ⟨1, 0, 1, [15], []⟩, ⟨0, 0, 0, [16], []⟩, ⟨0, 0, 0, [17], []⟩, ⟨0, 0, 0, [14], []⟩, ⟨0, 0, 0, [18], []⟩] .leaf .leaf) .leaf)
def dr38 : Tr (List HOp) := .leaf
def dr39 : Tr (List HOp) := (.node 8 [⟨0, 0, 0, [5], []⟩, ⟨1, 0, 0, [37], []⟩, ⟨0, 0, 0, [13], []⟩, ⟨0, 0, 0, [39], []⟩, ⟨1, 0, 0, [40], []⟩, ⟨3, 0, 0, [38, 41], []⟩, ⟨0, 0, 0, [42], []⟩, ⟨0, 0, 0, [36], []⟩, ⟨0, 0, 0, [36], []⟩, ⟨0, 0, 0, [43], []⟩, ⟨0, 0, 0, [44], []⟩] (.node 6 [⟨1, 0, 0, [5], []⟩, ⟨0, 0, 0, [15], []⟩, ⟨1, 0, 1, [33], []⟩, ⟨3, 0, 0, [10, 32], []⟩, ⟨0, 0, 0, [34], []⟩, ⟨0, 0, 0, [], []⟩] .leaf .leaf) (.node 9 [⟨1, 0, 1, [5], []⟩, ⟨0, 0, 0, [2], []⟩, ⟨0, 0, 0, [3], []⟩, ⟨0, 0, 0, [4], []⟩, ⟨1, 0, 0, [5], []⟩, ⟨0, 0, 0, [13], []⟩, ⟨0, 0, 0, [50], []⟩, ⟨1, 0, 0, [51], []⟩, ⟨3, 0, 0, [49, 52], []⟩, ⟨0, 0, 0, [53], []⟩, ⟨0, 0, 0, [54], []⟩, ⟨0, 0, 0, [16], []⟩, ⟨3, 0, 0, [45, 46, 47, 48, 55, 56], []⟩, ⟨0, 0, 0, [57], []⟩, ⟨0, 0, 0, [57], []⟩, ⟨0, 0, 0, [57], []⟩, ⟨3, 0, 0, [10, 58], []⟩, ⟨0, 0, 0, [59], []⟩, ⟨0, 0, 0, [60], []⟩] .leaf .leaf))
def dr40 : Tr (List HOp) := (.node 1 [⟨0, 0, 0, [6], []⟩, ⟨1, 0, 0, [19], []⟩, ⟨0, 0, 0, [1], []⟩, ⟨0, 0, 0, [20, 21], []⟩, ⟨1, 0, 0, [22], []⟩, ⟨0, 0, 0, [2], []⟩, ⟨0, 0, 0, [3], []⟩, ⟨1, 0, 0, [10], []⟩, ⟨3, 0, 0, [23, 24, 25, 26], []⟩, ⟨0, 0, 0, [27], []⟩, ⟨0, 0, 0, [18], []⟩, ⟨0, 0, 0, [18], []⟩, ⟨0, 0, 0, [18], []⟩, ⟨2, 0, 0, [], []⟩, ⟨3, 0, 0, [15, 28], [13]⟩, ⟨0, 0, 0, [29], []⟩, ⟨0, 0, 0, [30], []⟩] .leaf .leaf)
def dr41 : Tr (List HOp) := .leaf
def dr42 : Tr (List HOp) := .leaf
def dr43 : Tr (List HOp) := .leaf
def dr44 : Tr (List HOp) := .leaf
def dr46 : Tr (List HOp) := (.node 1 [⟨1, 0, 1, [3], []⟩, ⟨0, 0, 0, [1], []⟩, ⟨0, 0, 0, [2], []⟩, ⟨3, 0, 0, [9], []⟩, ⟨3, 0, 0, [7, 8, 10], []⟩, ⟨0, 0, 0, [11], []⟩] .leaf .leaf)
def dr47 : Tr (List HOp) := .leaf
def dr48 : Tr (List HOp) := .leaf
def dr49 : Tr (List HOp) := (.node 7 [⟨1, 0, 1, [3], []⟩, ⟨1, 0, 0, [8], []⟩, ⟨0, 0, 0, [2], []⟩, ⟨3, 0, 0, [32, 33], []⟩, ⟨3, 0, 0, [31, 34], []⟩, ⟨3, 0, 0, [3, 35], []⟩] .leaf .leaf)
def dr50 : Tr (List HOp) := .leaf
def dr51 : Tr (List HOp) := .leaf
def dr52 : Tr (List HOp) := (.node 14 [⟨1, 0, 0, [3], []⟩, ⟨0, 0, 0, [2], []⟩, ⟨0, 0, 0, [11], []⟩, ⟨0, 0, 0, [12], []⟩, ⟨0, 0, 0, [70, 71], []⟩, ⟨1, 0, 0, [72], []⟩, ⟨3, 0, 0, [68, 69, 73], []⟩, ⟨0, 0, 0, [74], []⟩] (.node 7 [⟨1, 0, 0, [3], []⟩, ⟨0, 0, 0, [2], []⟩, ⟨0, 0, 0, [48], []⟩, ⟨1, 0, 0, [49], []⟩, ⟨3, 0, 0, [47, 50], []⟩, ⟨0, 0, 0, [51], []⟩] (.node 1 [⟨1, 0, 0, [3], []⟩, ⟨0, 0, 0, [2], []⟩, ⟨0, 0, 0, [18], []⟩, ⟨1, 0, 0, [19], []⟩, ⟨3, 0, 0, [17, 20], []⟩, ⟨0, 0, 0, [21], []⟩, ⟨0, 0, 0, [16], []⟩, ⟨0, 0, 0, [16], []⟩, ⟨2, 0, 0, [], []⟩, ⟨0, 0, 0, [22], []⟩, ⟨3, 0, 0, [8, 23], [8]⟩] .leaf .leaf) .leaf) (.node 16 [⟨1, 0, 0, [8], []⟩, ⟨0, 0, 0, [11], []⟩, ⟨0, 0, 0, [12], []⟩, ⟨0, 0, 0, [84, 85], []⟩, ⟨1, 0, 0, [86], []⟩, ⟨0, 0, 0, [14], []⟩, ⟨3, 0, 0, [83, 87, 88], []⟩, ⟨3, 0, 0, [8, 89], []⟩] (.node 15 [⟨1, 0, 0, [3], []⟩, ⟨0, 0, 0, [13], []⟩, ⟨0, 0, 0, [77], []⟩, ⟨1, 0, 0, [78], []⟩, ⟨3, 0, 0, [76, 79], []⟩, ⟨0, 0, 0, [80], []⟩, ⟨0, 0, 0, [75], []⟩, ⟨0, 0, 0, [75], []⟩, ⟨2, 0, 0, [], []⟩, ⟨0, 0, 0, [81], []⟩, ⟨3, 0, 0, [15, 82], [8]⟩] .leaf .leaf) .leaf))
def dr53 : Tr (List HOp) := .leaf
def dr54 : Tr (List HOp) := (.node 4 [⟨0, 0, 0, [2], []⟩, ⟨1, 0, 0, [14], []⟩, ⟨0, 0, 0, [6], []⟩, ⟨0, 0, 0, [15, 16], []⟩, ⟨0, 0, 0, [17], []⟩, ⟨1, 0, 0, [18], []⟩, ⟨1, 0, 0, [3], []⟩, ⟨0, 0, 0, [19, 20], []⟩] .leaf .leaf)
def dr55 : Tr (List HOp) := .leaf
def dr61 : Tr (List HOp) := (.node 3 [⟨0, 0, 0, [2], []⟩, ⟨1, 0, 0, [20], []⟩, ⟨0, 0, 0, [3], []⟩, ⟨1, 0, 0, [22], []⟩, ⟨0, 0, 0, [21, 23], []⟩, ⟨1, 0, 0, [24], []⟩, ⟨0, 0, 0, [3], []⟩, ⟨1, 0, 0, [26], []⟩, ⟨3, 0, 0, [25, 27], []⟩, ⟨0, 0, 0, [28], []⟩, ⟨0, 0, 0, [19], []⟩, ⟨0, 0, 0, [19], []⟩, ⟨2, 0, 0, [], []⟩, ⟨3, 0, 0, [5, 29], [12]⟩, ⟨0, 0, 0, [30], []⟩] .leaf .leaf)
def dr62 : Tr (List HOp) := (.node 6 [⟨0, 0, 0, [0], []⟩, ⟨0, 0, 0, [5], []⟩, ⟨0, 0, 0, [17, 18], []⟩, ⟨1, 0, 0, [19], []⟩, ⟨0, 0, 0, [1], []⟩, ⟨0, 0, 0, [5], []⟩, ⟨0, 0, 0, [21, 22], []⟩, ⟨1, 0, 0, [23], []⟩, ⟨0, 0, 0, [20, 24], []⟩] .leaf .leaf)
def dr63 : Tr (List HOp) := (.node 1 [⟨0, 0, 0, [2], []⟩, ⟨1, 0, 0, [5], []⟩, ⟨0, 0, 0, [3], []⟩, ⟨1, 0, 0, [7], []⟩, ⟨0, 0, 0, [6, 8], []⟩, ⟨0, 0, 0, [9], []⟩, ⟨1, 0, 0, [2, 10], []⟩, ⟨0, 0, 0, [2, 10], []⟩, ⟨1, 0, 0, [12, 10], []⟩, ⟨3, 0, 0, [11, 13, 10], []⟩, ⟨1, 1, 2, [14, 10], []⟩, ⟨1, 0, 1, [3, 10], []⟩, ⟨0, 0, 0, [3, 10], []⟩, ⟨1, 0, 1, [17, 10], []⟩, ⟨3, 0, 0, [16, 18, 10], []⟩, ⟨1, 2, 2, [19, 10], []⟩, ⟨0, 0, 0, [15, 20, 10], []⟩, ⟨0, 0, 0, [10, 21], []⟩, ⟨0, 0, 0, [22], []⟩] .leaf .leaf)
def dr65 : Tr (List HOp) := .leaf
def dr76 : Tr (List HOp) := .leaf
def dr77 : Tr (List HOp) := .leaf
def dr78 : Tr (List HOp) := .leaf
def dr79 : Tr (List HOp) := .leaf
def dr80 : Tr (List HOp) := .leaf
def dr81 : Tr (List HOp) := .leaf
def dr82 : Tr (List HOp) := (.node 27 [⟨1, 0, 0, [11], []⟩, ⟨1, 0, 1, [12], []⟩, ⟨0, 0, 0, [10], []⟩, ⟨3, 0, 0, [6, 118], []⟩, ⟨3, 0, 0, [7, 119], []⟩, ⟨0, 0, 0, [120], []⟩] (.node 26 [⟨0, 0, 0, [12], []⟩, ⟨1, 0, 0, [107], []⟩, ⟨0, 0, 0, [9], []⟩, ⟨1, 0, 0, [109], []⟩, ⟨0, 0, 0, [13], []⟩, ⟨0, 0, 0, [110, 111], []⟩, ⟨0, 0, 0, [112], []⟩, ⟨1, 0, 0, [113], []⟩, ⟨2, 0, 0, [114], []⟩, ⟨3, 0, 0, [108, 115], [8]⟩, ⟨0, 0, 0, [12], []⟩, ⟨3, 0, 0, [117, 116], []⟩] .leaf .leaf) .leaf)
def dr83 : Tr (List HOp) := .leaf
def dr84 : Tr (List HOp) := .leaf
def dr85 : Tr (List HOp) := .leaf
def dr86 : Tr (List HOp) := .leaf
def dr87 : Tr (List HOp) := .leaf
def dr88 : Tr (List HOp) := (.node 11 [⟨1, 0, 1, [1], []⟩, ⟨1, 0, 0, [1], []⟩, ⟨3, 0, 0, [49], []⟩, ⟨0, 0, 0, [3], []⟩, ⟨3, 0, 0, [48, 50, 51], []⟩, ⟨0, 0, 0, [52], []⟩] (.node 3 [⟨1, 0, 1, [1], []⟩, ⟨1, 0, 0, [1], []⟩, ⟨3, 0, 0, [18], []⟩, ⟨3, 0, 0, [17, 19], []⟩, ⟨0, 0, 0, [20], []⟩, ⟨0, 0, 0, [16], []⟩, ⟨0, 0, 0, [16], []⟩, ⟨0, 0, 0, [21], []⟩, ⟨0, 0, 0, [22], []⟩] .leaf .leaf) .leaf)
def dr89 : Tr (List HOp) := .leaf
def dr90 : Tr (List HOp) := .leaf
def dr91 : Tr (List HOp) := .leaf
def dr92 : Tr (List HOp) := .leaf
def dr93 : Tr (List HOp) := (.node 10 [⟨1, 0, 1, [4], []⟩, ⟨1, 0, 0, [11], []⟩, ⟨0, 0, 0, [2], []⟩, ⟨0, 0, 0, [16], []⟩, ⟨3, 0, 0, [64, 65, 66], []⟩, ⟨3, 0, 0, [63, 67], []⟩, ⟨3, 0, 0, [4, 68], []⟩] .leaf .leaf)
def dr94 : Tr (List HOp) := .leaf
def dr95 : Tr (List HOp) := .leaf
def dr96 : Tr (List HOp) := (.node 18 [⟨0, 0, 0, [8], []⟩, ⟨0, 0, 0, [11], []⟩, ⟨1, 0, 0, [89], []⟩, ⟨0, 0, 0, [88], []⟩, ⟨0, 0, 0, [90], []⟩] (.node 15 [⟨0, 0, 0, [8], []⟩, ⟨0, 0, 0, [11], []⟩, ⟨1, 0, 0, [78], []⟩, ⟨0, 0, 0, [79], []⟩, ⟨0, 0, 0, [77], []⟩, ⟨0, 0, 0, [80], []⟩] (.node 7 [⟨0, 0, 0, [3], []⟩, ⟨1, 0, 0, [34], []⟩, ⟨0, 0, 0, [11], []⟩, ⟨1, 0, 0, [36], []⟩, ⟨0, 0, 0, [35, 37], []⟩, ⟨1, 0, 0, [38], []⟩, ⟨0, 0, 0, [11], []⟩, ⟨1, 0, 0, [40], []⟩, ⟨3, 0, 0, [39, 41], []⟩, ⟨0, 0, 0, [42], []⟩, ⟨0, 0, 0, [33], []⟩, ⟨0, 0, 0, [33], []⟩, ⟨2, 0, 0, [], []⟩, ⟨3, 0, 0, [12, 43], [12]⟩, ⟨0, 0, 0, [44], []⟩] .leaf .leaf) .leaf) (.node 20 [⟨0, 0, 0, [8], []⟩, ⟨0, 0, 0, [11], []⟩, ⟨1, 0, 0, [96], []⟩, ⟨0, 0, 0, [95], []⟩, ⟨0, 0, 0, [97], []⟩] .leaf .leaf))
def dr98 : Tr (List HOp) := .leaf
def dr99 : Tr (List HOp) := .leaf
def dr100 : Tr (List HOp) := .leaf
def dr101 : Tr (List HOp) := (.node 6 [⟨0, 0, 0, [2], []⟩, ⟨1, 0, 1, [24], []⟩, ⟨0, 0, 0, [5], []⟩, ⟨1, 0, 0, [3], []⟩, ⟨3, 0, 0, [27], []⟩, ⟨2, 0, 0, [28], []⟩, ⟨3, 0, 0, [25, 26, 29], [5]⟩, ⟨0, 0, 0, [2], []⟩, ⟨3, 0, 0, [31, 30], []⟩] (.node 4 [⟨0, 0, 0, [2], []⟩, ⟨1, 0, 1, [17], []⟩, ⟨0, 0, 0, [5], []⟩, ⟨1, 0, 0, [3], []⟩, ⟨3, 0, 0, [20], []⟩, ⟨0, 0, 0, [18, 19], []⟩, ⟨3, 0, 0, [22, 21], []⟩] .leaf .leaf) .leaf)
def dr102 : Tr (List HOp) := .leaf
def dr103 : Tr (List HOp) := .leaf
def dr104 : Tr (List HOp) := .leaf
def dr105 : Tr (List HOp) := (.node 5 [⟨2, 0, 0, [], []⟩, ⟨0, 0, 0, [2], []⟩, ⟨1, 0, 0, [30], []⟩, ⟨0, 0, 0, [5], []⟩, ⟨1, 0, 0, [31, 32], []⟩, ⟨3, 0, 0, [29, 33], [0]⟩, ⟨1, 0, 1, [3], []⟩, ⟨3, 0, 0, [35], []⟩, ⟨2, 0, 0, [36], []⟩, ⟨3, 0, 0, [34, 37], [8]⟩, ⟨0, 0, 0, [38], []⟩] (.node 3 [⟨0, 0, 0, [5], []⟩, ⟨0, 0, 0, [2], []⟩, ⟨1, 0, 0, [12], []⟩, ⟨0, 0, 0, [13], []⟩, ⟨0, 0, 0, [11, 14], []⟩, ⟨0, 0, 0, [15], []⟩, ⟨0, 0, 0, [2, 16], []⟩, ⟨1, 0, 0, [17, 16], []⟩, ⟨0, 0, 0, [5, 16], []⟩, ⟨0, 0, 0, [18, 19, 16], []⟩, ⟨0, 0, 0, [20, 16], []⟩, ⟨1, 0, 0, [21, 16], []⟩, ⟨0, 0, 0, [3, 16], []⟩, ⟨1, 0, 0, [23, 16], []⟩, ⟨0, 0, 0, [22, 24, 16], []⟩, ⟨0, 0, 0, [16, 25], []⟩] .leaf .leaf) .leaf)
def dr106 : Tr (List HOp) := (.node 5 [⟨0, 0, 0, [2], []⟩, ⟨1, 0, 0, [18], []⟩, ⟨0, 0, 0, [1], []⟩, ⟨0, 0, 0, [6], []⟩, ⟨0, 0, 0, [20, 21], []⟩, ⟨0, 0, 0, [22], []⟩, ⟨1, 0, 0, [23], []⟩, ⟨0, 0, 0, [19, 24], []⟩, ⟨1, 0, 0, [25], []⟩, ⟨0, 0, 0, [1], []⟩, ⟨0, 0, 0, [6], []⟩, ⟨0, 0, 0, [27, 28], []⟩, ⟨0, 0, 0, [29], []⟩, ⟨1, 0, 0, [30], []⟩, ⟨3, 0, 0, [26, 31], []⟩, ⟨0, 0, 0, [32], []⟩, ⟨0, 0, 0, [17], []⟩, ⟨0, 0, 0, [17], []⟩, ⟨2, 0, 0, [], []⟩, ⟨3, 0, 0, [7, 33], [18]⟩, ⟨0, 0, 0, [34], []⟩] .leaf .leaf)
def dr107 : Tr (List HOp) := .leaf
def dr108 : Tr (List HOp) := (.node 5 [⟨0, 0, 0, [3], []⟩, ⟨1, 0, 1, [15], []⟩, ⟨0, 0, 0, [1], []⟩, ⟨1, 0, 1, [17], []⟩, ⟨0, 0, 0, [4], []⟩, ⟨0, 0, 0, [18, 19], []⟩, ⟨0, 0, 0, [20], []⟩, ⟨1, 0, 1, [21], []⟩, ⟨2, 0, 0, [], []⟩, ⟨0, 0, 0, [1], []⟩, ⟨1, 0, 0, [24], []⟩, ⟨0, 0, 0, [4], []⟩, ⟨0, 0, 0, [25, 26], []⟩, ⟨0, 0, 0, [27], []⟩, ⟨1, 0, 0, [28], []⟩, ⟨3, 0, 0, [23, 29], [8]⟩, ⟨0, 0, 0, [22, 30], []⟩, ⟨2, 0, 0, [31], []⟩, ⟨3, 0, 0, [16, 32], [17]⟩, ⟨0, 0, 0, [3], []⟩, ⟨3, 0, 0, [34, 33], []⟩] .leaf .leaf)
def dr115 : Tr (List HOp) := .leaf
def dr123 : Tr (List HOp) := (.node 10 [⟨1, 0, 1, [4], []⟩, ⟨0, 0, 0, [7], []⟩, ⟨0, 0, 0, [1], []⟩, ⟨1, 0, 0, [45], []⟩, ⟨3, 0, 0, [46], []⟩, ⟨3, 0, 0, [43, 44, 47], []⟩, ⟨0, 0, 0, [48], []⟩, ⟨0, 0, 0, [42], []⟩, ⟨0, 0, 0, [42], []⟩, ⟨3, 0, 0, [4, 49], []⟩, ⟨0, 0, 0, [50], []⟩] .leaf .leaf)
def dr124 : Tr (List HOp) := .leaf
def dr127 : Tr (List HOp) := (.node 6 [⟨0, 0, 0, [2], []⟩, ⟨0, 0, 0, [1], []⟩, ⟨1, 0, 0, [21], []⟩, ⟨0, 0, 0, [22], []⟩, ⟨0, 0, 0, [20], []⟩, ⟨0, 0, 0, [23], []⟩] .leaf .leaf)
def dr130 : Tr (List HOp) := (.node 1 [⟨0, 0, 0, [1], []⟩, ⟨1, 0, 0, [3], []⟩, ⟨3, 0, 0, [4], []⟩, ⟨0, 0, 0, [1], []⟩, ⟨1, 0, 1, [6], []⟩, ⟨3, 0, 0, [7], []⟩, ⟨0, 0, 0, [1], []⟩, ⟨3, 0, 0, [9, 5], []⟩, ⟨0, 0, 0, [1], []⟩, ⟨3, 0, 0, [10, 8], []⟩] .leaf .leaf)
def dr132 : Tr (List HOp) := .leaf
def dr133 : Tr (List HOp) := (.node 6 [⟨1, 0, 0, [7], []⟩, ⟨0, 0, 0, [1], []⟩, ⟨0, 0, 0, [1], []⟩, ⟨0, 0, 0, [29], []⟩, ⟨0, 0, 0, [30], []⟩, ⟨0, 0, 0, [28, 31], []⟩, ⟨1, 0, 1, [32], []⟩, ⟨3, 0, 0, [4, 27], []⟩, ⟨0, 0, 0, [33], []⟩, ⟨0, 0, 0, [], []⟩] (.node 1 [⟨1, 0, 0, [2], []⟩, ⟨0, 0, 0, [1], []⟩, ⟨0, 0, 0, [1], []⟩, ⟨0, 0, 0, [12], []⟩, ⟨0, 0, 0, [13], []⟩, ⟨1, 0, 0, [11, 14], []⟩, ⟨3, 0, 0, [10, 15], []⟩, ⟨0, 0, 0, [16], []⟩, ⟨0, 0, 0, [9], []⟩, ⟨0, 0, 0, [9], []⟩, ⟨2, 0, 0, [], []⟩, ⟨3, 0, 0, [7, 17], [10]⟩, ⟨0, 0, 0, [18], []⟩] .leaf .leaf) .leaf)
def dr134 : Tr (List HOp) := .leaf
def dr135 : Tr (List HOp) := (.node 7 [⟨1, 0, 0, [6], []⟩, ⟨0, 0, 0, [1], []⟩, ⟨0, 0, 0, [8], []⟩, ⟨0, 0, 0, [28, 29], []⟩, ⟨1, 0, 0, [30], []⟩, ⟨3, 0, 0, [27, 31], []⟩, ⟨0, 0, 0, [32], []⟩, ⟨0, 0, 0, [26], []⟩, ⟨0, 0, 0, [26], []⟩, ⟨0, 0, 0, [33], []⟩, ⟨0, 0, 0, [34], []⟩] .leaf .leaf)
def dr136 : Tr (List HOp) := .leaf
def dr137 : Tr (List HOp) := .leaf
def dr138 : Tr (List HOp) := .leaf
def dr139 : Tr (List HOp) := .leaf
def dr140 : Tr (List HOp) := (.node 5 [⟨1, 0, 0, [2], []⟩, ⟨0, 0, 0, [3], []⟩, ⟨1, 0, 0, [18], []⟩, ⟨0, 0, 0, [6], []⟩, ⟨0, 0, 0, [19, 20], []⟩, ⟨0, 0, 0, [21], []⟩, ⟨1, 0, 0, [22], []⟩, ⟨3, 0, 0, [17, 23], []⟩, ⟨0, 0, 0, [24], []⟩, ⟨0, 0, 0, [16], []⟩, ⟨0, 0, 0, [16], []⟩, ⟨2, 0, 0, [], []⟩, ⟨3, 0, 0, [7, 25], [11]⟩, ⟨0, 0, 0, [26], []⟩] .leaf .leaf)
def dr141 : Tr (List HOp) := .leaf
def dr142 : Tr (List HOp) := (.node 8 [⟨0, 0, 0, [10], []⟩, ⟨1, 0, 0, [46], []⟩, ⟨0, 0, 0, [2], []⟩, ⟨0, 0, 0, [3], []⟩, ⟨0, 0, 0, [49], []⟩, ⟨3, 0, 0, [47, 48, 50], []⟩, ⟨0, 0, 0, [4], []⟩, ⟨1, 0, 1, [52], []⟩, ⟨0, 0, 0, [13], []⟩, ⟨0, 0, 0, [53, 54], []⟩, ⟨0, 0, 0, [51, 55], []⟩] .leaf .leaf)
def dr143 : Tr (List HOp) := .leaf
def dr144 : Tr (List HOp) := .leaf
def dr145 : Tr (List HOp) := .leaf
def dr146 : Tr (List HOp) := .leaf
def dr147 : Tr (List HOp) := .leaf
def dr148 : Tr (List HOp) := .leaf
def dr149 : Tr (List HOp) := (.node 8 [⟨0, 0, 0, [6], []⟩, ⟨1, 0, 0, [85], []⟩, ⟨0, 0, 0, [1], []⟩, ⟨1, 0, 0, [87], []⟩, ⟨0, 0, 0, [86, 88], []⟩, ⟨0, 0, 0, [89], []⟩, ⟨0, 0, 0, [5, 90], []⟩, ⟨0, 0, 0, [91, 90], []⟩, ⟨0, 0, 0, [92, 90], []⟩, ⟨0, 0, 0, [6, 93], []⟩, ⟨1, 0, 0, [94, 93], []⟩, ⟨0, 0, 0, [1, 93], []⟩, ⟨1, 0, 0, [96, 93], []⟩, ⟨0, 0, 0, [5, 93], []⟩, ⟨0, 0, 0, [98, 93], []⟩, ⟨0, 0, 0, [97, 99, 93], []⟩, ⟨0, 0, 0, [100, 93], []⟩, ⟨1, 0, 0, [101, 93], []⟩, ⟨0, 0, 0, [95, 102, 93], []⟩, ⟨0, 0, 0, [93, 103, 90], []⟩, ⟨0, 0, 0, [90, 104], []⟩, ⟨0, 0, 0, [105], []⟩, ⟨1, 0, 0, [1, 106], []⟩, ⟨1, 0, 0, [6, 106], []⟩, ⟨3, 0, 0, [107, 108, 106], []⟩, ⟨0, 0, 0, [109, 106], []⟩, ⟨0, 0, 0, [106, 110], []⟩] .leaf .leaf)
def dr150 : Tr (List HOp) := .leaf
def dr151 : Tr (List HOp) := .leaf
def dr152 : Tr (List HOp) := (.node 10 [⟨0, 0, 0, [0], []⟩, ⟨0, 0, 0, [6], []⟩, ⟨0, 0, 0, [43, 44], []⟩, ⟨1, 0, 2, [45], []⟩, ⟨0, 0, 0, [46], []⟩, ⟨0, 0, 0, [0], []⟩, ⟨0, 0, 0, [6], []⟩, ⟨0, 0, 0, [49], []⟩, ⟨0, 0, 0, [6], []⟩, ⟨0, 0, 0, [51], []⟩, ⟨1, 0, 0, [48, 50, 52], []⟩, ⟨3, 0, 0, [53], []⟩, ⟨0, 0, 0, [47, 54], []⟩, ⟨0, 0, 0, [0], []⟩, ⟨0, 0, 0, [6], []⟩, ⟨0, 0, 0, [57], []⟩, ⟨0, 0, 0, [6], []⟩, ⟨0, 0, 0, [59], []⟩, ⟨1, 0, 1, [56, 58, 60], []⟩, ⟨3, 0, 0, [61], []⟩, ⟨0, 0, 0, [55, 62], []⟩, ⟨2, 0, 0, [], []⟩, ⟨3, 0, 0, [7, 63], [21]⟩] (.node 6 [⟨0, 0, 0, [0], []⟩, ⟨1, 0, 0, [29], []⟩, ⟨3, 0, 0, [30], []⟩, ⟨0, 0, 0, [0], []⟩, ⟨0, 0, 0, [32], []⟩, ⟨1, 0, 1, [33], []⟩, ⟨0, 0, 0, [34], []⟩, ⟨0, 0, 0, [31, 35], []⟩, ⟨2, 0, 0, [], []⟩, ⟨3, 0, 0, [5, 36], [8]⟩] .leaf .leaf) (.node 14 [⟨1, 0, 0, [5], []⟩, ⟨3, 0, 0, [81], []⟩, ⟨1, 1, 1, [82], []⟩, ⟨0, 0, 0, [0], []⟩, ⟨1, 0, 1, [84], []⟩, ⟨0, 0, 0, [83, 85], []⟩] .leaf .leaf))
def dr153 : Tr (List HOp) := .leaf
def dr154 : Tr (List HOp) := (.node 3 [⟨1, 0, 1, [1], []⟩, ⟨0, 0, 0, [], []⟩, ⟨1, 0, 0, [1], []⟩, ⟨3, 0, 0, [10], []⟩, ⟨3, 0, 0, [8, 9, 11], []⟩, ⟨3, 0, 0, [2, 12], []⟩] .leaf .leaf)
def dr155 : Tr (List HOp) := (.node 9 [⟨1, 0, 0, [1], []⟩, ⟨0, 0, 0, [1], []⟩, ⟨1, 0, 0, [49], []⟩, ⟨0, 0, 0, [4], []⟩, ⟨0, 0, 0, [50, 51], []⟩, ⟨1, 0, 0, [52], []⟩, ⟨3, 0, 0, [48, 53], []⟩, ⟨0, 0, 0, [54], []⟩, ⟨0, 0, 0, [55], []⟩, ⟨0, 0, 0, [4, 56], []⟩, ⟨0, 0, 0, [57, 56], []⟩, ⟨0, 0, 0, [58, 56], []⟩, ⟨0, 0, 0, [1, 59], []⟩, ⟨1, 1, 1, [60, 59], []⟩, ⟨0, 0, 0, [4, 59], []⟩, ⟨0, 0, 0, [62, 59], []⟩, ⟨0, 0, 0, [61, 63, 59], []⟩, ⟨0, 0, 0, [64, 59], []⟩, ⟨1, 1, 1, [65, 59], []⟩, ⟨0, 0, 0, [1, 59], []⟩, ⟨1, 1, 1, [67, 59], []⟩, ⟨0, 0, 0, [4, 59], []⟩, ⟨0, 0, 0, [68, 69, 59], []⟩, ⟨0, 0, 0, [70, 59], []⟩, ⟨1, 1, 1, [71, 59], []⟩, ⟨0, 0, 0, [66, 72, 59], []⟩, ⟨0, 0, 0, [59, 73, 56], []⟩, ⟨0, 0, 0, [56, 74], []⟩] (.node 4 [⟨1, 0, 0, [1], []⟩, ⟨0, 0, 0, [1], []⟩, ⟨1, 0, 0, [13], []⟩, ⟨0, 0, 0, [3], []⟩, ⟨0, 0, 0, [14, 15], []⟩, ⟨1, 0, 0, [16], []⟩, ⟨3, 0, 0, [12, 17], []⟩, ⟨0, 0, 0, [18], []⟩, ⟨0, 0, 0, [19], []⟩, ⟨0, 0, 0, [3, 20], []⟩, ⟨0, 0, 0, [21, 20], []⟩, ⟨0, 0, 0, [22, 20], []⟩, ⟨0, 0, 0, [1, 23], []⟩, ⟨1, 1, 1, [24, 23], []⟩, ⟨0, 0, 0, [3, 23], []⟩, ⟨0, 0, 0, [26, 23], []⟩, ⟨0, 0, 0, [25, 27, 23], []⟩, ⟨0, 0, 0, [28, 23], []⟩, ⟨1, 1, 1, [29, 23], []⟩, ⟨0, 0, 0, [1, 23], []⟩, ⟨1, 1, 1, [31, 23], []⟩, ⟨0, 0, 0, [3, 23], []⟩, ⟨0, 0, 0, [32, 33, 23], []⟩, ⟨0, 0, 0, [34, 23], []⟩, ⟨1, 1, 1, [35, 23], []⟩, ⟨3, 0, 0, [30, 36, 23], []⟩, ⟨0, 0, 0, [37, 23], []⟩, ⟨0, 0, 0, [23, 38, 20], []⟩, ⟨0, 0, 0, [20, 39], []⟩] .leaf .leaf) .leaf)
def dr156 : Tr (List HOp) := (.node 11 [⟨0, 0, 0, [3], []⟩, ⟨1, 0, 0, [65], []⟩, ⟨0, 0, 0, [1], []⟩, ⟨0, 0, 0, [13], []⟩, ⟨0, 0, 0, [67, 68], []⟩, ⟨1, 0, 0, [69], []⟩, ⟨3, 0, 0, [66, 70], []⟩, ⟨0, 0, 0, [71], []⟩, ⟨0, 0, 0, [64], []⟩, ⟨0, 0, 0, [64], []⟩, ⟨0, 0, 0, [72], []⟩, ⟨0, 0, 0, [73], []⟩] (.node 4 [⟨1, 0, 0, [3], []⟩, ⟨0, 0, 0, [1], []⟩, ⟨0, 0, 0, [32], []⟩, ⟨1, 0, 0, [33], []⟩, ⟨3, 0, 0, [31, 34], []⟩, ⟨0, 0, 0, [35], []⟩] (.node 1 [⟨0, 0, 0, [3], []⟩, ⟨1, 0, 0, [20], []⟩, ⟨0, 0, 0, [1], []⟩, ⟨0, 0, 0, [22], []⟩, ⟨1, 0, 0, [23], []⟩, ⟨3, 0, 0, [21, 24], []⟩, ⟨0, 0, 0, [25], []⟩, ⟨0, 0, 0, [19], []⟩, ⟨0, 0, 0, [19], []⟩, ⟨0, 0, 0, [26], []⟩, ⟨0, 0, 0, [27], []⟩] .leaf .leaf) .leaf) (.node 24 [⟨1, 0, 1, [3], []⟩, ⟨1, 0, 0, [3], []⟩, ⟨0, 0, 0, [1], []⟩, ⟨0, 0, 0, [17], []⟩, ⟨0, 0, 0, [18], []⟩, ⟨0, 0, 0, [114, 115], []⟩, ⟨1, 0, 0, [116], []⟩, ⟨3, 0, 0, [112, 113, 117], []⟩, ⟨0, 0, 0, [2], []⟩, ⟨3, 0, 0, [111, 118, 119], []⟩, ⟨0, 0, 0, [120], []⟩, ⟨0, 0, 0, [110], []⟩, ⟨0, 0, 0, [110], []⟩, ⟨0, 0, 0, [121], []⟩, ⟨0, 0, 0, [122], []⟩] .leaf .leaf))
def dr157 : Tr (List HOp) := .leaf
def dr158 : Tr (List HOp) := (.node 8 [⟨1, 0, 0, [3], []⟩, ⟨0, 0, 0, [1], []⟩, ⟨0, 0, 0, [40], []⟩, ⟨1, 0, 0, [41], []⟩, ⟨0, 0, 0, [7], []⟩, ⟨3, 0, 0, [39, 42, 43], []⟩, ⟨0, 0, 0, [44], []⟩] (.node 2 [⟨1, 0, 0, [3], []⟩, ⟨0, 0, 0, [1], []⟩, ⟨0, 0, 0, [22], []⟩, ⟨1, 0, 0, [23], []⟩, ⟨3, 0, 0, [21, 24], []⟩, ⟨0, 0, 0, [25], []⟩] (.node 1 [⟨0, 0, 0, [3], []⟩, ⟨1, 0, 0, [13], []⟩, ⟨0, 0, 0, [1], []⟩, ⟨0, 0, 0, [15], []⟩, ⟨1, 0, 0, [16], []⟩, ⟨3, 0, 0, [14, 17], []⟩, ⟨0, 0, 0, [18], []⟩, ⟨0, 0, 0, [12], []⟩, ⟨0, 0, 0, [12], []⟩, ⟨0, 0, 0, [19], []⟩, ⟨0, 0, 0, [20], []⟩] .leaf .leaf) .leaf) (.node 13 [⟨1, 0, 1, [3], []⟩, ⟨1, 0, 0, [3], []⟩, ⟨0, 0, 0, [1], []⟩, ⟨0, 0, 0, [10], []⟩, ⟨0, 0, 0, [11], []⟩, ⟨0, 0, 0, [57, 58], []⟩, ⟨1, 0, 0, [59], []⟩, ⟨3, 0, 0, [55, 56, 60], []⟩, ⟨0, 0, 0, [2], []⟩, ⟨3, 0, 0, [54, 61, 62], []⟩, ⟨0, 0, 0, [63], []⟩] .leaf .leaf))
def dr159 : Tr (List HOp) := (.node 14 [⟨1, 0, 1, [3], []⟩, ⟨1, 0, 1, [9], []⟩, ⟨0, 0, 0, [2], []⟩, ⟨3, 0, 0, [64], []⟩, ⟨3, 0, 0, [62, 63, 65], []⟩] (.node 13 [⟨0, 0, 0, [6], []⟩, ⟨0, 0, 0, [12], []⟩, ⟨1, 0, 0, [60], []⟩, ⟨0, 0, 0, [59], []⟩, ⟨0, 0, 0, [61], []⟩] (.node 11 [⟨0, 0, 0, [6], []⟩, ⟨0, 0, 0, [12], []⟩, ⟨1, 0, 0, [52], []⟩, ⟨0, 0, 0, [53], []⟩, ⟨0, 0, 0, [51], []⟩, ⟨0, 0, 0, [54], []⟩] .leaf .leaf) .leaf) (.node 17 [⟨0, 0, 0, [6], []⟩, ⟨0, 0, 0, [3], []⟩, ⟨1, 0, 0, [72], []⟩, ⟨0, 0, 0, [73], []⟩, ⟨0, 0, 0, [74], []⟩, ⟨0, 0, 0, [71], []⟩, ⟨0, 0, 0, [75], []⟩] (.node 15 [⟨0, 0, 0, [6], []⟩, ⟨0, 0, 0, [9], []⟩, ⟨1, 0, 0, [68], []⟩, ⟨0, 0, 0, [67], []⟩, ⟨0, 0, 0, [69], []⟩] .leaf .leaf) .leaf))
def dr160 : Tr (List HOp) := (.node 8 [⟨0, 0, 0, [9], []⟩, ⟨0, 0, 0, [9], []⟩, ⟨0, 0, 0, [8], []⟩, ⟨0, 0, 0, [36, 37], []⟩, ⟨0, 0, 0, [38], []⟩, ⟨0, 0, 0, [2, 39], []⟩, ⟨0, 0, 0, [0, 39], []⟩, ⟨0, 0, 0, [9, 39], []⟩, ⟨0, 0, 0, [41, 42, 39], []⟩, ⟨1, 0, 0, [43, 39], []⟩, ⟨1, 0, 0, [4, 39], []⟩, ⟨3, 0, 0, [40, 44, 45, 39], []⟩, ⟨0, 0, 0, [46, 39], []⟩, ⟨0, 0, 0, [39, 47], []⟩, ⟨0, 0, 0, [35], []⟩, ⟨0, 0, 0, [48], []⟩] (.node 5 [⟨0, 0, 0, [2], []⟩, ⟨0, 0, 0, [0], []⟩, ⟨0, 0, 0, [11], []⟩, ⟨0, 0, 0, [25, 26], []⟩, ⟨1, 0, 0, [27], []⟩, ⟨1, 0, 0, [4], []⟩, ⟨3, 0, 0, [24, 28, 29], []⟩, ⟨0, 0, 0, [30], []⟩] .leaf .leaf) .leaf)
def dr161 : Tr (List HOp) := (.node 1 [⟨0, 0, 0, [2], []⟩, ⟨0, 0, 0, [5], []⟩, ⟨1, 0, 0, [6], []⟩, ⟨0, 0, 0, [3], []⟩, ⟨1, 0, 0, [8], []⟩, ⟨3, 0, 0, [7, 9], []⟩, ⟨0, 0, 0, [2], []⟩, ⟨0, 0, 0, [11], []⟩, ⟨1, 0, 1, [12], []⟩, ⟨0, 0, 0, [3], []⟩, ⟨1, 0, 1, [14], []⟩, ⟨3, 0, 0, [13, 15], []⟩, ⟨2, 0, 0, [10, 16], []⟩, ⟨3, 0, 0, [17], [12]⟩, ⟨0, 0, 0, [18], []⟩] .leaf .leaf)
def dr162 : Tr (List HOp) := .leaf
def dr163 : Tr (List HOp) := (.node 1 [⟨0, 0, 0, [2], []⟩, ⟨1, 0, 0, [5], []⟩, ⟨0, 0, 0, [3], []⟩, ⟨1, 0, 0, [7], []⟩, ⟨3, 0, 0, [6, 8], []⟩, ⟨0, 0, 0, [9], []⟩, ⟨0, 0, 0, [2, 10], []⟩, ⟨1, 1, 1, [11, 10], []⟩, ⟨0, 0, 0, [3, 10], []⟩, ⟨1, 1, 1, [13, 10], []⟩, ⟨0, 0, 0, [12, 14, 10], []⟩, ⟨1, 1, 1, [15, 10], []⟩, ⟨0, 0, 0, [3, 10], []⟩, ⟨1, 1, 1, [17, 10], []⟩, ⟨3, 0, 0, [16, 18, 10], []⟩, ⟨0, 0, 0, [10, 19], []⟩, ⟨0, 0, 0, [20], []⟩] .leaf .leaf)
def dr164 : Tr (List HOp) := (.node 1 [⟨0, 0, 0, [3], []⟩, ⟨1, 0, 0, [7], []⟩, ⟨0, 0, 0, [4], []⟩, ⟨1, 0, 0, [9], []⟩, ⟨3, 0, 0, [8, 10], []⟩, ⟨0, 0, 0, [11], []⟩, ⟨0, 0, 0, [3, 12], []⟩, ⟨1, 1, 1, [13, 12], []⟩, ⟨0, 0, 0, [4, 12], []⟩, ⟨1, 1, 1, [15, 12], []⟩, ⟨0, 0, 0, [14, 16, 12], []⟩, ⟨1, 1, 1, [17, 12], []⟩, ⟨0, 0, 0, [4, 12], []⟩, ⟨1, 1, 1, [19, 12], []⟩, ⟨0, 0, 0, [2, 12], []⟩, ⟨3, 0, 0, [18, 20, 21, 12], []⟩, ⟨0, 0, 0, [12, 22], []⟩, ⟨0, 0, 0, [23], []⟩] .leaf .leaf)
def dr165 : Tr (List HOp) := .leaf
def dr166 : Tr (List HOp) := .leaf
def dr167 : Tr (List HOp) := (.node 5 [⟨0, 0, 0, [1], []⟩, ⟨1, 0, 1, [17], []⟩, ⟨0, 0, 0, [3], []⟩, ⟨1, 0, 0, [4], []⟩, ⟨3, 0, 0, [20], []⟩, ⟨0, 0, 0, [18, 19], []⟩, ⟨3, 0, 0, [22, 21], []⟩] .leaf .leaf)
def dr168 : Tr (List HOp) := .leaf
def dr170 : Tr (List HOp) := (.node 5 [⟨0, 0, 0, [0], []⟩, ⟨0, 0, 0, [1], []⟩, ⟨1, 0, 0, [20, 21], []⟩, ⟨0, 0, 0, [0], []⟩, ⟨0, 0, 0, [2], []⟩, ⟨1, 0, 0, [23, 24], []⟩, ⟨3, 0, 0, [22, 25], []⟩, ⟨0, 0, 0, [26], []⟩] .leaf .leaf)
def dr171 : Tr (List HOp) := (.node 5 [⟨0, 0, 0, [0], []⟩, ⟨0, 0, 0, [1], []⟩, ⟨1, 0, 0, [20, 21], []⟩, ⟨0, 0, 0, [0], []⟩, ⟨0, 0, 0, [2], []⟩, ⟨1, 0, 0, [23, 24], []⟩, ⟨3, 0, 0, [22, 25], []⟩, ⟨0, 0, 0, [26], []⟩] .leaf .leaf)
def dr172 : Tr (List HOp) := .leaf
def dr173 : Tr (List HOp) := .leaf
def dr174 : Tr (List HOp) := (.node 6 [⟨2, 0, 0, [], []⟩, ⟨0, 0, 0, [0], []⟩, ⟨0, 0, 0, [5], []⟩, ⟨1, 0, 0, [34, 35], []⟩, ⟨3, 0, 0, [33, 36], [0]⟩, ⟨0, 0, 0, [1], []⟩, ⟨2, 0, 0, [38], []⟩, ⟨3, 0, 0, [37, 39], [6]⟩, ⟨0, 0, 0, [0], []⟩, ⟨0, 0, 0, [5], []⟩, ⟨1, 0, 2, [41, 42], []⟩, ⟨3, 0, 0, [40, 43], []⟩, ⟨0, 0, 0, [44], []⟩] .leaf .leaf)
def dr175 : Tr (List HOp) := .leaf
def dr176 : Tr (List HOp) := .leaf
def dr177 : Tr (List HOp) := .leaf
def dr188 : Tr (List HOp) := .leaf
def dr201 : Tr (List HOp) := (.node 5 [⟨0, 0, 0, [3], []⟩, ⟨0, 0, 0, [1], []⟩, ⟨1, 0, 0, [27], []⟩, ⟨3, 0, 0, [28], []⟩, ⟨3, 0, 0, [26, 29], []⟩, ⟨0, 0, 0, [1], []⟩, ⟨1, 0, 2, [31], []⟩, ⟨3, 0, 0, [32], []⟩, ⟨3, 0, 0, [30, 33], []⟩, ⟨0, 0, 0, [34], []⟩] (.node 3 [⟨0, 0, 0, [1], []⟩, ⟨1, 0, 0, [7], []⟩, ⟨3, 0, 0, [8], []⟩, ⟨0, 0, 0, [1], []⟩, ⟨1, 0, 1, [10], []⟩, ⟨0, 0, 0, [11], []⟩, ⟨3, 0, 0, [12], []⟩, ⟨3, 0, 0, [9, 13], []⟩, ⟨0, 0, 0, [1], []⟩, ⟨1, 0, 3, [15], []⟩, ⟨0, 0, 0, [16], []⟩, ⟨3, 0, 0, [17], []⟩, ⟨3, 0, 0, [14, 18], []⟩, ⟨0, 0, 0, [19], []⟩] .leaf .leaf) .leaf)
def dr208 : Tr (List HOp) := .leaf
def dr211 : Tr (List HOp) := .leaf
def dr212 : Tr (List HOp) := (.node 6 [⟨0, 0, 0, [4], []⟩, ⟨0, 0, 0, [1], []⟩, ⟨1, 0, 0, [24], []⟩, ⟨0, 0, 0, [25], []⟩, ⟨0, 0, 0, [23], []⟩, ⟨0, 0, 0, [26], []⟩] .leaf .leaf)
def dr213 : Tr (List HOp) := (.node 2 [⟨1, 0, 1, [4], []⟩, ⟨1, 0, 0, [9], []⟩, ⟨0, 0, 0, [2], []⟩, ⟨0, 0, 0, [3], []⟩, ⟨3, 0, 0, [18, 19, 20], []⟩, ⟨3, 0, 0, [17, 21], []⟩, ⟨3, 0, 0, [8, 22], []⟩] .leaf .leaf)
def dr214 : Tr (List HOp) := (.node 2 [⟨1, 0, 1, [3], []⟩, ⟨1, 0, 0, [7], []⟩, ⟨0, 0, 0, [2], []⟩, ⟨3, 0, 0, [16, 17], []⟩, ⟨3, 0, 0, [15, 18], []⟩, ⟨3, 0, 0, [6, 19], []⟩] .leaf .leaf)
def dr215 : Tr (List HOp) := (.node 6 [⟨0, 0, 0, [0], []⟩, ⟨0, 0, 0, [5], []⟩, ⟨0, 0, 0, [17, 18], []⟩, ⟨1, 0, 0, [19], []⟩, ⟨0, 0, 0, [1], []⟩, ⟨0, 0, 0, [5], []⟩, ⟨0, 0, 0, [21, 22], []⟩, ⟨1, 0, 0, [23], []⟩, ⟨0, 0, 0, [20, 24], []⟩] .leaf .leaf)
def dr216 : Tr (List HOp) := .leaf
def dr217 : Tr (List HOp) := .leaf
def dr218 : Tr (List HOp) := (.node 7 [⟨0, 0, 0, [3], []⟩, ⟨1, 0, 1, [24], []⟩, ⟨1, 0, 0, [3], []⟩, ⟨0, 0, 0, [8], []⟩, ⟨3, 0, 0, [26, 27], []⟩, ⟨0, 0, 0, [25, 28], []⟩, ⟨0, 0, 0, [29], []⟩, ⟨1, 1, 1, [30], []⟩, ⟨0, 0, 0, [1], []⟩, ⟨0, 0, 0, [7], []⟩, ⟨0, 0, 0, [32, 33], []⟩, ⟨0, 0, 0, [34], []⟩, ⟨0, 0, 0, [2], []⟩, ⟨0, 0, 0, [7], []⟩, ⟨0, 0, 0, [36, 37], []⟩, ⟨1, 0, 1, [38], []⟩, ⟨0, 0, 0, [31, 35], []⟩, ⟨3, 0, 0, [40, 39], []⟩] .leaf .leaf)
def dr219 : Tr (List HOp) := .leaf
def dr220 : Tr (List HOp) := .leaf
def dr221 : Tr (List HOp) := (.node 11 [⟨0, 0, 0, [7], []⟩, ⟨0, 0, 0, [90], []⟩, ⟨0, 0, 0, [91], []⟩, ⟨0, 0, 0, [3, 92], []⟩, ⟨1, 0, 0, [93, 92], []⟩, ⟨0, 0, 0, [5, 92], []⟩, ⟨0, 0, 0, [94, 95, 92], []⟩, ⟨0, 0, 0, [96, 92], []⟩, ⟨1, 0, 0, [97, 92], []⟩, ⟨3, 0, 0, [98, 92], []⟩, ⟨0, 0, 0, [99, 92], []⟩, ⟨0, 0, 0, [92, 100], []⟩, ⟨0, 0, 0, [101], []⟩, ⟨0, 0, 0, [5, 102], []⟩, ⟨0, 0, 0, [103, 102], []⟩, ⟨0, 0, 0, [104, 102], []⟩, ⟨0, 0, 0, [3, 105], []⟩, ⟨1, 1, 1, [106, 105], []⟩, ⟨0, 0, 0, [5, 105], []⟩, ⟨0, 0, 0, [107, 108, 105], []⟩, ⟨0, 0, 0, [109, 105], []⟩, ⟨1, 1, 1, [110, 105], []⟩, ⟨0, 0, 0, [3, 105], []⟩, ⟨1, 1, 1, [112, 105], []⟩, ⟨0, 0, 0, [5, 105], []⟩, ⟨0, 0, 0, [114, 105], []⟩, ⟨0, 0, 0, [113, 115, 105], []⟩, ⟨0, 0, 0, [116, 105], []⟩, ⟨1, 1, 1, [117, 105], []⟩, ⟨0, 0, 0, [111, 118, 105], []⟩, ⟨0, 0, 0, [105, 119, 102], []⟩, ⟨0, 0, 0, [102, 120], []⟩] (.node 10 [⟨1, 0, 0, [2], []⟩, ⟨0, 0, 0, [3], []⟩, ⟨1, 0, 0, [81], []⟩, ⟨0, 0, 0, [5], []⟩, ⟨0, 0, 0, [82, 83], []⟩, ⟨0, 0, 0, [84], []⟩, ⟨1, 0, 0, [85], []⟩, ⟨3, 0, 0, [80, 86], []⟩, ⟨0, 0, 0, [87], []⟩, ⟨0, 0, 0, [79], []⟩, ⟨0, 0, 0, [79], []⟩, ⟨2, 0, 0, [], []⟩, ⟨3, 0, 0, [6, 88], [11]⟩, ⟨0, 0, 0, [89], []⟩] .leaf .leaf) .leaf)
def dr222 : Tr (List HOp) := .leaf
def dr223 : Tr (List HOp) := (.node 10 [⟨1, 0, 2, [4], []⟩, ⟨0, 0, 0, [13], []⟩, ⟨0, 0, 0, [2], []⟩, ⟨0, 0, 0, [49], []⟩, ⟨2, 0, 0, [], []⟩, ⟨0, 0, 0, [3], []⟩, ⟨3, 0, 0, [51, 52], [4]⟩, ⟨0, 0, 0, [13], []⟩, ⟨2, 0, 0, [54], []⟩, ⟨3, 0, 0, [53, 55], [8]⟩, ⟨3, 0, 0, [47, 48, 50, 56], []⟩, ⟨0, 0, 0, [57], []⟩, ⟨0, 0, 0, [46], []⟩, ⟨0, 0, 0, [46], []⟩, ⟨0, 0, 0, [58], []⟩, ⟨0, 0, 0, [59], []⟩] .leaf .leaf)
def dr224 : Tr (List HOp) := (.node 1 [⟨0, 0, 0, [0], []⟩, ⟨0, 0, 0, [3], []⟩, ⟨1, 0, 0, [4], []⟩, ⟨0, 0, 0, [5], []⟩, ⟨0, 0, 0, [6], []⟩, ⟨0, 0, 0, [0], []⟩, ⟨0, 0, 0, [8], []⟩, ⟨1, 0, 0, [9], []⟩, ⟨0, 0, 0, [10], []⟩, ⟨0, 0, 0, [11], []⟩, ⟨0, 0, 0, [7, 12], []⟩, ⟨0, 0, 0, [0], []⟩, ⟨0, 0, 0, [14], []⟩, ⟨1, 0, 0, [15], []⟩, ⟨0, 0, 0, [16], []⟩, ⟨0, 0, 0, [17], []⟩, ⟨0, 0, 0, [13, 18], []⟩, ⟨0, 0, 0, [0], []⟩, ⟨0, 0, 0, [20], []⟩, ⟨1, 0, 0, [21], []⟩, ⟨0, 0, 0, [22], []⟩, ⟨0, 0, 0, [19, 23], []⟩, ⟨0, 0, 0, [24], []⟩] .leaf .leaf)
def dr225 : Tr (List HOp) := (.node 10 [⟨1, 0, 0, [4], []⟩, ⟨0, 0, 0, [2], []⟩, ⟨0, 0, 0, [11], []⟩, ⟨0, 0, 0, [46, 47], []⟩, ⟨1, 0, 0, [48], []⟩, ⟨0, 0, 0, [10], []⟩, ⟨3, 0, 0, [45, 49, 50], []⟩, ⟨3, 0, 0, [4, 51], []⟩] (.node 2 [⟨1, 0, 0, [3], []⟩, ⟨0, 0, 0, [2], []⟩, ⟨0, 0, 0, [23], []⟩, ⟨1, 0, 0, [24], []⟩, ⟨3, 0, 0, [22, 25], []⟩, ⟨0, 0, 0, [26], []⟩] (.node 1 [⟨1, 0, 0, [4], []⟩, ⟨0, 0, 0, [2], []⟩, ⟨0, 0, 0, [16], []⟩, ⟨1, 0, 0, [17], []⟩, ⟨3, 0, 0, [15, 18], []⟩, ⟨0, 0, 0, [19], []⟩, ⟨0, 0, 0, [14], []⟩, ⟨0, 0, 0, [14], []⟩, ⟨0, 0, 0, [20], []⟩, ⟨0, 0, 0, [21], []⟩] .leaf .leaf) .leaf) (.node 17 [⟨1, 0, 1, [3], []⟩, ⟨1, 0, 1, [4], []⟩, ⟨1, 0, 0, [3], []⟩, ⟨0, 0, 0, [2], []⟩, ⟨0, 0, 0, [12], []⟩, ⟨0, 0, 0, [13], []⟩, ⟨0, 0, 0, [73, 74], []⟩, ⟨1, 0, 0, [75], []⟩, ⟨3, 0, 0, [71, 72, 76], []⟩, ⟨3, 0, 0, [69, 70, 77], []⟩, ⟨3, 0, 0, [4, 78], []⟩] (.node 12 [⟨1, 0, 0, [4], []⟩, ⟨0, 0, 0, [10], []⟩, ⟨0, 0, 0, [2], []⟩, ⟨0, 0, 0, [56], []⟩, ⟨1, 0, 0, [57], []⟩, ⟨3, 0, 0, [54, 55, 58], []⟩, ⟨3, 0, 0, [6, 59], []⟩] .leaf .leaf) .leaf))
def dr226 : Tr (List HOp) := .leaf
def dr227 : Tr (List HOp) := .leaf
def dr228 : Tr (List HOp) := (.node 9 [⟨0, 0, 0, [8], []⟩, ⟨0, 0, 0, [32], []⟩, ⟨0, 0, 0, [10, 33], []⟩, ⟨0, 0, 0, [34, 33], []⟩, ⟨1, 0, 0, [35, 33], []⟩, ⟨0, 0, 0, [1, 33], []⟩, ⟨0, 0, 0, [36, 37, 33], []⟩, ⟨0, 0, 0, [38, 33], []⟩, ⟨0, 0, 0, [10, 39], []⟩, ⟨0, 0, 0, [40, 39], []⟩, ⟨1, 0, 0, [41, 39], []⟩, ⟨0, 0, 0, [5, 39], []⟩, ⟨1, 0, 0, [43, 39], []⟩, ⟨0, 0, 0, [7, 39], []⟩, ⟨0, 0, 0, [44, 45, 39], []⟩, ⟨0, 0, 0, [46, 39], []⟩, ⟨1, 0, 0, [47, 39], []⟩, ⟨0, 0, 0, [42, 48, 39], []⟩, ⟨0, 0, 0, [39, 49, 33], []⟩, ⟨0, 0, 0, [50, 33], []⟩, ⟨0, 0, 0, [10, 51], []⟩, ⟨1, 0, 0, [52, 51], []⟩, ⟨3, 0, 0, [53, 51], []⟩, ⟨0, 0, 0, [5, 51], []⟩, ⟨1, 0, 1, [55, 51], []⟩, ⟨0, 0, 0, [7, 51], []⟩, ⟨0, 0, 0, [56, 57, 51], []⟩, ⟨0, 0, 0, [58, 51], []⟩, ⟨1, 0, 1, [59, 51], []⟩, ⟨0, 0, 0, [54, 60, 51], []⟩, ⟨0, 0, 0, [51, 61, 33], []⟩, ⟨0, 0, 0, [33, 62], []⟩, ⟨0, 0, 0, [63], []⟩] .leaf .leaf)
def dr229 : Tr (List HOp) := (.node 3 [⟨0, 0, 0, [3], []⟩, ⟨1, 0, 0, [25], []⟩, ⟨0, 0, 0, [7], []⟩, ⟨1, 0, 0, [27], []⟩, ⟨3, 0, 0, [26, 28], []⟩, ⟨0, 0, 0, [29], []⟩, ⟨0, 0, 0, [9, 30], []⟩, ⟨0, 0, 0, [2, 30], []⟩, ⟨0, 0, 0, [31, 32, 30], []⟩, ⟨0, 0, 0, [33, 30], []⟩, ⟨0, 0, 0, [3, 34], []⟩, ⟨1, 1, 2, [35, 34], []⟩, ⟨0, 0, 0, [7, 34], []⟩, ⟨1, 1, 2, [37, 34], []⟩, ⟨0, 0, 0, [36, 38, 34], []⟩, ⟨1, 1, 2, [39, 34], []⟩, ⟨0, 0, 0, [7, 34], []⟩, ⟨1, 1, 2, [41, 34], []⟩, ⟨0, 0, 0, [2, 34], []⟩, ⟨3, 0, 0, [43, 34], []⟩, ⟨3, 0, 0, [40, 42, 44, 34], []⟩, ⟨0, 0, 0, [34, 45, 30], []⟩, ⟨0, 0, 0, [30, 46], []⟩] .leaf .leaf)
def dr230 : Tr (List HOp) := .leaf
def dr231 : Tr (List HOp) := .leaf
def dr232 : Tr (List HOp) := .leaf
def dr234 : Tr (List HOp) := .leaf
def dr235 : Tr (List HOp) := .leaf
def dr236 : Tr (List HOp) := (.node 1 [⟨1, 0, 1, [3], []⟩, ⟨0, 0, 0, [1], []⟩, ⟨0, 0, 0, [2], []⟩, ⟨3, 0, 0, [9], []⟩, ⟨3, 0, 0, [7, 8, 10], []⟩, ⟨0, 0, 0, [11], []⟩] .leaf .leaf)
def dr237 : Tr (List HOp) := .leaf
def dr238 : Tr (List HOp) := .leaf
def dr239 : Tr (List HOp) := .leaf
def dr240 : Tr (List HOp) := .leaf
def dr241 : Tr (List HOp) := .leaf
def dr242 : Tr (List HOp) := .leaf
def dr243 : Tr (List HOp) := (.node 5 [⟨0, 0, 0, [1], []⟩, ⟨1, 0, 1, [14], []⟩, ⟨0, 0, 0, [3], []⟩, ⟨0, 0, 0, [1], []⟩, ⟨1, 0, 0, [17], []⟩, ⟨0, 0, 0, [3], []⟩, ⟨0, 0, 0, [18, 19], []⟩, ⟨0, 0, 0, [20], []⟩, ⟨1, 0, 0, [21], []⟩, ⟨3, 0, 0, [22], []⟩, ⟨0, 0, 0, [15, 16], []⟩, ⟨0, 0, 0, [24], []⟩, ⟨3, 0, 0, [25, 23], []⟩] .leaf .leaf)
def dr244 : Tr (List HOp) := .leaf
def dr247 : Tr (List HOp) := .leaf
def dr248 : Tr (List HOp) := .leaf
def dr254 : Tr (List HOp) := (.node 5 [⟨2, 0, 0, [], []⟩, ⟨0, 0, 0, [3], []⟩, ⟨1, 0, 0, [30], []⟩, ⟨0, 0, 0, [7], []⟩, ⟨1, 0, 0, [31, 32], []⟩, ⟨3, 0, 0, [29, 33], [0]⟩, ⟨1, 0, 1, [5], []⟩, ⟨0, 0, 0, [1], []⟩, ⟨0, 0, 0, [35, 36], []⟩, ⟨2, 0, 0, [37], []⟩, ⟨3, 0, 0, [34, 38], [9]⟩, ⟨0, 0, 0, [39], []⟩] .leaf .leaf)
def dr257 : Tr (List HOp) := (.node 5 [⟨2, 0, 0, [], []⟩, ⟨0, 0, 0, [3], []⟩, ⟨1, 0, 0, [30], []⟩, ⟨0, 0, 0, [7], []⟩, ⟨1, 0, 0, [31, 32], []⟩, ⟨3, 0, 0, [29, 33], [0]⟩, ⟨1, 0, 1, [4], []⟩, ⟨0, 0, 0, [2], []⟩, ⟨0, 0, 0, [35, 36], []⟩, ⟨2, 0, 0, [37], []⟩, ⟨3, 0, 0, [34, 38], [9]⟩, ⟨0, 0, 0, [39], []⟩] (.node 3 [⟨0, 0, 0, [7], []⟩, ⟨0, 0, 0, [3], []⟩, ⟨1, 0, 0, [13], []⟩, ⟨0, 0, 0, [14], []⟩, ⟨0, 0, 0, [12, 15], []⟩, ⟨0, 0, 0, [16], []⟩, ⟨0, 0, 0, [3, 17], []⟩, ⟨1, 0, 0, [18, 17], []⟩, ⟨0, 0, 0, [7, 17], []⟩, ⟨0, 0, 0, [19, 20, 17], []⟩, ⟨0, 0, 0, [21, 17], []⟩, ⟨1, 0, 0, [22, 17], []⟩, ⟨1, 0, 0, [4, 17], []⟩, ⟨3, 0, 0, [23, 24, 17], []⟩, ⟨0, 0, 0, [17, 25], []⟩] .leaf .leaf) .leaf)
def dr259 : Tr (List HOp) := (.node 5 [⟨0, 0, 0, [2], []⟩, ⟨1, 0, 0, [14], []⟩, ⟨0, 0, 0, [6], []⟩, ⟨0, 0, 0, [15, 16], []⟩, ⟨0, 0, 0, [17], []⟩, ⟨1, 0, 0, [18], []⟩, ⟨1, 0, 0, [3], []⟩, ⟨0, 0, 0, [19, 20], []⟩] .leaf .leaf)
def dr263 : Tr (List HOp) := .leaf
def dr264 : Tr (List HOp) := .leaf
def dr271 : Tr (List HOp) := .leaf
def dr272 : Tr (List HOp) := (.node 6 [⟨0, 0, 0, [3], []⟩, ⟨0, 0, 0, [0], []⟩, ⟨0, 0, 0, [4], []⟩, ⟨0, 0, 0, [22, 23], []⟩, ⟨0, 0, 0, [24], []⟩, ⟨0, 0, 0, [25], []⟩, ⟨1, 0, 0, [26], []⟩, ⟨3, 0, 0, [27], []⟩, ⟨3, 0, 0, [21, 28], []⟩, ⟨0, 0, 0, [0], []⟩, ⟨0, 0, 0, [4], []⟩, ⟨0, 0, 0, [30, 31], []⟩, ⟨0, 0, 0, [32], []⟩, ⟨1, 0, 2, [33], []⟩, ⟨3, 0, 0, [34], []⟩, ⟨3, 0, 0, [29, 35], []⟩, ⟨0, 0, 0, [36], []⟩] .leaf .leaf)
def dr278 : Tr (List HOp) := .leaf
def dr279 : Tr (List HOp) := (.node 7 [⟨0, 0, 0, [4], []⟩, ⟨1, 0, 0, [26], []⟩, ⟨0, 0, 0, [27], []⟩, ⟨0, 0, 0, [28], []⟩, ⟨0, 0, 0, [4, 29], []⟩, ⟨1, 0, 0, [30, 29], []⟩, ⟨0, 0, 0, [31, 29], []⟩, ⟨0, 0, 0, [29, 32], []⟩, ⟨0, 0, 0, [33], []⟩, ⟨0, 0, 0, [4, 34], []⟩, ⟨1, 0, 0, [35, 34], []⟩, ⟨0, 0, 0, [36, 34], []⟩, ⟨0, 0, 0, [1, 34], []⟩, ⟨1, 0, 0, [38, 34], []⟩, ⟨0, 0, 0, [37, 39, 34], []⟩, ⟨0, 0, 0, [34, 40], []⟩, ⟨0, 0, 0, [41], []⟩, ⟨0, 0, 0, [4, 42], []⟩, ⟨1, 0, 0, [43, 42], []⟩, ⟨0, 0, 0, [44, 42], []⟩, ⟨0, 0, 0, [45, 42], []⟩, ⟨0, 0, 0, [42, 46], []⟩, ⟨0, 0, 0, [47], []⟩, ⟨0, 0, 0, [3, 48], []⟩, ⟨0, 0, 0, [49, 48], []⟩, ⟨0, 0, 0, [50, 48], []⟩, ⟨0, 0, 0, [4, 51], []⟩, ⟨1, 0, 0, [52, 51], []⟩, ⟨0, 0, 0, [1, 51], []⟩, ⟨1, 0, 0, [54, 51], []⟩, ⟨0, 0, 0, [3, 51], []⟩, ⟨0, 0, 0, [56, 51], []⟩, ⟨0, 0, 0, [55, 57, 51], []⟩, ⟨0, 0, 0, [58, 51], []⟩, ⟨1, 0, 0, [59, 51], []⟩, ⟨0, 0, 0, [53, 60, 51], []⟩, ⟨0, 0, 0, [51, 61, 48], []⟩, ⟨0, 0, 0, [48, 62], []⟩] .leaf .leaf)
def dr280 : Tr (List HOp) := .leaf
def dr281 : Tr (List HOp) := .leaf
def dr282 : Tr (List HOp) := (.node 10 [⟨0, 0, 0, [3], []⟩, ⟨1, 0, 0, [49], []⟩, ⟨0, 0, 0, [9], []⟩, ⟨0, 0, 0, [50, 51], []⟩, ⟨0, 0, 0, [52], []⟩, ⟨1, 0, 0, [53], []⟩, ⟨0, 0, 0, [7], []⟩, ⟨1, 0, 0, [55], []⟩, ⟨0, 0, 0, [54, 56], []⟩, ⟨0, 0, 0, [57], []⟩, ⟨0, 0, 0, [11, 58], []⟩, ⟨1, 0, 0, [59, 58], []⟩, ⟨0, 0, 0, [2, 58], []⟩, ⟨0, 0, 0, [60, 61, 58], []⟩, ⟨0, 0, 0, [58, 62], []⟩] .leaf .leaf)
def dr283 : Tr (List HOp) := .leaf
def dr284 : Tr (List HOp) := .leaf
def dr287 : Tr (List HOp) := .leaf
def dr288 : Tr (List HOp) := .leaf
def dr289 : Tr (List HOp) := .leaf
def dr290 : Tr (List HOp) := .leaf
noncomputable def hTree : Tr Hint := (.node 144 ⟨33231, dr144.get⟩ (.node 81 ⟨332307157403782402913007396294492111, dr81.get⟩ (.node 42 ⟨31, dr42.get⟩ (.node 27 ⟨31, dr27.get⟩ (.node 17 ⟨4398046527439, dr17.get⟩ (.node 12 ⟨4402358274039, dr12.get⟩ (.node 10 ⟨147573969084565552079, dr10.get⟩ (.node 5 ⟨18446744623465519091, dr5.get⟩ .leaf .leaf) .leaf) (.node 16 ⟨36029346774781903, dr16.get⟩ (.node 15 ⟨29, dr15.get⟩ .leaf .leaf) .leaf)) (.node 21 ⟨2099319, dr21.get⟩ (.node 20 ⟨71, dr20.get⟩ (.node 19 ⟨975, dr19.get⟩ .leaf .leaf) .leaf) (.node 25 ⟨131135, dr25.get⟩ (.node 23 ⟨8598325119, dr23.get⟩ .leaf .leaf) .leaf))) (.node 37 ⟨8797174632823, dr37.get⟩ (.node 34 ⟨1153484454627386359, dr34.get⟩ (.node 32 ⟨4503883095212095, dr32.get⟩ (.node 31 ⟨79383056208983298144258236399, dr31.get⟩ .leaf .leaf) .leaf) (.node 36 ⟨567, dr36.get⟩ (.node 35 ⟨19, dr35.get⟩ .leaf .leaf) .leaf)) (.node 40 ⟨4295226495, dr40.get⟩ (.node 39 ⟨2210511935, dr39.get⟩ (.node 38 ⟨31, dr38.get⟩ .leaf .leaf) .leaf) (.node 41 ⟨543, dr41.get⟩ .leaf .leaf)))) (.node 54 ⟨2099327, dr54.get⟩ (.node 49 ⟨8796097220559, dr49.get⟩ (.node 46 ⟨79, dr46.get⟩ (.node 44 ⟨335, dr44.get⟩ (.node 43 ⟨207, dr43.get⟩ .leaf .leaf) .leaf) (.node 48 ⟨5, dr48.get⟩ (.node 47 ⟨134223647, dr47.get⟩ .leaf .leaf) .leaf)) (.node 52 ⟨36897991781406244831, dr52.get⟩ (.node 51 ⟨5, dr51.get⟩ (.node 50 ⟨111, dr50.get⟩ .leaf .leaf) .leaf) (.node 53 ⟨7, dr53.get⟩ .leaf .leaf))) (.node 76 ⟨18926647685195718787581, dr76.get⟩ (.node 62 ⟨33571891, dr62.get⟩ (.node 61 ⟨131135, dr61.get⟩ (.node 55 ⟨2099319, dr55.get⟩ .leaf .leaf) .leaf) (.node 65 ⟨7, dr65.get⟩ (.node 63 ⟨31, dr63.get⟩ .leaf .leaf) .leaf)) (.node 79 ⟨295436425843771973599, dr79.get⟩ (.node 78 ⟨2363633199632179314655, dr78.get⟩ (.node 77 ⟨7, dr77.get⟩ .leaf .leaf) .leaf) (.node 80 ⟨4398600691663, dr80.get⟩ .leaf .leaf))))) (.node 104 ⟨21, dr104.get⟩ (.node 92 ⟨65791, dr92.get⟩ (.node 87 ⟨137506064511, dr87.get⟩ (.node 84 ⟨1152921504607961143, dr84.get⟩ (.node 83 ⟨1049039, dr83.get⟩ (.node 82 ⟨20450846824971610929518128152543, dr82.get⟩ .leaf .leaf) .leaf) (.node 86 ⟨1075839967, dr86.get⟩ (.node 85 ⟨543, dr85.get⟩ .leaf .leaf) .leaf)) (.node 90 ⟨335, dr90.get⟩ (.node 89 ⟨927, dr89.get⟩ (.node 88 ⟨140772921868351, dr88.get⟩ .leaf .leaf) .leaf) (.node 91 ⟨207, dr91.get⟩ .leaf .leaf))) (.node 99 ⟨55, dr99.get⟩ (.node 95 ⟨262623, dr95.get⟩ (.node 94 ⟨111, dr94.get⟩ (.node 93 ⟨140737555591071, dr93.get⟩ .leaf .leaf) .leaf) (.node 98 ⟨1231, dr98.get⟩ (.node 96 ⟨19961788446141301960980291535, dr96.get⟩ .leaf .leaf) .leaf)) (.node 102 ⟨2097399, dr102.get⟩ (.node 101 ⟨65663, dr101.get⟩ (.node 100 ⟨33015, dr100.get⟩ .leaf .leaf) .leaf) (.node 103 ⟨32887, dr103.get⟩ .leaf .leaf)))) (.node 133 ⟨34603511, dr133.get⟩ (.node 123 ⟨4503616840795071, dr123.get⟩ (.node 107 ⟨67109327, dr107.get⟩ (.node 106 ⟨288230925907543799, dr106.get⟩ (.node 105 ⟨67108991, dr105.get⟩ .leaf .leaf) .leaf) (.node 115 ⟨33015, dr115.get⟩ (.node 108 ⟨4127, dr108.get⟩ .leaf .leaf) .leaf)) (.node 130 ⟨7, dr130.get⟩ (.node 127 ⟨1967, dr127.get⟩ (.node 124 ⟨79, dr124.get⟩ .leaf .leaf) .leaf) (.node 132 ⟨8333, dr132.get⟩ .leaf .leaf))) (.node 139 ⟨16793663, dr139.get⟩ (.node 136 ⟨549757915087, dr136.get⟩ (.node 135 ⟨68736780151, dr135.get⟩ (.node 134 ⟨35184388994975, dr134.get⟩ .leaf .leaf) .leaf) (.node 138 ⟨19, dr138.get⟩ (.node 137 ⟨2104095, dr137.get⟩ .leaf .leaf) .leaf)) (.node 142 ⟨72058143810533151, dr142.get⟩ (.node 141 ⟨8606759999, dr141.get⟩ (.node 140 ⟨8447, dr140.get⟩ .leaf .leaf) .leaf) (.node 143 ⟨269485519, dr143.get⟩ .leaf .leaf)))))) (.node 220 ⟨1049655, dr220.get⟩ (.node 167 ⟨15391, dr167.get⟩ (.node 156 ⟨21267810201778898048460472582924664783, dr156.get⟩ (.node 150 ⟨1125899915235575, dr150.get⟩ (.node 147 ⟨2103, dr147.get⟩ (.node 146 ⟨279307124983, dr146.get⟩ (.node 145 ⟨137443153695, dr145.get⟩ .leaf .leaf) .leaf) (.node 149 ⟨5444686620382917967317114343346218730495, dr149.get⟩ (.node 148 ⟨16777487, dr148.get⟩ .leaf .leaf) .leaf)) (.node 153 ⟨23, dr153.get⟩ (.node 152 ⟨77371547603242546179997949, dr152.get⟩ (.node 151 ⟨2099319, dr151.get⟩ .leaf .leaf) .leaf) (.node 155 ⟨37778931899241045426719, dr155.get⟩ (.node 154 ⟨71, dr154.get⟩ .leaf .leaf) .leaf))) (.node 162 ⟨207, dr162.get⟩ (.node 159 ⟨73823295363195600591, dr159.get⟩ (.node 158 ⟨18448996149541998287, dr158.get⟩ (.node 157 ⟨56677909396853046119415, dr157.get⟩ .leaf .leaf) .leaf) (.node 161 ⟨31, dr161.get⟩ (.node 160 ⟨2147618775, dr160.get⟩ .leaf .leaf) .leaf)) (.node 165 ⟨55, dr165.get⟩ (.node 164 ⟨95, dr164.get⟩ (.node 163 ⟨31, dr163.get⟩ .leaf .leaf) .leaf) (.node 166 ⟨55, dr166.get⟩ .leaf .leaf)))) (.node 201 ⟨79, dr201.get⟩ (.node 174 ⟨2147614771, dr174.get⟩ (.node 171 ⟨65735, dr171.get⟩ (.node 170 ⟨65735, dr170.get⟩ (.node 168 ⟨7, dr168.get⟩ .leaf .leaf) .leaf) (.node 173 ⟨5, dr173.get⟩ (.node 172 ⟨2099319, dr172.get⟩ .leaf .leaf) .leaf)) (.node 177 ⟨735, dr177.get⟩ (.node 176 ⟨604275, dr176.get⟩ (.node 175 ⟨2099319, dr175.get⟩ .leaf .leaf) .leaf) (.node 188 ⟨111, dr188.get⟩ .leaf .leaf))) (.node 215 ⟨33571891, dr215.get⟩ (.node 212 ⟨1087, dr212.get⟩ (.node 211 ⟨463, dr211.get⟩ (.node 208 ⟨21, dr208.get⟩ .leaf .leaf) .leaf) (.node 214 ⟨207, dr214.get⟩ (.node 213 ⟨799, dr213.get⟩ .leaf .leaf) .leaf)) (.node 218 ⟨8796093039055, dr218.get⟩ (.node 217 ⟨136315343, dr217.get⟩ (.node 216 ⟨183, dr216.get⟩ .leaf .leaf) .leaf) (.node 219 ⟨275549028855, dr219.get⟩ .leaf .leaf))))) (.node 243 ⟨7183, dr243.get⟩ (.node 231 ⟨17389, dr231.get⟩ (.node 226 ⟨31, dr226.get⟩ (.node 223 ⟨2305878211034117919, dr223.get⟩ (.node 222 ⟨137447346423, dr222.get⟩ (.node 221 ⟨2658455991569909665142811848005910719, dr221.get⟩ .leaf .leaf) .leaf) (.node 225 ⟨73795987894286958431, dr225.get⟩ (.node 224 ⟨5, dr224.get⟩ .leaf .leaf) .leaf)) (.node 229 ⟨140737488356063, dr229.get⟩ (.node 228 ⟨36893488147427526639, dr228.get⟩ (.node 227 ⟨31, dr227.get⟩ .leaf .leaf) .leaf) (.node 230 ⟨8388863, dr230.get⟩ .leaf .leaf))) (.node 238 ⟨23, dr238.get⟩ (.node 235 ⟨23, dr235.get⟩ (.node 234 ⟨23, dr234.get⟩ (.node 232 ⟨604275, dr232.get⟩ .leaf .leaf) .leaf) (.node 237 ⟨2147618759, dr237.get⟩ (.node 236 ⟨79, dr236.get⟩ .leaf .leaf) .leaf)) (.node 241 ⟨23, dr241.get⟩ (.node 240 ⟨2147618759, dr240.get⟩ (.node 239 ⟨604275, dr239.get⟩ .leaf .leaf) .leaf) (.node 242 ⟨21, dr242.get⟩ .leaf .leaf)))) (.node 278 ⟨67110007, dr278.get⟩ (.node 259 ⟨2099327, dr259.get⟩ (.node 248 ⟨23, dr248.get⟩ (.node 247 ⟨5, dr247.get⟩ (.node 244 ⟨21, dr244.get⟩ .leaf .leaf) .leaf) (.node 257 ⟨67109343, dr257.get⟩ (.node 254 ⟨67109359, dr254.get⟩ .leaf .leaf) .leaf)) (.node 271 ⟨5, dr271.get⟩ (.node 264 ⟨2099319, dr264.get⟩ (.node 263 ⟨32781, dr263.get⟩ .leaf .leaf) .leaf) (.node 272 ⟨285, dr272.get⟩ .leaf .leaf))) (.node 284 ⟨5, dr284.get⟩ (.node 281 ⟨131635, dr281.get⟩ (.node 280 ⟨524429, dr280.get⟩ (.node 279 ⟨9671452673777217671798847, dr279.get⟩ .leaf .leaf) .leaf) (.node 283 ⟨23, dr283.get⟩ (.node 282 ⟨83010629815263825615, dr282.get⟩ .leaf .leaf) .leaf)) (.node 289 ⟨21, dr289.get⟩ (.node 288 ⟨5, dr288.get⟩ (.node 287 ⟨1231, dr287.get⟩ .leaf .leaf) .leaf) (.node 290 ⟨21, dr290.get⟩ .leaf .leaf)))))))
def oTree : Tr Bool := (.node 208 true (.node 160 true (.node 104 true (.node 102 true (.node 101 true .leaf .leaf) .leaf) (.node 130 true (.node 108 true .leaf .leaf) .leaf)) (.node 170 true (.node 168 true (.node 167 true .leaf .leaf) .leaf) (.node 171 true .leaf .leaf))) (.node 271 true (.node 242 true (.node 240 true (.node 237 true .leaf .leaf) .leaf) (.node 244 true (.node 243 true .leaf .leaf) .leaf)) (.node 289 true (.node 278 true (.node 272 true .leaf .leaf) .leaf) (.node 290 true .leaf .leaf))))
def iTree : Tr (Nat × Nat) := (.node 169 (8, 104) (.node 131 (3, 24) .leaf .leaf) (.node 233 (2, 24) .leaf .leaf))
noncomputable def E0 : Env := { T := tTree.get, G := gTree.get, hint := hTree.get, own := fun n => (oTree.get n).isSome, ins := iTree.get, orc := fun _ => none }
theorem tOk : tTree.allB (fun k i => ifb (tiB Go.Proofs.Tryz.prog k i) (impB i.eq (ifb (Nat.beq k 162) (eqAV (.agg i.zero) (.agg [.str [], .int .i64 0])) (ifb (Nat.beq k 65) (eqAV (.agg i.zero) (.agg [.int .i64 0, .int .i64 0])) (false)))) false) = true := by decide +kernel
theorem tAll : tTree.All fun k i => tiB Go.Proofs.Tryz.prog k i = true ∧ (i.eq = true → EqOk Go.Proofs.Tryz.prog k i.zero) := by
  refine Tr.all_of (fun k i h => ?_) tOk
  obtain ⟨h1, h2⟩ := ifb_and h
  refine ⟨h1, fun he => ?_⟩
  have h0 := impB_mp h2 he
  rcases ifb_some2 h0 with ⟨h3, h4⟩ | h0
  · have := eqAV_true _ _ h4
    injection this with this
    rw [beq_eq_of h3, this]; exact Go.Proofs.eq162
  rcases ifb_some2 h0 with ⟨h3, h4⟩ | h0
  · have := eqAV_true _ _ h4
    injection this with this
    rw [beq_eq_of h3, this]; exact Go.Proofs.eq65
  cases h0
theorem fOk5 : Go.Proofs.Tryz.prog.funcs[5]? = some Go.Proofs.Tryz.f5 ∧ Go.Proofs.Tryz.f5.name ≠ "runtime.NumGoroutine" := ⟨Go.Proofs.Tryz.func5, by decide +kernel⟩
theorem fOk10 : Go.Proofs.Tryz.prog.funcs[10]? = some Go.Proofs.Tryz.f10 ∧ Go.Proofs.Tryz.f10.name ≠ "runtime.NumGoroutine" := ⟨Go.Proofs.Tryz.func10, by decide +kernel⟩
theorem fOk12 : Go.Proofs.Tryz.prog.funcs[12]? = some Go.Proofs.Tryz.f12 ∧ Go.Proofs.Tryz.f12.name ≠ "runtime.NumGoroutine" := ⟨Go.Proofs.Tryz.func12, by decide +kernel⟩
theorem fOk15 : Go.Proofs.Tryz.prog.funcs[15]? = some Go.Proofs.Tryz.f15 ∧ Go.Proofs.Tryz.f15.name ≠ "runtime.NumGoroutine" := ⟨Go.Proofs.Tryz.func15, by decide +kernel⟩
theorem fOk16 : Go.Proofs.Tryz.prog.funcs[16]? = some Go.Proofs.Tryz.f16 ∧ Go.Proofs.Tryz.f16.name ≠ "runtime.NumGoroutine" := ⟨Go.Proofs.Tryz.func16, by decide +kernel⟩
theorem fOk17 : Go.Proofs.Tryz.prog.funcs[17]? = some Go.Proofs.Tryz.f17 ∧ Go.Proofs.Tryz.f17.name ≠ "runtime.NumGoroutine" := ⟨Go.Proofs.Tryz.func17, by decide +kernel⟩
theorem fOk19 : Go.Proofs.Tryz.prog.funcs[19]? = some Go.Proofs.Tryz.f19 ∧ Go.Proofs.Tryz.f19.name ≠ "runtime.NumGoroutine" := ⟨Go.Proofs.Tryz.func19, by decide +kernel⟩
theorem fOk20 : Go.Proofs.Tryz.prog.funcs[20]? = some Go.Proofs.Tryz.f20 ∧ Go.Proofs.Tryz.f20.name ≠ "runtime.NumGoroutine" := ⟨Go.Proofs.Tryz.func20, by decide +kernel⟩
theorem fOk21 : Go.Proofs.Tryz.prog.funcs[21]? = some Go.Proofs.Tryz.f21 ∧ Go.Proofs.Tryz.f21.name ≠ "runtime.NumGoroutine" := ⟨Go.Proofs.Tryz.func21, by decide +kernel⟩
theorem fOk23 : Go.Proofs.Tryz.prog.funcs[23]? = some Go.Proofs.Tryz.f23 ∧ Go.Proofs.Tryz.f23.name ≠ "runtime.NumGoroutine" := ⟨Go.Proofs.Tryz.func23, by decide +kernel⟩
theorem fOk25 : Go.Proofs.Tryz.prog.funcs[25]? = some Go.Proofs.Tryz.f25 ∧ Go.Proofs.Tryz.f25.name ≠ "runtime.NumGoroutine" := ⟨Go.Proofs.Tryz.func25, by decide +kernel⟩
theorem fOk27 : Go.Proofs.Tryz.prog.funcs[27]? = some Go.Proofs.Tryz.f27 ∧ Go.Proofs.Tryz.f27.name ≠ "runtime.NumGoroutine" := ⟨Go.Proofs.Tryz.func27, by decide +kernel⟩
theorem fOk31 : Go.Proofs.Tryz.prog.funcs[31]? = some Go.Proofs.Tryz.f31 ∧ Go.Proofs.Tryz.f31.name ≠ "runtime.NumGoroutine" := ⟨Go.Proofs.Tryz.func31, by decide +kernel⟩
theorem fOk32 : Go.Proofs.Tryz.prog.funcs[32]? = some Go.Proofs.Tryz.f32 ∧ Go.Proofs.Tryz.f32.name ≠ "runtime.NumGoroutine" := ⟨Go.Proofs.Tryz.func32, by decide +kernel⟩
theorem fOk34 : Go.Proofs.Tryz.prog.funcs[34]? = some Go.Proofs.Tryz.f34 ∧ Go.Proofs.Tryz.f34.name ≠ "runtime.NumGoroutine" := ⟨Go.Proofs.Tryz.func34, by decide +kernel⟩
theorem fOk35 : Go.Proofs.Tryz.prog.funcs[35]? = some Go.Proofs.Tryz.f35 ∧ Go.Proofs.Tryz.f35.name ≠ "runtime.NumGoroutine" := ⟨Go.Proofs.Tryz.func35, by decide +kernel⟩
theorem fOk36 : Go.Proofs.Tryz.prog.funcs[36]? = some Go.Proofs.Tryz.f36 ∧ Go.Proofs.Tryz.f36.name ≠ "runtime.NumGoroutine" := ⟨Go.Proofs.Tryz.func36, by decide +kernel⟩
theorem fOk37 : Go.Proofs.Tryz.prog.funcs[37]? = some Go.Proofs.Tryz.f37 ∧ Go.Proofs.Tryz.f37.name ≠ "runtime.NumGoroutine" := ⟨Go.Proofs.Tryz.func37, by decide +kernel⟩
theorem fOk38 : Go.Proofs.Tryz.prog.funcs[38]? = some Go.Proofs.Tryz.f38 ∧ Go.Proofs.Tryz.f38.name ≠ "runtime.NumGoroutine" := ⟨Go.Proofs.Tryz.func38, by decide +kernel⟩
theorem fOk39 : Go.Proofs.Tryz.prog.funcs[39]? = some Go.Proofs.Tryz.f39 ∧ Go.Proofs.Tryz.f39.name ≠ "runtime.NumGoroutine" := ⟨Go.Proofs.Tryz.func39, by decide +kernel⟩
theorem fOk40 : Go.Proofs.Tryz.prog.funcs[40]? = some Go.Proofs.Tryz.f40 ∧ Go.Proofs.Tryz.f40.name ≠ "runtime.NumGoroutine" := ⟨Go.Proofs.Tryz.func40, by decide +kernel⟩
theorem fOk41 : Go.Proofs.Tryz.prog.funcs[41]? = some Go.Proofs.Tryz.f41 ∧ Go.Proofs.Tryz.f41.name ≠ "runtime.NumGoroutine" := ⟨Go.Proofs.Tryz.func41, by decide +kernel⟩
theorem fOk42 : Go.Proofs.Tryz.prog.funcs[42]? = some Go.Proofs.Tryz.f42 ∧ Go.Proofs.Tryz.f42.name ≠ "runtime.NumGoroutine" := ⟨Go.Proofs.Tryz.func42, by decide +kernel⟩
theorem fOk43 : Go.Proofs.Tryz.prog.funcs[43]? = some Go.Proofs.Tryz.f43 ∧ Go.Proofs.Tryz.f43.name ≠ "runtime.NumGoroutine" := ⟨Go.Proofs.Tryz.func43, by decide +kernel⟩
theorem fOk44 : Go.Proofs.Tryz.prog.funcs[44]? = some Go.Proofs.Tryz.f44 ∧ Go.Proofs.Tryz.f44.name ≠ "runtime.NumGoroutine" := ⟨Go.Proofs.Tryz.func44, by decide +kernel⟩
theorem fOk46 : Go.Proofs.Tryz.prog.funcs[46]? = some Go.Proofs.Tryz.f46 ∧ Go.Proofs.Tryz.f46.name ≠ "runtime.NumGoroutine" := ⟨Go.Proofs.Tryz.func46, by decide +kernel⟩
theorem fOk47 : Go.Proofs.Tryz.prog.funcs[47]? = some Go.Proofs.Tryz.f47 ∧ Go.Proofs.Tryz.f47.name ≠ "runtime.NumGoroutine" := ⟨Go.Proofs.Tryz.func47, by decide +kernel⟩
theorem fOk48 : Go.Proofs.Tryz.prog.funcs[48]? = some Go.Proofs.Tryz.f48 ∧ Go.Proofs.Tryz.f48.name ≠ "runtime.NumGoroutine" := ⟨Go.Proofs.Tryz.func48, by decide +kernel⟩
theorem fOk49 : Go.Proofs.Tryz.prog.funcs[49]? = some Go.Proofs.Tryz.f49 ∧ Go.Proofs.Tryz.f49.name ≠ "runtime.NumGoroutine" := ⟨Go.Proofs.Tryz.func49, by decide +kernel⟩
theorem fOk50 : Go.Proofs.Tryz.prog.funcs[50]? = some Go.Proofs.Tryz.f50 ∧ Go.Proofs.Tryz.f50.name ≠ "runtime.NumGoroutine" := ⟨Go.Proofs.Tryz.func50, by decide +kernel⟩
theorem fOk51 : Go.Proofs.Tryz.prog.funcs[51]? = some Go.Proofs.Tryz.f51 ∧ Go.Proofs.Tryz.f51.name ≠ "runtime.NumGoroutine" := ⟨Go.Proofs.Tryz.func51, by decide +kernel⟩
theorem fOk52 : Go.Proofs.Tryz.prog.funcs[52]? = some Go.Proofs.Tryz.f52 ∧ Go.Proofs.Tryz.f52.name ≠ "runtime.NumGoroutine" := ⟨Go.Proofs.Tryz.func52, by decide +kernel⟩
theorem fOk53 : Go.Proofs.Tryz.prog.funcs[53]? = some Go.Proofs.Tryz.f53 ∧ Go.Proofs.Tryz.f53.name ≠ "runtime.NumGoroutine" := ⟨Go.Proofs.Tryz.func53, by decide +kernel⟩
theorem fOk54 : Go.Proofs.Tryz.prog.funcs[54]? = some Go.Proofs.Tryz.f54 ∧ Go.Proofs.Tryz.f54.name ≠ "runtime.NumGoroutine" := ⟨Go.Proofs.Tryz.func54, by decide +kernel⟩
theorem fOk55 : Go.Proofs.Tryz.prog.funcs[55]? = some Go.Proofs.Tryz.f55 ∧ Go.Proofs.Tryz.f55.name ≠ "runtime.NumGoroutine" := ⟨Go.Proofs.Tryz.func55, by decide +kernel⟩
theorem fOk61 : Go.Proofs.Tryz.prog.funcs[61]? = some Go.Proofs.Tryz.f61 ∧ Go.Proofs.Tryz.f61.name ≠ "runtime.NumGoroutine" := ⟨Go.Proofs.Tryz.func61, by decide +kernel⟩
theorem fOk62 : Go.Proofs.Tryz.prog.funcs[62]? = some Go.Proofs.Tryz.f62 ∧ Go.Proofs.Tryz.f62.name ≠ "runtime.NumGoroutine" := ⟨Go.Proofs.Tryz.func62, by decide +kernel⟩
theorem fOk63 : Go.Proofs.Tryz.prog.funcs[63]? = some Go.Proofs.Tryz.f63 ∧ Go.Proofs.Tryz.f63.name ≠ "runtime.NumGoroutine" := ⟨Go.Proofs.Tryz.func63, by decide +kernel⟩
theorem fOk65 : Go.Proofs.Tryz.prog.funcs[65]? = some Go.Proofs.Tryz.f65 ∧ Go.Proofs.Tryz.f65.name ≠ "runtime.NumGoroutine" := ⟨Go.Proofs.Tryz.func65, by decide +kernel⟩
theorem fOk76 : Go.Proofs.Tryz.prog.funcs[76]? = some Go.Proofs.Tryz.f76 ∧ Go.Proofs.Tryz.f76.name ≠ "runtime.NumGoroutine" := ⟨Go.Proofs.Tryz.func76, by decide +kernel⟩
theorem fOk77 : Go.Proofs.Tryz.prog.funcs[77]? = some Go.Proofs.Tryz.f77 ∧ Go.Proofs.Tryz.f77.name ≠ "runtime.NumGoroutine" := ⟨Go.Proofs.Tryz.func77, by decide +kernel⟩
theorem fOk78 : Go.Proofs.Tryz.prog.funcs[78]? = some Go.Proofs.Tryz.f78 ∧ Go.Proofs.Tryz.f78.name ≠ "runtime.NumGoroutine" := ⟨Go.Proofs.Tryz.func78, by decide +kernel⟩
theorem fOk79 : Go.Proofs.Tryz.prog.funcs[79]? = some Go.Proofs.Tryz.f79 ∧ Go.Proofs.Tryz.f79.name ≠ "runtime.NumGoroutine" := ⟨Go.Proofs.Tryz.func79, by decide +kernel⟩
theorem fOk80 : Go.Proofs.Tryz.prog.funcs[80]? = some Go.Proofs.Tryz.f80 ∧ Go.Proofs.Tryz.f80.name ≠ "runtime.NumGoroutine" := ⟨Go.Proofs.Tryz.func80, by decide +kernel⟩
theorem fOk81 : Go.Proofs.Tryz.prog.funcs[81]? = some Go.Proofs.Tryz.f81 ∧ Go.Proofs.Tryz.f81.name ≠ "runtime.NumGoroutine" := ⟨Go.Proofs.Tryz.func81, by decide +kernel⟩
theorem fOk82 : Go.Proofs.Tryz.prog.funcs[82]? = some Go.Proofs.Tryz.f82 ∧ Go.Proofs.Tryz.f82.name ≠ "runtime.NumGoroutine" := ⟨Go.Proofs.Tryz.func82, by decide +kernel⟩
theorem fOk83 : Go.Proofs.Tryz.prog.funcs[83]? = some Go.Proofs.Tryz.f83 ∧ Go.Proofs.Tryz.f83.name ≠ "runtime.NumGoroutine" := ⟨Go.Proofs.Tryz.func83, by decide +kernel⟩
theorem fOk84 : Go.Proofs.Tryz.prog.funcs[84]? = some Go.Proofs.Tryz.f84 ∧ Go.Proofs.Tryz.f84.name ≠ "runtime.NumGoroutine" := ⟨Go.Proofs.Tryz.func84, by decide +kernel⟩
theorem fOk85 : Go.Proofs.Tryz.prog.funcs[85]? = some Go.Proofs.Tryz.f85 ∧ Go.Proofs.Tryz.f85.name ≠ "runtime.NumGoroutine" := ⟨Go.Proofs.Tryz.func85, by decide +kernel⟩
theorem fOk86 : Go.Proofs.Tryz.prog.funcs[86]? = some Go.Proofs.Tryz.f86 ∧ Go.Proofs.Tryz.f86.name ≠ "runtime.NumGoroutine" := ⟨Go.Proofs.Tryz.func86, by decide +kernel⟩
theorem fOk87 : Go.Proofs.Tryz.prog.funcs[87]? = some Go.Proofs.Tryz.f87 ∧ Go.Proofs.Tryz.f87.name ≠ "runtime.NumGoroutine" := ⟨Go.Proofs.Tryz.func87, by decide +kernel⟩
theorem fOk88 : Go.Proofs.Tryz.prog.funcs[88]? = some Go.Proofs.Tryz.f88 ∧ Go.Proofs.Tryz.f88.name ≠ "runtime.NumGoroutine" := ⟨Go.Proofs.Tryz.func88, by decide +kernel⟩
theorem fOk89 : Go.Proofs.Tryz.prog.funcs[89]? = some Go.Proofs.Tryz.f89 ∧ Go.Proofs.Tryz.f89.name ≠ "runtime.NumGoroutine" := ⟨Go.Proofs.Tryz.func89, by decide +kernel⟩
theorem fOk90 : Go.Proofs.Tryz.prog.funcs[90]? = some Go.Proofs.Tryz.f90 ∧ Go.Proofs.Tryz.f90.name ≠ "runtime.NumGoroutine" := ⟨Go.Proofs.Tryz.func90, by decide +kernel⟩
theorem fOk91 : Go.Proofs.Tryz.prog.funcs[91]? = some Go.Proofs.Tryz.f91 ∧ Go.Proofs.Tryz.f91.name ≠ "runtime.NumGoroutine" := ⟨Go.Proofs.Tryz.func91, by decide +kernel⟩
theorem fOk92 : Go.Proofs.Tryz.prog.funcs[92]? = some Go.Proofs.Tryz.f92 ∧ Go.Proofs.Tryz.f92.name ≠ "runtime.NumGoroutine" := ⟨Go.Proofs.Tryz.func92, by decide +kernel⟩
theorem fOk93 : Go.Proofs.Tryz.prog.funcs[93]? = some Go.Proofs.Tryz.f93 ∧ Go.Proofs.Tryz.f93.name ≠ "runtime.NumGoroutine" := ⟨Go.Proofs.Tryz.func93, by decide +kernel⟩
theorem fOk94 : Go.Proofs.Tryz.prog.funcs[94]? = some Go.Proofs.Tryz.f94 ∧ Go.Proofs.Tryz.f94.name ≠ "runtime.NumGoroutine" := ⟨Go.Proofs.Tryz.func94, by decide +kernel⟩
theorem fOk95 : Go.Proofs.Tryz.prog.funcs[95]? = some Go.Proofs.Tryz.f95 ∧ Go.Proofs.Tryz.f95.name ≠ "runtime.NumGoroutine" := ⟨Go.Proofs.Tryz.func95, by decide +kernel⟩
theorem fOk96 : Go.Proofs.Tryz.prog.funcs[96]? = some Go.Proofs.Tryz.f96 ∧ Go.Proofs.Tryz.f96.name ≠ "runtime.NumGoroutine" := ⟨Go.Proofs.Tryz.func96, by decide +kernel⟩
theorem fOk98 : Go.Proofs.Tryz.prog.funcs[98]? = some Go.Proofs.Tryz.f98 ∧ Go.Proofs.Tryz.f98.name ≠ "runtime.NumGoroutine" := ⟨Go.Proofs.Tryz.func98, by decide +kernel⟩
theorem fOk99 : Go.Proofs.Tryz.prog.funcs[99]? = some Go.Proofs.Tryz.f99 ∧ Go.Proofs.Tryz.f99.name ≠ "runtime.NumGoroutine" := ⟨Go.Proofs.Tryz.func99, by decide +kernel⟩
theorem fOk100 : Go.Proofs.Tryz.prog.funcs[100]? = some Go.Proofs.Tryz.f100 ∧ Go.Proofs.Tryz.f100.name ≠ "runtime.NumGoroutine" := ⟨Go.Proofs.Tryz.func100, by decide +kernel⟩
theorem fOk101 : Go.Proofs.Tryz.prog.funcs[101]? = some Go.Proofs.Tryz.f101 ∧ Go.Proofs.Tryz.f101.name ≠ "runtime.NumGoroutine" := ⟨Go.Proofs.Tryz.func101, by decide +kernel⟩
theorem fOk102 : Go.Proofs.Tryz.prog.funcs[102]? = some Go.Proofs.Tryz.f102 ∧ Go.Proofs.Tryz.f102.name ≠ "runtime.NumGoroutine" := ⟨Go.Proofs.Tryz.func102, by decide +kernel⟩
theorem fOk103 : Go.Proofs.Tryz.prog.funcs[103]? = some Go.Proofs.Tryz.f103 ∧ Go.Proofs.Tryz.f103.name ≠ "runtime.NumGoroutine" := ⟨Go.Proofs.Tryz.func103, by decide +kernel⟩
theorem fOk104 : Go.Proofs.Tryz.prog.funcs[104]? = some Go.Proofs.Tryz.f104 ∧ Go.Proofs.Tryz.f104.name ≠ "runtime.NumGoroutine" := ⟨Go.Proofs.Tryz.func104, by decide +kernel⟩
theorem fOk105 : Go.Proofs.Tryz.prog.funcs[105]? = some Go.Proofs.Tryz.f105 ∧ Go.Proofs.Tryz.f105.name ≠ "runtime.NumGoroutine" := ⟨Go.Proofs.Tryz.func105, by decide +kernel⟩
theorem fOk106 : Go.Proofs.Tryz.prog.funcs[106]? = some Go.Proofs.Tryz.f106 ∧ Go.Proofs.Tryz.f106.name ≠ "runtime.NumGoroutine" := ⟨Go.Proofs.Tryz.func106, by decide +kernel⟩
theorem fOk107 : Go.Proofs.Tryz.prog.funcs[107]? = some Go.Proofs.Tryz.f107 ∧ Go.Proofs.Tryz.f107.name ≠ "runtime.NumGoroutine" := ⟨Go.Proofs.Tryz.func107, by decide +kernel⟩
theorem fOk108 : Go.Proofs.Tryz.prog.funcs[108]? = some Go.Proofs.Tryz.f108 ∧ Go.Proofs.Tryz.f108.name ≠ "runtime.NumGoroutine" := ⟨Go.Proofs.Tryz.func108, by decide +kernel⟩
theorem fOk115 : Go.Proofs.Tryz.prog.funcs[115]? = some Go.Proofs.Tryz.f115 ∧ Go.Proofs.Tryz.f115.name ≠ "runtime.NumGoroutine" := ⟨Go.Proofs.Tryz.func115, by decide +kernel⟩
theorem fOk123 : Go.Proofs.Tryz.prog.funcs[123]? = some Go.Proofs.Tryz.f123 ∧ Go.Proofs.Tryz.f123.name ≠ "runtime.NumGoroutine" := ⟨Go.Proofs.Tryz.func123, by decide +kernel⟩
theorem fOk124 : Go.Proofs.Tryz.prog.funcs[124]? = some Go.Proofs.Tryz.f124 ∧ Go.Proofs.Tryz.f124.name ≠ "runtime.NumGoroutine" := ⟨Go.Proofs.Tryz.func124, by decide +kernel⟩
theorem fOk127 : Go.Proofs.Tryz.prog.funcs[127]? = some Go.Proofs.Tryz.f127 ∧ Go.Proofs.Tryz.f127.name ≠ "runtime.NumGoroutine" := ⟨Go.Proofs.Tryz.func127, by decide +kernel⟩
theorem fOk130 : Go.Proofs.Tryz.prog.funcs[130]? = some Go.Proofs.Tryz.f130 ∧ Go.Proofs.Tryz.f130.name ≠ "runtime.NumGoroutine" := ⟨Go.Proofs.Tryz.func130, by decide +kernel⟩
theorem fOk132 : Go.Proofs.Tryz.prog.funcs[132]? = some Go.Proofs.Tryz.f132 ∧ Go.Proofs.Tryz.f132.name ≠ "runtime.NumGoroutine" := ⟨Go.Proofs.Tryz.func132, by decide +kernel⟩
theorem fOk133 : Go.Proofs.Tryz.prog.funcs[133]? = some Go.Proofs.Tryz.f133 ∧ Go.Proofs.Tryz.f133.name ≠ "runtime.NumGoroutine" := ⟨Go.Proofs.Tryz.func133, by decide +kernel⟩
theorem fOk134 : Go.Proofs.Tryz.prog.funcs[134]? = some Go.Proofs.Tryz.f134 ∧ Go.Proofs.Tryz.f134.name ≠ "runtime.NumGoroutine" := ⟨Go.Proofs.Tryz.func134, by decide +kernel⟩
theorem fOk135 : Go.Proofs.Tryz.prog.funcs[135]? = some Go.Proofs.Tryz.f135 ∧ Go.Proofs.Tryz.f135.name ≠ "runtime.NumGoroutine" := ⟨Go.Proofs.Tryz.func135, by decide +kernel⟩
theorem fOk136 : Go.Proofs.Tryz.prog.funcs[136]? = some Go.Proofs.Tryz.f136 ∧ Go.Proofs.Tryz.f136.name ≠ "runtime.NumGoroutine" := ⟨Go.Proofs.Tryz.func136, by decide +kernel⟩
theorem fOk137 : Go.Proofs.Tryz.prog.funcs[137]? = some Go.Proofs.Tryz.f137 ∧ Go.Proofs.Tryz.f137.name ≠ "runtime.NumGoroutine" := ⟨Go.Proofs.Tryz.func137, by decide +kernel⟩
theorem fOk138 : Go.Proofs.Tryz.prog.funcs[138]? = some Go.Proofs.Tryz.f138 ∧ Go.Proofs.Tryz.f138.name ≠ "runtime.NumGoroutine" := ⟨Go.Proofs.Tryz.func138, by decide +kernel⟩
theorem fOk139 : Go.Proofs.Tryz.prog.funcs[139]? = some Go.Proofs.Tryz.f139 ∧ Go.Proofs.Tryz.f139.name ≠ "runtime.NumGoroutine" := ⟨Go.Proofs.Tryz.func139, by decide +kernel⟩
theorem fOk140 : Go.Proofs.Tryz.prog.funcs[140]? = some Go.Proofs.Tryz.f140 ∧ Go.Proofs.Tryz.f140.name ≠ "runtime.NumGoroutine" := ⟨Go.Proofs.Tryz.func140, by decide +kernel⟩
theorem fOk141 : Go.Proofs.Tryz.prog.funcs[141]? = some Go.Proofs.Tryz.f141 ∧ Go.Proofs.Tryz.f141.name ≠ "runtime.NumGoroutine" := ⟨Go.Proofs.Tryz.func141, by decide +kernel⟩
theorem fOk142 : Go.Proofs.Tryz.prog.funcs[142]? = some Go.Proofs.Tryz.f142 ∧ Go.Proofs.Tryz.f142.name ≠ "runtime.NumGoroutine" := ⟨Go.Proofs.Tryz.func142, by decide +kernel⟩
theorem fOk143 : Go.Proofs.Tryz.prog.funcs[143]? = some Go.Proofs.Tryz.f143 ∧ Go.Proofs.Tryz.f143.name ≠ "runtime.NumGoroutine" := ⟨Go.Proofs.Tryz.func143, by decide +kernel⟩
theorem fOk144 : Go.Proofs.Tryz.prog.funcs[144]? = some Go.Proofs.Tryz.f144 ∧ Go.Proofs.Tryz.f144.name ≠ "runtime.NumGoroutine" := ⟨Go.Proofs.Tryz.func144, by decide +kernel⟩
theorem fOk145 : Go.Proofs.Tryz.prog.funcs[145]? = some Go.Proofs.Tryz.f145 ∧ Go.Proofs.Tryz.f145.name ≠ "runtime.NumGoroutine" := ⟨Go.Proofs.Tryz.func145, by decide +kernel⟩
theorem fOk146 : Go.Proofs.Tryz.prog.funcs[146]? = some Go.Proofs.Tryz.f146 ∧ Go.Proofs.Tryz.f146.name ≠ "runtime.NumGoroutine" := ⟨Go.Proofs.Tryz.func146, by decide +kernel⟩
theorem fOk147 : Go.Proofs.Tryz.prog.funcs[147]? = some Go.Proofs.Tryz.f147 ∧ Go.Proofs.Tryz.f147.name ≠ "runtime.NumGoroutine" := ⟨Go.Proofs.Tryz.func147, by decide +kernel⟩
theorem fOk148 : Go.Proofs.Tryz.prog.funcs[148]? = some Go.Proofs.Tryz.f148 ∧ Go.Proofs.Tryz.f148.name ≠ "runtime.NumGoroutine" := ⟨Go.Proofs.Tryz.func148, by decide +kernel⟩
theorem fOk149 : Go.Proofs.Tryz.prog.funcs[149]? = some Go.Proofs.Tryz.f149 ∧ Go.Proofs.Tryz.f149.name ≠ "runtime.NumGoroutine" := ⟨Go.Proofs.Tryz.func149, by decide +kernel⟩
theorem fOk150 : Go.Proofs.Tryz.prog.funcs[150]? = some Go.Proofs.Tryz.f150 ∧ Go.Proofs.Tryz.f150.name ≠ "runtime.NumGoroutine" := ⟨Go.Proofs.Tryz.func150, by decide +kernel⟩
theorem fOk151 : Go.Proofs.Tryz.prog.funcs[151]? = some Go.Proofs.Tryz.f151 ∧ Go.Proofs.Tryz.f151.name ≠ "runtime.NumGoroutine" := ⟨Go.Proofs.Tryz.func151, by decide +kernel⟩
theorem fOk152 : Go.Proofs.Tryz.prog.funcs[152]? = some Go.Proofs.Tryz.f152 ∧ Go.Proofs.Tryz.f152.name ≠ "runtime.NumGoroutine" := ⟨Go.Proofs.Tryz.func152, by decide +kernel⟩
theorem fOk153 : Go.Proofs.Tryz.prog.funcs[153]? = some Go.Proofs.Tryz.f153 ∧ Go.Proofs.Tryz.f153.name ≠ "runtime.NumGoroutine" := ⟨Go.Proofs.Tryz.func153, by decide +kernel⟩
theorem fOk154 : Go.Proofs.Tryz.prog.funcs[154]? = some Go.Proofs.Tryz.f154 ∧ Go.Proofs.Tryz.f154.name ≠ "runtime.NumGoroutine" := ⟨Go.Proofs.Tryz.func154, by decide +kernel⟩
theorem fOk155 : Go.Proofs.Tryz.prog.funcs[155]? = some Go.Proofs.Tryz.f155 ∧ Go.Proofs.Tryz.f155.name ≠ "runtime.NumGoroutine" := ⟨Go.Proofs.Tryz.func155, by decide +kernel⟩
theorem fOk156 : Go.Proofs.Tryz.prog.funcs[156]? = some Go.Proofs.Tryz.f156 ∧ Go.Proofs.Tryz.f156.name ≠ "runtime.NumGoroutine" := ⟨Go.Proofs.Tryz.func156, by decide +kernel⟩
theorem fOk157 : Go.Proofs.Tryz.prog.funcs[157]? = some Go.Proofs.Tryz.f157 ∧ Go.Proofs.Tryz.f157.name ≠ "runtime.NumGoroutine" := ⟨Go.Proofs.Tryz.func157, by decide +kernel⟩
theorem fOk158 : Go.Proofs.Tryz.prog.funcs[158]? = some Go.Proofs.Tryz.f158 ∧ Go.Proofs.Tryz.f158.name ≠ "runtime.NumGoroutine" := ⟨Go.Proofs.Tryz.func158, by decide +kernel⟩
theorem fOk159 : Go.Proofs.Tryz.prog.funcs[159]? = some Go.Proofs.Tryz.f159 ∧ Go.Proofs.Tryz.f159.name ≠ "runtime.NumGoroutine" := ⟨Go.Proofs.Tryz.func159, by decide +kernel⟩
theorem fOk160 : Go.Proofs.Tryz.prog.funcs[160]? = some Go.Proofs.Tryz.f160 ∧ Go.Proofs.Tryz.f160.name ≠ "runtime.NumGoroutine" := ⟨Go.Proofs.Tryz.func160, by decide +kernel⟩
theorem fOk161 : Go.Proofs.Tryz.prog.funcs[161]? = some Go.Proofs.Tryz.f161 ∧ Go.Proofs.Tryz.f161.name ≠ "runtime.NumGoroutine" := ⟨Go.Proofs.Tryz.func161, by decide +kernel⟩
theorem fOk162 : Go.Proofs.Tryz.prog.funcs[162]? = some Go.Proofs.Tryz.f162 ∧ Go.Proofs.Tryz.f162.name ≠ "runtime.NumGoroutine" := ⟨Go.Proofs.Tryz.func162, by decide +kernel⟩
theorem fOk163 : Go.Proofs.Tryz.prog.funcs[163]? = some Go.Proofs.Tryz.f163 ∧ Go.Proofs.Tryz.f163.name ≠ "runtime.NumGoroutine" := ⟨Go.Proofs.Tryz.func163, by decide +kernel⟩
theorem fOk164 : Go.Proofs.Tryz.prog.funcs[164]? = some Go.Proofs.Tryz.f164 ∧ Go.Proofs.Tryz.f164.name ≠ "runtime.NumGoroutine" := ⟨Go.Proofs.Tryz.func164, by decide +kernel⟩
theorem fOk165 : Go.Proofs.Tryz.prog.funcs[165]? = some Go.Proofs.Tryz.f165 ∧ Go.Proofs.Tryz.f165.name ≠ "runtime.NumGoroutine" := ⟨Go.Proofs.Tryz.func165, by decide +kernel⟩
theorem fOk166 : Go.Proofs.Tryz.prog.funcs[166]? = some Go.Proofs.Tryz.f166 ∧ Go.Proofs.Tryz.f166.name ≠ "runtime.NumGoroutine" := ⟨Go.Proofs.Tryz.func166, by decide +kernel⟩
theorem fOk167 : Go.Proofs.Tryz.prog.funcs[167]? = some Go.Proofs.Tryz.f167 ∧ Go.Proofs.Tryz.f167.name ≠ "runtime.NumGoroutine" := ⟨Go.Proofs.Tryz.func167, by decide +kernel⟩
theorem fOk168 : Go.Proofs.Tryz.prog.funcs[168]? = some Go.Proofs.Tryz.f168 ∧ Go.Proofs.Tryz.f168.name ≠ "runtime.NumGoroutine" := ⟨Go.Proofs.Tryz.func168, by decide +kernel⟩
theorem fOk170 : Go.Proofs.Tryz.prog.funcs[170]? = some Go.Proofs.Tryz.f170 ∧ Go.Proofs.Tryz.f170.name ≠ "runtime.NumGoroutine" := ⟨Go.Proofs.Tryz.func170, by decide +kernel⟩
theorem fOk171 : Go.Proofs.Tryz.prog.funcs[171]? = some Go.Proofs.Tryz.f171 ∧ Go.Proofs.Tryz.f171.name ≠ "runtime.NumGoroutine" := ⟨Go.Proofs.Tryz.func171, by decide +kernel⟩
theorem fOk172 : Go.Proofs.Tryz.prog.funcs[172]? = some Go.Proofs.Tryz.f172 ∧ Go.Proofs.Tryz.f172.name ≠ "runtime.NumGoroutine" := ⟨Go.Proofs.Tryz.func172, by decide +kernel⟩
theorem fOk173 : Go.Proofs.Tryz.prog.funcs[173]? = some Go.Proofs.Tryz.f173 ∧ Go.Proofs.Tryz.f173.name ≠ "runtime.NumGoroutine" := ⟨Go.Proofs.Tryz.func173, by decide +kernel⟩
theorem fOk174 : Go.Proofs.Tryz.prog.funcs[174]? = some Go.Proofs.Tryz.f174 ∧ Go.Proofs.Tryz.f174.name ≠ "runtime.NumGoroutine" := ⟨Go.Proofs.Tryz.func174, by decide +kernel⟩
theorem fOk175 : Go.Proofs.Tryz.prog.funcs[175]? = some Go.Proofs.Tryz.f175 ∧ Go.Proofs.Tryz.f175.name ≠ "runtime.NumGoroutine" := ⟨Go.Proofs.Tryz.func175, by decide +kernel⟩
theorem fOk176 : Go.Proofs.Tryz.prog.funcs[176]? = some Go.Proofs.Tryz.f176 ∧ Go.Proofs.Tryz.f176.name ≠ "runtime.NumGoroutine" := ⟨Go.Proofs.Tryz.func176, by decide +kernel⟩
theorem fOk177 : Go.Proofs.Tryz.prog.funcs[177]? = some Go.Proofs.Tryz.f177 ∧ Go.Proofs.Tryz.f177.name ≠ "runtime.NumGoroutine" := ⟨Go.Proofs.Tryz.func177, by decide +kernel⟩
theorem fOk188 : Go.Proofs.Tryz.prog.funcs[188]? = some Go.Proofs.Tryz.f188 ∧ Go.Proofs.Tryz.f188.name ≠ "runtime.NumGoroutine" := ⟨Go.Proofs.Tryz.func188, by decide +kernel⟩
theorem fOk201 : Go.Proofs.Tryz.prog.funcs[201]? = some Go.Proofs.Tryz.f201 ∧ Go.Proofs.Tryz.f201.name ≠ "runtime.NumGoroutine" := ⟨Go.Proofs.Tryz.func201, by decide +kernel⟩
theorem fOk208 : Go.Proofs.Tryz.prog.funcs[208]? = some Go.Proofs.Tryz.f208 ∧ Go.Proofs.Tryz.f208.name ≠ "runtime.NumGoroutine" := ⟨Go.Proofs.Tryz.func208, by decide +kernel⟩
theorem fOk211 : Go.Proofs.Tryz.prog.funcs[211]? = some Go.Proofs.Tryz.f211 ∧ Go.Proofs.Tryz.f211.name ≠ "runtime.NumGoroutine" := ⟨Go.Proofs.Tryz.func211, by decide +kernel⟩
theorem fOk212 : Go.Proofs.Tryz.prog.funcs[212]? = some Go.Proofs.Tryz.f212 ∧ Go.Proofs.Tryz.f212.name ≠ "runtime.NumGoroutine" := ⟨Go.Proofs.Tryz.func212, by decide +kernel⟩
theorem fOk213 : Go.Proofs.Tryz.prog.funcs[213]? = some Go.Proofs.Tryz.f213 ∧ Go.Proofs.Tryz.f213.name ≠ "runtime.NumGoroutine" := ⟨Go.Proofs.Tryz.func213, by decide +kernel⟩
theorem fOk214 : Go.Proofs.Tryz.prog.funcs[214]? = some Go.Proofs.Tryz.f214 ∧ Go.Proofs.Tryz.f214.name ≠ "runtime.NumGoroutine" := ⟨Go.Proofs.Tryz.func214, by decide +kernel⟩
theorem fOk215 : Go.Proofs.Tryz.prog.funcs[215]? = some Go.Proofs.Tryz.f215 ∧ Go.Proofs.Tryz.f215.name ≠ "runtime.NumGoroutine" := ⟨Go.Proofs.Tryz.func215, by decide +kernel⟩
theorem fOk216 : Go.Proofs.Tryz.prog.funcs[216]? = some Go.Proofs.Tryz.f216 ∧ Go.Proofs.Tryz.f216.name ≠ "runtime.NumGoroutine" := ⟨Go.Proofs.Tryz.func216, by decide +kernel⟩
theorem fOk217 : Go.Proofs.Tryz.prog.funcs[217]? = some Go.Proofs.Tryz.f217 ∧ Go.Proofs.Tryz.f217.name ≠ "runtime.NumGoroutine" := ⟨Go.Proofs.Tryz.func217, by decide +kernel⟩
theorem fOk218 : Go.Proofs.Tryz.prog.funcs[218]? = some Go.Proofs.Tryz.f218 ∧ Go.Proofs.Tryz.f218.name ≠ "runtime.NumGoroutine" := ⟨Go.Proofs.Tryz.func218, by decide +kernel⟩
theorem fOk219 : Go.Proofs.Tryz.prog.funcs[219]? = some Go.Proofs.Tryz.f219 ∧ Go.Proofs.Tryz.f219.name ≠ "runtime.NumGoroutine" := ⟨Go.Proofs.Tryz.func219, by decide +kernel⟩
theorem fOk220 : Go.Proofs.Tryz.prog.funcs[220]? = some Go.Proofs.Tryz.f220 ∧ Go.Proofs.Tryz.f220.name ≠ "runtime.NumGoroutine" := ⟨Go.Proofs.Tryz.func220, by decide +kernel⟩
theorem fOk221 : Go.Proofs.Tryz.prog.funcs[221]? = some Go.Proofs.Tryz.f221 ∧ Go.Proofs.Tryz.f221.name ≠ "runtime.NumGoroutine" := ⟨Go.Proofs.Tryz.func221, by decide +kernel⟩
theorem fOk222 : Go.Proofs.Tryz.prog.funcs[222]? = some Go.Proofs.Tryz.f222 ∧ Go.Proofs.Tryz.f222.name ≠ "runtime.NumGoroutine" := ⟨Go.Proofs.Tryz.func222, by decide +kernel⟩
theorem fOk223 : Go.Proofs.Tryz.prog.funcs[223]? = some Go.Proofs.Tryz.f223 ∧ Go.Proofs.Tryz.f223.name ≠ "runtime.NumGoroutine" := ⟨Go.Proofs.Tryz.func223, by decide +kernel⟩
theorem fOk224 : Go.Proofs.Tryz.prog.funcs[224]? = some Go.Proofs.Tryz.f224 ∧ Go.Proofs.Tryz.f224.name ≠ "runtime.NumGoroutine" := ⟨Go.Proofs.Tryz.func224, by decide +kernel⟩
theorem fOk225 : Go.Proofs.Tryz.prog.funcs[225]? = some Go.Proofs.Tryz.f225 ∧ Go.Proofs.Tryz.f225.name ≠ "runtime.NumGoroutine" := ⟨Go.Proofs.Tryz.func225, by decide +kernel⟩
theorem fOk226 : Go.Proofs.Tryz.prog.funcs[226]? = some Go.Proofs.Tryz.f226 ∧ Go.Proofs.Tryz.f226.name ≠ "runtime.NumGoroutine" := ⟨Go.Proofs.Tryz.func226, by decide +kernel⟩
theorem fOk227 : Go.Proofs.Tryz.prog.funcs[227]? = some Go.Proofs.Tryz.f227 ∧ Go.Proofs.Tryz.f227.name ≠ "runtime.NumGoroutine" := ⟨Go.Proofs.Tryz.func227, by decide +kernel⟩
theorem fOk228 : Go.Proofs.Tryz.prog.funcs[228]? = some Go.Proofs.Tryz.f228 ∧ Go.Proofs.Tryz.f228.name ≠ "runtime.NumGoroutine" := ⟨Go.Proofs.Tryz.func228, by decide +kernel⟩
theorem fOk229 : Go.Proofs.Tryz.prog.funcs[229]? = some Go.Proofs.Tryz.f229 ∧ Go.Proofs.Tryz.f229.name ≠ "runtime.NumGoroutine" := ⟨Go.Proofs.Tryz.func229, by decide +kernel⟩
theorem fOk230 : Go.Proofs.Tryz.prog.funcs[230]? = some Go.Proofs.Tryz.f230 ∧ Go.Proofs.Tryz.f230.name ≠ "runtime.NumGoroutine" := ⟨Go.Proofs.Tryz.func230, by decide +kernel⟩
theorem fOk231 : Go.Proofs.Tryz.prog.funcs[231]? = some Go.Proofs.Tryz.f231 ∧ Go.Proofs.Tryz.f231.name ≠ "runtime.NumGoroutine" := ⟨Go.Proofs.Tryz.func231, by decide +kernel⟩
theorem fOk232 : Go.Proofs.Tryz.prog.funcs[232]? = some Go.Proofs.Tryz.f232 ∧ Go.Proofs.Tryz.f232.name ≠ "runtime.NumGoroutine" := ⟨Go.Proofs.Tryz.func232, by decide +kernel⟩
theorem fOk234 : Go.Proofs.Tryz.prog.funcs[234]? = some Go.Proofs.Tryz.f234 ∧ Go.Proofs.Tryz.f234.name ≠ "runtime.NumGoroutine" := ⟨Go.Proofs.Tryz.func234, by decide +kernel⟩
theorem fOk235 : Go.Proofs.Tryz.prog.funcs[235]? = some Go.Proofs.Tryz.f235 ∧ Go.Proofs.Tryz.f235.name ≠ "runtime.NumGoroutine" := ⟨Go.Proofs.Tryz.func235, by decide +kernel⟩
theorem fOk236 : Go.Proofs.Tryz.prog.funcs[236]? = some Go.Proofs.Tryz.f236 ∧ Go.Proofs.Tryz.f236.name ≠ "runtime.NumGoroutine" := ⟨Go.Proofs.Tryz.func236, by decide +kernel⟩
theorem fOk237 : Go.Proofs.Tryz.prog.funcs[237]? = some Go.Proofs.Tryz.f237 ∧ Go.Proofs.Tryz.f237.name ≠ "runtime.NumGoroutine" := ⟨Go.Proofs.Tryz.func237, by decide +kernel⟩
theorem fOk238 : Go.Proofs.Tryz.prog.funcs[238]? = some Go.Proofs.Tryz.f238 ∧ Go.Proofs.Tryz.f238.name ≠ "runtime.NumGoroutine" := ⟨Go.Proofs.Tryz.func238, by decide +kernel⟩
theorem fOk239 : Go.Proofs.Tryz.prog.funcs[239]? = some Go.Proofs.Tryz.f239 ∧ Go.Proofs.Tryz.f239.name ≠ "runtime.NumGoroutine" := ⟨Go.Proofs.Tryz.func239, by decide +kernel⟩
theorem fOk240 : Go.Proofs.Tryz.prog.funcs[240]? = some Go.Proofs.Tryz.f240 ∧ Go.Proofs.Tryz.f240.name ≠ "runtime.NumGoroutine" := ⟨Go.Proofs.Tryz.func240, by decide +kernel⟩
theorem fOk241 : Go.Proofs.Tryz.prog.funcs[241]? = some Go.Proofs.Tryz.f241 ∧ Go.Proofs.Tryz.f241.name ≠ "runtime.NumGoroutine" := ⟨Go.Proofs.Tryz.func241, by decide +kernel⟩
theorem fOk242 : Go.Proofs.Tryz.prog.funcs[242]? = some Go.Proofs.Tryz.f242 ∧ Go.Proofs.Tryz.f242.name ≠ "runtime.NumGoroutine" := ⟨Go.Proofs.Tryz.func242, by decide +kernel⟩
theorem fOk243 : Go.Proofs.Tryz.prog.funcs[243]? = some Go.Proofs.Tryz.f243 ∧ Go.Proofs.Tryz.f243.name ≠ "runtime.NumGoroutine" := ⟨Go.Proofs.Tryz.func243, by decide +kernel⟩
theorem fOk244 : Go.Proofs.Tryz.prog.funcs[244]? = some Go.Proofs.Tryz.f244 ∧ Go.Proofs.Tryz.f244.name ≠ "runtime.NumGoroutine" := ⟨Go.Proofs.Tryz.func244, by decide +kernel⟩
theorem fOk247 : Go.Proofs.Tryz.prog.funcs[247]? = some Go.Proofs.Tryz.f247 ∧ Go.Proofs.Tryz.f247.name ≠ "runtime.NumGoroutine" := ⟨Go.Proofs.Tryz.func247, by decide +kernel⟩
theorem fOk248 : Go.Proofs.Tryz.prog.funcs[248]? = some Go.Proofs.Tryz.f248 ∧ Go.Proofs.Tryz.f248.name ≠ "runtime.NumGoroutine" := ⟨Go.Proofs.Tryz.func248, by decide +kernel⟩
theorem fOk254 : Go.Proofs.Tryz.prog.funcs[254]? = some Go.Proofs.Tryz.f254 ∧ Go.Proofs.Tryz.f254.name ≠ "runtime.NumGoroutine" := ⟨Go.Proofs.Tryz.func254, by decide +kernel⟩
theorem fOk257 : Go.Proofs.Tryz.prog.funcs[257]? = some Go.Proofs.Tryz.f257 ∧ Go.Proofs.Tryz.f257.name ≠ "runtime.NumGoroutine" := ⟨Go.Proofs.Tryz.func257, by decide +kernel⟩
theorem fOk259 : Go.Proofs.Tryz.prog.funcs[259]? = some Go.Proofs.Tryz.f259 ∧ Go.Proofs.Tryz.f259.name ≠ "runtime.NumGoroutine" := ⟨Go.Proofs.Tryz.func259, by decide +kernel⟩
theorem fOk263 : Go.Proofs.Tryz.prog.funcs[263]? = some Go.Proofs.Tryz.f263 ∧ Go.Proofs.Tryz.f263.name ≠ "runtime.NumGoroutine" := ⟨Go.Proofs.Tryz.func263, by decide +kernel⟩
theorem fOk264 : Go.Proofs.Tryz.prog.funcs[264]? = some Go.Proofs.Tryz.f264 ∧ Go.Proofs.Tryz.f264.name ≠ "runtime.NumGoroutine" := ⟨Go.Proofs.Tryz.func264, by decide +kernel⟩
theorem fOk271 : Go.Proofs.Tryz.prog.funcs[271]? = some Go.Proofs.Tryz.f271 ∧ Go.Proofs.Tryz.f271.name ≠ "runtime.NumGoroutine" := ⟨Go.Proofs.Tryz.func271, by decide +kernel⟩
theorem fOk272 : Go.Proofs.Tryz.prog.funcs[272]? = some Go.Proofs.Tryz.f272 ∧ Go.Proofs.Tryz.f272.name ≠ "runtime.NumGoroutine" := ⟨Go.Proofs.Tryz.func272, by decide +kernel⟩
theorem fOk278 : Go.Proofs.Tryz.prog.funcs[278]? = some Go.Proofs.Tryz.f278 ∧ Go.Proofs.Tryz.f278.name ≠ "runtime.NumGoroutine" := ⟨Go.Proofs.Tryz.func278, by decide +kernel⟩
theorem fOk279 : Go.Proofs.Tryz.prog.funcs[279]? = some Go.Proofs.Tryz.f279 ∧ Go.Proofs.Tryz.f279.name ≠ "runtime.NumGoroutine" := ⟨Go.Proofs.Tryz.func279, by decide +kernel⟩
theorem fOk280 : Go.Proofs.Tryz.prog.funcs[280]? = some Go.Proofs.Tryz.f280 ∧ Go.Proofs.Tryz.f280.name ≠ "runtime.NumGoroutine" := ⟨Go.Proofs.Tryz.func280, by decide +kernel⟩
theorem fOk281 : Go.Proofs.Tryz.prog.funcs[281]? = some Go.Proofs.Tryz.f281 ∧ Go.Proofs.Tryz.f281.name ≠ "runtime.NumGoroutine" := ⟨Go.Proofs.Tryz.func281, by decide +kernel⟩
theorem fOk282 : Go.Proofs.Tryz.prog.funcs[282]? = some Go.Proofs.Tryz.f282 ∧ Go.Proofs.Tryz.f282.name ≠ "runtime.NumGoroutine" := ⟨Go.Proofs.Tryz.func282, by decide +kernel⟩
theorem fOk283 : Go.Proofs.Tryz.prog.funcs[283]? = some Go.Proofs.Tryz.f283 ∧ Go.Proofs.Tryz.f283.name ≠ "runtime.NumGoroutine" := ⟨Go.Proofs.Tryz.func283, by decide +kernel⟩
theorem fOk284 : Go.Proofs.Tryz.prog.funcs[284]? = some Go.Proofs.Tryz.f284 ∧ Go.Proofs.Tryz.f284.name ≠ "runtime.NumGoroutine" := ⟨Go.Proofs.Tryz.func284, by decide +kernel⟩
theorem fOk287 : Go.Proofs.Tryz.prog.funcs[287]? = some Go.Proofs.Tryz.f287 ∧ Go.Proofs.Tryz.f287.name ≠ "runtime.NumGoroutine" := ⟨Go.Proofs.Tryz.func287, by decide +kernel⟩
theorem fOk288 : Go.Proofs.Tryz.prog.funcs[288]? = some Go.Proofs.Tryz.f288 ∧ Go.Proofs.Tryz.f288.name ≠ "runtime.NumGoroutine" := ⟨Go.Proofs.Tryz.func288, by decide +kernel⟩
theorem fOk289 : Go.Proofs.Tryz.prog.funcs[289]? = some Go.Proofs.Tryz.f289 ∧ Go.Proofs.Tryz.f289.name ≠ "runtime.NumGoroutine" := ⟨Go.Proofs.Tryz.func289, by decide +kernel⟩
theorem fOk290 : Go.Proofs.Tryz.prog.funcs[290]? = some Go.Proofs.Tryz.f290 ∧ Go.Proofs.Tryz.f290.name ≠ "runtime.NumGoroutine" := ⟨Go.Proofs.Tryz.func290, by decide +kernel⟩
theorem gAll : gTree.All fun g fn => Go.Proofs.Tryz.prog.funcs[g]? = some fn ∧ fn.name ≠ "runtime.NumGoroutine" := ⟨fOk144, ⟨fOk81, ⟨fOk42, ⟨fOk27, ⟨fOk17, ⟨fOk12, ⟨fOk10, ⟨fOk5, trivial, trivial⟩, trivial⟩, ⟨fOk16, ⟨fOk15, trivial, trivial⟩, trivial⟩⟩, ⟨fOk21, ⟨fOk20, ⟨fOk19, trivial, trivial⟩, trivial⟩, ⟨fOk25, ⟨fOk23, trivial, trivial⟩, trivial⟩⟩⟩, ⟨fOk37, ⟨fOk34, ⟨fOk32, ⟨fOk31, trivial, trivial⟩, trivial⟩, ⟨fOk36, ⟨fOk35, trivial, trivial⟩, trivial⟩⟩, ⟨fOk40, ⟨fOk39, ⟨fOk38, trivial, trivial⟩, trivial⟩, ⟨fOk41, trivial, trivial⟩⟩⟩⟩, ⟨fOk54, ⟨fOk49, ⟨fOk46, ⟨fOk44, ⟨fOk43, trivial, trivial⟩, trivial⟩, ⟨fOk48, ⟨fOk47, trivial, trivial⟩, trivial⟩⟩, ⟨fOk52, ⟨fOk51, ⟨fOk50, trivial, trivial⟩, trivial⟩, ⟨fOk53, trivial, trivial⟩⟩⟩, ⟨fOk76, ⟨fOk62, ⟨fOk61, ⟨fOk55, trivial, trivial⟩, trivial⟩, ⟨fOk65, ⟨fOk63, trivial, trivial⟩, trivial⟩⟩, ⟨fOk79, ⟨fOk78, ⟨fOk77, trivial, trivial⟩, trivial⟩, ⟨fOk80, trivial, trivial⟩⟩⟩⟩⟩, ⟨fOk104, ⟨fOk92, ⟨fOk87, ⟨fOk84, ⟨fOk83, ⟨fOk82, trivial, trivial⟩, trivial⟩, ⟨fOk86, ⟨fOk85, trivial, trivial⟩, trivial⟩⟩, ⟨fOk90, ⟨fOk89, ⟨fOk88, trivial, trivial⟩, trivial⟩, ⟨fOk91, trivial, trivial⟩⟩⟩, ⟨fOk99, ⟨fOk95, ⟨fOk94, ⟨fOk93, trivial, trivial⟩, trivial⟩, ⟨fOk98, ⟨fOk96, trivial, trivial⟩, trivial⟩⟩, ⟨fOk102, ⟨fOk101, ⟨fOk100, trivial, trivial⟩, trivial⟩, ⟨fOk103, trivial, trivial⟩⟩⟩⟩, ⟨fOk133, ⟨fOk123, ⟨fOk107, ⟨fOk106, ⟨fOk105, trivial, trivial⟩, trivial⟩, ⟨fOk115, ⟨fOk108, trivial, trivial⟩, trivial⟩⟩, ⟨fOk130, ⟨fOk127, ⟨fOk124, trivial, trivial⟩, trivial⟩, ⟨fOk132, trivial, trivial⟩⟩⟩, ⟨fOk139, ⟨fOk136, ⟨fOk135, ⟨fOk134, trivial, trivial⟩, trivial⟩, ⟨fOk138, ⟨fOk137, trivial, trivial⟩, trivial⟩⟩, ⟨fOk142, ⟨fOk141, ⟨fOk140, trivial, trivial⟩, trivial⟩, ⟨fOk143, trivial, trivial⟩⟩⟩⟩⟩⟩, ⟨fOk220, ⟨fOk167, ⟨fOk156, ⟨fOk150, ⟨fOk147, ⟨fOk146, ⟨fOk145, trivial, trivial⟩, trivial⟩, ⟨fOk149, ⟨fOk148, trivial, trivial⟩, trivial⟩⟩, ⟨fOk153, ⟨fOk152, ⟨fOk151, trivial, trivial⟩, trivial⟩, ⟨fOk155, ⟨fOk154, trivial, trivial⟩, trivial⟩⟩⟩, ⟨fOk162, ⟨fOk159, ⟨fOk158, ⟨fOk157, trivial, trivial⟩, trivial⟩, ⟨fOk161, ⟨fOk160, trivial, trivial⟩, trivial⟩⟩, ⟨fOk165, ⟨fOk164, ⟨fOk163, trivial, trivial⟩, trivial⟩, ⟨fOk166, trivial, trivial⟩⟩⟩⟩, ⟨fOk201, ⟨fOk174, ⟨fOk171, ⟨fOk170, ⟨fOk168, trivial, trivial⟩, trivial⟩, ⟨fOk173, ⟨fOk172, trivial, trivial⟩, trivial⟩⟩, ⟨fOk177, ⟨fOk176, ⟨fOk175, trivial, trivial⟩, trivial⟩, ⟨fOk188, trivial, trivial⟩⟩⟩, ⟨fOk215, ⟨fOk212, ⟨fOk211, ⟨fOk208, trivial, trivial⟩, trivial⟩, ⟨fOk214, ⟨fOk213, trivial, trivial⟩, trivial⟩⟩, ⟨fOk218, ⟨fOk217, ⟨fOk216, trivial, trivial⟩, trivial⟩, ⟨fOk219, trivial, trivial⟩⟩⟩⟩⟩, ⟨fOk243, ⟨fOk231, ⟨fOk226, ⟨fOk223, ⟨fOk222, ⟨fOk221, trivial, trivial⟩, trivial⟩, ⟨fOk225, ⟨fOk224, trivial, trivial⟩, trivial⟩⟩, ⟨fOk229, ⟨fOk228, ⟨fOk227, trivial, trivial⟩, trivial⟩, ⟨fOk230, trivial, trivial⟩⟩⟩, ⟨fOk238, ⟨fOk235, ⟨fOk234, ⟨fOk232, trivial, trivial⟩, trivial⟩, ⟨fOk237, ⟨fOk236, trivial, trivial⟩, trivial⟩⟩, ⟨fOk241, ⟨fOk240, ⟨fOk239, trivial, trivial⟩, trivial⟩, ⟨fOk242, trivial, trivial⟩⟩⟩⟩, ⟨fOk278, ⟨fOk259, ⟨fOk248, ⟨fOk247, ⟨fOk244, trivial, trivial⟩, trivial⟩, ⟨fOk257, ⟨fOk254, trivial, trivial⟩, trivial⟩⟩, ⟨fOk271, ⟨fOk264, ⟨fOk263, trivial, trivial⟩, trivial⟩, ⟨fOk272, trivial, trivial⟩⟩⟩, ⟨fOk284, ⟨fOk281, ⟨fOk280, ⟨fOk279, trivial, trivial⟩, trivial⟩, ⟨fOk283, ⟨fOk282, trivial, trivial⟩, trivial⟩⟩, ⟨fOk289, ⟨fOk288, ⟨fOk287, trivial, trivial⟩, trivial⟩, ⟨fOk290, trivial, trivial⟩⟩⟩⟩⟩⟩⟩
theorem cOk5 : fnB E0 Go.Proofs.Tryz.f5 5 = true := by decide +kernel
theorem cOk10 : fnB E0 Go.Proofs.Tryz.f10 10 = true := by decide +kernel
theorem cOk12 : fnB E0 Go.Proofs.Tryz.f12 12 = true := by decide +kernel
theorem cOk15 : fnB E0 Go.Proofs.Tryz.f15 15 = true := by decide +kernel
theorem cOk16 : fnB E0 Go.Proofs.Tryz.f16 16 = true := by decide +kernel
theorem cOk17 : fnB E0 Go.Proofs.Tryz.f17 17 = true := by decide +kernel
theorem cOk19 : fnB E0 Go.Proofs.Tryz.f19 19 = true := by decide +kernel
theorem cOk20 : fnB E0 Go.Proofs.Tryz.f20 20 = true := by decide +kernel
theorem cOk21 : fnB E0 Go.Proofs.Tryz.f21 21 = true := by decide +kernel
theorem cOk23 : fnB E0 Go.Proofs.Tryz.f23 23 = true := by decide +kernel
theorem cOk25 : fnB E0 Go.Proofs.Tryz.f25 25 = true := by decide +kernel
theorem cOk27 : fnB E0 Go.Proofs.Tryz.f27 27 = true := by decide +kernel
theorem cOk31 : fnB E0 Go.Proofs.Tryz.f31 31 = true := by decide +kernel
theorem cOk32 : fnB E0 Go.Proofs.Tryz.f32 32 = true := by decide +kernel
theorem cOk34 : fnB E0 Go.Proofs.Tryz.f34 34 = true := by decide +kernel
theorem cOk35 : fnB E0 Go.Proofs.Tryz.f35 35 = true := by decide +kernel
theorem cOk36 : fnB E0 Go.Proofs.Tryz.f36 36 = true := by decide +kernel
theorem cOk37 : fnB E0 Go.Proofs.Tryz.f37 37 = true := by decide +kernel
theorem cOk38 : fnB E0 Go.Proofs.Tryz.f38 38 = true := by decide +kernel
theorem cOk39 : fnB E0 Go.Proofs.Tryz.f39 39 = true := by decide +kernel
theorem cOk40 : fnB E0 Go.Proofs.Tryz.f40 40 = true := by decide +kernel
theorem cOk41 : fnB E0 Go.Proofs.Tryz.f41 41 = true := by decide +kernel
theorem cOk42 : fnB E0 Go.Proofs.Tryz.f42 42 = true := by decide +kernel
theorem cOk43 : fnB E0 Go.Proofs.Tryz.f43 43 = true := by decide +kernel
theorem cOk44 : fnB E0 Go.Proofs.Tryz.f44 44 = true := by decide +kernel
theorem cOk46 : fnB E0 Go.Proofs.Tryz.f46 46 = true := by decide +kernel
theorem cOk47 : fnB E0 Go.Proofs.Tryz.f47 47 = true := by decide +kernel
theorem cOk48 : fnB E0 Go.Proofs.Tryz.f48 48 = true := by decide +kernel
theorem cOk49 : fnB E0 Go.Proofs.Tryz.f49 49 = true := by decide +kernel
theorem cOk50 : fnB E0 Go.Proofs.Tryz.f50 50 = true := by decide +kernel
theorem cOk51 : fnB E0 Go.Proofs.Tryz.f51 51 = true := by decide +kernel
theorem cOk52 : fnB E0 Go.Proofs.Tryz.f52 52 = true := by decide +kernel
theorem cOk53 : fnB E0 Go.Proofs.Tryz.f53 53 = true := by decide +kernel
theorem cOk54 : fnB E0 Go.Proofs.Tryz.f54 54 = true := by decide +kernel
theorem cOk55 : fnB E0 Go.Proofs.Tryz.f55 55 = true := by decide +kernel
theorem cOk61 : fnB E0 Go.Proofs.Tryz.f61 61 = true := by decide +kernel
theorem cOk62 : fnB E0 Go.Proofs.Tryz.f62 62 = true := by decide +kernel
theorem cOk63 : fnB E0 Go.Proofs.Tryz.f63 63 = true := by decide +kernel
theorem cOk65 : fnB E0 Go.Proofs.Tryz.f65 65 = true := by decide +kernel
theorem cOk76 : fnB E0 Go.Proofs.Tryz.f76 76 = true := by decide +kernel
theorem cOk77 : fnB E0 Go.Proofs.Tryz.f77 77 = true := by decide +kernel
theorem cOk78 : fnB E0 Go.Proofs.Tryz.f78 78 = true := by decide +kernel
theorem cOk79 : fnB E0 Go.Proofs.Tryz.f79 79 = true := by decide +kernel
theorem cOk80 : fnB E0 Go.Proofs.Tryz.f80 80 = true := by decide +kernel
theorem cOk81 : fnB E0 Go.Proofs.Tryz.f81 81 = true := by decide +kernel
theorem cOk82 : fnB E0 Go.Proofs.Tryz.f82 82 = true := by decide +kernel
theorem cOk83 : fnB E0 Go.Proofs.Tryz.f83 83 = true := by decide +kernel
theorem cOk84 : fnB E0 Go.Proofs.Tryz.f84 84 = true := by decide +kernel
theorem cOk85 : fnB E0 Go.Proofs.Tryz.f85 85 = true := by decide +kernel
theorem cOk86 : fnB E0 Go.Proofs.Tryz.f86 86 = true := by decide +kernel
theorem cOk87 : fnB E0 Go.Proofs.Tryz.f87 87 = true := by decide +kernel
theorem cOk88 : fnB E0 Go.Proofs.Tryz.f88 88 = true := by decide +kernel
theorem cOk89 : fnB E0 Go.Proofs.Tryz.f89 89 = true := by decide +kernel
theorem cOk90 : fnB E0 Go.Proofs.Tryz.f90 90 = true := by decide +kernel
theorem cOk91 : fnB E0 Go.Proofs.Tryz.f91 91 = true := by decide +kernel
theorem cOk92 : fnB E0 Go.Proofs.Tryz.f92 92 = true := by decide +kernel
theorem cOk93 : fnB E0 Go.Proofs.Tryz.f93 93 = true := by decide +kernel
theorem cOk94 : fnB E0 Go.Proofs.Tryz.f94 94 = true := by decide +kernel
theorem cOk95 : fnB E0 Go.Proofs.Tryz.f95 95 = true := by decide +kernel
theorem cOk96 : fnB E0 Go.Proofs.Tryz.f96 96 = true := by decide +kernel
theorem cOk98 : fnB E0 Go.Proofs.Tryz.f98 98 = true := by decide +kernel
theorem cOk99 : fnB E0 Go.Proofs.Tryz.f99 99 = true := by decide +kernel
theorem cOk100 : fnB E0 Go.Proofs.Tryz.f100 100 = true := by decide +kernel
theorem cOk101 : fnB E0 Go.Proofs.Tryz.f101 101 = true := by decide +kernel
theorem cOk102 : fnB E0 Go.Proofs.Tryz.f102 102 = true := by decide +kernel
theorem cOk103 : fnB E0 Go.Proofs.Tryz.f103 103 = true := by decide +kernel
theorem cOk104 : fnB E0 Go.Proofs.Tryz.f104 104 = true := by decide +kernel
theorem cOk105 : fnB E0 Go.Proofs.Tryz.f105 105 = true := by decide +kernel
theorem cOk106 : fnB E0 Go.Proofs.Tryz.f106 106 = true := by decide +kernel
theorem cOk107 : fnB E0 Go.Proofs.Tryz.f107 107 = true := by decide +kernel
theorem cOk108 : fnB E0 Go.Proofs.Tryz.f108 108 = true := by decide +kernel
theorem cOk115 : fnB E0 Go.Proofs.Tryz.f115 115 = true := by decide +kernel
theorem cOk123 : fnB E0 Go.Proofs.Tryz.f123 123 = true := by decide +kernel
theorem cOk124 : fnB E0 Go.Proofs.Tryz.f124 124 = true := by decide +kernel
theorem cOk127 : fnB E0 Go.Proofs.Tryz.f127 127 = true := by decide +kernel
theorem cOk130 : fnB E0 Go.Proofs.Tryz.f130 130 = true := by decide +kernel
theorem cOk132 : fnB E0 Go.Proofs.Tryz.f132 132 = true := by decide +kernel
theorem cOk133 : fnB E0 Go.Proofs.Tryz.f133 133 = true := by decide +kernel
theorem cOk134 : fnB E0 Go.Proofs.Tryz.f134 134 = true := by decide +kernel
theorem cOk135 : fnB E0 Go.Proofs.Tryz.f135 135 = true := by decide +kernel
theorem cOk136 : fnB E0 Go.Proofs.Tryz.f136 136 = true := by decide +kernel
theorem cOk137 : fnB E0 Go.Proofs.Tryz.f137 137 = true := by decide +kernel
theorem cOk138 : fnB E0 Go.Proofs.Tryz.f138 138 = true := by decide +kernel
theorem cOk139 : fnB E0 Go.Proofs.Tryz.f139 139 = true := by decide +kernel
theorem cOk140 : fnB E0 Go.Proofs.Tryz.f140 140 = true := by decide +kernel
theorem cOk141 : fnB E0 Go.Proofs.Tryz.f141 141 = true := by decide +kernel
theorem cOk142 : fnB E0 Go.Proofs.Tryz.f142 142 = true := by decide +kernel
theorem cOk143 : fnB E0 Go.Proofs.Tryz.f143 143 = true := by decide +kernel
theorem cOk144 : fnB E0 Go.Proofs.Tryz.f144 144 = true := by decide +kernel
theorem cOk145 : fnB E0 Go.Proofs.Tryz.f145 145 = true := by decide +kernel
theorem cOk146 : fnB E0 Go.Proofs.Tryz.f146 146 = true := by decide +kernel
theorem cOk147 : fnB E0 Go.Proofs.Tryz.f147 147 = true := by decide +kernel
theorem cOk148 : fnB E0 Go.Proofs.Tryz.f148 148 = true := by decide +kernel
theorem cOk149 : fnB E0 Go.Proofs.Tryz.f149 149 = true := by decide +kernel
theorem cOk150 : fnB E0 Go.Proofs.Tryz.f150 150 = true := by decide +kernel
theorem cOk151 : fnB E0 Go.Proofs.Tryz.f151 151 = true := by decide +kernel
theorem cOk152 : fnB E0 Go.Proofs.Tryz.f152 152 = true := by decide +kernel
theorem cOk153 : fnB E0 Go.Proofs.Tryz.f153 153 = true := by decide +kernel
theorem cOk154 : fnB E0 Go.Proofs.Tryz.f154 154 = true := by decide +kernel
theorem cOk155 : fnB E0 Go.Proofs.Tryz.f155 155 = true := by decide +kernel
theorem cOk156 : fnB E0 Go.Proofs.Tryz.f156 156 = true := by decide +kernel
theorem cOk157 : fnB E0 Go.Proofs.Tryz.f157 157 = true := by decide +kernel
theorem cOk158 : fnB E0 Go.Proofs.Tryz.f158 158 = true := by decide +kernel
theorem cOk159 : fnB E0 Go.Proofs.Tryz.f159 159 = true := by decide +kernel
theorem cOk160 : fnB E0 Go.Proofs.Tryz.f160 160 = true := by decide +kernel
theorem cOk161 : fnB E0 Go.Proofs.Tryz.f161 161 = true := by decide +kernel
theorem cOk162 : fnB E0 Go.Proofs.Tryz.f162 162 = true := by decide +kernel
theorem cOk163 : fnB E0 Go.Proofs.Tryz.f163 163 = true := by decide +kernel
theorem cOk164 : fnB E0 Go.Proofs.Tryz.f164 164 = true := by decide +kernel
theorem cOk165 : fnB E0 Go.Proofs.Tryz.f165 165 = true := by decide +kernel
theorem cOk166 : fnB E0 Go.Proofs.Tryz.f166 166 = true := by decide +kernel
theorem cOk167 : fnB E0 Go.Proofs.Tryz.f167 167 = true := by decide +kernel
theorem cOk168 : fnB E0 Go.Proofs.Tryz.f168 168 = true := by decide +kernel
theorem cOk170 : fnB E0 Go.Proofs.Tryz.f170 170 = true := by decide +kernel
theorem cOk171 : fnB E0 Go.Proofs.Tryz.f171 171 = true := by decide +kernel
theorem cOk172 : fnB E0 Go.Proofs.Tryz.f172 172 = true := by decide +kernel
theorem cOk173 : fnB E0 Go.Proofs.Tryz.f173 173 = true := by decide +kernel
theorem cOk174 : fnB E0 Go.Proofs.Tryz.f174 174 = true := by decide +kernel
theorem cOk175 : fnB E0 Go.Proofs.Tryz.f175 175 = true := by decide +kernel
theorem cOk176 : fnB E0 Go.Proofs.Tryz.f176 176 = true := by decide +kernel
theorem cOk177 : fnB E0 Go.Proofs.Tryz.f177 177 = true := by decide +kernel
theorem cOk188 : fnB E0 Go.Proofs.Tryz.f188 188 = true := by decide +kernel
theorem cOk201 : fnB E0 Go.Proofs.Tryz.f201 201 = true := by decide +kernel
theorem cOk208 : fnB E0 Go.Proofs.Tryz.f208 208 = true := by decide +kernel
theorem cOk211 : fnB E0 Go.Proofs.Tryz.f211 211 = true := by decide +kernel
theorem cOk212 : fnB E0 Go.Proofs.Tryz.f212 212 = true := by decide +kernel
theorem cOk213 : fnB E0 Go.Proofs.Tryz.f213 213 = true := by decide +kernel
theorem cOk214 : fnB E0 Go.Proofs.Tryz.f214 214 = true := by decide +kernel
theorem cOk215 : fnB E0 Go.Proofs.Tryz.f215 215 = true := by decide +kernel
theorem cOk216 : fnB E0 Go.Proofs.Tryz.f216 216 = true := by decide +kernel
theorem cOk217 : fnB E0 Go.Proofs.Tryz.f217 217 = true := by decide +kernel
theorem cOk218 : fnB E0 Go.Proofs.Tryz.f218 218 = true := by decide +kernel
theorem cOk219 : fnB E0 Go.Proofs.Tryz.f219 219 = true := by decide +kernel
theorem cOk220 : fnB E0 Go.Proofs.Tryz.f220 220 = true := by decide +kernel
theorem cOk221 : fnB E0 Go.Proofs.Tryz.f221 221 = true := by decide +kernel
theorem cOk222 : fnB E0 Go.Proofs.Tryz.f222 222 = true := by decide +kernel
theorem cOk223 : fnB E0 Go.Proofs.Tryz.f223 223 = true := by decide +kernel
theorem cOk224 : fnB E0 Go.Proofs.Tryz.f224 224 = true := by decide +kernel
theorem cOk225 : fnB E0 Go.Proofs.Tryz.f225 225 = true := by decide +kernel
theorem cOk226 : fnB E0 Go.Proofs.Tryz.f226 226 = true := by decide +kernel
theorem cOk227 : fnB E0 Go.Proofs.Tryz.f227 227 = true := by decide +kernel
theorem cOk228 : fnB E0 Go.Proofs.Tryz.f228 228 = true := by decide +kernel
theorem cOk229 : fnB E0 Go.Proofs.Tryz.f229 229 = true := by decide +kernel
theorem cOk230 : fnB E0 Go.Proofs.Tryz.f230 230 = true := by decide +kernel
theorem cOk231 : fnB E0 Go.Proofs.Tryz.f231 231 = true := by decide +kernel
theorem cOk232 : fnB E0 Go.Proofs.Tryz.f232 232 = true := by decide +kernel
theorem cOk234 : fnB E0 Go.Proofs.Tryz.f234 234 = true := by decide +kernel
theorem cOk235 : fnB E0 Go.Proofs.Tryz.f235 235 = true := by decide +kernel
theorem cOk236 : fnB E0 Go.Proofs.Tryz.f236 236 = true := by decide +kernel
theorem cOk237 : fnB E0 Go.Proofs.Tryz.f237 237 = true := by decide +kernel
theorem cOk238 : fnB E0 Go.Proofs.Tryz.f238 238 = true := by decide +kernel
theorem cOk239 : fnB E0 Go.Proofs.Tryz.f239 239 = true := by decide +kernel
theorem cOk240 : fnB E0 Go.Proofs.Tryz.f240 240 = true := by decide +kernel
theorem cOk241 : fnB E0 Go.Proofs.Tryz.f241 241 = true := by decide +kernel
theorem cOk242 : fnB E0 Go.Proofs.Tryz.f242 242 = true := by decide +kernel
theorem cOk243 : fnB E0 Go.Proofs.Tryz.f243 243 = true := by decide +kernel
theorem cOk244 : fnB E0 Go.Proofs.Tryz.f244 244 = true := by decide +kernel
theorem cOk247 : fnB E0 Go.Proofs.Tryz.f247 247 = true := by decide +kernel
theorem cOk248 : fnB E0 Go.Proofs.Tryz.f248 248 = true := by decide +kernel
theorem cOk254 : fnB E0 Go.Proofs.Tryz.f254 254 = true := by decide +kernel
theorem cOk257 : fnB E0 Go.Proofs.Tryz.f257 257 = true := by decide +kernel
theorem cOk259 : fnB E0 Go.Proofs.Tryz.f259 259 = true := by decide +kernel
theorem cOk263 : fnB E0 Go.Proofs.Tryz.f263 263 = true := by decide +kernel
theorem cOk264 : fnB E0 Go.Proofs.Tryz.f264 264 = true := by decide +kernel
theorem cOk271 : fnB E0 Go.Proofs.Tryz.f271 271 = true := by decide +kernel
theorem cOk272 : fnB E0 Go.Proofs.Tryz.f272 272 = true := by decide +kernel
theorem cOk278 : fnB E0 Go.Proofs.Tryz.f278 278 = true := by decide +kernel
theorem cOk279 : fnB E0 Go.Proofs.Tryz.f279 279 = true := by decide +kernel
theorem cOk280 : fnB E0 Go.Proofs.Tryz.f280 280 = true := by decide +kernel
theorem cOk281 : fnB E0 Go.Proofs.Tryz.f281 281 = true := by decide +kernel
theorem cOk282 : fnB E0 Go.Proofs.Tryz.f282 282 = true := by decide +kernel
theorem cOk283 : fnB E0 Go.Proofs.Tryz.f283 283 = true := by decide +kernel
theorem cOk284 : fnB E0 Go.Proofs.Tryz.f284 284 = true := by decide +kernel
theorem cOk287 : fnB E0 Go.Proofs.Tryz.f287 287 = true := by decide +kernel
theorem cOk288 : fnB E0 Go.Proofs.Tryz.f288 288 = true := by decide +kernel
theorem cOk289 : fnB E0 Go.Proofs.Tryz.f289 289 = true := by decide +kernel
theorem cOk290 : fnB E0 Go.Proofs.Tryz.f290 290 = true := by decide +kernel
theorem cAll : gTree.All fun g fn => fnB E0 fn g = true := ⟨cOk144, ⟨cOk81, ⟨cOk42, ⟨cOk27, ⟨cOk17, ⟨cOk12, ⟨cOk10, ⟨cOk5, trivial, trivial⟩, trivial⟩, ⟨cOk16, ⟨cOk15, trivial, trivial⟩, trivial⟩⟩, ⟨cOk21, ⟨cOk20, ⟨cOk19, trivial, trivial⟩, trivial⟩, ⟨cOk25, ⟨cOk23, trivial, trivial⟩, trivial⟩⟩⟩, ⟨cOk37, ⟨cOk34, ⟨cOk32, ⟨cOk31, trivial, trivial⟩, trivial⟩, ⟨cOk36, ⟨cOk35, trivial, trivial⟩, trivial⟩⟩, ⟨cOk40, ⟨cOk39, ⟨cOk38, trivial, trivial⟩, trivial⟩, ⟨cOk41, trivial, trivial⟩⟩⟩⟩, ⟨cOk54, ⟨cOk49, ⟨cOk46, ⟨cOk44, ⟨cOk43, trivial, trivial⟩, trivial⟩, ⟨cOk48, ⟨cOk47, trivial, trivial⟩, trivial⟩⟩, ⟨cOk52, ⟨cOk51, ⟨cOk50, trivial, trivial⟩, trivial⟩, ⟨cOk53, trivial, trivial⟩⟩⟩, ⟨cOk76, ⟨cOk62, ⟨cOk61, ⟨cOk55, trivial, trivial⟩, trivial⟩, ⟨cOk65, ⟨cOk63, trivial, trivial⟩, trivial⟩⟩, ⟨cOk79, ⟨cOk78, ⟨cOk77, trivial, trivial⟩, trivial⟩, ⟨cOk80, trivial, trivial⟩⟩⟩⟩⟩, ⟨cOk104, ⟨cOk92, ⟨cOk87, ⟨cOk84, ⟨cOk83, ⟨cOk82, trivial, trivial⟩, trivial⟩, ⟨cOk86, ⟨cOk85, trivial, trivial⟩, trivial⟩⟩, ⟨cOk90, ⟨cOk89, ⟨cOk88, trivial, trivial⟩, trivial⟩, ⟨cOk91, trivial, trivial⟩⟩⟩, ⟨cOk99, ⟨cOk95, ⟨cOk94, ⟨cOk93, trivial, trivial⟩, trivial⟩, ⟨cOk98, ⟨cOk96, trivial, trivial⟩, trivial⟩⟩, ⟨cOk102, ⟨cOk101, ⟨cOk100, trivial, trivial⟩, trivial⟩, ⟨cOk103, trivial, trivial⟩⟩⟩⟩, ⟨cOk133, ⟨cOk123, ⟨cOk107, ⟨cOk106, ⟨cOk105, trivial, trivial⟩, trivial⟩, ⟨cOk115, ⟨cOk108, trivial, trivial⟩, trivial⟩⟩, ⟨cOk130, ⟨cOk127, ⟨cOk124, trivial, trivial⟩, trivial⟩, ⟨cOk132, trivial, trivial⟩⟩⟩, ⟨cOk139, ⟨cOk136, ⟨cOk135, ⟨cOk134, trivial, trivial⟩, trivial⟩, ⟨cOk138, ⟨cOk137, trivial, trivial⟩, trivial⟩⟩, ⟨cOk142, ⟨cOk141, ⟨cOk140, trivial, trivial⟩, trivial⟩, ⟨cOk143, trivial, trivial⟩⟩⟩⟩⟩⟩, ⟨cOk220, ⟨cOk167, ⟨cOk156, ⟨cOk150, ⟨cOk147, ⟨cOk146, ⟨cOk145, trivial, trivial⟩, trivial⟩, ⟨cOk149, ⟨cOk148, trivial, trivial⟩, trivial⟩⟩, ⟨cOk153, ⟨cOk152, ⟨cOk151, trivial, trivial⟩, trivial⟩, ⟨cOk155, ⟨cOk154, trivial, trivial⟩, trivial⟩⟩⟩, ⟨cOk162, ⟨cOk159, ⟨cOk158, ⟨cOk157, trivial, trivial⟩, trivial⟩, ⟨cOk161, ⟨cOk160, trivial, trivial⟩, trivial⟩⟩, ⟨cOk165, ⟨cOk164, ⟨cOk163, trivial, trivial⟩, trivial⟩, ⟨cOk166, trivial, trivial⟩⟩⟩⟩, ⟨cOk201, ⟨cOk174, ⟨cOk171, ⟨cOk170, ⟨cOk168, trivial, trivial⟩, trivial⟩, ⟨cOk173, ⟨cOk172, trivial, trivial⟩, trivial⟩⟩, ⟨cOk177, ⟨cOk176, ⟨cOk175, trivial, trivial⟩, trivial⟩, ⟨cOk188, trivial, trivial⟩⟩⟩, ⟨cOk215, ⟨cOk212, ⟨cOk211, ⟨cOk208, trivial, trivial⟩, trivial⟩, ⟨cOk214, ⟨cOk213, trivial, trivial⟩, trivial⟩⟩, ⟨cOk218, ⟨cOk217, ⟨cOk216, trivial, trivial⟩, trivial⟩, ⟨cOk219, trivial, trivial⟩⟩⟩⟩⟩, ⟨cOk243, ⟨cOk231, ⟨cOk226, ⟨cOk223, ⟨cOk222, ⟨cOk221, trivial, trivial⟩, trivial⟩, ⟨cOk225, ⟨cOk224, trivial, trivial⟩, trivial⟩⟩, ⟨cOk229, ⟨cOk228, ⟨cOk227, trivial, trivial⟩, trivial⟩, ⟨cOk230, trivial, trivial⟩⟩⟩, ⟨cOk238, ⟨cOk235, ⟨cOk234, ⟨cOk232, trivial, trivial⟩, trivial⟩, ⟨cOk237, ⟨cOk236, trivial, trivial⟩, trivial⟩⟩, ⟨cOk241, ⟨cOk240, ⟨cOk239, trivial, trivial⟩, trivial⟩, ⟨cOk242, trivial, trivial⟩⟩⟩⟩, ⟨cOk278, ⟨cOk259, ⟨cOk248, ⟨cOk247, ⟨cOk244, trivial, trivial⟩, trivial⟩, ⟨cOk257, ⟨cOk254, trivial, trivial⟩, trivial⟩⟩, ⟨cOk271, ⟨cOk264, ⟨cOk263, trivial, trivial⟩, trivial⟩, ⟨cOk272, trivial, trivial⟩⟩⟩, ⟨cOk284, ⟨cOk281, ⟨cOk280, ⟨cOk279, trivial, trivial⟩, trivial⟩, ⟨cOk283, ⟨cOk282, trivial, trivial⟩, trivial⟩⟩, ⟨cOk289, ⟨cOk288, ⟨cOk287, trivial, trivial⟩, trivial⟩, ⟨cOk290, trivial, trivial⟩⟩⟩⟩⟩⟩⟩
theorem iAll : iTree.All fun g zb => ∀ (args : List AV) (h : Heap) (f : K) (r : Fin2), insertOp zb h args f = some r →
    (∃ fn, Go.Proofs.Tryz.prog.funcs[g]? = some fn ∧ fn.name ≠ "runtime.NumGoroutine" ∧ fn.body.isSome = true) ∧
    ∃ v h', f v h' = some r ∧ ∀ φ I w (cs : List Value), Sim φ I h w → RelL w φ I args cs → Calls Go.Proofs.Tryz.prog g cs.toArray w fun e w' => ∃ c, e = .returned c ∧ Post h φ I w v h' c w' := by
  exact ⟨ins_sound Go.Proofs.insWalk169 Go.Proofs.Tryz.underlying55 Go.Proofs.Tryz.underlying3 (infoB_bytes (zero := [.int .i64 0, .int .i64 0, .int .i64 0, .int .i64 0, .int .i64 0, .nil, .str [], .nil]) (by decide +kernel) (by decide +kernel)) (by decide), ⟨ins_sound Go.Proofs.insWalk131 Go.Proofs.Tryz.underlying30 Go.Proofs.Tryz.underlying3 (infoB_bytes (zero := [.int .i64 0, .int .i64 0, .int .i64 0]) (by decide +kernel) (by decide +kernel)) (by decide), trivial, trivial⟩, ⟨ins_sound Go.Proofs.insWalk233 Go.Proofs.Tryz.underlying42 Go.Proofs.Tryz.underlying3 (infoB_bytes (zero := [.str [], .int .i64 0]) (by decide +kernel) (by decide +kernel)) (by decide), trivial, trivial⟩⟩
theorem base : EnvBase Go.Proofs.Tryz.prog E0 where
  types := (types_of rfl tAll).1
  fields := (types_of rfl tAll).2
  fns := fun g fn h => Tr.get_all gAll h
  code := fun g fn h => Tr.get_all cAll h
  ins := fun g zb h => Tr.get_all iAll h
  mixed := rfl
end Go.Den
