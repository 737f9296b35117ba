/- What is known of some functions at the arguments that the law gives them -/
import Derived.Test.YtngjccjmhlhlbaaGreatUAEnv
import Derived.Test.YtngjccjmhlhlbaaGreatDenZo
set_option linter.unusedVariables false
set_option linter.unusedSimpArgs false
set_option linter.unusedSectionVars false
namespace Go.Den
open Go
set_option maxRecDepth 1000000
variable [Val]
noncomputable def o0 : Nat → Option (List AV → Option AV) := fun _ => none
theorem oOk0 : ∀ g ψ, o0 g = some ψ → Fact Go.Proofs.Tryz.prog g ψ := fun g ψ h => by cases h
noncomputable def E_0 : Env := { E0 with orc := o0 }
theorem ok0 : EnvOk Go.Proofs.Tryz.prog E_0 := base.ok o0 oOk0
def v25_0 : AV := (.agg [(.sl true 1 [[(.int .i64 1)], [(.int .i64 1)]]), (.int .i64 1), (.sl true 4 [[(.int .i64 300), (.int .i64 60), (.int .i64 3), (.sl true 8 [[(.int .i64 1), (.int .i64 2), (.int .i64 493), (.int .i64 1), (.int .i64 0), .nil, (.str []), (.sl true 2 [[(.str [46, 119, 104, 46, 46, 119, 104, 46, 120, 105, 110, 111]), (.int .i64 2)]])], [(.int .i64 2), (.int .i64 1), (.int .i64 0), (.int .i64 1), (.int .i64 94), (.sl true 2 [[(.int .i64 0), (.sl true 1 [[(.int .u8 0)], [(.int .u8 0)], [(.int .u8 0)], [(.int .u8 6)], [(.int .u8 0)], [(.int .u8 0)], [(.int .u8 0)], [(.int .u8 6)], [(.int .u8 0)], [(.int .u8 0)], [(.int .u8 0)], [(.int .u8 3)], [(.int .u8 0)], [(.int .u8 0)], [(.int .u8 0)], [(.int .u8 0)]])], [(.int .i64 1), (.sl true 1 [[(.int .u8 0)], [(.int .u8 1)], [(.int .u8 0)], [(.int .u8 0)], [(.int .u8 0)], [(.int .u8 1)], [(.int .u8 1)], [(.int .u8 0)], [(.int .u8 0)], [(.int .u8 0)], [(.int .u8 1)], [(.int .u8 0)], [(.int .u8 0)], [(.int .u8 0)], [(.int .u8 1)], [(.int .u8 1)]])], [(.int .i64 2), (.sl true 1 [[(.int .u8 0)], [(.int .u8 0)], [(.int .u8 0)], [(.int .u8 2)], [(.int .u8 0)], [(.int .u8 0)], [(.int .u8 0)], [(.int .u8 3)], [(.int .u8 1)], [(.int .u8 0)], [(.int .u8 0)], [(.int .u8 0)], [(.int .u8 3)], [(.int .u8 0)], [(.int .u8 0)], [(.int .u8 0)]])], [(.int .i64 3), (.sl true 1 [[(.int .u8 2)], [(.int .u8 1)], [(.int .u8 0)], [(.int .u8 0)], [(.int .u8 0)], [(.int .u8 4)], [(.int .u8 0)], [(.int .u8 0)], [(.int .u8 0)], [(.int .u8 4)], [(.int .u8 1)], [(.int .u8 0)], [(.int .u8 0)], [(.int .u8 0)], [(.int .u8 5)], [(.int .u8 0)]])], [(.int .i64 4), (.sl true 1 [[(.int .u8 0)], [(.int .u8 0)], [(.int .u8 5)], [(.int .u8 1)], [(.int .u8 0)], [(.int .u8 0)], [(.int .u8 0)], [(.int .u8 2)], [(.int .u8 0)], [(.int .u8 0)], [(.int .u8 0)], [(.int .u8 3)], [(.int .u8 1)], [(.int .u8 0)], [(.int .u8 0)], [(.int .u8 0)]])], [(.int .i64 5), (.sl true 1 [[(.int .u8 4)], [(.int .u8 0)], [(.int .u8 0)], [(.int .u8 0)], [(.int .u8 4)], [(.int .u8 1)], [(.int .u8 0)], [(.int .u8 0)], [(.int .u8 0)], [(.int .u8 5)], [(.int .u8 0)], [(.int .u8 0)], [(.int .u8 0)], [(.int .u8 5)], [(.int .u8 0)], [(.int .u8 0)]])]]), (.str []), (.sl true 2 [])]])], [(.int .i64 300), (.int .i64 60), (.int .i64 6), (.sl true 8 [[(.int .i64 1), (.int .i64 2), (.int .i64 493), (.int .i64 1), (.int .i64 0), .nil, (.str []), (.sl true 2 [[(.str [100]), (.int .i64 3)], [(.str [102]), (.int .i64 2)], [(.str [115]), (.int .i64 5)]])], [(.int .i64 2), (.int .i64 1), (.int .i64 6), (.int .i64 2), (.int .i64 3), (.sl true 2 [[(.int .i64 0), (.sl true 1 [[(.int .u8 97)], [(.int .u8 98)], [(.int .u8 99)], [(.int .u8 0)], [(.int .u8 0)], [(.int .u8 0)], [(.int .u8 0)], [(.int .u8 0)], [(.int .u8 0)], [(.int .u8 0)], [(.int .u8 0)], [(.int .u8 0)], [(.int .u8 0)], [(.int .u8 0)], [(.int .u8 0)], [(.int .u8 0)]])]]), (.str []), (.sl true 2 [])], [(.int .i64 3), (.int .i64 2), (.int .i64 7), (.int .i64 1), (.int .i64 0), .nil, (.str []), (.sl true 2 [[(.str [103]), (.int .i64 2)], [(.str [120]), (.int .i64 4)]])], [(.int .i64 4), (.int .i64 1), (.int .i64 0), (.int .i64 1), (.int .i64 0), .nil, (.str []), (.sl true 2 [])], [(.int .i64 5), (.int .i64 3), (.int .i64 0), (.int .i64 1), (.int .i64 0), .nil, (.str [116]), (.sl true 2 [])]])]]), (.int .i64 6), (.sl true 3 [[(.int .i64 0), (.int .i64 1), (.int .i64 1)], [(.int .i64 1), (.int .i64 1), (.int .i64 1)], [(.int .i64 1), (.int .i64 2), (.int .i64 3)], [(.int .i64 1), (.int .i64 3), (.int .i64 2)], [(.int .i64 1), (.int .i64 4), (.int .i64 4)], [(.int .i64 1), (.int .i64 5), (.int .i64 5)]]), (.sl true 3 [[(.int .i64 1), (.int .i64 2), (.int .i64 3)], [(.int .i64 1), (.int .i64 4), (.int .i64 4)], [(.int .i64 1), (.int .i64 5), (.int .i64 5)]]), (.int .i64 0)])
theorem e25_0 : isV (runI E_0 100000 25 [.int .i64 1]) v25_0 = true := by decide +kernel
def v25_1 : AV := (.agg [(.sl true 1 [[(.int .i64 1)], [(.int .i64 2)]]), (.int .i64 1), (.sl true 4 [[(.int .i64 300), (.int .i64 60), (.int .i64 3), (.sl true 8 [[(.int .i64 1), (.int .i64 2), (.int .i64 493), (.int .i64 1), (.int .i64 0), .nil, (.str []), (.sl true 2 [[(.str [46, 119, 104, 46, 46, 119, 104, 46, 120, 105, 110, 111]), (.int .i64 2)]])], [(.int .i64 2), (.int .i64 1), (.int .i64 0), (.int .i64 1), (.int .i64 94), (.sl true 2 [[(.int .i64 0), (.sl true 1 [[(.int .u8 0)], [(.int .u8 0)], [(.int .u8 0)], [(.int .u8 6)], [(.int .u8 0)], [(.int .u8 0)], [(.int .u8 0)], [(.int .u8 6)], [(.int .u8 0)], [(.int .u8 0)], [(.int .u8 0)], [(.int .u8 3)], [(.int .u8 0)], [(.int .u8 0)], [(.int .u8 0)], [(.int .u8 0)]])], [(.int .i64 1), (.sl true 1 [[(.int .u8 0)], [(.int .u8 1)], [(.int .u8 0)], [(.int .u8 0)], [(.int .u8 0)], [(.int .u8 1)], [(.int .u8 1)], [(.int .u8 0)], [(.int .u8 0)], [(.int .u8 0)], [(.int .u8 1)], [(.int .u8 0)], [(.int .u8 0)], [(.int .u8 0)], [(.int .u8 1)], [(.int .u8 1)]])], [(.int .i64 2), (.sl true 1 [[(.int .u8 0)], [(.int .u8 0)], [(.int .u8 0)], [(.int .u8 2)], [(.int .u8 0)], [(.int .u8 0)], [(.int .u8 0)], [(.int .u8 3)], [(.int .u8 1)], [(.int .u8 0)], [(.int .u8 0)], [(.int .u8 0)], [(.int .u8 3)], [(.int .u8 0)], [(.int .u8 0)], [(.int .u8 0)]])], [(.int .i64 3), (.sl true 1 [[(.int .u8 2)], [(.int .u8 1)], [(.int .u8 0)], [(.int .u8 0)], [(.int .u8 0)], [(.int .u8 4)], [(.int .u8 0)], [(.int .u8 0)], [(.int .u8 0)], [(.int .u8 4)], [(.int .u8 1)], [(.int .u8 0)], [(.int .u8 0)], [(.int .u8 0)], [(.int .u8 5)], [(.int .u8 0)]])], [(.int .i64 4), (.sl true 1 [[(.int .u8 0)], [(.int .u8 0)], [(.int .u8 5)], [(.int .u8 1)], [(.int .u8 0)], [(.int .u8 0)], [(.int .u8 0)], [(.int .u8 2)], [(.int .u8 0)], [(.int .u8 0)], [(.int .u8 0)], [(.int .u8 3)], [(.int .u8 1)], [(.int .u8 0)], [(.int .u8 0)], [(.int .u8 0)]])], [(.int .i64 5), (.sl true 1 [[(.int .u8 4)], [(.int .u8 0)], [(.int .u8 0)], [(.int .u8 0)], [(.int .u8 4)], [(.int .u8 1)], [(.int .u8 0)], [(.int .u8 0)], [(.int .u8 0)], [(.int .u8 5)], [(.int .u8 0)], [(.int .u8 0)], [(.int .u8 0)], [(.int .u8 5)], [(.int .u8 0)], [(.int .u8 0)]])]]), (.str []), (.sl true 2 [])]])], [(.int .i64 300), (.int .i64 60), (.int .i64 6), (.sl true 8 [[(.int .i64 1), (.int .i64 2), (.int .i64 493), (.int .i64 1), (.int .i64 0), .nil, (.str []), (.sl true 2 [[(.str [100]), (.int .i64 3)], [(.str [102]), (.int .i64 2)], [(.str [115]), (.int .i64 5)]])], [(.int .i64 2), (.int .i64 1), (.int .i64 6), (.int .i64 2), (.int .i64 3), (.sl true 2 [[(.int .i64 0), (.sl true 1 [[(.int .u8 97)], [(.int .u8 98)], [(.int .u8 99)], [(.int .u8 0)], [(.int .u8 0)], [(.int .u8 0)], [(.int .u8 0)], [(.int .u8 0)], [(.int .u8 0)], [(.int .u8 0)], [(.int .u8 0)], [(.int .u8 0)], [(.int .u8 0)], [(.int .u8 0)], [(.int .u8 0)], [(.int .u8 0)]])]]), (.str []), (.sl true 2 [])], [(.int .i64 3), (.int .i64 2), (.int .i64 7), (.int .i64 1), (.int .i64 0), .nil, (.str []), (.sl true 2 [[(.str [103]), (.int .i64 2)], [(.str [120]), (.int .i64 4)]])], [(.int .i64 4), (.int .i64 1), (.int .i64 0), (.int .i64 1), (.int .i64 0), .nil, (.str []), (.sl true 2 [])], [(.int .i64 5), (.int .i64 3), (.int .i64 0), (.int .i64 1), (.int .i64 0), .nil, (.str [116]), (.sl true 2 [])]])]]), (.int .i64 6), (.sl true 3 [[(.int .i64 0), (.int .i64 1), (.int .i64 1)], [(.int .i64 1), (.int .i64 1), (.int .i64 1)], [(.int .i64 1), (.int .i64 2), (.int .i64 3)], [(.int .i64 1), (.int .i64 3), (.int .i64 2)], [(.int .i64 1), (.int .i64 4), (.int .i64 4)], [(.int .i64 1), (.int .i64 5), (.int .i64 5)]]), (.sl true 3 [[(.int .i64 1), (.int .i64 2), (.int .i64 3)], [(.int .i64 1), (.int .i64 4), (.int .i64 4)], [(.int .i64 1), (.int .i64 5), (.int .i64 5)]]), (.int .i64 0)])
theorem e25_1 : isV (runI E_0 100000 25 [.int .i64 2]) v25_1 = true := by decide +kernel
def v25_2 : AV := (.agg [(.sl true 1 [[(.int .i64 1)], [(.int .i64 3)]]), (.int .i64 1), (.sl true 4 [[(.int .i64 300), (.int .i64 60), (.int .i64 3), (.sl true 8 [[(.int .i64 1), (.int .i64 2), (.int .i64 493), (.int .i64 1), (.int .i64 0), .nil, (.str []), (.sl true 2 [[(.str [46, 119, 104, 46, 46, 119, 104, 46, 120, 105, 110, 111]), (.int .i64 2)]])], [(.int .i64 2), (.int .i64 1), (.int .i64 0), (.int .i64 1), (.int .i64 94), (.sl true 2 [[(.int .i64 0), (.sl true 1 [[(.int .u8 0)], [(.int .u8 0)], [(.int .u8 0)], [(.int .u8 6)], [(.int .u8 0)], [(.int .u8 0)], [(.int .u8 0)], [(.int .u8 6)], [(.int .u8 0)], [(.int .u8 0)], [(.int .u8 0)], [(.int .u8 3)], [(.int .u8 0)], [(.int .u8 0)], [(.int .u8 0)], [(.int .u8 0)]])], [(.int .i64 1), (.sl true 1 [[(.int .u8 0)], [(.int .u8 1)], [(.int .u8 0)], [(.int .u8 0)], [(.int .u8 0)], [(.int .u8 1)], [(.int .u8 1)], [(.int .u8 0)], [(.int .u8 0)], [(.int .u8 0)], [(.int .u8 1)], [(.int .u8 0)], [(.int .u8 0)], [(.int .u8 0)], [(.int .u8 1)], [(.int .u8 1)]])], [(.int .i64 2), (.sl true 1 [[(.int .u8 0)], [(.int .u8 0)], [(.int .u8 0)], [(.int .u8 2)], [(.int .u8 0)], [(.int .u8 0)], [(.int .u8 0)], [(.int .u8 3)], [(.int .u8 1)], [(.int .u8 0)], [(.int .u8 0)], [(.int .u8 0)], [(.int .u8 3)], [(.int .u8 0)], [(.int .u8 0)], [(.int .u8 0)]])], [(.int .i64 3), (.sl true 1 [[(.int .u8 2)], [(.int .u8 1)], [(.int .u8 0)], [(.int .u8 0)], [(.int .u8 0)], [(.int .u8 4)], [(.int .u8 0)], [(.int .u8 0)], [(.int .u8 0)], [(.int .u8 4)], [(.int .u8 1)], [(.int .u8 0)], [(.int .u8 0)], [(.int .u8 0)], [(.int .u8 5)], [(.int .u8 0)]])], [(.int .i64 4), (.sl true 1 [[(.int .u8 0)], [(.int .u8 0)], [(.int .u8 5)], [(.int .u8 1)], [(.int .u8 0)], [(.int .u8 0)], [(.int .u8 0)], [(.int .u8 2)], [(.int .u8 0)], [(.int .u8 0)], [(.int .u8 0)], [(.int .u8 3)], [(.int .u8 1)], [(.int .u8 0)], [(.int .u8 0)], [(.int .u8 0)]])], [(.int .i64 5), (.sl true 1 [[(.int .u8 4)], [(.int .u8 0)], [(.int .u8 0)], [(.int .u8 0)], [(.int .u8 4)], [(.int .u8 1)], [(.int .u8 0)], [(.int .u8 0)], [(.int .u8 0)], [(.int .u8 5)], [(.int .u8 0)], [(.int .u8 0)], [(.int .u8 0)], [(.int .u8 5)], [(.int .u8 0)], [(.int .u8 0)]])]]), (.str []), (.sl true 2 [])]])], [(.int .i64 300), (.int .i64 60), (.int .i64 6), (.sl true 8 [[(.int .i64 1), (.int .i64 2), (.int .i64 493), (.int .i64 1), (.int .i64 0), .nil, (.str []), (.sl true 2 [[(.str [100]), (.int .i64 3)], [(.str [102]), (.int .i64 2)], [(.str [115]), (.int .i64 5)]])], [(.int .i64 2), (.int .i64 1), (.int .i64 6), (.int .i64 2), (.int .i64 3), (.sl true 2 [[(.int .i64 0), (.sl true 1 [[(.int .u8 97)], [(.int .u8 98)], [(.int .u8 99)], [(.int .u8 0)], [(.int .u8 0)], [(.int .u8 0)], [(.int .u8 0)], [(.int .u8 0)], [(.int .u8 0)], [(.int .u8 0)], [(.int .u8 0)], [(.int .u8 0)], [(.int .u8 0)], [(.int .u8 0)], [(.int .u8 0)], [(.int .u8 0)]])]]), (.str []), (.sl true 2 [])], [(.int .i64 3), (.int .i64 2), (.int .i64 7), (.int .i64 1), (.int .i64 0), .nil, (.str []), (.sl true 2 [[(.str [103]), (.int .i64 2)], [(.str [120]), (.int .i64 4)]])], [(.int .i64 4), (.int .i64 1), (.int .i64 0), (.int .i64 1), (.int .i64 0), .nil, (.str []), (.sl true 2 [])], [(.int .i64 5), (.int .i64 3), (.int .i64 0), (.int .i64 1), (.int .i64 0), .nil, (.str [116]), (.sl true 2 [])]])]]), (.int .i64 6), (.sl true 3 [[(.int .i64 0), (.int .i64 1), (.int .i64 1)], [(.int .i64 1), (.int .i64 1), (.int .i64 1)], [(.int .i64 1), (.int .i64 2), (.int .i64 3)], [(.int .i64 1), (.int .i64 3), (.int .i64 2)], [(.int .i64 1), (.int .i64 4), (.int .i64 4)], [(.int .i64 1), (.int .i64 5), (.int .i64 5)]]), (.sl true 3 [[(.int .i64 1), (.int .i64 2), (.int .i64 3)], [(.int .i64 1), (.int .i64 4), (.int .i64 4)], [(.int .i64 1), (.int .i64 5), (.int .i64 5)]]), (.int .i64 0)])
theorem e25_2 : isV (runI E_0 100000 25 [.int .i64 3]) v25_2 = true := by decide +kernel
def v25 : List (List AV × AV) := [([.int .i64 1], v25_0), ([.int .i64 2], v25_1), ([.int .i64 3], v25_2)]
theorem fact25 : Fact Go.Proofs.Tryz.prog 25 (tab v25) := by
  refine fact_of ok0 (fuel := 100000) fun q hq => ?_
  simp only [List.mem_cons, List.not_mem_nil, or_false] at hq
  rcases hq with rfl | rfl | rfl
  · exact e25_0
  · exact e25_1
  · exact e25_2
noncomputable def o1 : Nat → Option (List AV → Option AV) := fun g => ifb (Nat.beq g 25) (some (tab v25)) (o0 g)
theorem oOk1 : ∀ g ψ, o1 g = some ψ → Fact Go.Proofs.Tryz.prog g ψ := by
  intro g ψ h
  rcases ifb_some (show ifb (Nat.beq g 25) (some (tab v25)) (o0 g) = some ψ from h) with ⟨h1, h2⟩ | ⟨_, h2⟩
  · cases h2; rw [beq_eq_of h1]; exact fact25
  · exact oOk0 g ψ h2
noncomputable def E_1 : Env := { E0 with orc := o1 }
theorem ok1 : EnvOk Go.Proofs.Tryz.prog E_1 := base.ok o1 oOk1
def v28_0 : AV := .bool true
theorem e28_0 : isV (runI E_1 100000 28 []) v28_0 = true := by decide +kernel
def v28 : List (List AV × AV) := [([], v28_0)]
theorem fact28 : Fact Go.Proofs.Tryz.prog 28 (tab v28) := by
  refine fact_of ok1 (fuel := 100000) fun q hq => ?_
  simp only [List.mem_cons, List.not_mem_nil, or_false] at hq
  subst hq; exact e28_0
noncomputable def o2 : Nat → Option (List AV → Option AV) := fun g => ifb (Nat.beq g 28) (some (tab v28)) (o1 g)
theorem oOk2 : ∀ g ψ, o2 g = some ψ → Fact Go.Proofs.Tryz.prog g ψ := by
  intro g ψ h
  rcases ifb_some (show ifb (Nat.beq g 28) (some (tab v28)) (o1 g) = some ψ from h) with ⟨h1, h2⟩ | ⟨_, h2⟩
  · cases h2; rw [beq_eq_of h1]; exact fact28
  · exact oOk1 g ψ h2
noncomputable def E_2 : Env := { E0 with orc := o2 }
theorem ok2 : EnvOk Go.Proofs.Tryz.prog E_2 := base.ok o2 oOk2
def v27_0 : AV := .bool true
theorem e27_0 : isV (runI E_2 100000 27 [v25_0, v25_0]) v27_0 = true := by decide +kernel
def v27_1 : AV := .bool true
theorem e27_1 : isV (runI E_2 100000 27 [v25_1, v25_1]) v27_1 = true := by decide +kernel
def v27_2 : AV := .bool true
theorem e27_2 : isV (runI E_2 100000 27 [v25_2, v25_2]) v27_2 = true := by decide +kernel
def v27 : List (List AV × AV) := [([v25_0, v25_0], v27_0), ([v25_1, v25_1], v27_1), ([v25_2, v25_2], v27_2)]
theorem fact27 : Fact Go.Proofs.Tryz.prog 27 (tab v27) := by
  refine fact_of ok2 (fuel := 100000) fun q hq => ?_
  simp only [List.mem_cons, List.not_mem_nil, or_false] at hq
  rcases hq with rfl | rfl | rfl
  · exact e27_0
  · exact e27_1
  · exact e27_2
noncomputable def o3 : Nat → Option (List AV → Option AV) := fun g => ifb (Nat.beq g 27) (some (tab v27)) (o2 g)
theorem oOk3 : ∀ g ψ, o3 g = some ψ → Fact Go.Proofs.Tryz.prog g ψ := by
  intro g ψ h
  rcases ifb_some (show ifb (Nat.beq g 27) (some (tab v27)) (o2 g) = some ψ from h) with ⟨h1, h2⟩ | ⟨_, h2⟩
  · cases h2; rw [beq_eq_of h1]; exact fact27
  · exact oOk2 g ψ h2
noncomputable def E_3 : Env := { E0 with orc := o3 }
theorem ok3 : EnvOk Go.Proofs.Tryz.prog E_3 := base.ok o3 oOk3

/-- the first of a row of names, the others whatever they are -/
def cls (x : AV) (n : Nat) : AV := .sl true 1 ([x] :: List.replicate n [AV.bad])
def cls2 (x y : AV) (n : Nat) : AV := .sl true 1 ([x] :: [y] :: List.replicate n [AV.bad])
def isName (x : AV) : Bool := match x with | .sym (.str [] 0 _ _ _ _) => true | _ => false
noncomputable def parseFact (T : AV) (xs : List AV) : Option AV := match xs with | [x] => ifb (isName x) (some T) none | _ => none
theorem isName_some {x : AV} (h : isName x = true) : ∃ lo hi a b, x = .sym (.str [] 0 lo hi a b) := by
  unfold isName at h
  split at h
  · exact ⟨_, _, _, _, rfl⟩
  · cases h
theorem parseFact_some {T : AV} {xs : List AV} {v : AV} (h : parseFact T xs = some v) : ∃ lo hi c d, xs = [.sym (.str [] 0 lo hi c d)] ∧ v = T := by
  unfold parseFact at h
  split at h
  · obtain ⟨h1, h2⟩ := ifb_none h
    cases h2
    obtain ⟨lo, hi, c, d, rfl⟩ := isName_some h1
    exact ⟨lo, hi, c, d, rfl, rfl⟩
  · cases h
/-- less is known -/
def Le (v u : AV) : Prop := ∀ (w : World) (I : Imm) (c : Value), RelI w I v c → RelI w I u c
theorem Le.refl (v : AV) : Le v v := fun _ _ _ h => h
theorem Le.bad_str (l : List Nat) : Le (.str l) .bad := fun w I c h => by cases h; exact .bad _ rfl
theorem Le.bad_nil : Le .nil .bad := fun w I c h => by cases h; exact .bad _ rfl
theorem Le.bad_sl (nn : Bool) (z : Nat) (xs : List Row) : Le (.sl nn z xs) .bad := fun w I c h => by cases h <;> exact .bad _ rfl
theorem Le.sym_str {j : Nat} {lo hi : Option (List Nat)} {a b : Nat} (h1 : ∀ l, lo = some l → bytesLess l (bytesOfStr (Val.τ j)) = true) (h2 : ∀ h, hi = some h → bytesLess (bytesOfStr (Val.τ j)) h = true) (h3 : a ≤ (Val.τ j).size) (h4 : (Val.τ j).size ≤ b) :
    Le (.str (bytesOfStr (Val.τ j))) (.sym (.str [] j lo hi a b)) := fun w I c h => by
  generalize hx : bytesOfStr (Val.τ j) = x at h
  cases h with
  | str s => exact .sym _ _ ⟨s, rfl, hx ▸ rfl, h1, h2, h3, h4⟩
theorem Le.tup2 {a b a' b' : AV} (h1 : Le a a') (h2 : Le b b') : Le (.tup [a, b]) (.tup [a', b']) := fun w I c h => by
  cases h with
  | tup _ vs hl hc =>
    refine .tup _ vs hl fun j v c hv hc' => ?_
    match j with
    | 0 => cases hv; exact h1 w I c (hc 0 a c rfl hc')
    | 1 => cases hv; exact h2 w I c (hc 1 b c rfl hc')
    | j + 2 => simp at hv
theorem Le.sl {nn : Bool} {z : Nat} {xs ys : List Row} (hl : ys.length = xs.length) (hr : ∀ (i : Nat) (r s : Row), xs[i]? = some r → ys[i]? = some s → s.length = r.length ∧ ∀ (j : Nat) (v u : AV), r[j]? = some v → s[j]? = some u → Le v u) : Le (.sl nn z xs) (.sl nn z ys) := fun w I c h => by
  cases h with
  | sl0 _ _ a cap hh h0 =>
    have : ys = [] := List.eq_nil_of_length_eq_zero (by simpa using hl)
    subst this
    exact .sl0 nn z a cap hh h0
  | sl _ _ _ B off cap cell hn hc hrow hcell hone hrel =>
    have row : ∀ (i : Nat) (s : Row), ys[i]? = some s → ∃ r, xs[i]? = some r ∧ s.length = r.length ∧ ∀ (j : Nat) (u : AV), s[j]? = some u → ∃ v, r[j]? = some v ∧ Le v u := fun i s hs => by
      have hi : i < xs.length := by rw [← hl]; exact (List.getElem?_eq_some_iff.1 hs).1
      obtain ⟨k1, k2⟩ := hr i xs[i] s (List.getElem?_eq_getElem hi) hs
      refine ⟨xs[i], List.getElem?_eq_getElem hi, k1, fun j u hu => ?_⟩
      have hj : j < (xs[i]).length := by rw [← k1]; exact (List.getElem?_eq_some_iff.1 hu).1
      exact ⟨_, List.getElem?_eq_getElem hj, k2 j _ u (List.getElem?_eq_getElem hj) hu⟩
    rw [← hl] at hc
    rw [← hl]
    refine .sl nn z ys B off cap cell (fun hq => hn (List.eq_nil_of_length_eq_zero (by rw [← hl, hq]; rfl))) hc (fun i s hs => ?_) (fun i j s u hs hu => ?_) (fun i j s u hs hu => ?_) (fun i j s u hs hu => ?_)
    · obtain ⟨r, k1, k2, _⟩ := row i s hs; rw [k2]; exact hrow i r k1
    · obtain ⟨r, k1, _, k3⟩ := row i s hs; obtain ⟨v, k4, _⟩ := k3 j u hu; exact hcell i j r v k1 k4
    · obtain ⟨r, k1, _, k3⟩ := row i s hs; obtain ⟨v, k4, _⟩ := k3 j u hu; exact hone i j r v k1 k4
    · obtain ⟨r, k1, _, k3⟩ := row i s hs; obtain ⟨v, k4, k5⟩ := k3 j u hu; exact k5 _ _ _ (hrel i j r v k1 k4)
theorem Le.names {names : List (List Nat)} {us : List AV} (h : List.length us = names.length) (hr : ∀ (i : Nat) (x : List Nat) (u : AV), names[i]? = some x → us[i]? = some u → Le (.str x) u) :
    Le (.sl true 1 (names.map fun x => [AV.str x])) (.sl true 1 (us.map fun u => [u])) := by
  refine Le.sl (by simp [h]) fun i r s hi hs => ?_
  rw [List.getElem?_map] at hi hs
  cases hx : names[i]? with
  | none => rw [hx] at hi; cases hi
  | some x =>
    cases hu : us[i]? with
    | none => rw [hu] at hs; cases hs
    | some u =>
      rw [hx] at hi; rw [hu] at hs
      cases hi; cases hs
      refine ⟨rfl, fun j v y hv hy => ?_⟩
      match j with
      | 0 => cases hv; cases hy; exact hr i x u hx hu
      | j + 1 => simp at hv
theorem Le.cls {x : List Nat} {rest : List (List Nat)} {u : AV} (h : Le (.str x) u) : Le (.sl true 1 ((x :: rest).map fun x => [AV.str x])) (cls u rest.length) := by
  have := Le.names (names := x :: rest) (us := u :: List.replicate rest.length .bad) (by simp) fun i y v hy hv => ?_
  · simpa [Den.cls] using this
  · cases i with
    | zero => cases hy; cases hv; exact h
    | succ i =>
      have : v = .bad := by
        have hv : (List.replicate rest.length AV.bad)[i]? = some v := hv
        rw [List.getElem?_replicate] at hv
        split at hv
        · exact (Option.some.inj hv).symm
        · cases hv
      subst this
      exact Le.bad_str y
theorem Le.cls2 {x y : List Nat} {rest : List (List Nat)} {u v : AV} (h : Le (.str x) u) (h' : Le (.str y) v) : Le (.sl true 1 ((x :: y :: rest).map fun x => [AV.str x])) (cls2 u v rest.length) := by
  have := Le.names (names := x :: y :: rest) (us := u :: v :: List.replicate rest.length .bad) (by simp) fun i z t hy hv => ?_
  · simpa [Den.cls2] using this
  · match i with
    | 0 => cases hy; cases hv; exact h
    | 1 => cases hy; cases hv; exact h'
    | i + 2 =>
      have : t = .bad := by
        have hv : (List.replicate rest.length AV.bad)[i]? = some t := hv
        rw [List.getElem?_replicate] at hv
        split at hv
        · exact (Option.some.inj hv).symm
        · cases hv
      subst this
      exact Le.bad_str z

/-- the path's names are so many that are known -/
def Parsed (T : AV) : Prop := ∃ v, Gives Go.Proofs.Tryz.prog 24 [.str (bytesOfStr (Val.τ 0))] v ∧ Le v T
theorem parse_fact {T : AV} (hp : Parsed T) : Fact Go.Proofs.Tryz.prog 24 (parseFact T) where
  enters := ⟨_, Go.Proofs.Tryz.func24, by decide +kernel, rfl⟩
  gives := by
    intro xs v h
    obtain ⟨lo, hi, c, d, rfl, rfl⟩ := parseFact_some h
    obtain ⟨u, h1, h2⟩ := hp
    intro I w cs hI hl
    obtain ⟨x, rfl⟩ : ∃ x, cs = [x] := by
      match cs, hl.1 with
      | [x], _ => exact ⟨x, rfl⟩
    obtain rfl := sym_str_inv (hl.2 0 _ _ rfl rfl)
    refine (h1 I w [.string (Val.τ 0)] hI ⟨rfl, fun j a c ha hc => ?_⟩).mono fun e w' ⟨c, I', q1, q2, q3, q4, q5, q6⟩ => ⟨c, I', q1, q2, q3, q4, q5, h2 _ _ _ q6⟩
    match j with
    | 0 => cases ha; cases hc; exact .str _
    | j + 1 => simp at ha
noncomputable def oT (T : AV) (p : List (List AV × AV)) : Nat → Option (List AV → Option AV) := fun g => ifb (Nat.beq g 24) (some (parseFact T)) (ifb (Nat.beq g 26) (some (tab p)) (o3 g))
noncomputable def E_T (T : AV) (p : List (List AV × AV)) : Env := { E0 with orc := oT T p }
theorem up_nil : Fact Go.Proofs.Tryz.prog 26 (tab []) where
  enters := ⟨_, Go.Proofs.Tryz.func26, by decide +kernel, rfl⟩
  gives := fun _ _ h => by cases h
theorem okT {T : AV} {p : List (List AV × AV)} (hp : Parsed T) (hu : Fact Go.Proofs.Tryz.prog 26 (tab p)) : EnvOk Go.Proofs.Tryz.prog (E_T T p) := by
  refine base.ok (oT T p) fun g ψ h => ?_
  rcases ifb_some (show ifb (Nat.beq g 24) (some (parseFact T)) (ifb (Nat.beq g 26) (some (tab p)) (o3 g)) = some ψ from h) with ⟨k1, k2⟩ | ⟨_, k2⟩
  · cases k2; rw [beq_eq_of k1]; exact parse_fact hp
  · rcases ifb_some k2 with ⟨k1, k3⟩ | ⟨_, k3⟩
    · cases k3; rw [beq_eq_of k1]; exact hu
    · exact oOk3 g ψ k3
def path (a b : Nat) : AV := .sym (.str [] 0 none none a b)
def okl (L : AV) : AV := .tup [L, .int .i64 0]
def res (u : AV) (e : Int) : AV := .tup [u, .agg [.int .i64 0, .int .i64 0], .int .i64 e]
/-- nothing goes up: an error, and the law -/
noncomputable def chk (w : Int) (u L : AV) (e : Int) : Bool := band (isV (runI E_3 100000 26 [u, L]) (res u e)) (isV (runI (E_T (okl L) [([u, L], res u e)]) 100000 5 [.int .i64 w, path 0 60]) (.bool true))
/-- the law at names that are known -/
noncomputable def chk0 (w : Int) (L : AV) : Bool := isV (runI (E_T (okl L) []) 100000 5 [.int .i64 w, path 0 60]) (.bool true)
theorem chk_gives {w : Int} {u L : AV} {e : Int} (h : chk w u L e = true) (hp : Parsed (okl L)) : Gives Go.Proofs.Tryz.prog 5 [.int .i64 w, path 0 60] (.bool true) := by
  obtain ⟨h1, h2⟩ := band_true h
  have hu : Fact Go.Proofs.Tryz.prog 26 (tab [([u, L], res u e)]) := fact_of ok3 (fuel := 100000) fun q hq => by
    simp only [List.mem_cons, List.not_mem_nil, or_false] at hq
    subst hq; exact h1
  exact (runI_gives (okT hp hu) (isV_eq h2)).1
theorem chk0_gives {w : Int} {L : AV} (h : chk0 w L = true) (hp : Parsed (okl L)) : Gives Go.Proofs.Tryz.prog 5 [.int .i64 w, path 0 60] (.bool true) :=
  (runI_gives (okT hp up_nil) (isV_eq h)).1
noncomputable def allN (f : Nat → Bool) (n : Nat) : Bool := @Nat.rec (fun _ => Bool) true (fun k ih => ifb (f k) ih false) n
theorem allN_true {f : Nat → Bool} : ∀ {n : Nat}, allN f n = true → ∀ k, k < n → f k = true
  | 0, _, k, hk => absurd hk (by omega)
  | n + 1, h, k, hk => by
    obtain ⟨h1, h2⟩ := ifb_and (show ifb (f n) (allN f n) false = true from h)
    by_cases hkn : k = n
    · subst hkn; exact h1
    · exact allN_true h2 k (by omega)
end Go.Den
