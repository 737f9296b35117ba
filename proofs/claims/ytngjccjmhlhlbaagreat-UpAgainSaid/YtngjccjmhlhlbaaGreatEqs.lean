/- What == of struct types of the program comes to -/
import Derived.Test.YtngjccjmhlhlbaaGreatProg
import Derived.Test.YtngjccjmhlhlbaaGreatDenZk
set_option linter.unusedVariables false
set_option linter.unusedSimpArgs false
set_option linter.unusedSectionVars false
namespace Go.Proofs
open Go.Den
variable [Val]
theorem fields58 : Tryz.prog.underlying 58 = some (.struct (Tryz.prog.fieldsOf 58)) := by simp [Program.fieldsOf]

theorem run58 (d : Nat) (w : World) (a0 b0 : Int) (a1 b1 : Int) : (Op.equalIn (d + 2) 58 (.agg #[.int .i64 a0, .int .i64 a1]) (.agg #[.int .i64 b0, .int .i64 b1])).run Tryz.prog w = .ok (valsEq [.int .i64 a0, .int .i64 a1] [.int .i64 b0, .int .i64 b1]) w := by
  rw [run_equalIn_agg w (d + 1) 58 _ _ fields58 Tryz.stoodInHeld58]
  simp only [Program.fieldsOf, Tryz.underlying58]
  have e : valsEq [.int .i64 a0, .int .i64 a1] [.int .i64 b0, .int .i64 b1] = ((valEq (.int .i64 a0) (.int .i64 b0)) && ((valEq (.int .i64 a1) (.int .i64 b1)) && true)) := by simp only [valsEq, Bool.and_true, Bool.and_assoc]
  rw [e]
  refine eqFields_cons w _ _ _ _ _ (by simp) (a := .int .i64 a0) (b := .int .i64 b0) ?_ ?_ ?_ (eqFields_cons w _ _ _ _ _ (by simp) (a := .int .i64 a1) (b := .int .i64 b1) ?_ ?_ ?_ rfl)
  · exact part_cell Tryz.underlying3 rfl rfl w
  · exact part_cell Tryz.underlying3 rfl rfl w
  · exact run_equalIn_int w (d + 0) 3 _ _ _ _ Tryz.underlying3
  · exact part_cell Tryz.underlying2 rfl rfl w
  · exact part_cell Tryz.underlying2 rfl rfl w
  · exact run_equalIn_int w (d + 0) 2 _ _ _ _ Tryz.underlying2

theorem eq58 : EqOk Tryz.prog 58 [.int .i64 0, .int .i64 0] := by
  refine eqOk_of Tryz.eqGuardType58 fun w xs ys h1 h2 => ?_
  obtain ⟨ca0, la0, rfl, ⟨a0, rfl⟩, h11_⟩ := shape_cons h1
  obtain ⟨ca1, la1, rfl, ⟨a1, rfl⟩, h12_⟩ := shape_cons h11_
  obtain rfl := shape_nil h12_
  obtain ⟨cb0, lb0, rfl, ⟨b0, rfl⟩, h21_⟩ := shape_cons h2
  obtain ⟨cb1, lb1, rfl, ⟨b1, rfl⟩, h22_⟩ := shape_cons h21_
  obtain rfl := shape_nil h22_
  exact run58 9998 w a0 b0 a1 b1

theorem fields150 : Tryz.prog.underlying 150 = some (.struct (Tryz.prog.fieldsOf 150)) := by simp [Program.fieldsOf]

theorem run150 (d : Nat) (w : World) (a0 b0 : Int) (a1 b1 : Int) (a2 b2 : Int) : (Op.equalIn (d + 3) 150 (.agg #[.int .i64 a0, .int .i64 a1, .int .i64 a2]) (.agg #[.int .i64 b0, .int .i64 b1, .int .i64 b2])).run Tryz.prog w = .ok (valsEq [.int .i64 a0, .int .i64 a1, .int .i64 a2] [.int .i64 b0, .int .i64 b1, .int .i64 b2]) w := by
  rw [run_equalIn_agg w (d + 2) 150 _ _ fields150 Tryz.stoodInHeld150]
  simp only [Program.fieldsOf, Tryz.underlying150]
  have e : valsEq [.int .i64 a0, .int .i64 a1, .int .i64 a2] [.int .i64 b0, .int .i64 b1, .int .i64 b2] = ((valsEq [.int .i64 a0, .int .i64 a1] [.int .i64 b0, .int .i64 b1]) && ((valEq (.int .i64 a2) (.int .i64 b2)) && true)) := by simp only [valsEq, Bool.and_true, Bool.and_assoc]
  rw [e]
  refine eqFields_cons w _ _ _ _ _ (by simp) (a := .agg #[.int .i64 a0, .int .i64 a1]) (b := .agg #[.int .i64 b0, .int .i64 b1]) ?_ ?_ ?_ (eqFields_cons w _ _ _ _ _ (by simp) (a := .int .i64 a2) (b := .int .i64 b2) ?_ ?_ ?_ rfl)
  · exact part_row Tryz.underlying58 Tryz.sizeOf58 _ _ w
  · exact part_row Tryz.underlying58 Tryz.sizeOf58 _ _ w
  · exact run58 d w a0 b0 a1 b1
  · exact part_cell Tryz.underlying2 rfl rfl w
  · exact part_cell Tryz.underlying2 rfl rfl w
  · exact run_equalIn_int w (d + 1) 2 _ _ _ _ Tryz.underlying2

theorem eq150 : EqOk Tryz.prog 150 [.int .i64 0, .int .i64 0, .int .i64 0] := by
  refine eqOk_of Tryz.eqGuardType150 fun w xs ys h1 h2 => ?_
  obtain ⟨ca0, la0, rfl, ⟨a0, rfl⟩, h11_⟩ := shape_cons h1
  obtain ⟨ca1, la1, rfl, ⟨a1, rfl⟩, h12_⟩ := shape_cons h11_
  obtain ⟨ca2, la2, rfl, ⟨a2, rfl⟩, h13_⟩ := shape_cons h12_
  obtain rfl := shape_nil h13_
  obtain ⟨cb0, lb0, rfl, ⟨b0, rfl⟩, h21_⟩ := shape_cons h2
  obtain ⟨cb1, lb1, rfl, ⟨b1, rfl⟩, h22_⟩ := shape_cons h21_
  obtain ⟨cb2, lb2, rfl, ⟨b2, rfl⟩, h23_⟩ := shape_cons h22_
  obtain rfl := shape_nil h23_
  exact run150 9997 w a0 b0 a1 b1 a2 b2

theorem fields194 : Tryz.prog.underlying 194 = some (.struct (Tryz.prog.fieldsOf 194)) := by simp [Program.fieldsOf]

theorem run194 (d : Nat) (w : World) (a0 b0 : ByteArray) (a1 b1 : Int) : (Op.equalIn (d + 2) 194 (.agg #[.string a0, .int .i64 a1]) (.agg #[.string b0, .int .i64 b1])).run Tryz.prog w = .ok (valsEq [.string a0, .int .i64 a1] [.string b0, .int .i64 b1]) w := by
  rw [run_equalIn_agg w (d + 1) 194 _ _ fields194 Tryz.stoodInHeld194]
  simp only [Program.fieldsOf, Tryz.underlying194]
  have e : valsEq [.string a0, .int .i64 a1] [.string b0, .int .i64 b1] = ((valEq (.string a0) (.string b0)) && ((valEq (.int .i64 a1) (.int .i64 b1)) && true)) := by simp only [valsEq, Bool.and_true, Bool.and_assoc]
  rw [e]
  refine eqFields_cons w _ _ _ _ _ (by simp) (a := .string a0) (b := .string b0) ?_ ?_ ?_ (eqFields_cons w _ _ _ _ _ (by simp) (a := .int .i64 a1) (b := .int .i64 b1) ?_ ?_ ?_ rfl)
  · exact part_cell Tryz.underlying9 rfl rfl w
  · exact part_cell Tryz.underlying9 rfl rfl w
  · exact run_equalIn_string w (d + 0) 9 _ _ Tryz.underlying9
  · exact part_cell Tryz.underlying2 rfl rfl w
  · exact part_cell Tryz.underlying2 rfl rfl w
  · exact run_equalIn_int w (d + 0) 2 _ _ _ _ Tryz.underlying2

theorem eq194 : EqOk Tryz.prog 194 [.str [], .int .i64 0] := by
  refine eqOk_of Tryz.eqGuardType194 fun w xs ys h1 h2 => ?_
  obtain ⟨ca0, la0, rfl, ⟨a0, rfl⟩, h11_⟩ := shape_cons h1
  obtain ⟨ca1, la1, rfl, ⟨a1, rfl⟩, h12_⟩ := shape_cons h11_
  obtain rfl := shape_nil h12_
  obtain ⟨cb0, lb0, rfl, ⟨b0, rfl⟩, h21_⟩ := shape_cons h2
  obtain ⟨cb1, lb1, rfl, ⟨b1, rfl⟩, h22_⟩ := shape_cons h21_
  obtain rfl := shape_nil h22_
  exact run194 9998 w a0 b0 a1 b1
end Go.Proofs
