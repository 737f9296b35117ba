/- What == of three struct types of the program comes to -/
import Derived.Test.YthkclhpmnjnnfaaGreatProg
import Derived.Test.YthkclhpmnjnnfaaGreatDenZk
set_option linter.unusedVariables false
set_option linter.unusedSimpArgs false
namespace Go.Proofs
open Go.Den

theorem beqList (a b : ByteArray) : (bytesOfStr a == bytesOfStr b) = (a.toList == b.toList) := by
  rw [ByteArray.toList_eq, ByteArray.toList_eq]
  unfold bytesOfStr
  rw [Bool.eq_iff_iff]
  simp only [beq_iff_eq]
  constructor
  · intro h
    have : ∀ x y : List UInt8, x.map UInt8.toNat = y.map UInt8.toNat → x = y := by
      intro x
      induction x with
      | nil => intro y h; cases y with
        | nil => rfl
        | cons _ _ => cases h
      | cons u x ih => intro y h; cases y with
        | nil => cases h
        | cons v y =>
          simp only [List.map_cons, List.cons.injEq] at h
          rw [UInt8.toNat_inj.1 h.1, ih _ h.2]
    exact this _ _ h
  · intro h; rw [h]

theorem fields65 : Tryz.prog.underlying 65 = some (.struct (Tryz.prog.fieldsOf 65)) := by simp [Program.fieldsOf]

theorem run65 (d : Nat) (w : World) (a b a' b' : Int) : (Op.equalIn (d + 2) 65 (.agg #[.int .i64 a, .int .i64 b]) (.agg #[.int .i64 a', .int .i64 b'])).run Tryz.prog w = .ok ((a == a') && ((b == b') && true)) w := by
  rw [run_equalIn_agg w (d + 1) 65 _ _ fields65 Tryz.stoodInHeld65]
  simp only [Program.fieldsOf, Tryz.underlying65]
  refine eqFields_cons w _ _ _ _ _ (by simp) (a := .int .i64 a) (b := .int .i64 a') ?_ ?_ ?_ (eqFields_cons w _ _ _ _ _ (by simp) (a := .int .i64 b) (b := .int .i64 b') ?_ ?_ ?_ rfl)
  · exact part_cell Tryz.underlying3 rfl rfl w
  · exact part_cell Tryz.underlying3 rfl rfl w
  · exact run_equalIn_int w d 3 _ _ _ _ Tryz.underlying3
  · exact part_cell Tryz.underlying2 rfl rfl w
  · exact part_cell Tryz.underlying2 rfl rfl w
  · exact run_equalIn_int w d 2 _ _ _ _ Tryz.underlying2

theorem eq65 : EqOk Tryz.prog 65 [.int .i64 0, .int .i64 0] := by
  refine eqOk_of Tryz.eqGuardType65 fun w xs ys cs ds r ⟨φ, I, h1⟩ ⟨φ', I', h2⟩ ⟨q, h3⟩ h4 => ?_
  obtain ⟨x0, l0, p0, q0, rfl, e0, h3_1⟩ := cellsEq_cons' h3
  obtain ⟨x1, l1, p1, q1, rfl, e1, h3_2⟩ := cellsEq_cons' h3_1
  obtain rfl := cellsEq_nil' h3_2
  obtain ⟨a, rfl, _⟩ := cellEqInt e0
  obtain ⟨b, rfl, _⟩ := cellEqInt e1
  obtain ⟨y0, m0, r0, s0, rfl, g0, h4_3, rfl⟩ := cellsEq_cons h4
  obtain ⟨y1, m1, r1, s1, rfl, g1, h4_4, rfl⟩ := cellsEq_cons h4_3
  obtain ⟨rfl, rfl⟩ := cellsEq_nil h4_4
  obtain ⟨a', rfl, rfl⟩ := cellEqInt' g0
  obtain ⟨b', rfl, rfl⟩ := cellEqInt' g1
  obtain ⟨c0, c1, rfl, k0, k1⟩ := agg2 h1
  obtain ⟨d0, d1, rfl, j0, j1⟩ := agg2 h2
  obtain rfl := k0.int_inv
  obtain rfl := k1.int_inv
  obtain rfl := j0.int_inv
  obtain rfl := j1.int_inv
  exact run65 9998 w a b a' b'

theorem fields155 : Tryz.prog.underlying 155 = some (.struct (Tryz.prog.fieldsOf 155)) := by simp [Program.fieldsOf]

theorem eq155 : EqOk Tryz.prog 155 [.int .i64 0, .int .i64 0, .int .i64 0] := by
  refine eqOk_of Tryz.eqGuardType155 fun w xs ys cs ds r ⟨φ, I, h1⟩ ⟨φ', I', h2⟩ ⟨q, h3⟩ h4 => ?_
  obtain ⟨x0, l0, p0, q0, rfl, e0, h3_1⟩ := cellsEq_cons' h3
  obtain ⟨x1, l1, p1, q1, rfl, e1, h3_2⟩ := cellsEq_cons' h3_1
  obtain ⟨x2, l2, p2, q2, rfl, e2, h3_3⟩ := cellsEq_cons' h3_2
  obtain rfl := cellsEq_nil' h3_3
  obtain ⟨a, rfl, _⟩ := cellEqInt e0
  obtain ⟨b, rfl, _⟩ := cellEqInt e1
  obtain ⟨c, rfl, _⟩ := cellEqInt e2
  obtain ⟨y0, m0, r0, s0, rfl, g0, h4_4, rfl⟩ := cellsEq_cons h4
  obtain ⟨y1, m1, r1, s1, rfl, g1, h4_5, rfl⟩ := cellsEq_cons h4_4
  obtain ⟨y2, m2, r2, s2, rfl, g2, h4_6, rfl⟩ := cellsEq_cons h4_5
  obtain ⟨rfl, rfl⟩ := cellsEq_nil h4_6
  obtain ⟨a', rfl, rfl⟩ := cellEqInt' g0
  obtain ⟨b', rfl, rfl⟩ := cellEqInt' g1
  obtain ⟨c', rfl, rfl⟩ := cellEqInt' g2
  obtain ⟨c0, c1, c2, rfl, k0, k1, k2⟩ := agg3 h1
  obtain ⟨d0, d1, d2, rfl, j0, j1, j2⟩ := agg3 h2
  obtain rfl := k0.int_inv
  obtain rfl := k1.int_inv
  obtain rfl := k2.int_inv
  obtain rfl := j0.int_inv
  obtain rfl := j1.int_inv
  obtain rfl := j2.int_inv
  rw [run_equalIn_agg w 9999 155 _ _ fields155 Tryz.stoodInHeld155]
  simp only [Program.fieldsOf, Tryz.underlying155]
  have e : ((a == a') && ((b == b') && ((c == c') && true))) = (((a == a') && ((b == b') && true)) && ((c == c') && true)) := by simp [Bool.and_assoc]
  rw [e]
  refine eqFields_cons w _ _ _ _ _ (by simp) (a := .agg #[.int .i64 a, .int .i64 b]) (b := .agg #[.int .i64 a', .int .i64 b']) ?_ ?_ ?_ (eqFields_cons w _ _ _ _ _ (by simp) (a := .int .i64 c) (b := .int .i64 c') ?_ ?_ ?_ rfl)
  · exact part_row Tryz.underlying65 Tryz.sizeOf65 _ _ w
  · exact part_row Tryz.underlying65 Tryz.sizeOf65 _ _ w
  · exact run65 9997 w a b a' b'
  · exact part_cell Tryz.underlying2 rfl rfl w
  · exact part_cell Tryz.underlying2 rfl rfl w
  · exact run_equalIn_int w 9998 2 _ _ _ _ Tryz.underlying2

theorem fields162 : Tryz.prog.underlying 162 = some (.struct (Tryz.prog.fieldsOf 162)) := by simp [Program.fieldsOf]

theorem eq162 : EqOk Tryz.prog 162 [.str [], .int .i64 0] := by
  refine eqOk_of Tryz.eqGuardType162 fun w xs ys cs ds r ⟨φ, I, h1⟩ ⟨φ', I', h2⟩ ⟨q, h3⟩ h4 => ?_
  obtain ⟨x0, l0, p0, q0, rfl, e0, h3_1⟩ := cellsEq_cons' h3
  obtain ⟨x1, l1, p1, q1, rfl, e1, h3_2⟩ := cellsEq_cons' h3_1
  obtain rfl := cellsEq_nil' h3_2
  obtain ⟨a, rfl⟩ := cellEqStr e0
  obtain ⟨b, rfl, _⟩ := cellEqInt e1
  obtain ⟨y0, m0, r0, s0, rfl, g0, h4_3, rfl⟩ := cellsEq_cons h4
  obtain ⟨y1, m1, r1, s1, rfl, g1, h4_4, rfl⟩ := cellsEq_cons h4_3
  obtain ⟨rfl, rfl⟩ := cellsEq_nil h4_4
  obtain ⟨a', rfl, rfl⟩ := cellEqStr' g0
  obtain ⟨b', rfl, rfl⟩ := cellEqInt' g1
  obtain ⟨c0, c1, rfl, k0, k1⟩ := agg2 h1
  obtain ⟨d0, d1, rfl, j0, j1⟩ := agg2 h2
  obtain ⟨u, rfl, rfl⟩ := k0.str_inv
  obtain rfl := k1.int_inv
  obtain ⟨u', rfl, rfl⟩ := j0.str_inv
  obtain rfl := j1.int_inv
  rw [run_equalIn_agg w 9999 162 _ _ fields162 Tryz.stoodInHeld162, beqList]
  simp only [Program.fieldsOf, Tryz.underlying162]
  refine eqFields_cons w _ _ _ _ _ (by simp) (a := .string u) (b := .string u') ?_ ?_ ?_ (eqFields_cons w _ _ _ _ _ (by simp) (a := .int .i64 b) (b := .int .i64 b') ?_ ?_ ?_ rfl)
  · exact part_cell Tryz.underlying9 rfl rfl w
  · exact part_cell Tryz.underlying9 rfl rfl w
  · exact run_equalIn_string w 9998 9 _ _ Tryz.underlying9
  · exact part_cell Tryz.underlying2 rfl rfl w
  · exact part_cell Tryz.underlying2 rfl rfl w
  · exact run_equalIn_int w 9998 2 _ _ _ _ Tryz.underlying2

end Go.Proofs
