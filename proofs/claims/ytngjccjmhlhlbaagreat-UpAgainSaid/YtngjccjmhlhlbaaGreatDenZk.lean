/- A part of a machine that computes what the program computes, and of the proof that it does -/
import Derived.Test.YtngjccjmhlhlbaaGreatDenZj
import Derived.Laws.StructEq
set_option linter.unusedVariables false
set_option linter.unusedSimpArgs false
set_option linter.unusedSectionVars false
namespace Go.Den
open Go

variable [Val]

/-! ### '==' of structs -/
theorem shape_cons {z : AV} {zs : Row} {l : List Value} (h : ShapeL (z :: zs) l) : ∃ c cs, l = c :: cs ∧ ShapeC z c ∧ ShapeL zs cs := by
  cases l with
  | nil => exact h.elim
  | cons c cs => exact ⟨c, cs, rfl, h.1, h.2⟩
theorem shape_nil {l : List Value} (h : ShapeL [] l) : l = [] := by
  cases l with
  | nil => rfl
  | cons c cs => exact h.elim

theorem eqOk_of {P : Program} {t : TypeId} {zero : Row} (hg : P.eqGuardType P.depth t = false)
    (h : ∀ (w : World) (xs ys : List Value), ShapeL zero xs → ShapeL zero ys → (Op.equalIn 10000 t (.agg xs.toArray) (.agg ys.toArray)).run P w = .ok (valsEq xs ys) w) : EqOk P t zero := by
  intro w xs ys h1 h2 op u v hop
  have key := h w xs.toList ys.toList h1 h2
  simp only [Array.toArray_toList] at key
  rcases hop with rfl | rfl
  · simp only [Sem.run_bind, run_eqGuard_agg _ _ _ _ _ _ _ hg, Result.andThen_ok, run_eql_struct, key]; simp
  · simp only [Sem.run_bind, run_eqGuard_agg _ _ _ _ _ _ _ hg, Result.andThen_ok, run_neq_struct, key]; simp

theorem part_cell {P : Program} {t : TypeId} {d : TypeDesc} (hu : P.underlying t = some d) (hd : (match d with | .struct _ | .array _ _ => true | _ => false) = false) {cs : Array Value} {off : Nat} {v : Value} (hv : cs[off]? = some v) (w : World) :
    (part t cs off).run P w = .ok v w := by
  have ha : (isAgg t).run P w = .ok false w := by
    unfold isAgg
    simp only [Sem.run_bind, run_underlying hu, Result.andThen_ok]
    cases d <;> first | rfl | cases hd
  unfold part
  simp only [Sem.run_bind, ha, Result.andThen_ok, hv]
  rfl
theorem part_row {P : Program} {t : TypeId} {fs : Array Field} {n : Nat} (hu : P.underlying t = some (.struct fs)) (hs : ∀ w, (sizeOf t).run P w = .ok n w) (cs : Array Value) (off : Nat) (w : World) :
    (part t cs off).run P w = .ok (.agg (cs.extract off (off + n))) w := by
  have ha : (isAgg t).run P w = .ok true w := by
    unfold isAgg
    simp only [Sem.run_bind, run_underlying hu, Result.andThen_ok]; rfl
  unfold part
  simp only [Sem.run_bind, ha, Result.andThen_ok, hs, if_true]
  rfl
theorem eqFields_cons {P : Program} (w : World) (d : Nat) (xs ys : Array Value) (f : Field) (fs : List Field) (hn : f.name ≠ "_") {a b : Value} (ha : (part f.type xs f.offset).run P w = .ok a w) (hb : (part f.type ys f.offset).run P w = .ok b w) {p q : Bool}
    (hp : (Op.equalIn d f.type a b).run P w = .ok p w) (hq : (Op.eqFields d xs ys fs).run P w = .ok q w) : (Op.eqFields d xs ys (f :: fs)).run P w = .ok (p && q) w := by
  simp only [Op.eqFields, if_pos hn, Sem.run_bind, ha, hb, hp, Result.andThen_ok]
  cases p with
  | false => rfl
  | true => simpa using hq
end Go.Den
