/- A part of a machine that computes what the program computes, and of the proof that it does -/
import Derived.Test.YthkclhpmnjnnfaaGreatDenZj
import Derived.Laws.StructEq
set_option linter.unusedVariables false
set_option linter.unusedSimpArgs false
namespace Go.Den
open Go

/-! ### '==' of structs -/
theorem cellEqInt {x : AV} {k : IntKind} {n : Int} {q : Bool} (h : cellEq x (.int k n) = some q) : ∃ m, x = .int k m ∧ q = (m == n) := by
  cases x with
  | int j a =>
    obtain ⟨k', b, h1, h2⟩ := op2_some (show op2 (toInt (.int k n)) (fun k b => ifb (kindBeq j k) (some (intBeq a b)) none) = some q from h)
    cases h1
    obtain ⟨h3, h4⟩ := ifb_none h2
    cases h4
    rw [kindBeq_eq h3, intBeq_eq]
    exact ⟨a, rfl, rfl⟩
  | _ => cases h
theorem cellEqInt' {y : AV} {k : IntKind} {n : Int} {q : Bool} (h : cellEq (.int k n) y = some q) : ∃ m, y = .int k m ∧ q = (n == m) := by
  obtain ⟨k', b, h1, h2⟩ := op2_some (show op2 (toInt y) (fun k' b => ifb (kindBeq k k') (some (intBeq n b)) none) = some q from h)
  obtain rfl := toInt_some h1
  obtain ⟨h3, h4⟩ := ifb_none h2
  cases h4
  rw [kindBeq_eq h3, intBeq_eq]
  exact ⟨b, rfl, rfl⟩
theorem cellEqStr {x : AV} {l : List Nat} {q : Bool} (h : cellEq x (.str l) = some q) : ∃ m, x = .str m := by
  cases x with
  | str a => exact ⟨a, rfl⟩
  | int j a => cases h
  | _ => cases h
theorem cellEqStr' {y : AV} {l : List Nat} {q : Bool} (h : cellEq (.str l) y = some q) : ∃ m, y = .str m ∧ q = (l == m) := by
  obtain ⟨b, h1, h2⟩ := ob_some (show ob (toStr y) (fun b => some (listBeq l b)) = some q from h)
  cases h2
  cases y with
  | str m => cases h1; exact ⟨_, rfl, listBeq_eq _ _⟩
  | _ => cases h1
theorem cellsEq_cons {x : AV} {xs : Row} {l : Row} {r : Bool} (h : cellsEq (x :: xs) l = some r) : ∃ y ys p q, l = y :: ys ∧ cellEq x y = some p ∧ cellsEq xs ys = some q ∧ r = (p && q) := by
  cases l with
  | nil => cases h
  | cons y ys =>
    obtain ⟨p, hp, h1⟩ := ob_some (show ob (cellEq x y) (fun p => ob (cellsEq xs ys) fun q => some (band p q)) = some r from h)
    obtain ⟨q, hq, h2⟩ := ob_some h1
    cases h2
    exact ⟨y, ys, p, q, rfl, hp, hq, band_eq p q⟩
theorem cellsEq_nil {l : Row} {r : Bool} (h : cellsEq [] l = some r) : l = [] ∧ r = true := by
  cases l with
  | nil => cases h; exact ⟨rfl, rfl⟩
  | cons y ys => cases h
theorem cellsEq_cons' {x : AV} {xs : Row} {l : Row} {r : Bool} (h : cellsEq l (x :: xs) = some r) : ∃ y ys p q, l = y :: ys ∧ cellEq y x = some p ∧ cellsEq ys xs = some q := by
  cases l with
  | nil => cases h
  | cons y ys =>
    obtain ⟨y', ys', p, q, h1, h2, h3, _⟩ := cellsEq_cons h
    cases h1
    exact ⟨y, ys, p, q, rfl, h2, h3⟩
theorem cellsEq_nil' {l : Row} {r : Bool} (h : cellsEq l [] = some r) : l = [] := by
  cases l with
  | nil => rfl
  | cons y ys => cases h

section
variable {w : World} {φ : Pos} {I : Imm}
theorem agg2 {a b : AV} {xs : Array Value} (h : RelV w φ I (.agg [a, b]) (.agg xs)) : ∃ c d, xs = #[c, d] ∧ RelV w φ I a c ∧ RelV w φ I b d := by
  obtain ⟨vs, he, h1, _, h3⟩ := h.agg_inv
  cases he
  have h1 : xs.size = 2 := h1
  have e : xs = #[xs[0], xs[1]] := by
    apply Array.ext
    · simp [h1]
    · intro i hi _
      match i, hi with
      | 0, _ => rfl
      | 1, _ => rfl
      | i + 2, hi => omega
  exact ⟨xs[0], xs[1], e, h3 0 _ _ rfl (Array.getElem?_eq_getElem (by omega)), h3 1 _ _ rfl (Array.getElem?_eq_getElem (by omega))⟩
theorem agg3 {a b c : AV} {xs : Array Value} (h : RelV w φ I (.agg [a, b, c]) (.agg xs)) : ∃ d e f, xs = #[d, e, f] ∧ RelV w φ I a d ∧ RelV w φ I b e ∧ RelV w φ I c f := by
  obtain ⟨vs, he, h1, _, h3⟩ := h.agg_inv
  cases he
  have h1 : xs.size = 3 := h1
  have e : xs = #[xs[0], xs[1], xs[2]] := by
    apply Array.ext
    · simp [h1]
    · intro i hi _
      match i, hi with
      | 0, _ => rfl
      | 1, _ => rfl
      | 2, _ => rfl
      | i + 3, hi => omega
  exact ⟨xs[0], xs[1], xs[2], e, h3 0 _ _ rfl (Array.getElem?_eq_getElem (by omega)), h3 1 _ _ rfl (Array.getElem?_eq_getElem (by omega)), h3 2 _ _ rfl (Array.getElem?_eq_getElem (by omega))⟩
end

theorem eqOk_of {P : Program} {t : TypeId} {zero : Row} (hg : P.eqGuardType P.depth t = false)
    (h : ∀ (w : World) (xs ys : Array Value) (cs ds : Row) (r : Bool), (∃ φ I, RelV w φ I (.agg cs) (.agg xs)) → (∃ φ I, RelV w φ I (.agg ds) (.agg ys)) → (∃ q, cellsEq cs zero = some q) → cellsEq cs ds = some r →
      (Op.equalIn 10000 t (.agg xs) (.agg ys)).run P w = .ok r w) : EqOk P t zero := by
  intro w xs ys cs ds r h1 h2 h3 h4 op u v hop
  have key := h w xs ys cs ds r h1 h2 h3 h4
  rcases hop with rfl | rfl
  · simp only [Sem.run_bind, run_eqGuard_agg _ _ _ _ _ _ _ hg, Result.andThen_ok, run_eql_struct, key]; simp
  · simp only [Sem.run_bind, run_eqGuard_agg _ _ _ _ _ _ _ hg, Result.andThen_ok, run_neq_struct, key]; simp

theorem part_cell {P : Program} {t : TypeId} {d : TypeDesc} (hu : P.underlying t = some d) (hd : (match d with | .struct _ | .array _ _ => true | _ => false) = false) {cs : Array Value} {off : Nat} {v : Value} (hv : cs[off]? = some v) (w : World) :
    (part t cs off).run P w = .ok v w := by
  have ha : (isAgg t).run P w = .ok false w := by
    unfold isAgg
    simp only [Sem.run_bind, run_underlying hu, Result.andThen_ok]
    cases d <;> first | rfl | cases hd
  unfold part
  simp only [Sem.run_bind, ha, Result.andThen_ok, hv]
  rfl
theorem part_row {P : Program} {t : TypeId} {fs : Array Field} {n : Nat} (hu : P.underlying t = some (.struct fs)) (hs : ∀ w, (sizeOf t).run P w = .ok n w) (cs : Array Value) (off : Nat) (w : World) :
    (part t cs off).run P w = .ok (.agg (cs.extract off (off + n))) w := by
  have ha : (isAgg t).run P w = .ok true w := by
    unfold isAgg
    simp only [Sem.run_bind, run_underlying hu, Result.andThen_ok]; rfl
  unfold part
  simp only [Sem.run_bind, ha, Result.andThen_ok, hs, if_true]
  rfl
theorem eqFields_cons {P : Program} (w : World) (d : Nat) (xs ys : Array Value) (f : Field) (fs : List Field) (hn : f.name ≠ "_") {a b : Value} (ha : (part f.type xs f.offset).run P w = .ok a w) (hb : (part f.type ys f.offset).run P w = .ok b w) {p q : Bool}
    (hp : (Op.equalIn d f.type a b).run P w = .ok p w) (hq : (Op.eqFields d xs ys fs).run P w = .ok q w) : (Op.eqFields d xs ys (f :: fs)).run P w = .ok (p && q) w := by
  simp only [Op.eqFields, if_pos hn, Sem.run_bind, ha, hb, hp, Result.andThen_ok]
  cases p with
  | false => rfl
  | true => simpa using hq
end Go.Den
