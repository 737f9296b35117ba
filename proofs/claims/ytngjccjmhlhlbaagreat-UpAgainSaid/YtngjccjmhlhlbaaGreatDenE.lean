/- A part of a machine that computes what the program computes, and of the proof that it does -/
import Derived.Test.YtngjccjmhlhlbaaGreatDenD
import Derived.Laws.IdiomCopy
import Derived.Laws.Entries
import Derived.Laws.Slices
import Derived.Laws.Panics
import Derived.Deep.MidRow
import Derived.Laws.Concat
import Derived.Laws.Strings
set_option linter.unusedVariables false
set_option linter.unusedSimpArgs false
set_option linter.unusedSectionVars false
namespace Go.Den
open Go

variable [Val]

/-! ### types -/
/-- the cells of a type's zero value are the machine's, in every world -/
def ZeroRel (z : Value) (zero : Row) : Prop :=
  z.cells.size = zero.length ∧ ∀ (j : Nat) (v : AV) (c : Value), zero[j]? = some v → z.cells[j]? = some c → c.oneCell' = true ∧ ∀ w I, RelI w I v c

/-- an element's, a variable's type: its size, its bytes, its zero value -/
structure InfoOk (P : Program) (t : TypeId) (size bytes : Nat) (zero : Row) : Prop where
  info : ∃ ti z, P.info? t = some ti ∧ ti.size = size ∧ ti.bytes = bytes ∧ ti.zero = some z ∧ ZeroRel z zero
  len : zero.length = size
  pos : 1 ≤ size
  bytes : 1 ≤ bytes

inductive TdOk (P : Program) : TypeDesc → TD → Prop
  | bool : TdOk P .bool .bool
  | int (k : IntKind) : TdOk P (.int k) (.int k)
  | str : TdOk P .string .str
  | slice (e : TypeId) (sz bts : Nat) (zero : Row) (u8 : Bool) (h : InfoOk P e sz bts zero) (h8 : u8 = true → P.underlying e = some (.int .u8)) (h1 : u8 = true → sz = 1) : TdOk P (.slice e) (.slice sz bts zero u8)
  | struct (fields : Array Field) (fs : List (Nat × Nat)) (hl : fields.size = fs.length)
      (h : ∀ (n o s : Nat), fs[n]? = some (o, s) → ∃ f fi d, fields[n]? = some f ∧ f.offset = o ∧ P.info? f.type = some fi ∧ fi.size = s ∧ 1 ≤ s ∧ P.underlying f.type = some d ∧ (d.isRow = true ↔ s ≠ 1)) : TdOk P (.struct fields) (.struct fs)
  | ptr (e : TypeId) : TdOk P (.pointer e) .ptr
  | map (k e : TypeId) (kk : IntKind) (s : Nat) (b : Bool) (zero : Row) (hk : P.underlying k = some (.int kk)) (h : ∃ bts, InfoOk P e s bts zero) (hb : b = false → ∀ ti z, P.info? e = some ti → ti.zero = some z → z.oneCell' = true) : TdOk P (.map k e) (.map s b zero)
  | func (ps rs : Array TypeId) (v : Bool) : TdOk P (.func ps rs v) .func

/-! '==' of structs is '==' of their cells -/
def valEq : Value → Value → Bool
  | .int _ a, .int _ b => a == b
  | .bool a, .bool b => a == b
  | .string a, .string b => a.toList == b.toList
  | _, _ => false
def valsEq : List Value → List Value → Bool
  | [], [] => true
  | a :: as, b :: bs => valEq a b && valsEq as bs
  | _, _ => false
def ShapeC : AV → Value → Prop
  | .int k _, c => ∃ n, c = .int k n
  | .bool _, c => ∃ b, c = .bool b
  | .str _, c => ∃ s, c = .string s
  | _, _ => False
def ShapeL : Row → List Value → Prop
  | [], [] => True
  | z :: zs, c :: cs => ShapeC z c ∧ ShapeL zs cs
  | _, _ => False
def EqOk (P : Program) (t : TypeId) (zero : Row) : Prop := ∀ (w : World) (xs ys : Array Value), ShapeL zero xs.toList → ShapeL zero ys.toList →
  ∀ (op : BinOp) (u v : Operand), op = .eql ∨ op = .neq → (do eqGuard op t u v (.agg xs) (.agg ys); binOp op t (.agg xs) (.agg ys) : Sem Value).run P w = .ok (.bool (if op = .eql then valsEq xs.toList ys.toList else !valsEq xs.toList ys.toList)) w

structure TIOk (P : Program) (t : TypeId) (i : TI) : Prop where
  info : ∃ bytes, InfoOk P t i.size bytes i.zero
  und : ∃ d, P.underlying t = some d ∧ TdOk P d i.td
  eq : i.eq = true → EqOk P t i.zero

/-! ### operands -/
def RelR (w : World) (φ : Pos) (I : Imm) (loc env : Regs) (a : Act) : Prop := ∀ t v, lk2 loc env t = some v → t < a.tmps.size ∧ RelV w φ I v (a.tmps.getD t undef)

theorem ofConst_rel {v : Value} {x : AV} (h : ofConst v = some x) (w : World) (I : Imm) : RelI w I x v := by
  unfold ofConst at h
  split at h <;> cases h
  · exact .int _ _
  · exact .bool _
  · exact .str _
  · exact .nil
  · exact .nilp
  · exact .nilf

section
variable {w : World} {φ : Pos} {I : Imm} {loc env : Regs} {a : Act}

theorem opv_rel (hR : RelR w φ I loc env a) {x : Operand} {v : AV} (h : opv x loc env = some v) : RelV w φ I v (a.eval x) := by
  cases x with
  | tmp t => exact (hR t v h).2
  | const c => exact .imm _ _ (ofConst_rel h w I)
  | global g => cases h
  | func f => cases h; exact .clo f [] #[] rfl (fun j v c hj => by simp at hj)

/-- values, one by one -/
def RelL (w : World) (φ : Pos) (I : Imm) (vs : List AV) (cs : List Value) : Prop := cs.length = vs.length ∧ ∀ (j : Nat) (v : AV) (c : Value), vs[j]? = some v → cs[j]? = some c → RelV w φ I v c

theorem opvs_rel (hR : RelR w φ I loc env a) : ∀ {l : List Operand} {vs : List AV}, opvs l loc env = some vs → RelL w φ I vs (l.map a.eval)
  | [], vs, h => by cases h; exact ⟨rfl, fun j v c hj => by simp at hj⟩
  | x :: l, vs, h => by
    obtain ⟨v, hv, h⟩ := ob_some h
    obtain ⟨ws, hw, h⟩ := ob_some h
    cases h
    have ih := opvs_rel hR (l := l) hw
    refine ⟨by simp [ih.1], fun j v' c hj hc => ?_⟩
    cases j with
    | zero => simp at hj hc; subst hj; subst hc; exact opv_rel hR hv
    | succ j => simp at hj hc; exact ih.2 j v' c hj (by simpa using hc)

theorem opvParts_rel (hR : RelR w φ I loc env a) : ∀ {l : List (Nat × Operand)} {vs : List (Nat × AV)}, opvParts l loc env = some vs →
    vs.length = l.length ∧ ∀ (j : Nat) (n : Nat) (v : AV), vs[j]? = some (n, v) → ∃ x, l[j]? = some (n, x) ∧ RelV w φ I v (a.eval x)
  | [], vs, h => by cases h; exact ⟨rfl, fun j n v hj => by simp at hj⟩
  | (n, x) :: l, vs, h => by
    obtain ⟨v, hv, h⟩ := ob_some h
    obtain ⟨ws, hw, h⟩ := ob_some h
    cases h
    have ih := opvParts_rel hR (l := l) hw
    refine ⟨by simp [ih.1], fun j n' v' hj => ?_⟩
    cases j with
    | zero => simp at hj; obtain ⟨rfl, rfl⟩ := hj; exact ⟨x, rfl, opv_rel hR hv⟩
    | succ j => simp at hj; obtain ⟨y, h1, h2⟩ := ih.2 j n' v' hj; exact ⟨y, by simpa using h1, h2⟩
end

/-! ### cells that are set, one behind the other -/
def over (cells : Array Value) (o : Nat) (vs : List Value) : Array Value := (putAt cells.toList o vs).toArray
theorem over_size (cells : Array Value) (o : Nat) (vs : List Value) : (over cells o vs).size = cells.size := by simp [over, putAt_length]
theorem over_get (cells : Array Value) (o : Nat) (vs : List Value) (i : Nat) : (over cells o vs)[i]? = if o ≤ i ∧ i < o + vs.length ∧ i < cells.size then vs[i - o]? else cells[i]? := by
  simp [over, putAt_get]

theorem setCells_wrote (B : Nat) : ∀ (vs : List Value) (o : Nat) (w : World) (cells : Array Value) (elem : TypeId) (fr : Nat × Nat), w.heap[B]? = some (.cells cells elem fr) →
    Wrote w (w.setCells B o vs) B (over cells o vs) elem fr
  | [], o, w, cells, elem, fr, h => by
    have e : over cells o [] = cells := by
      apply Array.ext_getElem?; intro i; rw [over_get]; simp; intro h1 h2; omega
    rw [e]; exact ⟨h, fun _ _ => rfl, rfl, rfl, rfl, rfl⟩
  | v :: r, o, w, cells, elem, fr, h => by
    have h1 : (w.setCell ⟨B, o, none⟩ v).heap[B]? = some (.cells (cells.setIfInBounds o v) elem fr) := by
      simp [World.setCell, Array.getElem?_modify, h]
    have ih := setCells_wrote B r (o + 1) (w.setCell ⟨B, o, none⟩ v) _ elem fr h1
    have e : over (cells.setIfInBounds o v) (o + 1) r = over cells o (v :: r) := by
      apply Array.ext_getElem?; intro i
      rw [over_get, over_get]
      simp only [List.length_cons, Array.size_setIfInBounds]
      by_cases hi : i = o
      · subst hi
        by_cases hs : i < cells.size
        · simp [hs]
          intro h1 h2; omega
        · simp [hs]
      · rw [Array.getElem?_setIfInBounds_ne (by omega)]
        by_cases hc : o + 1 ≤ i ∧ i < o + 1 + r.length ∧ i < cells.size
        · rw [if_pos hc, if_pos (by omega)]
          obtain ⟨k, rfl⟩ : ∃ k, i = o + 1 + k := ⟨i - (o + 1), by omega⟩
          rw [show o + 1 + k - (o + 1) = k by omega, show o + 1 + k - o = k + 1 by omega]; rfl
        · rw [if_neg hc, if_neg (by omega)]
    rw [e] at ih
    refine ⟨ih.get, fun C hC => ?_, by rw [World.setCells]; rw [ih.size]; simp, ?_, ?_, ?_⟩
    · rw [World.setCells, ih.old C hC]
      simp only [World.setCell, Array.getElem?_modify, if_neg (Ne.symm hC)]
    · rw [World.setCells, ih.os]; rfl
    · rw [World.setCells, ih.tape]; rfl
    · rw [World.setCells, ih.output]; rfl
end Go.Den
