/- A part of a machine that computes what the program computes, and of the proof that it does -/
import Derived.Test.YtngjccjmhlhlbaaGreatDenI
import Derived.Laws.Tables
set_option linter.unusedVariables false
set_option linter.unusedSimpArgs false
set_option linter.unusedSectionVars false
namespace Go.Den
open Go

variable [Val]

section
variable {P : Program} {E : Env} {rec : Rec} {loc env : Regs} {h : Heap} {f : K} {r : Fin2} {o : Oper}

/-! ### a struct, a row, built of parts -/
theorem putAt_cells {φ : Pos} {I : Imm} {w : World} {cells : Array Value} {cs : Row} (hl : cells.size = cs.length) (hc : ∀ (j : Nat) (v : AV) (c : Value), cs[j]? = some v → cells[j]? = some c → c.oneCell' = true ∧ RelV w φ I v c)
    {d : Value} {v : AV} (c1 : d.cells.size = (cellsOf v).length) (c2 : ∀ (j : Nat) (c : Value), d.cells[j]? = some c → c.oneCell' = true) (c3 : ∀ (j : Nat) (x : AV) (c : Value), (cellsOf v)[j]? = some x → d.cells[j]? = some c → RelV w φ I x c) (o : Nat) :
    (over cells o d.cells.toList).size = (putAt cs o (cellsOf v)).length ∧ ∀ (j : Nat) (x : AV) (c : Value), (putAt cs o (cellsOf v))[j]? = some x → (over cells o d.cells.toList)[j]? = some c → c.oneCell' = true ∧ RelV w φ I x c := by
  refine ⟨by rw [over_size, putAt_length, hl], fun j x c hx hc' => ?_⟩
  rw [putAt_get] at hx
  rw [over_get] at hc'
  simp only [Array.length_toList] at hc'
  by_cases hin : o ≤ j ∧ j < o + (cellsOf v).length ∧ j < cs.length
  · rw [if_pos hin] at hx
    rw [if_pos (by omega)] at hc'
    have hc'' : d.cells[j - o]? = some c := by simpa using hc'
    exact ⟨c2 _ _ hc'', c3 _ x c hx hc''⟩
  · rw [if_neg hin] at hx
    rw [if_neg (by omega)] at hc'
    exact hc j x c hx hc'

theorem fill_fold (v : Value) (off : Nat) (cells : Array Value) (hr : off + v.cells.size ≤ cells.size) :
    v.cells.zipIdx.foldl (fun cs (c, j) => cs.setIfInBounds (off + j) c) cells = over cells off v.cells.toList := by
  have key : ∀ (l : List Value) (k : Nat) (cells : Array Value), off + k + l.length ≤ cells.size →
      (l.zipIdx k).foldl (fun cs (p : Value × Nat) => cs.setIfInBounds (off + p.2) p.1) cells = over cells (off + k) l := by
    intro l
    induction l with
    | nil =>
      intro k cells _
      apply Array.ext_getElem?; intro i; rw [over_get]; simp; intro h1 h2; omega
    | cons x l ih =>
      intro k cells hk
      simp only [List.length_cons] at hk
      rw [List.zipIdx_cons, List.foldl_cons, ih (k + 1) _ (by simp; omega)]
      apply Array.ext_getElem?; intro i
      rw [over_get, over_get]
      simp only [List.length_cons, Array.size_setIfInBounds]
      by_cases hi : i = off + k
      · subst hi
        rw [if_neg (by omega), if_pos (by omega), Array.getElem?_setIfInBounds_self_of_lt (by omega)]
        simp
      · rw [Array.getElem?_setIfInBounds_ne (by omega)]
        by_cases hc : off + (k + 1) ≤ i ∧ i < off + (k + 1) + l.length ∧ i < cells.size
        · rw [if_pos hc, if_pos (by omega)]
          obtain ⟨q, rfl⟩ : ∃ q, i = off + (k + 1) + q := ⟨i - (off + (k + 1)), by omega⟩
          rw [show off + (k + 1) + q - (off + (k + 1)) = q by omega, show off + (k + 1) + q - (off + k) = q + 1 by omega]; rfl
        · rw [if_neg hc, if_neg (by omega)]
  have := key v.cells.toList 0 cells (by simpa using hr)
  rw [← Array.foldl_toList]
  simpa [Array.toList_zipIdx] using this

theorem fillFields_sound {φ : Pos} {I : Imm} {w : World} {fs : List (Nat × Nat)} {fields : Array Field} (place : Nat → Option (Nat × Nat)) (hplace : ∀ (n o s : Nat), fs[n]? = some (o, s) → place n = some (o, s) ∧ 1 ≤ s) :
    ∀ (l : List (Nat × AV)) (ps : List (Nat × Value)) (cs : Row) (cells : Array Value) (v : AV), fillFields fs l cs = some v → ps.length = l.length →
    (∀ (j n : Nat) (x : AV), l[j]? = some (n, x) → ∃ d, ps[j]? = some (n, d) ∧ RelV w φ I x d) → (∀ (n o s : Nat), fs[n]? = some (o, s) → o + s ≤ cells.size) →
    cells.size = cs.length → (∀ (j : Nat) (v : AV) (c : Value), cs[j]? = some v → cells[j]? = some c → c.oneCell' = true ∧ RelV w φ I v c) →
    ∃ cells' cs', Instr.fill place cells ps = some cells' ∧ v = .agg cs' ∧ cells'.size = cs'.length ∧ ∀ (j : Nat) (v : AV) (c : Value), cs'[j]? = some v → cells'[j]? = some c → c.oneCell' = true ∧ RelV w φ I v c
  | [], ps, cs, cells, v, e, hl, _, _, h1, h2 => by
    cases e
    cases ps with
    | nil => exact ⟨cells, cs, rfl, rfl, h1, h2⟩
    | cons _ _ => simp at hl
  | (n, x) :: l, ps, cs, cells, v, e, hl, hp, hb, h1, h2 => by
    cases ps with
    | nil => simp at hl
    | cons p ps =>
      obtain ⟨d, hd, hrel⟩ := hp 0 n x rfl
      simp at hd; subst hd
      change op2 (nth fs n) (fun o m => ifb (Nat.beq (len (cellsOf x)) m) (putAtK cs o (cellsOf x) (fillFields fs l)) none) = some v at e
      obtain ⟨o, s, hn, e1⟩ := op2_some e
      obtain ⟨hlen, e2⟩ := ifb_none e1
      rw [putAtK_eq] at e2
      rw [nth_eq] at hn
      rw [len_eq] at hlen
      have hlen := Nat.eq_of_beq_eq_true hlen
      obtain ⟨pl, hs⟩ := hplace n o s hn
      obtain ⟨c1, c2, c3⟩ := hrel.cells (by omega)
      obtain ⟨g1, g2⟩ := putAt_cells h1 h2 c1 c2 c3 o
      have hbound := hb n o s hn
      have ih := fillFields_sound (fields := fields) place hplace l ps (putAt cs o (cellsOf x)) (over cells o d.cells.toList) v e2 (by simpa using hl)
        (fun j n' x' hj => by have := hp (j + 1) n' x' (by simpa using hj); simpa using this) (fun n o s hn => by rw [over_size]; exact hb n o s hn) g1 g2
      obtain ⟨cells', cs', i1, i2⟩ := ih
      refine ⟨cells', cs', ?_, i2⟩
      unfold Instr.fill
      simp only [pl]
      rw [if_neg (by simp; omega), fill_fold d o cells (by omega)]
      exact i1

theorem TdOk.struct_inv {d : TypeDesc} {fs : List (Nat × Nat)} (h : TdOk P d (.struct fs)) : ∃ fields, d = .struct fields ∧ fields.size = fs.length ∧
    (∀ (n o s : Nat), fs[n]? = some (o, s) → ∃ f fi fd, fields[n]? = some f ∧ f.offset = o ∧ P.info? f.type = some fi ∧ fi.size = s ∧ 1 ≤ s ∧ P.underlying f.type = some fd ∧ (fd.isRow = true ↔ s ≠ 1)) := by
  cases h with | struct fields fs hl h => exact ⟨fields, rfl, hl, h⟩
theorem TdOk.slice_inv {d : TypeDesc} {sz bts : Nat} {zero : Row} {u8 : Bool} (h : TdOk P d (.slice sz bts zero u8)) : ∃ e, d = .slice e ∧ InfoOk P e sz bts zero ∧ (u8 = true → P.underlying e = some (.int .u8)) ∧ (u8 = true → sz = 1) := by
  cases h with | slice e sz bts zero u8 h h8 h1 => exact ⟨e, rfl, h, h8, h1⟩
theorem fieldsOf_some {i : TI} {fs : List (Nat × Nat)} (h : fieldsOf i = some fs) : i.td = .struct fs := by
  rcases i with ⟨td, size, zero, eq⟩; cases td <;> first | (cases h; rfl) | cases h
theorem sliceTd_some {β : Type} {i : TI} {g : Nat → Nat → Row → Option β} {r : β} (h : sliceTd i g = some r) : ∃ sz bts zero u8, i.td = .slice sz bts zero u8 ∧ g sz bts zero = some r := by
  rcases i with ⟨td, size, zero, eq⟩; cases td <;> first | exact ⟨_, _, _, _, rfl, h⟩ | cases h

/-- each field lies within the struct: asked of the table once -/
def FieldsIn (i : TI) : Prop := ∀ fs, i.td = .struct fs → ∀ (n o s : Nat), fs[n]? = some (o, s) → o + s ≤ i.size

theorem Sound.build (hT : TypesOk P E) (hF : ∀ t i, E.T t = some i → FieldsIn i) {t : Nat} {ps : Array (Nat × Operand)} (ho : o.op = .build t ps) (e : evBuild t ps E rec loc env h f = some r) : SoundP P o loc env h f r := by
  obtain ⟨i, hi, e1⟩ := ob_some e
  obtain ⟨vs, hvs, e2⟩ := ob_some e1
  obtain ⟨fs, hfs, e3⟩ := ob_some e2
  obtain ⟨v, hv, e4⟩ := ob_some e3
  refine ⟨v, e4, fun φ I w a s hR => ?_⟩
  have htd := fieldsOf_some hfs
  have ti := hT t i hi
  obtain ⟨bytes, hinfo⟩ := ti.info
  obtain ⟨z, hz, z1, z2⟩ := hinfo.run_zero (P := P)
  obtain ⟨d, hd, hdo⟩ := ti.und
  rw [htd] at hdo
  obtain ⟨fields, rfl, hl, hf⟩ := hdo.struct_inv
  obtain ⟨p1, p2⟩ := opvParts_rel hR hvs
  have hplaces : fields.toList.mapM (fun f => (P.info? f.type).map fun i => (f.offset, i.size)) = some fs := by
    have key : ∀ (l : List Field) (fs : List (Nat × Nat)), l.length = fs.length → (∀ (n o s : Nat), fs[n]? = some (o, s) → ∃ f fi fd, l[n]? = some f ∧ f.offset = o ∧ P.info? f.type = some fi ∧ fi.size = s ∧ 1 ≤ s ∧ P.underlying f.type = some fd ∧ (fd.isRow = true ↔ s ≠ 1)) →
        l.mapM (fun f => (P.info? f.type).map fun i => (f.offset, i.size)) = some fs := by
      intro l
      induction l with
      | nil => intro fs h1 _; cases fs with | nil => rfl | cons _ _ => simp at h1
      | cons x l ih =>
        intro fs h1 h2
        cases fs with
        | nil => simp at h1
        | cons p fs =>
          obtain ⟨o', s'⟩ := p
          obtain ⟨f, fi, fd, g1, g2, g3, g4, _⟩ := h2 0 o' s' rfl
          simp at g1; subst g1
          have ih' := ih fs (by simpa using h1) (fun n o s hn => by have := h2 (n + 1) o s (by simpa using hn); simpa using this)
          rw [List.mapM_cons, ih', g3]
          simp [g2, g4]
    exact key _ _ (by simpa using hl) (by simpa using hf)
  obtain ⟨cells', cs', i1, rfl, i3, i4⟩ := fillFields_sound (fields := fields) (w := w) (φ := φ) (I := I) (fs.toArray[·]?) (fun n o s hn => by
      obtain ⟨_, _, _, _, _, _, _, g5, _⟩ := hf n o s hn
      exact ⟨by simpa using hn, g5⟩) vs (ps.toList.map fun p => (p.1, a.eval p.2)) i.zero z.cells v hv (by simp [p1])
    (fun j n x hj => by
      obtain ⟨y, h1, h2⟩ := p2 j n x hj
      exact ⟨a.eval y, by simp [h1], h2⟩) (fun n o s hn => by rw [z1, hinfo.len]; exact hF t i hi fs htd n o s hn) z1 (fun j v c hj hc => ⟨(z2 j v c hj hc).1, .imm _ _ ((z2 j v c hj hc).2 w I)⟩)
  refine PureAt.mk (v := .agg cells') ?_ (id (.agg cs' cells' i3 (fun j c hc => ?_) (fun j v c hj hc => (i4 j v c hj hc).2)))
  · unfold execOp; simp only [ho]
    apply run_v
    refine run_build w t _ cells' ?_
    obtain ⟨tinf, z', q1, q2, q3, q4, _⟩ := hinfo.info
    have hzz : z' = z := by
      have := hz w
      simp only [zeroValue, typeInfo, Sem.run_bind, run_program, Result.andThen_ok, q1, q4, Sem.run_pure, Result.ok.injEq] at this
      exact this.1
    subst hzz
    have hp : (ps.map fun x => (x.fst, a.eval x.snd)).toList = ps.toList.map fun p => (p.1, a.eval p.2) := by simp
    unfold Program.built
    simp only [q1, hd, q4, hplaces, hp, i1]
  · have hj : j < cs'.length := by rw [← i3]; exact (Array.getElem?_eq_some_iff.1 hc).1
    exact (i4 j _ c (List.getElem?_eq_getElem hj) hc).1
end
end Go.Den
