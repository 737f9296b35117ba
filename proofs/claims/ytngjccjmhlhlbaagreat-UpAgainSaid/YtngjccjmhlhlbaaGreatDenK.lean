/- A part of a machine that computes what the program computes, and of the proof that it does -/
import Derived.Test.YtngjccjmhlhlbaaGreatDenJ
set_option linter.unusedVariables false
set_option linter.unusedSimpArgs false
set_option linter.unusedSectionVars false
namespace Go.Den
open Go

variable [Val]

section
variable {P : Program} {E : Env} {rec : Rec} {loc env : Regs} {h : Heap} {f : K} {r : Fin2} {o : Oper}

theorem isStrTd_some {d : TypeDesc} {i : TI} (hd : TdOk P d i.td) (e : isStrTd i = true) : d = .string := by
  rcases i with ⟨td, size, zero, eq⟩; cases td <;> first | (exact absurd e Bool.false_ne_true) | (dsimp only at hd; cases hd; rfl)
theorem isSliceTd_some {d : TypeDesc} {i : TI} (hd : TdOk P d i.td) (e : isSliceTd i = true) : ∃ el bts zero, d = .slice el ∧ InfoOk P el (szTd i) bts zero := by
  rcases i with ⟨td, size, zero, eq⟩; cases td <;> first | (exact absurd e Bool.false_ne_true) | (dsimp only at hd; cases hd; exact ⟨_, _, _, rfl, by assumption⟩)
theorem isBoolTd_some {d : TypeDesc} {i : TI} (hd : TdOk P d i.td) (e : isBoolTd i = true) : d = .bool := by
  rcases i with ⟨td, size, zero, eq⟩; cases td <;> first | (exact absurd e Bool.false_ne_true) | (dsimp only at hd; cases hd; rfl)

theorem Sound.makeFunc {fn : Fn} {first caps : Array Operand} (ho : o.op = .makeFunc fn first caps) (e : evMakeFunc fn first caps E rec loc env h f = some r) : SoundP P o loc env h f r := by
  cases fn with
  | func g =>
    obtain ⟨h0, e0⟩ := ifb_none (show ifb (isEmpty first.toList) (ob (opvs caps.toList loc env) fun vs => f (.clo g vs) h) none = some r from e)
    have h1 : first = #[] := by
      rcases first with ⟨l⟩
      cases l with
      | nil => rfl
      | cons _ _ => cases h0
    obtain ⟨vs, hvs, e1⟩ := ob_some e0
    refine ⟨_, e1, fun φ I w a s hR => ?_⟩
    have hl := opvs_rel hR hvs
    refine PureAt.mk (v := .func (.func g) #[] (caps.map a.eval)) ?_ (id (.clo g vs _ (by simpa using hl.1) (fun j v c hj hc => hl.2 j v c hj (by simpa using hc))))
    unfold execOp; simp [ho, h1, Instr.makeFunc]
  | _ => cases e

theorem Sound.extract {x : Operand} {n : Nat} (ho : o.op = .extract x n) (e : evExtract x n E rec loc env h f = some r) : SoundP P o loc env h f r := by
  obtain ⟨v, hv, e1⟩ := ob_some e
  obtain ⟨vs, hvs, e2⟩ := ob_some e1
  obtain ⟨u, hu, e3⟩ := ob_some e2
  obtain rfl := toTup_some hvs
  rw [nth_eq] at hu
  refine ⟨u, e3, fun φ I w a s hR => ?_⟩
  obtain ⟨cs, hc, h1, h2⟩ := (opv_rel hR hv).tup_inv
  have hn : n < cs.size := by rw [h1]; exact (List.getElem?_eq_some_iff.1 hu).1
  refine PureAt.mk (v := cs[n]) ?_ (id (h2 n u _ hu (Array.getElem?_eq_getElem hn)))
  unfold execOp; simp [ho, hc, Instr.extract, hn]

theorem Sound.index (hT : TypesOk P E) {t : Nat} {x n : Operand} (ho : o.op = .index t x n) (e : evIndex t x n E rec loc env h f = some r) : SoundP P o loc env h f r := by
  obtain ⟨ti, hti, e'⟩ := ob_some e
  obtain ⟨his, e''⟩ := ifb_none e'
  have hS : P.underlying t = some .string := by
    obtain ⟨d, hd, hdo⟩ := (hT t ti hti).und
    obtain rfl := isStrTd_some hdo his
    exact hd
  obtain ⟨v, hv, e1⟩ := ob_some e''
  obtain ⟨u, hu, e2⟩ := ob_some e1
  obtain ⟨m, hm, e3⟩ := ob_some e2
  obtain ⟨l, hl, e4⟩ := ob_some e3
  obtain ⟨c, hc, e5⟩ := ob_some e4
  obtain rfl := toStr_some hl
  obtain ⟨k, rfl⟩ := natOf_some hm
  rw [nth_eq] at hc
  refine ⟨_, e5, fun φ I w a s hR => ?_⟩
  obtain ⟨st, h1, h2⟩ := (opv_rel hR hv).str_inv
  have h3 := (opv_rel hR hu).int_inv
  have hb : ∃ b, st[m]? = some b ∧ b.toNat = c := by
    rw [← h2] at hc
    unfold bytesOfStr at hc
    rw [List.getElem?_map] at hc
    cases hb : st.data.toList[m]? with
    | none => simp [hb] at hc
    | some b =>
      simp [hb] at hc
      refine ⟨b, ?_, hc⟩
      have hlt := (List.getElem?_eq_some_iff.1 hb).1
      have hlt' : m < st.size := by simpa using hlt
      rw [getElem?_pos st m hlt']
      have := (List.getElem?_eq_some_iff.1 hb).2
      rw [← this]; rfl
  obtain ⟨b, hb1, hb2⟩ := hb
  refine PureAt.mk (v := .int .u8 c) ?_ (id (.imm _ _ (.int .u8 (c : Int))))
  unfold execOp; simp only [ho, h1, h3]
  apply run_v
  simp only [Instr.index, asIntOf, Sem.run_bind, Sem.run_pure, Result.andThen_ok, run_underlying hS w]
  simp [hb1, hb2]

theorem Sound.field (hT : TypesOk P E) {t n : Nat} {x : Operand} (ho : o.op = .field t x n) (e : evField t x n E rec loc env h f = some r) : SoundP P o loc env h f r := by
  obtain ⟨i, hi, e1⟩ := ob_some e
  obtain ⟨v, hv, e2⟩ := ob_some e1
  obtain ⟨cs, hcs, e3⟩ := ob_some e2
  obtain ⟨fs, hfs, e4⟩ := ob_some e3
  obtain ⟨off, sz, hn, e5⟩ := op2_some e4
  obtain rfl := toAgg_some hcs
  rw [takeK_eq, dropL_eq] at e5
  rw [nth_eq] at hn
  obtain ⟨hlen, e6⟩ := ifb_none e5
  rw [len_eq] at hlen
  have hlen := Nat.eq_of_beq_eq_true hlen
  refine ⟨_, e6, fun φ I w a s hR => ?_⟩
  have ti := hT t i hi
  obtain ⟨d, hd, htd⟩ := ti.und
  rw [fieldsOf_some hfs] at htd
  obtain ⟨fields, rfl, hl, hf⟩ := htd.struct_inv
  obtain ⟨fl, fi, fd, f1, f2, f3, f4, f5, f6, f7⟩ := hf n off sz hn
  obtain ⟨vs, hc, h1, h2, h3⟩ := (opv_rel hR hv).agg_inv
  have hrun : ∀ d, (part fl.type vs fl.offset).run P w = .ok d w → (execOp a.eval o).run P w = .ok (.value d) w := by
    intro d hd'
    unfold execOp; simp only [ho, hc]
    apply run_v
    simp only [Instr.field, Sem.run_bind, run_underlying hd w, Result.andThen_ok, f1, asAgg, Sem.run_pure, hd']
  have hagg : (isAgg fl.type).run P w = .ok fd.isRow w := by
    unfold isAgg
    rw [Sem.run_bind, run_underlying f6 w]
    cases fd <;> simp
  by_cases hrow : fd.isRow = true
  · have hsz : sz ≠ 1 := f7.1 hrow
    have hone : oneOf (List.take sz (List.drop off cs)) = .agg (List.take sz (List.drop off cs)) := by
      generalize List.take sz (List.drop off cs) = q at hlen
      cases q with
      | nil => rfl
      | cons y q => cases q with
        | nil => simp at hlen; exact absurd hlen.symm hsz
        | cons z q => rfl
    rw [hone]
    refine PureAt.mk (v := .agg (vs.extract off (off + sz))) (hrun _ ?_) (id (.agg _ _ ?_ (fun j c hj => ?_) (fun j y c hj hc' => ?_)))
    · simp [part, hagg, hrow, sizeOf, typeInfo, f3, f4, f2]
    · simp at hlen; simp [h1]; omega
    · rw [Array.getElem?_extract] at hj
      split at hj
      · exact h2 _ c hj
      · cases hj
    · rw [List.getElem?_take] at hj
      split at hj
      · rw [List.getElem?_drop] at hj
        rw [Array.getElem?_extract] at hc'
        split at hc'
        · exact h3 _ y c hj hc'
        · cases hc'
      · cases hj
  · have hsz : sz = 1 := Decidable.byContradiction fun hne => hrow (f7.2 hne)
    subst hsz
    obtain ⟨y, hy⟩ : ∃ y, List.take 1 (List.drop off cs) = [y] := by
      generalize List.take 1 (List.drop off cs) = q at hlen
      cases q with
      | nil => simp at hlen
      | cons y q => cases q with
        | nil => exact ⟨y, rfl⟩
        | cons z q => simp at hlen
    have hcs : cs[off]? = some y := by
      have : (List.take 1 (List.drop off cs))[0]? = some y := by rw [hy]; rfl
      simpa using this
    have hlt : off < vs.size := by rw [h1]; exact (List.getElem?_eq_some_iff.1 hcs).1
    rw [hy]
    refine PureAt.mk (v := vs[off]) (hrun _ ?_) (id (h3 off y _ hcs (Array.getElem?_eq_getElem hlt)))
    have hrow' : fd.isRow = false := by simpa using hrow
    simp [part, hagg, hrow', f2, hlt]

theorem Sound.indexAddr (hT : TypesOk P E) {t : Nat} {x n : Operand} (ho : o.op = .indexAddr t x n) (e : evIndexAddr t x n E rec loc env h f = some r) : SoundP P o loc env h f r := by
  obtain ⟨i, hi, e1⟩ := ob_some e
  obtain ⟨sz, bts, zero, u8, htd, e2⟩ := sliceTd_some e1
  obtain ⟨v, hv, e3⟩ := ob_some e2
  obtain ⟨u, hu, e4⟩ := ob_some e3
  obtain ⟨m, hm, e5⟩ := ob_some e4
  obtain ⟨p, hp, e6⟩ := ob_some e5
  obtain ⟨k, rfl⟩ := natOf_some hm
  refine ⟨p, e6, fun φ I w a s hR => ?_⟩
  obtain ⟨d, hd, hdo⟩ := (hT t i hi).und
  rw [htd] at hdo
  obtain ⟨el, rfl, hinfo, _, _⟩ := hdo.slice_inv
  have h3 := (opv_rel hR hu).int_inv
  have hrun : ∀ (B x0 n0 c0 : Nat), m < n0 → (Instr.indexAt t (.slice (some (at_ B x0)) n0 c0) (.int k m)).run P w = .ok (.pointer (some (at_ B (x0 + m * sz)))) w := by
    intro B x0 n0 c0 hlt
    simp only [Instr.indexAt, asIntOf, Sem.run_bind, Sem.run_pure, Result.andThen_ok, run_underlying hd w]
    simp [hlt, hinfo.run_size, add_at]
  have hexec : ∀ {c : Value} {d : Value}, a.eval x = c → (Instr.indexAt t c (.int k m)).run P w = .ok d w → (execOp a.eval o).run P w = .ok (.value d) w := by
    intro c d hc hd'
    unfold execOp; simp only [ho, hc, h3]; exact run_v hd'
  have hv' := opv_rel hR hv
  cases v with
  | sl nn z xs =>
    obtain ⟨hz, hp1⟩ := ifb_none hp
    obtain ⟨cs, hcs, hp2⟩ := ob_some hp1
    cases hp2
    have hz := Nat.eq_of_beq_eq_true hz
    subst hz
    rw [nth_eq] at hcs
    have hlt : m < xs.length := (List.getElem?_eq_some_iff.1 hcs).1
    have hs := hv'.sl_inv
    cases hq : a.eval x with
    | slice ad n0 c0 =>
      rw [hq] at hs
      cases hs with
      | sl0 => simp at hlt
      | sl _ _ _ B off cap cell hn hc hrow hcell hone hrel =>
        refine PureAt.mk (hexec hq (hrun B off _ _ hlt)) (id (.rp cs B (off + m * z) (fun j => cell m j) ?_ ?_ ?_))
        · intro j v hj; exact hcell m j cs v hcs hj
        · intro j v hj; exact hone m j cs v hcs hj
        · intro j v hj; exact hrel m j cs v hcs hj
    | _ => rw [hq] at hs; cases hs
  | ref b z off n0 cap =>
    obtain ⟨hz, hp1⟩ := ifb_none hp
    rw [forceNat_eq] at hp1
    cases hp1
    have hz' : z = sz ∧ m < n0 := by
      cases h1 : Nat.beq z sz <;> rw [h1] at hz <;> simp [band] at hz
      exact ⟨Nat.eq_of_beq_eq_true h1, hz⟩
    obtain ⟨rfl, hlt⟩ := hz'
    obtain ⟨L, hL, hLz, hrv⟩ := hv'.ref_inv
    rcases hrv with ⟨c, hc, _, _⟩ | ⟨h0, _⟩
    · refine PureAt.mk (hexec hc (hrun _ _ _ _ hlt)) (id ?_)
      have := RelV.ptr (w := w) (I := I) b (off + m) 0 L hL
      rw [show L.base + (off + m) * L.z + 0 = L.base + off * L.z + m * z by rw [hLz, Nat.add_mul]; omega] at this
      exact this
    · omega
  | _ => cases hp
end
end Go.Den
