/- A part of a machine that computes what the program computes, and of the proof that it does -/
import Derived.Test.YtngjccjmhlhlbaaGreatDenE
set_option linter.unusedVariables false
set_option linter.unusedSimpArgs false
set_option linter.unusedSectionVars false
namespace Go.Den
open Go

variable [Val]

theorem InfoOk.run_size {P : Program} {t : TypeId} {size bytes : Nat} {zero : Row} (h : InfoOk P t size bytes zero) (w : World) : (sizeOf t).run P w = .ok size w := by
  obtain ⟨ti, z, h1, h2, _⟩ := h.info
  simp [sizeOf, typeInfo, h1, h2]
theorem InfoOk.map_size {P : Program} {t : TypeId} {size bytes : Nat} {zero : Row} (h : InfoOk P t size bytes zero) : (P.info? t).map (·.size) = some size := by
  obtain ⟨ti, z, h1, h2, _⟩ := h.info
  simp [h1, h2]
theorem InfoOk.run_zero {P : Program} {t : TypeId} {size bytes : Nat} {zero : Row} (h : InfoOk P t size bytes zero) : ∃ z, (∀ w : World, (zeroValue t).run P w = .ok z w) ∧ ZeroRel z zero := by
  obtain ⟨ti, z, h1, h2, h3, h4, h5⟩ := h.info
  exact ⟨z, fun w => by simp [zeroValue, typeInfo, h1, h4], h5⟩

theorem cell_at (w : World) (B x : Nat) : w.cell? (at_ B x) = match w.heap[B]? with | some (.cells c _ _) => c[x]? | _ => none := by
  unfold World.cell? at_; cases w.heap[B]? with
  | none => rfl
  | some o => cases o <;> rfl
theorem frozen_at (w : World) (B x : Nat) : w.frozen? (at_ B x) = match w.heap[B]? with | some (.cells _ _ (lo, hi)) => decide (lo ≤ x) && decide (x < hi) | _ => false := by
  unfold World.frozen? at_; cases w.heap[B]? with
  | none => rfl
  | some o => cases o <;> rfl

section
variable {P : Program} {φ : Pos} {I : Imm} {g : Nat → Option Blk} {m : Nat → Option (List (AV × AV))} {w : World}

/-- the cells of one row of a block, from j on -/
theorem BlkRel.cell {k : Blk} {L : Loc} (h : BlkRel w φ I k L) {i j : Nat} {r : Row} {v : AV} (hi : k.els[i]? = some r) (hj : r[j]? = some v) :
    ∃ c, w.cell? (at_ L.blk (L.base + i * L.z + j)) = some c ∧ c.oneCell' = true ∧ RelV w φ I v c := by
  obtain ⟨cells, elem, lo, hi', h1, _, _, h4⟩ := h.there
  obtain ⟨c, hc, ho, hr⟩ := h4 i j r v hi hj
  exact ⟨c, by rw [cell_at, h1]; exact hc, ho, hr⟩

/-- so many cells, read -/
theorem load_cells (B o : Nat) (l : Row) (rel : AV → Value → Prop) (h : ∀ (j : Nat) (v : AV), l[j]? = some v → ∃ c, w.cell? (at_ B (o + j)) = some c ∧ rel v c) :
    ∃ cs : List Value, cs.length = l.length ∧ w.rangeAt B o cs ∧ ∀ (j : Nat) (v : AV) (c : Value), l[j]? = some v → cs[j]? = some c → rel v c := by
  induction l generalizing o with
  | nil => exact ⟨[], rfl, fun j v hj => by simp at hj, fun j v c hj => by simp at hj⟩
  | cons x l ih =>
    obtain ⟨c, hc, hr⟩ := h 0 x rfl
    obtain ⟨cs, h1, h2, h3⟩ := ih (o + 1) (fun j v hj => by
      obtain ⟨c, hc, hr⟩ := h (j + 1) v (by simpa using hj)
      exact ⟨c, by rw [show o + 1 + j = o + (j + 1) by omega]; exact hc, hr⟩)
    refine ⟨c :: cs, by simp [h1], fun j v hj => ?_, fun j v d hj hd => ?_⟩
    · cases j with
      | zero => simp at hj; subst hj; exact hc
      | succ j =>
        have := h2 j v (by simpa using hj)
        rw [show o + (j + 1) = o + 1 + j by omega]; exact this
    · cases j with
      | zero => simp at hj hd; subst hj; subst hd; exact hr
      | succ j => exact h3 j v d (by simpa using hj) (by simpa using hd)

/-- a variable, read: 'pack' of its cells -/
theorem load_pack {t : TypeId} {i : TI} (ti : TIOk P t i) {B o : Nat} {l : Row} {v : AV} (hp : pack i l = some v) (hlen : l.length ≤ i.size)
    (h : ∀ (j : Nat) (x : AV), l[j]? = some x → ∃ c, w.cell? (at_ B (o + j)) = some c ∧ c.oneCell' = true ∧ RelV w φ I x c) :
    ∃ c, (Instr.loadAt t (.pointer (some (at_ B o)))).run P w = .ok c w ∧ RelV w φ I v c := by
  obtain ⟨bytes, hinfo⟩ := ti.info
  obtain ⟨d, hd, htd⟩ := ti.und
  obtain ⟨cs, h1, h2, h3⟩ := load_cells B o l (fun x c => c.oneCell' = true ∧ RelV w φ I x c) h
  rcases i with ⟨td, size, zero, eq⟩
  dsimp only at htd hinfo hlen
  by_cases hst : ∃ fs, td = .struct fs
  · obtain ⟨fs, rfl⟩ := hst
    cases htd with
    | struct fields _ hl hf =>
      have hl' : l.length = size ∧ v = .agg l := by
        unfold pack at hp
        simp only [len_eq] at hp
        obtain ⟨hb, hv⟩ := ifb_none hp
        cases hv
        exact ⟨Nat.eq_of_beq_eq_true hb, rfl⟩
      obtain ⟨hl', rfl⟩ := hl'
      refine ⟨.agg cs.toArray, run_loadAt_mid w B o t cs _ h2 hd rfl (by rw [hinfo.map_size, h1, hl']), .agg _ _ (by simp [h1]) (fun j c hj => ?_) (fun j x c hj hc => (h3 j x c hj (by simpa using hc)).2)⟩
      have hj' : j < l.length := by
        have := (List.getElem?_eq_some_iff.1 (by simpa using hj : cs[j]? = some c)).1
        omega
      exact (h3 j (l[j]'hj') c (List.getElem?_eq_getElem hj') (by simpa using hj)).1
  · have hrow : d.isRow = false := by
      cases htd <;> first | rfl | (exact absurd ⟨_, rfl⟩ hst)
    have hs : l = [v] := by
      unfold pack at hp
      cases td <;> simp only at hp <;> first
        | exact absurd ⟨_, rfl⟩ hst
        | (cases l with
           | nil => cases hp
           | cons x l => cases l with
             | nil => cases hp; rfl
             | cons y l => cases hp)
    subst hs
    obtain ⟨c, hc⟩ : ∃ c, cs = [c] := by
      cases cs with
      | nil => simp at h1
      | cons c cs => cases cs with
        | nil => exact ⟨c, rfl⟩
        | cons _ _ => simp at h1
    subst hc
    have hcell := h2 0 c rfl
    simp only [Nat.add_zero] at hcell
    have hagg : (isAgg t).run P w = .ok false w := by
      unfold isAgg
      rw [Sem.run_bind, run_underlying hd w]
      cases d <;> simp_all
    refine ⟨c, ?_, (h3 0 v c rfl rfl).2⟩
    simp only [Instr.loadAt, Instr.sureAddr, loadVar, Sem.run_bind, Sem.run_pure, Result.andThen_ok, hagg]
    simp [at_, hcell]
end
end Go.Den
