/- A part of a machine that computes what the program computes, and of the proof that it does -/
import Derived.Test.YtngjccjmhlhlbaaGreatDenG
set_option linter.unusedVariables false
set_option linter.unusedSimpArgs false
set_option linter.unusedSectionVars false
namespace Go.Den
open Go

variable [Val]

/-- what an operation comes to -/
def OpR (P : Program) (s : Sem Next) (w : World) (R : Value → World → Prop) : Prop :=
  match s.run P w with
  | .ok (.value v) w' => R v w'
  | .ok .skip w' => R undef w'
  | .ok (.enter f args) w' => Calls P f args w' fun e w'' => ∃ v, e = .returned v ∧ R v w''
  | _ => False

def Post (h0 : Heap) (φ : Pos) (I : Imm) (w : World) (v : AV) (h : Heap) (c : Value) (w' : World) : Prop :=
  ∃ φ' I', HExt h0 φ I w h φ' I' w' ∧ Sim φ' I' h w' ∧ RelV w' φ' I' v c

theorem OpR.value {P : Program} {s : Sem Next} {w w' : World} {v : Value} {R : Value → World → Prop} (h : s.run P w = .ok (.value v) w') (r : R v w') : OpR P s w R := by
  unfold OpR; rw [h]; exact r
theorem OpR.skip {P : Program} {s : Sem Next} {w w' : World} {R : Value → World → Prop} (h : s.run P w = .ok .skip w') (r : R undef w') : OpR P s w R := by
  unfold OpR; rw [h]; exact r
theorem OpR.mono {P : Program} {s : Sem Next} {w : World} {R R' : Value → World → Prop} (h : OpR P s w R) (hr : ∀ v w', R v w' → R' v w') : OpR P s w R' := by
  unfold OpR at *
  split <;> simp_all
  rename_i f args w' _
  exact h.mono fun e w'' ⟨v, he, hv⟩ => ⟨v, he, hr v w'' hv⟩

section
variable {P : Program} {φ : Pos} {I : Imm} {h : Heap} {w : World} {loc env : Regs} {a : Act}

theorem Post.same (s : Sim φ I h w) {v : AV} {c : Value} (hv : RelV w φ I v c) : Post h φ I w v h c w := ⟨φ, I, .refl _ _ _ _ _, s, hv⟩

theorem undef_rel : RelV w φ I (.tup []) undef := .tup [] #[] rfl (fun j v c hj => by simp at hj)

/-! ### loads -/
theorem loadOp_sound (s : SimH φ I h w) {t : TypeId} {i : TI} (ti : TIOk P t i) {p v : AV} {c : Value} (hp : RelV w φ I p c) (e : loadOp p h i = some v) :
    ∃ d, (Instr.loadAt t c).run P w = .ok d w ∧ RelV w φ I v d := by
  cases p with
  | ptr b n j =>
    obtain ⟨L, hL, rfl⟩ := hp.ptr_inv
    change loadPtr h i b n j = some v at e
    unfold loadPtr at e
    obtain ⟨els, grow, fz, hb, e⟩ := openBlk_some e
    obtain ⟨r, hr, e⟩ := ob_some e
    rw [nth_eq] at hr
    rw [takeK_eq, dropL_eq] at e
    refine load_pack ti (B := L.blk) (o := L.base + n * L.z + j) e (by simp; omega) fun j' x hx => ?_
    have hx' : r[j + j']? = some x := by
      rw [List.getElem?_take] at hx
      split at hx
      · simpa [List.getElem?_drop] using hx
      · cases hx
    obtain ⟨c, h1, h2, h3⟩ := (s.blk b _ L hb hL).cell hr hx'
    exact ⟨c, by rw [show L.base + n * L.z + j + j' = L.base + n * L.z + (j + j') by omega]; exact h1, h2, h3⟩
  | rp cs =>
    obtain ⟨B, off, cell, rfl, h1, h2, h3⟩ := hp.rp_inv
    have e : takeK cs i.size (fun l => pack i l) = some v := e
    rw [takeK_eq] at e
    refine load_pack ti (B := B) (o := off) e (by simp; omega) fun j x hx => ?_
    have hx' : cs[j]? = some x := by
      rw [List.getElem?_take] at hx
      split at hx
      · exact hx
      · cases hx
    exact ⟨cell j, (h1 j x hx').1, h2 j x hx', .imm _ _ (h3 j x hx')⟩
  | _ => cases e

/-! ### rows that are written -/
/-- cells from place x of a block's row on are written -/
theorem BlkRel.store {k : Blk} {L : Loc} (hk : BlkRel w φ I k L) : ∃ (cells : Array Value) (elem : TypeId) (lo hi : Nat), w.heap[L.blk]? = some (.cells cells elem (lo, hi)) ∧ FrOk L.z cells lo hi ∧ cells.size = L.base + L.cap * L.z ∧
    (∀ (i j : Nat) (r : Row) (v : AV), k.els[i]? = some r → r[j]? = some v → ∃ c, cells[L.base + i * L.z + j]? = some c ∧ c.oneCell' = true ∧ RelV w φ I v c) ∧
    ∀ (x : Nat) (vs : List Value), x + vs.length ≤ L.base + L.cap * L.z → (∀ v ∈ vs, v.oneCell' = true) → (storeCells (at_ L.blk x) vs).run P w = .ok () (w.setCells L.blk x vs) ∧ Wrote w (w.setCells L.blk x vs) L.blk (over cells x vs) elem (lo, hi) := by
  obtain ⟨cells, elem, lo, hi, h1, h2, h3, h4⟩ := hk.there
  refine ⟨cells, elem, lo, hi, h1, h2, h3, h4, fun x vs hx hv => ⟨?_, setCells_wrote _ _ _ _ _ _ _ h1⟩⟩
  have := run_storeCells_cells (P := P) L.blk x vs 0 w (fun j hj => by
      have : w.cell? (at_ L.blk (x + j)) = some (cells[x + j]'(by omega)) := by rw [cell_at, h1]; exact Array.getElem?_eq_getElem (by omega)
      simp only [Nat.add_zero]
      change (w.cell? (at_ L.blk (x + j))).isSome = true
      rw [this]; rfl)
    (fun j hj => by
      simp only [Nat.add_zero]
      change w.frozen? (at_ L.blk (x + j)) = false
      rw [frozen_at, h1]
      have h2' := h2; unfold FrOk at h2'
      simp only [Bool.and_eq_false_iff, decide_eq_false_iff_not]
      omega) hv
  simpa [at_] using this

theorem storeOp_sound (s : Sim φ I h w) {t : TypeId} {i : TI} (ti : TIOk P t i) {p v : AV} {c d : Value} (hp : RelV w φ I p c) (hv : RelV w φ I v d) {f : KH} {r : Fin2} (e : storeOp p h i v f = some r) :
    ∃ h', f h' = some r ∧ ∃ w', (Instr.storeAt t c d).run P w = .ok () w' ∧ Sim φ I h' w' ∧ HExt h φ I w h' φ I w' := by
  cases p with
  | ptr b n j =>
    obtain ⟨L, hL, rfl⟩ := hp.ptr_inv
    change storePtr h i.size (cellsOf v) b n j f = some r at e
    unfold storePtr at e
    obtain ⟨els, grow, fz, hb, e⟩ := openBlk_some e
    obtain ⟨hfz, e⟩ := ifb_none' e
    obtain ⟨row, hr, e⟩ := ob_some e
    obtain ⟨hg, e⟩ := ifb_none e
    rw [putAtK_eq, setK_eq, setBlk_eq] at e
    rw [nth_eq] at hr
    have hg' : (cellsOf v).length = i.size ∧ j + i.size ≤ row.length := by
      simp only [len_eq] at hg
      cases h1 : Nat.beq (cellsOf v).length i.size <;> rw [h1] at hg <;> simp [band] at hg
      exact ⟨Nat.eq_of_beq_eq_true h1, hg⟩
    obtain ⟨bytes, hinfo⟩ := ti.info
    have hz : (cellsOf v).length ≠ 0 := by have := hinfo.pos; omega
    obtain ⟨c1, c2, c3⟩ := hv.cells hz
    have hk := s.hr.blk b _ L hb hL
    obtain ⟨cells, elem, lo, hi, h1, h2, h3, h4, h5⟩ := hk.store (P := P)
    have hrow : row.length = L.z := hk.rows n row hr
    have hn : n < els.length := (List.getElem?_eq_some_iff.1 hr).1
    have hcap : n < L.cap := Nat.lt_of_lt_of_le hn hk.room
    have hmul : n * L.z + L.z ≤ L.cap * L.z := by rw [← Nat.succ_mul]; exact Nat.mul_le_mul_right _ hcap
    have hx : L.base + n * L.z + j + d.cells.toList.length ≤ L.base + L.cap * L.z := by simp; omega
    obtain ⟨h6, h7⟩ := h5 (L.base + n * L.z + j) d.cells.toList hx (fun x hx => by
      obtain ⟨m, hm⟩ := List.getElem?_of_mem hx
      exact c2 m x (by simpa using hm))
    have hfz' : fz ≤ n := by
      rcases Nat.lt_or_ge n fz with h8 | h8
      · have : Nat.blt n fz = true := Nat.ble_eq.mpr h8
        rw [this] at hfz; cases hfz
      · exact h8
    have hfzm : fz * L.z ≤ n * L.z := Nat.mul_le_mul_right _ hfz'
    obtain ⟨s', ex⟩ := s.write hb hL h1 h2 (over_size _ _ _) h7 ⟨els.set n (putAt row j (cellsOf v)), grow, fz⟩ (by simpa using hk.room) (fun m r hm => by
        by_cases hmn : m = n
        · subst hmn
          simp [hn] at hm; rw [← hm, putAt_length]; exact hrow
        · rw [List.getElem?_set_ne (Ne.symm hmn)] at hm; exact hk.rows m r hm) rfl
      (fun x hx => by rw [over_get, if_neg (by simp at *; omega)])
      (fun m q r x hm hq => by
        by_cases hmn : m = n
        · subst hmn
          simp only [List.getElem?_set_self hn, Option.some.injEq] at hm
          subst hm
          rw [putAt_get] at hq
          have hql : q < row.length := by
            rcases Nat.lt_or_ge q row.length with h8 | h8
            · exact h8
            · rw [if_neg (by omega), List.getElem?_eq_none h8] at hq; cases hq
          split at hq
          · rename_i hc
            have hlen : q - j < d.cells.size := by omega
            refine ⟨d.cells[q - j], ?_, c2 (q - j) _ (Array.getElem?_eq_getElem hlen), c3 (q - j) x _ hq (Array.getElem?_eq_getElem hlen)⟩
            rw [over_get, if_pos (by simp; omega), show L.base + m * L.z + q - (L.base + m * L.z + j) = q - j by omega]
            simp [hlen]
          · rename_i hc
            obtain ⟨y, h8, h9⟩ := h4 m q row x hr hq
            exact ⟨y, by rw [over_get, if_neg (by simp; omega)]; exact h8, h9⟩
        · rw [List.getElem?_set_ne (Ne.symm hmn)] at hm
          obtain ⟨y, h8, h9⟩ := h4 m q r x hm hq
          refine ⟨y, ?_, h9⟩
          rw [over_get, if_neg]
          · exact h8
          · have hrl := hk.rows m r hm
            have hql : q < r.length := (List.getElem?_eq_some_iff.1 hq).1
            have : m * L.z + L.z ≤ n * L.z ∨ n * L.z + L.z ≤ m * L.z := by
              rcases Nat.lt_or_gt_of_ne hmn with h10 | h10
              · left; rw [← Nat.succ_mul]; exact Nat.mul_le_mul_right _ h10
              · right; rw [← Nat.succ_mul]; exact Nat.mul_le_mul_right _ h10
            simp; omega)
    refine ⟨_, e, _, ?_, s', ex⟩
    obtain ⟨tinf, z, i1, i2, _⟩ := hinfo.info
    have hsz : d.cells.size = tinf.size := by omega
    simp only [Instr.storeAt, Instr.sureAddr, storeVar, Sem.run_bind, Sem.run_pure, Result.andThen_ok, sizeOf, typeInfo, run_program, i1, hsz, ne_eq, not_true_eq_false, if_false, h6]
  | _ => cases e
end
end Go.Den
