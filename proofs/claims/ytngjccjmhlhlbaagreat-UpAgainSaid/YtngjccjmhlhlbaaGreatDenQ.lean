/- A part of a machine that computes what the program computes, and of the proof that it does -/
import Derived.Test.YtngjccjmhlhlbaaGreatDenP
import Derived.Great.BuildSlice
import Derived.Laws.MakeOwn
set_option linter.unusedVariables false
set_option linter.unusedSimpArgs false
set_option linter.unusedSectionVars false
namespace Go.Den
open Go

variable [Val]

section
variable {P : Program} {h : Heap} {f : K} {r : Fin2} {z : Nat}

/-! ### 'copy', 'clear' -/
def CopyPre (P : Program) (sz : Nat) (dv : AV) (xs : List Row) (φ : Pos) (I : Imm) (w : World) (m : Sem Value) : Prop :=
  ∃ t u ty el bytes zero c x news, P.underlying t = some (.slice el) ∧ InfoOk P el sz bytes zero ∧ RelV w φ I dv c ∧ XArg P w φ I sz xs x news ∧ m = Builtin.copy_ #[t, u] ty #[c, x]

theorem run_copy_any (w : World) {t u ty el : TypeId} {size bytes : Nat} {zero : Row} (ht : P.underlying t = some (.slice el)) (hinfo : InfoOk P el size bytes zero) {φ : Pos} {I : Imm}
    {base : Option Addr} {n c : Nat} {xs : List Row} {news : List Value} {x : Value} (hx : XArg P w φ I size xs x news) :
    (Builtin.copy_ #[t, u] ty #[.slice base n c, x]).run P w =
      match base with
      | some a => ((storeCells a (news.take (Nat.min xs.length n * size))).run P w).andThen fun _ w' => .ok (goInt (Nat.min xs.length n)) w'
      | none => .ok (goInt (Nat.min xs.length n)) w := by
  have hf := hx.cells (Nat.min xs.length n) (Nat.min_le_left _ _) w rfl
  cases base <;> simp [Builtin.copy_, run_underlying ht w, hinfo.run_size, hx.len, hf]

theorem copy_sound {sz : Nat} {dv : AV} {xs : List Row} (e : copyOp dv h sz xs f = some r) : ∃ v h', f v h' = some r ∧ Yields P h v h' (CopyPre P sz dv xs) := by
  cases dv with
  | nil =>
    refine ⟨_, h, e, fun φ I w m s ⟨t, u, ty, el, bytes, zero, c, x, news, ht, hinfo, hc, hx, hm⟩ => ?_⟩
    obtain rfl := hc.nil_inv
    refine ⟨goInt 0, w, ?_, Post.same s (.imm _ _ (by rw [mkInt_eq]; exact .int _ _))⟩
    rw [hm, run_copy_any w ht hinfo hx]; simp
  | ref b z off n cap =>
    obtain ⟨h0, e1⟩ := ifb_none (show ifb (Nat.beq z sz) (takeK xs n fun ys => ifb (Nat.beq (len ys) 0) (f (mkInt .i64 0) h) (writeRow h b off ys fun h => f (mkInt .i64 (.ofNat (len ys))) h)) none = some r from e)
    have := beq_eq_of h0
    subst this
    rw [takeK_eq] at e1
    have hlen : (xs.take n).length = Nat.min xs.length n := by rw [List.length_take]; exact Nat.min_comm _ _
    have htk : xs.take (Nat.min xs.length n) = xs.take n := by
      rcases Nat.le_total n xs.length with h | h
      · rw [show Nat.min xs.length n = n from Nat.min_eq_right h]
      · rw [show Nat.min xs.length n = xs.length from Nat.min_eq_left h, List.take_length, List.take_of_length_le h]
    rcases ifb_some e1 with ⟨h1, e2⟩ | ⟨h1, e2⟩
    · rw [len_eq] at h1
      have h1 := beq_eq_of h1
      refine ⟨_, h, e2, fun φ I w m s ⟨t, u, ty, el, bytes, zero, c, x, news, ht, hinfo, hc, hx, hm⟩ => ?_⟩
      obtain ⟨a, n', cap', rfl, _⟩ := isSl_run hc rfl
      have hn' : n' = n := by
        obtain ⟨L, hL, hLz, hrv⟩ := hc.ref_inv
        rcases hrv with ⟨c', hq, g1, g2⟩ | ⟨h0, ⟨o, hq⟩, g2⟩ <;> injection hq with q1 q2 q3 <;> omega
      subst hn'
      have hmin : Nat.min xs.length n' = 0 := by omega
      refine ⟨goInt 0, w, ?_, Post.same s (.imm _ _ (by rw [mkInt_eq]; exact .int _ _))⟩
      rw [hm, run_copy_any w ht hinfo hx, hmin]
      cases a <;> simp [storeCells]
    · obtain ⟨els, grow, fz, hb, w1, w2, e3⟩ := writeRow_some e2
      rw [len_eq] at e3 h1
      refine ⟨_, _, e3, fun φ I w m s ⟨t, u, ty, el, bytes, zero, c, x, news, ht, hinfo, hc, hx, hm⟩ => ?_⟩
      obtain ⟨L, hL, hLz, hrv⟩ := hc.ref_inv
      subst hLz
      rcases hrv with ⟨c', rfl, g1, g2⟩ | ⟨rfl, ⟨o, rfl⟩, g2⟩
      · obtain ⟨w', q1, q2, q3⟩ := s.rows (P := P) hb hL w1 w2 (hx.flat.take n)
        refine ⟨goInt (Nat.min xs.length n), w', ?_, φ, I, q3, q2, .imm _ _ (by rw [mkInt_eq, hlen]; exact .int _ _)⟩
        rw [hm, run_copy_any w ht hinfo hx]
        have htn : news.take (Nat.min xs.length n * L.z) = news.take (n * L.z) := by
          rcases Nat.le_total n xs.length with h | h
          · rw [show Nat.min xs.length n = n from Nat.min_eq_right h]
          · rw [show Nat.min xs.length n = xs.length from Nat.min_eq_left h, List.take_of_length_le (by rw [hx.flat.len]; exact Nat.le_refl _), List.take_of_length_le (by rw [hx.flat.len]; exact Nat.mul_le_mul_right _ h)]
        simp only [htn, q1]; rfl
      · simp at h1
  | _ => cases e

theorem zeroRows {φ : Pos} {I : Imm} {w : World} {sz bytes : Nat} {zero : Row} {el : TypeId} (hinfo : InfoOk P el sz bytes zero) {zv : Value} (hz : ZeroRel zv zero) (n : Nat) (cells : Array Value) (hc : ∀ k, k < n * sz → cells[k]? = some (zv.cells[k % sz]!)) (hl : cells.size = n * sz) :
    Flat w φ I sz (List.replicate n zero) cells.toList := by
  refine ⟨by simp [hl], fun i r hi => ?_, fun i j r x hi hj => ?_⟩
  · rw [List.getElem?_replicate] at hi; split at hi
    · cases hi; exact hinfo.len
    · cases hi
  · rw [List.getElem?_replicate] at hi; split at hi
    · rename_i hlt
      cases hi
      have hjl : j < sz := by rw [← hinfo.len]; exact (List.getElem?_eq_some_iff.1 hj).1
      have hzs : zv.cells.size = sz := by rw [hz.1, hinfo.len]
      have h1 := hc (i * sz + j) (idx_lt hlt hjl)
      have hmod : (i * sz + j) % sz = j := by rw [Nat.mul_comm, Nat.mul_add_mod, Nat.mod_eq_of_lt hjl]
      rw [hmod] at h1
      have hcell : zv.cells[j]? = some (zv.cells[j]!) := by rw [getElem!_pos zv.cells j (by omega)]; exact Array.getElem?_eq_getElem (by omega)
      have := hz.2 j x _ hj hcell
      exact ⟨_, by simpa using h1, this.1, .imm _ _ (this.2 w I)⟩
    · cases hi

theorem zeroCells_get {zs : Array Value} {n k : Nat} (h : k < n * zs.size) : (Builtin.zeroCells zs n)[k]? = some (zs[k % zs.size]!) := by
  unfold Builtin.zeroCells
  rw [Array.getElem?_map, Array.getElem?_range, if_pos h]; rfl

def ClearPre (P : Program) (sz : Nat) (zero : Row) (dv : AV) (φ : Pos) (I : Imm) (w : World) (m : Sem Value) : Prop :=
  ∃ t ty el bytes c, P.underlying t = some (.slice el) ∧ InfoOk P el sz bytes zero ∧ RelV w φ I dv c ∧ m = Builtin.clear_ #[t] ty #[c]

theorem clear_sound {sz : Nat} {zero : Row} {dv : AV} (e : clearOp dv h sz zero f = some r) : ∃ v h', f v h' = some r ∧ Yields P h v h' (ClearPre P sz zero dv) := by
  cases dv with
  | nil =>
    refine ⟨_, h, e, fun φ I w m s ⟨t, ty, el, bytes, c, ht, hinfo, hc, hm⟩ => ?_⟩
    obtain rfl := hc.nil_inv
    refine ⟨.tuple #[], w, ?_, Post.same s undef_rel⟩
    rw [hm]; simp [Builtin.clear_, run_underlying ht w]
  | ref b z off n cap =>
    obtain ⟨h0, e1⟩ := ifb_none (show ifb (Nat.beq z sz) (ifb (Nat.beq n 0) (f (.tup []) h) (repK zero n fun ys => writeRow h b off ys fun h => f (.tup []) h)) none = some r from e)
    have := beq_eq_of h0
    subst this
    rw [repK_eq] at e1
    rcases ifb_some e1 with ⟨h1, e2⟩ | ⟨h1, e2⟩
    · have h1 := beq_eq_of h1
      subst h1
      refine ⟨_, h, e2, fun φ I w m s ⟨t, ty, el, bytes, c, ht, hinfo, hc, hm⟩ => ?_⟩
      obtain ⟨L, hL, hLz, hrv⟩ := hc.ref_inv
      refine ⟨.tuple #[], w, ?_, Post.same s undef_rel⟩
      rw [hm]
      rcases hrv with ⟨c', rfl, g1, g2⟩ | ⟨h0, ⟨o, rfl⟩, g2⟩ <;> simp [Builtin.clear_, run_underlying ht w]
    · obtain ⟨els, grow, fz, hb, w1, w2, e3⟩ := writeRow_some e2
      refine ⟨_, _, e3, fun φ I w m s ⟨t, ty, el, bytes, c, ht, hinfo, hc, hm⟩ => ?_⟩
      obtain ⟨L, hL, hLz, hrv⟩ := hc.ref_inv
      subst hLz
      rcases hrv with ⟨c', rfl, g1, g2⟩ | ⟨rfl, ⟨o, rfl⟩, g2⟩
      · obtain ⟨zv, hz, hzr⟩ := hinfo.run_zero (P := P)
        have hzs : zv.cells.size = L.z := by rw [hzr.1, hinfo.len]
        have fl := zeroRows (w := w) (φ := φ) (I := I) hinfo hzr n (Builtin.zeroCells zv.cells n) (fun k hk => by rw [← hzs] at hk ⊢; exact zeroCells_get hk) (by rw [size_zeroCells, hzs])
        obtain ⟨w', q1, q2, q3⟩ := s.rows (P := P) hb hL w1 w2 fl
        refine ⟨.tuple #[], w', ?_, φ, I, q3, q2, undef_rel⟩
        rw [hm]
        have hn : n ≠ 0 := fun h => by subst h; simp at h1
        obtain ⟨m', rfl⟩ : ∃ m', n = m' + 1 := ⟨n - 1, by omega⟩
        simp [Builtin.clear_, run_underlying ht w, hz, q1]
      · simp at h1
  | _ => cases e
end

section
variable {P : Program} {E : Env} {rec : Rec} {loc env : Regs} {h : Heap} {f : K} {r : Fin2} {o : Oper}

/-! ### rows that are made -/
theorem Sound.makeSlice (hT : TypesOk P E) {t : Nat} {l c : Operand} (ho : o.op = .makeSlice t l c) (e : evMakeSlice t l c E rec loc env h f = some r) : SoundA P o loc env h f r := by
  obtain ⟨i, hi, e1⟩ := ob_some e
  obtain ⟨sz, bts, zero, u8, htd, e2⟩ := sliceTd_some e1
  obtain ⟨lv, hlv, e3⟩ := ob_some e2
  obtain ⟨cv, hcv, e4⟩ := ob_some e3
  obtain ⟨n, hn, e5⟩ := ob_some e4
  obtain ⟨m, hm, e6⟩ := ob_some e5
  obtain ⟨hb, e7⟩ := ifb_none e6
  rw [repK_eq, newBlk_eq] at e7
  obtain ⟨b1, b2⟩ := band_true hb
  have := beq_eq_of b1
  subst this
  have b2 := Nat.le_of_ble_eq_true b2
  obtain ⟨k1, rfl⟩ := natOf_some hn
  obtain ⟨k2, rfl⟩ := natOf_some hm
  refine ⟨.blk ⟨List.replicate n zero, false, 0⟩, fun b => .ref b sz 0 n (some n), e7, fun φ I w a hR => ?_⟩
  obtain ⟨d, hd, hdo⟩ := (hT t i hi).und
  rw [htd] at hdo
  obtain ⟨el, rfl, hinfo, _, _⟩ := hdo.slice_inv
  have hl := (opv_rel hR hlv).int_inv
  have hc := (opv_rel hR hcv).int_inv
  obtain ⟨ti, zv, i1, i2, i3, i4, i5⟩ := hinfo.info
  have hzs : zv.cells.size = sz := by rw [i5.1, hinfo.len]
  have hsmall : n ≤ 140737488355328 := Nat.le_trans (Nat.le_mul_of_pos_right _ hinfo.bytes) b2
  have hbb : (ti.bytes : Int) * (n : Int) ≤ 281474976710656 := by
    rw [i3]
    have : ((n * bts : Nat) : Int) ≤ 281474976710656 := by omega
    rwa [Nat.mul_comm, Int.natCast_mul] at this
  have hrun := run_make (P := P) w t el ti zv hd i1 i4 k1 k2 n n (by omega) (by omega) hbb (by omega)
  simp only [Int.toNat_natCast, i2] at hrun
  have fl := zeroRows (w := w) (φ := φ) (I := I) hinfo i5 n (madeCells zv.cells (n * sz)) (fun k hk => by unfold madeCells; rw [Array.getElem?_map, Array.getElem?_range, if_pos hk, hzs]; rfl) (size_madeCells _ _)
  have mk : NewRow φ I w (w.alloc (.cells (madeCells zv.cells (n * sz)) el)) ⟨List.replicate n zero, false, 0⟩ ⟨w.heap.size, 0, sz, n⟩ := NewRow.of (pushed_alloc w (.cells (madeCells zv.cells (n * sz)) el)) ⟨List.replicate n zero, false, 0⟩ sz n (.inl rfl) (size_madeCells _ _) (by simp) fl.rows (fun i j r v hi hj => by
    obtain ⟨c, h1, h2⟩ := fl.cell i j r v hi hj
    exact ⟨c, by simpa using h1, h2⟩)
  refine ⟨.slice (some ⟨w.heap.size, 0, none⟩) n n, w.alloc (.cells (madeCells zv.cells (n * sz)) el), ⟨w.heap.size, 0, sz, n⟩, ?_, mk, fun b φ' I' w'' hb => .ref _ _ _ _ _ _ _ hb rfl (.inl ⟨n, by simp [at_], Nat.le_refl _, rfl⟩)⟩
  unfold execOp; simp only [ho, hl, hc]; exact run_v hrun

theorem Flat.set {w : World} {φ : Pos} {I : Imm} {z : Nat} {xs : List Row} {news : List Value} (fl : Flat w φ I z xs news) {p : Nat} (hp : p < xs.length) {row : Row} {cs : List Value} (h1 : row.length = z) (h2 : cs.length = z)
    (h3 : ∀ (j : Nat) (x : AV), row[j]? = some x → ∃ c, cs[j]? = some c ∧ c.oneCell' = true ∧ RelV w φ I x c) : Flat w φ I z (xs.set p row) (putAt news (p * z) cs) where
  len := by rw [putAt_length, fl.len]; simp
  rows i r hi := by
    rw [List.getElem?_set] at hi; split at hi
    · cases hi; exact h1
    · exact fl.rows i r hi
  cell i j r x hi hj := by
    rw [List.getElem?_set] at hi; split at hi
    · rename_i heq
      subst heq
      cases hi
      obtain ⟨c, c1, c2⟩ := h3 j x hj
      have hjl := (List.getElem?_eq_some_iff.1 hj).1
      have := idx_lt hp (j := j) (z := z) (by omega)
      exact ⟨c, by rw [putAt_get, if_pos ⟨by omega, by omega, by rw [fl.len]; exact this⟩, show p * z + j - p * z = j by omega]; exact c1, c2⟩
    · rename_i hne
      obtain ⟨c, c1, c2⟩ := fl.cell i j r x hi hj
      refine ⟨c, ?_, c2⟩
      have hjl : j < z := by rw [← fl.rows i r hi]; exact (List.getElem?_eq_some_iff.1 hj).1
      have : i * z + z ≤ p * z ∨ p * z + z ≤ i * z := by
        rcases Nat.lt_or_gt_of_ne hne with h | h
        · right; rw [← Nat.succ_mul]; exact Nat.mul_le_mul_right _ h
        · left; rw [← Nat.succ_mul]; exact Nat.mul_le_mul_right _ h
      rw [putAt_get, if_neg (by omega)]; exact c1

theorem fillElems_sound {φ : Pos} {I : Imm} {w : World} {sz : Nat} (hsz : 1 ≤ sz) : ∀ (l : List (Nat × AV)) (ps : List (Nat × Value)) (els : List Row) (cells : Array Value) (v : List Row), fillElems sz l els = some v → ps.length = l.length →
    (∀ (j n : Nat) (x : AV), l[j]? = some (n, x) → ∃ d, ps[j]? = some (n, d) ∧ RelV w φ I x d) → Flat w φ I sz els cells.toList →
    ∃ cells' : Array Value, Instr.fill (fun i => some (i * sz, sz)) cells ps = some cells' ∧ v.length = els.length ∧ Flat w φ I sz v cells'.toList
  | [], ps, els, cells, v, e, hl, _, fl => by
    cases e
    cases ps with
    | nil => exact ⟨cells, rfl, rfl, fl⟩
    | cons _ _ => simp at hl
  | (n, x) :: l, ps, els, cells, v, e, hl, hp, fl => by
    cases ps with
    | nil => simp at hl
    | cons p ps =>
      obtain ⟨d, hd, hrel⟩ := hp 0 n x rfl
      simp at hd; subst hd
      obtain ⟨h1, e1⟩ := ifb_none (show ifb (band (Nat.beq (len (cellsOf x)) sz) (Nat.blt n (len els))) (setK els n (cellsOf x) (fillElems sz l)) none = some v from e)
      obtain ⟨h2, h3⟩ := band_true h1
      rw [len_eq] at h2 h3
      have h2 := beq_eq_of h2
      rw [blt_eq] at h3
      have h3 : n < els.length := by simpa using h3
      rw [setK_eq] at e1
      obtain ⟨c1, c2, c3⟩ := hrel.cells (by omega)
      have hbound : n * sz + d.cells.size ≤ cells.size := by
        have h4 := fl.len
        simp at h4
        have : (n + 1) * sz ≤ els.length * sz := Nat.mul_le_mul_right _ h3
        rw [Nat.succ_mul] at this; omega
      have fl' : Flat w φ I sz (els.set n (cellsOf x)) (over cells (n * sz) d.cells.toList).toList := by
        have := fl.set h3 h2 (cs := d.cells.toList) (by simp; omega) (fun j y hj => by
          have hj' : j < d.cells.size := by rw [c1]; exact (List.getElem?_eq_some_iff.1 hj).1
          exact ⟨d.cells[j], by simp [hj'], c2 j _ (Array.getElem?_eq_getElem hj'), c3 j y _ hj (Array.getElem?_eq_getElem hj')⟩)
        simpa [over] using this
      obtain ⟨cells', i1, i2, i3⟩ := fillElems_sound hsz l ps (els.set n (cellsOf x)) (over cells (n * sz) d.cells.toList) v e1 (by simpa using hl)
        (fun j n' x' hj => by have := hp (j + 1) n' x' (by simpa using hj); simpa using this) fl'
      refine ⟨cells', ?_, by rw [i2]; simp, i3⟩
      unfold Instr.fill
      simp only []
      rw [if_neg (by simp; omega), fill_fold d (n * sz) cells hbound]
      exact i1

theorem Sound.buildSlice (hT : TypesOk P E) {t n : Nat} {ps : Array (Nat × Operand)} (ho : o.op = .buildSlice t n ps) (e : evBuildSlice t n ps E rec loc env h f = some r) : SoundA P o loc env h f r := by
  obtain ⟨i, hi, e1⟩ := ob_some e
  obtain ⟨sz, bts, zero, u8, htd, e2⟩ := sliceTd_some e1
  obtain ⟨vs, hvs, e3⟩ := ob_some e2
  rw [repK_eq] at e3
  obtain ⟨els, hels, e4⟩ := ob_some e3
  obtain ⟨hb, e5⟩ := ifb_none e4
  rw [newBlk_eq] at e5
  have hb := Nat.le_of_ble_eq_true hb
  refine ⟨.blk ⟨els, false, 0⟩, fun b => .ref b sz 0 n (some n), e5, fun φ I w a hR => ?_⟩
  obtain ⟨d, hd, hdo⟩ := (hT t i hi).und
  rw [htd] at hdo
  obtain ⟨el, rfl, hinfo, _, _⟩ := hdo.slice_inv
  obtain ⟨ti, zv, i1, i2, i3, i4, i5⟩ := hinfo.info
  have hzs : zv.cells.size = sz := by rw [i5.1, hinfo.len]
  obtain ⟨p1, p2⟩ := opvParts_rel hR hvs
  have hsz := hinfo.pos
  have fl := zeroRows (w := w) (φ := φ) (I := I) hinfo i5 n ((Array.range (n * sz)).map (zv.cells[· % zv.cells.size]!)) (fun k hk => by rw [Array.getElem?_map, Array.getElem?_range, if_pos hk, hzs]; rfl) (by simp)
  obtain ⟨cells', f1, f2, f3⟩ := fillElems_sound hsz vs (ps.toList.map fun p => (p.1, a.eval p.2)) _ _ els hels (by simp [p1]) (fun j n x hj => by
      obtain ⟨y, h1, h2⟩ := p2 j n x hj
      exact ⟨a.eval y, by simp [h1], h2⟩) fl
  have hl : els.length = n := by rw [f2]; simp
  have hsize : cells'.size = n * sz := by have := f3.len; simp [hl] at this; exact this
  have mk : NewRow φ I w (w.alloc (.cells cells' el)) ⟨els, false, 0⟩ ⟨w.heap.size, 0, sz, n⟩ := NewRow.of (pushed_alloc w (.cells cells' el)) ⟨els, false, 0⟩ sz n (.inl rfl) hsize (by rw [hl]; exact Nat.le_refl _) f3.rows (fun i j r v hi hj => by
    obtain ⟨c, h1, h2⟩ := f3.cell i j r v hi hj
    exact ⟨c, by simpa using h1, h2⟩)
  have hp : (ps.map fun x => (x.fst, a.eval x.snd)).toList = ps.toList.map fun p => (p.1, a.eval p.2) := by simp
  refine ⟨.slice (some ⟨w.heap.size, 0, none⟩) n n, w.alloc (.cells cells' el), ⟨w.heap.size, 0, sz, n⟩, ?_, mk, fun b φ' I' w'' hb => .ref _ _ _ _ _ _ _ hb rfl (.inl ⟨n, by simp [at_], Nat.le_refl _, rfl⟩)⟩
  unfold execOp; simp only [ho]; apply run_v
  by_cases h0 : n * sz = 0
  · have hn0 : n = 0 := by
      rcases Nat.mul_eq_zero.1 h0 with h | h
      · exact h
      · omega
    subst hn0
    have hvs0 : vs = [] := by
      cases vs with
      | nil => rfl
      | cons p vs =>
        exfalso
        obtain ⟨n', x'⟩ := p
        obtain ⟨h1, _⟩ := ifb_none (show ifb (band (Nat.beq (len (cellsOf x')) sz) (Nat.blt n' (len (List.replicate 0 zero)))) (setK _ n' (cellsOf x') (fillElems sz vs)) none = some els from hels)
        obtain ⟨_, h3⟩ := band_true h1
        rw [blt_eq] at h3; simp [len] at h3
    have hps : ps.toList = [] := by rw [hvs0] at p1; exact List.eq_nil_of_length_eq_zero p1.symm
    have hps' : ps = #[] := by cases ps; simp at hps; simp [hps]
    subst hps'
    have hc' : cells' = #[] := Array.eq_empty_of_size_eq_zero (by simpa using hsize)
    subst hc'
    simp [Instr.buildSlice, run_underlying hd, sizeOf, typeInfo, i1, Instr.fill, newRow, Array.range_zero']
  · rw [i2.symm] at hb h0 f1
    exact run_buildSlice w t el n _ cells' ti zv hd i1 i4 (by omega) h0 (by rw [hp]; exact f1)
end
end Go.Den
