/- A part of a machine that computes what the program computes, and of the proof that it does -/
import Derived.Test.YtngjccjmhlhlbaaGreatDenN
set_option linter.unusedVariables false
set_option linter.unusedSimpArgs false
set_option linter.unusedSectionVars false
namespace Go.Den
open Go

variable [Val]

theorem idx_lt {i j m z : Nat} (hi : i < m) (hj : j < z) : i * z + j < m * z := by
  have : (i + 1) * z ≤ m * z := Nat.mul_le_mul_right _ hi
  rw [Nat.succ_mul] at this; omega
theorem idx_split {k m z : Nat} (h : k < m * z) : ∃ i j, i < m ∧ j < z ∧ k = i * z + j := by
  have hz : 0 < z := by
    rcases Nat.eq_zero_or_pos z with rfl | h'
    · simp at h
    · exact h'
  refine ⟨k / z, k % z, (Nat.div_lt_iff_lt_mul hz).2 h, Nat.mod_lt _ hz, ?_⟩
  rw [Nat.mul_comm]; exact (Nat.div_add_mod k z).symm

/-- rows, and their cells one behind the other -/
structure Flat (w : World) (φ : Pos) (I : Imm) (z : Nat) (xs : List Row) (news : List Value) : Prop where
  len : news.length = xs.length * z
  rows : ∀ (i : Nat) (r : Row), xs[i]? = some r → r.length = z
  cell : ∀ (i j : Nat) (r : Row) (x : AV), xs[i]? = some r → r[j]? = some x → ∃ c, news[i * z + j]? = some c ∧ c.oneCell' = true ∧ RelV w φ I x c

section
variable {P : Program} {φ : Pos} {I : Imm} {h : Heap} {w : World} {z : Nat}

theorem Flat.one {xs : List Row} {news : List Value} (f : Flat w φ I z xs news) : ∀ v ∈ news, v.oneCell' = true := by
  intro v hv
  obtain ⟨k, hk⟩ := List.getElem?_of_mem hv
  have hlt := (List.getElem?_eq_some_iff.1 hk).1
  rw [f.len] at hlt
  obtain ⟨i, j, hi, hj, rfl⟩ := idx_split hlt
  have hr : xs[i]? = some xs[i] := List.getElem?_eq_getElem hi
  have hl := f.rows i _ hr
  obtain ⟨c, h1, h2, _⟩ := f.cell i j _ (xs[i][j]'(by omega)) hr (List.getElem?_eq_getElem (by omega))
  rw [hk] at h1; cases h1; exact h2

theorem Flat.append {xs ys : List Row} {a b : List Value} (f : Flat w φ I z xs a) (g : Flat w φ I z ys b) : Flat w φ I z (xs ++ ys) (a ++ b) where
  len := by simp [f.len, g.len, Nat.add_mul]
  rows i r hi := by
    rw [List.getElem?_append] at hi; split at hi
    · exact f.rows i r hi
    · exact g.rows _ r hi
  cell i j r x hi hj := by
    rw [List.getElem?_append] at hi; split at hi
    · rename_i hlt
      obtain ⟨c, h1, h2⟩ := f.cell i j r x hi hj
      exact ⟨c, by rw [List.getElem?_append_left (List.getElem?_eq_some_iff.1 h1).1]; exact h1, h2⟩
    · rename_i hlt
      obtain ⟨c, h1, h2⟩ := g.cell _ j r x hi hj
      refine ⟨c, ?_, h2⟩
      have hm : i * z = xs.length * z + (i - xs.length) * z := by rw [← Nat.add_mul]; congr 1; omega
      rw [List.getElem?_append_right (by rw [f.len]; omega), f.len, ← h1]
      congr 1; omega

theorem Flat.mono {xs : List Row} {news : List Value} {w' : World} {φ' : Pos} {I' : Imm} (e : Ext0 φ I w φ' I' w') (f : Flat w φ I z xs news) : Flat w' φ' I' z xs news :=
  ⟨f.len, f.rows, fun i j r x hi hj => let ⟨c, h1, h2, h3⟩ := f.cell i j r x hi hj; ⟨c, h1, h2, h3.ext e⟩⟩

theorem Flat.nil : Flat w φ I z [] [] := ⟨by simp, fun i r hi => by simp at hi, fun i j r x hi => by simp at hi⟩

theorem Flat.take {xs : List Row} {news : List Value} (f : Flat w φ I z xs news) (n : Nat) : Flat w φ I z (xs.take n) (news.take (n * z)) where
  len := by
    rw [List.length_take, List.length_take, f.len]
    rcases Nat.le_total n xs.length with h | h
    · rw [Nat.min_eq_left h, Nat.min_eq_left (Nat.mul_le_mul_right _ h)]
    · rw [Nat.min_eq_right h, Nat.min_eq_right (Nat.mul_le_mul_right _ h)]
  rows i r hi := by
    rw [List.getElem?_take] at hi; split at hi
    · exact f.rows i r hi
    · cases hi
  cell i j r x hi hj := by
    rw [List.getElem?_take] at hi; split at hi
    · rename_i hlt
      obtain ⟨c, h1, h2⟩ := f.cell i j r x hi hj
      have hj' : j < z := by rw [← f.rows i r hi]; exact (List.getElem?_eq_some_iff.1 hj).1
      exact ⟨c, by rw [List.getElem?_take, if_pos (idx_lt hlt hj')]; exact h1, h2⟩
    · cases hi

/-- an argument's elements -/
structure XArg (P : Program) (w : World) (φ : Pos) (I : Imm) (z : Nat) (xs : List Row) (x : Value) (news : List Value) : Prop where
  flat : Flat w φ I z xs news
  len : ∀ w', (Builtin.lenOf x).run P w' = .ok xs.length w'
  cells : ∀ n, n ≤ xs.length → ∀ w', w'.heap = w.heap → (Builtin.firstCells z n x).run P w' = .ok (news.take (n * z)).toArray w'

theorem ElemsAt.arg {xs : List Row} {x : Value} (hx : ElemsAt w φ I z xs x) : ∃ news, XArg P w φ I z xs x news := by
  obtain ⟨a, cap, rfl, hrow, hc⟩ := hx
  rcases hc with rfl | ⟨B, o, rfl, hc⟩
  · refine ⟨[], Flat.nil, fun w' => rfl, fun n hn w' hw => ?_⟩
    simp at hn; subst hn
    cases a with
    | none => simp [Builtin.firstCells]
    | some a => simpa using run_firstCells_some (P := P) w' z 0 a 0 cap [] (by simp) (by simp)
  · have hcell : ∀ k, k < xs.length * z → ∃ c, w.cell? (at_ B (o + k)) = some c := by
      intro k hk
      obtain ⟨i, j, hi, hj, rfl⟩ := idx_split hk
      have hr : xs[i]? = some xs[i] := List.getElem?_eq_getElem hi
      have hl := hrow i _ hr
      obtain ⟨c, h1, _⟩ := hc i j _ (xs[i][j]'(by omega)) hr (List.getElem?_eq_getElem (by omega))
      exact ⟨c, by rw [← Nat.add_assoc]; exact h1⟩
    let news : List Value := (List.range (xs.length * z)).map fun k => (w.cell? (at_ B (o + k))).getD undef
    have hnews : ∀ k v, news[k]? = some v → w.cell? (at_ B (o + k)) = some v := by
      intro k v hk
      have hlt : k < xs.length * z := by have := (List.getElem?_eq_some_iff.1 hk).1; simpa [news] using this
      obtain ⟨c, hcc⟩ := hcell k hlt
      simp [news, hlt, hcc] at hk
      rw [hcc, hk]
    refine ⟨news, ⟨by simp [news], hrow, fun i j r x hi hj => ?_⟩, fun w' => rfl, fun n hn w' hw => ?_⟩
    · obtain ⟨c, h1, h2⟩ := hc i j r x hi hj
      refine ⟨c, ?_, h2⟩
      have hlt : i * z + j < xs.length * z := idx_lt (List.getElem?_eq_some_iff.1 hi).1 (by rw [← hrow i r hi]; exact (List.getElem?_eq_some_iff.1 hj).1)
      simp only [news, List.getElem?_map, List.getElem?_range hlt, Option.map_some]
      rw [← Nat.add_assoc, h1]; rfl
    · have hl : (news.take (n * z)).length = n * z := by rw [List.length_take]; simp only [news, List.length_map, List.length_range]; exact Nat.min_eq_left (Nat.mul_le_mul_right _ hn)
      refine run_firstCells_some (P := P) w' z n (at_ B o) _ cap _ hl (fun j v hj => ?_)
      rw [add_at]
      rw [List.getElem?_take] at hj
      split at hj
      · have := hnews j v hj
        rw [cell_at] at this ⊢
        rw [hw]; exact this
      · cases hj

theorem str_arg (st : ByteArray) : ∃ news, XArg P w φ I 1 ((bytesOfStr st).map byteCell) (.string st) news := by
  refine ⟨st.data.toList.map fun b => .int .u8 b.toNat, ⟨by simp [bytesOfStr], fun i r hi => ?_, fun i j r x hi hj => ?_⟩, fun w' => ?_, fun n hn w' hw => ?_⟩
  · rw [List.getElem?_map] at hi
    cases hq : (bytesOfStr st)[i]? <;> simp [hq] at hi; rw [← hi]; rfl
  · rw [List.getElem?_map] at hi
    unfold bytesOfStr at hi
    rw [List.getElem?_map] at hi
    cases hq : st.data.toList[i]? with
    | none => simp [hq] at hi
    | some q =>
      simp [hq] at hi; subst hi
      cases j with
      | succ j => simp [byteCell] at hj
      | zero =>
        simp [byteCell] at hj; subst hj
        refine ⟨.int .u8 q.toNat, ?_, rfl, .imm _ _ (.int _ _)⟩
        simp only [Nat.mul_one, Nat.add_zero, List.getElem?_map, hq, Option.map_some]
  · simp [Builtin.lenOf, bytesOfStr]
  · simp only [Builtin.firstCells, Sem.run_pure, Nat.mul_one]
    congr 1
    apply Array.ext'
    simp only [Array.toList_map, ByteArray.data_extract, Array.toList_extract]
    rw [List.extract_eq_take_drop]
    simp [List.map_take]

theorem elems_arg (s : SimH φ I h w) {v : AV} {c : Value} (hv : RelV w φ I v c) {xs : List Row} (e : elems v h z = some xs) : ∃ news, XArg P w φ I z xs c news := by
  rcases elems_sound s hv e with ⟨st, rfl, rfl, rfl, rfl⟩ | hel
  · exact str_arg st
  · exact hel.arg

/-! ### rows written into a block -/
theorem rows_over {k : Blk} {L : Loc} {cells : Array Value} (hsize : cells.size = L.base + L.cap * L.z) (hroom : k.els.length ≤ L.cap) (hrows : ∀ (i : Nat) (r : Row), k.els[i]? = some r → r.length = L.z)
    (hc : ∀ (i j : Nat) (r : Row) (v : AV), k.els[i]? = some r → r[j]? = some v → ∃ c, cells[L.base + i * L.z + j]? = some c ∧ c.oneCell' = true ∧ RelV w φ I v c)
    {xs : List Row} {news : List Value} (f : Flat w φ I L.z xs news) (p : Nat) (hp : p + xs.length ≤ k.els.length) :
    (∀ (i : Nat) (r : Row), (putAt k.els p xs)[i]? = some r → r.length = L.z) ∧
    ∀ (i j : Nat) (r : Row) (v : AV), (putAt k.els p xs)[i]? = some r → r[j]? = some v → ∃ c, (over cells (L.base + p * L.z) news)[L.base + i * L.z + j]? = some c ∧ c.oneCell' = true ∧ RelV w φ I v c := by
  refine ⟨fun i r hi => ?_, fun i j r v hi hj => ?_⟩
  · rw [putAt_get] at hi; split at hi
    · exact f.rows _ r hi
    · exact hrows i r hi
  · rw [putAt_get] at hi; split at hi
    · rename_i hin
      obtain ⟨c, h1, h2⟩ := f.cell _ j r v hi hj
      refine ⟨c, ?_, h2⟩
      have hm : i * L.z = p * L.z + (i - p) * L.z := by rw [← Nat.add_mul]; congr 1; omega
      have h1l := (List.getElem?_eq_some_iff.1 h1).1
      have hcap : i * L.z + j < L.cap * L.z := idx_lt (by omega) (by rw [← f.rows _ r hi]; exact (List.getElem?_eq_some_iff.1 hj).1)
      rw [over_get, if_pos (by omega), ← h1]; congr 1; omega
    · rename_i hout
      obtain ⟨c, h1, h2⟩ := hc i j r v hi hj
      refine ⟨c, ?_, h2⟩
      rw [over_get, if_neg]
      · exact h1
      · have hjl : j < L.z := by rw [← hrows i r hi]; exact (List.getElem?_eq_some_iff.1 hj).1
        have hil := (List.getElem?_eq_some_iff.1 hi).1
        have hxl := f.len
        have : i * L.z + L.z ≤ p * L.z ∨ p * L.z + xs.length * L.z ≤ i * L.z := by
          rcases Nat.lt_or_ge i p with h3 | h3
          · left; rw [← Nat.succ_mul]; exact Nat.mul_le_mul_right _ h3
          · right; rw [← Nat.add_mul]; exact Nat.mul_le_mul_right _ (by omega)
        omega

theorem writeRow_some {b at_ : Nat} {xs : List Row} {f : KH} {r : Fin2} (e : writeRow h b at_ xs f = some r) : ∃ els grow fz, h.get b = some ⟨els, grow, fz⟩ ∧ fz ≤ at_ ∧ at_ + xs.length ≤ els.length ∧ f (hset h b ⟨putAt els at_ xs, grow, fz⟩) = some r := by
  obtain ⟨els, grow, fz, hb, e1⟩ := openBlk_some e
  obtain ⟨h1, e2⟩ := ifb_none' e1
  rw [putAtK_eq, setBlk_eq] at e2
  obtain ⟨h2, h3⟩ := bor_false h1
  rw [blt_eq] at h2 h3
  rw [len_eq, len_eq] at h3
  exact ⟨els, grow, fz, hb, by simpa using h2, by simpa using h3, e2⟩

/-- rows written in their place -/
theorem Sim.rows (s : Sim φ I h w) {b p : Nat} {els : List Row} {grow : Bool} {fz : Nat} {L : Loc} (hb : h.get b = some ⟨els, grow, fz⟩) (hL : φ b = some L) (hfz : fz ≤ p) {xs : List Row} (hp : p + xs.length ≤ els.length)
    {news : List Value} (f : Flat w φ I L.z xs news) : ∃ w', (storeCells (at_ L.blk (L.base + p * L.z)) news).run P w = .ok () w' ∧ Sim φ I (hset h b ⟨putAt els p xs, grow, fz⟩) w' ∧ HExt h φ I w (hset h b ⟨putAt els p xs, grow, fz⟩) φ I w' := by
  have hk := s.hr.blk b _ L hb hL
  obtain ⟨cells, elem, lo, hi, h1, h2, h3, h4, h5⟩ := hk.store (P := P)
  have hroom := hk.room
  dsimp only at hroom
  have hmul : p * L.z + xs.length * L.z ≤ L.cap * L.z := by rw [← Nat.add_mul]; exact Nat.mul_le_mul_right _ (by omega)
  obtain ⟨h6, h7⟩ := h5 (L.base + p * L.z) news (by rw [f.len]; omega) f.one
  obtain ⟨r1, r2⟩ := rows_over h3 hk.room hk.rows h4 f p hp
  have hfzm : fz * L.z ≤ p * L.z := Nat.mul_le_mul_right _ hfz
  obtain ⟨s', ex⟩ := s.write hb hL h1 h2 (over_size _ _ _) h7 ⟨putAt els p xs, grow, fz⟩ (by rw [putAt_length]; exact hroom) r1 rfl
    (fun x hx => by rw [over_get, if_neg (by dsimp only at hx; omega)]) r2
  exact ⟨_, h6, s', ex⟩
end
end Go.Den
