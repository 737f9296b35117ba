/- A part of a machine that computes what the program computes, and of the proof that it does -/
import Derived.Test.YtngjccjmhlhlbaaGreatDenZi
import Derived.Lib.AppendZerosOnto
set_option linter.unusedVariables false
set_option linter.unusedSimpArgs false
set_option linter.unusedSectionVars false
namespace Go.Den
open Go

variable [Val]

/-! ### slices.Insert -/
/-- the roads of the library's own text -/
structure InsWalk (P : Program) (g t ti z : Nat) : Prop where
  fn : ∃ fn, P.funcs[g]? = some fn ∧ fn.name ≠ "runtime.NumGoroutine" ∧ fn.body.isSome = true
  end_ : ∀ (base : Option Addr) (n c m vc : Nat) (xb : Option Addr) (w w' : World) (v' : Value), 0 < m →
    ((Builtin.append_ #[t, t] t #[.slice base n c, .slice xb m vc]).run P w = .ok v' w') → n ≤ c → (base = none → n = 0 ∧ c = 0) →
    Calls P g #[.slice base n c, .int .i64 n, .slice xb m vc] w fun e w'' => e = .returned v' ∧ w'' = w'
  shift : ∀ (b off n c i m vc xa xo kA kB : Nat) (tA tB : TypeId) (w w1 w2 : World) (v1 v2 : Value), i < n → 0 < m → n + m ≤ c → n + m ≤ 9223372036854775807 →
    xa ≠ b → w.shape? xa = some (tA, kA) → w.shape? b = some (tB, kB) → kB ≠ 0 → w.frozen? ⟨xa, xo, none⟩ = false → w.frozen? ⟨xa, kA, none⟩ = false →
    (∀ dc sc, (Builtin.copy_ #[t, t] ti #[.slice (some ⟨b, off + (i + m) * z, none⟩) (n + m - (i + m)) dc, .slice (some ⟨b, off + i * z, none⟩) (n + m - i) sc]).run P w.drew = .ok v1 w1) →
    (∀ dc, (Builtin.copy_ #[t, t] ti #[.slice (some ⟨b, off + i * z, none⟩) (n + m - i) dc, .slice (some ⟨xa, xo, none⟩) m vc]).run P w1 = .ok v2 w2) →
    Calls P g #[.slice (some ⟨b, off, none⟩) n c, .int .i64 i, .slice (some ⟨xa, xo, none⟩) m vc] w fun e w' => e = .returned (.slice (some ⟨b, off, none⟩) (n + m) c) ∧ w' = w2
  grow : ∀ (b off n c i m vc N G : Nat) (xb : Option Addr) (w w1 w2 w3 : World) (v2 v3 : Value), i < n → 0 < m → n ≤ c → c < n + m → n + m ≤ 9223372036854775807 → n + m ≤ G → G ≤ 9223372036854775807 →
    ((Builtin.append_ #[t, ti] t #[.slice (some ⟨b, off, none⟩) i c, .int .i64 ((n : Int) + (m : Int) - (i : Int))]).run P w = .ok (.slice (some ⟨N, 0, none⟩) (n + m) G) w1) →
    (∀ dc, (Builtin.copy_ #[t, t] ti #[.slice (some ⟨N, i * z, none⟩) (n + m - i) dc, .slice xb m vc]).run P w1 = .ok v2 w2) →
    (∀ dc sc, (Builtin.copy_ #[t, t] ti #[.slice (some ⟨N, (i + m) * z, none⟩) (n + m - (i + m)) dc, .slice (some ⟨b, off + i * z, none⟩) (n - i) sc]).run P w2.drew = .ok v3 w3) →
    Calls P g #[.slice (some ⟨b, off, none⟩) n c, .int .i64 i, .slice xb m vc] w fun e w' => e = .returned (.slice (some ⟨N, 0, none⟩) (n + m) G) ∧ w' = w3

section
variable {P : Program} {h : Heap} {z : Nat}

theorem run_copy_slices (w : World) {t u ty el : TypeId} {size bytes : Nat} {zero : Row} (ht : P.underlying t = some (.slice el)) (hinfo : InfoOk P el size bytes zero)
    (a ax : Addr) (n c nx cx k : Nat) (hk : Nat.min nx n = k) (cs : List Value) (hl : cs.length = k * size) (hcs : ∀ j v, cs[j]? = some v → w.cell? (ax.add j) = some v) :
    (Builtin.copy_ #[t, u] ty #[.slice (some a) n c, .slice (some ax) nx cx]).run P w = ((storeCells a cs).run P w).andThen fun _ w' => .ok (goInt k) w' := by
  have hf := run_firstCells_some (P := P) w size k ax nx cx cs hl hcs
  simp [Builtin.copy_, run_underlying ht w, hinfo.run_size, Builtin.lenOf, hk, hf]

theorem run_store_at (W : World) {B lo hi : Nat} {cells : Array Value} {elem : TypeId} (h1 : W.heap[B]? = some (.cells cells elem (lo, hi))) (hfr : lo = hi) (x : Nat) (vs : List Value) (hx : x + vs.length ≤ cells.size)
    (hv : ∀ v ∈ vs, v.oneCell' = true) : (storeCells (at_ B x) vs).run P W = .ok () (W.setCells B x vs) ∧ Wrote W (W.setCells B x vs) B (over cells x vs) elem (lo, hi) := by
  refine ⟨?_, setCells_wrote _ _ _ _ _ _ _ h1⟩
  have := run_storeCells_cells (P := P) B x vs 0 W (fun j hj => by
      have : W.cell? (at_ B (x + j)) = some (cells[x + j]'(by omega)) := by rw [cell_at, h1]; exact Array.getElem?_eq_getElem (by omega)
      simp only [Nat.add_zero]
      change (W.cell? (at_ B (x + j))).isSome = true
      rw [this]; rfl)
    (fun j hj => by
      simp only [Nat.add_zero]
      change W.frozen? (at_ B (x + j)) = false
      rw [frozen_at, h1]
      simp only [Bool.and_eq_false_iff, decide_eq_false_iff_not]
      omega) hv
  simpa [at_] using this

theorem Flat.drop {φ : Pos} {I : Imm} {w : World} {xs : List Row} {news : List Value} (f : Flat w φ I z xs news) (n : Nat) : Flat w φ I z (xs.drop n) (news.drop (n * z)) where
  len := by rw [List.length_drop, List.length_drop, f.len, Nat.sub_mul]
  rows i r hi := f.rows _ r (by rw [List.getElem?_drop] at hi; exact hi)
  cell i j r x hi hj := by
    rw [List.getElem?_drop] at hi
    obtain ⟨c, h1, h2⟩ := f.cell _ j r x hi hj
    refine ⟨c, ?_, h2⟩
    rw [List.getElem?_drop, ← h1]
    congr 1; rw [Nat.add_mul]; omega

theorem natI_some {v : AV} {n : Nat} (h : natI v = some n) : v = .int .i64 (n : Int) := by
  obtain ⟨k, m, h1, h2⟩ := op2_some h
  obtain ⟨h3, h4⟩ := ifb_none h2
  obtain ⟨k', rfl⟩ := natOf_some h4
  cases h1
  rw [kindBeq_eq h3]
theorem refB_some {v : AV} {b : Nat} (h : refB v = some b) : ∃ z off cap, v = .ref b z off 1 cap := by
  cases v with
  | ref b' z off n cap =>
    obtain ⟨h1, h2⟩ := ifb_none (show ifb (Nat.beq n 1) (some b') none = some b from h)
    cases h2; rw [beq_eq_of h1]; exact ⟨_, _, _, rfl⟩
  | _ => cases h

theorem insertOp_some {zb : Nat × Nat} {args : List AV} {f : K} {r : Fin2} (e : insertOp zb h args f = some r) : ∃ (v : AV) (i : Nat) (bx zx ox : Nat) (cx : Option Nat) (xs olds : List Row),
    args = [v, .int .i64 (i : Int), .ref bx zx ox 1 cx] ∧ elems (.ref bx zx ox 1 cx) h zb.1 = some xs ∧ elems v h zb.1 = some olds ∧ insertAll h v zb.1 zb.2 i bx xs olds f = some r := by
  obtain ⟨z, bytes⟩ := zb
  cases args with
  | nil => cases e
  | cons v t =>
    obtain ⟨iv, x, rfl, e1⟩ := two_some (show two t (fun i x => insert3 z bytes h v i x f) = some r from e)
    obtain ⟨i, hi, e2⟩ := ob_some e1
    obtain ⟨bx, hb, e3⟩ := ob_some e2
    obtain ⟨xs, hxs, e4⟩ := ob_some e3
    obtain ⟨olds, ho, e5⟩ := ob_some e4
    obtain rfl := natI_some hi
    obtain ⟨zx, ox, cx, rfl⟩ := refB_some hb
    exact ⟨v, i, bx, zx, ox, cx, xs, olds, rfl, hxs, ho, e5⟩

theorem ref_elems {b z' off n sz : Nat} {cap : Option Nat} {xs : List Row} (e : elems (.ref b z' off n cap) h sz = some xs) : z' = sz ∧ elemsRef h b off n = some xs := by
  obtain ⟨h1, h2⟩ := ifb_none (show ifb (Nat.beq z' sz) (elemsRef h b off n) none = some xs from e)
  exact ⟨beq_eq_of h1, h2⟩

theorem rel3 {w : World} {φ : Pos} {I : Imm} {a b c : AV} {cs : List Value} (hl : RelL w φ I [a, b, c] cs) : ∃ x y u, cs = [x, y, u] ∧ RelV w φ I a x ∧ RelV w φ I b y ∧ RelV w φ I c u := by
  obtain ⟨h1, h2⟩ := hl
  match cs, h1 with
  | [x, y, u], _ => exact ⟨x, y, u, rfl, h2 0 _ _ rfl rfl, h2 1 _ _ rfl rfl, h2 2 _ _ rfl rfl⟩

theorem ins_end {g t ti el bytes : Nat} {zero : Row} (hw : InsWalk P g t ti z) (ht : P.underlying t = some (.slice el)) (hinfo : InfoOk P el z bytes zero)
    {v : AV} {i bx zx ox : Nat} {cx : Option Nat} {xs olds : List Row} {f : K} {r : Fin2} (hx : elems (.ref bx zx ox 1 cx) h z = some xs) (ho : elems v h z = some olds) (hi : i = olds.length)
    (e : appendOp h z bytes v xs f = some r) : ∃ v' h', f v' h' = some r ∧ ∀ φ I w (cs : List Value), Sim φ I h w → RelL w φ I [v, .int .i64 (i : Int), .ref bx zx ox 1 cx] cs →
      Calls P g cs.toArray w fun e w' => ∃ c, e = .returned c ∧ Post h φ I w v' h' c w' := by
  obtain ⟨v', h', e1, hy⟩ := append_sound (P := P) e
  refine ⟨v', h', e1, fun φ I w cs s hl => ?_⟩
  obtain ⟨c0, c1, c2, rfl, r0, r1, r2⟩ := rel3 hl
  obtain rfl := r1.int_inv
  obtain ⟨news, hxa⟩ := elems_arg (P := P) s.hr r2 hx
  obtain ⟨hzx, hxe⟩ := ref_elems hx
  subst hzx
  obtain ⟨L, hL, hLz, hrv⟩ := r2.ref_inv
  obtain ⟨c', hc2⟩ : ∃ c' a', c2 = .slice a' 1 c' := by
    rcases hrv with ⟨c', hc, _⟩ | ⟨h0, _⟩
    · exact ⟨c', _, hc⟩
    · cases h0
  obtain ⟨a', rfl⟩ := hc2
  have hsl : ∃ base c, c0 = .slice base olds.length c ∧ olds.length ≤ c ∧ (base = none → olds.length = 0 ∧ c = 0) := by
    cases v with
    | nil =>
      obtain rfl := r0.nil_inv
      cases ho
      exact ⟨none, 0, rfl, Nat.le_refl _, fun _ => ⟨rfl, rfl⟩⟩
    | ref b' z' off n cap =>
      obtain ⟨_, ho'⟩ := ref_elems ho
      obtain ⟨o1, _⟩ := elemsRef_some ho'
      obtain ⟨L', hL', _, hrv'⟩ := r0.ref_inv
      rcases hrv' with ⟨c, hc, h1, _⟩ | ⟨h0, ⟨o, hc⟩, _⟩
      · exact ⟨_, c, by rw [hc, o1], by omega, fun hq => by cases hq⟩
      · exact ⟨_, 0, by rw [hc, o1, h0], by omega, fun hq => by cases hq⟩
    | _ =>
      cases hxn : xs with
      | nil =>
        have := (elemsRef_some hxe).1
        rw [hxn] at this; cases this
      | cons x0 xs0 => rw [hxn] at e; cases e
  obtain ⟨base, c, rfl, hc1, hc2⟩ := hsl
  obtain ⟨cv, w', q1, q2⟩ := hy φ I w _ s ⟨t, t, t, el, zero, _, _, _, news, ht, hinfo, ht, (fun k hk => by cases hk), r0, hxa, rfl⟩
  subst hi
  exact Calls.mono (hw.end_ base olds.length c 1 c' a' w w' cv (by omega) q1 hc1 hc2) fun en w'' ⟨h1, h2⟩ => ⟨cv, h1, by rw [h2]; exact q2⟩

theorem row_cells {φ : Pos} {I : Imm} {w : World} (s : Sim φ I h w) {b off n : Nat} {L : Loc} (hL : φ b = some L) {olds : List Row} (ho : elemsRef h b off n = some olds) (hn : 0 < n) :
    ∃ (k : Blk) (cells : Array Value) (elem : TypeId) (lo hi : Nat) (oc : List Value), h.get b = some k ∧ w.heap[L.blk]? = some (.cells cells elem (lo, hi)) ∧ FrOk L.z cells lo hi ∧ cells.size = L.base + L.cap * L.z ∧
      off + n ≤ k.els.length ∧ k.els.length ≤ L.cap ∧ Flat w φ I L.z olds oc ∧ ∀ j, j < n * L.z → oc[j]? = cells[L.base + off * L.z + j]? := by
  obtain ⟨o1, o2⟩ := elemsRef_some ho
  rcases o2 with h0 | ⟨k, hk, hsub⟩
  · omega
  have hb := s.hr.blk b k L hk hL
  obtain ⟨cells, elem, lo, hi, s1, s2, s3, s4⟩ := hb.there
  have hle : off + n ≤ k.els.length := by
    have := hsub (n - 1) _ (List.getElem?_eq_getElem (by omega))
    have := (List.getElem?_eq_some_iff.1 this).1
    omega
  have hroom := hb.room
  have hmul : (off + n) * L.z ≤ L.cap * L.z := Nat.mul_le_mul_right _ (by omega)
  rw [Nat.add_mul] at hmul
  have hlen : ((cells.toList.drop (L.base + off * L.z)).take (n * L.z)).length = n * L.z := by
    rw [List.length_take, List.length_drop, Array.length_toList]; omega
  have hget : ∀ j, j < n * L.z → ((cells.toList.drop (L.base + off * L.z)).take (n * L.z))[j]? = cells[L.base + off * L.z + j]? := fun j hj => by
    rw [List.getElem?_take, if_pos hj, List.getElem?_drop, Array.getElem?_toList]
  refine ⟨k, cells, elem, lo, hi, _, hk, s1, s2, s3, hle, hroom, ⟨by rw [hlen, o1], fun i r hi => hb.rows _ r (hsub i r hi), fun i j r x hi hj => ?_⟩, hget⟩
  have hr := hb.rows _ r (hsub i r hi)
  obtain ⟨c, c1, c2, c3⟩ := s4 (off + i) j r x (hsub i r hi) hj
  have hil := (List.getElem?_eq_some_iff.1 hi).1
  have hjl := (List.getElem?_eq_some_iff.1 hj).1
  refine ⟨c, ?_, c2, c3⟩
  rw [hget _ (idx_lt (by omega) (by omega)), ← c1, Nat.add_mul]
  congr 1; omega

theorem newsall_get {oc nc : List Value} {a z m k : Nat} (ho : oc.length = m) (hn : nc.length = z) (ha : a ≤ m) :
    (oc.take a ++ (nc ++ oc.drop a))[k]? = if k < a then oc[k]? else if k < a + z then nc[k - a]? else oc[k - z]? := by
  rw [List.getElem?_append]
  have h1 : (oc.take a).length = a := by rw [List.length_take]; omega
  rw [h1]
  by_cases c1 : k < a
  · rw [if_pos c1, if_pos c1, List.getElem?_take, if_pos c1]
  · rw [if_neg c1, if_neg c1, List.getElem?_append]
    by_cases c2 : k < a + z
    · rw [if_pos c2, if_pos (by omega)]
    · rw [if_neg c2, if_neg (by omega), List.getElem?_drop]; congr 1; omega

theorem ins_mid {g t ti el bytes : Nat} {zero : Row} (hw : InsWalk P g t ti z) (ht : P.underlying t = some (.slice el)) (hti : P.underlying ti = some (.int .i64)) (hinfo : InfoOk P el z bytes zero) (hz2 : 2 ≤ z)
    {v : AV} {i bx zx ox : Nat} {cx : Option Nat} {xs olds : List Row} {f : K} {r : Fin2} (hx : elems (.ref bx zx ox 1 cx) h z = some xs) (ho : elems v h z = some olds) (hi : i < olds.length)
    (hbig : (olds.take i ++ (xs ++ olds.drop i)).length * bytes ≤ 140737488355328) (e : insertIn v h z bx (olds.take i ++ (xs ++ olds.drop i)) f = some r) :
    ∃ v' h', f v' h' = some r ∧ ∀ φ I w (cs : List Value), Sim φ I h w → RelL w φ I [v, .int .i64 (i : Int), .ref bx zx ox 1 cx] cs →
      Calls P g cs.toArray w fun e w' => ∃ c, e = .returned c ∧ Post h φ I w v' h' c w' := by
  cases v with
  | ref b z0 off n cap =>
    cases cap with
    | some c => cases e
    | none =>
      obtain ⟨els, grow, fz, hb, e1⟩ := openBlk_some (show openBlk h b (fun els _ fz => ifb (band (bnot (Nat.beq bx b)) (band (Nat.beq fz 0) (Nat.beq (off + n) (len els))))
          (killBlk h b fun h => newBlk h ⟨olds.take i ++ (xs ++ olds.drop i), true, 0⟩ fun b h => f (.ref b z 0 (len (olds.take i ++ (xs ++ olds.drop i))) none) h) none) = some r from e)
      obtain ⟨h1, e2⟩ := ifb_none e1
      obtain ⟨hne, h2⟩ := band_true h1
      obtain ⟨hfz, hend⟩ := band_true h2
      have hfz := beq_eq_of hfz
      subst hfz
      rw [len_eq] at hend
      have hend := beq_eq_of hend
      have hne : bx ≠ b := fun he => by subst he; simp [bnot] at hne
      rw [killBlk_eq, newBlk_eq] at e2
      obtain ⟨hz0, hoe⟩ := ref_elems ho
      obtain ⟨hzx, hxe⟩ := ref_elems hx
      obtain ⟨o1, _⟩ := elemsRef_some hoe
      obtain ⟨x1, _⟩ := elemsRef_some hxe
      refine ⟨_, _, e2, fun φ I w cs s hl => ?_⟩
      obtain ⟨c0, c1, c2, rfl, r0, r1, r2⟩ := rel3 hl
      obtain rfl := r1.int_inv
      obtain ⟨L, hL, hLz, hrv⟩ := r0.ref_inv
      obtain ⟨Lx, hLx, hLxz, hrvx⟩ := r2.ref_inv
      obtain ⟨c, rfl, hnc, hcap⟩ : ∃ c, c0 = .slice (some (at_ L.blk (L.base + off * L.z))) n c ∧ n ≤ c ∧ off + c = L.cap := by
        rcases hrv with ⟨c, hc, g1, g2⟩ | ⟨h0, _⟩
        · exact ⟨c, hc, g1, g2⟩
        · omega
      obtain ⟨vc, rfl⟩ : ∃ vc, c2 = .slice (some (at_ Lx.blk (Lx.base + ox * Lx.z))) 1 vc := by
        rcases hrvx with ⟨c, hc, _⟩ | ⟨h0, _⟩
        · exact ⟨c, hc⟩
        · cases h0
      obtain ⟨k, cells, elem, lo, hi', oc, hk, s1, s2, s3, s4, s5, flo, hoc⟩ := row_cells s hL hoe (by omega)
      obtain ⟨kx, cellsx, elemx, lox, hix, nc, hkx, x2, x3, x4, x5, x6, flx, hncc⟩ := row_cells s hLx hxe (by omega)
      rw [hb] at hk; cases hk
      have hzL : L.z = z := by omega
      have hzX : Lx.z = z := by omega
      rw [hzL] at s2 s3 flo hoc
      rw [hzX] at x3 x4 flx hncc
      rw [hzL, hzX]
      have hlo : lo = hi' := by
        rcases s2 with h | ⟨h, _⟩
        · exact h
        · omega
      have hlox : lox = hix := by
        rcases x3 with h | ⟨h, _⟩
        · exact h
        · omega
      have hBne : Lx.blk ≠ L.blk := s.hr.inj bx b kx _ Lx L hkx hb hLx hL hne
      have hLlt := s.hr.lt b L hL
      have hLxlt := s.hr.lt bx Lx hLx
      have hocl : oc.length = n * z := by rw [flo.len, o1]
      have hncl : nc.length = z := by rw [flx.len, x1]; omega
      have hdl : (oc.drop (i * z)).length = (n - i) * z := by rw [List.length_drop, hocl, Nat.sub_mul]
      have all_len : (olds.take i ++ (xs ++ olds.drop i)).length = n + 1 := by simp; omega
      have flall := (flo.take i).append (flx.append (flo.drop i))
      have m1 : (i + 1) * z = i * z + z := by rw [Nat.add_mul]; omega
      have m2 : (n + 1) * z = n * z + z := by rw [Nat.add_mul]; omega
      have m3 : i * z + z ≤ n * z := by rw [← m1]; exact Nat.mul_le_mul_right _ (by omega)
      have m4 : (n - i) * z = n * z - i * z := Nat.sub_mul _ _ _
      rw [all_len] at hbig
      rw [len_eq, all_len]
      have hn63 : n + 1 ≤ 140737488355328 := Nat.le_trans (by have := Nat.mul_le_mul_left (n + 1) hinfo.bytes; omega) hbig
      have hoccell : ∀ (W : World), W.heap[L.blk]? = w.heap[L.blk]? → ∀ j v, (oc.drop (i * z))[j]? = some v → W.cell? ((at_ L.blk (L.base + off * z + i * z)).add j) = some v := fun W hW j v hj => by
        rw [List.getElem?_drop] at hj
        have hlt := (List.getElem?_eq_some_iff.1 hj).1
        rw [add_at, cell_at, hW, s1, ← hj, hoc _ (by omega)]
        dsimp only; congr 1; omega
      have hnccell : ∀ (W : World), W.heap[Lx.blk]? = w.heap[Lx.blk]? → ∀ j v, nc[j]? = some v → W.cell? ((at_ Lx.blk (Lx.base + ox * z)).add j) = some v := fun W hW j v hj => by
        have hlt := (List.getElem?_eq_some_iff.1 hj).1
        rw [add_at, cell_at, hW, x2, ← hj, hncc _ (by omega)]
      by_cases hroom : n + 1 ≤ c
      · -- there is room: in its place
        have m5 : (off + c) * z = off * z + c * z := Nat.add_mul _ _ _
        have m6 : (n + 1) * z ≤ c * z := Nat.mul_le_mul_right _ hroom
        rw [← hcap, m5] at s3
        obtain ⟨q1, wr1⟩ := run_store_at (P := P) w.drew (B := L.blk) (show w.drew.heap[L.blk]? = _ from s1) hlo (L.base + off * z + (i + 1) * z) (oc.drop (i * z)) (by omega) (flo.drop i).one
        have hcp1 : ∀ dc sc, (Builtin.copy_ #[t, t] ti #[.slice (some (at_ L.blk (L.base + off * z + (i + 1) * z))) (n + 1 - (i + 1)) dc, .slice (some (at_ L.blk (L.base + off * z + i * z))) (n + 1 - i) sc]).run P w.drew = .ok (goInt ((n - i : Nat) : Int)) (w.drew.setCells L.blk (L.base + off * z + (i + 1) * z) (oc.drop (i * z))) := fun dc sc => by
          rw [run_copy_slices w.drew ht hinfo _ _ _ _ _ _ (n - i) (by simp only [Nat.min_def]; split <;> omega) _ hdl (hoccell w.drew rfl), q1]; rfl
        obtain ⟨q2, wr2⟩ := run_store_at (P := P) _ wr1.get hlo (L.base + off * z + i * z) nc (by rw [over_size]; omega) flx.one
        have hcp2 : ∀ dc, (Builtin.copy_ #[t, t] ti #[.slice (some (at_ L.blk (L.base + off * z + i * z))) (n + 1 - i) dc, .slice (some (at_ Lx.blk (Lx.base + ox * z))) 1 vc]).run P (w.drew.setCells L.blk (L.base + off * z + (i + 1) * z) (oc.drop (i * z))) = .ok (goInt 1) ((w.drew.setCells L.blk (L.base + off * z + (i + 1) * z) (oc.drop (i * z))).setCells L.blk (L.base + off * z + i * z) nc) := fun dc => by
          rw [run_copy_slices _ ht hinfo _ _ _ _ _ _ 1 (by simp only [Nat.min_def]; split <;> omega) nc (by omega) (hnccell _ (wr1.old _ hBne)), q2]; rfl
        have wr : Wrote w ((w.drew.setCells L.blk (L.base + off * z + (i + 1) * z) (oc.drop (i * z))).setCells L.blk (L.base + off * z + i * z) nc) L.blk (over (over cells (L.base + off * z + (i + 1) * z) (oc.drop (i * z))) (L.base + off * z + i * z) nc) elem (lo, hi') :=
          ⟨wr2.get, fun C hC => (wr2.old C hC).trans (wr1.old C hC), wr2.size.trans wr1.size, wr2.os.trans wr1.os, wr2.tape.trans wr1.tape, wr2.output.trans wr1.output⟩
        have key : ∀ j, j < (n + 1) * z → (over (over cells (L.base + off * z + (i + 1) * z) (oc.drop (i * z))) (L.base + off * z + i * z) nc)[L.base + off * z + j]? = (oc.take (i * z) ++ (nc ++ oc.drop (i * z)))[j]? := fun j hj => by
          rw [newsall_get hocl hncl (by omega), over_get, over_get, over_size]
          by_cases k1 : j < i * z
          · rw [if_neg (by omega), if_neg (by omega), if_pos k1, hoc _ (by omega)]
          · by_cases k2 : j < i * z + z
            · rw [if_pos (by omega), if_neg k1, if_pos k2]; congr 1; omega
            · rw [if_neg (by omega), if_pos (by omega), if_neg k1, if_neg k2, List.getElem?_drop]; congr 1; omega
        have hz := hzL
        subst hz
        obtain ⟨s', ex⟩ := s.grow hb hL s1 (.inl hlo) (by rw [over_size, over_size]) wr off (by omega) ⟨olds.take i ++ (xs ++ olds.drop i), true, 0⟩ (by dsimp only; omega) flall.rows (by dsimp only; omega)
          (fun x hx' => by
            dsimp only at hx'
            rw [over_get, if_neg (by omega), over_get, if_neg (by omega)])
          (fun i' j r v hi hj => by
            obtain ⟨cc, d1, d2⟩ := flall.cell i' j r v hi hj
            refine ⟨cc, ?_, d2⟩
            have hil := (List.getElem?_eq_some_iff.1 hi).1
            have hjl := (List.getElem?_eq_some_iff.1 hj).1
            rw [flall.rows i' r hi] at hjl
            dsimp only at hil
            rw [← d1, ← key _ (idx_lt (by omega) hjl), Nat.add_mul off i']
            congr 1; omega)
        refine Calls.mono (hw.shift L.blk (L.base + off * L.z) n c i 1 vc Lx.blk (Lx.base + ox * L.z) cellsx.size cells.size elemx elem w _ _ _ _ (by omega) (by omega) hroom (by omega) hBne
          (by unfold World.shape?; rw [x2]) (by unfold World.shape?; rw [s1]) (by omega)
          (by have := frozen_at w Lx.blk (Lx.base + ox * L.z); rw [x2, hlox] at this; rw [show (⟨Lx.blk, Lx.base + ox * L.z, none⟩ : Addr) = at_ Lx.blk (Lx.base + ox * L.z) from rfl, this]; simp only [Bool.and_eq_false_iff, decide_eq_false_iff_not]; omega)
          (by have := frozen_at w Lx.blk cellsx.size; rw [x2, hlox] at this; rw [show (⟨Lx.blk, cellsx.size, none⟩ : Addr) = at_ Lx.blk cellsx.size from rfl, this]; simp only [Bool.and_eq_false_iff, decide_eq_false_iff_not]; omega)
          hcp1 hcp2) fun en w'' ⟨h1, h2⟩ => ?_
        refine ⟨_, h1, ?_⟩
        rw [h2]
        exact ⟨_, I, ex, s', .ref _ _ _ _ _ _ _ (sete_same _ _ _) rfl (.inl ⟨c, by simp [at_], hroom, by simp only [CapIs]; omega⟩)⟩
      · -- a new row
        have hcn : c = n := by omega
        subst hcn
        obtain ⟨i0, zv, hi0, hzs, hzb, hz0', hzr⟩ := hinfo.info
        obtain ⟨G, hG⟩ : ∃ G, G = grownCap w (c + 1) c el := ⟨_, rfl⟩
        have hGn : c + 1 ≤ G := by rw [hG]; exact grownCap_ge w _ _ _
        have hG63 : G ≤ 9223372036854775807 := by
          have := grownCap_le_maxLen w (c + 1) c el (by unfold maxLen; omega)
          rw [← hG] at this
          unfold maxLen at this
          omega
        have hik : i + (c + 1 - i) = c + 1 := by omega
        have hold : (Builtin.firstCells i0.size i (.slice (some (at_ L.blk (L.base + off * z))) i c)).run P w.drew = .ok (oc.take (i * z)).toArray w.drew := by
          rw [hzs]
          refine run_firstCells_some w.drew z i _ i c (oc.take (i * z)) (by rw [List.length_take]; omega) (fun j v hj => ?_)
          rw [List.getElem?_take] at hj
          split at hj
          · rw [add_at, cell_at, show w.drew.heap[L.blk]? = _ from s1, ← hj, hoc _ (by omega)]
          · cases hj
        have hrz := Lib.run_append_grow_zeros w t ti t el i0 zv .i64 .i64 ht hti hi0 hz0' (some (at_ L.blk (L.base + off * z))) i c (oc.take (i * z)) hold (c + 1 - i) (by omega) (by omega) (by omega) (by omega)
          (by rw [hzb]; have : (c + 1 - i) * bytes ≤ (c + 1) * bytes := Nat.mul_le_mul_right _ (by omega)
              omega) (by rw [hzb, hik]; exact growslice_fits (by omega) hbig)
        rw [hik, ← hG] at hrz
        have hcast : ((c + 1 - i : Nat) : Int) = (c : Int) + ((1 : Nat) : Int) - (i : Int) := by omega
        rw [hcast] at hrz
        obtain ⟨row, hrow⟩ : ∃ row : Array Value, row = (oc.take (i * z)).toArray ++ Builtin.zeroCells zv.cells (c + 1 - i) ++ Builtin.zeroCells zv.cells (G - (c + 1)) := ⟨_, rfl⟩
        rw [← hrow] at hrz
        have hzvs : zv.cells.size = z := by rw [hzr.1, hinfo.len]
        have hrs : row.size = G * z := by
          rw [hrow, Array.size_append, Array.size_append, size_zeroCells, size_zeroCells, hzvs]
          simp only [List.size_toArray, List.length_take, hocl]
          rw [Nat.min_eq_left (by omega), ← Nat.add_mul, ← Nat.add_mul]; congr 1; omega
        have pw := pushed_alloc w.drew (.cells row el)
        have m6 : (c + 1) * z ≤ G * z := Nat.mul_le_mul_right _ hGn
        obtain ⟨q1, wr1⟩ := run_store_at (P := P) (w.drew.alloc (.cells row el)) (B := w.heap.size) pw.get rfl (i * z) nc (by omega) flx.one
        have hcpA : ∀ dc, (Builtin.copy_ #[t, t] ti #[.slice (some (at_ w.heap.size (i * z))) (c + 1 - i) dc, .slice (some (at_ Lx.blk (Lx.base + ox * z))) 1 vc]).run P (w.drew.alloc (.cells row el)) = .ok (goInt 1) ((w.drew.alloc (.cells row el)).setCells w.heap.size (i * z) nc) := fun dc => by
          rw [run_copy_slices _ ht hinfo _ _ _ _ _ _ 1 (by simp only [Nat.min_def]; split <;> omega) nc (by omega) (hnccell _ (pw.old (B := Lx.blk) hLxlt)), q1]; rfl
        obtain ⟨q2, wr2⟩ := run_store_at (P := P) ((w.drew.alloc (.cells row el)).setCells w.heap.size (i * z) nc).drew (B := w.heap.size) wr1.get rfl ((i + 1) * z) (oc.drop (i * z)) (by rw [over_size]; omega) (flo.drop i).one
        have hcpB : ∀ dc sc, (Builtin.copy_ #[t, t] ti #[.slice (some (at_ w.heap.size ((i + 1) * z))) (c + 1 - (i + 1)) dc, .slice (some (at_ L.blk (L.base + off * z + i * z))) (c - i) sc]).run P ((w.drew.alloc (.cells row el)).setCells w.heap.size (i * z) nc).drew = .ok (goInt ((c - i : Nat) : Int)) (((w.drew.alloc (.cells row el)).setCells w.heap.size (i * z) nc).drew.setCells w.heap.size ((i + 1) * z) (oc.drop (i * z))) := fun dc sc => by
          rw [run_copy_slices _ ht hinfo _ _ _ _ _ _ (c - i) (by simp only [Nat.min_def]; split <;> omega) _ hdl (hoccell ((w.drew.alloc (.cells row el)).setCells w.heap.size (i * z) nc).drew ((wr1.old L.blk (by omega)).trans (pw.old (B := L.blk) hLlt))), q2]; rfl
        have pws : (w.drew.alloc (.cells row el)).heap.size = w.heap.size + 1 := pw.size
        have pushed : Pushed w (((w.drew.alloc (.cells row el)).setCells w.heap.size (i * z) nc).drew.setCells w.heap.size ((i + 1) * z) (oc.drop (i * z))) (.cells (over (over row (i * z) nc) ((i + 1) * z) (oc.drop (i * z))) el (0, 0)) := by
          refine ⟨?_, wr2.os.trans wr1.os, wr2.tape.trans wr1.tape, wr2.output.trans wr1.output⟩
          apply Array.ext_getElem?
          intro B
          rw [Array.getElem?_push]
          by_cases hB : B = w.heap.size
          · subst hB; rw [if_pos rfl]; exact wr2.get
          · rw [if_neg hB]
            refine (wr2.old B hB).trans ((wr1.old B hB).trans ?_)
            by_cases hlt : B < w.heap.size
            · exact pw.old (B := B) hlt
            · rw [Array.getElem?_eq_none (by omega), Array.getElem?_eq_none (by omega)]
        have key : ∀ j, j < (c + 1) * z → (over (over row (i * z) nc) ((i + 1) * z) (oc.drop (i * z)))[j]? = (oc.take (i * z) ++ (nc ++ oc.drop (i * z)))[j]? := fun j hj => by
          rw [newsall_get hocl hncl (by omega), over_get, over_get, over_size]
          by_cases k1 : j < i * z
          · rw [if_neg (by omega), if_neg (by omega), if_pos k1, hrow, Array.append_assoc, Array.getElem?_append_left (by simp; omega)]
            simp only [List.getElem?_toArray, List.getElem?_take, if_pos k1]
          · by_cases k2 : j < i * z + z
            · rw [if_neg (by omega), if_pos (by omega), if_neg k1, if_pos k2]
            · rw [if_pos (by omega), if_neg k1, if_neg k2, List.getElem?_drop]; congr 1; omega
        obtain ⟨s', ex⟩ := (s.kill b).alloc pushed ⟨olds.take i ++ (xs ++ olds.drop i), true, 0⟩ z G (.inl rfl) (by rw [over_size, over_size, hrs]) (by dsimp only; omega) flall.rows
          (fun i' j r v hi hj => by
            obtain ⟨cc, d1, d2⟩ := flall.cell i' j r v hi hj
            refine ⟨cc, ?_, d2⟩
            have hil := (List.getElem?_eq_some_iff.1 hi).1
            have hjl := (List.getElem?_eq_some_iff.1 hj).1
            rw [flall.rows i' r hi] at hjl
            dsimp only at hil
            rw [← d1, ← key _ (idx_lt (by omega) hjl)])
        refine Calls.mono (hw.grow L.blk (L.base + off * z) c c i 1 vc w.heap.size G (some (at_ Lx.blk (Lx.base + ox * z))) w _ _ _ _ _ (by omega) (by omega) (by omega) (by omega) (by omega) hGn hG63 hrz hcpA hcpB) fun en w'' ⟨h1, h2⟩ => ?_
        refine ⟨_, h1, ?_⟩
        rw [h2]
        refine ⟨_, I, ex.more (fun b' hb' => ?_), s', .ref _ _ _ _ _ _ _ (sete_same _ _ _) rfl (.inl ⟨G, by simp [at_], hGn, by simp [CapIs]⟩)⟩
        unfold Kn at *
        rcases hb' with ⟨k1, hc⟩ | hc
        · rw [get_hkill] at hc; unfold sete at hc; split at hc
          · cases hc
          · exact .inl ⟨_, hc⟩
        · exact .inr hc
  | _ => cases e

theorem ins_sound {g t ti el bytes : Nat} {zero : Row} (hw : InsWalk P g t ti z) (ht : P.underlying t = some (.slice el)) (hti : P.underlying ti = some (.int .i64)) (hinfo : InfoOk P el z bytes zero) (hz2 : 2 ≤ z) :
    ∀ (args : List AV) (h : Heap) (f : K) (r : Fin2), insertOp (z, bytes) h args f = some r →
    (∃ fn, P.funcs[g]? = some fn ∧ fn.name ≠ "runtime.NumGoroutine" ∧ fn.body.isSome = true) ∧
    ∃ v h', f v h' = some r ∧ ∀ φ I w (cs : List Value), Sim φ I h w → RelL w φ I args cs → Calls P g cs.toArray w fun e w' => ∃ c, e = .returned c ∧ Post h φ I w v h' c w' := by
  intro args h f r e
  refine ⟨hw.fn, ?_⟩
  obtain ⟨v, i, bx, zx, ox, cx, xs, olds, rfl, hx, ho, e1⟩ := insertOp_some e
  dsimp only at hx ho e1
  unfold insertAll at e1
  rw [len_eq] at e1
  rcases ifb_some e1 with ⟨h1, e2⟩ | ⟨h1, e2⟩
  · exact ins_end hw ht hinfo hx ho (beq_eq_of h1) e2
  · obtain ⟨h2, e3⟩ := ifb_none e2
    rw [takeK_eq, dropL_eq, appK_eq, appK_eq, len_eq] at e3
    obtain ⟨h3, e4⟩ := ifb_none e3
    exact ins_mid hw ht hti hinfo hz2 hx ho (by simpa using h2) (Nat.le_of_ble_eq_true h3) e4
end
end Go.Den
