/- A part of a machine that computes what the program computes, and of the proof that it does -/
import Derived.Test.YtngjccjmhlhlbaaGreatDenO
set_option linter.unusedVariables false
set_option linter.unusedSimpArgs false
set_option linter.unusedSectionVars false
namespace Go.Den
open Go

variable [Val]

section
variable {P : Program} {h : Heap} {f : K} {r : Fin2} {z : Nat}

theorem grown_cells {all : List Value} {zs : Array Value} {n m need cap : Nat} (h1 : all.length = need * n) (h2 : zs.size = n) (h3 : need ≤ cap) : (all.toArray ++ Builtin.zeroCells zs (cap - need)).size = cap * n := by
  rw [Array.size_append, size_zeroCells, h2]
  simp only [List.size_toArray, h1]
  rw [← Nat.add_mul]; congr 1; omega

/-- a new row: elements, then zeros -/
theorem Sim.fresh_row {φ : Pos} {I : Imm} {w : World} (s : Sim φ I h w) {sz bytes : Nat} {zero : Row} {el : TypeId} (hinfo : InfoOk P el sz bytes zero) {zv : Value} (hz : ZeroRel zv zero) {xs : List Row} {all : List Value} (fl : Flat w φ I sz xs all) (cap fz : Nat) (hc : xs.length ≤ cap) :
    Sim (sete φ h.next (some ⟨w.heap.size, 0, sz, cap⟩)) I (hpush h ⟨xs, true, fz⟩) (w.drew.alloc (.cells (all.toArray ++ Builtin.zeroCells zv.cells (cap - xs.length)) el)) ∧
    HExt h φ I w (hpush h ⟨xs, true, fz⟩) (sete φ h.next (some ⟨w.heap.size, 0, sz, cap⟩)) I (w.drew.alloc (.cells (all.toArray ++ Builtin.zeroCells zv.cells (cap - xs.length)) el)) := by
  have hzs : zv.cells.size = sz := by rw [hz.1, hinfo.len]
  refine s.alloc (drew_pushed (pushed_alloc w.drew _)) ⟨xs, true, fz⟩ sz cap (.inl rfl) (by rw [Array.size_append, size_zeroCells, hzs]; simp only [List.size_toArray, fl.len]; rw [← Nat.add_mul]; congr 1; omega) hc fl.rows (fun i j r v hi hj => ?_)
  obtain ⟨c, h1, h2⟩ := fl.cell i j r v hi hj
  refine ⟨c, ?_, h2⟩
  rw [Array.getElem?_append_left (by simpa using (List.getElem?_eq_some_iff.1 h1).1)]
  simpa using h1

theorem run_append_in (w : World) {t u ty el : TypeId} {size bytes : Nat} {zero : Row} {d : TypeDesc} (ht : P.underlying t = some (.slice el)) (hinfo : InfoOk P el size bytes zero) (hu : P.underlying u = some d) (hd : ∀ k, d ≠ .int k) {φ : Pos} {I : Imm}
    {base : Option Addr} {n c : Nat} {xs : List Row} {news : List Value} {x : Value} (hx : XArg P w φ I size xs x news) (hroom : n + xs.length ≤ c) :
    (Builtin.append_ #[t, u] ty #[.slice base n c, x]).run P w =
      match base with
      | some a => ((storeCells (a.add (n * size)) news).run P w).andThen fun _ w' => .ok (.slice base (n + xs.length) c) w'
      | none => .ok (.slice base (n + xs.length) c) w := by
  have hf := hx.cells xs.length (Nat.le_refl _) w rfl
  have hn : news.take (xs.length * size) = news := by rw [← hx.flat.len]; exact List.take_length
  rw [hn] at hf
  have hnz : (do let __do_lift ← underlying u; pure (__do_lift matches .int _) : Sem Bool).run P w = .ok false w := by
    rw [Sem.run_bind, run_underlying hu w]
    cases d <;> first | rfl | exact absurd rfl (hd _)
  cases base with
  | none => 
    simp only [Builtin.append_, List.getElem?_toArray, List.getElem?_cons_zero, List.getElem?_cons_succ, Sem.run_bind, run_underlying ht w, Result.andThen_ok, hinfo.run_size, run_underlying hu w, hx.len, Sem.run_pure, Sem.run_ite]
    cases d <;> first
      | exact absurd rfl (hd _)
      | simp [hx.len, hroom, hf]
  | some a =>
    simp only [Builtin.append_, List.getElem?_toArray, List.getElem?_cons_zero, List.getElem?_cons_succ, Sem.run_bind, run_underlying ht w, Result.andThen_ok, hinfo.run_size, run_underlying hu w, hx.len, Sem.run_pure, Sem.run_ite]
    cases d <;> first
      | exact absurd rfl (hd _)
      | simp [hx.len, hroom, hf]

theorem run_append_new (w : World) {t u ty el : TypeId} {size bytes : Nat} {zero : Row} {d : TypeDesc} (ht : P.underlying t = some (.slice el)) (hinfo : InfoOk P el size bytes zero) (hu : P.underlying u = some d) (hd : ∀ k, d ≠ .int k) {φ : Pos} {I : Imm}
    {base : Option Addr} {c : Nat} {ys xs : List Row} {olds news : List Value} {x : Value} (hs : XArg P w φ I size ys (.slice base ys.length c) olds) (hx : XArg P w φ I size xs x news) (hroom : c < ys.length + xs.length) (hb : (ys.length + xs.length) * bytes ≤ 140737488355328) :
    ∃ zv, ZeroRel zv zero ∧ (Builtin.append_ #[t, u] ty #[.slice base ys.length c, x]).run P w =
      .ok (.slice (some ⟨w.heap.size, 0, none⟩) (ys.length + xs.length) (grownCap w (ys.length + xs.length) c el))
        (w.drew.alloc (.cells ((olds ++ news).toArray ++ Builtin.zeroCells zv.cells (grownCap w (ys.length + xs.length) c el - (ys ++ xs).length)) el)) := by
  obtain ⟨ti, zv, i1, i2, i3, i4, i5⟩ := hinfo.info
  refine ⟨zv, i5, ?_⟩
  have hf := hx.cells xs.length (Nat.le_refl _) w.drew rfl
  have hn : news.take (xs.length * size) = news := by rw [← hx.flat.len]; exact List.take_length
  rw [hn] at hf
  have hfo := hs.cells ys.length (Nat.le_refl _) w.drew rfl
  have hno : olds.take (ys.length * size) = olds := by rw [← hs.flat.len]; exact List.take_length
  rw [hno] at hfo
  have hfit : Builtin.nextslicecap (ys.length + xs.length) c * bytes ≤ 281474976710656 := growslice_fits hroom hb
  have hsmall : ys.length + xs.length ≤ 140737488355328 := Nat.le_trans (Nat.le_mul_of_pos_right _ hinfo.bytes) hb
  have h63 : ¬ (9223372036854775807 < ((ys.length : Int) + (xs.length : Int))) := by omega
  have h48 : ¬ (281474976710656 < Builtin.nextslicecap (ys.length + xs.length) c * bytes) := by omega
  have hn2 : ¬ (ys.length + xs.length ≤ c) := by omega
  have hb0 : bytes ≠ 0 := by have := hinfo.bytes; omega
  subst i2 i3
  have hassoc : (olds.toArray ++ news.toArray) = (olds ++ news).toArray := by simp
  simp only [Builtin.append_, List.getElem?_toArray, List.getElem?_cons_zero, List.getElem?_cons_succ, Sem.run_bind, run_underlying ht w, Result.andThen_ok, hinfo.run_size, run_underlying hu w, hx.len, Sem.run_pure, Sem.run_ite]
  cases d <;> first
    | exact absurd rfl (hd _)
    | (simp [hx.len, hn2, h63, h48, hf, hfo, typeInfo, i1, zeroValue, i4, Question.forced, newRow, grownCap]
       first
         | done
         | (congr 2; apply Array.ext'; simp [List.append_assoc]))

/-- what a machine's step on values comes to -/
def Yields (P : Program) (h : Heap) (v : AV) (h' : Heap) (pre : Pos → Imm → World → Sem Value → Prop) : Prop :=
  ∀ φ I w m, Sim φ I h w → pre φ I w m → ∃ c w', m.run P w = .ok c w' ∧ Post h φ I w v h' c w'

theorem isSl_run {φ : Pos} {I : Imm} {w : World} {v : AV} {c : Value} (hv : RelV w φ I v c) (e : isSl v = true) : ∃ a n cap, c = .slice a n cap ∧ n ≤ cap := by
  cases v with
  | nil => exact ⟨none, 0, 0, hv.nil_inv, Nat.le_refl _⟩
  | sl nn z xs =>
    have hs := hv.sl_inv
    cases hs with
    | sl0 _ _ a cap hnn h0 => exact ⟨_, _, _, rfl, Nat.zero_le _⟩
    | sl _ _ _ B off cap cell hn hcap => exact ⟨_, _, _, rfl, hcap⟩
  | ref b z off n cap =>
    obtain ⟨L, hL, _, hrv⟩ := hv.ref_inv
    rcases hrv with ⟨c, rfl, h1, _⟩ | ⟨h0, ⟨o, rfl⟩, _⟩
    · exact ⟨_, _, _, rfl, h1⟩
    · exact ⟨_, _, _, rfl, Nat.le_refl _⟩
  | _ => cases e

/-- 'append' of elements to a slice -/
def AppendPre (P : Program) (sz bytes : Nat) (sv : AV) (xs : List Row) (φ : Pos) (I : Imm) (w : World) (m : Sem Value) : Prop :=
  ∃ t u ty el zero d c x news, P.underlying t = some (.slice el) ∧ InfoOk P el sz bytes zero ∧ P.underlying u = some d ∧ (∀ k, d ≠ .int k) ∧ RelV w φ I sv c ∧ XArg P w φ I sz xs x news ∧ m = Builtin.append_ #[t, u] ty #[c, x]

theorem freshRow_some {sz bytes : Nat} {olds xs : List Row} {fz : Nat} (e : freshRow h sz bytes olds xs fz f = some r) :
    (olds.length + xs.length) * bytes ≤ 140737488355328 ∧ f (.ref h.next sz 0 (olds.length + xs.length) none) (hpush h ⟨olds ++ xs, true, fz⟩) = some r := by
  unfold freshRow at e
  rw [appK_eq, forceNat_eq] at e
  obtain ⟨h1, e1⟩ := ifb_none e
  rw [newBlk_eq] at e1
  rw [len_eq, List.length_append] at h1 e1
  exact ⟨Nat.le_of_ble_eq_true h1, e1⟩

theorem ElemsAt.nil_slice {w : World} {φ : Pos} {I : Imm} {a : Option Addr} {c : Nat} : ElemsAt w φ I z [] (.slice a 0 c) := ⟨a, c, rfl, fun i r hi => by simp at hi, .inl rfl⟩

theorem append_fresh {φ : Pos} {I : Imm} {w : World} (s : Sim φ I h w) {t u ty el : TypeId} {sz bytes : Nat} {zero : Row} {d : TypeDesc} (ht : P.underlying t = some (.slice el)) (hinfo : InfoOk P el sz bytes zero) (hu : P.underlying u = some d) (hd : ∀ k, d ≠ .int k)
    {base : Option Addr} {c : Nat} {ys xs : List Row} {olds news : List Value} {x : Value} (hs : XArg P w φ I sz ys (.slice base ys.length c) olds) (hx : XArg P w φ I sz xs x news) (hroom : c < ys.length + xs.length) (hb : (ys.length + xs.length) * bytes ≤ 140737488355328) (fz : Nat) :
    ∃ c' w', (Builtin.append_ #[t, u] ty #[.slice base ys.length c, x]).run P w = .ok c' w' ∧ Post h φ I w (.ref h.next sz 0 (ys.length + xs.length) none) (hpush h ⟨ys ++ xs, true, fz⟩) c' w' := by
  obtain ⟨zv, hz, hrun⟩ := run_append_new (P := P) (ty := ty) w ht hinfo hu hd hs hx hroom hb
  have hge := grownCap_ge w (ys.length + xs.length) c el
  have hlen : (ys ++ xs).length = ys.length + xs.length := by simp
  obtain ⟨s', ex⟩ := s.fresh_row hinfo hz (hs.flat.append hx.flat) (grownCap w (ys.length + xs.length) c el) fz (by omega)
  refine ⟨_, _, hrun, _, I, ex, s', .ref _ _ _ _ _ _ _ (sete_same _ _ _) rfl (.inl ⟨_, ?_, by omega, by simp [CapIs]⟩)⟩
  simp [at_]

theorem append_sound {sz bytes : Nat} {sv : AV} {xs : List Row} (e : appendOp h sz bytes sv xs f = some r) : ∃ v h', f v h' = some r ∧ Yields P h v h' (AppendPre P sz bytes sv xs) := by
  cases xs with
  | nil =>
    obtain ⟨h1, e1⟩ := ifb_none (show ifb (isSl sv) (f sv h) none = some r from e)
    refine ⟨sv, h, e1, fun φ I w m s ⟨t, u, ty, el, zero, d, c, x, news, ht, hinfo, hu, hd, hc, hx, hm⟩ => ?_⟩
    obtain ⟨a, n, cap, rfl, hn⟩ := isSl_run hc h1
    have hrun := run_append_in (P := P) (ty := ty) (base := a) (n := n) (c := cap) w ht hinfo hu hd hx (by simpa using hn)
    have hnews : news = [] := List.eq_nil_of_length_eq_zero (by rw [hx.flat.len]; simp)
    refine ⟨.slice a n cap, w, ?_, Post.same s hc⟩
    rw [hm, hrun, hnews]
    cases a <;> rfl
  | cons x0 xs0 =>
    change appendTo sv h sz bytes (x0 :: xs0) f = some r at e
    generalize hxs : x0 :: xs0 = xs at e
    have hpos : 1 ≤ xs.length := by rw [← hxs]; simp
    cases sv with
    | nil =>
      obtain ⟨h1, e1⟩ := freshRow_some (show freshRow h sz bytes [] xs 0 f = some r from e)
      refine ⟨_, _, e1, fun φ I w m s ⟨t, u, ty, el, zero, d, c, x, news, ht, hinfo, hu, hd, hc, hx, hm⟩ => ?_⟩
      obtain rfl := hc.nil_inv
      obtain ⟨olds, ho⟩ := (ElemsAt.nil_slice (w := w) (φ := φ) (I := I) (z := sz) (a := none) (c := 0)).arg (P := P)
      rw [hm]
      exact append_fresh s ht hinfo hu hd (ys := []) ho hx (by simp; omega) h1 0
    | ref b z off n cap =>
      obtain ⟨h0, e1⟩ := ifb_none (show ifb (Nat.beq z sz) (appendRef h bytes b z off n cap xs f) none = some r from e)
      have := beq_eq_of h0
      subst this
      have inPlace : ∀ {cap : Option Nat}, (∀ φ I w L c, Sim φ I h w → φ b = some L → CapIs L off cap c → n + xs.length ≤ c) → (writeRow h b (off + n) xs fun h => forceNat (n + len xs) fun m => f (.ref b z off m cap) h) = some r →
          ∃ v h', f v h' = some r ∧ Yields P h v h' (AppendPre P z bytes (.ref b z off n cap) xs) := by
        intro cap hcap e2
        obtain ⟨els, grow, fz, hb, w1, w2, e3⟩ := writeRow_some e2
        rw [forceNat_eq, len_eq] at e3
        refine ⟨_, _, e3, fun φ I w m s ⟨t, u, ty, el, zero, d, c, x, news, ht, hinfo, hu, hd, hc, hx, hm⟩ => ?_⟩
        obtain ⟨L, hL, hLz, hrv⟩ := hc.ref_inv
        subst hLz
        rcases hrv with ⟨c', rfl, g1, g2⟩ | ⟨h0, ⟨o, rfl⟩, g2⟩
        · have hroom := hcap φ I w L c' s hL g2
          have hrun := run_append_in (P := P) (ty := ty) (base := some (at_ L.blk (L.base + off * L.z))) (n := n) (c := c') w ht hinfo hu hd hx hroom
          obtain ⟨w', q1, q2, q3⟩ := s.rows (P := P) hb hL w1 w2 hx.flat
          refine ⟨.slice (some (at_ L.blk (L.base + off * L.z))) (n + xs.length) c', w', ?_, φ, I, q3, q2, .ref _ _ _ _ _ L _ hL rfl (.inl ⟨c', rfl, hroom, g2⟩)⟩
          rw [hm, hrun]
          simp only [add_at]
          rw [show L.base + off * L.z + n * L.z = L.base + (off + n) * L.z by rw [Nat.add_mul, Nat.add_assoc], q1]; rfl
        · have := hcap φ I w L 0 s hL g2
          omega
      cases cap with
      | some c0 =>
        have e2 : ifb (Nat.ble (n + len xs) c0) (writeRow h b (off + n) xs fun h => forceNat (n + len xs) fun m => f (.ref b z off m (some c0)) h)
          (ob (elemsRef h b off n) fun olds => freshRow h z bytes olds xs 0 f) = some r := e1
        rcases ifb_some e2 with ⟨k1, e3⟩ | ⟨k1, e3⟩
        · have k1 := Nat.le_of_ble_eq_true k1
          rw [len_eq] at k1
          exact inPlace (fun φ I w L c s hL hc => by simp only [CapIs] at hc; omega) e3
        · obtain ⟨olds, ho, e4⟩ := ob_some e3
          obtain ⟨h1, e5⟩ := freshRow_some e4
          obtain ⟨o1, o2⟩ := elemsRef_some ho
          refine ⟨_, _, e5, fun φ I w m s ⟨t, u, ty, el, zero, d, c, x, news, ht, hinfo, hu, hd, hc, hx, hm⟩ => ?_⟩
          obtain ⟨L, hL, hLz, hrv⟩ := hc.ref_inv
          subst hLz
          have hel := elems_ref s.hr hL hrv ho
          obtain ⟨a', cap', hsl⟩ : ∃ a' cap', c = .slice a' olds.length cap' := let ⟨a, cp, q, _⟩ := hel; ⟨a, cp, q⟩
          obtain ⟨oc, hoc⟩ := hel.arg (P := P)
          have hcap' : cap' = c0 := by
            rcases hrv with ⟨c', hq, g1, g2⟩ | ⟨h0, ⟨o, hq⟩, g2⟩ <;> rw [hsl] at hq <;> injection hq with q1 q2 q3 <;> simp only [CapIs] at g2 <;> omega
          subst hcap'
          have hlt : ¬ n + xs.length ≤ cap' := fun hle => by
            have : Nat.ble (n + len xs) cap' = true := by rw [len_eq]; exact Nat.ble_eq.mpr hle
            rw [this] at k1; cases k1
          rw [hm, hsl]; rw [hsl] at hoc
          exact append_fresh s ht hinfo hu hd hoc hx (by omega) h1 0
      | none =>
        have e2 : openBlk h b (fun els _ fz => ifb (Nat.ble (Nat.add (Nat.add off n) (len xs)) (len els)) (writeRow h b (off + n) xs fun h => forceNat (n + len xs) fun m => f (.ref b z off m none) h)
          (ifb (Nat.ble fz (off + n)) (ob (elemsRef h b off n) fun olds => killBlk h b fun h => freshRow h z bytes olds xs (fz - off) f) none)) = some r := e1
        obtain ⟨els, grow, fz, hb, e3⟩ := openBlk_some e2
        rcases ifb_some e3 with ⟨k1, e4⟩ | ⟨k1, e4⟩
        · have k1 := Nat.le_of_ble_eq_true k1
          rw [len_eq, len_eq] at k1
          refine inPlace (fun φ I w L c s hL hc => ?_) e4
          simp only [CapIs] at hc
          have := (s.hr.blk b _ L hb hL).room
          change off + n + xs.length ≤ els.length at k1
          dsimp only at this
          omega
        · obtain ⟨k2, e5⟩ := ifb_none e4
          have k2 := Nat.le_of_ble_eq_true k2
          obtain ⟨olds, ho, e6⟩ := ob_some e5
          rw [killBlk_eq] at e6
          obtain ⟨h1, e7⟩ := freshRow_some e6
          obtain ⟨o1, o2⟩ := elemsRef_some ho
          refine ⟨_, _, e7, fun φ I w m s ⟨t, u, ty, el, zero, d, c, x, news, ht, hinfo, hu, hd, hc, hx, hm⟩ => ?_⟩
          obtain ⟨L, hL, hLz, hrv⟩ := hc.ref_inv
          subst hLz
          have hel := elems_ref s.hr hL hrv ho
          obtain ⟨a', cap', hsl⟩ : ∃ a' cap', c = .slice a' olds.length cap' := let ⟨a, cp, q, _⟩ := hel; ⟨a, cp, q⟩
          obtain ⟨oc, hoc⟩ := hel.arg (P := P)
          by_cases hroom : n + xs.length ≤ cap'
          · -- it fits into room that the machine does not see: in its place
            obtain ⟨rfl, g2⟩ : c = .slice (some (at_ L.blk (L.base + off * L.z))) n cap' ∧ off + cap' = L.cap := by
              rcases hrv with ⟨c', hq, g1, g2⟩ | ⟨h0, ⟨o, hq⟩, g2⟩ <;> rw [hsl] at hq <;> injection hq with q1 q2 q3 <;> simp only [CapIs] at g2
              · exact ⟨by rw [hsl, q1, o1, q3], by omega⟩
              · omega
            have hk := s.hr.blk b _ L hb hL
            obtain ⟨cells, elem, lo, hi, s1, s2, s3, s4, s5⟩ := hk.store (P := P)
            have hmul : (off + n) * L.z + xs.length * L.z ≤ L.cap * L.z := by rw [← Nat.add_mul]; exact Nat.mul_le_mul_right _ (by omega)
            obtain ⟨s6, s7⟩ := s5 (L.base + (off + n) * L.z) news (by rw [hx.flat.len]; omega) hx.flat.one
            have hfzm : fz * L.z ≤ (off + n) * L.z := Nat.mul_le_mul_right _ k2
            have fl := hoc.flat.append hx.flat
            have hrun := run_append_in (P := P) (ty := ty) (base := some (at_ L.blk (L.base + off * L.z))) (n := n) (c := cap') w ht hinfo hu hd hx hroom
            obtain ⟨s', ex⟩ := s.grow hb hL s1 s2 (over_size _ _ _) s7 off (by omega) ⟨olds ++ xs, true, fz - off⟩ (by simp; omega) fl.rows (by dsimp only; omega)
              (fun x hx' => by rw [over_get, if_neg (by dsimp only at hx'; omega)])
              (fun i j r v hi hj => by
                have hjl : j < L.z := by rw [← fl.rows i r hi]; exact (List.getElem?_eq_some_iff.1 hj).1
                dsimp only at hi
                rw [List.getElem?_append] at hi
                split at hi
                · rename_i hlt
                  rcases o2 with rfl | ⟨k, hk1, hk2⟩
                  · omega
                  · rw [hb] at hk1; cases hk1
                    obtain ⟨c, c1, c2⟩ := s4 (off + i) j r v (hk2 i r hi) hj
                    refine ⟨c, ?_, c2⟩
                    have := idx_lt (i := off + i) (m := off + n) (by omega) hjl
                    rw [over_get, if_neg (by omega)]; exact c1
                · rename_i hge
                  obtain ⟨c, c1, c2⟩ := hx.flat.cell _ j r v hi hj
                  refine ⟨c, ?_, c2⟩
                  have c1l := (List.getElem?_eq_some_iff.1 c1).1
                  have e1 : (off + i) * L.z = (off + n) * L.z + (i - olds.length) * L.z := by rw [← Nat.add_mul]; congr 1; omega
                  have hl := hx.flat.len
                  rw [over_get, if_pos (by omega), ← c1]
                  congr 1; omega)
            refine ⟨.slice (some (at_ L.blk (L.base + off * L.z))) (n + xs.length) cap', w.setCells L.blk (L.base + (off + n) * L.z) news, ?_, _, I, ex, s', .ref _ _ _ _ _ _ _ (sete_same _ _ _) rfl (.inl ⟨cap', by simp [o1], by omega, by simp only [CapIs]; omega⟩)⟩
            rw [hm, hrun]
            simp only [add_at]
            rw [show L.base + off * L.z + n * L.z = L.base + (off + n) * L.z by rw [Nat.add_mul, Nat.add_assoc], s6]; rfl
          · rw [hm, hsl]; rw [hsl] at hoc
            have := append_fresh (s.kill b) (ty := ty) ht hinfo hu hd hoc hx (by omega) h1 (fz - off)
            obtain ⟨c1, w1, q1, φ1, I1, q2, q3⟩ := this
            exact ⟨c1, w1, q1, φ1, I1, q2.more (fun c hc => (by
              unfold Kn at *
              rcases hc with ⟨k1, hc⟩ | hc
              · rw [get_hkill] at hc; unfold sete at hc; split at hc
                · cases hc
                · exact .inl ⟨_, hc⟩
              · exact .inr hc)), q3⟩
    | _ => cases e
end
end Go.Den
