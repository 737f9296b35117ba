/- A part of a machine that computes what the program computes, and of the proof that it does -/
import Derived.Test.YtngjccjmhlhlbaaGreatDenK
set_option linter.unusedVariables false
set_option linter.unusedSimpArgs false
set_option linter.unusedSectionVars false
namespace Go.Den
open Go

variable [Val]

section
variable {P : Program} {E : Env} {rec : Rec} {loc env : Regs} {h : Heap} {f : K} {r : Fin2} {o : Oper}

/-! ### x[lo:hi] -/
theorem run_sliceBounds (isSlice : Bool) (n cap lo hi : Nat) (lv hv : Option Value) (hl : (lv = none ∧ lo = 0) ∨ ∃ k, lv = some (.int k (lo : Int))) (hh : (hv = none ∧ hi = n) ∨ ∃ k, hv = some (.int k (hi : Int)))
    (h1 : lo ≤ hi) (h2 : hi ≤ cap) (w : World) : (Instr.sliceBounds isSlice n cap lv hv none).run P w = .ok (lo, hi, cap) w := by
  have b : ∀ (k : IntKind) (i y : Nat) (code : BoundsCode), i ≤ y → (Instr.sliceBound (.int k (i : Int)) y code).run P w = .ok i w := by
    intro k i y code hi
    simp [Instr.sliceBound, asIntOf, hi]
  rcases hh with ⟨rfl, rfl⟩ | ⟨k, rfl⟩ <;> rcases hl with ⟨rfl, rfl⟩ | ⟨k', rfl⟩ <;> simp [Instr.sliceBounds, b _ _ _ _ h1, b _ _ _ _ h2]

theorem bound_rel {φ : Pos} {I : Imm} {w : World} {a : Act} (hR : RelR w φ I loc env a) {x : Option Operand} {v : Option Nat} (e : bound x loc env = some v) (d : Nat) :
    (x.map a.eval = none ∧ orElse v d = d ∧ v = none) ∨ ∃ k, x.map a.eval = some (.int k ((orElse v d : Nat) : Int)) := by
  cases x with
  | none => cases e; exact .inl ⟨rfl, rfl, rfl⟩
  | some x =>
    obtain ⟨u, hu, e1⟩ := ob_some e
    obtain ⟨n, hn, e2⟩ := ob_some e1
    cases e2
    obtain ⟨k, rfl⟩ := natOf_some hn
    exact .inr ⟨k, by simp [(opv_rel hR hu).int_inv, orElse]⟩

theorem cutK_some {α : Type} {l : List α} {x y : Nat} {g : List α → AV} {v : AV} (e : cutK l x y g = some v) : x ≤ y ∧ y ≤ l.length ∧ v = g ((l.take y).drop x) := by
  obtain ⟨hc, e1⟩ := ifb_none e
  rw [takeK_eq] at e1; cases e1
  rw [len_eq] at hc
  cases h1 : Nat.ble x y <;> rw [h1] at hc <;> simp [band] at hc
  exact ⟨Nat.le_of_ble_eq_true h1, hc, by rw [dropL_eq]⟩

theorem band_true {a b : Bool} (h : band a b = true) : a = true ∧ b = true := by cases a <;> cases b <;> simp_all [band]
theorem bor_true {a b : Bool} (h : bor a b = true) : a = true ∨ b = true := by cases a <;> cases b <;> simp_all [bor]
theorem bor_false {a b : Bool} (h : bor a b = false) : a = false ∧ b = false := by cases a <;> cases b <;> simp_all [bor]

theorem capFits_some {k off b : Nat} {cap : Option Nat} (e : capFits h k off b cap = true) : (∃ c, cap = some c ∧ b ≤ c) ∨ (cap = none ∧ ∃ bl, h.get k = some bl ∧ off + b ≤ bl.els.length) := by
  cases cap with
  | some c => exact .inl ⟨c, rfl, Nat.le_of_ble_eq_true e⟩
  | none =>
    refine .inr ⟨rfl, ?_⟩
    unfold capFits at e
    cases hb : h.get k with
    | none => rw [hb] at e; cases e
    | some bl => rw [hb] at e; exact ⟨bl, rfl, by rw [← len_eq]; exact Nat.le_of_ble_eq_true e⟩

theorem CapIs.less {L : Loc} {off lo c : Nat} {cap : Option Nat} (h : CapIs L off cap c) (hl : lo ≤ c) : CapIs L (off + lo) (capLess cap lo) (c - lo) := by
  cases cap with
  | some m => simp only [CapIs, capLess, forceNat_eq] at *; omega
  | none => simp only [CapIs, capLess] at *; omega

theorem RefVal.cut {L : Loc} {off n lo hi : Nat} {cap : Option Nat} {v : Value} (hv : RefVal L off n cap v) (h1 : lo ≤ hi) (h2 : ∀ c, CapIs L off cap c → n ≤ c → hi ≤ c) :
    ∃ (A : Addr) (c : Nat), v = .slice (some A) n c ∧ hi ≤ c ∧ n ≤ c ∧ RefVal L (off + lo) (hi - lo) (capLess cap lo) (.slice (some (if c = lo then A else A.add (lo * L.z))) (hi - lo) (c - lo)) := by
  rcases hv with ⟨c, rfl, hnc, hc⟩ | ⟨rfl, ⟨o, rfl⟩, hc⟩
  · have hhi := h2 c hc hnc
    refine ⟨_, c, rfl, hhi, hnc, ?_⟩
    by_cases he : c = lo
    · have hh : hi = lo := by omega
      subst hh
      rw [if_pos he]
      have := hc.less (lo := hi) (by omega)
      rw [show c - hi = 0 by omega] at this
      exact .inr ⟨by omega, ⟨L.base + off * L.z, by simp [he]⟩, this⟩
    · rw [if_neg he, add_at]
      exact .inl ⟨c - lo, by rw [Nat.add_mul, Nat.add_assoc], by omega, hc.less (by omega)⟩
  · have h0 : hi ≤ 0 := h2 0 hc (Nat.le_refl _)
    have : hi = 0 := by omega
    subst this
    have : lo = 0 := by omega
    subst this
    refine ⟨_, 0, rfl, Nat.le_refl _, Nat.le_refl _,   .inr ⟨rfl, ⟨o, by simp⟩, hc.less (Nat.le_refl _)⟩⟩

theorem RelI.sl_cut {w : World} {I : Imm} {nn : Bool} {z lo hi : Nat} {xs : List Row} {a : Option Addr} {n c : Nat} (hs : RelI w I (.sl nn z xs) (.slice a n c)) (h1 : lo ≤ hi) (h2 : hi ≤ xs.length) :
    n = xs.length ∧ n ≤ c ∧ RelI w I (.sl nn z ((xs.take hi).drop lo)) (.slice (if c = lo then a else a.map (·.add (lo * z))) (hi - lo) (c - lo)) := by
  cases hs with
  | sl0 _ _ _ _ hnn h0 =>
    simp at h2; subst h2
    have : lo = 0 := by omega
    subst this
    refine ⟨rfl, Nat.zero_le _, ?_⟩
    simp only [List.take_nil, List.drop_nil, Nat.sub_zero]
    refine .sl0 nn z _ _ (fun hq => ?_) (fun hq => ?_)
    · have := hnn hq
      split
      · exact this
      · cases a <;> simp_all
    · split at hq
      · omega
      · apply h0; cases a <;> simp_all
  | sl _ _ _ B off cap cell hn hcap hrow hcell hone hrel =>
    refine ⟨rfl, hcap, ?_⟩
    by_cases he : (xs.take hi).drop lo = []
    · have hlen := congrArg List.length he
      simp at hlen
      have : hi = lo := by omega
      subst this
      rw [he]
      have : hi - hi = 0 := by omega
      rw [this]
      refine .sl0 nn z _ _ (fun hq => ?_) (fun hq => ?_)
      · split <;> rfl
      · split at hq <;> simp at hq
    · have hlen : hi - lo = ((xs.take hi).drop lo).length := by simp; omega
      have hlt : lo < hi := by
        rcases Nat.lt_or_ge lo hi with h | h
        · exact h
        · exact absurd (List.eq_nil_of_length_eq_zero (by omega)) he
      rw [if_neg (by omega), hlen]
      simp only [Option.map_some, add_at]
      have hget : ∀ (i : Nat) (r : Row), ((xs.take hi).drop lo)[i]? = some r → xs[lo + i]? = some r := by
        intro i r hr
        rw [List.getElem?_drop, List.getElem?_take] at hr
        split at hr
        · exact hr
        · cases hr
      refine .sl nn z _ B (off + lo * z) (c - lo) (fun i j => cell (lo + i) j) he (by simp; omega) (fun i r hi => hrow _ r (hget i r hi)) (fun i j r v hi hj => ?_) (fun i j r v hi hj => hone _ j r v (hget i r hi) hj) (fun i j r v hi hj => hrel _ j r v (hget i r hi) hj)
      have := hcell (lo + i) j r v (hget i r hi) hj
      rw [Nat.add_mul] at this
      rw [show off + lo * z + i * z + j = off + (lo * z + i * z) + j by omega]
      exact this

theorem run_sliceBounds3 (n cap lo hi m : Nat) (lv : Option Value) (hv mv : Value) (hl : (lv = none ∧ lo = 0) ∨ ∃ k, lv = some (.int k (lo : Int))) (hh : ∃ k, hv = .int k (hi : Int)) (hm : ∃ k, mv = .int k (m : Int))
    (h1 : lo ≤ hi) (h2 : hi ≤ m) (h3 : m ≤ cap) (w : World) : (Instr.sliceBounds true n cap lv (some hv) (some mv)).run P w = .ok (lo, hi, m) w := by
  have b : ∀ (k : IntKind) (i y : Nat) (code : BoundsCode), i ≤ y → (Instr.sliceBound (.int k (i : Int)) y code).run P w = .ok i w := by
    intro k i y code hi
    simp [Instr.sliceBound, asIntOf, hi]
  obtain ⟨k, rfl⟩ := hh
  obtain ⟨k2, rfl⟩ := hm
  rcases hl with ⟨rfl, rfl⟩ | ⟨k', rfl⟩ <;> simp [Instr.sliceBounds, b _ _ _ _ h1, b _ _ _ _ h2, b _ _ _ _ h3]

theorem Sound.slice3 (hT : TypesOk P E) {t : Nat} {x m : Operand} {lo hi : Option Operand} (ho : o.op = .slice t x lo hi (some m)) (e : evSlice t x lo hi (some m) E rec loc env h f = some r) : SoundP P o loc env h f r := by
  change ob (E.T t) (fun i => ob (opv x loc env) fun v => ob (bound lo loc env) fun a => ob (bound hi loc env) fun b => ob (opv m loc env) fun mv => ob (natOf mv) fun c => ob b fun b => slice3Op v i (orElse a 0) b c h f) = some r at e
  obtain ⟨i, hi', e1⟩ := ob_some e
  obtain ⟨v, hv, e2⟩ := ob_some e1
  obtain ⟨lv, hlv, e3⟩ := ob_some e2
  obtain ⟨hv', hhv, e4⟩ := ob_some e3
  obtain ⟨mv, hmv, e5⟩ := ob_some e4
  obtain ⟨c, hc, e6⟩ := ob_some e5
  obtain ⟨b, hb, e7⟩ := ob_some e6
  subst hb
  cases v with
  | ref k z off n cap =>
    obtain ⟨hcc, e8⟩ := ifb_none (show ifb (band (isSliceTd i) (band (Nat.ble (orElse lv 0) b) (band (Nat.ble b c) (Nat.ble c n)))) (f .bad h) none = some r from e7)
    obtain ⟨hst1, hcc⟩ := band_true hcc
    obtain ⟨c1, hcc⟩ := band_true hcc
    obtain ⟨c2, c3⟩ := band_true hcc
    have c1 := Nat.le_of_ble_eq_true c1
    have c2 := Nat.le_of_ble_eq_true c2
    have c3 := Nat.le_of_ble_eq_true c3
    refine ⟨.bad, e8, fun φ I w a s hR => ?_⟩
    obtain ⟨d, hd, hdo⟩ := (hT t i hi').und
    obtain ⟨el, bts, zero, rfl, hinfo⟩ := isSliceTd_some hdo hst1
    have hx := opv_rel hR hv
    obtain ⟨L, hL, hLz, hrv⟩ := hx.ref_inv
    obtain ⟨A, cc, hq, hnc⟩ : ∃ A cc, a.eval x = .slice (some A) n cc ∧ n ≤ cc := by
      rcases hrv with ⟨cc, hq, h1, _⟩ | ⟨h0, ⟨o, hq⟩, _⟩
      · exact ⟨_, cc, hq, h1⟩
      · exact ⟨_, 0, by rw [hq, h0], by omega⟩
    obtain ⟨km, rfl⟩ := natOf_some hc
    have hm := (opv_rel hR hmv).int_inv
    have hlo : (lo.map a.eval = none ∧ orElse lv 0 = 0) ∨ ∃ k, lo.map a.eval = some (.int k ((orElse lv 0 : Nat) : Int)) := (bound_rel hR hlv 0).imp (fun h => ⟨h.1, h.2.1⟩) id
    obtain ⟨kh, hh⟩ : ∃ k, hi.map a.eval = some (.int k (b : Int)) := by
      rcases bound_rel hR hhv 0 with ⟨_, _, h0⟩ | h0
      · cases h0
      · exact h0
    have hrb := run_sliceBounds3 (P := P) n cc (orElse lv 0) b c (lo.map a.eval) (.int kh (b : Int)) (.int km (c : Int)) hlo ⟨_, rfl⟩ ⟨_, rfl⟩ c1 c2 (by omega) w
    refine PureAt.mk (v := .slice (if c = orElse lv 0 then some A else (some A).map (·.add (orElse lv 0 * szTd i))) (b - orElse lv 0) (c - orElse lv 0)) ?_ (id (.imm _ _ (.bad _ rfl)))
    unfold execOp
    simp only [ho, hq]
    refine run_v ?_
    simp only [Option.map_some, hm, hh, Instr.sliceAt, Sem.run_bind, run_underlying hd w, Result.andThen_ok, Instr.slice, hrb, hinfo.run_size, Sem.run_pure]
  | _ => cases e7

theorem Sound.slice (hT : TypesOk P E) {t : Nat} {x : Operand} {lo hi mx : Option Operand} (ho : o.op = .slice t x lo hi mx) (e : evSlice t x lo hi mx E rec loc env h f = some r) : SoundP P o loc env h f r := by
  cases mx with
  | some m => exact Sound.slice3 hT ho e
  | none =>
  change ob (E.T t) (fun i => ob (opv x loc env) fun v => ob (bound lo loc env) fun a => ob (bound hi loc env) fun b => ob (sliceOp v i h a b) fun v => f v h) = some r at e
  obtain ⟨i, hi', e1⟩ := ob_some e
  obtain ⟨v, hv, e2⟩ := ob_some e1
  obtain ⟨lv, hlv, e3⟩ := ob_some e2
  obtain ⟨hv', hhv, e4⟩ := ob_some e3
  obtain ⟨u, hu, e5⟩ := ob_some e4
  refine ⟨u, e5, fun φ I w a s hR => ?_⟩
  obtain ⟨d, hd, hdo⟩ := (hT t i hi').und
  have hexec : ∀ {c : Value} {d : Value}, a.eval x = c → (Instr.sliceAt t c (lo.map a.eval) (hi.map a.eval) none).run P w = .ok d w → (execOp a.eval o).run P w = .ok (.value d) w := by
    intro c d hc hd'
    unfold execOp; simp only [ho, hc]; exact run_v hd'
  have hb0 := bound_rel hR hlv 0
  have hb1 := fun n => bound_rel hR hhv n
  have hlo : (lo.map a.eval = none ∧ orElse lv 0 = 0) ∨ ∃ k, lo.map a.eval = some (.int k ((orElse lv 0 : Nat) : Int)) := hb0.imp (fun h => ⟨h.1, h.2.1⟩) id
  have hhi : ∀ n, (hi.map a.eval = none ∧ orElse hv' n = n) ∨ ∃ k, hi.map a.eval = some (.int k ((orElse hv' n : Nat) : Int)) := fun n => (hb1 n).imp (fun h => ⟨h.1, h.2.1⟩) id
  have hx := opv_rel hR hv
  cases v with
  | str l =>
    obtain ⟨hst, hu1⟩ := ifb_none hu
    obtain rfl := isStrTd_some hdo hst
    obtain ⟨c1, c2, rfl⟩ := cutK_some hu1
    obtain ⟨st, hc, hl⟩ := hx.str_inv
    have hlen : len l = st.size := by rw [len_eq, ← hl]; simp [bytesOfStr]
    rw [hlen] at c1 c2
    have hsz : l.length = st.size := by rw [← len_eq, hlen]
    have hrb := run_sliceBounds (P := P) false st.size st.size (orElse lv 0) (orElse hv' st.size) _ _ hlo (hhi _) c1 (by omega) w
    refine PureAt.mk (v := .string (st.extract (orElse lv 0) (orElse hv' st.size))) (hexec hc ?_) (id (.imm _ _ ?_))
    · simp only [Instr.sliceAt, Sem.run_bind, run_underlying hd w, Result.andThen_ok, Instr.slice]
      simp [hrb]
    · rw [hlen]
      have : bytesOfStr (st.extract (orElse lv 0) (orElse hv' st.size)) = (l.take (orElse hv' st.size)).drop (orElse lv 0) := by
        rw [← hl]
        unfold bytesOfStr
        rw [ByteArray.data_extract]
        simp only [Array.toList_extract, List.extract_eq_take_drop, List.map_take, List.map_drop]
        rw [List.drop_take]
      rw [← this]; exact .str _
  | nil =>
    obtain ⟨hst, hu1⟩ := ifb_none hu
    cases hu1
    obtain ⟨hst1, hst2⟩ := band_true hst
    obtain ⟨hz0, hz1⟩ := band_true hst2
    have hz0 := Nat.eq_of_beq_eq_true hz0
    have hz1 := Nat.eq_of_beq_eq_true hz1
    obtain ⟨el, bts, zero, rfl, hinfo⟩ := isSliceTd_some hdo hst1
    have hc := hx.nil_inv
    have hrb := run_sliceBounds (P := P) true 0 0 (orElse lv 0) (orElse hv' 0) _ _ hlo (hhi _) (by omega) (by omega) w
    refine PureAt.mk (v := .slice none 0 0) (hexec hc ?_) (id (.imm _ _ .nil))
    simp only [Instr.sliceAt, Sem.run_bind, run_underlying hd w, Result.andThen_ok, Instr.slice, hrb, hinfo.run_size, Sem.run_pure, hz0, hz1]
    simp
  | sl nn z xs =>
    obtain ⟨hst, hu1⟩ := ifb_none hu
    obtain ⟨hst1, hst2⟩ := band_true hst
    have hz0 := Nat.eq_of_beq_eq_true hst2
    obtain ⟨el, bts, zero, rfl, hinfo⟩ := isSliceTd_some hdo hst1
    obtain ⟨c1, c2, rfl⟩ := cutK_some hu1
    rw [len_eq] at c1 c2
    have hs := hx.sl_inv
    cases hq : a.eval x with
    | slice ad n c =>
      rw [hq] at hs
      obtain ⟨hn, hnc, hcut⟩ := hs.sl_cut c1 c2
      subst hn
      have hrb := run_sliceBounds (P := P) true xs.length c (orElse lv 0) (orElse hv' xs.length) _ _ hlo (hhi _) c1 (by omega) w
      refine PureAt.mk (hexec hq (d := .slice (if c = orElse lv 0 then ad else ad.map (·.add (orElse lv 0 * z))) (orElse hv' xs.length - orElse lv 0) (c - orElse lv 0)) ?_) (id (.imm _ _ ?_))
      · simp only [Instr.sliceAt, Sem.run_bind, run_underlying hd w, Result.andThen_ok, Instr.slice, hrb, hinfo.run_size, Sem.run_pure, hz0]
      · rw [len_eq]; exact hcut
    | _ => rw [hq] at hs; cases hs
  | ref k z off n cap =>
    obtain ⟨hst, hu1⟩ := ifb_none hu
    obtain ⟨hst1, hst2⟩ := band_true hst
    have hz0 := Nat.eq_of_beq_eq_true hst2
    obtain ⟨el, bts, zero, rfl, hinfo⟩ := isSliceTd_some hdo hst1
    simp only [forceNat_eq] at hu1
    obtain ⟨hcc, hu2⟩ := ifb_none hu1
    cases hu2
    obtain ⟨c1, c2⟩ := band_true hcc
    have c1 := Nat.le_of_ble_eq_true c1
    obtain ⟨L, hL, hLz, hrv⟩ := hx.ref_inv
    obtain ⟨A, c, hq, d1, d2, hcut⟩ := hrv.cut (lo := orElse lv 0) (hi := orElse hv' n) c1 (fun c hc hnc => by
      rcases bor_true c2 with c3 | c3
      · have := Nat.le_of_ble_eq_true c3; omega
      · rcases capFits_some c3 with ⟨c', rfl, h1⟩ | ⟨rfl, bl, h1, h2⟩
        · simp only [CapIs] at hc; omega
        · simp only [CapIs] at hc
          have := (s.blk k bl L h1 hL).room
          omega)
    have hrb := run_sliceBounds (P := P) true n c (orElse lv 0) (orElse hv' n) _ _ hlo (hhi _) c1 d1 w
    refine PureAt.mk (hexec hq (d := .slice (some (if c = orElse lv 0 then A else A.add (orElse lv 0 * L.z))) (orElse hv' n - orElse lv 0) (c - orElse lv 0)) ?_) (id (.ref k z _ _ _ L _ hL hLz hcut))
    simp only [Instr.sliceAt, Sem.run_bind, run_underlying hd w, Result.andThen_ok, Instr.slice, hrb, hinfo.run_size, Sem.run_pure, hz0, hLz]
    split <;> rfl
  | _ => cases hu
end
end Go.Den
