/- A part of a machine that computes what the program computes, and of the proof that it does -/
import Derived.Test.YtngjccjmhlhlbaaGreatDenM
import Derived.Laws.IdiomStrings
import Derived.Laws.BytesArg
set_option linter.unusedVariables false
set_option linter.unusedSimpArgs false
set_option linter.unusedSectionVars false
namespace Go.Den
open Go

variable [Val]

/-- so many elements of z cells each, as the machine has them -/
def ElemsAt (w : World) (φ : Pos) (I : Imm) (z : Nat) (xs : List Row) (v : Value) : Prop :=
  ∃ a cap, v = .slice a xs.length cap ∧ (∀ (i : Nat) (r : Row), xs[i]? = some r → r.length = z) ∧ (xs = [] ∨ ∃ B o, a = some (at_ B o) ∧
    ∀ (i j : Nat) (r : Row) (x : AV), xs[i]? = some r → r[j]? = some x → ∃ c, w.cell? (at_ B (o + i * z + j)) = some c ∧ c.oneCell' = true ∧ RelV w φ I x c)

section
variable {P : Program} {φ : Pos} {I : Imm} {h : Heap} {w : World}

theorem elemsRef_some {b off n : Nat} {xs : List Row} (e : elemsRef h b off n = some xs) : xs.length = n ∧ (n = 0 ∨ ∃ k, h.get b = some k ∧ ∀ (i : Nat) (r : Row), xs[i]? = some r → k.els[off + i]? = some r) := by
  cases n with
  | zero => cases e; exact ⟨rfl, .inl rfl⟩
  | succ n =>
    change openBlk h b (fun els _ _ => takeK (dropL els off) (n + 1) fun l => ifb (Nat.beq (len l) (n + 1)) (some l) none) = some xs at e
    obtain ⟨els, grow, fz, hb, e1⟩ := openBlk_some e
    rw [takeK_eq, dropL_eq] at e1
    obtain ⟨h1, e2⟩ := ifb_none e1
    cases e2
    rw [len_eq] at h1
    refine ⟨Nat.eq_of_beq_eq_true h1, .inr ⟨_, hb, fun i r hi => ?_⟩⟩
    rw [List.getElem?_take] at hi
    split at hi
    · rw [List.getElem?_drop] at hi; exact hi
    · cases hi

theorem elems_ref (s : SimH φ I h w) {b off n : Nat} {cap : Option Nat} {L : Loc} (hL : φ b = some L) {v : Value} (hv : RefVal L off n cap v) {xs : List Row} (e : elemsRef h b off n = some xs) : ElemsAt w φ I L.z xs v := by
  obtain ⟨h1, h2⟩ := elemsRef_some e
  have hrows : ∀ (i : Nat) (r : Row), xs[i]? = some r → r.length = L.z := by
    intro i r hi
    rcases h2 with rfl | ⟨k, hk, hh⟩
    · have := List.eq_nil_of_length_eq_zero h1; subst this; simp at hi
    · exact (s.blk b k L hk hL).rows _ r (hh i r hi)
  rcases hv with ⟨c, rfl, _⟩ | ⟨rfl, ⟨o, rfl⟩, _⟩
  · refine ⟨_, _, by rw [h1], hrows, ?_⟩
    rcases h2 with rfl | ⟨k, hk, hh⟩
    · exact .inl (List.eq_nil_of_length_eq_zero h1)
    · refine .inr ⟨_, _, rfl, fun i j r x hi hj => ?_⟩
      obtain ⟨c, c1, c2, c3⟩ := (s.blk b k L hk hL).cell (hh i r hi) hj
      exact ⟨c, by rw [← c1, Nat.add_mul]; congr 2; omega, c2, c3⟩
  · exact ⟨_, _, by rw [h1], hrows, .inl (List.eq_nil_of_length_eq_zero h1)⟩

theorem elems_sound (s : SimH φ I h w) {v : AV} {c : Value} (hv : RelV w φ I v c) {z : Nat} {xs : List Row} (e : elems v h z = some xs) :
    (∃ st, v = .str (bytesOfStr st) ∧ c = .string st ∧ z = 1 ∧ xs = (bytesOfStr st).map byteCell) ∨ ElemsAt w φ I z xs c := by
  cases v with
  | nil => cases e; exact .inr ⟨none, 0, by rw [hv.nil_inv]; rfl, fun i r hi => by simp at hi, .inl rfl⟩
  | str l =>
    obtain ⟨h1, e1⟩ := ifb_none e
    cases e1
    obtain ⟨st, rfl, rfl⟩ := hv.str_inv
    exact .inl ⟨st, rfl, rfl, Nat.eq_of_beq_eq_true h1, rfl⟩
  | ref b z' off n cap =>
    obtain ⟨h1, e1⟩ := ifb_none e
    have := Nat.eq_of_beq_eq_true h1
    subst this
    obtain ⟨L, hL, rfl, hrv⟩ := hv.ref_inv
    exact .inr (elems_ref s hL hrv e1)
  | sl nn z' ys =>
    obtain ⟨h1, e1⟩ := ifb_none e
    have := Nat.eq_of_beq_eq_true h1
    subst this
    cases e1
    have hs := hv.sl_inv
    cases hs with
    | sl0 _ _ a cap hnn h0 => exact .inr ⟨a, cap, rfl, fun i r hi => by simp at hi, .inl rfl⟩
    | sl _ _ _ B off cap cell hn hcap hrow hcell hone hrel =>
      exact .inr ⟨_, _, rfl, hrow, .inr ⟨B, off, rfl, fun i j r x hi hj => ⟨_, (hcell i j r x hi hj).1, hone i j r x hi hj, .imm _ _ (hrel i j r x hi hj)⟩⟩⟩
  | _ => cases e

/-! ### bytes and strings -/
theorem byteOf_some {r : Row} {n : Nat} (e : byteOf r = some n) : r = [.int .u8 (n : Int)] ∧ n ≤ 255 := by
  obtain ⟨v, hv, e1⟩ := ob_some e
  obtain ⟨k, m, hm, e2⟩ := op2_some e1
  obtain ⟨h1, e3⟩ := ifb_none e2
  obtain rfl := toInt_some hm
  have hk : k = .u8 := by cases k <;> first | rfl | cases h1
  subst hk
  cases m with
  | negSucc m => cases e3
  | ofNat m =>
    obtain ⟨h2, e4⟩ := ifb_none e3
    cases e4
    refine ⟨?_, Nat.le_of_ble_eq_true h2⟩
    cases r with
    | nil => cases hv
    | cons x r => cases r with
      | nil => cases hv; rfl
      | cons _ _ => cases hv

theorem bytesOf_some : ∀ {xs : List Row} {l : List Nat}, bytesOf xs = some l → xs = l.map byteCell ∧ ∀ n ∈ l, n ≤ 255
  | [], l, e => by cases e; exact ⟨rfl, fun n hn => by simp at hn⟩
  | r :: xs, l, e => by
    change ob (byteOf r) (fun n => ob (bytesOf xs) fun l => some (n :: l)) = some l at e
    obtain ⟨n, hn, e1⟩ := ob_some e
    obtain ⟨l', hl, e2⟩ := ob_some e1
    cases e2
    obtain ⟨h1, h2⟩ := byteOf_some hn
    obtain ⟨h3, h4⟩ := bytesOf_some hl
    exact ⟨by rw [h1, h3]; rfl, fun m hm => (List.mem_cons.1 hm).elim (fun e => e ▸ h2) (h4 m)⟩

theorem bytesOfStr_nums (l : List Nat) (h : ∀ n ∈ l, n ≤ 255) : bytesOfStr (strOfNums (l.map Int.ofNat)) = l := by
  unfold bytesOfStr
  rw [strOfNums_data, List.map_map, List.map_map]
  conv => rhs; rw [← List.map_id l]
  apply List.map_congr_left
  intro n hn
  have := h n hn
  simp only [Function.comp, id]
  change (UInt8.ofNat n).toNat = n
  rw [UInt8.toNat_ofNat']; omega

theorem bytesToStr_sound {xs : List Row} {v : Value} (hv : ElemsAt w φ I 1 xs v) {l : List Nat} (e : bytesOf xs = some l) {src dst el : TypeId} (hs : P.underlying src = some (.slice el)) (he : P.underlying el = some (.int .u8)) (hd : P.underlying dst = some .string) :
    ∃ st, (Go.convert src dst v).run P w = .ok (.string st) w ∧ bytesOfStr st = l := by
  obtain ⟨hxs, hl⟩ := bytesOf_some e
  obtain ⟨a, cap, rfl, hrow, hc⟩ := hv
  refine ⟨strOfNums (l.map Int.ofNat), ?_, bytesOfStr_nums l hl⟩
  have hlen : xs.length = l.length := by rw [hxs]; simp
  rcases hc with rfl | ⟨B, o, rfl, hc⟩
  · have : l = [] := by cases l <;> simp at hlen ⊢
    subst this
    have h0 : (strOfNums ([].map Int.ofNat)) = ByteArray.empty := rfl
    rw [h0]
    cases a with
    | none => exact run_convert_bytes_nil w src el hs he _ _ dst hd
    | some a =>
      rw [run_convert_bytes_string w src dst el _ _ _ hs he hd, List.length_nil, run_bytesToString w a 0 cap [] (by simpa using run_loadCells_list (P := P) w a [] (by simp))]
      rfl
  · refine run_convert_bytes_arg w src el hs he B o xs.length cap (l.map Int.ofNat) (by simp [hlen]) (fun i hi => ?_) dst hd
    have hi' : i < l.length := by omega
    have hrow' : xs[i]? = some (byteCell l[i]) := by rw [hxs]; simp [hi']
    obtain ⟨c, h1, h2, h3⟩ := hc i 0 _ (.int .u8 (l[i] : Int)) hrow' rfl
    have := h3.int_inv
    subst this
    simp only [Nat.mul_one, Nat.add_zero] at h1
    rw [show (⟨B, o + i, none⟩ : Addr) = at_ B (o + i) from rfl, h1]
    simp [List.getD, hi']

/-- only the run-time's mark on a block's row is another: none of its cells is frozen -/
theorem Sim.marked (s : Sim φ I h w) {b : Nat} {k : Blk} {L : Loc} (hb : h.get b = some k) (hL : φ b = some L) {cells : Array Value} {elem : TypeId} {fr : Nat × Nat} {lo hi : Nat} {w' : World}
    (hget : w.heap[L.blk]? = some (.cells cells elem fr)) (hfr : FrOk L.z cells lo hi) (p : Wrote w w' L.blk cells elem (lo, hi)) : Sim φ I h w' ∧ HExt h φ I w h φ I w' := by
  have hcell : ∀ B x, w'.cell? (at_ B x) = w.cell? (at_ B x) := by
    intro B x
    by_cases hB : B = L.blk
    · subst hB; rw [cell_at, cell_at, p.get, hget]
    · exact cell_of_heap (p.old B hB) x
  have e : Ext0 φ I w φ I w' :=
    { os := p.os, tape := p.tape, output := p.output, size := by rw [p.size]; exact Nat.le_refl _, sub := fun _ _ h => h, isub := fun _ _ h => h, icell := fun B x _ => hcell B x }
  refine ⟨⟨⟨fun c k' L' hc hL' => ?_, fun c l L' hc hL' => ?_, s.hr.inj, s.hr.minj, fun c L' hL' => by rw [p.size]; exact s.hr.lt c L' hL', fun B x hx => ?_⟩, s.ok⟩, ⟨e, Nat.le_refl _, fun B _ hn => p.old B fun he => hn b L hL (.inl ⟨_, hb⟩) he.symm, fun _ _ h k => .inl ⟨h, k⟩, fun _ _ h => .inl h, fun _ h => .inl h, fun _ _ h => .inl h⟩⟩
  · have old := s.hr.blk c k' L' hc hL'
    by_cases hB : L'.blk = L.blk
    · obtain ⟨cells', elem', lo', hi', h1, h2, h3, h4⟩ := old.there
      rw [hB, hget] at h1; cases h1
      have hcb : c = b := Classical.byContradiction fun hne => s.hr.inj c b k' k L' L hc hb hL' hL hne hB
      have hLL : L' = L := by subst hcb; rw [hL] at hL'; exact (Option.some.inj hL').symm
      exact ⟨⟨cells, elem, lo, hi, by rw [hB]; exact p.get, by rw [hLL]; exact hfr, h3, fun i j r v hi hj => let ⟨c, h5, h6, h7⟩ := h4 i j r v hi hj; ⟨c, h5, h6, h7.ext e⟩⟩, old.room, old.rows, old.dry⟩
    · exact old.mono (p.old _ hB) fun _ _ hv => hv.ext e
  · have old := s.hr.map c l L' hc hL'
    have hB : L'.blk ≠ L.blk := fun he => by
      obtain ⟨es, clock, hm, _⟩ := old.there
      rw [he, hget] at hm; cases hm
    exact old.mono (p.old _ hB) fun _ _ hv => hv.ext e
  · obtain ⟨cs, el, f, h1, h2⟩ := s.hr.imm B x hx
    by_cases hB : B = L.blk
    · subst hB; rw [hget] at h1; cases h1; exact ⟨_, _, _, p.get, h2⟩
    · exact ⟨cs, el, f, by rw [p.old B hB]; exact h1, h2⟩
end

section
variable {P : Program} {E : Env} {rec : Rec} {loc env : Regs} {h : Heap} {f : K} {r : Fin2} {o : Oper}

theorem refOnly_some {v : AV} {b : Nat} (h : refOnly v = some b) : ∃ z off n cap, v = .ref b z off n cap ∧ z = 1 := by
  cases v with
  | ref b' z off n cap =>
    obtain ⟨h1, h2⟩ := ifb_none (show ifb (Nat.beq z 1) (some b') none = some b from h)
    cases h2; exact ⟨_, _, _, _, rfl, Nat.eq_of_beq_eq_true h1⟩
  | _ => cases h
theorem beq_eq_of {a b : Nat} (h : Nat.beq a b = true) : a = b := Nat.eq_of_beq_eq_true h

theorem freeze_wrote {w : World} {B n : Nat} {cells : Array Value} {elem : TypeId} {lo hi : Nat} (hget : w.heap[B]? = some (.cells cells elem (lo, hi))) (k : Nat) (hk : k ≠ 0) :
    Wrote w (w.freeze ⟨B, n, none⟩ k) B cells elem (if lo == hi then (n, n + k) else (min lo n, max hi (n + k))) := by
  refine ⟨?_, fun C hC => ?_, ?_, ?_, ?_, ?_⟩ <;> unfold World.freeze <;> rw [if_neg hk]
  · simp [Array.getElem?_modify, hget]
  · simp [Array.getElem?_modify, Ne.symm hC]
  · simp

/-- to a whole number, to a string -/
def isIntStr (i : TI) : Bool := match i.td with | .int _ => true | .str => true | _ => false

theorem Sound.convP (hT : TypesOk P E) {sr d : Nat} {x : Operand} (ho : o.op = .convert sr d x) (hk : ∀ di, E.T d = some di → isIntStr di = true) (e : evConv sr d x E rec loc env h f = some r) : SoundP P o loc env h f r := by
  obtain ⟨v, hv, e1⟩ := ob_some e
  obtain ⟨si, hsi, e2⟩ := ob_some e1
  obtain ⟨di, hdi, e3⟩ := ob_some e2
  obtain ⟨sd, hsd, hso⟩ := (hT sr si hsi).und
  obtain ⟨dd, hdd, hdo⟩ := (hT d di hdi).und
  have hk := hk di hdi
  have fin : ∀ {φ I w} {a : Act} {c : Value} {u}, (Go.convert sr d (a.eval x)).run P w = .ok c w → RelV w φ I u c → PureAt P (execOp a.eval o) φ I w u := by
    intro φ I w a c u hc hp
    refine PureAt.mk (v := c) ?_ hp
    unfold execOp; simp only [ho]; exact run_v hc
  rcases di with ⟨dtd, dsize, dzero, deq⟩
  rcases si with ⟨std, ssize, szero, seq⟩
  dsimp only at hso hdo e3
  cases dtd with
  | int k =>
    change op2 (toInt v) (fun _ n => f (mkInt k (wrapF k n)) h) = some r at e3
    obtain ⟨k', n, hn, e4⟩ := op2_some e3
    obtain rfl := toInt_some hn
    refine ⟨_, e4, fun φ I w a s hR => ?_⟩
    have hc := (opv_rel hR hv).int_inv
    cases hdo
    refine fin (c := .int k (k.wrap n)) ?_ (id (.imm _ _ (by rw [mkInt_eq, wrapF_eq]; exact .int _ _)))
    rw [hc]; simp [Go.convert, run_underlying hsd, run_underlying hdd, Conv.intToInt]
  | str =>
    cases hdo
    cases std with
    | str =>
      change ob (toStr v) (fun l => f (.str l) h) = some r at e3
      obtain ⟨l, hl, e4⟩ := ob_some e3
      obtain rfl := toStr_some hl
      refine ⟨_, e4, fun φ I w a s hR => ?_⟩
      obtain ⟨st, hc, rfl⟩ := (opv_rel hR hv).str_inv
      refine fin (c := .string st) ?_ (id (.imm _ _ (.str _)))
      rw [hc]; simp [Go.convert, run_underlying hsd, run_underlying hdd]
    | slice sz bts zero u8 =>
      change ifb u8 (ob (elems v h 1) fun xs => ob (bytesOf xs) fun l => f (.str l) h) none = some r at e3
      obtain ⟨h8, e4⟩ := ifb_none e3
      obtain ⟨xs, hxs, e5⟩ := ob_some e4
      obtain ⟨l, hl, e6⟩ := ob_some e5
      obtain ⟨el, rfl, hinfo, hu8, _⟩ := hso.slice_inv
      refine ⟨_, e6, fun φ I w a s hR => ?_⟩
      rcases elems_sound s (opv_rel hR hv) hxs with ⟨st, rfl, hc, _, rfl⟩ | hel
      · -- a string is no slice: its type's description says so; the run is the same
        obtain ⟨h1, _⟩ := bytesOf_some hl
        have hl' : bytesOfStr st = l := List.map_inj_right (fun a b h => by simp [byteCell] at h; exact Int.ofNat.inj h) |>.1 h1
        refine fin (c := .string st) ?_ (id (.imm _ _ (hl' ▸ .str _)))
        rw [hc]; simp [Go.convert, run_underlying hsd, run_underlying hdd]
      · obtain ⟨st, h1, rfl⟩ := bytesToStr_sound (P := P) hel hl hsd (hu8 h8) hdd
        exact fin (c := .string st) h1 (id (.imm _ _ (.str _)))
    | _ => cases e3
  | _ => exact absurd hk Bool.false_ne_true

theorem Sound.convA (hT : TypesOk P E) {sr d : Nat} {x : Operand} (ho : o.op = .convert sr d x) (hk : ∀ di si, E.T d = some di → E.T sr = some si → isSliceTd di = true ∧ isStrTd si = true) (e : evConv sr d x E rec loc env h f = some r) : SoundA P o loc env h f r := by
  obtain ⟨v, hv, e1⟩ := ob_some e
  obtain ⟨si, hsi, e2⟩ := ob_some e1
  obtain ⟨di, hdi, e3⟩ := ob_some e2
  obtain ⟨sd, hsd, hso⟩ := (hT sr si hsi).und
  obtain ⟨dd, hdd, hdo⟩ := (hT d di hdi).und
  have hk := hk di si hdi hsi
  obtain ⟨hk1, hk2⟩ := hk
  obtain rfl := isStrTd_some hso hk2
  rcases di with ⟨dtd, dsize, dzero, deq⟩
  rcases si with ⟨std, ssize, szero, seq⟩
  dsimp only at hso hdo e3
  have h1 : ∃ sz bts zero u8, dtd = .slice sz bts zero u8 := by cases dtd <;> first | exact ⟨_, _, _, _, rfl⟩ | exact absurd hk1 Bool.false_ne_true
  have h2 : std = .str := by cases std <;> first | rfl | exact absurd hk2 Bool.false_ne_true
  obtain ⟨sz, bts, zero, u8, rfl⟩ := h1
  subst h2
  obtain ⟨el, rfl, hinfo, hu8, hsz1⟩ := hdo.slice_inv
  change ifb u8 (ob (toStr v) fun l => newBlk h ⟨l.map byteCell, true, 0⟩ fun b h => f (.ref b 1 0 (len l) none) h) none = some r at e3
  obtain ⟨h8, e4⟩ := ifb_none e3
  obtain ⟨l, hl, e5⟩ := ob_some e4
  obtain rfl := toStr_some hl
  rw [newBlk_eq] at e5
  refine ⟨.blk ⟨l.map byteCell, true, 0⟩, fun b => .ref b 1 0 (len l) none, e5, fun φ I w a hR => ?_⟩
  obtain ⟨st, hc, rfl⟩ := (opv_rel hR hv).str_inv
  have hrun := run_bytes_of_string (P := P) w sr d el st hsd hdd (hu8 h8)
  have run_of : ∀ {c : Value} {w' : World}, (Go.convert sr d (.string st)).run P w = .ok c w' → (execOp a.eval o).run P w = .ok (.value c) w' := by
    intro c w' hc'
    unfold execOp; simp only [ho, hc]; exact run_v hc'
  have hge := grownCap_ge w st.size 0 el
  have hbs : (bytesRow st (grownCap w st.size 0 el)).size = grownCap w st.size 0 el := by simp [bytesRow]; omega
  have mk : NewRow φ I w _ ⟨(bytesOfStr st).map byteCell, true, 0⟩ ⟨w.heap.size, 0, 1, grownCap w st.size 0 el⟩ := NewRow.of (pushed_drew (w := w) (w' := w.alloc (.cells (bytesRow st (grownCap w st.size 0 el)) el ((bytesRow st (grownCap w st.size 0 el)).size, (bytesRow st (grownCap w st.size 0 el)).size + 1))) (pushed_alloc w _))
    ⟨(bytesOfStr st).map byteCell, true, 0⟩ 1 (grownCap w st.size 0 el) (.inr ⟨rfl, Nat.le_refl _⟩) (by omega) (by simp [bytesOfStr]; omega) (fun n row hn => by
      rw [List.getElem?_map] at hn
      cases hq : (bytesOfStr st)[n]? <;> simp [hq] at hn; rw [← hn]; rfl)
    (fun n j row v hn hj => by
      rw [List.getElem?_map] at hn
      cases hq : (bytesOfStr st)[n]? with
      | none => simp [hq] at hn
      | some q =>
        simp [hq] at hn; subst hn
        cases j with
        | succ j => simp [byteCell] at hj
        | zero =>
          simp [byteCell] at hj; subst hj
          refine ⟨.int .u8 q, ?_, rfl, .imm _ _ (.int _ _)⟩
          unfold bytesOfStr at hq
          rw [List.getElem?_map] at hq
          have hlt : n < st.data.size := by
            rcases Nat.lt_or_ge n st.data.size with h | h
            · exact h
            · rw [List.getElem?_eq_none (by simpa using h)] at hq; cases hq
          rw [List.getElem?_eq_getElem (by simpa using hlt)] at hq
          simp at hq
          unfold bytesRow
          rw [Array.getElem?_append_left (by simpa using hlt)]
          simp [hlt, hq]
          exact ⟨_, Array.getElem?_eq_getElem hlt, congrArg Int.ofNat hq⟩)
  refine ⟨_, _, _, run_of hrun, mk, fun b φ' I' w'' hb => .ref _ _ _ _ _ _ _ hb rfl (.inl ⟨grownCap w st.size 0 el, ?_, ?_, by simp [CapIs]⟩)⟩
  · simp only [len_eq, at_]; simp [bytesOfStr]
  · simp only [len_eq]; simp [bytesOfStr]; omega

theorem Sound.convF (hT : TypesOk P E) {sr d : Nat} {x : Operand} (ho : o.op = .convert sr d x) (hk : ∀ di si, E.T d = some di → E.T sr = some si → isSliceTd di = true ∧ isSliceTd si = true) (e : evConv sr d x E rec loc env h f = some r) : Sound P (fun a => execOp a.eval o) loc env h f r := by
  obtain ⟨v, hv, e1⟩ := ob_some e
  obtain ⟨si, hsi, e2⟩ := ob_some e1
  obtain ⟨di, hdi, e3⟩ := ob_some e2
  obtain ⟨sd, hsd, hso⟩ := (hT sr si hsi).und
  obtain ⟨dd, hdd, hdo⟩ := (hT d di hdi).und
  have fin : ∀ {φ I w} {a : Act} {c : Value} {w' : World} {u h'}, (Go.convert sr d (a.eval x)).run P w = .ok c w' → Post h φ I w u h' c w' → OpR P (execOp a.eval o) w (Post h φ I w u h') := by
    intro φ I w a c w' u h' hc hp
    refine OpR.value (v := c) (w' := w') ?_ hp
    unfold execOp; simp only [ho]; exact run_v hc
  obtain ⟨hk1, hk2⟩ := hk di si hdi hsi
  rcases di with ⟨dtd, dsize, dzero, deq⟩
  rcases si with ⟨std, ssize, szero, seq⟩
  dsimp only at hso hdo e3
  have h1 : ∃ sz bts zero u8, dtd = .slice sz bts zero u8 := by cases dtd <;> first | exact ⟨_, _, _, _, rfl⟩ | exact absurd hk1 Bool.false_ne_true
  have h2 : ∃ sz bts zero u8, std = .slice sz bts zero u8 := by cases std <;> first | exact ⟨_, _, _, _, rfl⟩ | exact absurd hk2 Bool.false_ne_true
  obtain ⟨sz, bts, zero, u8, rfl⟩ := h1
  obtain ⟨sz2, bts2, zero2, u82, rfl⟩ := h2
  obtain ⟨el, rfl, hinfo, hu8, hsz1⟩ := hdo.slice_inv
  change ifb (band u8 (Nat.beq sr d)) (ob (refOnly v) fun b => ob (h.get b) fun _ => f v h) none = some r at e3
  obtain ⟨h1, e4⟩ := ifb_none e3
  obtain ⟨h8, h3⟩ := band_true h1
  have := beq_eq_of h3
  subst this
  obtain ⟨b, hb, e5⟩ := ob_some e4
  obtain ⟨bl, hbl, e6⟩ := ob_some e5
  obtain ⟨z, off, n, cap, rfl, hz1⟩ := refOnly_some hb
  refine ⟨_, h, e6, fun φ I w a s hR => ?_⟩
  have hr := opv_rel hR hv
  obtain ⟨L, hL, hz, hrv⟩ := hr.ref_inv
  have hk := s.hr.blk b bl L hbl hL
  obtain ⟨cells, elem, lo, hi, k1, k2, k3, k4⟩ := hk.there
  obtain ⟨A, n0, c0, hA⟩ : ∃ o n0 c0, a.eval x = .slice (some (at_ L.blk o)) n0 c0 := by
    rcases hrv with ⟨c, hc, _⟩ | ⟨_, ⟨o, hc⟩, _⟩ <;> exact ⟨_, _, _, hc⟩
  have hsd' : sd = .slice el := by rw [hsd] at hdd; exact Option.some.inj hdd
  subst hsd'
  have hshape : w.shape? L.blk = some (elem, cells.size) := by unfold World.shape?; rw [k1]
  have hrun : (Go.convert sr sr (a.eval x)).run P w = .ok (a.eval x) (w.freeze ⟨L.blk, cells.size, none⟩ 1) := by
    rw [hA]; simp [Go.convert, run_underlying hsd, run_underlying (hu8 h8), markStringish, at_, hshape]
  have hw := freeze_wrote (n := cells.size) k1 1 (by omega)
  have hfr : ∀ lo' hi', (if lo == hi then (cells.size, cells.size + 1) else (min lo cells.size, max hi (cells.size + 1))) = (lo', hi') → FrOk L.z cells lo' hi' := by
    intro lo' hi' he
    right
    refine ⟨by omega, ?_⟩
    rcases k2 with rfl | ⟨_, h2⟩
    · simp at he; omega
    · split at he <;> cases he <;> omega
  obtain ⟨lo', hi', he⟩ : ∃ lo' hi', (if lo == hi then (cells.size, cells.size + 1) else (min lo cells.size, max hi (cells.size + 1))) = (lo', hi') := ⟨_, _, rfl⟩
  rw [he] at hw
  obtain ⟨s', ex⟩ := s.marked hbl hL k1 (hfr _ _ he) hw
  exact fin hrun ⟨φ, I, ex, s', hr.ext ex.toExt0⟩

theorem Sound.convert (hT : TypesOk P E) {sr d : Nat} {x : Operand} (ho : o.op = .convert sr d x) (e : evConv sr d x E rec loc env h f = some r) : Sound P (fun a => execOp a.eval o) loc env h f r := by
  obtain ⟨v, hv, e1⟩ := ob_some e
  obtain ⟨si, hsi, e2⟩ := ob_some e1
  obtain ⟨di, hdi, e3⟩ := ob_some e2
  cases hd : isIntStr di with
  | true => exact (Sound.convP hT ho (fun di' h' => by rw [hdi] at h'; cases h'; exact hd) e).sound
  | false =>
    rcases di with ⟨dtd, dsize, dzero, deq⟩
    rcases si with ⟨std, ssize, szero, seq⟩
    dsimp only at e3
    cases dtd with
    | slice sz bts zero u8 =>
      cases std with
      | str => exact (Sound.convA hT ho (fun di' si' h1 h2 => by rw [hdi] at h1; rw [hsi] at h2; cases h1; cases h2; exact ⟨rfl, rfl⟩) e).sound
      | slice sz2 bts2 zero2 u82 => exact Sound.convF hT ho (fun di' si' h1 h2 => by rw [hdi] at h1; rw [hsi] at h2; cases h1; cases h2; exact ⟨rfl, rfl⟩) e
      | _ => cases e3
    | int k => exact absurd hd (by simp [isIntStr])
    | str => exact absurd hd (by simp [isIntStr])
    | _ => cases e3
end
end Go.Den
