/- A part of a machine that computes what the program computes, and of the proof that it does -/
import Derived.Test.YtngjccjmhlhlbaaGreatDenQ
set_option linter.unusedVariables false
set_option linter.unusedSimpArgs false
set_option linter.unusedSectionVars false
namespace Go.Den
open Go

variable [Val]

section
variable {φ : Pos} {I : Imm} {h : Heap} {w w' : World}

noncomputable def hput (h : Heap) (b : Nat) (l : List (AV × AV)) : Heap := ⟨h.next, h.blks, upd h.maps b l, h.mark, h.log⟩

/-- another map in its place -/
theorem Sim.putMap (s : Sim φ I h w) {b : Nat} {l l' : List (AV × AV)} {L : Loc} (hb : lk h.maps b = some l) (hL : φ b = some L) {es es' : Array MapEntry} {clock clock' : Nat} (hget : w.heap[L.blk]? = some (.map es clock))
    (hw : w' = { w with heap := w.heap.setIfInBounds L.blk (.map es' clock') }) (hsz : es'.size = l'.length)
    (hr : ∀ (i : Nat) (p : AV × AV) (e : MapEntry), l'[i]? = some p → es'[i]? = some e → RelV w φ I p.1 e.key ∧ RelV w φ I p.2 e.val) : Sim φ I (hput h b l') w' ∧ HExt h φ I w (hput h b l') φ I w' := by
  subst hw
  have hlt := s.hr.lt b L hL
  have hold : ∀ B, B ≠ L.blk → (w.heap.setIfInBounds L.blk (.map es' clock'))[B]? = w.heap[B]? := fun B hB => by rw [Array.getElem?_setIfInBounds_ne (Ne.symm hB)]
  have hnew : (w.heap.setIfInBounds L.blk (.map es' clock'))[L.blk]? = some (.map es' clock') := by simp [hlt]
  have himm : ∀ B x, I B x → B ≠ L.blk := fun B x hx he => by
    obtain ⟨cs, el, fr, h1, _⟩ := s.hr.imm B x hx
    rw [he, hget] at h1; cases h1
  have e : Ext0 φ I w φ I { w with heap := w.heap.setIfInBounds L.blk (.map es' clock') } :=
    { os := rfl, tape := rfl, output := rfl, size := by simp, sub := fun _ _ h => h, isub := fun _ _ h => h
      icell := fun B x hx => cell_of_heap (hold B (himm B x hx)) x }
  have hget' : (hput h b l').get = h.get := by rw [get_eq, get_eq]; rfl
  have hlk : ∀ c, lk (hput h b l').maps c = if b = c then (lk h.maps c).map (fun _ => l') else lk h.maps c := fun c => by unfold hput; rw [lk_upd]
  have hkn : ∀ c, Kn (hput h b l') c → Kn h c := by
    intro c hK
    unfold Kn at *
    rw [hget'] at hK
    rcases hK with hK | ⟨l1, hK⟩
    · exact .inl hK
    · rw [hlk] at hK; split at hK
      · cases hq : lk h.maps c with
        | none => rw [hq] at hK; cases hK
        | some l0 => exact .inr ⟨l0, rfl⟩
      · exact .inr ⟨_, hK⟩
  have hblk : ∀ c k' L', h.get c = some k' → φ c = some L' → L'.blk ≠ L.blk := fun c k' L' hc hL' he => by
    obtain ⟨cs, el, lo, hi, h1, _⟩ := (s.hr.blk c k' L' hc hL').there
    rw [he, hget] at h1; cases h1
  refine ⟨⟨⟨fun c k' L' hc hL' => ?_, fun c l1 L' hc hL' => ?_, fun c c' k' k1 L' L1 hc hc' hL' hL1 => ?_, fun c c' l1 l2 L1 L2 hc hc' hL1 hL2 hne => ?_, fun c L' hL' => by simpa using s.hr.lt c L' hL', fun B x hx => ?_⟩, ⟨s.ok.pos, fun c k' hc => ?_, fun c l1 hc => ?_, fun c k' hc => ?_, s.ok.ub, s.ok.um.upd _ _⟩⟩, ⟨e, Nat.le_refl _, fun B _ hn => hold B fun he => hn b L hL (.inr ⟨_, hb⟩) he.symm, fun c M hc hK => .inl ⟨hc, hkn c hK⟩, fun _ _ h => .inl h, fun c hK => .inl (hkn c hK), fun _ _ h => .inl h⟩⟩
  · rw [hget'] at hc
    exact (s.hr.blk c k' L' hc hL').mono (hold _ (hblk c k' L' hc hL')) fun _ _ hv => hv.ext e
  · rw [hlk] at hc
    split at hc
    · subst_vars
      rw [hb] at hc; cases hc
      rw [hL] at hL'; cases hL'
      exact ⟨es', clock', hnew, hsz, fun i p x hi hx => ⟨(hr i p x hi hx).1.ext e, (hr i p x hi hx).2.ext e⟩⟩
    · rename_i hne
      exact (s.hr.map c l1 L' hc hL').mono (hold _ (s.hr.minj c b l1 l L' L hc hb hL' hL (Ne.symm hne))) fun _ _ hv => hv.ext e
  · rw [hget'] at hc hc'; exact s.hr.inj c c' k' k1 L' L1 hc hc' hL' hL1
  · have hold' : ∀ c l1, lk (hput h b l').maps c = some l1 → ∃ l0, lk h.maps c = some l0 := fun c l1 hc => by
      rw [hlk] at hc; split at hc
      · cases hq : lk h.maps c with
        | none => rw [hq] at hc; cases hc
        | some l0 => exact ⟨l0, rfl⟩
      · exact ⟨l1, hc⟩
    obtain ⟨m1, h1⟩ := hold' c l1 hc
    obtain ⟨m2, h2⟩ := hold' c' l2 hc'
    exact s.hr.minj c c' m1 m2 L1 L2 h1 h2 hL1 hL2 hne
  · obtain ⟨cs, el, fr, h1, h2⟩ := s.hr.imm B x hx
    exact ⟨cs, el, fr, by rw [← h1]; exact hold B (himm B x hx), h2⟩
  · rw [hget'] at hc; exact s.ok.blks c k' hc
  · rw [hlk] at hc; split at hc
    · cases hq : lk h.maps c with
      | none => rw [hq] at hc; cases hc
      | some l0 => exact s.ok.maps c l0 hq
    · exact s.ok.maps c l1 hc
  · rw [hget'] at hc
    have := s.ok.apart c k' hc
    rw [hlk]; split <;> simp [this]
end

theorem isMapTd_some {P : Program} {d : TypeDesc} {i : TI} (hd : TdOk P d i.td) (e : isMapTd i = true) : ∃ k el kk s b zero, d = .map k el ∧ i.td = .map s b zero ∧ P.underlying k = some (.int kk) ∧ (∃ bts, InfoOk P el s bts zero) ∧ (b = false → ∀ ti z, P.info? el = some ti → ti.zero = some z → z.oneCell' = true) := by
  rcases i with ⟨td, size, zero, eq⟩; cases td <;> first | (exact absurd e Bool.false_ne_true) | (dsimp only at hd; cases hd; exact ⟨_, _, _, _, _, _, rfl, rfl, by assumption, by assumption, by assumption⟩)

theorem cellEq_int {x : AV} {k : IntKind} {n : Int} {b : Bool} (e : cellEq x (.int k n) = some b) : ∃ m, x = .int k m ∧ b = (m == n) := by
  cases x <;> first | cases e | skip
  · rename_i j m
    obtain ⟨h1, h2⟩ := ifb_none (show ifb (kindBeq j k) (some (intBeq m n)) none = some b from e)
    cases h2
    obtain rfl := kindBeq_eq h1
    exact ⟨m, rfl, intBeq_eq m n⟩
  all_goals cases e

theorem mapFind_sound {P : Program} {w : World} {φ : Pos} {I : Imm} {kk k : IntKind} {n : Int} : ∀ {l : List (AV × AV)} {es : List MapEntry} {res : Option AV} (i : Nat), mapFind l (.int k n) = some res → es.length = l.length →
    (∀ (i : Nat) (p : AV × AV) (e : MapEntry), l[i]? = some p → es[i]? = some e → RelV w φ I p.1 e.key ∧ RelV w φ I p.2 e.val) →
    (res = none ∧ Instr.findNow (.int kk) (.int k n) es i = some none) ∨ (∃ v j c, res = some v ∧ Instr.findNow (.int kk) (.int k n) es i = some (some (j, c)) ∧ RelV w φ I v c)
  | [], es, res, i, e, hl, _ => by
    cases e
    cases es with
    | nil => exact .inl ⟨rfl, rfl⟩
    | cons _ _ => simp at hl
  | p :: l, es, res, i, e, hl, hr => by
    cases es with
    | nil => simp at hl
    | cons x es =>
      obtain ⟨b, hb, e1⟩ := ob_some (show ob (cellEq p.1 (.int k n)) (fun b => ifb b (some (some p.2)) (mapFind l (.int k n))) = some res from e)
      obtain ⟨m, hm, rfl⟩ := cellEq_int hb
      obtain ⟨h1, h2⟩ := hr 0 p x rfl rfl
      rw [hm] at h1
      have hk := h1.int_inv
      have hs : Instr.sameNow (.int kk) (.int k n) x.key = some (n == m) := by rw [hk]; simp [Instr.sameNow]
      have hsym : (m == n) = (n == m) := by
        by_cases hq : m = n
        · rw [hq]
        · rw [beq_eq_false_iff_ne.2 hq, beq_eq_false_iff_ne.2 (Ne.symm hq)]
      rw [hsym] at e1
      unfold Instr.findNow
      rw [hs]
      rcases ifb_some e1 with ⟨hq, e2⟩ | ⟨hq, e2⟩
      · cases e2
        rw [hq]
        exact .inr ⟨_, _, _, rfl, rfl, h2⟩
      · rw [hq]
        exact mapFind_sound (P := P) (i + 1) e2 (by simpa using hl) (fun i p e hi he => hr (i + 1) p e (by simpa using hi) (by simpa using he))

section
variable {P : Program} {E : Env} {rec : Rec} {loc env : Regs} {h : Heap} {f : K} {r : Fin2} {o : Oper}

theorem run_checkKey_succ {t : TypeId} {kk : IntKind} (ht : P.underlying t = some (.int kk)) (b : Bool) (v : Value) (w : World) (n : Nat) : (Instr.checkKey b (n + 1) t v).run P w = .ok () w := by
  simp [Instr.checkKey, run_underlying ht w]
theorem run_checkKey_int {t : TypeId} {kk : IntKind} (ht : P.underlying t = some (.int kk)) (b : Bool) (v : Value) (w : World) : (Instr.checkKey b 10000 t v).run P w = .ok () w := run_checkKey_succ ht b v w 9999

theorem Sound.makeMap {t : Nat} {rs : Option Operand} (ho : o.op = .makeMap t rs) (e : evMakeMap rs E rec loc env h f = some r) : SoundA P o loc env h f r := by
  cases rs with
  | some _ => cases e
  | none =>
    have e1 : f (.mp h.next) (hmap h []) = some r := by
      cases h; simpa [evMakeMap, forceNat_eq, hmap] using e
    refine ⟨.map, fun b => .mp b, e1, fun φ I w a hR => ⟨.map (some w.heap.size), w.alloc (.map #[] 0), ⟨w.heap.size, 0, 0, 0⟩, ?_, ⟨pushed_alloc w _, rfl⟩, fun b φ' I' w'' hb => .mp b ⟨w.heap.size, 0, 0, 0⟩ hb⟩⟩
    unfold execOp; simp only [ho]; apply run_v
    simp [Instr.makeMap]

theorem Sound.insert (hT : TypesOk P E) {t : Nat} {m k x : Operand} (ho : o.op = .insert t m k x) (e : evInsert t m k x E rec loc env h f = some r) : Sound P (fun a => execOp a.eval o) loc env h f r := by
  obtain ⟨i, hi, e1⟩ := ob_some e
  obtain ⟨himap, e2⟩ := ifb_none e1
  obtain ⟨mv, hmv, e3⟩ := ob_some e2
  obtain ⟨kv, hkv, e4⟩ := ob_some e3
  obtain ⟨v, hv, e5⟩ := ob_some e4
  obtain ⟨b, hb, e6⟩ := ob_some e5
  obtain ⟨kk', n, hn, e7⟩ := op2_some e6
  obtain rfl := toInt_some hn
  obtain rfl := toMp_some hb
  have e8 : ∃ l, lk h.maps b = some l ∧ mapFind l (.int kk' n) = some none ∧ f (.tup []) (hput h b (l ++ [(.int kk' n, v)])) = some r := by
    cases h with
    | mk next blks maps mark log =>
      obtain ⟨l, hl, e8⟩ := ob_some (show ob (lk maps b) (fun l => ob (mapFind l (.int kk' n)) fun r => @Option.rec AV (fun _ => Option Fin2)
        (appK l [(.int kk' n, v)] fun l => updK maps b l fun maps => f (.tup []) ⟨next, blks, maps, mark, log⟩) (fun _ => none) r) = some r from e7)
      obtain ⟨q, hq, e9⟩ := ob_some e8
      cases q with
      | some _ => cases e9
      | none =>
        rw [appK_eq, updK_eq] at e9
        exact ⟨l, hl, hq, e9⟩
  obtain ⟨l, hl, hq, e9⟩ := e8
  refine ⟨_, _, e9, fun φ I w a s hR => ?_⟩
  obtain ⟨d, hd, hdo⟩ := (hT t i hi).und
  obtain ⟨kt, el, kk, sz, bb, zero, rfl, htd, hkt, hinfo, hb0⟩ := isMapTd_some hdo himap
  obtain ⟨L, hL, hc⟩ := (opv_rel hR hmv).mp_inv
  have hk := (opv_rel hR hkv).int_inv
  have hx := opv_rel hR hv
  obtain ⟨es, clock, h1, h2, h3⟩ := (s.hr.map b l L hl hL).there
  rcases mapFind_sound (P := P) (kk := kk) (es := es.toList) 0 hq (by simpa using h2) (fun i p e hi he => h3 i p e hi (by simpa using he)) with ⟨_, hf⟩ | ⟨_, _, _, hf, _⟩
  · have hw := s.putMap (l' := l ++ [(.int kk' n, v)]) (es' := es.push ⟨.int kk' n, a.eval x, clock⟩) (clock' := clock + 1) hl hL h1 rfl (by simp [h2]) (fun i p e hi he => by
      rw [Array.getElem?_push] at he
      rw [List.getElem?_append] at hi
      split at he
      · rename_i heq
        cases he
        rw [if_neg (by omega)] at hi
        rw [show i - l.length = 0 by omega] at hi
        simp at hi; subst hi
        exact ⟨.imm _ _ (.int _ _), hx⟩
      · rename_i hne
        split at hi
        · exact h3 i p e hi he
        · have hil := (List.getElem?_eq_some_iff.1 hi).1
          simp at hil
          exfalso
          have := (Array.getElem?_eq_some_iff.1 he).1
          omega)
    refine OpR.skip (w' := { w with heap := w.heap.setIfInBounds L.blk (.map (es.push ⟨.int kk' n, a.eval x, clock⟩) (clock + 1)) }) ?_ ⟨φ, I, hw.2, hw.1, undef_rel⟩
    unfold execOp; simp only [ho, hc, hk]; apply run_u
    have hfk : (Instr.findKey kt (.int kk' n) es.toList).run P w = .ok none w := by
      simp [Instr.findKey, run_underlying hkt w, hf]
    have hgo : (getObj L.blk).run P w = .ok (.map es clock) w := by simp [getObj, Sem.run, h1]
    have hso : ∀ o, (setObj L.blk o).run P w = .ok () { w with heap := w.heap.setIfInBounds L.blk o } := fun o => by simp [setObj, Sem.run, h1]
    simp only [Instr.mapUpdate, Sem.run_bind, run_underlying hd w, Result.andThen_ok, hgo, run_checkKey_int hkt, hfk, hso]
  · cases hf

theorem mapZero_some {i : TI} {z : AV} (e : mapZero i = some z) : ∃ s zero, i.td = .map s false zero ∧ zero = [z] := by
  rcases i with ⟨td, size, zr, eq⟩
  cases td with
  | map s b zero =>
    obtain ⟨h1, h2⟩ := ifb_none' (show ifb b none (single zero) = some z from e)
    subst h1
    refine ⟨s, zero, rfl, ?_⟩
    cases zero with
    | nil => cases h2
    | cons y zero => cases zero with
      | nil => cases h2; rfl
      | cons _ _ => cases h2
  | _ => cases e

theorem Sound.lookup (hT : TypesOk P E) {t : Nat} {m k : Operand} {ok : Bool} (ho : o.op = .lookup t m k ok) (e : evLookup t m k ok E rec loc env h f = some r) : SoundP P o loc env h f r := by
  obtain ⟨i, hi, e1⟩ := ob_some e
  obtain ⟨mv, hmv, e2⟩ := ob_some e1
  obtain ⟨kv, hkv, e3⟩ := ob_some e2
  obtain ⟨b, hb, e4⟩ := ob_some e3
  obtain ⟨kk', n, hn, e5⟩ := op2_some e4
  obtain ⟨z, hz, e6⟩ := ob_some e5
  obtain ⟨l, hl, e7⟩ := ob_some e6
  obtain ⟨q, hq, e8⟩ := ob_some e7
  obtain rfl := toInt_some hn
  obtain rfl := toMp_some hb
  obtain ⟨s0, zero, htd, rfl⟩ := mapZero_some hz
  have e9 : ∃ v b, f (ifb ok (.tup [v, .bool b]) v) h = some r ∧ ((q = none ∧ v = z ∧ b = false) ∨ (q = some v ∧ b = true)) := by
    cases q with
    | none => exact ⟨z, false, by cases ok <;> exact e8, .inl ⟨rfl, rfl, rfl⟩⟩
    | some v => exact ⟨v, true, by cases ok <;> exact e8, .inr ⟨rfl, rfl⟩⟩
  obtain ⟨v, bb, e10, hvb⟩ := e9
  refine ⟨_, e10, fun φ I w a s hR => ?_⟩
  obtain ⟨d, hd, hdo⟩ := (hT t i hi).und
  obtain ⟨kt, el, kk, sz, b', zr, rfl, htd', hkt, ⟨bts, hinfo⟩, hb0⟩ := isMapTd_some hdo (by rcases i with ⟨td, _, _, _⟩; dsimp only at htd; subst htd; rfl)
  rw [htd] at htd'; cases htd'
  obtain ⟨L, hL, hc⟩ := (opv_rel hR hmv).mp_inv
  have hk := (opv_rel hR hkv).int_inv
  obtain ⟨es, clock, h1, h2, h3⟩ := (s.map b l L hl hL).there
  have hgo : (getObj L.blk).run P w = .ok (.map es clock) w := by simp [getObj, Sem.run, h1]
  have fin : ∀ c bb', (Instr.lookup t (.map (some L.blk)) (.int kk' n) ok).run P w = .ok (if ok then .tuple #[c, .bool bb'] else c) w → bb = bb' → RelV w φ I v c → PureAt P (execOp a.eval o) φ I w (ifb ok (.tup [v, .bool bb]) v) := by
    intro c bb' hrun hbb hrel
    subst hbb
    refine PureAt.mk (v := if ok then .tuple #[c, .bool bb] else c) ?_ (id ?_)
    · unfold execOp; simp only [ho, hc, hk]; exact run_v hrun
    · cases ok
      · exact hrel
      · refine .tup _ _ rfl (fun j x y hj hy => ?_)
        match j with
        | 0 => simp at hj hy; subst hj; subst hy; exact hrel
        | 1 => simp at hj hy; subst hj; subst hy; exact .imm _ _ (.bool _)
        | j + 2 => simp at hj
  rcases mapFind_sound (P := P) (kk := kk) (es := es.toList) 0 hq (by simpa using h2) (fun i p e hi he => h3 i p e hi (by simpa using he)) with ⟨rfl, hf⟩ | ⟨v', j, c, rfl, hf, hrel⟩
  · obtain ⟨_, rfl, rfl⟩ : _ ∧ v = z ∧ bb = false := hvb.elim id (fun h => absurd h.1 (by simp))
    obtain ⟨ti, zv, i1, i2, i3, i4, i5⟩ := hinfo.info
    have hone := hb0 rfl ti zv i1 i4
    have hcells : zv.cells = #[zv] := by cases zv <;> first | rfl | simp [Value.oneCell'] at hone
    have hrel : RelV w φ I v zv := .imm _ _ ((i5.2 0 v zv rfl (by rw [hcells]; rfl)).2 w I)
    refine fin zv false ?_ rfl hrel
    have hzv : (zeroValue el).run P w = .ok zv w := by simp [zeroValue, typeInfo, i1, i4]
    simp [Instr.lookup, run_underlying hd w, hgo, run_checkKey_int hkt, Instr.findKey, run_underlying hkt w, hf, hzv]
  · obtain ⟨h4, rfl⟩ : some v' = some v ∧ bb = true := hvb.elim (fun h => absurd h.1 (by simp)) id
    cases h4
    refine fin c true ?_ rfl hrel
    simp [Instr.lookup, run_underlying hd w, hgo, run_checkKey_int hkt, Instr.findKey, run_underlying hkt w, hf]
end
end Go.Den
