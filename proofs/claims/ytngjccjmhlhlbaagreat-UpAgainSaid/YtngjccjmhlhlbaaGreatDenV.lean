/- A part of a machine that computes what the program computes, and of the proof that it does -/
import Derived.Test.YtngjccjmhlhlbaaGreatDenU
set_option linter.unusedVariables false
set_option linter.unusedSimpArgs false
set_option linter.unusedSectionVars false
namespace Go.Den
open Go

variable [Val]

section
variable {P : Program} {φ : Pos} {I : Imm} {h : Heap} {w : World}

/-! ### a result as a value that refers to no block -/
theorem mapOpt_some {f : AV → Option (AV × List Nat)} : ∀ {l r : Row} {bs : List Nat}, mapOpt f l = some (r, bs) → r.length = l.length ∧ ∀ (j : Nat) (y : AV), r[j]? = some y → ∃ x cs, l[j]? = some x ∧ f x = some (y, cs) ∧ ∀ b ∈ cs, b ∈ bs
  | [], r, bs, e => by cases e; exact ⟨rfl, fun j y hj => by simp at hj⟩
  | x :: l, r, bs, e => by
    obtain ⟨y, c1, h1, e1⟩ := op2_some (show op2 (f x) (fun y bs => op2 (mapOpt f l) fun r cs => appK bs cs fun bs => some (y :: r, bs)) = some (r, bs) from e)
    obtain ⟨r', c2, h2, e2⟩ := op2_some e1
    rw [appK_eq] at e2; cases e2
    obtain ⟨i1, i2⟩ := mapOpt_some h2
    refine ⟨by simp [i1], fun j z hj => ?_⟩
    cases j with
    | zero => simp at hj; subst hj; exact ⟨x, c1, rfl, h1, fun b hb => by simp [hb]⟩
    | succ j =>
      obtain ⟨x', cs, q1, q2, q3⟩ := i2 j z (by simpa using hj)
      exact ⟨x', cs, by simpa using q1, q2, fun b hb => by simp [q3 b hb]⟩
theorem mapRows_some {f : AV → Option (AV × List Nat)} : ∀ {l r : List Row} {bs : List Nat}, mapRows f l = some (r, bs) → r.length = l.length ∧ ∀ (j : Nat) (y : Row), r[j]? = some y → ∃ x cs, l[j]? = some x ∧ mapOpt f x = some (y, cs) ∧ ∀ b ∈ cs, b ∈ bs
  | [], r, bs, e => by cases e; exact ⟨rfl, fun j y hj => by simp at hj⟩
  | x :: l, r, bs, e => by
    obtain ⟨y, c1, h1, e1⟩ := op2_some (show op2 (mapOpt f x) (fun y bs => op2 (mapRows f l) fun r cs => appK bs cs fun bs => some (y :: r, bs)) = some (r, bs) from e)
    obtain ⟨r', c2, h2, e2⟩ := op2_some e1
    rw [appK_eq] at e2; cases e2
    obtain ⟨i1, i2⟩ := mapRows_some h2
    refine ⟨by simp [i1], fun j z hj => ?_⟩
    cases j with
    | zero => simp at hj; subst hj; exact ⟨x, c1, rfl, h1, fun b hb => by simp [hb]⟩
    | succ j =>
      obtain ⟨x', cs, q1, q2, q3⟩ := i2 j z (by simpa using hj)
      exact ⟨x', cs, by simpa using q1, q2, fun b hb => by simp [q3 b hb]⟩

/-- cells that stay as they are, with the blocks' too -/
def Wide (φ : Pos) (I : Imm) (h : Heap) (bs : List Nat) : Imm := fun B x => I B x ∨ ∃ b ∈ bs, ∃ k L, h.get b = some k ∧ φ b = some L ∧ B = L.blk ∧ x < L.base + k.els.length * L.z

theorem RelI.wide {v : AV} {c : Value} (hv : RelI w I v c) (bs : List Nat) : RelI w (Wide φ I h bs) v c := hv.mono (fun _ _ h => .inl h) (fun _ _ _ => rfl)
theorem Wide.mono {bs cs : List Nat} (hb : ∀ b ∈ bs, b ∈ cs) {v : AV} {c : Value} (hv : RelI w (Wide φ I h bs) v c) : RelI w (Wide φ I h cs) v c :=
  hv.mono (fun _ _ h => h.imp id fun ⟨b, h1, h2⟩ => ⟨b, hb b h1, h2⟩) (fun _ _ _ => rfl)

theorem resolve_sound (s : Sim φ I h w) : ∀ (n : Nat) (v v' : AV) (bs : List Nat) (c : Value), resolve h n v = some (v', bs) → RelV w φ I v c → RelI w (Wide φ I h bs) v' c
  | 0, v, v', bs, c, e, hv => by cases e
  | n + 1, v, v', bs, c, e, hv => by
    have ih := fun (v v' : AV) (bs : List Nat) (c : Value) => resolve_sound s n v v' bs c
    cases v with
    | int k n => cases e; rw [hv.int_inv]; exact .int _ _
    | bool b => cases e; rw [hv.bool_inv]; exact .bool _
    | str l => cases e; obtain ⟨st, rfl, rfl⟩ := hv.str_inv; exact .str _
    | nil => cases e; rw [hv.nil_inv]; exact .nil
    | nilp => cases e; cases hv with | imm _ _ h => cases h; exact .nilp
    | nilf => cases e; cases hv with | imm _ _ h => cases h; exact .nilf
    | sl nn z xs => cases e; exact hv.sl_inv.wide _
    | ref b z off m cap =>
      obtain ⟨L, hL, hz, hrv⟩ := hv.ref_inv
      rcases ifb_some (show ifb (Nat.beq m 0) (some (.sl true z [], [])) (ob (elemsRef h b off m) fun xs => op2 (mapRows (resolve h n) xs) fun ys bs => some (.sl true z ys, b :: bs)) = some (v', bs) from e) with ⟨h0, e1⟩ | ⟨h0, e1⟩
      · cases e1
        have := beq_eq_of h0
        subst this
        rcases hrv with ⟨c', rfl, _⟩ | ⟨_, ⟨o, rfl⟩, _⟩ <;> exact .sl0 _ _ _ _ (fun _ => rfl) (fun h => by cases h)
      · obtain ⟨xs, hxs, e2⟩ := ob_some e1
        obtain ⟨ys, cs, hys, e3⟩ := op2_some e2
        cases e3
        obtain ⟨o1, o2⟩ := elemsRef_some hxs
        obtain ⟨y1, y2⟩ := mapRows_some hys
        have hm : m ≠ 0 := fun hm => by subst hm; simp at h0
        obtain ⟨k, hk, hkx⟩ := o2.resolve_left hm
        have hb := s.hr.blk b k L hk hL
        rcases hrv with ⟨c', rfl, g1, g2⟩ | ⟨h1, _⟩
        · have hlen : ys.length = m := by rw [y1, o1]
          rw [← hlen]
          refine .sl true z ys L.blk (L.base + off * L.z) c' (fun i j => (w.cell? (at_ L.blk (L.base + off * L.z + i * z + j))).getD undef) (fun h => hm (by rw [← hlen, h]; rfl)) (by omega) (fun i r hi => ?_) (fun i j r v hi hj => ?_) (fun i j r v hi hj => ?_) (fun i j r v hi hj => ?_)
          · obtain ⟨x, cs', q1, q2, _⟩ := y2 i r hi
            rw [(mapOpt_some q2).1, hb.rows _ x (hkx i x q1), hz]
          all_goals
            obtain ⟨x, cs', q1, q2, q3⟩ := y2 i r hi
            obtain ⟨q4, q5⟩ := mapOpt_some q2
            obtain ⟨u, cs'', q6, q7, q8⟩ := q5 j v hj
            obtain ⟨d, d1, d2, d3⟩ := hb.cell (hkx i x q1) q6
            rw [Nat.add_mul, hz, ← Nat.add_assoc, ← hz] at d1
            rw [hz] at d1
            have hcell : w.cell? (at_ L.blk (L.base + off * L.z + i * z + j)) = some d := by rw [← d1, hz]
          · refine ⟨by rw [hcell]; rfl, .inr ⟨b, by simp, k, L, hk, hL, rfl, ?_⟩⟩
            have hjl : j < L.z := by rw [← hb.rows _ x (hkx i x q1)]; exact (List.getElem?_eq_some_iff.1 q6).1
            have hil := (List.getElem?_eq_some_iff.1 (hkx i x q1)).1
            have := idx_lt hil hjl
            rw [Nat.add_mul] at this
            rw [← hz]; omega
          · rw [hcell]; exact d2
          · rw [hcell]; exact Wide.mono (fun b' hb' => List.mem_cons_of_mem _ (q3 _ (q8 _ hb'))) (ih u v cs'' d q7 d3)
        · exact absurd h1 hm
    | agg cs =>
      obtain ⟨ds, b', hds, e1⟩ := op2_some (show op2 (mapOpt (resolve h n) cs) (fun ds bs => some (.agg ds, bs)) = some (v', bs) from e)
      cases e1
      obtain ⟨vs, rfl, k1, k2, k3⟩ := hv.agg_inv
      obtain ⟨m1, m2⟩ := mapOpt_some hds
      refine .agg ds vs (by rw [k1, m1]) k2 (fun j x d hj hd => ?_)
      obtain ⟨u, cs', q1, q2, q3⟩ := m2 j x hj
      exact Wide.mono q3 (ih u x cs' d q2 (k3 j u d q1 hd))
    | tup cs =>
      obtain ⟨ds, b', hds, e1⟩ := op2_some (show op2 (mapOpt (resolve h n) cs) (fun ds bs => some (.tup ds, bs)) = some (v', bs) from e)
      cases e1
      obtain ⟨vs, rfl, k1, k3⟩ := hv.tup_inv
      obtain ⟨m1, m2⟩ := mapOpt_some hds
      refine .tup ds vs (by rw [k1, m1]) (fun j x d hj hd => ?_)
      obtain ⟨u, cs', q1, q2, q3⟩ := m2 j x hj
      exact Wide.mono q3 (ih u x cs' d q2 (k3 j u d q1 hd))
    | sym y =>
      cases e
      cases hv with | imm _ _ h => cases h with | sym _ _ h => exact .sym _ _ h
    | _ => cases e

/-! ### blocks that are frozen -/
theorem freezeBlk_spec (k : Blk) : (freezeBlk k).els = k.els ∧ k.fz ≤ (freezeBlk k).fz ∧ k.els.length ≤ (freezeBlk k).fz := by
  rcases k with ⟨els, grow, fz⟩
  simp only [freezeBlk, forceNat_eq, len_eq]
  refine ⟨trivial, ?_⟩
  cases hq : Nat.ble fz els.length with
  | true => have := Nat.le_of_ble_eq_true hq; exact ⟨this, Nat.le_refl _⟩
  | false =>
    have : ¬ fz ≤ els.length := fun h => by have : Nat.ble fz els.length = true := Nat.ble_eq.mpr h; rw [hq] at this; cases this
    exact ⟨Nat.le_refl _, by show els.length ≤ fz; omega⟩
theorem freeze_cons (c : Nat) (bs : List Nat) (blks : AL Blk) : freeze (c :: bs) blks = match lk blks c with | none => freeze bs blks | some k => freeze bs (upd blks c (freezeBlk k)) := by
  change @Option.rec Blk (fun _ => AL Blk) (freeze bs blks) (fun k => updK blks c (freezeBlk k) (freeze bs)) (lk blks c) = _
  cases lk blks c with
  | none => rfl
  | some k => exact updK_eq _ _ _ _
theorem freeze_get : ∀ (bs : List Nat) (blks : AL Blk) (b : Nat) (k' : Blk), lk (freeze bs blks) b = some k' → ∃ k, lk blks b = some k ∧ k'.els = k.els ∧ k.fz ≤ k'.fz ∧ (b ∈ bs → k.els.length ≤ k'.fz)
  | [], blks, b, k', e => ⟨k', e, rfl, Nat.le_refl _, fun h => by simp at h⟩
  | c :: bs, blks, b, k', e => by
    rw [freeze_cons] at e
    cases hq : lk blks c with
    | none =>
      rw [hq] at e
      obtain ⟨k, h1, h2, h3, h4⟩ := freeze_get bs blks b k' e
      refine ⟨k, h1, h2, h3, fun hb => ?_⟩
      rcases List.mem_cons.1 hb with rfl | hb
      · rw [hq] at h1; cases h1
      · exact h4 hb
    | some kc =>
      rw [hq] at e
      obtain ⟨k, h1, h2, h3, h4⟩ := freeze_get bs _ b k' e
      obtain ⟨f1, f2, f3⟩ := freezeBlk_spec kc
      rw [lk_upd] at h1
      split at h1
      · subst_vars
        rw [hq] at h1; cases h1
        exact ⟨kc, hq, by rw [h2, f1], Nat.le_trans f2 h3, fun _ => Nat.le_trans f3 h3⟩
      · rename_i hne
        refine ⟨k, h1, h2, h3, fun hb => ?_⟩
        rcases List.mem_cons.1 hb with rfl | hb
        · exact absurd rfl hne
        · exact h4 hb
theorem freeze_uniq : ∀ (bs : List Nat) (blks : AL Blk), Uniq blks → Uniq (freeze bs blks)
  | [], blks, h => h
  | c :: bs, blks, h => by
    rw [freeze_cons]
    cases lk blks c with
    | none => exact freeze_uniq bs blks h
    | some k => exact freeze_uniq bs _ (h.upd _ _)

/-- some blocks fewer, some of them frozen; more cells of the world stay as they are -/
theorem Sim.closed (s : Sim φ I h w) (bs : List Nat) (h2 : Heap) (hn : h2.next = h.next) (hu : Uniq h2.blks) (hum : Uniq h2.maps)
    (hb : ∀ b k', h2.get b = some k' → ∃ k, h.get b = some k ∧ k'.els = k.els ∧ k.fz ≤ k'.fz ∧ (b ∈ bs → k.els.length ≤ k'.fz))
    (hm : ∀ b l, lk h2.maps b = some l → lk h.maps b = some l) : Sim φ (Wide φ I h bs) h2 w := by
  have hmono : ∀ v c, RelV w φ I v c → RelV w φ (Wide φ I h bs) v c := fun v c hv => hv.mono (fun _ _ h => h) (fun _ _ h => .inl h) (fun _ _ _ => rfl)
  refine ⟨⟨fun b k' L hk hL => ?_, fun b l L hl hL => ?_, fun b b' k1 k2 L L' hk hk' hL hL' hne => ?_, fun b b' l l' L L' hl hl' hL hL' hne => ?_, s.hr.lt, fun B x hx => ?_⟩, ⟨fun b L hL => by rw [hn]; exact s.ok.pos b L hL, fun b k hk => ?_, fun b l hl => ?_, fun b k hk => ?_, hu, hum⟩⟩
  · obtain ⟨k, h1, h3, h4, h5⟩ := hb b k' hk
    have old := s.hr.blk b k L h1 hL
    obtain ⟨cells, elem, lo, hi, c1, c2, c3, c4⟩ := old.there
    refine ⟨⟨cells, elem, lo, hi, c1, c2, c3, fun i j r v hi hj => ?_⟩, by rw [h3]; exact old.room, by rw [h3]; exact old.rows, fun x hx => ?_⟩
    · rw [h3] at hi
      obtain ⟨c, d1, d2, d3⟩ := c4 i j r v hi hj
      exact ⟨c, d1, d2, hmono _ _ d3⟩
    · rcases hx with hx | ⟨b', hb', k1, L', e1, e2, e3, e4⟩
      · have := old.dry x hx
        have := Nat.mul_le_mul_right L.z h4
        omega
      · by_cases hbb : b' = b
        · subst hbb
          rw [h1] at e1; cases e1
          rw [hL] at e2; cases e2
          have := Nat.mul_le_mul_right L.z (h5 hb')
          omega
        · exact absurd e3 (s.hr.inj b b' k k1 L L' h1 e1 hL e2 (Ne.symm hbb))
  · obtain ⟨es, clock, c1, c2, c3⟩ := (s.hr.map b l L (hm b l hl) hL).there
    exact ⟨es, clock, c1, c2, fun i p e hi he => ⟨hmono _ _ (c3 i p e hi he).1, hmono _ _ (c3 i p e hi he).2⟩⟩
  · obtain ⟨k3, h3, _⟩ := hb b k1 hk
    obtain ⟨k4, h4, _⟩ := hb b' k2 hk'
    exact s.hr.inj b b' k3 k4 L L' h3 h4 hL hL' hne
  · exact s.hr.minj b b' l l' L L' (hm _ _ hl) (hm _ _ hl') hL hL' hne
  · rcases hx with hx | ⟨b, hb', k, L, e1, e2, rfl, e4⟩
    · exact s.hr.imm B x hx
    · have old := s.hr.blk b k L e1 e2
      obtain ⟨cells, elem, lo, hi, c1, c2, c3, c4⟩ := old.there
      refine ⟨cells, elem, (lo, hi), c1, ?_⟩
      have := Nat.mul_le_mul_right L.z old.room
      omega
  · obtain ⟨k3, h3, _⟩ := hb b k hk
    rw [hn]; exact s.ok.blks b k3 h3
  · rw [hn]; exact s.ok.maps b l (hm b l hl)
  · obtain ⟨k3, h3, _⟩ := hb b k hk
    have := s.ok.apart b k3 h3
    cases hq : lk h2.maps b with
    | none => rfl
    | some l => rw [hm b l hq] at this; cases this

/-- the same for the run -/
theorem HExt.closed {h0 : Heap} {φ0 : Pos} {I0 : Imm} {w0 : World} (e : HExt h0 φ0 I0 w0 h φ I w) (bs : List Nat) (h2 : Heap) (hn : h2.next = h.next)
    (hk : ∀ b, Kn h2 b → Kn h b) : HExt h0 φ0 I0 w0 h2 φ (Wide φ I h bs) w where
  toExt0 := ⟨e.os, e.tape, e.output, e.size, e.sub, fun B x hx => .inl (e.isub B x hx), e.icell⟩
  next := by rw [hn]; exact e.next
  frame := e.frame
  new b L hb hK := e.new b L hb (hk b hK)
  fresh := e.fresh
  ids b hK := e.ids b (hk b hK)
  inew B x hx := by
    rcases hx with hx | ⟨b, _, k, L, h1, h2, rfl, _⟩
    · exact e.inew B x hx
    · rcases e.new b L h2 (.inl ⟨k, h1⟩) with ⟨h4, h5⟩ | h4 | h4
      · exact .inr (.inr ⟨b, L, h4, h5, rfl⟩)
      · exact .inr (.inl h4)
      · exact .inr (.inr h4)

theorem closeResult_sound {own : Bool} {h0 h1 : Heap} {v : AV} {f : K} {r : Fin2} (e : closeResult own h0.next h1 v f = some r) :
    ∃ v' h2, f v' h2 = some r ∧ ∀ φ0 I0 w0 φ I w c, HExt h0 φ0 I0 w0 h1 φ I w → Sim φ I h1 w → RelV w φ I v c → ∃ φ' I', HExt h0 φ0 I0 w0 h2 φ' I' w ∧ Sim φ' I' h2 w ∧ RelV w φ' I' v' c := by
  rcases ifb_some (show ifb own (f v h1) (op2 (resolve h1 30 v) fun v bs => @Heap.rec (fun _ => Option Fin2) (fun next blks maps mark log => f v ⟨next, freeze bs (dropFrom h0.next blks), dropFrom h0.next maps, mark, log⟩) h1) = some r from e) with ⟨_, e1⟩ | ⟨_, e1⟩
  · exact ⟨v, h1, e1, fun φ0 I0 w0 φ I w c ex s hv => ⟨φ, I, ex, s, hv⟩⟩
  · obtain ⟨v', bs, hr, e2⟩ := op2_some e1
    refine ⟨v', ⟨h1.next, freeze bs (dropFrom h0.next h1.blks), dropFrom h0.next h1.maps, h1.mark, h1.log⟩, by cases h1; exact e2, fun φ0 I0 w0 φ I w c ex s hv => ⟨φ, Wide φ I h1 bs, ?_, ?_, .imm _ _ (resolve_sound s 30 v v' bs c hr hv)⟩⟩
    · refine ex.closed bs _ rfl (fun b hK => ?_)
      unfold Kn at *
      rcases hK with ⟨k', hK⟩ | ⟨l, hK⟩
      · rw [get_eq] at hK
        obtain ⟨k, q1, _⟩ := freeze_get bs _ b k' hK
        exact .inl ⟨k, by rw [get_eq]; exact s.ok.ub.lk_dropFrom q1⟩
      · exact .inr ⟨l, s.ok.um.lk_dropFrom hK⟩
    · refine s.closed bs _ rfl (freeze_uniq _ _ (s.ok.ub.dropFrom _)) (s.ok.um.dropFrom _) (fun b k' hk => ?_) (fun b l hl => s.ok.um.lk_dropFrom hl)
      rw [get_eq] at hk
      obtain ⟨k, q1, q2⟩ := freeze_get bs _ b k' hk
      exact ⟨k, by rw [get_eq]; exact s.ok.ub.lk_dropFrom q1, q2⟩
end
end Go.Den
