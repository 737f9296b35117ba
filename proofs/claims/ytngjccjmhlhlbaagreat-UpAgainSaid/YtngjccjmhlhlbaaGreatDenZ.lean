/- A part of a machine that computes what the program computes, and of the proof that it does -/
import Derived.Test.YtngjccjmhlhlbaaGreatDenY
set_option linter.unusedVariables false
set_option linter.unusedSimpArgs false
set_option linter.unusedSectionVars false
namespace Go.Den
open Go

variable [Val]

/-- an operation that is to be done before another one -/
inductive Bef (ops : Array Oper) : Nat → Nat → Prop
  | edge {j : Nat} {o : Oper} {e : Edge} (h : ops[j]? = some o) (he : e ∈ o.after) (hb : Region.binds .any e = true) : Bef ops e.on j
  | trans {i j k : Nat} (h : Bef ops i j) (h' : Bef ops j k) : Bef ops i k

def effB (ho : HOp) : Bool := !(ho.cls == 0 || ho.cls == 1 || ho.cls == 2)
theorem effB_iff {ho : HOp} : effB ho = true ↔ IsEff ho := by simp [effB, IsEff, and_assoc]
def effAt (hl : List HOp) (j : Nat) : Bool := match hl[j]? with | some ho => effB ho | none => false
def cntE (hl : List HOp) : Nat → Nat
  | 0 => 0
  | j + 1 => cntE hl j + if effAt hl j then 1 else 0

structure DrawOk (E : Env) (ops : Array Oper) (hl : List HOp) : Prop where
  len : hl.length = ops.size
  down : ∀ i j, Bef ops i j → i < j
  dst : ∀ (i j : Nat) (oi oj : Oper) (d : Nat), ops[i]? = some oi → ops[j]? = some oj → oi.dst = some d → oj.dst = some d → i = j
  rd : ∀ (i : Nat) (ho : HOp) (j : Nat) (oj : Oper) (t : Nat), hl[i]? = some ho → t ∈ ho.rd → ops[j]? = some oj → oj.dst = some t → Bef ops j i ∨ Bef ops i j ∨ i = j
  kinds : ∀ (i : Nat) (o : Oper) (ho : HOp), ops[i]? = some o → hl[i]? = some ho → (ho.cls = 0 ∨ ho.cls = 1 → pureOp E o.op = true) ∧ (ho.cls = 2 → allocOp E o.op = true)
  eff : ∀ i j, i < j → effAt hl i = true → effAt hl j = true → Bef ops i j
  ad : ∀ (i : Nat) (ho : HOp) (j : Nat), hl[i]? = some ho → j ∈ ho.ad → Bef ops j i
  lohi : ∀ (i : Nat) (ho : HOp), hl[i]? = some ho → ho.cls = 1 → ho.lo ≤ ho.hi ∧ ho.hi ≤ cntE hl ops.size ∧ ∀ e, effAt hl e = true → (cntE hl e < ho.lo → Bef ops e i) ∧ (ho.hi ≤ cntE hl e → Bef ops i e)

theorem cntE_mono (hl : List HOp) {i j : Nat} (h : i ≤ j) : cntE hl i ≤ cntE hl j := by
  induction h with
  | refl => exact Nat.le_refl _
  | step _ ih => exact Nat.le_trans ih (Nat.le_add_right _ _)
theorem cntE_same (hl : List HOp) {i j : Nat} (h : i ≤ j) (hn : ∀ e, i ≤ e → e < j → effAt hl e = false) : cntE hl i = cntE hl j := by
  induction h with
  | refl => rfl
  | step hij ih =>
    rw [ih (fun e h1 h2 => hn e h1 (Nat.lt_succ_of_lt h2))]
    simp [cntE, hn _ hij (Nat.lt_succ_self _)]
theorem next_eff (hl : List HOp) (n : Nat) : ∀ (m p : Nat), n - p = m → p ≤ n → (∀ e, p ≤ e → e < n → effAt hl e = false) ∨ ∃ e, p ≤ e ∧ e < n ∧ effAt hl e = true ∧ ∀ j, p ≤ j → j < e → effAt hl j = false
  | 0, p, hm, hp => .inl fun e h1 h2 => by omega
  | m + 1, p, hm, hp => by
    cases hq : effAt hl p with
    | true => exact .inr ⟨p, Nat.le_refl _, by omega, hq, fun j h1 h2 => by omega⟩
    | false =>
      rcases next_eff hl n m (p + 1) (by omega) (by omega) with h | ⟨e, h1, h2, h3, h4⟩
      · refine .inl fun e h1 h2 => ?_
        rcases Nat.eq_or_lt_of_le h1 with rfl | h3
        · exact hq
        · exact h e h3 h2
      · refine .inr ⟨e, by omega, h2, h3, fun j h5 h6 => ?_⟩
        rcases Nat.eq_or_lt_of_le h5 with rfl | h7
        · exact hq
        · exact h4 j h7 h6

theorem sub_lk {loc env : Regs} : ∀ {rd : List Nat} {t : Nat} {v : AV}, lk (sub rd loc env) t = some v → t ∈ rd ∧ lk2 loc env t = some v
  | [], t, v, h => by cases h
  | u :: rd, t, v, h => by
    change lk (@Option.rec AV (fun _ => Regs) (sub rd loc env) (fun v => .cons u v (sub rd loc env)) (lk2 loc env u)) t = some v at h
    cases hq : lk2 loc env u with
    | none => rw [hq] at h; have := sub_lk (rd := rd) h; exact ⟨List.mem_cons_of_mem _ this.1, this.2⟩
    | some x =>
      rw [hq] at h
      change lk (.cons u x (sub rd loc env)) t = some v at h
      rw [lk_cons] at h
      split at h
      · subst_vars; cases h; exact ⟨List.mem_cons_self .., hq⟩
      · have := sub_lk (rd := rd) h; exact ⟨List.mem_cons_of_mem _ this.1, this.2⟩

theorem checkOne_spec {c : CI} : ∀ {eps : List Heap} {k0 : Nat}, checkOne c eps k0 = true → ∀ (k : Nat) (h : Heap), eps[k]? = some h → c.lo ≤ k0 + k → k0 + k ≤ c.hi → c.ck h = true
  | [], k0, _, k, h, hk, _, _ => by simp at hk
  | x :: eps, k0, e, k, h, hk, h1, h2 => by
    change ifb (band (Nat.ble c.lo k0) (Nat.ble k0 c.hi)) (ifb (c.ck x) (checkOne c eps (Nat.succ k0)) false) (checkOne c eps (Nat.succ k0)) = true at e
    have tail : checkOne c eps (k0 + 1) = true := by
      cases hb : band (Nat.ble c.lo k0) (Nat.ble k0 c.hi) with
      | true => rw [hb] at e; exact (ifb_and e).2
      | false => rw [hb] at e; exact e
    cases k with
    | zero =>
      simp at hk; subst hk
      have hb : band (Nat.ble c.lo k0) (Nat.ble k0 c.hi) = true := by
        rw [show Nat.ble c.lo k0 = true from Nat.ble_eq.mpr (by omega), show Nat.ble k0 c.hi = true from Nat.ble_eq.mpr (by omega)]; rfl
      rw [hb] at e; exact (ifb_and e).1
    | succ k => exact checkOne_spec tail k h (by simpa using hk) (by omega) (by omega)
theorem checkAll_spec : ∀ {cks : List CI} {eps : List Heap}, checkAll cks eps = true → ∀ c ∈ cks, checkOne c eps 0 = true
  | [], eps, _, c, hc => by cases hc
  | x :: cks, eps, e, c, hc => by
    obtain ⟨h1, h2⟩ := ifb_and (show ifb (checkOne x eps 0) (checkAll cks eps) false = true from e)
    rcases List.mem_cons.1 hc with rfl | hc
    · exact h1
    · exact checkAll_spec h2 c hc

section
variable {P : Program} {E : Env} {rec : Rec}

theorem again_spec (hT : TypesOk P E) (hF : ∀ t i, E.T t = some i → FieldsIn i) {o : Oper} {r : Regs} {v : AV} {h : Heap} (hp : pureOp E o.op = true) (e : again o.op E rec r v h = true) : PureFact P o r h v := by
  unfold again at e
  cases hq : evOp o.op E rec r .nil h (fun u h => ifb (eqAV v u) (some (.nil, h)) none) with
  | none => rw [hq] at e; cases e
  | some x =>
    obtain ⟨u, h1, h2⟩ := op_pure (P := P) hT hF hp hq
    obtain ⟨h3, _⟩ := ifb_none h1
    rw [eqAV_true v u h3]; exact h2

/-! ### where things stand when some of a region's operations are done -/
variable (ops : Array Oper) (hl : List HOp) (base : Nat) (S : Nat → St) (V : Nat → AV) (N : Nat → Option NObj)

def Dg (j b : Nat) : Option Blk := if base + j ≤ b ∧ b < base + ops.size then (match N (b - base) with | some (.blk k) => some k | _ => none) else none
def Dm (j b : Nat) : Option (List (AV × AV)) := if base + j ≤ b ∧ b < base + ops.size then (match N (b - base) with | some .map => some [] | _ => none) else none
noncomputable def Gp (j : Nat) (pd h : Heap) (b : Nat) : Option Blk := (Dg ops base N j b).or ((pd.get b).or (h.get b))
noncomputable def Mp (j : Nat) (pd h : Heap) (b : Nat) : Option (List (AV × AV)) := (Dm ops base N j b).or ((lk pd.maps b).or (lk h.maps b))
noncomputable def Gf (j : Nat) : Nat → Option Blk := Gp ops base N j (S j).pd (S j).h
noncomputable def Mf (j : Nat) : Nat → Option (List (AV × AV)) := Mp ops base N j (S j).pd (S j).h
def KG (g : Nat → Option Blk) (m : Nat → Option (List (AV × AV))) (b : Nat) : Prop := (∃ k, g b = some k) ∨ ∃ l, m b = some l

structure HWp (j : Nat) (pd h : Heap) : Prop where
  blks : ∀ b k, h.get b = some k → b < h.next
  maps : ∀ b l, lk h.maps b = some l → b < h.next
  apart : ∀ b k, h.get b = some k → lk h.maps b = none
  ub : Uniq h.blks
  um : Uniq h.maps
  room : base + ops.size ≤ h.next
  free : ∀ i, j ≤ i → i < ops.size → ¬ Kn h (base + i) ∧ ¬ Kn pd (base + i)
  pds : ∀ b, Kn pd b → base ≤ b ∧ b < base + ops.size ∧ ¬ Kn h b
  pap : ∀ b k, pd.get b = some k → lk pd.maps b = none
  pub : Uniq pd.blks
  pum : Uniq pd.maps
abbrev HW (j : Nat) : Prop := HWp ops base j (S j).pd (S j).h
end

section
variable {P : Program} {E : Env} {rec : Rec} {ops : Array Oper} {hl : List HOp} {base : Nat} {S : Nat → St} {V : Nat → AV} {N : Nat → Option NObj}

theorem Dg_succ_none {j : Nat} (hN : N j = none ∨ N j = some .map) (b : Nat) : Dg ops base N (j + 1) b = Dg ops base N j b := by
  unfold Dg
  by_cases hb : b = base + j
  · subst hb
    rw [if_neg (by omega)]
    split
    · rw [show base + j - base = j by omega]; rcases hN with h | h <;> rw [h]
    · rfl
  · by_cases h1 : base + (j + 1) ≤ b ∧ b < base + ops.size
    · rw [if_pos h1, if_pos (by omega)]
    · rw [if_neg h1]; split
      · omega
      · rfl
theorem Dm_succ_none {j : Nat} (hN : N j = none ∨ ∃ k, N j = some (.blk k)) (b : Nat) : Dm ops base N (j + 1) b = Dm ops base N j b := by
  unfold Dm
  by_cases hb : b = base + j
  · subst hb
    rw [if_neg (by omega)]
    split
    · rw [show base + j - base = j by omega]; rcases hN with h | ⟨k, h⟩ <;> rw [h]
    · rfl
  · by_cases h1 : base + (j + 1) ≤ b ∧ b < base + ops.size
    · rw [if_pos h1, if_pos (by omega)]
    · rw [if_neg h1]; split
      · omega
      · rfl

/-- a step that leaves the text's heap as it is -/
theorem step_same {j : Nat} {pd h : Heap} (hN : N j = none) : (HWp ops base j pd h → HWp ops base (j + 1) pd h) ∧ Gp ops base N (j + 1) pd h = Gp ops base N j pd h ∧ Mp ops base N (j + 1) pd h = Mp ops base N j pd h := by
  refine ⟨fun hw => ⟨hw.blks, hw.maps, hw.apart, hw.ub, hw.um, hw.room, fun i h1 h2 => hw.free i (by omega) h2, hw.pds, hw.pap, hw.pub, hw.pum⟩, ?_, ?_⟩
  · funext b; unfold Gp; rw [Dg_succ_none (.inl hN)]
  · funext b; unfold Mp; rw [Dm_succ_none (.inl hN)]

theorem joinH_blk (id : Nat) (k : Blk) (h : Heap) : joinH (hadd (bareHeap id) (.blk k)) h = ⟨h.next, .cons id k h.blks, h.maps, h.mark, h.log⟩ := rfl
theorem joinH_map (id : Nat) (h : Heap) : joinH (hadd (bareHeap id) .map) h = ⟨h.next, h.blks, .cons id [] h.maps, h.mark, h.log⟩ := rfl

/-- a step that makes an object -/
theorem step_make {j : Nat} (hj : j < ops.size) {nb : NObj} (hN : N j = some nb) {pd pd' h : Heap} (hh : pd' = joinH (hadd (bareHeap (base + j)) nb) pd) (hw : HWp ops base j pd h) :
    HWp ops base (j + 1) pd' h ∧ Gp ops base N (j + 1) pd' h = Gp ops base N j pd h ∧ Mp ops base N (j + 1) pd' h = Mp ops base N j pd h := by
  obtain ⟨hfreeH, hfree⟩ := hw.free j (Nat.le_refl _) hj
  have hroom := hw.room
  cases nb with
  | blk k =>
    rw [joinH_blk] at hh
    have hget : ∀ b, pd'.get b = if base + j = b then some k else pd.get b := fun b => by rw [hh, get_eq, get_eq]; exact lk_cons ..
    have hmaps : pd'.maps = pd.maps := by rw [hh]
    have hkn : ∀ b, Kn pd' b → base + j = b ∨ Kn pd b := fun b hK => by
      unfold Kn at *
      rcases hK with ⟨k', hK⟩ | hK
      · rw [hget] at hK; split at hK
        · exact .inl (by assumption)
        · exact .inr (.inl ⟨k', hK⟩)
      · rw [hmaps] at hK; exact .inr (.inr hK)
    refine ⟨⟨hw.blks, hw.maps, hw.apart, hw.ub, hw.um, hw.room, fun i h1 h2 => ⟨(hw.free i (by omega) h2).1, fun hK => ?_⟩, fun b hK => ?_, fun b k' hb => ?_, ?_, by rw [hmaps]; exact hw.pum⟩, ?_, ?_⟩
    · rcases hkn _ hK with h | h
      · omega
      · exact (hw.free i (by omega) h2).2 h
    · rcases hkn _ hK with rfl | h
      · exact ⟨by omega, by omega, hfreeH⟩
      · exact hw.pds b h
    · rw [hmaps]
      rw [hget] at hb; split at hb
      · subst_vars
        cases hq : lk pd.maps (base + j) with
        | none => rfl
        | some l => exact absurd (.inr ⟨l, hq⟩) hfree
      · exact hw.pap b k' hb
    · rw [hh]
      refine ⟨?_, hw.pub⟩
      cases hq : lk pd.blks (base + j) with
      | none => rfl
      | some k' => exact absurd (.inl ⟨k', by rw [get_eq]; exact hq⟩) hfree
    · funext b
      unfold Gp
      rw [hget]
      by_cases hb : base + j = b
      · subst hb
        have h1 : Dg ops base N (j + 1) (base + j) = none := by unfold Dg; rw [if_neg (by omega)]
        have h2 : Dg ops base N j (base + j) = some k := by unfold Dg; rw [if_pos (by omega), show base + j - base = j by omega, hN]
        rw [h1, h2]; simp
      · rw [if_neg hb]
        congr 1
        unfold Dg
        by_cases h1 : base + (j + 1) ≤ b ∧ b < base + ops.size
        · rw [if_pos h1, if_pos (by omega)]
        · rw [if_neg h1, if_neg (by omega)]
    · funext b; unfold Mp; rw [Dm_succ_none (.inr ⟨k, hN⟩), hmaps]
  | map =>
    rw [joinH_map] at hh
    have hget : pd'.get = pd.get := by rw [hh, get_eq, get_eq]
    have hmaps : ∀ b, lk pd'.maps b = if base + j = b then some [] else lk pd.maps b := fun b => by rw [hh]; exact lk_cons ..
    have hkn : ∀ b, Kn pd' b → base + j = b ∨ Kn pd b := fun b hK => by
      unfold Kn at *
      rcases hK with hK | ⟨l, hK⟩
      · rw [hget] at hK; exact .inr (.inl hK)
      · rw [hmaps] at hK; split at hK
        · exact .inl (by assumption)
        · exact .inr (.inr ⟨l, hK⟩)
    refine ⟨⟨hw.blks, hw.maps, hw.apart, hw.ub, hw.um, hw.room, fun i h1 h2 => ⟨(hw.free i (by omega) h2).1, fun hK => ?_⟩, fun b hK => ?_, fun b k' hb => ?_, by rw [hh]; exact hw.pub, ?_⟩, ?_, ?_⟩
    · rcases hkn _ hK with h | h
      · omega
      · exact (hw.free i (by omega) h2).2 h
    · rcases hkn _ hK with rfl | h
      · exact ⟨by omega, by omega, hfreeH⟩
      · exact hw.pds b h
    · rw [hget] at hb; rw [hmaps]; split
      · subst_vars; exact absurd (.inl ⟨k', hb⟩) hfree
      · exact hw.pap b k' hb
    · rw [hh]
      refine ⟨?_, hw.pum⟩
      cases hq : lk pd.maps (base + j) with
      | none => rfl
      | some k' => exact absurd (.inr ⟨k', hq⟩) hfree
    · funext b; unfold Gp; rw [Dg_succ_none (.inr hN), hget]
    · funext b
      unfold Mp
      rw [hmaps]
      by_cases hb : base + j = b
      · subst hb
        have h1 : Dm ops base N (j + 1) (base + j) = none := by unfold Dm; rw [if_neg (by omega)]
        have h2 : Dm ops base N j (base + j) = some [] := by unfold Dm; rw [if_pos (by omega), show base + j - base = j by omega, hN]
        rw [h1, h2]; simp
      · rw [if_neg hb]
        congr 1
        unfold Dm
        by_cases h1 : base + (j + 1) ≤ b ∧ b < base + ops.size
        · rw [if_pos h1, if_pos (by omega)]
        · rw [if_neg h1, if_neg (by omega)]

/-- objects that are put into the heap -/
theorem mv1_ok {j id : Nat} {pd h : Heap} (hw : HWp ops base j pd h) : HWp ops base j (mv1 id pd h).1 (mv1 id pd h).2 ∧ Gp ops base N j (mv1 id pd h).1 (mv1 id pd h).2 = Gp ops base N j pd h ∧ Mp ops base N j (mv1 id pd h).1 (mv1 id pd h).2 = Mp ops base N j pd h ∧
    (mv1 id pd h).2.next = h.next ∧ (∀ b, b ≠ id → (mv1 id pd h).1.get b = pd.get b ∧ lk (mv1 id pd h).1.maps b = lk pd.maps b) := by
  unfold mv1
  cases hq : lk pd.blks id with
  | some k =>
    dsimp only
    have hpk : pd.get id = some k := by rw [get_eq]; exact hq
    obtain ⟨p1, p2, p3⟩ := hw.pds id (.inl ⟨k, hpk⟩)
    have hroom := hw.room
    have g1 : ∀ b, (⟨pd.next, del pd.blks id, pd.maps, pd.mark, pd.log⟩ : Heap).get b = if id = b then none else pd.get b := fun b => by rw [get_eq, get_eq]; exact lk_del ..
    have g2 : ∀ b, (⟨h.next, .cons id k h.blks, h.maps, h.mark, h.log⟩ : Heap).get b = if id = b then some k else h.get b := fun b => by rw [get_eq, get_eq]; exact lk_cons ..
    have kn1 : ∀ b, Kn ⟨pd.next, del pd.blks id, pd.maps, pd.mark, pd.log⟩ b → Kn pd b ∧ b ≠ id := fun b hK => by
      unfold Kn at *
      rcases hK with ⟨k', hK⟩ | ⟨l, hK⟩
      · rw [g1] at hK; split at hK
        · cases hK
        · exact ⟨.inl ⟨k', hK⟩, fun he => by subst he; simp at *⟩
      · refine ⟨.inr ⟨l, hK⟩, fun he => ?_⟩
        subst he
        have := hw.pap _ k hpk
        rw [show lk pd.maps b = some l from hK] at this; cases this
    have kn2 : ∀ b, Kn ⟨h.next, .cons id k h.blks, h.maps, h.mark, h.log⟩ b → b = id ∨ Kn h b := fun b hK => by
      unfold Kn at *
      rcases hK with ⟨k', hK⟩ | hK
      · rw [g2] at hK; split at hK
        · subst_vars; exact .inl rfl
        · exact .inr (.inl ⟨k', hK⟩)
      · exact .inr (.inr hK)
    refine ⟨⟨fun b k' hb => ?_, hw.maps, fun b k' hb => ?_, ⟨?_, hw.ub⟩, hw.um, hw.room, fun i h1 h2 => ⟨fun hK => ?_, fun hK => (hw.free i h1 h2).2 (kn1 _ hK).1⟩, fun b hK => ?_, fun b k' hb => ?_, hw.pub.del _, hw.pum⟩, ?_, ?_, rfl, fun b hb => ⟨by rw [g1, if_neg (Ne.symm hb)], rfl⟩⟩
    · rw [g2] at hb; split at hb
      · subst_vars; exact Nat.lt_of_lt_of_le p2 hroom
      · exact hw.blks b k' hb
    · rw [g2] at hb; split at hb
      · subst_vars
        cases hm : lk h.maps b with
        | none => rfl
        | some l => exact absurd (.inr ⟨l, hm⟩) p3
      · exact hw.apart b k' hb
    · cases hm : lk h.blks id with
      | none => rfl
      | some l => exact absurd (.inl ⟨l, by rw [get_eq]; exact hm⟩) p3
    · rcases kn2 _ hK with he | hK
      · exact (hw.free i h1 h2).2 (he ▸ .inl ⟨k, hpk⟩)
      · exact (hw.free i h1 h2).1 hK
    · obtain ⟨k1, k2⟩ := kn1 b hK
      obtain ⟨q1, q2, q3⟩ := hw.pds b k1
      exact ⟨q1, q2, fun hK' => (kn2 b hK').elim k2 q3⟩
    · rw [g1] at hb; split at hb
      · cases hb
      · exact hw.pap b k' hb
    · funext b
      unfold Gp
      rw [g1, g2]
      by_cases hb : id = b
      · subst hb; simp [hpk]
      · simp [hb]
    · rfl
  | none =>
    dsimp only
    cases hm : lk pd.maps id with
    | none => exact ⟨hw, rfl, rfl, rfl, fun b _ => ⟨rfl, rfl⟩⟩
    | some l =>
      dsimp only
      obtain ⟨p1, p2, p3⟩ := hw.pds id (.inr ⟨l, hm⟩)
      have hroom := hw.room
      have hpn : pd.get id = none := by rw [get_eq]; exact hq
      have g1 : ∀ b, lk (⟨pd.next, pd.blks, del pd.maps id, pd.mark, pd.log⟩ : Heap).maps b = if id = b then none else lk pd.maps b := fun b => lk_del ..
      have g2 : ∀ b, lk (⟨h.next, h.blks, .cons id l h.maps, h.mark, h.log⟩ : Heap).maps b = if id = b then some l else lk h.maps b := fun b => lk_cons ..
      have e1 : (⟨pd.next, pd.blks, del pd.maps id, pd.mark, pd.log⟩ : Heap).get = pd.get := by rw [get_eq, get_eq]
      have e2 : (⟨h.next, h.blks, .cons id l h.maps, h.mark, h.log⟩ : Heap).get = h.get := by rw [get_eq, get_eq]
      have kn1 : ∀ b, Kn ⟨pd.next, pd.blks, del pd.maps id, pd.mark, pd.log⟩ b → Kn pd b ∧ b ≠ id := fun b hK => by
        unfold Kn at *
        rcases hK with ⟨k', hK⟩ | ⟨l', hK⟩
        · rw [e1] at hK; exact ⟨.inl ⟨k', hK⟩, fun he => by subst he; rw [hpn] at hK; cases hK⟩
        · rw [g1] at hK; split at hK
          · cases hK
          · exact ⟨.inr ⟨l', hK⟩, fun he => by subst he; simp at *⟩
      have kn2 : ∀ b, Kn ⟨h.next, h.blks, .cons id l h.maps, h.mark, h.log⟩ b → b = id ∨ Kn h b := fun b hK => by
        unfold Kn at *
        rcases hK with hK | ⟨l', hK⟩
        · rw [e2] at hK; exact .inr (.inl hK)
        · rw [g2] at hK; split at hK
          · subst_vars; exact .inl rfl
          · exact .inr (.inr ⟨l', hK⟩)
      refine ⟨⟨fun b k' hb => by rw [e2] at hb; exact hw.blks b k' hb, fun b l' hb => ?_, fun b k' hb => ?_, hw.ub, ⟨?_, hw.um⟩, hw.room, fun i h1 h2 => ⟨fun hK => ?_, fun hK => (hw.free i h1 h2).2 (kn1 _ hK).1⟩, fun b hK => ?_, fun b k' hb => ?_, hw.pub, hw.pum.del _⟩, ?_, ?_, rfl, fun b hb => ⟨by rw [e1], by rw [g1, if_neg (Ne.symm hb)]⟩⟩
      · rw [g2] at hb; split at hb
        · subst_vars; exact Nat.lt_of_lt_of_le p2 hroom
        · exact hw.maps b l' hb
      · rw [e2] at hb; rw [g2]; split
        · subst_vars; exact absurd (.inl ⟨k', hb⟩) p3
        · exact hw.apart b k' hb
      · cases hq' : lk h.maps id with
        | none => rfl
        | some l' => exact absurd (.inr ⟨l', hq'⟩) p3
      · rcases kn2 _ hK with he | hK
        · exact (hw.free i h1 h2).2 (he ▸ .inr ⟨l, hm⟩)
        · exact (hw.free i h1 h2).1 hK
      · obtain ⟨k1, k2⟩ := kn1 b hK
        obtain ⟨q1, q2, q3⟩ := hw.pds b k1
        exact ⟨q1, q2, fun hK' => (kn2 b hK').elim k2 q3⟩
      · rw [e1] at hb; rw [g1]; split
        · rfl
        · exact hw.pap b k' hb
      · rfl
      · funext b
        unfold Mp
        rw [g1, g2]
        by_cases hb : id = b
        · subst hb; simp [hm]
        · simp [hb]

theorem mvL_ok {j : Nat} : ∀ (ad : List Nat) {pd h : Heap}, HWp ops base j pd h → HWp ops base j (mvL base ad pd h).1 (mvL base ad pd h).2 ∧ Gp ops base N j (mvL base ad pd h).1 (mvL base ad pd h).2 = Gp ops base N j pd h ∧ Mp ops base N j (mvL base ad pd h).1 (mvL base ad pd h).2 = Mp ops base N j pd h ∧
    (mvL base ad pd h).2.next = h.next ∧ (∀ i, i ∉ ad → (mvL base ad pd h).1.get (base + i) = pd.get (base + i) ∧ lk (mvL base ad pd h).1.maps (base + i) = lk pd.maps (base + i))
  | [], pd, h, hw => ⟨hw, rfl, rfl, rfl, fun i _ => ⟨rfl, rfl⟩⟩
  | a :: ad, pd, h, hw => by
    obtain ⟨h1, h2, h3, h4, h5⟩ := mv1_ok (N := N) (id := base + a) hw
    obtain ⟨k1, k2, k3, k4, k5⟩ := mvL_ok ad h1
    refine ⟨k1, k2.trans h2, k3.trans h3, k4.trans h4, fun i hi => ?_⟩
    obtain ⟨q1, q2⟩ := k5 i (fun h => hi (List.mem_cons_of_mem _ h))
    obtain ⟨q3, q4⟩ := h5 (base + i) (fun he => hi (by rw [show i = a by omega]; exact List.mem_cons_self ..))
    exact ⟨q1.trans q3, q2.trans q4⟩
end
end Go.Den
