/- A part of a machine that computes what the program computes, and of the proof that it does -/
import Derived.Test.YtngjccjmhlhlbaaGreatDenZb
set_option linter.unusedVariables false
set_option linter.unusedSimpArgs false
set_option linter.unusedSectionVars false
namespace Go.Den
open Go

variable [Val]

section
variable {P : Program} {E : Env} {rec : Rec} {keep : Nat} {ops : Array Oper} {hl : List HOp} {base : Nat} {S : Nat → St} {V : Nat → AV} {N : Nat → Option NObj} {env0 : Regs}

def Pend (pd : Heap) (b : Nat) : NObj → Prop
  | .blk k => pd.get b = some k
  | .map => lk pd.maps b = some []

theorem mv1_other {id : Nat} {pd h : Heap} {b : Nat} (hb : b ≠ id) : (mv1 id pd h).1.get b = pd.get b ∧ lk (mv1 id pd h).1.maps b = lk pd.maps b := by
  unfold mv1
  cases lk pd.blks id with
  | some k => exact ⟨by rw [get_eq, get_eq]; exact (lk_del ..).trans (if_neg (Ne.symm hb)), rfl⟩
  | none => cases lk pd.maps id with
    | none => exact ⟨rfl, rfl⟩
    | some l => exact ⟨by rw [get_eq, get_eq], (lk_del ..).trans (if_neg (Ne.symm hb))⟩
theorem mvL_other : ∀ (ad : List Nat) {pd h : Heap} {i : Nat}, i ∉ ad → (mvL base ad pd h).1.get (base + i) = pd.get (base + i) ∧ lk (mvL base ad pd h).1.maps (base + i) = lk pd.maps (base + i)
  | [], pd, h, i, _ => ⟨rfl, rfl⟩
  | a :: ad, pd, h, i, hi => by
    obtain ⟨q1, q2⟩ := mvL_other ad (pd := (mv1 (base + a) pd h).1) (h := (mv1 (base + a) pd h).2) (i := i) (fun h => hi (List.mem_cons_of_mem _ h))
    obtain ⟨q3, q4⟩ := mv1_other (id := base + a) (pd := pd) (h := h) (b := base + i) (fun he => hi (by rw [show i = a by omega]; exact List.mem_cons_self ..))
    exact ⟨q1.trans q3, q2.trans q4⟩

theorem TrOk.pend (t : TrOk P E rec keep ops hl base S V N env0) : ∀ j, j ≤ ops.size → ∀ i, i < j → ∀ nb, N i = some nb → Pend (S j).pd (base + i) nb ∨ ∃ e, e < j ∧ effAt hl e = true ∧ Bef ops i e
  | 0, _, i, hi, _, _ => by omega
  | j + 1, hj, i, hi, nb, hN => by
    obtain ⟨o, ho, k1, k2⟩ := t.both (i := j) (by omega)
    obtain ⟨hd, _⟩ := t.did j o ho k1 k2
    have ih := t.pend j (by omega) i
    have keepPd : (S (j + 1)).pd = (S j).pd → N j = none → Pend (S (j + 1)).pd (base + i) nb ∨ ∃ e, e < j + 1 ∧ effAt hl e = true ∧ Bef ops i e := by
      intro e1 e2
      have hij : i ≠ j := fun h => by subst h; rw [hN] at e2; cases e2
      rw [e1]
      exact (ih (by omega) nb hN).imp id fun ⟨e, h1, h2, h3⟩ => ⟨e, by omega, h2, h3⟩
    generalize hNj : N j = nj at hd
    cases hd with
    | skip _ _ _ hd => exact keepPd hd hNj
    | pure _ _ _ _ hd => exact keepPd hd hNj
    | read _ _ _ _ hd => exact keepPd hd hNj
    | make hw' h2' n mkv hv hp hh hd hc he' =>
      by_cases hij : i = j
      · subst hij
        rw [hN] at hNj; cases hNj
        left
        rw [hd]
        cases nb with
        | blk k => rw [joinH_blk]; unfold Pend; dsimp only; rw [get_eq]; exact (lk_cons ..).trans (if_pos rfl)
        | map => rw [joinH_map]; unfold Pend; dsimp only; exact (lk_cons ..).trans (if_pos rfl)
      · rcases ih (by omega) nb hN with h | ⟨e, h1, h2, h3⟩
        · left
          rw [hd]
          have hne : ¬ base + j = base + i := by omega
          cases n with
          | blk k =>
            rw [joinH_blk]
            cases nb with
            | blk k' => unfold Pend at *; dsimp only at *; rw [get_eq] at h ⊢; exact (lk_cons ..).trans ((if_neg hne).trans h)
            | map => exact h
          | map =>
            rw [joinH_map]
            cases nb with
            | blk k' => unfold Pend at *; dsimp only at *; rw [get_eq] at h ⊢; exact h
            | map => unfold Pend at *; dsimp only at *; exact (lk_cons ..).trans ((if_neg hne).trans h)
        · exact .inr ⟨e, by omega, h2, h3⟩
    | eff hw' h3 hp hd hc he' =>
      have hij : i ≠ j := fun h => by subst h; rw [hN] at hNj; cases hNj
      by_cases hm : i ∈ ho.ad
      · exact .inr ⟨j, Nat.lt_succ_self _, by rw [effAt_of k2]; exact effB_iff.2 h3, t.ok.ad j ho i k2 hm⟩
      · rcases ih (by omega) nb hN with h | ⟨e, h1, h2, h3⟩
        · left
          rw [hd]
          obtain ⟨q1, q2⟩ := mvL_other (base := base) ho.ad (pd := (S j).pd) (h := (S j).h) hm
          cases nb with
          | blk k => exact q1.trans h
          | map => exact q2.trans h
        · exact .inr ⟨e, by omega, h2, h3⟩

variable {K0 : Nat → Prop} {φ0 : Pos} {I0 : Imm} {w0 : World} {nt : Nat} {L : Array Bool} {a : Act} {w : World} {p : Nat} {φ : Pos} {I : Imm}

/-- an object that is not made yet is known as it will be -/
theorem Inv.objAt (t : TrOk P E rec keep ops hl base S V N env0) (v : Inv P ops hl base S V N env0 K0 φ0 I0 w0 nt L a w p φ I) {i : Nat} (hi : i < ops.size) (hu : L.getD i false = false) {nb : NObj} (hN : N i = some nb) :
    ObjIs (Gf ops base S N p) (Mf ops base S N p) (base + i) nb := by
  have none_of : ∀ {h : Heap} {b : Nat}, ¬ Kn h b → h.get b = none ∧ lk h.maps b = none := by
    intro h b hK
    constructor
    · cases hq : h.get b with
      | none => rfl
      | some k => exact absurd (.inl ⟨k, hq⟩) hK
    · cases hq : lk h.maps b with
      | none => rfl
      | some k => exact absurd (.inr ⟨k, hq⟩) hK
  by_cases hip : p ≤ i
  · obtain ⟨f1, f2⟩ := v.hw.free i hip hi
    obtain ⟨a1, a2⟩ := none_of f1
    obtain ⟨b1, b2⟩ := none_of f2
    have hc : base + p ≤ base + i ∧ base + i < base + ops.size := by omega
    have hb : base + i - base = i := by omega
    cases nb with
    | blk k =>
      unfold ObjIs Gf Mf Gp Mp Dg Dm
      rw [if_pos hc, if_pos hc, hb, hN, a2, b2]
      exact ⟨rfl, rfl⟩
    | map =>
      unfold ObjIs Gf Mf Gp Mp Dg Dm
      rw [if_pos hc, if_pos hc, hb, hN, a1, b1]
      exact ⟨rfl, rfl⟩
  · have hpd : Pend (S p).pd (base + i) nb := by
      rcases t.pend p v.ple i (by omega) nb hN with h | ⟨e, h1, h2, h3⟩
      · exact h
      · have := h3.inL v.dc (v.done e h1 h2)
        rw [hu] at this; cases this
    have hc : ¬ (base + p ≤ base + i ∧ base + i < base + ops.size) := by omega
    cases nb with
    | blk k =>
      have hk : (S p).pd.get (base + i) = some k := hpd
      obtain ⟨_, _, hn⟩ := v.hw.pds _ (.inl ⟨k, hk⟩)
      obtain ⟨a1, a2⟩ := none_of hn
      unfold ObjIs Gf Mf Gp Mp Dg Dm
      rw [if_neg hc, if_neg hc, hk, v.hw.pap _ k hk, a2]
      exact ⟨rfl, rfl⟩
    | map =>
      have hk : lk (S p).pd.maps (base + i) = some [] := hpd
      obtain ⟨_, _, hn⟩ := v.hw.pds _ (.inr ⟨[], hk⟩)
      obtain ⟨a1, a2⟩ := none_of hn
      have hg : (S p).pd.get (base + i) = none := by
        cases hq : (S p).pd.get (base + i) with
        | none => rfl
        | some k => have := v.hw.pap _ k hq; rw [hk] at this; cases this
      unfold ObjIs Gf Mf Gp Mp Dg Dm
      rw [if_neg hc, if_neg hc, hk, hg, a1]
      exact ⟨rfl, rfl⟩

/-- what an operation looks at is as in the text's order -/
theorem Inv.reads (t : TrOk P E rec keep ops hl base S V N env0) (v : Inv P ops hl base S V N env0 K0 φ0 I0 w0 nt L a w p φ I) {i : Nat} {o : Oper} {ho : HOp} (h1 : ops[i]? = some o) (h2 : hl[i]? = some ho) (hu : L.getD i false = false)
    (hr : ∀ (o : Oper) (e : Edge), ops[i]? = some o → e ∈ o.after → Region.binds .any e = true → L.getD e.on false = true) : RelR w φ I (sub ho.rd (S i).loc (S i).env) .nil a := by
  have hi : i < ops.size := (Array.getElem?_eq_some_iff.1 h1).1
  obtain ⟨_, _, t3, t4⟩ := t.regs i (Nat.le_of_lt hi)
  intro d x hx
  rw [lk2_eq, lk_nil, Option.or_none] at hx
  obtain ⟨hm, hv⟩ := sub_lk hx
  have none : (∀ (j : Nat) (oj : Oper), (j < i ∨ L.getD j false = true) → ops[j]? = some oj → oj.dst ≠ some d) → d < a.tmps.size ∧ RelV w φ I x (a.tmps.getD d undef) := by
    intro hn
    rw [t4 d fun j oj hj ho => hn j oj (.inl hj) ho] at hv
    exact v.r2 d x hv fun j oj hj ho => hn j oj (.inr hj) ho
  by_cases hw : ∃ (j : Nat) (oj : Oper), ops[j]? = some oj ∧ oj.dst = some d
  · obtain ⟨j, oj, w1, w2⟩ := hw
    rcases t.ok.rd i ho j oj d h2 hm w1 w2 with hb | hb | rfl
    · rw [t3 j oj d (t.ok.down _ _ hb) w1 w2] at hv
      cases hv
      exact v.r1 j oj d (hb.ready v.dc hr) w1 w2
    · refine none fun j' oj' hj' ho' hd' => ?_
      obtain rfl := t.ok.dst j' j oj' oj d ho' w1 hd' w2
      have := t.ok.down _ _ hb
      rcases hj' with h | h
      · omega
      · have := hb.inL v.dc h; rw [hu] at this; cases this
    · refine none fun j' oj' hj' ho' hd' => ?_
      obtain rfl := t.ok.dst j' i oj' oj d ho' w1 hd' w2
      rcases hj' with h | h
      · omega
      · rw [hu] at h; cases h
  · exact none fun j oj _ ho hd => hw ⟨j, oj, ho, hd⟩

theorem getD_set (L : Array Bool) (i j : Nat) (hi : i < L.size) : (L.setIfInBounds i true).getD j false = if i = j then true else L.getD j false := by
  by_cases h : i = j
  · subst h; simp [hi]
  · rw [if_neg h, getD_set_ne false h]

/-- the temporaries behind an operation -/
theorem Inv.regs (t : TrOk P E rec keep ops hl base S V N env0) (v : Inv P ops hl base S V N env0 K0 φ0 I0 w0 nt L a w p φ I) {i : Nat} {o : Oper} (h1 : ops[i]? = some o) {c : Value} {w' : World} {φ' : Pos} {I' : Imm}
    (ex : Ext0 φ I w φ' I' w') (hv : RelV w' φ' I' (V i) c) (hd : ∀ d, o.dst = some d → d < a.tmps.size) :
    (∀ (j : Nat) (oj : Oper) (d : Nat), (L.setIfInBounds i true).getD j false = true → ops[j]? = some oj → oj.dst = some d → d < (a.put o.dst c).tmps.size ∧ RelV w' φ' I' (V j) ((a.put o.dst c).tmps.getD d undef)) ∧
    (∀ (d : Nat) (x : AV), lk env0 d = some x → (∀ (j : Nat) (oj : Oper), (L.setIfInBounds i true).getD j false = true → ops[j]? = some oj → oj.dst ≠ some d) → d < (a.put o.dst c).tmps.size ∧ RelV w' φ' I' x ((a.put o.dst c).tmps.getD d undef)) := by
  have hi : i < L.size := by rw [v.size]; exact (Array.getElem?_eq_some_iff.1 h1).1
  refine ⟨fun j oj d hj hoj hdj => ?_, fun d x hx hn => ?_⟩
  · rw [Act.put_size]
    rw [getD_set L i j hi] at hj
    by_cases hij : i = j
    · subst hij
      rw [h1] at hoj; cases hoj
      rw [hdj, Act.put_get, if_pos ⟨rfl, hd d hdj⟩]
      exact ⟨hd d hdj, hv⟩
    · rw [if_neg hij] at hj
      obtain ⟨q1, q2⟩ := v.r1 j oj d hj hoj hdj
      refine ⟨q1, ?_⟩
      have hne : o.dst ≠ some d := fun he => hij (t.ok.dst i j o oj d h1 hoj he hdj)
      cases hod : o.dst with
      | none => exact q2.ext ex
      | some d' =>
        rw [Act.put_get, if_neg (fun h => hne (by rw [hod, h.1]))]
        exact q2.ext ex
  · rw [Act.put_size]
    have hne : o.dst ≠ some d := hn i o (by rw [getD_set L i i hi, if_pos rfl]) h1
    obtain ⟨q1, q2⟩ := v.r2 d x hx fun j oj hj hoj => hn j oj (by rw [getD_set L i j hi]; split <;> first | rfl | exact hj) hoj
    refine ⟨q1, ?_⟩
    cases hod : o.dst with
    | none => exact q2.ext ex
    | some d' =>
      rw [Act.put_get, if_neg (fun h => hne (by rw [hod, h.1]))]
      exact q2.ext ex
end
end Go.Den
