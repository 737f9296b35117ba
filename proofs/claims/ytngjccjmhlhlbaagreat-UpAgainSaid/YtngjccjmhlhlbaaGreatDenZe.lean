/- A part of a machine that computes what the program computes, and of the proof that it does -/
import Derived.Test.YtngjccjmhlhlbaaGreatDenZd
set_option linter.unusedVariables false
set_option linter.unusedSimpArgs false
set_option linter.unusedSectionVars false
namespace Go.Den
open Go

variable [Val]

section
variable {P : Program} {E : Env} {rec : Rec} {keep : Nat} {ops : Array Oper} {hl : List HOp} {base : Nat} {S : Nat → St} {V : Nat → AV} {N : Nat → Option NObj} {env0 : Regs}
variable {K0 : Nat → Prop} {φ0 : Pos} {I0 : Imm} {w0 : World} {nt : Nat} {L : Array Bool} {a : Act} {w : World} {p : Nat} {φ : Pos} {I : Imm}

/-- the invariant behind an operation, from what is so of the heap -/
theorem Inv.next (t : TrOk P E rec keep ops hl base S V N env0) (v : Inv P ops hl base S V N env0 K0 φ0 I0 w0 nt L a w p φ I) {i : Nat} {o : Oper} (h1 : ops[i]? = some o) (hu : L.getD i false = false)
    (hr : ∀ (o : Oper) (e : Edge), ops[i]? = some o → e ∈ o.after → Region.binds .any e = true → L.getD e.on false = true) (hnt : ∀ d, o.dst = some d → d < nt)
    {c : Value} {w' : World} {p' : Nat} {φ' : Pos} {I' : Imm} (ex : Ext0 φ I w φ' I' w') (hv : RelV w' φ' I' (V i) c)
    (hp' : (p' = p ∧ effAt hl i = false) ∨ (p' = i + 1 ∧ effAt hl i = true)) (hw : HW ops base S p') (hrel : HR φ' I' (Gf ops base S N p') (Mf ops base S N p') w')
    (hpos : ∀ b Lc, φ' b = some Lc → b < (S p').h.next)
    (hobjs : ∀ j, j < ops.size → N j ≠ none → ((L.setIfInBounds i true).getD j false = true → ∃ Lc, φ' (base + j) = some Lc) ∧ ((L.setIfInBounds i true).getD j false = false → φ' (base + j) = none))
    (hext : Ext base (S p').h.next K0 φ0 I0 w0 (KG (Gf ops base S N p') (Mf ops base S N p')) φ' I' w') :
    Inv P ops hl base S V N env0 K0 φ0 I0 w0 nt (L.setIfInBounds i true) (a.put o.dst c) w' p' φ' I' := by
  have hi : i < ops.size := (Array.getElem?_eq_some_iff.1 h1).1
  have hiL : i < L.size := by rw [v.size]; exact hi
  have hdst : ∀ d, o.dst = some d → d < a.tmps.size := fun d hd => Nat.lt_of_lt_of_le (hnt d hd) v.tmps
  obtain ⟨g1, g2⟩ := v.regs t h1 ex hv hdst
  have hL : ∀ j, (L.setIfInBounds i true).getD j false = if i = j then true else L.getD j false := fun j => getD_set L i j hiL
  refine ⟨by simp [v.size], fun j oj e hj hoj he hb => ?_, ?_, fun e he hef => ?_, fun e he hef => ?_, ?_, hw, hrel, hpos, hobjs, hext, g1, g2, by rw [Act.put_defers']; exact v.defers, by rw [Act.put_size]; exact v.tmps⟩
  · rw [hL] at hj
    rw [hL]
    split
    · rfl
    · split at hj
      · subst_vars; exact hr oj e hoj he hb
      · exact v.dc j oj e hj hoj he hb
  · rcases hp' with ⟨rfl, _⟩ | ⟨rfl, _⟩
    · exact v.ple
    · exact hi
  · rw [hL]; split
    · rfl
    · rename_i hne
      rcases hp' with ⟨rfl, _⟩ | ⟨rfl, hi2⟩
      · exact v.done e he hef
      · exact (t.ok.eff e i (by omega) hef hi2).ready v.dc hr
  · rw [hL]
    rcases hp' with ⟨rfl, hne⟩ | ⟨rfl, hi2⟩
    · rw [if_neg (fun h => by subst h; rw [hne] at hef; cases hef)]; exact v.todo e he hef
    · rw [if_neg (by omega)]
      rcases Nat.lt_or_ge e p with h | h
      · have := (t.ok.eff i e (by omega) hi2 hef).inL v.dc (v.done e h hef)
        rw [hu] at this; cases this
      · exact v.todo e h hef
  · rcases hp' with ⟨rfl, _⟩ | ⟨rfl, hi2⟩
    · exact v.first
    · exact .inr ⟨i, rfl, hi2⟩

/-- an operation of kind 3 is the next one -/
theorem Inv.atEff (t : TrOk P E rec keep ops hl base S V N env0) (v : Inv P ops hl base S V N env0 K0 φ0 I0 w0 nt L a w p φ I) {i : Nat} (hi : i < ops.size) (hu : L.getD i false = false)
    (hr : ∀ (o : Oper) (e : Edge), ops[i]? = some o → e ∈ o.after → Region.binds .any e = true → L.getD e.on false = true) (he : effAt hl i = true) :
    HW ops base S i ∧ Gf ops base S N i = Gf ops base S N p ∧ Mf ops base S N i = Mf ops base S N p ∧ (S i).h = (S p).h := by
  have hpi : p ≤ i := by
    rcases Nat.lt_or_ge i p with h | h
    · have := v.done i h he; rw [hu] at this; cases this
    · exact h
  refine t.steps hpi (Nat.le_of_lt hi) (fun e e1 e2 => ?_) v.hw
  cases hq : effAt hl e with
  | false => rfl
  | true =>
    have := (t.ok.eff e i e2 hq he).ready v.dc hr
    rw [v.todo e e1 hq] at this; cases this

theorem KG_of {g : Nat → Option Blk} {m : Nat → Option (List (AV × AV))} {b : Nat} : KG g m b = ((∃ k, g b = some k) ∨ ∃ l, m b = some l) := rfl

theorem Inv.step (hT : TypesOk P E) (hF : ∀ t i, E.T t = some i → FieldsIn i) (t : TrOk P E rec keep ops hl base S V N env0) (hcks : checkAll (S ops.size).cks ((S ops.size).eps ++ [unionH (S ops.size).pd (S ops.size).h]) = true)
    (hnt : ∀ (i : Nat) (o : Oper) (d : Nat), ops[i]? = some o → o.dst = some d → d < nt)
    (v : Inv P ops hl base S V N env0 K0 φ0 I0 w0 nt L a w p φ I) {i : Nat} (hir : i ∈ Region.ready .any ops L) {Q : Exit → Act → World → Prop} {K : Act → World → Prop}
    (hK : ∀ a' w' p' φ' I', Inv P ops hl base S V N env0 K0 φ0 I0 w0 nt (L.setIfInBounds i true) a' w' p' φ' I' → K a' w') : wpOp P ops Q i K a w := by
  obtain ⟨hu0, o, ho1, hr0⟩ := mem_ready.1 hir
  have hi : i < ops.size := (Array.getElem?_eq_some_iff.1 ho1).1
  have hiL : i < L.size := by rw [v.size]; exact hi
  have hu : L.getD i false = false := by simpa [hiL] using hu0
  have hr : ∀ (o' : Oper) (e : Edge), ops[i]? = some o' → e ∈ o'.after → Region.binds .any e = true → L.getD e.on false = true := fun o' e h he hb => by rw [ho1] at h; cases h; exact hr0 e he hb
  obtain ⟨_, ho, _, hh⟩ := t.both hi
  obtain ⟨hd, _⟩ := t.did i o ho ho1 hh
  have hreads := v.reads t ho1 hh hu hr
  have hntd : ∀ d, o.dst = some d → d < nt := fun d hd => hnt i o d ho1 hd
  have hL : ∀ j, (L.setIfInBounds i true).getD j false = if i = j then true else L.getD j false := fun j => getD_set L i j hiL
  -- the objects, where none is made
  have objs0 : N i = none → ∀ j, j < ops.size → N j ≠ none → ((L.setIfInBounds i true).getD j false = true → ∃ Lc, φ (base + j) = some Lc) ∧ ((L.setIfInBounds i true).getD j false = false → φ (base + j) = none) := by
    intro hNi j hj hNj
    have hij : i ≠ j := fun h => hNj (h ▸ hNi)
    rw [hL, if_neg hij]; exact v.objs j hj hNj
  -- an operation that changes nothing
  have quiet : N i = none → effAt hl i = false → ∀ c, RelV w φ I (V i) c → K (a.put o.dst c) w := fun hNi he c hc =>
    hK _ _ p φ I (v.next t ho1 hu hr hntd (.refl _ _ _) hc (.inl ⟨rfl, he⟩) v.hw v.hr v.pos (objs0 hNi) v.ext)
  have pureK : N i = none → effAt hl i = false → PureAt P (execOp a.eval o) φ I w (V i) → o.wp P a w K Q := fun hNi he ⟨c, c1, c2⟩ =>
    wp_of_opR (OpR.value (R := fun c' w' => c' = c ∧ w' = w) c1 ⟨rfl, rfl⟩) fun c' w' ⟨e1, e2⟩ => by subst e1 e2; exact quiet hNi he c' c2
  unfold wpOp
  simp only [ho1]
  generalize hNi : N i = nb at hd
  cases hd with
  | skip hw hv0 hhS hdS hc h2 he =>
    have hwant := wantedB_sound (ops := ops) (o := o) hreads hw
    rw [if_neg (by rw [hwant]; simp)]
    have hund : RelV w φ I (V i) undef := by rw [hv0]; exact undef_rel
    cases heff : effAt hl i with
    | false => exact quiet hNi heff undef hund
    | true =>
      obtain ⟨g1, g2, g3, g4⟩ := v.atEff t hi hu hr heff
      obtain ⟨s1, s2, s3⟩ := step_same (ops := ops) (base := base) (pd := (S i).pd) (h := (S i).h) hNi
      have e1 : Gf ops base S N (i + 1) = Gf ops base S N p := by unfold Gf at *; rw [hhS, hdS, s2, g2]
      have e2 : Mf ops base S N (i + 1) = Mf ops base S N p := by unfold Mf at *; rw [hhS, hdS, s3, g3]
      have e3 : (S (i + 1)).h = (S p).h := by rw [hhS, g4]
      exact hK _ _ (i + 1) φ I (v.next t ho1 hu hr hntd (.refl _ _ _) hund (.inr ⟨rfl, heff⟩) (by unfold HW; rw [hhS, hdS]; exact s1 g1) (by rw [e1, e2]; exact v.hr) (by rw [e3]; exact v.pos) (objs0 hNi) (by rw [e1, e2, e3]; exact v.ext))
  | pure hw h0 hp hhS hdS hc he =>
    have hwant := wantedB_sound (ops := ops) (o := o) hreads hw
    rw [if_pos hwant]
    have heff : effAt hl i = false := by rw [effAt_of hh]; simp [effB, h0]
    exact .inl (pureK hNi heff (hp φ I w a (v.hr.less (fun b k hb => by cases hb) (fun b l hb => by cases hb)) hreads))
  | read hw h0 hp hhS hdS hc he =>
    have hwant := wantedB_sound (ops := ops) (o := o) hreads hw
    rw [if_pos hwant]
    have heff : effAt hl i = false := by rw [effAt_of hh]; simp [effB, h0]
    exact .inl (pureK hNi heff (v.readFact hT hF t hcks ho1 hh hu hr h0 hp hc))
  | make hw h0 n mkv hv0 hp hhS hdS hc he =>
    have hwant := wantedB_sound (ops := ops) (o := o) hreads hw
    rw [if_pos hwant]
    have heff : effAt hl i = false := by rw [effAt_of hh]; simp [effB, h0]
    obtain ⟨c, w', Lc, c1, c2, c3⟩ := hp φ I w a hreads
    have hfree := (v.objs i hi (by rw [hNi]; simp)).2 hu
    obtain ⟨q1, q2, q3, q4, q5⟩ := v.hr.locate hfree c2 (v.objAt t hi hu hNi)
    refine .inl (wp_of_opR (OpR.value (R := fun c' w'' => c' = c ∧ w'' = w') c1 ⟨rfl, rfl⟩) fun c' w'' ⟨e1, e2⟩ => ?_)
    subst e1 e2
    have hroom := v.hw.room
    refine hK _ _ p (sete φ (base + i) (some Lc)) I (v.next t ho1 hu hr hntd q2 (by rw [hv0]; exact c3 _ _ _ _ (sete_same _ _ _)) (.inl ⟨rfl, heff⟩) v.hw q1 (fun b Lb hb => ?_) (fun j hj hNj => ?_) ⟨v.ext.toExt0.trans q2, v.ext.next, fun B hB hn => ?_, fun b Lb hb hKb => ?_, fun b Lb hb => ?_, v.ext.ids, v.ext.inew⟩)
    · unfold sete at hb; split at hb
      · subst_vars; omega
      · exact v.pos b Lb hb
    · rw [hL]
      by_cases hij : i = j
      · subst hij; rw [if_pos rfl, sete_same]; exact ⟨fun _ => ⟨_, rfl⟩, fun h => by cases h⟩
      · rw [if_neg hij, sete_ne _ _ (by omega)]; exact v.objs j hj hNj
    · rw [q5 B (Nat.lt_of_lt_of_le hB v.ext.size)]; exact v.ext.frame B hB hn
    · unfold sete at hb; split at hb
      · cases hb; rw [q3]; exact .inr (.inl v.ext.size)
      · exact v.ext.new b Lb hb hKb
    · unfold sete at hb; split at hb
      · subst_vars; exact .inr (by omega)
      · exact v.ext.fresh b Lb hb
  | eff hw h3 hp hdS hc he =>
    have hwant := wantedB_sound (ops := ops) (o := o) hreads hw
    rw [if_pos hwant]
    have heff : effAt hl i = true := by rw [effAt_of hh]; exact effB_iff.2 h3
    obtain ⟨g1, g2, g3, g4⟩ := v.atEff t hi hu hr heff
    obtain ⟨m1, m2, m3, m4, _⟩ := mvL_ok (N := N) ho.ad g1
    generalize hpd1 : (mvL base ho.ad (S i).pd (S i).h).1 = pd1 at m1 m2 m3 hdS
    generalize hh1 : (mvL base ho.ad (S i).pd (S i).h).2 = h1 at m1 m2 m3 m4 hp
    have eG : Gf ops base S N p = fun b => ((Dg ops base N i b).or (pd1.get b)).or (h1.get b) := by
      rw [← g2]; unfold Gf; rw [← m2]; funext b; unfold Gp; rw [Option.or_assoc]
    have eM : Mf ops base S N p = fun b => ((Dm ops base N i b).or (lk pd1.maps b)).or (lk h1.maps b) := by
      rw [← g3]; unfold Mf; rw [← m3]; funext b; unfold Mp; rw [Option.or_assoc]
    have hnext : h1.next = (S p).h.next := by rw [m4, g4]
    have hrp := v.hr
    rw [eG, eM] at hrp
    have hD : ∀ b, KG (fun b => (Dg ops base N i b).or (pd1.get b)) (fun b => (Dm ops base N i b).or (lk pd1.maps b)) b → b < h1.next ∧ ¬ Kn h1 b := by
      intro b hb
      have cases' : (base + i ≤ b ∧ b < base + ops.size) ∨ Kn pd1 b := by
        rcases hb with ⟨k, hb⟩ | ⟨l, hb⟩
        · cases hq : Dg ops base N i b with
          | some k' =>
            left; unfold Dg at hq; split at hq
            · assumption
            · cases hq
          | none => right; left; exact ⟨k, by simpa [hq] using hb⟩
        · cases hq : Dm ops base N i b with
          | some k' =>
            left; unfold Dm at hq; split at hq
            · assumption
            · cases hq
          | none => right; right; exact ⟨l, by simpa [hq] using hb⟩
      have hroom := m1.room
      rcases cases' with ⟨c1, c2⟩ | hK'
      · have := (m1.free (b - base) (by omega) (by omega)).1
        rw [show base + (b - base) = b by omega] at this
        exact ⟨by omega, this⟩
      · obtain ⟨q1, q2, q3⟩ := m1.pds b hK'
        exact ⟨by omega, q3⟩
    have sim : Sim φ I h1 w := by
      refine ⟨hrp.less (fun b k hb => ?_) (fun b l hb => ?_), ⟨fun b Lb hb => by rw [hnext]; exact v.pos b Lb hb, m1.blks, m1.maps, m1.apart, m1.ub, m1.um⟩⟩
      · have hn : (Dg ops base N i b).or (pd1.get b) = none := by
          cases hq : (Dg ops base N i b).or (pd1.get b) with
          | none => rfl
          | some k' => exact absurd (.inl ⟨k, hb⟩) (hD b (.inl ⟨k', hq⟩)).2
        simp only [hn, Option.none_or]; exact hb
      · have hn : (Dm ops base N i b).or (lk pd1.maps b) = none := by
          cases hq : (Dm ops base N i b).or (lk pd1.maps b) with
          | none => rfl
          | some k' => exact absurd (.inr ⟨l, hb⟩) (hD b (.inr ⟨k', hq⟩)).2
        simp only [hn, Option.none_or]; exact hb
    refine .inl (wp_of_opR (hp φ I w a sim hreads) fun c w' ⟨φ', I', ex, s', hvv⟩ => ?_)
    have hfr := hrp.frame ex s'.hr hD
    have eG' : Gf ops base S N (i + 1) = fun b => ((Dg ops base N i b).or (pd1.get b)).or ((S (i + 1)).h.get b) := by
      unfold Gf; funext b; unfold Gp; rw [Dg_succ_none (.inl hNi), hdS, Option.or_assoc]
    have eM' : Mf ops base S N (i + 1) = fun b => ((Dm ops base N i b).or (lk pd1.maps b)).or (lk (S (i + 1)).h.maps b) := by
      unfold Mf; funext b; unfold Mp; rw [Dm_succ_none (.inl hNi), hdS, Option.or_assoc]
    have old : ∀ b Lb, b < h1.next → φ' b = some Lb → φ b = some Lb := fun b Lb hlt hb => (ex.fresh b Lb hb).resolve_right (fun h => by omega)
    have knK : ∀ b, Kn h1 b → KG (Gf ops base S N p) (Mf ops base S N p) b := by
      intro b hb
      have hn : ¬ KG (fun b => (Dg ops base N i b).or (pd1.get b)) (fun b => (Dm ops base N i b).or (lk pd1.maps b)) b := fun h => (hD b h).2 hb
      rw [eG, eM]
      have n1 : (Dg ops base N i b).or (pd1.get b) = none := by
        cases hq : (Dg ops base N i b).or (pd1.get b) with
        | none => rfl
        | some k' => exact absurd (.inl ⟨k', hq⟩) hn
      have n2 : (Dm ops base N i b).or (lk pd1.maps b) = none := by
        cases hq : (Dm ops base N i b).or (lk pd1.maps b) with
        | none => rfl
        | some k' => exact absurd (.inr ⟨k', hq⟩) hn
      rcases hb with ⟨k, hb⟩ | ⟨l, hb⟩
      · exact .inl ⟨k, by simp only [n1, Option.none_or]; exact hb⟩
      · exact .inr ⟨l, by simp only [n2, Option.none_or]; exact hb⟩
    -- what is known behind it: the waiting ones, or the heap's
    have split : ∀ b, KG (Gf ops base S N (i + 1)) (Mf ops base S N (i + 1)) b → (b < h1.next ∧ KG (Gf ops base S N p) (Mf ops base S N p) b) ∨ Kn (S (i + 1)).h b := by
      intro b hb
      rw [eG', eM'] at hb
      have fromD : KG (fun b => (Dg ops base N i b).or (pd1.get b)) (fun b => (Dm ops base N i b).or (lk pd1.maps b)) b → b < h1.next ∧ KG (Gf ops base S N p) (Mf ops base S N p) b := by
        intro hk
        refine ⟨(hD b hk).1, ?_⟩
        rw [eG, eM]
        rcases hk with ⟨k, hk⟩ | ⟨l, hk⟩
        · exact .inl ⟨k, by dsimp only at hk ⊢; rw [hk]; rfl⟩
        · exact .inr ⟨l, by dsimp only at hk ⊢; rw [hk]; rfl⟩
      rcases hb with ⟨k, hb⟩ | ⟨l, hb⟩
      · cases hq : (Dg ops base N i b).or (pd1.get b) with
        | some k' => exact .inl (fromD (.inl ⟨k', hq⟩))
        | none => right; left; exact ⟨k, by simpa [hq] using hb⟩
      · cases hq : (Dm ops base N i b).or (lk pd1.maps b) with
        | some k' => exact .inl (fromD (.inr ⟨k', hq⟩))
        | none => right; right; exact ⟨l, by simpa [hq] using hb⟩
    have lift : Ext (S p).h.next (S (i + 1)).h.next (KG (Gf ops base S N p) (Mf ops base S N p)) φ I w (KG (Gf ops base S N (i + 1)) (Mf ops base S N (i + 1))) φ' I' w' := by
      refine ⟨ex.toExt0, by rw [← hnext]; exact ex.next, fun B hB hn => ex.frame B hB fun b Lb h1' h2' => hn b Lb h1' (knK b h2'), fun b Lb hb hKb => ?_, fun b Lb hb => by rw [← hnext]; exact ex.fresh b Lb hb, fun b hKb => ?_, fun B x hx => (ex.inew B x hx).imp id (Or.imp id fun ⟨b0, L0, q1, q2, q3⟩ => ⟨b0, L0, q1, knK b0 q2, q3⟩)⟩
      · rcases split b hKb with ⟨q1, q2⟩ | q1
        · exact .inl ⟨old b Lb q1 hb, q2⟩
        · rcases ex.new b Lb hb q1 with ⟨q2, q3⟩ | q2 | ⟨b0, L0, q2, q3, q4⟩
          · exact .inl ⟨q2, knK b q3⟩
          · exact .inr (.inl q2)
          · exact .inr (.inr ⟨b0, L0, q2, knK b0 q3, q4⟩)
      · rcases split b hKb with ⟨_, q2⟩ | q1
        · exact .inl q2
        · rcases ex.ids b q1 with q2 | q2
          · exact .inl (knK b q2)
          · right; rw [← hnext]; exact q2
    have hroom := m1.room
    have notKn : ∀ b, b < base + ops.size → ¬ Kn h1 b → ¬ Kn (S (i + 1)).h b := fun b hb hn hK' => by
      rcases ex.ids b hK' with q | q
      · exact hn q
      · omega
    refine hK _ _ (i + 1) φ' I' (v.next t ho1 hu hr hntd ex.toExt0 hvv (.inr ⟨rfl, heff⟩) ?_ (by rw [eG', eM']; exact hfr) s'.ok.pos (fun j hj hNj => ?_) (v.ext.trans lift))
    · unfold HW
      rw [hdS]
      refine ⟨s'.ok.blks, s'.ok.maps, s'.ok.apart, s'.ok.ub, s'.ok.um, Nat.le_trans hroom ex.next, fun j hj1 hj2 => ?_, fun b hb => ?_, m1.pap, m1.pub, m1.pum⟩
      · obtain ⟨q1, q2⟩ := m1.free j (by omega) hj2
        exact ⟨notKn _ (by omega) q1, q2⟩
      · obtain ⟨q1, q2, q3⟩ := m1.pds b hb
        exact ⟨q1, q2, notKn b q2 q3⟩
    · have hij : i ≠ j := fun h => hNj (h ▸ hNi)
      rw [hL, if_neg hij]
      obtain ⟨q1, q2⟩ := v.objs j hj hNj
      refine ⟨fun h => ?_, fun h => ?_⟩
      · obtain ⟨Lc, hLc⟩ := q1 h; exact ⟨Lc, ex.sub _ _ hLc⟩
      · cases hq : φ' (base + j) with
        | none => rfl
        | some Lc => rw [old (base + j) Lc (by omega) hq] at q2; exact absurd (q2 h) (by simp)
end
end Go.Den
