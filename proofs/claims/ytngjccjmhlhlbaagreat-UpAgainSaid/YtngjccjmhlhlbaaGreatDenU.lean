/- A part of a machine that computes what the program computes, and of the proof that it does -/
import Derived.Test.YtngjccjmhlhlbaaGreatDenT
set_option linter.unusedVariables false
set_option linter.unusedSimpArgs false
set_option linter.unusedSectionVars false
namespace Go.Den
open Go

variable [Val]

/-- what lives in a region alone is not kept; what lives beyond is -/
def LocOk (keep : Nat) (loc : Regs) : Prop := ∀ t v, lk loc t = some v → keeps keep t = false
def EnvKp (keep : Nat) (env : Regs) : Prop := ∀ t v, lk env t = some v → keeps keep t = true

section
variable {P : Program} {E : Env} {rec : Rec} {φ : Pos} {I : Imm} {w : World} {loc env : Regs} {a : Act} {keep : Nat}

theorem Act.put_size (a : Act) (d : Option Tmp) (v : Value) : (a.put d v).tmps.size = a.tmps.size := by cases d <;> simp [Act.put]
theorem Act.put_defers' (a : Act) (d : Option Tmp) (v : Value) : (a.put d v).defers = a.defers := by cases d <;> rfl
theorem Act.put_get (a : Act) (d : Nat) (v : Value) (t : Nat) : (a.put (some d) v).tmps.getD t undef = if d = t ∧ d < a.tmps.size then v else a.tmps.getD t undef := by
  simp only [Act.put, Array.getD_eq_getD_getElem?, Array.getElem?_setIfInBounds]
  by_cases h1 : d = t
  · subst h1
    by_cases h2 : d < a.tmps.size
    · simp [h2]
    · simp [h2]
  · simp [h1]

theorem RelR.ext {w' : World} {φ' : Pos} {I' : Imm} (e : Ext0 φ I w φ' I' w') (h : RelR w φ I loc env a) : RelR w' φ' I' loc env a :=
  fun t v ht => ⟨(h t v ht).1, (h t v ht).2.ext e⟩

theorem setReg_some {d : Option Nat} {v : AV} {f : Regs → Regs → Option Fin2} {r : Fin2} (e : setReg d keep loc env v f = some r) :
    ∃ loc' env', f loc' env' = some r ∧ ((d = none ∧ loc' = loc ∧ env' = env) ∨ (∃ t, d = some t ∧ ((keeps keep t = true ∧ loc' = loc ∧ env' = put env t v) ∨ (keeps keep t = false ∧ loc' = .cons t v loc ∧ env' = env)))) := by
  cases d with
  | none => exact ⟨loc, env, e, .inl ⟨rfl, rfl, rfl⟩⟩
  | some t =>
    rcases ifb_some (show ifb (keeps keep t) (putK env t v fun env => f loc env) (f (.cons t v loc) env) = some r from e) with ⟨h, e1⟩ | ⟨h, e1⟩
    · rw [putK_eq] at e1; exact ⟨_, _, e1, .inr ⟨t, rfl, .inl ⟨h, rfl, rfl⟩⟩⟩
    · exact ⟨_, _, e1, .inr ⟨t, rfl, .inr ⟨h, rfl, rfl⟩⟩⟩

/-- what the machine's temporaries are behind a step -/
theorem setReg_lk2 {d : Option Nat} {v : AV} {loc' env' : Regs} (hl : LocOk keep loc) (h : (d = none ∧ loc' = loc ∧ env' = env) ∨ (∃ t, d = some t ∧ ((keeps keep t = true ∧ loc' = loc ∧ env' = put env t v) ∨ (keeps keep t = false ∧ loc' = .cons t v loc ∧ env' = env)))) :
    (∀ t, lk2 loc' env' t = if d = some t then some v else lk2 loc env t) ∧ LocOk keep loc' ∧ (EnvKp keep env → EnvKp keep env') := by
  rcases h with ⟨rfl, rfl, rfl⟩ | ⟨t, rfl, ⟨h, rfl, rfl⟩ | ⟨h, rfl, rfl⟩⟩
  · exact ⟨fun t => by simp, hl, id⟩
  · refine ⟨fun u => ?_, hl, fun he u x hu => ?_⟩
    · rw [lk2_eq, lk2_eq, lk_put]
      by_cases hut : t = u
      · subst hut
        have : lk loc' t = none := by
          cases hq : lk loc' t with
          | none => rfl
          | some x => have := hl t x hq; rw [h] at this; cases this
        simp [this]
      · simp [hut]
    · rw [lk_put] at hu; split at hu
      · subst_vars; exact h
      · exact he u x hu
  · refine ⟨fun u => ?_, fun u x hu => ?_, id⟩
    · rw [lk2_eq, lk2_eq, lk_cons]
      by_cases hut : t = u
      · subst hut; simp
      · simp [hut]
    · rw [lk_cons] at hu; split at hu
      · subst_vars; exact h
      · exact hl u x hu

theorem RelR.put {d : Option Nat} {v : AV} {c : Value} {loc' env' : Regs} (h : RelR w φ I loc env a) (hv : RelV w φ I v c) (hd : ∀ t, d = some t → t < a.tmps.size)
    (hl : ∀ t, lk2 loc' env' t = if d = some t then some v else lk2 loc env t) : RelR w φ I loc' env' (a.put d c) := by
  intro t x ht
  rw [hl] at ht
  rw [Act.put_size]
  cases d with
  | none => simp at ht; exact h t x ht
  | some d =>
    rw [Act.put_get]
    by_cases hdt : d = t
    · subst hdt
      simp at ht; subst ht
      have := hd d rfl
      exact ⟨this, by simpa [this] using hv⟩
    · simp [hdt] at ht
      exact ⟨(h t x ht).1, by simpa [hdt] using (h t x ht).2⟩

/-! ### guards -/
theorem guardVal_sound {v : AV} {c : Value} {w0 b : Bool} (hv : RelV w φ I v c) (e : guardVal v w0 = some b) : ((match some c with | some (.bool b) => some b | _ => none : Option Bool) == some w0) = b := by
  cases v with
  | bool b0 =>
    have := hv.bool_inv; subst this
    cases e
    rw [boolBeq_eq]; rfl
  | tup cs =>
    have e' : @List.rec AV (fun _ => Option Bool) (some false) (fun _ _ _ => none) cs = some b := e
    cases cs with
    | nil => cases e'; have := hv.tup0_inv; subst this; rfl
    | cons _ _ => cases e'
  | _ => cases e

theorem wantedB_sound {ops : Array Oper} {o : Oper} {b : Bool} (hR : RelR w φ I loc env a) (e : wantedB o.guard ops.toList loc env = some b) : Region.wanted o (yielded ops a.tmps) = b := by
  unfold Region.wanted
  cases hg : o.guard with
  | none => rw [hg] at e; cases e; rfl
  | some p =>
    obtain ⟨j, w0⟩ := p
    rw [hg] at e
    obtain ⟨q, hq, e1⟩ := ob_some (show ob (nth ops.toList j) (fun o => ob o.dst fun d => ob (lk2 loc env d) fun v => guardVal v w0) = some b from e)
    obtain ⟨d, hd, e2⟩ := ob_some e1
    obtain ⟨v, hv, e3⟩ := ob_some e2
    rw [nth_eq] at hq
    obtain ⟨h1, h2⟩ := hR d v hv
    have hy : yielded ops a.tmps j = (match some (a.tmps.getD d undef) with | some (.bool b) => some b | _ => none) := by
      unfold yielded
      have : ops[j]? = some q := by simpa using hq
      simp only [this, Option.bind_some, hd]
      rw [show a.tmps[d]? = some (a.tmps.getD d undef) by simp [h1]]
      generalize a.tmps.getD d undef = y
      cases y <;> rfl
    simp only [hy]
    exact guardVal_sound h2 e3

theorem wp_of_opR {o : Oper} {R : Value → World → Prop} {K : Act → World → Prop} {Q : Exit → Act → World → Prop} (h : OpR P (execOp a.eval o) w R) (hk : ∀ v w', R v w' → K (a.put o.dst v) w') : o.wp P a w K Q := by
  unfold Oper.wp
  unfold OpR at h
  generalize (execOp a.eval o).run P w = res at h
  cases res with
  | halt x w' => exact h.elim
  | ok n w' =>
    cases n <;> first | exact h.elim | skip
    · exact hk _ _ h
    · exact hk _ _ h
    · refine Calls.mono h fun e w'' he => ?_
      obtain ⟨v, rfl, hr⟩ := he
      exact hk _ _ hr

/-- what is so behind a piece of the run -/
structure After (h0 : Heap) (φ0 : Pos) (I0 : Imm) (w0 : World) (loc env : Regs) (h : Heap) (nt : Nat) (a : Act) (w : World) : Prop where
  defers : a.defers = []
  size : nt ≤ a.tmps.size
  rel : ∃ φ I, HExt h0 φ0 I0 w0 h φ I w ∧ Sim φ I h w ∧ RelR w φ I loc env a

theorem evOps_sound (hT : TypesOk P E) (hF : ∀ t i, E.T t = some i → FieldsIn i) (hC : FnSound P E rec) {ops : Array Oper} {nt : Nat} {Q : Exit → Act → World → Prop} {h0 : Heap} {φ0 : Pos} {I0 : Imm} {w0 : World} {env' : Regs} {h' : Heap} :
    ∀ (l : List Oper) (loc env : Regs) (h : Heap) (a : Act) (w : World), (∀ o ∈ l, ∀ d, o.dst = some d → d < nt) → evOps ops.toList l E rec keep loc env h = some (env', h') → LocOk keep loc → EnvKp keep env → After h0 φ0 I0 w0 loc env h nt a w →
    (∀ a' w', EnvKp keep env' → After h0 φ0 I0 w0 .nil env' h' nt a' w' → Q .normal a' w') → wpList P ops Q l a w
  | [], loc, env, h, a, w, _, e, hl, hk, ha, hQ => by
    cases e
    refine hQ a w hk ⟨ha.defers, ha.size, ?_⟩
    obtain ⟨φ, I, ex, s, hR⟩ := ha.rel
    refine ⟨φ, I, ex, s, fun t v ht => hR t v ?_⟩
    rw [lk2_eq] at ht ⊢
    simp only [lk_nil, Option.none_or] at ht
    have : lk loc t = none := by
      cases hq : lk loc t with
      | none => rfl
      | some x => have h1 := hl t x hq; have h2 := hk t v ht; rw [h1] at h2; cases h2
    simp [this, ht]
  | o :: l, loc, env, h, a, w, hd, e, hl, hk, ha, hQ => by
    rcases o with ⟨dst, op, ty, pos, aft, g⟩
    obtain ⟨b, hb, e1⟩ := ob_some (show ob (wantedB g ops.toList loc env) (fun b => ifb b (evOp op E rec loc env h fun v h => setReg dst keep loc env v fun loc env => evOps ops.toList l E rec keep loc env h)
        (setReg dst keep loc env (.tup []) fun loc env => evOps ops.toList l E rec keep loc env h)) = some (env', h') from e)
    obtain ⟨φ, I, ex, s, hR⟩ := ha.rel
    have hw := wantedB_sound (ops := ops) (o := ⟨dst, op, ty, pos, aft, g⟩) hR hb
    have hdst : ∀ t, dst = some t → t < a.tmps.size := fun t ht => Nat.lt_of_lt_of_le (hd _ (List.mem_cons_self ..) t ht) ha.size
    have hd' : ∀ o ∈ l, ∀ d, o.dst = some d → d < nt := fun o ho => hd o (List.mem_cons_of_mem _ ho)
    unfold wpList
    rcases ifb_some e1 with ⟨rfl, e2⟩ | ⟨rfl, e2⟩
    · rw [if_pos hw]
      obtain ⟨v, h1, e3, hs⟩ := op_sound (P := P) (o := ⟨dst, op, ty, pos, aft, g⟩) hT hF hC e2
      obtain ⟨loc', env1, e4, hset⟩ := setReg_some e3
      obtain ⟨l1, l2, l3⟩ := setReg_lk2 hl hset
      refine .inl (wp_of_opR (hs φ I w a s hR) fun c w' ⟨φ', I', ex', s', hv⟩ => ?_)
      refine evOps_sound hT hF hC l loc' env1 h1 _ w' hd' e4 l2 (l3 hk) ⟨?_, ?_, φ', I', ex.trans ex', s', ?_⟩ hQ
      · rw [Act.put_defers']; exact ha.defers
      · rw [Act.put_size]; exact ha.size
      · exact (hR.ext ex'.toExt0).put hv hdst l1
    · rw [if_neg (by rw [hw]; simp)]
      obtain ⟨loc', env1, e4, hset⟩ := setReg_some e2
      obtain ⟨l1, l2, l3⟩ := setReg_lk2 hl hset
      refine evOps_sound hT hF hC l loc' env1 h _ w hd' e4 l2 (l3 hk) ⟨?_, ?_, φ, I, ex, s, ?_⟩ hQ
      · rw [Act.put_defers']; exact ha.defers
      · rw [Act.put_size]; exact ha.size
      · exact hR.put undef_rel hdst l1
end
end Go.Den
