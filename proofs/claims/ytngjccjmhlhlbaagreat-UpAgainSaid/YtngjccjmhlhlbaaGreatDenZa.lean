/- A part of a machine that computes what the program computes, and of the proof that it does -/
import Derived.Test.YtngjccjmhlhlbaaGreatDenZ
set_option linter.unusedVariables false
set_option linter.unusedSimpArgs false
set_option linter.unusedSectionVars false
namespace Go.Den
open Go

variable [Val]

/-- the run in the text's order, by places -/
structure TrOk (P : Program) (E : Env) (rec : Rec) (keep : Nat) (ops : Array Oper) (hl : List HOp) (base : Nat) (S : Nat → St) (V : Nat → AV) (N : Nat → Option NObj) (env0 : Regs) : Prop where
  ok : DrawOk E ops hl
  did : ∀ (i : Nat) (o : Oper) (ho : HOp), ops[i]? = some o → hl[i]? = some ho → Did P E rec ops.toList o ho base (base + i) (S i) (S (i + 1)) (V i) (N i) ∧ SetR keep o.dst (S i).loc (S i).env (V i) (S (i + 1)).loc (S (i + 1)).env
  loc0 : (S 0).loc = .nil
  envI : (S 0).env = env0
  eps0 : (S 0).eps = []
  pd0 : (S 0).pd = heap00
  kp : EnvKp keep env0

section
variable {P : Program} {E : Env} {rec : Rec} {keep : Nat} {ops : Array Oper} {hl : List HOp} {base : Nat} {S : Nat → St} {V : Nat → AV} {N : Nat → Option NObj} {env0 : Regs}

theorem TrOk.both (t : TrOk P E rec keep ops hl base S V N env0) {i : Nat} (hi : i < ops.size) : ∃ o ho, ops[i]? = some o ∧ hl[i]? = some ho := by
  have h2 : i < hl.length := by rw [t.ok.len]; exact hi
  exact ⟨ops[i], hl[i], Array.getElem?_eq_getElem hi, List.getElem?_eq_getElem h2⟩

theorem effAt_of {i : Nat} {ho : HOp} (h : hl[i]? = some ho) : effAt hl i = effB ho := by unfold effAt; rw [h]

theorem TrOk.step (t : TrOk P E rec keep ops hl base S V N env0) {j : Nat} (hj : j < ops.size) (he : effAt hl j = false) (hw : HW ops base S j) :
    HW ops base S (j + 1) ∧ Gf ops base S N (j + 1) = Gf ops base S N j ∧ Mf ops base S N (j + 1) = Mf ops base S N j ∧ (S (j + 1)).h = (S j).h := by
  obtain ⟨o, ho, h1, h2⟩ := t.both hj
  obtain ⟨hd, _⟩ := t.did j o ho h1 h2
  rw [effAt_of h2] at he
  generalize hN : N j = nb at hd
  have same : (S (j + 1)).h = (S j).h → (S (j + 1)).pd = (S j).pd → N j = none → HW ops base S (j + 1) ∧ Gf ops base S N (j + 1) = Gf ops base S N j ∧ Mf ops base S N (j + 1) = Mf ops base S N j ∧ (S (j + 1)).h = (S j).h := by
    intro e1 e2 e3
    obtain ⟨a, b, c⟩ := step_same (ops := ops) (base := base) (pd := (S j).pd) (h := (S j).h) e3
    unfold Gf Mf HW
    rw [e1, e2]
    exact ⟨a hw, b, c, rfl⟩
  cases hd with
  | skip hw' hv hh hd hc h2' he' => exact same hh hd hN
  | pure hw' h0 hp hh hd hc he' => exact same hh hd hN
  | read hw' h0 hp hh hd hc he' => exact same hh hd hN
  | make hw' h2' n mkv hv hp hh hd hc he' =>
    obtain ⟨a, b, c⟩ := step_make (N := N) hj hN (h := (S j).h) hd hw
    unfold Gf Mf HW
    rw [hh]
    exact ⟨a, b, c, rfl⟩
  | eff hw' h3 hp hd hc he' => rw [effB_iff.2 h3] at he; cases he

theorem TrOk.steps (t : TrOk P E rec keep ops hl base S V N env0) {p q : Nat} (h : p ≤ q) (hq : q ≤ ops.size) (hn : ∀ e, p ≤ e → e < q → effAt hl e = false) (hw : HW ops base S p) :
    HW ops base S q ∧ Gf ops base S N q = Gf ops base S N p ∧ Mf ops base S N q = Mf ops base S N p ∧ (S q).h = (S p).h := by
  induction h with
  | refl => exact ⟨hw, rfl, rfl, rfl⟩
  | step hpq ih =>
    rename_i q'
    obtain ⟨a, b, c, d⟩ := ih (by omega) (fun e h1 h2 => hn e h1 (by omega))
    obtain ⟨a', b', c', d'⟩ := t.step (by omega) (hn q' hpq (by omega)) a
    exact ⟨a', b'.trans b, c'.trans c, d'.trans d⟩

/-- the temporaries at a place of the text -/
theorem TrOk.regs (t : TrOk P E rec keep ops hl base S V N env0) : ∀ j, j ≤ ops.size → LocOk keep (S j).loc ∧ EnvKp keep (S j).env ∧
    (∀ (i : Nat) (o : Oper) (d : Nat), i < j → ops[i]? = some o → o.dst = some d → lk2 (S j).loc (S j).env d = some (V i)) ∧
    (∀ d, (∀ (i : Nat) (o : Oper), i < j → ops[i]? = some o → o.dst ≠ some d) → lk2 (S j).loc (S j).env d = lk env0 d)
  | 0, _ => by
    rw [t.loc0, t.envI]
    exact ⟨fun t v h => (by cases h), t.kp, fun i o d hi => (by omega), fun d _ => by rw [lk2_eq, lk_nil, Option.none_or]⟩
  | j + 1, hj => by
    obtain ⟨h1, h2, h3, h4⟩ := t.regs j (by omega)
    obtain ⟨o, ho, k1, k2⟩ := t.both (i := j) (by omega)
    obtain ⟨_, hset⟩ := t.did j o ho k1 k2
    obtain ⟨l1, l2, l3⟩ := setReg_lk2 h1 hset
    refine ⟨l2, l3 h2, fun i o' d hi ho' hd => ?_, fun d hd => ?_⟩
    · rw [l1]
      by_cases hij : i = j
      · subst hij; rw [k1] at ho'; cases ho'; rw [if_pos hd]
      · rw [if_neg (fun hd' => hij (t.ok.dst i j o' o d ho' k1 hd hd'))]
        exact h3 i o' d (by omega) ho' hd
    · rw [l1, if_neg (hd j o (by omega) k1)]
      exact h4 d fun i o' hi ho' => hd i o' (by omega) ho'

theorem Did.eps {o : Oper} {ho : HOp} {id : Nat} {s s' : St} {v : AV} {nb : Option NObj} {all : List Oper} (d : Did P E rec all o ho base id s s' v nb) : s'.eps = if effB ho then s.eps ++ [unionH s.pd s.h] else s.eps := by
  have ne : ho.cls = 0 ∨ ho.cls = 1 ∨ ho.cls = 2 → effB ho = false := by
    intro h
    cases hb : effB ho with
    | false => rfl
    | true => have := effB_iff.1 hb; unfold IsEff at this; omega
  cases d with
  | skip hw hv hh hd hc h2 he =>
    rcases he with ⟨h1, h2⟩ | ⟨h1, h2⟩
    · rw [effB_iff.2 h1]; simpa using h2
    · have : effB ho = false := by cases hb : effB ho <;> simp_all [effB_iff]
      rw [this]; simpa using h2
  | pure hw h0 hp hh hd hc he => rw [ne (.inl h0)]; simpa using he
  | read hw h0 hp hh hd hc he => rw [ne (.inr (.inl h0))]; simpa using he
  | make hw h0 n mkv hv hp hh hd hc he => rw [ne (.inr (.inr h0))]; simpa using he
  | eff hw h3 hp hd hc he => rw [effB_iff.2 h3]; simpa using he

theorem Did.cks {o : Oper} {ho : HOp} {id : Nat} {s s' : St} {v : AV} {nb : Option NObj} {all : List Oper} (d : Did P E rec all o ho base id s s' v nb) : ∀ c ∈ s.cks, c ∈ s'.cks := by
  intro c hc
  cases d with
  | skip _ _ _ _ h => rw [h]; exact hc
  | pure _ _ _ _ _ h => rw [h]; exact hc
  | read _ _ _ _ _ h =>
    rcases h with ⟨_, h⟩ | h
    · rw [h]; exact hc
    · rw [h]; exact List.mem_cons_of_mem _ hc
  | make _ _ _ _ _ _ _ _ h => rw [h]; exact hc
  | eff _ _ _ _ h => rw [h]; exact hc

theorem TrOk.cks (t : TrOk P E rec keep ops hl base S V N env0) {i j : Nat} (h : i ≤ j) (hj : j ≤ ops.size) : ∀ c ∈ (S i).cks, c ∈ (S j).cks := by
  induction h with
  | refl => exact fun c h => h
  | step hij ih =>
    rename_i q
    intro c hc
    obtain ⟨o, ho, k1, k2⟩ := t.both (i := q) (by omega)
    exact (t.did q o ho k1 k2).1.cks c (ih (by omega) c hc)

/-- the heaps ahead of the operations of kind 3 -/
theorem TrOk.eps (t : TrOk P E rec keep ops hl base S V N env0) : ∀ j, j ≤ ops.size → (S j).eps.length = cntE hl j ∧ ∀ e, e < j → effAt hl e = true → (S j).eps[cntE hl e]? = some (unionH (S e).pd (S e).h)
  | 0, _ => by rw [t.eps0]; exact ⟨rfl, fun e he => (by omega)⟩
  | j + 1, hj => by
    obtain ⟨h1, h2⟩ := t.eps j (by omega)
    obtain ⟨o, ho, k1, k2⟩ := t.both (i := j) (by omega)
    have he := (t.did j o ho k1 k2).1.eps
    rw [← effAt_of k2] at he
    cases hb : effAt hl j with
    | false =>
      rw [hb] at he
      simp only [Bool.false_eq_true, if_false] at he
      rw [he]
      refine ⟨by simp [cntE, hb, h1], fun e h3 h4 => ?_⟩
      have : e ≠ j := fun h => by subst h; rw [hb] at h4; cases h4
      exact h2 e (by omega) h4
    | true =>
      rw [hb] at he
      simp only [if_true] at he
      rw [he]
      refine ⟨by simp [cntE, hb, h1], fun e h3 h4 => ?_⟩
      by_cases hej : e = j
      · subst hej
        rw [List.getElem?_append_right (by rw [h1]; exact Nat.le_refl _), h1]; simp
      · have := h2 e (by omega) h4
        rw [List.getElem?_append_left (List.getElem?_eq_some_iff.1 this).1]; exact this

/-! ### so far done -/
structure Inv (P : Program) (ops : Array Oper) (hl : List HOp) (base : Nat) (S : Nat → St) (V : Nat → AV) (N : Nat → Option NObj) (env0 : Regs) (K0 : Nat → Prop) (φ0 : Pos) (I0 : Imm) (w0 : World) (nt : Nat)
    (L : Array Bool) (a : Act) (w : World) (p : Nat) (φ : Pos) (I : Imm) : Prop where
  size : L.size = ops.size
  dc : ∀ (i : Nat) (o : Oper) (e : Edge), L.getD i false = true → ops[i]? = some o → e ∈ o.after → Region.binds .any e = true → L.getD e.on false = true
  ple : p ≤ ops.size
  done : ∀ e, e < p → effAt hl e = true → L.getD e false = true
  todo : ∀ e, p ≤ e → effAt hl e = true → L.getD e false = false
  first : p = 0 ∨ ∃ q, p = q + 1 ∧ effAt hl q = true
  hw : HW ops base S p
  hr : HR φ I (Gf ops base S N p) (Mf ops base S N p) w
  pos : ∀ b Lc, φ b = some Lc → b < (S p).h.next
  objs : ∀ i, i < ops.size → N i ≠ none → (L.getD i false = true → ∃ Lc, φ (base + i) = some Lc) ∧ (L.getD i false = false → φ (base + i) = none)
  ext : Ext base (S p).h.next K0 φ0 I0 w0 (KG (Gf ops base S N p) (Mf ops base S N p)) φ I w
  r1 : ∀ (i : Nat) (o : Oper) (t : Nat), L.getD i false = true → ops[i]? = some o → o.dst = some t → t < a.tmps.size ∧ RelV w φ I (V i) (a.tmps.getD t undef)
  r2 : ∀ (t : Nat) (v : AV), lk env0 t = some v → (∀ (i : Nat) (o : Oper), L.getD i false = true → ops[i]? = some o → o.dst ≠ some t) → t < a.tmps.size ∧ RelV w φ I v (a.tmps.getD t undef)
  defers : a.defers = []
  tmps : nt ≤ a.tmps.size

theorem Bef.inL {L : Array Bool} (hdc : ∀ (i : Nat) (o : Oper) (e : Edge), L.getD i false = true → ops[i]? = some o → e ∈ o.after → Region.binds .any e = true → L.getD e.on false = true) {i j : Nat} (h : Bef ops i j) : L.getD j false = true → L.getD i false = true := by
  induction h with
  | edge h he hb => exact fun hj => hdc _ _ _ hj h he hb
  | trans _ _ ih1 ih2 => exact fun h => ih1 (ih2 h)
theorem Bef.ready {L : Array Bool} (hdc : ∀ (i : Nat) (o : Oper) (e : Edge), L.getD i false = true → ops[i]? = some o → e ∈ o.after → Region.binds .any e = true → L.getD e.on false = true) {i j : Nat} (h : Bef ops i j)
    (hr : ∀ (o : Oper) (e : Edge), ops[j]? = some o → e ∈ o.after → Region.binds .any e = true → L.getD e.on false = true) : L.getD i false = true := by
  induction h with
  | edge h he hb => exact hr _ _ h he hb
  | trans h1 _ _ ih2 => exact h1.inL hdc (ih2 hr)
end
end Go.Den
