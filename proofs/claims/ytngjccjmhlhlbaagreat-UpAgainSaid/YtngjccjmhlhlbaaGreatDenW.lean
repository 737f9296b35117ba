/- A part of a machine that computes what the program computes, and of the proof that it does -/
import Derived.Test.YtngjccjmhlhlbaaGreatDenV
import Derived.LoopN
set_option linter.unusedVariables false
set_option linter.unusedSimpArgs false
set_option linter.unusedSectionVars false
namespace Go.Den
open Go

variable [Val]

/-- each region's temporaries are the function's; of a region that draws D holds -/
def CodeOk (D : Nat → Array Oper → Prop) (nt : Nat) : Code → Prop
  | .region id ops draw => (∀ o ∈ ops.toList, ∀ d, o.dst = some d → d < nt) ∧ (draw = true → D id ops)
  | .seq a b => CodeOk D nt a ∧ CodeOk D nt b
  | .cond _ a b => CodeOk D nt a ∧ CodeOk D nt b
  | .block _ c => CodeOk D nt c
  | .loop c => CodeOk D nt c
  | _ => True

def ExM : Exit → Ex → Prop
  | .normal, .nm => True
  | .exit i, .ex j => i = j
  | .ret, .rt => True
  | _, _ => False

section
variable {P : Program} {E : Env} {rec : Rec}

def CodeQ (h0 : Heap) (φ0 : Pos) (I0 : Imm) (w0 : World) (keep nt : Nat) (out : Out) : Exit → Act → World → Prop :=
  fun e a w => ExM e out.ex ∧ EnvKp keep out.env ∧ After h0 φ0 I0 w0 .nil out.env out.heap nt a w

def WpN (P : Program) (n : Nat) : Code → (Exit → Act → World → Prop) → Act → World → Prop
  | .loop c => fun Q => Code.rounds P c Q n
  | c => c.wp P

theorem WpN.wp {n : Nat} {c : Code} {Q : Exit → Act → World → Prop} {a : Act} {w : World} (h : WpN P n c Q a w) : c.wp P Q a w := by
  cases c <;> first | exact h | exact wp_loop_rounds n h

/-- what is asked of a region that draws -/
def DrawS (P : Program) (E : Env) (rec : Rec) (hint : Hint) (id : Nat) (ops : Array Oper) : Prop :=
  ∀ (hl : List HOp) (nt : Nat) (env env' : Regs) (h h' : Heap) (h0 : Heap) (φ0 : Pos) (I0 : Imm) (w0 : World) (a : Act) (w : World) (Q : Exit → Act → World → Prop), hint.dr id = some hl →
    (∀ o ∈ ops.toList, ∀ d, o.dst = some d → d < nt) → evDrawn ops.toList hl E rec hint.keep env h = some (env', h') → EnvKp hint.keep env → After h0 φ0 I0 w0 .nil env h nt a w →
    (∀ a' w', EnvKp hint.keep env' → After h0 φ0 I0 w0 .nil env' h' nt a' w' → Q .normal a' w') → (Code.region id ops true).wp P Q a w

def RecS (P : Program) (E : Env) (n : Nat) (rec : Rec) : Prop :=
  ∀ (hint : Hint) (D : Nat → Array Oper → Prop) (nt : Nat) (c : Code) (env : Regs) (h : Heap) (out : Out), (∀ rec' id ops, FnSound P E rec' → D id ops → DrawS P E rec' hint id ops) → CodeOk D nt c → rec hint c env h = some out → EnvKp hint.keep env →
    ∀ (h0 : Heap) (φ0 : Pos) (I0 : Imm) (w0 : World) (a : Act) (w : World), After h0 φ0 I0 w0 .nil env h nt a w → WpN P n c (CodeQ h0 φ0 I0 w0 hint.keep nt out) a w

theorem seqOut_some {b : Code} {hint : Hint} {o out : Out} (e : seqOut b rec hint o = some out) : (o.ex = .nm ∧ rec hint b o.env o.heap = some out) ∨ (o.ex ≠ .nm ∧ out = o) := by
  rcases o with ⟨ex, env, h⟩
  cases ex with
  | nm => exact .inl ⟨rfl, e⟩
  | ex i => cases e; exact .inr ⟨by simp, rfl⟩
  | rt => cases e; exact .inr ⟨by simp, rfl⟩

theorem stepC_sound (hT : TypesOk P E) (hF : ∀ t i, E.T t = some i → FieldsIn i) {n : Nat} (hR : RecS P E n rec) (hC : FnSound P E rec) : RecS P E (n + 1) (fun hint c env h => stepC c E rec hint env h) := by
  intro hint D nt c env h out hD hc e hk h0 φ0 I0 w0 a w ha
  cases c with
  | skip => cases e; exact wp_skip ⟨trivial, hk, ha⟩
  | region id ops draw =>
    obtain ⟨env', h', e1, e2⟩ := op2_some (show op2 (ifb draw (ob (hint.dr id) fun hl => evDrawn ops.toList hl E rec hint.keep env h) (evOps ops.toList ops.toList E rec hint.keep .nil env h)) (fun env h => some ⟨.nm, env, h⟩) = some out from e)
    cases e2
    obtain ⟨hdst, hdraw⟩ := hc
    rcases ifb_some e1 with ⟨rfl, e3⟩ | ⟨rfl, e3⟩
    · obtain ⟨hl, h1, e4⟩ := ob_some e3
      exact hD rec id ops hC (hdraw rfl) hl nt env env' h h' h0 φ0 I0 w0 a w _ h1 hdst e4 hk ha fun a' w' hk' ha' => ⟨trivial, hk', ha'⟩
    · exact wp_region_list (evOps_sound hT hF hC _ .nil env h a w hdst e3 (fun t v ht => by cases ht) hk ha fun a' w' hk' ha' => ⟨trivial, hk', ha'⟩)
  | seq x y =>
    obtain ⟨o, h1, e1⟩ := ob_some (show ob (rec hint x env h) (fun o => seqOut y rec hint o) = some out from e)
    have hx := (hR hint D nt x env h o hD hc.1 h1 hk h0 φ0 I0 w0 a w ha).wp
    refine wp_seq (wp_mono hx fun ex a1 w1 ⟨q1, q2, q3⟩ => ?_)
    rcases seqOut_some e1 with ⟨k1, k2⟩ | ⟨k1, rfl⟩
    · rw [k1] at q1
      cases ex <;> first | exact q1.elim | skip
      exact (hR hint D nt y o.env o.heap out hD hc.2 k2 q2 h0 φ0 I0 w0 a1 w1 q3).wp
    · cases ex <;> first | exact ⟨q1, q2, q3⟩ | skip
      rcases out with ⟨x, _, _⟩
      cases x <;> first | exact q1.elim | exact absurd rfl k1
  | cond x y z =>
    obtain ⟨v, hv, e1⟩ := ob_some (show ob (opv x .nil env) (fun v => ob (toBool v) fun t => ifb t (rec hint y env h) (rec hint z env h)) = some out from e)
    obtain ⟨t, ht, e2⟩ := ob_some e1
    obtain rfl := toBool_some ht
    obtain ⟨φ, I, ex, s, hRel⟩ := ha.rel
    have hc' := (opv_rel hRel hv).bool_inv
    rcases ifb_some e2 with ⟨rfl, e3⟩ | ⟨rfl, e3⟩
    · exact wp_cond_true hc' (hR hint D nt y env h out hD hc.1 e3 hk h0 φ0 I0 w0 a w ha).wp
    · exact wp_cond_false hc' (hR hint D nt z env h out hD hc.2 e3 hk h0 φ0 I0 w0 a w ha).wp
  | block id x =>
    obtain ⟨o, h1, e1⟩ := ob_some (show ob (rec hint x env h) (fun o => blockOut id o) = some out from e)
    have hx := (hR hint D nt x env h o hD hc h1 hk h0 φ0 I0 w0 a w ha).wp
    refine wp_block (wp_mono hx fun ex a1 w1 ⟨q1, q2, q3⟩ => ?_)
    rcases o with ⟨oex, oenv, oh⟩
    cases oex with
    | nm =>
      cases e1
      cases ex <;> first | exact q1.elim | exact ⟨trivial, q2, q3⟩
    | rt =>
      cases e1
      cases ex <;> first | exact q1.elim | exact ⟨trivial, q2, q3⟩
    | ex i =>
      cases ex with
      | exit i' =>
        have hi : i' = i := q1
        subst hi
        change ifb (Nat.beq i' id) (some ⟨.nm, oenv, oh⟩) (some ⟨.ex i', oenv, oh⟩) = some out at e1
        show if i' = id then _ else _
        rcases ifb_some e1 with ⟨h2, e2⟩ | ⟨h2, e2⟩
        · cases e2
          rw [if_pos (beq_eq_of h2)]
          exact ⟨trivial, q2, q3⟩
        · cases e2
          rw [if_neg (fun he => by subst he; simp at h2)]
          exact ⟨rfl, q2, q3⟩
      | _ => exact q1.elim
  | loop x =>
    obtain ⟨o, h1, e1⟩ := ob_some (show ob (rec hint x env h) (fun o => seqOut (.loop x) rec hint o) = some out from e)
    have hx := (hR hint D nt x env h o hD hc h1 hk h0 φ0 I0 w0 a w ha).wp
    show Code.rounds P x _ (n + 1) a w
    rw [rounds_succ]
    refine wp_mono hx fun ex a1 w1 ⟨q1, q2, q3⟩ => ?_
    rcases seqOut_some e1 with ⟨k1, k2⟩ | ⟨k1, rfl⟩
    · rw [k1] at q1
      cases ex <;> first | exact q1.elim | skip
      exact hR hint D nt (.loop x) o.env o.heap out hD hc k2 q2 h0 φ0 I0 w0 a1 w1 q3
    · cases ex <;> first | exact ⟨q1, q2, q3⟩ | skip
      rcases out with ⟨x, _, _⟩
      cases x <;> first | exact q1.elim | exact absurd rfl k1
  | exit id => cases e; exact wp_exit ⟨rfl, hk, ha⟩
  | ret => cases e; exact wp_ret ⟨trivial, hk, ha⟩
  | _ => cases e

/-! ### functions -/
theorem args0_lk (keep : Nat) : ∀ (l : List AV) (n t : Nat) (v : AV), lk (args0 keep l n) t = some v → n ≤ t ∧ l[t - n]? = some v ∧ keeps keep t = true
  | [], n, t, v, e => by cases e
  | x :: l, n, t, v, e => by
    change lk (ifb (keeps keep n) (.cons n x (args0 keep l (n + 1))) (args0 keep l (n + 1))) t = some v at e
    have tail : lk (args0 keep l (n + 1)) t = some v → n ≤ t ∧ (x :: l)[t - n]? = some v ∧ keeps keep t = true := by
      intro e
      obtain ⟨h1, h2, h3⟩ := args0_lk keep l (n + 1) t v e
      refine ⟨by omega, ?_, h3⟩
      rw [show t - n = (t - (n + 1)) + 1 by omega]; simpa using h2
    cases hk : keeps keep n with
    | false => rw [hk] at e; exact tail e
    | true =>
      rw [hk] at e
      change lk (.cons n x (args0 keep l (n + 1))) t = some v at e
      rw [lk_cons] at e
      split at e
      · subst_vars; cases e; exact ⟨Nat.le_refl _, by simp, hk⟩
      · exact tail e

def resF (tmps : Array Value) : ResultVar → Sem Value
  | .tmp t => pure (tmps.getD t undef)
  | .cell b t => do loadVar t (← asAddr (tmps.getD b undef))

theorem results_eq (fn : Func) (tmps : Array Value) : results fn tmps = (do let vs ← fn.results.mapM (resF tmps); pure (if h : vs.size = 1 then vs[0] else .tuple vs)) := by
  have : resF tmps = fun x => match x with
      | .tmp t => pure (tmps.getD t undef)
      | .cell a t => (do loadVar t (← asAddr (tmps.getD a undef))) := by
    funext x; cases x <;> rfl
  rw [this]; rfl

theorem resVals_sound (hT : TypesOk P E) {φ : Pos} {I : Imm} {w : World} {h : Heap} {env : Regs} {a : Act} (s : Sim φ I h w) (hR : RelR w φ I .nil env a) : ∀ (rs : List ResultVar) (vs : List AV), resVals rs E h env = some vs →
    ∃ cs : List Value, (rs.mapM (resF a.tmps)).run P w = .ok cs w ∧ RelL w φ I vs cs
  | [], vs, e => by cases e; exact ⟨[], by simp, rfl, fun j v c hj => by simp at hj⟩
  | x :: rs, vs, e => by
    obtain ⟨v, hv, e1⟩ := ob_some (show ob (resVal x E h env) (fun v => ob (resVals rs E h env) fun r => some (v :: r)) = some vs from e)
    obtain ⟨vs', hvs, e2⟩ := ob_some e1
    cases e2
    obtain ⟨cs, h1, h2⟩ := resVals_sound hT s hR rs vs' hvs
    have head : ∃ c, (resF a.tmps x).run P w = .ok c w ∧ RelV w φ I v c := by
      cases x with
      | tmp t =>
        have hv' : lk env t = some v := hv
        exact ⟨_, rfl, (hR t v (by rw [lk2_eq]; simpa [lk_nil] using hv')).2⟩
      | cell b t =>
        obtain ⟨p, hp, e3⟩ := ob_some (show ob (lk env b) (fun p => ob (E.T t) fun i => loadOp p h i) = some v from hv)
        obtain ⟨i, hi, e4⟩ := ob_some e3
        have hp' := (hR b p (by rw [lk2_eq]; simpa [lk_nil] using hp)).2
        obtain ⟨d, d1, d2⟩ := loadOp_sound (P := P) s.hr (hT t i hi) hp' e4
        refine ⟨d, ?_, d2⟩
        have hptr : ∃ A, a.tmps.getD b undef = .pointer (some A) := by
          cases p with
          | ptr b' n j => obtain ⟨L, _, hc⟩ := hp'.ptr_inv; exact ⟨_, hc⟩
          | rp cs => obtain ⟨B, o, cell, hc, _⟩ := hp'.rp_inv; exact ⟨_, hc⟩
          | _ => cases e4
        obtain ⟨A, hA⟩ := hptr
        rw [hA] at d1
        show (do loadVar t (← asAddr (a.tmps.getD b undef)) : Sem Value).run P w = _
        rw [hA]
        simpa [Instr.loadAt, Instr.sureAddr, asAddr] using d1
    obtain ⟨c, c1, c2⟩ := head
    refine ⟨c :: cs, ?_, by simp [h2.1], fun j x y hj hy => ?_⟩
    · rw [List.mapM_cons, Sem.run_bind, c1, Result.andThen_ok, Sem.run_bind, h1]
      simp
    · cases j with
      | zero => simp at hj hy; subst hj; subst hy; exact c2
      | succ j => exact h2.2 j x y (by simpa using hj) (by simpa using hy)

theorem results_sound (hT : TypesOk P E) {φ : Pos} {I : Imm} {w : World} {h : Heap} {env : Regs} {a : Act} (s : Sim φ I h w) (hR : RelR w φ I .nil env a) {fn : Func} {vs : List AV} (e : resVals fn.results.toList E h env = some vs) :
    ∃ c, (results fn a.tmps).run P w = .ok c w ∧ RelV w φ I (one vs) c := by
  obtain ⟨cs, h1, h2⟩ := resVals_sound (P := P) hT s hR _ _ e
  refine ⟨if h : cs.toArray.size = 1 then cs.toArray[0] else .tuple cs.toArray, ?_, ?_⟩
  · rw [results_eq, Array.mapM_eq_mapM_toList]
    simp only [Sem.run_bind, Sem.run_map, h1, Result.andThen_ok, Sem.run_pure]
  · obtain ⟨l1, l2⟩ := h2
    have many : vs.length ≠ 1 → RelV w φ I (one vs) (if h : cs.toArray.size = 1 then cs.toArray[0] else .tuple cs.toArray) := by
      intro hne
      rw [dif_neg (by simpa [l1] using hne)]
      have : one vs = .tup vs := by
        match vs, hne with
        | [], _ => rfl
        | [_], h => exact absurd rfl h
        | _ :: _ :: _, _ => rfl
      rw [this]
      exact .tup _ _ (by simp [l1]) (fun j v c hj hc => l2 j v c hj (by simpa using hc))
    by_cases hl : vs.length = 1
    · obtain ⟨v, rfl⟩ : ∃ v, vs = [v] := by
        match vs, hl with
        | [v], _ => exact ⟨v, rfl⟩
      obtain ⟨c, rfl⟩ : ∃ c, cs = [c] := by
        match cs, l1 with
        | [c], _ => exact ⟨c, rfl⟩
      exact l2 0 v c rfl rfl
    · exact many hl

/-- there are so many cells -/
def ImmIn (I : Imm) (w : World) : Prop := ∀ B x, I B x → ∃ (cells : Array Value) (elem : TypeId) (fr : Nat × Nat), w.heap[B]? = some (.cells cells elem fr) ∧ x < cells.size

def RelIL (w : World) (I : Imm) (as : List AV) (cs : List Value) : Prop := cs.length = as.length ∧ ∀ (j : Nat) (a : AV) (c : Value), as[j]? = some a → cs[j]? = some c → RelI w I a c

/-- a function comes back with this value -/
def Gives (P : Program) (g : Nat) (as : List AV) (v : AV) : Prop := ∀ (I : Imm) (w : World) (cs : List Value), ImmIn I w → RelIL w I as cs →
  Calls P g cs.toArray w fun e w' => ∃ c I', e = .returned c ∧ Ext0 (fun _ => none) I w (fun _ => none) I' w' ∧ (∀ B, B < w.heap.size → w'.heap[B]? = w.heap[B]?) ∧ ImmIn I' w' ∧ (∀ B x, I' B x → I B x ∨ w.heap.size ≤ B) ∧ RelI w' I' v c

structure Fact (P : Program) (g : Nat) (ψ : List AV → Option AV) : Prop where
  enters : ∃ fn, P.funcs[g]? = some fn ∧ fn.name ≠ "runtime.NumGoroutine" ∧ fn.body.isSome = true
  gives : ∀ as v, ψ as = some v → Gives P g as v

/-- what is asked of the program once: the functions that the machine knows are its own -/
structure EnvOk (P : Program) (E : Env) : Prop where
  types : TypesOk P E
  fields : ∀ t i, E.T t = some i → FieldsIn i
  fns : ∀ g fn, E.G g = some fn → P.funcs[g]? = some fn ∧ fn.name ≠ "runtime.NumGoroutine"
  code : ∀ g fn c hint, E.G g = some fn → fn.body = some c → E.hint g = some hint → ∃ D : Nat → Array Oper → Prop, (∀ rec id ops, FnSound P E rec → D id ops → DrawS P E rec hint id ops) ∧ CodeOk D fn.ntmps c
  ins : ∀ (g : Nat) (zb : Nat × Nat), E.ins g = some zb → ∀ (args : List AV) (h : Heap) (f : K) (r : Fin2), insertOp zb h args f = some r →
    (∃ fn, P.funcs[g]? = some fn ∧ fn.name ≠ "runtime.NumGoroutine" ∧ fn.body.isSome = true) ∧
    ∃ v h', f v h' = some r ∧ ∀ φ I w (cs : List Value), Sim φ I h w → RelL w φ I args cs → Calls P g cs.toArray w fun e w' => ∃ c, e = .returned c ∧ Post h φ I w v h' c w'
  orc : ∀ g ψ, E.orc g = some ψ → Fact P g ψ

theorem callIn_sound (hE : EnvOk P E) {n : Nat} (hR : RecS P E n rec) {g : Nat} {args : List AV} {h : Heap} {f : K} {r : Fin2} (e : callIn g E rec args h f = some r) :
    (∃ fn, P.funcs[g]? = some fn ∧ fn.name ≠ "runtime.NumGoroutine" ∧ fn.body.isSome = true) ∧
    ∃ v h', f v h' = some r ∧ ∀ φ I w (cs : List Value), Sim φ I h w → RelL w φ I args cs → Calls P g cs.toArray w fun e w' => ∃ c, e = .returned c ∧ Post h φ I w v h' c w' := by
  obtain ⟨fn, hfn, e1⟩ := ob_some e
  obtain ⟨c, hc, e2⟩ := ob_some e1
  obtain ⟨hint, hh, e3⟩ := ob_some e2
  obtain ⟨f1, f2⟩ := hE.fns g fn hfn
  refine ⟨⟨fn, f1, f2, by rw [hc]; rfl⟩, ?_⟩
  obtain ⟨out, ho, e4⟩ := ob_some (show ob (rec hint c (args0 hint.keep args 0) h) (fun o => @Out.rec (fun _ => Option Fin2) (fun e env h' => ifb (isEx e) none (ob (resVals fn.results.toList E h' env) fun vs => closeResult (E.own g) h.next h' (one vs) f)) o) = some r from e3)
  rcases out with ⟨oex, oenv, oh⟩
  obtain ⟨hex, e5⟩ := ifb_none' (show ifb (isEx oex) none (ob (resVals fn.results.toList E oh oenv) fun vs => closeResult (E.own g) h.next oh (one vs) f) = some r from e4)
  obtain ⟨vs, hvs, e6⟩ := ob_some e5
  obtain ⟨v', h2, e7, hclose⟩ := closeResult_sound e6
  refine ⟨v', h2, e7, fun φ I w cs s hl => ?_⟩
  obtain ⟨D, hD, hcode⟩ := hE.code g fn c hint hfn hc hh
  refine calls_of_wp f1 hc ?_
  have hRel : RelR w φ I .nil (args0 hint.keep args 0) { tmps := cs.toArray ++ Array.replicate (fn.ntmps - cs.toArray.size) undef, defers := [] } := by
    intro t v ht
    rw [lk2_eq, lk_nil, Option.none_or] at ht
    obtain ⟨_, h3, _⟩ := args0_lk _ _ _ _ _ ht
    simp only [Nat.sub_zero] at h3
    have hlt : t < cs.length := by rw [hl.1]; exact (List.getElem?_eq_some_iff.1 h3).1
    refine ⟨by simp; omega, ?_⟩
    have hget : (cs.toArray ++ Array.replicate (fn.ntmps - cs.toArray.size) undef).getD t undef = cs[t] := by
      rw [Array.getD_eq_getD_getElem?, Array.getElem?_append_left (by simpa using hlt)]
      simp [hlt]
    dsimp only
    rw [hget]
    exact hl.2 t v _ h3 (List.getElem?_eq_getElem hlt)
  have ha : After h φ I w .nil (args0 hint.keep args 0) h fn.ntmps { tmps := cs.toArray ++ Array.replicate (fn.ntmps - cs.toArray.size) undef, defers := [] } w :=
    ⟨rfl, by simp; omega, φ, I, .refl _ _ _ _ _, s, hRel⟩
  refine wp_mono (hR hint D fn.ntmps c _ h _ hD hcode ho (fun t v ht => (args0_lk _ _ _ _ _ ht).2.2) h φ I w _ w ha).wp fun ex a1 w1 ⟨q1, q2, q3⟩ => ?_
  obtain ⟨φ1, I1, ex1, s1, hR1⟩ := q3.rel
  obtain ⟨cv, hcv, hrel⟩ := results_sound (P := P) hE.types s1 hR1 hvs
  obtain ⟨φ2, I2, ex2, s2, hrel2⟩ := hclose φ I w φ1 I1 w1 cv ex1 s1 hrel
  have fin : a1.defers = [] ∧ ∃ v, (results fn a1.tmps).run P w1 = .ok v w1 ∧ ∃ c, Ending.returned v = .returned c ∧ Post h φ I w v' h2 c w1 := ⟨q3.defers, cv, hcv, cv, rfl, φ2, I2, ex2, s2, hrel2⟩
  cases oex <;> cases ex <;> first | exact q1.elim | exact fin | exact absurd hex.symm Bool.false_ne_true
end
end Go.Den
