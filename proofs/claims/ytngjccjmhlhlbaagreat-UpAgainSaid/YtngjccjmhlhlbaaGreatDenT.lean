/- A part of a machine that computes what the program computes, and of the proof that it does -/
import Derived.Test.YtngjccjmhlhlbaaGreatDenS
set_option linter.unusedVariables false
set_option linter.unusedSimpArgs false
set_option linter.unusedSectionVars false
namespace Go.Den
open Go

variable [Val]

/-- the function's value is called: what it comes to -/
def FnSound (P : Program) (E : Env) (rec : Rec) : Prop :=
  ∀ (g : Nat) (args : List AV) (h : Heap) (f : K) (r : Fin2), callF g E rec args h f = some r →
    (∃ fn, P.funcs[g]? = some fn ∧ fn.name ≠ "runtime.NumGoroutine" ∧ fn.body.isSome = true) ∧
    ∃ v h', f v h' = some r ∧ ∀ φ I w (cs : List Value), Sim φ I h w → RelL w φ I args cs → Calls P g cs.toArray w fun e w' => ∃ c, e = .returned c ∧ Post h φ I w v h' c w'

section
variable {P : Program} {E : Env} {rec : Rec} {loc env : Regs} {h : Heap} {f : K} {r : Fin2} {o : Oper}

theorem run_callFunc {g : Nat} {fn : Func} (h1 : P.funcs[g]? = some fn) (h2 : fn.name ≠ "runtime.NumGoroutine") (h3 : fn.body.isSome = true) (args : Array Value) (w : World) : (callFunc g args).run P w = .ok (.enter g args) w := by
  simp [callFunc, h1, h2]
  intro hn; simp [hn] at h3

theorem Sound.callFn (hF : FnSound P E rec) {c : Call} {g : Operand} (ho : o.op = .call c) (hc : c.callee = .value g) (e : evCall c E rec loc env h f = some r) : Sound P (fun a => execOp a.eval o) loc env h f r := by
  rcases c with ⟨cal, args, ts⟩
  dsimp only at hc; subst hc
  obtain ⟨v, hv, e1⟩ := ob_some (show ob (opv g loc env) (fun v => ob (opvs args.toList loc env) fun vs => callClo v E rec vs h f) = some r from e)
  obtain ⟨vs, hvs, e2⟩ := ob_some e1
  cases v with
  | clo q caps =>
    have e3 : appK vs caps (fun vs => callF q E rec vs h f) = some r := e2
    rw [appK_eq] at e3
    obtain ⟨⟨fn, f1, f2, f3⟩, u, h', e4, hy⟩ := hF q _ h f r e3
    refine ⟨u, h', e4, fun φ I w a s hR => ?_⟩
    obtain ⟨cv, hcv, k1, k2⟩ := (opv_rel hR hv).clo_inv
    have hl := opvs_rel hR hvs
    have hrel : RelL w φ I (vs ++ caps) (args.toList.map a.eval ++ cv.toList) := by
      refine ⟨by simp [k1, ← hl.1], fun j x y hj hy' => ?_⟩
      rw [List.getElem?_append] at hj hy'
      rw [hl.1] at hy'
      split at hj
      · rename_i hlt; rw [if_pos hlt] at hy'; exact hl.2 j x y hj hy'
      · rename_i hlt; rw [if_neg hlt] at hy'; exact k2 _ x y hj (by simpa using hy')
    have hcall := hy φ I w _ s hrel
    have hargs : (args.toList.map a.eval ++ cv.toList).toArray = args.map a.eval ++ cv := by
      apply Array.ext'; simp
    have hrun : (execOp a.eval o).run P w = .ok (.enter q (args.map a.eval ++ cv)) w := by
      unfold execOp; simp only [ho, Go.resolve, hcv, Deferred.ofValue, Sem.run_bind, Sem.run_pure, Result.andThen_ok, invoke]
      simp [run_callFunc f1 f2 f3]
    unfold OpR
    rw [hrun]
    rw [hargs] at hcall
    exact hcall
  | _ => cases e2

/-! ### all of them -/
/-- an operation that neither changes the world nor makes anything -/
noncomputable def pureOp (E : Env) : Op → Bool
  | .move _ | .assign _ | .pick .. | .build .. | .load .. | .binOp .. | .unOp .. | .makeFunc .. | .slice .. | .fieldAddr .. | .field .. | .indexAddr .. | .index .. | .lookup .. | .extract .. => true
  | .convert _ d _ => match E.T d with | some i => isIntStr i | none => true
  | .call c => match c.callee with | .builtin b => isPureB b | _ => false
  | _ => false

noncomputable def allocOp (E : Env) : Op → Bool
  | .alloc _ | .box .. | .buildSlice .. | .makeSlice .. => true
  | .makeMap .. => true
  | .convert s d _ => match E.T d, E.T s with | some i, some j => isSliceTd i && isStrTd j | _, _ => false
  | _ => false

theorem op_pure (hT : TypesOk P E) (hF : ∀ t i, E.T t = some i → FieldsIn i) (hp : pureOp E o.op = true) (e : evOp o.op E rec loc env h f = some r) : SoundP P o loc env h f r := by
  cases ho : o.op <;> rw [ho] at hp e <;> first | exact absurd hp Bool.false_ne_true | skip
  case move x => exact Sound.move (E := E) (rec := rec) (.inl ho) e
  case assign x => exact Sound.move (E := E) (rec := rec) (.inr ho) e
  case pick c a b => exact Sound.pick (E := E) (rec := rec) ho e
  case build t ps => exact Sound.build (E := E) (rec := rec) hT hF ho e
  case load t a => exact Sound.load (E := E) (rec := rec) hT ho e
  case binOp op t x y u => exact Sound.binOp (E := E) (rec := rec) hT ⟨u, ho⟩ e
  case unOp op t x => exact Sound.unOp (E := E) (rec := rec) ho e
  case convert s d x => exact Sound.convP (E := E) (rec := rec) hT ho (fun di hd => by simp only [pureOp, hd] at hp; exact hp) e
  case makeFunc fn fs cs => exact Sound.makeFunc (E := E) (rec := rec) ho e
  case slice t x lo hi mx => exact Sound.slice (E := E) (rec := rec) hT ho e
  case fieldAddr t x n => exact Sound.fieldAddr (E := E) (rec := rec) hT ho e
  case field t x n => exact Sound.field (E := E) (rec := rec) hT ho e
  case indexAddr t x i => exact Sound.indexAddr (E := E) (rec := rec) hT ho e
  case index t x i => exact Sound.index (E := E) (rec := rec) hT ho e
  case lookup t m k ok => exact Sound.lookup (E := E) (rec := rec) hT ho e
  case extract t n => exact Sound.extract (E := E) (rec := rec) ho e
  case call c =>
    simp only [pureOp] at hp
    cases hc : c.callee <;> rw [hc] at hp <;> first | exact absurd hp Bool.false_ne_true | skip
    exact Sound.builtinP (E := E) (rec := rec) hT hp ho hc e

theorem op_alloc (hT : TypesOk P E) (hp : allocOp E o.op = true) (e : evOp o.op E rec loc env h f = some r) : SoundA P o loc env h f r := by
  cases ho : o.op <;> rw [ho] at hp e <;> first | exact absurd hp Bool.false_ne_true | skip
  case alloc t => exact Sound.alloc (E := E) (rec := rec) hT ho e
  case box t x => exact Sound.box (E := E) (rec := rec) hT ho e
  case buildSlice t n ps => exact Sound.buildSlice (E := E) (rec := rec) hT ho e
  case makeSlice t l c => exact Sound.makeSlice (E := E) (rec := rec) hT ho e
  case makeMap t r => exact Sound.makeMap (E := E) (rec := rec) ho e
  case convert s d x => exact Sound.convA (E := E) (rec := rec) hT ho (fun di si h1 h2 => by simp only [allocOp, h1, h2, Bool.and_eq_true] at hp; exact hp) e

theorem op_sound (hT : TypesOk P E) (hF : ∀ t i, E.T t = some i → FieldsIn i) (hC : FnSound P E rec) (e : evOp o.op E rec loc env h f = some r) : Sound P (fun a => execOp a.eval o) loc env h f r := by
  cases hp : pureOp E o.op with
  | true => exact (op_pure hT hF hp e).sound
  | false =>
    cases ha : allocOp E o.op with
    | true => exact (op_alloc hT ha e).sound
    | false =>
      cases ho : o.op <;> rw [ho] at hp ha e <;> first | exact absurd hp.symm Bool.false_ne_true | exact absurd ha.symm Bool.false_ne_true | skip
      case insert t m k x => exact Sound.insert (E := E) (rec := rec) hT ho e
      case store t a x => exact Sound.store (E := E) (rec := rec) hT ho e
      case convert s d x => exact Sound.convert (E := E) (rec := rec) hT ho e
      case call c =>
        cases hc : c.callee with
        | value g => exact Sound.callFn hC ho hc e
        | builtin b => exact Sound.builtin hT ho hc e
        | invoke q n =>
          exfalso
          rcases c with ⟨cal, args, ts⟩
          dsimp only at hc; subst hc; cases e
      all_goals cases e
end
end Go.Den
