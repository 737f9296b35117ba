/- A part of a machine that computes what the program computes, and of the proof that it does -/
import Derived.Test.YtngjccjmhlhlbaaGreatDenZk
set_option linter.unusedVariables false
set_option linter.unusedSimpArgs false
set_option linter.unusedSectionVars false
namespace Go.Den
open Go

variable [Val]

/-! ### what is asked of a program, by a check -/
noncomputable def Tr.allB {α : Type} (f : Nat → α → Bool) : Tr α → Bool
  | .leaf => true
  | .node k v l r => ifb (f k v) (ifb (l.allB f) (r.allB f) false) false
theorem Tr.all_of {α : Type} {f : Nat → α → Bool} {Q : Nat → α → Prop} (h : ∀ k v, f k v = true → Q k v) : ∀ {t : Tr α}, t.allB f = true → t.All Q
  | .leaf, _ => trivial
  | .node k v l r, e => by
    obtain ⟨h1, h2⟩ := ifb_and (show ifb (f k v) (ifb (l.allB f) (r.allB f) false) false = true from e)
    obtain ⟨h3, h4⟩ := ifb_and h2
    exact ⟨h k v h1, Tr.all_of h h3, Tr.all_of h h4⟩

noncomputable def fnB (E : Env) (fn : Func) (g : Nat) : Bool :=
  match E.hint g with
  | some hint => (match fn.body with | some c => codeOkB E hint fn.ntmps c | none => true)
  | none => true

theorem pureOp_T {E E' : Env} (h : E.T = E'.T) (op : Op) : pureOp E op = pureOp E' op := by
  cases op <;> first | rfl | (simp only [pureOp, h])
theorem allocOp_T {E E' : Env} (h : E.T = E'.T) (op : Op) : allocOp E op = allocOp E' op := by
  cases op <;> first | rfl | (simp only [allocOp, h])
theorem DrawOk.env {E E' : Env} (h : E.T = E'.T) {ops : Array Oper} {hl : List HOp} (d : DrawOk E ops hl) : DrawOk E' ops hl :=
  ⟨d.len, d.down, d.dst, d.rd, fun i o ho h1 h2 => by rw [← pureOp_T h, ← allocOp_T h]; exact d.kinds i o ho h1 h2, d.eff, d.ad, d.lohi⟩

structure EnvBase (P : Program) (E : Env) : Prop where
  types : TypesOk P E
  fields : ∀ t i, E.T t = some i → FieldsIn i
  fns : ∀ g fn, E.G g = some fn → P.funcs[g]? = some fn ∧ fn.name ≠ "runtime.NumGoroutine"
  code : ∀ g fn, E.G g = some fn → fnB E fn g = true
  ins : ∀ (g : Nat) (zb : Nat × Nat), E.ins g = some zb → ∀ (args : List AV) (h : Heap) (f : K) (r : Fin2), insertOp zb h args f = some r →
    (∃ fn, P.funcs[g]? = some fn ∧ fn.name ≠ "runtime.NumGoroutine" ∧ fn.body.isSome = true) ∧
    ∃ v h', f v h' = some r ∧ ∀ φ I w (cs : List Value), Sim φ I h w → RelL w φ I args cs → Calls P g cs.toArray w fun e w' => ∃ c, e = .returned c ∧ Post h φ I w v h' c w'
  mixed : P.follows .mixedOrders = true

theorem EnvBase.ok {P : Program} {E : Env} (b : EnvBase P E) (o : Nat → Option (List AV → Option AV)) (ho : ∀ g ψ, o g = some ψ → Fact P g ψ) : EnvOk P { E with orc := o } where
  types := b.types
  fields := b.fields
  fns := b.fns
  code := by
    intro g fn c hint h1 h2 h3
    have h1 : E.G g = some fn := h1
    have h3 : E.hint g = some hint := h3
    have hb := b.code g fn h1
    unfold fnB at hb
    simp only [h3, h2] at hb
    refine ⟨fun id ops => ∀ hl, hint.dr id = some hl → DrawOk E ops hl, fun rec id ops hC hD => ?_, codeOk_of hb⟩
    exact drawS (E := { E with orc := o }) b.types b.fields hC b.mixed fun hl hh => DrawOk.env (E := E) (E' := { E with orc := o }) rfl (hD hl hh)
  ins := b.ins
  orc := ho

theorem ifb_some2 {b x y : Bool} (h : ifb b x y = true) : (b = true ∧ x = true) ∨ y = true := by cases b <;> first | exact .inr h | exact .inl ⟨rfl, h⟩

/-- known values: a list of arguments and what comes of them -/
noncomputable def tab : List (List AV × AV) → List AV → Option AV
  | [], _ => none
  | p :: l, as => ifb (eqAV (.tup p.1) (.tup as)) (some p.2) (tab l as)
theorem tab_some : ∀ {l : List (List AV × AV)} {as : List AV} {v : AV}, tab l as = some v → (as, v) ∈ l
  | [], as, v, e => by cases e
  | p :: l, as, v, e => by
    rcases ifb_some (show ifb (eqAV (.tup p.1) (.tup as)) (some p.2) (tab l as) = some v from e) with ⟨h1, h2⟩ | ⟨_, h2⟩
    · have := eqAV_true _ _ h1
      cases h2; cases this
      exact List.mem_cons_self ..
    · exact List.mem_cons_of_mem _ (tab_some h2)
end Go.Den
