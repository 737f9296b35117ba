/- A part of a machine that computes what the program computes, and of the proof that it does -/
import Derived.Test.YtngjccjmhlhlbaaGreatDenZo
set_option linter.unusedVariables false
set_option linter.unusedSimpArgs false
set_option linter.unusedSectionVars false
namespace Go.Den
open Go

variable [Val]

/-! ### more fuel, more values that are known: the same comes of it -/
def Sub (e e' : Regs) : Prop := ∀ t v, lk e t = some v → lk e' t = some v
theorem Sub.refl (e : Regs) : Sub e e := fun _ _ h => h
theorem Sub.trans {a b c : Regs} (h : Sub a b) (k : Sub b c) : Sub a c := fun t v q => k t v (h t v q)

/-- what an operation sees -/
def See (l e l' e' : Regs) : Prop := ∀ t v, lk2 l e t = some v → lk2 l' e' t = some v
theorem Sub.see {e e' : Regs} (h : Sub e e') (l : Regs) : See l e l e' := fun t v q => by
  rw [lk2_eq] at *
  cases hl : lk l t with
  | some x => rw [hl] at q; exact q
  | none => rw [hl] at q; exact h t v q
theorem Sub.see0 {s s' : Regs} (h : Sub s s') : See s .nil s' .nil := fun t v q => by
  rw [lk2_eq] at *
  cases hl : lk s t with
  | some x => rw [hl] at q; rw [h t x hl]; exact q
  | none => rw [hl] at q; cases q
theorem Sub.put {e e' : Regs} (h : Sub e e') (d : Nat) (v : AV) : Sub (Den.put e d v) (Den.put e' d v) := fun t u q => by
  rw [lk_put] at *
  split at q
  · rw [if_pos (by assumption)]; exact q
  · rw [if_neg (by assumption)]; exact h t u q

def RecLe (r r' : Rec) : Prop := ∀ hint c env env' h o, Sub env env' → r hint c env h = some o → ∃ o', r' hint c env' h = some o' ∧ o'.ex = o.ex ∧ o'.heap = o.heap ∧ Sub o.env o'.env

def OLe (x y : Option Fin2) : Prop := ∀ r, x = some r → ∃ r', y = some r' ∧ Sub r.1 r'.1 ∧ r'.2 = r.2
theorem OLe.none (y : Option Fin2) : OLe none y := fun r h => by cases h
theorem OLe.refl (y : Option Fin2) : OLe y y := fun r h => ⟨r, h, .refl _, rfl⟩
theorem OLe.ob {α : Type} {o o' : Option α} {f f' : α → Option Fin2} (ho : ∀ a, o = some a → o' = some a) (h : ∀ a, OLe (f a) (f' a)) : OLe (ob o f) (ob o' f') := fun r e => by
  obtain ⟨a, q, e1⟩ := ob_some e
  rw [ho a q]
  exact h a r e1
theorem OLe.ob_ {α : Type} (o : Option α) {f f' : α → Option Fin2} (h : ∀ a, OLe (f a) (f' a)) : OLe (Den.ob o f) (Den.ob o f') := OLe.ob (fun _ q => q) h
theorem OLe.op2_ {α β : Type} (o : Option (α × β)) {f f' : α → β → Option Fin2} (h : ∀ a b, OLe (f a b) (f' a b)) : OLe (op2 o f) (op2 o f') := fun r e => by
  obtain ⟨a, b, q, e1⟩ := op2_some e
  rw [q]
  exact h a b r e1
theorem OLe.ifb_ (b : Bool) {x x' y y' : Option Fin2} (h1 : OLe x x') (h2 : OLe y y') : OLe (ifb b x y) (ifb b x' y') := by cases b <;> assumption
theorem OLe.ifb_n (b : Bool) {x x' : Option Fin2} (h1 : OLe x x') : OLe (ifb b x .none) (ifb b x' .none) := .ifb_ b h1 (.refl _)
theorem OLe.ifb_m (b : Bool) {x x' : Option Fin2} (h1 : OLe x x') : OLe (ifb b .none x) (ifb b .none x') := .ifb_ b (.refl _) h1
theorem OLe.opt {α : Type} (o : Option α) {x x' : Option Fin2} {f f' : α → Option Fin2} (h1 : OLe x x') (h2 : ∀ a, OLe (f a) (f' a)) : OLe (@Option.rec α (fun _ => Option Fin2) x f o) (@Option.rec α (fun _ => Option Fin2) x' f' o) := by
  cases o
  · exact h1
  · exact h2 _

theorem obM {α β : Type} {o o' : Option α} {f f' : α → Option β} (ho : ∀ a, o = some a → o' = some a) (h : ∀ a r, f a = some r → f' a = some r) : ∀ r, ob o f = some r → ob o' f' = some r := fun r e => by
  obtain ⟨a, q, e1⟩ := ob_some e
  rw [ho a q]
  exact h a r e1
theorem op2M {α β γ : Type} {o o' : Option (α × β)} {f f' : α → β → Option γ} (ho : ∀ a, o = some a → o' = some a) (h : ∀ a b r, f a b = some r → f' a b = some r) : ∀ r, op2 o f = some r → op2 o' f' = some r := fun r e => by
  obtain ⟨a, b, q, e1⟩ := op2_some e
  rw [ho _ q]
  exact h a b r e1

section
variable {l e l' e' : Regs} (s : See l e l' e')
include s
theorem See.opv (x : Operand) : ∀ v, Den.opv x l e = some v → Den.opv x l' e' = some v := by
  cases x with
  | tmp t => exact fun v q => s t v q
  | const v => exact fun _ q => q
  | func f => exact fun _ q => q
  | _ => intro v q; cases q
theorem See.opvs (x : List Operand) : ∀ v, Den.opvs x l e = some v → Den.opvs x l' e' = some v := by
  induction x with
  | nil => exact fun v q => q
  | cons x t ih => exact obM (s.opv x) fun v => obM ih fun vs r q => q
theorem See.opvParts (x : List (Nat × Operand)) : ∀ v, Den.opvParts x l e = some v → Den.opvParts x l' e' = some v := by
  induction x with
  | nil => exact fun v q => q
  | cons p t ih =>
    obtain ⟨n, x⟩ := p
    exact obM (s.opv x) fun v => obM ih fun vs r q => q
theorem See.bound (x : Option Operand) : ∀ v, Den.bound x l e = some v → Den.bound x l' e' = some v := by
  cases x with
  | none => exact fun v q => q
  | some x => exact obM (s.opv x) fun v r q => q
theorem See.wanted (g : Option (Nat × Bool)) (all : List Oper) : ∀ v, wantedB g all l e = some v → wantedB g all l' e' = some v := by
  cases g with
  | none => exact fun v q => q
  | some p =>
    obtain ⟨j, w⟩ := p
    exact obM (fun _ q => q) fun o => obM (fun _ q => q) fun d => obM (fun v q => s d v q) fun v r q => q
theorem See.sub (rd : List Nat) : Sub (Den.sub rd l e) (Den.sub rd l' e') := by
  induction rd with
  | nil => exact .refl _
  | cons t rd ih =>
    show Sub (@Option.rec AV (fun _ => Regs) (Den.sub rd l e) (fun v => .cons t v (Den.sub rd l e)) (lk2 l e t)) (@Option.rec AV (fun _ => Regs) (Den.sub rd l' e') (fun v => .cons t v (Den.sub rd l' e')) (lk2 l' e' t))
    cases h : lk2 l e t with
    | some v =>
      rw [s t v h]
      intro u x q
      rw [lk_cons] at *
      split at q
      · rw [if_pos (by assumption)]; exact q
      · rw [if_neg (by assumption)]; exact ih u x q
    | none =>
      cases h' : lk2 l' e' t with
      | none => exact ih
      | some v' =>
        intro u x q
        have q' : lk (Den.sub rd l e) u = some x := q
        rw [lk_cons]
        by_cases hu : t = u
        · subst hu
          -- what stands there is what is seen there: nothing
          have : ∀ rd, lk (Den.sub rd l e) t = none := by
            intro rd
            induction rd with
            | nil => rfl
            | cons w rd ih2 =>
              show lk (@Option.rec AV (fun _ => Regs) (Den.sub rd l e) (fun v => .cons w v (Den.sub rd l e)) (lk2 l e w)) t = none
              cases hw : lk2 l e w with
              | none => exact ih2
              | some y =>
                rw [lk_cons, if_neg (fun hq => by subst hq; rw [h] at hw; cases hw)]
                exact ih2
          rw [this] at q'; cases q'
        · rw [if_neg hu]; exact ih u x q'
end

theorem OLe.setReg (d : Option Nat) (keep : Nat) (loc : Regs) {env env' : Regs} (s : Sub env env') (v : AV) {f f' : Regs → Regs → Option Fin2} (h : ∀ loc env env', Sub env env' → OLe (f loc env) (f' loc env')) :
    OLe (Den.setReg d keep loc env v f) (Den.setReg d keep loc env' v f') := by
  cases d with
  | none => exact h _ _ _ s
  | some d =>
    refine OLe.ifb_ _ ?_ (h _ _ _ s)
    rw [putK_eq, putK_eq]
    exact h _ _ _ (s.put d v)

section
variable {E : Env} {rec rec' : Rec} (hR : RecLe rec rec')
def KLe (f f' : K) : Prop := ∀ v h, OLe (f v h) (f' v h)
def HLe (f f' : KH) : Prop := ∀ h, OLe (f h) (f' h)

theorem OLe.newBlk (h : Heap) (k : Blk) {f f' : Nat → KH} (hf : ∀ b, HLe (f b) (f' b)) : OLe (Den.newBlk h k f) (Den.newBlk h k f') := by rw [newBlk_eq, newBlk_eq]; exact hf _ _
theorem OLe.setBlk (h : Heap) (b : Nat) (k : Blk) {f f' : KH} (hf : HLe f f') : OLe (Den.setBlk h b k f) (Den.setBlk h b k f') := by rw [setBlk_eq, setBlk_eq]; exact hf _
theorem OLe.killBlk (h : Heap) (b : Nat) {f f' : KH} (hf : HLe f f') : OLe (Den.killBlk h b f) (Den.killBlk h b f') := by rw [killBlk_eq, killBlk_eq]; exact hf _
theorem OLe.openBlk (h : Heap) (b : Nat) {f f' : List Row → Bool → Nat → Option Fin2} (hf : ∀ e g z, OLe (f e g z) (f' e g z)) : OLe (Den.openBlk h b f) (Den.openBlk h b f') := .ob_ _ fun k => by cases k; exact hf _ _ _
theorem OLe.sliceTd (i : TI) {f f' : Nat → Nat → Row → Option Fin2} (hf : ∀ a b c, OLe (f a b c) (f' a b c)) : OLe (Den.sliceTd i f) (Den.sliceTd i f') := by
  obtain ⟨td, _, _, _⟩ := i
  cases td <;> first | exact .none _ | exact hf _ _ _
theorem OLe.headT (ts : List Nat) {f f' : Nat → Option Fin2} (hf : ∀ a, OLe (f a) (f' a)) : OLe (Den.headT ts f) (Den.headT ts f') := by
  cases ts
  · exact .none _
  · exact hf _
theorem OLe.headT2 (ts : List Nat) {f f' : Nat → Nat → Option Fin2} (hf : ∀ a b, OLe (f a b) (f' a b)) : OLe (Den.headT2 ts f) (Den.headT2 ts f') := by
  cases ts
  · exact .none _
  · exact .headT _ fun b => hf _ b
theorem OLe.two (l : List AV) {f f' : AV → AV → Option Fin2} (hf : ∀ a b, OLe (f a b) (f' a b)) : OLe (Den.two l f) (Den.two l f') := by
  match l with
  | [] => exact .none _
  | [_] => exact .none _
  | [a, b] => exact hf a b
  | _ :: _ :: _ :: _ => exact .none _

theorem OLe.writeRow (h : Heap) (b a : Nat) (xs : List Row) {f f' : KH} (hf : HLe f f') : OLe (Den.writeRow h b a xs f) (Den.writeRow h b a xs f') :=
  .openBlk _ _ fun els g z => .ifb_m _ (by rw [putAtK_eq, putAtK_eq]; exact .setBlk _ _ _ hf)
theorem OLe.freshRow (h : Heap) (sz by_ : Nat) (olds xs : List Row) (fz : Nat) {f f' : K} (hf : KLe f f') : OLe (Den.freshRow h sz by_ olds xs fz f) (Den.freshRow h sz by_ olds xs fz f') := by
  unfold Den.freshRow
  rw [appK_eq, appK_eq, forceNat_eq, forceNat_eq]
  exact .ifb_n _ (.newBlk _ _ fun b h => hf _ _)
theorem OLe.appendRef (h : Heap) (bytes b z off n : Nat) (cap : Option Nat) (xs : List Row) {f f' : K} (hf : KLe f f') : OLe (Den.appendRef h bytes b z off n cap xs f) (Den.appendRef h bytes b z off n cap xs f') := by
  refine .opt cap (.openBlk _ _ fun els g fz => .ifb_ _ (.writeRow _ _ _ _ fun h => ?_) (.ifb_n _ (.ob_ _ fun olds => .killBlk _ _ fun h => .freshRow _ _ _ _ _ _ hf))) fun c => .ifb_ _ (.writeRow _ _ _ _ fun h => ?_) (.ob_ _ fun olds => .freshRow _ _ _ _ _ _ hf)
  · rw [forceNat_eq, forceNat_eq]; exact hf _ _
  · rw [forceNat_eq, forceNat_eq]; exact hf _ _
theorem OLe.appendTo (s : AV) (h : Heap) (sz bytes : Nat) (xs : List Row) {f f' : K} (hf : KLe f f') : OLe (Den.appendTo s h sz bytes xs f) (Den.appendTo s h sz bytes xs f') := by
  cases s with
  | nil => exact .freshRow _ _ _ _ _ _ hf
  | ref b z off n cap => exact .ifb_n _ (.appendRef _ _ _ _ _ _ _ _ hf)
  | _ => exact .none _
theorem OLe.appendOp (h : Heap) (sz bytes : Nat) (s : AV) (xs : List Row) {f f' : K} (hf : KLe f f') : OLe (Den.appendOp h sz bytes s xs f) (Den.appendOp h sz bytes s xs f') := by
  cases xs with
  | nil => exact .ifb_n _ (hf _ _)
  | cons x t => exact .appendTo _ _ _ _ _ hf
theorem OLe.copyOp (d : AV) (h : Heap) (sz : Nat) (xs : List Row) {f f' : K} (hf : KLe f f') : OLe (Den.copyOp d h sz xs f) (Den.copyOp d h sz xs f') := by
  cases d with
  | nil => exact hf _ _
  | ref b z off n cap =>
    refine .ifb_n _ ?_
    rw [takeK_eq, takeK_eq]
    exact .ifb_ _ (hf _ _) (.writeRow _ _ _ _ fun h => hf _ _)
  | _ => exact .none _
theorem OLe.clearOp (d : AV) (h : Heap) (sz : Nat) (z : Row) {f f' : K} (hf : KLe f f') : OLe (Den.clearOp d h sz z f) (Den.clearOp d h sz z f') := by
  cases d with
  | nil => exact hf _ _
  | ref b z off n cap =>
    refine .ifb_n _ (.ifb_ _ (hf _ _) ?_)
    rw [repK_eq, repK_eq]
    exact .writeRow _ _ _ _ fun h => hf _ _
  | _ => exact .none _
theorem OLe.builtin (b : Builtin) (ts : List Nat) (E : Env) (vs : List AV) (h : Heap) {f f' : K} (hf : KLe f f') : OLe (builtinOp b ts E vs h f) (builtinOp b ts E vs h f') := by
  cases b with
  | len => exact .headT _ fun t => .ob_ _ fun i => .ob_ _ fun x => .ob_ _ fun v => .ifb_n _ (hf _ _)
  | append => exact .headT2 _ fun t u => .ob_ _ fun i => .ob_ _ fun j => .ifb_n _ (.sliceTd _ fun sz b _ => .two _ fun s x => .ob_ _ fun xs => .appendOp _ _ _ _ _ hf)
  | copy => exact .headT _ fun t => .ob_ _ fun i => .sliceTd _ fun sz _ _ => .two _ fun d x => .ob_ _ fun xs => .copyOp _ _ _ _ hf
  | clear => exact .headT _ fun t => .ob_ _ fun i => .sliceTd _ fun sz _ z => .ob_ _ fun d => .clearOp _ _ _ _ hf
  | min => exact .ob_ _ fun v => hf _ _
  | max => exact .ob_ _ fun v => hf _ _
  | _ => exact .none _
theorem OLe.conv (d s : TD) (same : Bool) (x : AV) (h : Heap) {f f' : K} (hf : KLe f f') : OLe (convTd d s same x h f) (convTd d s same x h f') := by
  cases d with
  | int k => exact show OLe (op2 (toInt x) fun _ n => f (mkInt k (wrapF k n)) h) (op2 (toInt x) fun _ n => f' (mkInt k (wrapF k n)) h) from .op2_ (toInt x) fun _ n => hf _ _
  | str => cases s with
    | str => exact .ob_ _ fun l => hf _ _
    | slice sz b z u => exact .ifb_n _ (.ob_ _ fun xs => .ob_ _ fun l => hf _ _)
    | _ => exact .none _
  | slice sz b z u => cases s with
    | str => exact .ifb_n _ (.ob_ _ fun l => .newBlk _ _ fun b h => hf _ _)
    | slice sz2 b2 z2 u2 => exact .ifb_n _ (.ob_ _ fun b => .ob_ _ fun _ => hf _ _)
    | _ => exact .none _
  | _ => exact .none _
theorem OLe.insertIn (v : AV) (h : Heap) (z bx : Nat) (all : List Row) {f f' : K} (hf : KLe f f') : OLe (Den.insertIn v h z bx all f) (Den.insertIn v h z bx all f') := by
  cases v with
  | ref b z0 off m cap => exact .opt cap (.openBlk _ _ fun els _ fz => .ifb_n _ (.killBlk _ _ fun h => .newBlk _ _ fun b h => hf _ _)) fun _ => .none _
  | _ => exact .none _
theorem OLe.insertAll (h : Heap) (v : AV) (z bytes i bx : Nat) (xs olds : List Row) {f f' : K} (hf : KLe f f') : OLe (Den.insertAll h v z bytes i bx xs olds f) (Den.insertAll h v z bytes i bx xs olds f') := by
  refine .ifb_ _ (.appendOp _ _ _ _ _ hf) (.ifb_n _ ?_)
  rw [takeK_eq, takeK_eq, appK_eq, appK_eq, appK_eq, appK_eq]
  exact .ifb_n _ (.insertIn _ _ _ _ _ hf)
theorem OLe.insertOp (zb : Nat × Nat) (h : Heap) (l : List AV) {f f' : K} (hf : KLe f f') : OLe (Den.insertOp zb h l f) (Den.insertOp zb h l f') := by
  obtain ⟨z, b⟩ := zb
  cases l with
  | nil => exact .none _
  | cons v t => exact .two _ fun i x => .ob_ _ fun i => .ob_ _ fun bx => .ob_ _ fun xs => .ob_ _ fun olds => .insertAll _ _ _ _ _ _ _ _ hf
theorem OLe.closeResult (own : Bool) (start : Nat) (h : Heap) (v : AV) {f f' : K} (hf : KLe f f') : OLe (Den.closeResult own start h v f) (Den.closeResult own start h v f') :=
  .ifb_ _ (hf _ _) (.op2_ _ fun v bs => by cases h; exact hf _ _)
theorem resVals_mono {env env' : Regs} (s : Sub env env') (E : Env) (h : Heap) (rs : List ResultVar) : ∀ vs, resVals rs E h env = some vs → resVals rs E h env' = some vs := by
  induction rs with
  | nil => exact fun _ q => q
  | cons r t ih =>
    refine obM (fun v q => ?_) fun v => obM ih fun r _ q => q
    cases r with
    | tmp t => exact s t v q
    | cell t ty => exact obM (fun v q => s t v q) (fun p r q => q) v q
include hR
theorem OLe.callBody (c : Code) (rs : List ResultVar) (hint : Hint) (own : Bool) (args : List AV) (h : Heap) {f f' : K} (hf : KLe f f') :
    OLe (Den.callBody c rs hint own E rec args h f) (Den.callBody c rs hint own E rec' args h f') := fun r e => by
  obtain ⟨o, q, e1⟩ := ob_some e
  obtain ⟨o', q1, q2, q3, q4⟩ := hR _ _ _ _ _ _ (.refl _) q
  obtain ⟨ex, env, hh⟩ := o
  obtain ⟨ex', env', hh'⟩ := o'
  cases q2; cases q3
  have : OLe (ifb (isEx ex) .none (Den.ob (resVals rs E hh env) fun vs => Den.closeResult own h.next hh (one vs) f)) (ifb (isEx ex) .none (Den.ob (resVals rs E hh env') fun vs => Den.closeResult own h.next hh (one vs) f')) :=
    .ifb_m _ (.ob (resVals_mono q4 _ _ _) fun vs => .closeResult _ _ _ _ hf)
  obtain ⟨r', k1, k2⟩ := this r e1
  refine ⟨r', ?_, k2⟩
  show Den.ob (rec' hint c (args0 hint.keep args 0) h) _ = _
  rw [q1]
  exact k1
theorem OLe.callIn (g : Nat) (args : List AV) (h : Heap) {f f' : K} (hf : KLe f f') : OLe (Den.callIn g E rec args h f) (Den.callIn g E rec' args h f') :=
  .ob_ _ fun fn => .ob_ _ fun c => .ob_ _ fun hint => .callBody hR _ _ _ _ _ _ hf
theorem OLe.callF (g : Nat) (args : List AV) (h : Heap) {f f' : K} (hf : KLe f f') : OLe (Den.callF g E rec args h f) (Den.callF g E rec' args h f') :=
  .opt _ (.opt _ (.callIn hR _ _ _ hf) fun φ => .opt _ (.callIn hR _ _ _ hf) fun p => by obtain ⟨v, h⟩ := p; exact hf _ _) fun zb => .insertOp _ _ _ hf
theorem OLe.callClo (v : AV) (vs : List AV) (h : Heap) {f f' : K} (hf : KLe f f') : OLe (Den.callClo v E rec vs h f) (Den.callClo v E rec' vs h f') := by
  cases v with
  | clo g caps =>
    show OLe (appK vs caps fun vs => Den.callF g E rec vs h f) (appK vs caps fun vs => Den.callF g E rec' vs h f')
    rw [appK_eq, appK_eq]
    exact .callF hR _ _ _ hf
  | _ => exact .none _
omit hR
theorem OLe.storeOp (p : AV) (h : Heap) (i : TI) (v : AV) {f f' : KH} (hf : HLe f f') : OLe (Den.storeOp p h i v f) (Den.storeOp p h i v f') := by
  cases p with
  | ptr b n j =>
    show OLe (storePtr h i.size (cellsOf v) b n j f) (storePtr h i.size (cellsOf v) b n j f')
    unfold storePtr
    refine .openBlk _ _ fun els g z => .ifb_m _ (.ob_ _ fun cs => .ifb_n _ ?_)
    rw [putAtK_eq, putAtK_eq, setK_eq, setK_eq]
    exact .setBlk _ _ _ hf
  | _ => exact .none _
end
end Go.Den

namespace Go.Den
open Go

variable [Val]

theorem OLe.slice3 (v : AV) (i : TI) (a b c : Nat) (h : Heap) {f f' : K} (hf : KLe f f') : OLe (slice3Op v i a b c h f) (slice3Op v i a b c h f') := by
  cases v with
  | ref k z off n cap => exact .ifb_n _ (hf _ _)
  | _ => exact .none _

section
variable {E : Env} {rec rec' : Rec} (hR : RecLe rec rec') {l e l' e' : Regs} (s : See l e l' e')
include hR s
theorem OLe.op (op : Op) (h : Heap) {f f' : K} (hf : KLe f f') : OLe (evOp op E rec l e h f) (evOp op E rec' l' e' h f') := by
  cases op with
  | move x => exact .ob (s.opv x) fun v => hf _ _
  | assign x => exact .ob (s.opv x) fun v => hf _ _
  | pick c a b => exact .ob (s.opv c) fun v => .ob_ _ fun t => .ifb_ _ (.ob (s.opv a) fun v => hf _ _) (.ob (s.opv b) fun v => hf _ _)
  | alloc t => exact .ob_ _ fun i => .newBlk _ _ fun b h => hf _ _
  | box t x => exact .ob_ _ fun i => .ob (s.opv x) fun v => .ifb_n _ (.newBlk _ _ fun b h => hf _ _)
  | build t ps => exact .ob_ _ fun i => .ob (s.opvParts _) fun vs => .ob_ _ fun fs => .ob_ _ fun v => hf _ _
  | buildSlice t n ps =>
    refine .ob_ _ fun i => .sliceTd _ fun sz b z => .ob (s.opvParts _) fun vs => ?_
    rw [repK_eq, repK_eq]
    exact .ob_ _ fun els => .ifb_n _ (.newBlk _ _ fun b h => hf _ _)
  | insert t m k v =>
    refine .ob_ _ fun i => .ifb_n _ (.ob (s.opv m) fun mv => .ob (s.opv k) fun kv => .ob (s.opv v) fun x => .ob_ _ fun b => .op2_ _ fun _ _ => ?_)
    obtain ⟨next, blks, maps, mark, log⟩ := h
    refine .ob_ _ fun l => .ob_ _ fun r => .opt _ ?_ fun _ => .none _
    rw [appK_eq, appK_eq, updK_eq, updK_eq]
    exact hf _ _
  | load t a => exact .ob_ _ fun i => .ob (s.opv a) fun p => .ob_ _ fun v => hf _ _
  | store t a v => exact .ob_ _ fun i => .ob (s.opv a) fun p => .ob (s.opv v) fun x => .storeOp _ _ _ _ fun h => hf _ _
  | binOp op t x y u => exact .ob (s.opv x) fun a => .ob (s.opv y) fun b => .ob_ _ fun v => hf _ _
  | unOp op t x => exact .ob (s.opv x) fun a => .ob_ _ fun v => hf _ _
  | convert a d x => exact .ob (s.opv x) fun a => .ob_ _ fun si => .ob_ _ fun di => .conv _ _ _ _ _ hf
  | makeFunc fn fs cs => cases fn with
    | func g => exact .ifb_n _ (.ob (s.opvs _) fun vs => hf _ _)
    | _ => exact .none _
  | makeMap t r =>
    cases r with
    | none =>
      obtain ⟨next, blks, maps, mark, log⟩ := h
      show OLe (forceNat (Nat.succ next) fun n => f (.mp next) ⟨n, blks, AL.cons next [] maps, mark, log⟩) (forceNat (Nat.succ next) fun n => f' (.mp next) ⟨n, blks, AL.cons next [] maps, mark, log⟩)
      rw [forceNat_eq, forceNat_eq]
      exact hf _ _
    | some _ => exact .none _
  | makeSlice t a c =>
    refine .ob_ _ fun i => .sliceTd _ fun sz b z => .ob (s.opv a) fun x => .ob (s.opv c) fun y => .ob_ _ fun n => .ob_ _ fun m => .ifb_n _ ?_
    rw [repK_eq, repK_eq]
    exact .newBlk _ _ fun b h => hf _ _
  | slice t x lo hi mx =>
    cases mx with
    | none => exact .ob_ _ fun i => .ob (s.opv x) fun v => .ob (s.bound lo) fun a => .ob (s.bound hi) fun b => .ob_ _ fun v => hf _ _
    | some m => exact .ob_ _ fun i => .ob (s.opv x) fun v => .ob (s.bound lo) fun a => .ob (s.bound hi) fun b => .ob (s.opv m) fun mv => .ob_ _ fun c => .ob_ _ fun b => .slice3 _ _ _ _ _ _ hf
  | fieldAddr t x n => exact .ob_ _ fun i => .ob (s.opv x) fun p => .ob_ _ fun v => hf _ _
  | field t x n =>
    refine .ob_ _ fun i => .ob (s.opv x) fun v => .ob_ _ fun cs => .ob_ _ fun fs => .op2_ _ fun o m => ?_
    rw [takeK_eq, takeK_eq]
    exact .ifb_n _ (hf _ _)
  | indexAddr t x n => exact .ob_ _ fun i => .sliceTd _ fun sz _ _ => .ob (s.opv x) fun v => .ob (s.opv n) fun w => .ob_ _ fun m => .ob_ _ fun v => hf _ _
  | index t x n => exact .ob_ _ fun i => .ifb_n _ (.ob (s.opv x) fun v => .ob (s.opv n) fun w => .ob_ _ fun m => .ob_ _ fun l => .ob_ _ fun c => hf _ _)
  | lookup t m k ok => exact .ob_ _ fun i => .ob (s.opv m) fun mv => .ob (s.opv k) fun kv => .ob_ _ fun b => .op2_ _ fun _ _ => .ob_ _ fun z => .ob_ _ fun l => .ob_ _ fun r => .opt _ (hf _ _) fun v => hf _ _
  | extract t n => exact .ob (s.opv t) fun v => .ob_ _ fun vs => .ob_ _ fun v => hf _ _
  | call c =>
    obtain ⟨cal, args, ts⟩ := c
    cases cal with
    | value g => exact .ob (s.opv g) fun v => .ob (s.opvs _) fun vs => .callClo hR _ _ _ hf
    | builtin b => exact .ob (s.opvs _) fun vs => .builtin _ _ _ _ _ hf
    | _ => exact .none _
  | _ => exact .none _
end

section
variable {E : Env} {rec rec' : Rec} (hR : RecLe rec rec')
def NLe (n n' : Nx) : Prop := ∀ loc env env' h, Sub env env' → OLe (n loc env h) (n' loc env' h)
include hR
theorem NLe.oper (all : List Oper) (o : Oper) (keep : Nat) {n n' : Nx} (hn : NLe n n') : NLe (evOper all o E rec keep n) (evOper all o E rec' keep n') := by
  intro loc env env' h s
  obtain ⟨dst, op, t, p, a, g⟩ := o
  refine .ob ((s.see loc).wanted g all) fun b => .ifb_ _ ?_ ?_
  · exact .op hR (s.see loc) op h fun v h => .setReg _ _ _ s _ fun loc env env' s => hn _ _ _ _ s
  · exact .setReg _ _ _ s _ fun loc env env' s => hn _ _ _ _ s
theorem NLe.ops (all l : List Oper) (keep : Nat) : NLe (evOps all l E rec keep) (evOps all l E rec' keep) := by
  induction l with
  | nil =>
    intro loc env env' h s r e
    cases e
    exact ⟨_, rfl, s, rfl⟩
  | cons o l ih => exact NLe.oper hR all o keep ih

/-! regions that draw -/
theorem again_mono (op : Op) {s s' : Regs} (hs : Sub s s') (v : AV) (h : Heap) (e : again op E rec s v h = true) : again op E rec' s' v h = true := by
  unfold again at *
  have := OLe.op (E := E) hR hs.see0 op h (f := fun u h => ifb (eqAV v u) (some (.nil, h)) none) (f' := fun u h => ifb (eqAV v u) (some (.nil, h)) none) (fun u h => .refl _)
  cases hq : evOp op E rec s .nil h (fun u h => ifb (eqAV v u) (some (.nil, h)) none) with
  | none => rw [hq] at e; cases e
  | some r =>
    obtain ⟨r', h1, _⟩ := this r hq
    rw [h1]
end

inductive CkLe : List CI → List CI → Prop
  | nil : CkLe [] []
  | cons {x y : CI} {a b : List CI} (hx : x.lo = y.lo ∧ x.hi = y.hi ∧ ∀ h, x.ck h = true → y.ck h = true) (h : CkLe a b) : CkLe (x :: a) (y :: b)
theorem checkOne_mono {x y : CI} (h1 : x.lo = y.lo) (h2 : x.hi = y.hi) (h3 : ∀ h, x.ck h = true → y.ck h = true) (eps : List Heap) : ∀ k, checkOne x eps k = true → checkOne y eps k = true := by
  induction eps with
  | nil => exact fun _ _ => rfl
  | cons h eps ih =>
    intro k e
    have e' : ifb (band (Nat.ble x.lo k) (Nat.ble k x.hi)) (ifb (x.ck h) (checkOne x eps (k + 1)) false) (checkOne x eps (k + 1)) = true := e
    show ifb (band (Nat.ble y.lo k) (Nat.ble k y.hi)) (ifb (y.ck h) (checkOne y eps (k + 1)) false) (checkOne y eps (k + 1)) = true
    rw [← h1, ← h2]
    cases hb : band (Nat.ble x.lo k) (Nat.ble k x.hi) with
    | false => rw [hb] at e'; exact ih _ e'
    | true =>
      rw [hb] at e'
      cases hc : x.ck h with
      | false => rw [hc] at e'; cases e'
      | true => rw [hc] at e'; rw [h3 h hc]; exact ih _ e'
theorem checkAll_mono (eps : List Heap) {a b : List CI} (h : CkLe a b) (e : checkAll a eps = true) : checkAll b eps = true := by
  induction h with
  | nil => rfl
  | @cons x y a b hx _ ih =>
    have e' : ifb (checkOne x eps 0) (checkAll a eps) false = true := e
    show ifb (checkOne y eps 0) (checkAll b eps) false = true
    cases hc : checkOne x eps 0 with
    | false => rw [hc] at e'; cases e'
    | true => rw [hc] at e'; rw [checkOne_mono hx.1 hx.2.1 hx.2.2 eps 0 hc]; exact ih e'

def DLe (n n' : NxD) : Prop := ∀ loc env env' pd h cks cks' eps, Sub env env' → CkLe cks cks' → OLe (n loc env pd h cks eps) (n' loc env' pd h cks' eps)
theorem OLe.byCls (c : Nat) {a b d e a' b' d' e' : Option Fin2} (h1 : OLe a a') (h2 : OLe b b') (h3 : OLe d d') (h4 : OLe e e') : OLe (Den.byCls c a b d e) (Den.byCls c a' b' d' e') := .ifb_ _ h1 (.ifb_ _ h2 (.ifb_ _ h3 h4))
theorem OLe.moveL (ad : List Nat) (base : Nat) (f f' : Heap → Heap → Option Fin2) (hf : ∀ a b, OLe (f a b) (f' a b)) : ∀ pd h, OLe (Den.moveL ad base pd h f) (Den.moveL ad base pd h f') := by
  induction ad with
  | nil => exact hf
  | cons i ad ih =>
    intro pd h
    show OLe (forceNat (base + i) fun id => move1 id pd h fun pd h => Den.moveL ad base pd h f) (forceNat (base + i) fun id => move1 id pd h fun pd h => Den.moveL ad base pd h f')
    rw [forceNat_eq, forceNat_eq]
    unfold move1
    refine .opt _ (.opt _ (ih _ _) fun l => ?_) fun k => ?_
    · rw [delK_eq, delK_eq]; exact ih _ _
    · rw [delK_eq, delK_eq]; exact ih _ _

section
variable {E : Env} {rec rec' : Rec} (hR : RecLe rec rec')
include hR
theorem OLe.opD (op : Op) (ho : HOp) {s s' : Regs} (hs : Sub s s') (base id : Nat) (pd h : Heap) {cks cks' : List CI} (hc : CkLe cks cks') (eps : List Heap) {f f' : AV → Heap → Heap → List CI → List Heap → Option Fin2}
    (hf : ∀ v pd h cks cks' eps, CkLe cks cks' → OLe (f v pd h cks eps) (f' v pd h cks' eps)) : OLe (evOpD op ho E rec s base id pd h cks eps f) (evOpD op ho E rec' s' base id pd h cks' eps f') := by
  refine .byCls _ ?_ ?_ ?_ ?_
  · exact .op hR hs.see0 op _ fun v _ => hf _ _ _ _ _ _ hc
  · refine .op hR hs.see0 op _ fun v _ => hf _ _ _ _ _ _ ?_
    cases Nat.beq ho.lo ho.hi
    · exact .cons ⟨rfl, rfl, fun h e => again_mono hR op hs v h e⟩ hc
    · exact hc
  · exact .op hR hs.see0 op _ fun v _ => hf _ _ _ _ _ _ hc
  · rw [appK_eq, appK_eq]
    exact .moveL _ _ _ _ (fun pd h => .op hR hs.see0 op _ fun v _ => hf _ _ _ _ _ _ hc) _ _
theorem DLe.oper (all : List Oper) (o : Oper) (ho : HOp) (keep base id : Nat) {n n' : NxD} (hn : DLe n n') : DLe (evOperD all o ho E rec keep base id n) (evOperD all o ho E rec' keep base id n') := by
  intro loc env env' pd h cks cks' eps s hc
  obtain ⟨dst, op, t, p, a, g⟩ := o
  have hs := (s.see loc).sub ho.rd
  refine .ob (hs.see0.wanted g all) fun b => .ifb_ _ ?_ ?_
  · exact .opD hR op ho hs base id pd h hc eps fun v pd h cks cks' eps hc => .setReg _ _ _ s _ fun loc env env' s => hn _ _ _ _ _ _ _ _ s hc
  · refine .byCls _ ?_ ?_ (.none _) ?_
    · exact .setReg _ _ _ s _ fun loc env env' s => hn _ _ _ _ _ _ _ _ s hc
    · exact .setReg _ _ _ s _ fun loc env env' s => hn _ _ _ _ _ _ _ _ s hc
    · rw [appK_eq, appK_eq]
      exact .setReg _ _ _ s _ fun loc env env' s => hn _ _ _ _ _ _ _ _ s hc
theorem DLe.draw (all l : List Oper) (keep base : Nat) : ∀ (hl : List HOp) (id : Nat), DLe (evDraw all l E rec keep base hl id) (evDraw all l E rec' keep base hl id) := by
  induction l with
  | nil =>
    intro hl id loc env env' pd h cks cks' eps s hc r e
    have e' : (appK eps [unionH pd h] fun eps => ifb (checkAll cks eps) (some (env, unionH pd h)) none) = some r := e
    rw [appK_eq] at e'
    obtain ⟨e1, e2⟩ := ifb_none e'
    cases e2
    refine ⟨(env', unionH pd h), ?_, s, rfl⟩
    show (appK eps [unionH pd h] fun eps => ifb (checkAll cks' eps) (some (env', unionH pd h)) none) = _
    rw [appK_eq, checkAll_mono _ hc e1]
    rfl
  | cons o l ih =>
    intro hl id
    cases hl with
    | nil => intro loc env env' pd h cks cks' eps s hc; exact .none _
    | cons ho hl => exact DLe.oper hR all o ho keep base id (ih hl (id + 1))
theorem OLe.drawn (ops : List Oper) (hl : List HOp) (keep : Nat) {env env' : Regs} (s : Sub env env') (h : Heap) : OLe (evDrawn ops hl E rec keep env h) (evDrawn ops hl E rec' keep env' h) := by
  unfold evDrawn
  rw [forceNat_eq, forceNat_eq]
  obtain ⟨next, blks, maps, mark, log⟩ := h
  have : ∀ F F' : Heap → Option Fin2, (∀ h, OLe (F h) (F' h)) → OLe (reserve ⟨next, blks, maps, mark, log⟩ (len ops) F) (reserve ⟨next, blks, maps, mark, log⟩ (len ops) F') := fun F F' hF => by
    show OLe (forceNat (next + len ops) fun n => F ⟨n, blks, maps, mark, log⟩) (forceNat (next + len ops) fun n => F' ⟨n, blks, maps, mark, log⟩)
    rw [forceNat_eq, forceNat_eq]
    exact hF _
  exact this _ _ fun h1 => DLe.draw hR _ _ _ _ _ _ _ _ _ _ _ _ _ _ s .nil

def OutLe (o o' : Out) : Prop := o'.ex = o.ex ∧ o'.heap = o.heap ∧ Sub o.env o'.env
theorem stepC_mono : RecLe (fun hint c env h => stepC c E rec hint env h) (fun hint c env h => stepC c E rec' hint env h) := by
  intro hint c env env' h o s e
  cases c with
  | skip => cases e; exact ⟨_, rfl, rfl, rfl, s⟩
  | region id ops draw =>
    obtain ⟨env1, h1, e1, e2⟩ := op2_some (show op2 (ifb draw (ob (hint.dr id) fun hl => evDrawn ops.toList hl E rec hint.keep env h) (evOps ops.toList ops.toList E rec hint.keep .nil env h)) (fun env h => some ⟨.nm, env, h⟩) = some o from e)
    cases e2
    have : OLe (ifb draw (ob (hint.dr id) fun hl => evDrawn ops.toList hl E rec hint.keep env h) (evOps ops.toList ops.toList E rec hint.keep .nil env h)) (ifb draw (ob (hint.dr id) fun hl => evDrawn ops.toList hl E rec' hint.keep env' h) (evOps ops.toList ops.toList E rec' hint.keep .nil env' h)) :=
      .ifb_ _ (.ob_ _ fun hl => .drawn hR _ _ _ s _) (NLe.ops hR _ _ _ _ _ _ _ s)
    obtain ⟨⟨env2, h2⟩, k1, k2, k3⟩ := this _ e1
    cases k3
    refine ⟨⟨.nm, env2, _⟩, ?_, rfl, rfl, k2⟩
    show op2 (ifb draw (ob (hint.dr id) fun hl => evDrawn ops.toList hl E rec' hint.keep env' h) (evOps ops.toList ops.toList E rec' hint.keep .nil env' h)) (fun env h => some (⟨.nm, env, h⟩ : Out)) = _
    rw [k1]
    rfl
  | seq a b =>
    obtain ⟨o1, e1, e2⟩ := ob_some e
    obtain ⟨o1', k1, k2, k3, k4⟩ := hR _ _ _ _ _ _ s e1
    obtain ⟨ex, env1, h1⟩ := o1
    obtain ⟨ex', env1', h1'⟩ := o1'
    cases k2; cases k3
    show ∃ o', ob (rec' hint a env' h) (seqOut b rec' hint) = some o' ∧ _
    rw [k1]
    cases ex with
    | nm => exact hR _ _ _ _ _ _ k4 e2
    | ex i => cases e2; exact ⟨_, rfl, rfl, rfl, k4⟩
    | rt => cases e2; exact ⟨_, rfl, rfl, rfl, k4⟩
  | cond c a b =>
    obtain ⟨v, e1, e2⟩ := ob_some e
    obtain ⟨t, e3, e4⟩ := ob_some e2
    show ∃ o', ob (opv c .nil env') (fun v => ob (toBool v) fun t => ifb t (rec' hint a env' h) (rec' hint b env' h)) = some o' ∧ _
    rw [(s.see .nil).opv c v e1]
    show ∃ o', ob (toBool v) (fun t => ifb t (rec' hint a env' h) (rec' hint b env' h)) = some o' ∧ _
    rw [e3]
    cases t with
    | true => exact hR _ _ _ _ _ _ s e4
    | false => exact hR _ _ _ _ _ _ s e4
  | block id c =>
    obtain ⟨o1, e1, e2⟩ := ob_some e
    obtain ⟨o1', k1, k2, k3, k4⟩ := hR _ _ _ _ _ _ s e1
    obtain ⟨ex, env1, h1⟩ := o1
    obtain ⟨ex', env1', h1'⟩ := o1'
    cases k2; cases k3
    show ∃ o', ob (rec' hint c env' h) (blockOut id) = some o' ∧ _
    rw [k1]
    cases ex with
    | nm => cases e2; exact ⟨_, rfl, rfl, rfl, k4⟩
    | ex i =>
      rcases ifb_some (show ifb (Nat.beq i id) (some ⟨.nm, env1, h1⟩) (some ⟨.ex i, env1, h1⟩) = some o from e2) with ⟨q1, q2⟩ | ⟨q1, q2⟩
      · cases q2
        refine ⟨⟨.nm, env1', h1⟩, ?_, rfl, rfl, k4⟩
        show ifb (Nat.beq i id) _ _ = _
        rw [q1]; rfl
      · cases q2
        refine ⟨⟨.ex i, env1', h1⟩, ?_, rfl, rfl, k4⟩
        show ifb (Nat.beq i id) _ _ = _
        rw [q1]; rfl
    | rt => cases e2; exact ⟨_, rfl, rfl, rfl, k4⟩
  | loop c =>
    obtain ⟨o1, e1, e2⟩ := ob_some e
    obtain ⟨o1', k1, k2, k3, k4⟩ := hR _ _ _ _ _ _ s e1
    obtain ⟨ex, env1, h1⟩ := o1
    obtain ⟨ex', env1', h1'⟩ := o1'
    cases k2; cases k3
    show ∃ o', ob (rec' hint c env' h) (seqOut (.loop c) rec' hint) = some o' ∧ _
    rw [k1]
    cases ex with
    | nm => exact hR _ _ _ _ _ _ k4 e2
    | ex i => cases e2; exact ⟨_, rfl, rfl, rfl, k4⟩
    | rt => cases e2; exact ⟨_, rfl, rfl, rfl, k4⟩
  | exit id => cases e; exact ⟨_, rfl, rfl, rfl, s⟩
  | ret => cases e; exact ⟨_, rfl, rfl, rfl, s⟩
  | _ => cases e
end

theorem exec_mono (E : Env) : ∀ n m, n ≤ m → RecLe (exec E n) (exec E m)
  | 0, _, _ => by intro hint c env env' h o s e; cases e
  | n + 1, 0, h => absurd h (by omega)
  | n + 1, m + 1, h => stepC_mono (exec_mono E n m (by omega))
end Go.Den

namespace Go.Den
open Go

variable [Val]

/-! ### step by step -/
theorem ob_of {α β : Type} {o : Option α} {f : α → Option β} {a : α} {r : Option β} (h1 : o = some a) (h2 : f a = r) : ob o f = r := by rw [h1]; exact h2
theorem op2_of {α β γ : Type} {o : Option (α × β)} {f : α → β → Option γ} {a : α} {b : β} {r : Option γ} (h1 : o = some (a, b)) (h2 : f a b = r) : op2 o f = r := by rw [h1]; exact h2
theorem ifb_t {α : Type} {b : Bool} {x y r : α} (h1 : b = true) (h2 : x = r) : ifb b x y = r := by rw [h1]; exact h2
theorem ifb_f {α : Type} {b : Bool} {x y r : α} (h1 : b = false) (h2 : y = r) : ifb b x y = r := by rw [h1]; exact h2
theorem force_of {α : Type} {n : Nat} {f : Nat → α} {r : α} (h : f n = r) : forceNat n f = r := by rw [forceNat_eq]; exact h
theorem new_of {h : Heap} {k : Blk} {f : Nat → KH} {r : Option Fin2} (e : f h.next (hpush h k) = r) : newBlk h k f = r := by rw [newBlk_eq]; exact e
theorem set_of {h : Heap} {b : Nat} {k : Blk} {f : KH} {r : Option Fin2} (e : f (hset h b k) = r) : setBlk h b k f = r := by rw [setBlk_eq]; exact e
theorem kill_of {h : Heap} {b : Nat} {f : KH} {r : Option Fin2} (e : f (hkill h b) = r) : killBlk h b f = r := by rw [killBlk_eq]; exact e
theorem app_of {α β : Type} {l m : List α} {f : List α → β} {r : β} (e : f (l ++ m) = r) : appK l m f = r := by rw [appK_eq]; exact e
theorem take_of {α β : Type} {l : List α} {n : Nat} {f : List α → β} {r : β} (e : f (l.take n) = r) : takeK l n f = r := by rw [takeK_eq]; exact e

/-! ### what code comes to, piece by piece -/
def WP (E : Env) (hint : Hint) (c : Code) (env : Regs) (h : Heap) (Q : Ex → Regs → Heap → Prop) : Prop :=
  ∃ n o e, exec E n hint c env h = some o ∧ Sub e o.env ∧ Q o.ex e o.heap

noncomputable def R0 : Rec := fun _ _ _ _ => none
theorem R0_le (r : Rec) : RecLe R0 r := fun _ _ _ _ _ _ _ e => by cases e

section
variable {E : Env} {hint : Hint} {env env' : Regs} {h h' : Heap} {Q Q' : Ex → Regs → Heap → Prop}

theorem WP.weaken {c : Code} (w : WP E hint c env h Q) (s : Sub env env') : WP E hint c env' h Q := by
  obtain ⟨n, o, e, h1, h2, h3⟩ := w
  obtain ⟨o', k1, k2, k3, k4⟩ := exec_mono E n n (Nat.le_refl _) _ _ _ _ _ _ s h1
  exact ⟨n, o', e, k1, h2.trans k4, by rw [k2, k3]; exact h3⟩

theorem WP.mono {c : Code} (w : WP E hint c env h Q) (hq : ∀ ex e h, Q ex e h → Q' ex e h) : WP E hint c env h Q' := by
  obtain ⟨n, o, e, h1, h2, h3⟩ := w
  exact ⟨n, o, e, h1, h2, hq _ _ _ h3⟩

/-- what follows -/
def Then (E : Env) (hint : Hint) (b : Code) (Q : Ex → Regs → Heap → Prop) (ex : Ex) (e : Regs) (h : Heap) : Prop :=
  @Ex.rec (fun _ => Prop) (WP E hint b e h Q) (fun i => Q (.ex i) e h) (Q .rt e h) ex

theorem WP.seq {a b : Code} (w : WP E hint a env h (Then E hint b Q)) : WP E hint (.seq a b) env h Q := by
  obtain ⟨n, ⟨ex, oe, oh⟩, e, h1, h2, h3⟩ := w
  cases ex with
  | nm =>
    obtain ⟨m, o2, e2, k1, k2, k3⟩ := h3
    obtain ⟨o1', a1, a2, a3, a4⟩ := exec_mono E n (n + m) (by omega) _ _ _ _ _ _ (.refl _) h1
    obtain ⟨o2', b1, b2, b3, b4⟩ := exec_mono E m (n + m) (by omega) _ _ _ _ _ _ (h2.trans a4) k1
    refine ⟨n + m + 1, o2', e2, ?_, k2.trans b4, by rw [b2, b3]; exact k3⟩
    show ob (exec E (n + m) hint a env h) (seqOut b (exec E (n + m)) hint) = _
    rw [a1]
    obtain ⟨ex', oe', oh'⟩ := o1'
    cases a2; cases a3
    exact b1
  | ex i =>
    refine ⟨n + 1, ⟨.ex i, oe, oh⟩, e, ?_, h2, h3⟩
    show ob (exec E n hint a env h) (seqOut b (exec E n) hint) = _
    rw [h1]; rfl
  | rt =>
    refine ⟨n + 1, ⟨.rt, oe, oh⟩, e, ?_, h2, h3⟩
    show ob (exec E n hint a env h) (seqOut b (exec E n) hint) = _
    rw [h1]; rfl

theorem Then.nm {b : Code} (w : WP E hint b env h Q) : Then E hint b Q .nm env h := w
theorem Then.rt {b : Code} (w : Q .rt env h) : Then E hint b Q .rt env h := w
theorem Then.ex {b : Code} {i : Nat} (w : Q (.ex i) env h) : Then E hint b Q (.ex i) env h := w

theorem WP.assoc {a b c : Code} (w : WP E hint (.seq a (.seq b c)) env h Q) : WP E hint (.seq (.seq a b) c) env h Q := by
  obtain ⟨n, o, e, h1, h2, h3⟩ := w
  cases n with
  | zero => cases h1
  | succ n =>
    obtain ⟨⟨ex, oe, oh⟩, q1, q2⟩ := ob_some (show ob (exec E n hint a env h) (seqOut (.seq b c) (exec E n) hint) = some o from h1)
    apply WP.seq
    apply WP.seq
    cases ex with
    | nm =>
      refine ⟨n, ⟨.nm, oe, oh⟩, oe, q1, .refl _, ?_⟩
      have q3 : exec E n hint (.seq b c) oe oh = some o := q2
      cases n with
      | zero => cases q3
      | succ n =>
        obtain ⟨⟨ex2, oe2, oh2⟩, p1, p2⟩ := ob_some (show ob (exec E n hint b oe oh) (seqOut c (exec E n) hint) = some o from q3)
        cases ex2 with
        | nm => exact ⟨n, ⟨.nm, oe2, oh2⟩, oe2, p1, .refl _, ⟨n, o, e, p2, h2, h3⟩⟩
        | ex i => cases p2; exact ⟨n, ⟨.ex i, oe2, oh2⟩, e, p1, h2, h3⟩
        | rt => cases p2; exact ⟨n, ⟨.rt, oe2, oh2⟩, e, p1, h2, h3⟩
    | ex i => cases q2; exact ⟨n, ⟨.ex i, oe, oh⟩, e, q1, h2, h3⟩
    | rt => cases q2; exact ⟨n, ⟨.rt, oe, oh⟩, e, q1, h2, h3⟩

theorem WP.skip (hs : Sub env' env) (hq : Q .nm env' h) : WP E hint .skip env h Q := ⟨1, ⟨.nm, env, h⟩, env', rfl, hs, hq⟩
theorem WP.exit {id : Nat} (hs : Sub env' env) (hq : Q (.ex id) env' h) : WP E hint (.exit id) env h Q := ⟨1, ⟨.ex id, env, h⟩, env', rfl, hs, hq⟩
theorem WP.ret (hq : Q .rt env h) : WP E hint .ret env h Q := ⟨1, ⟨.rt, env, h⟩, env, rfl, .refl _, hq⟩

/-- a block's end -/
def Blok (id : Nat) (Q : Ex → Regs → Heap → Prop) (ex : Ex) (e : Regs) (h : Heap) : Prop :=
  @Ex.rec (fun _ => Prop) (Q .nm e h) (fun i => ifb (Nat.beq i id) (Q .nm e h) (Q (.ex i) e h)) (Q .rt e h) ex
theorem Blok.nm {id : Nat} (h1 : Q .nm env h) : Blok id Q .nm env h := h1
theorem Blok.rt {id : Nat} (h1 : Q .rt env h) : Blok id Q .rt env h := h1
theorem Blok.here {id : Nat} (h1 : Q .nm env h) : Blok id Q (.ex id) env h := by
  show ifb (Nat.beq id id) _ _
  rw [Nat.beq_refl]; exact h1
theorem Blok.far {id i : Nat} (hb : Nat.beq i id = false) (h1 : Q (.ex i) env h) : Blok id Q (.ex i) env h := by
  show ifb (Nat.beq i id) _ _
  rw [hb]; exact h1

theorem WP.block {id : Nat} {c : Code} (w : WP E hint c env h (Blok id Q)) : WP E hint (.block id c) env h Q := by
  obtain ⟨n, ⟨ex, oe, oh⟩, e, h1, h2, h3⟩ := w
  cases ex with
  | nm =>
    refine ⟨n + 1, ⟨.nm, oe, oh⟩, e, ?_, h2, h3⟩
    show ob (exec E n hint c env h) (blockOut id) = _
    rw [h1]; rfl
  | rt =>
    refine ⟨n + 1, ⟨.rt, oe, oh⟩, e, ?_, h2, h3⟩
    show ob (exec E n hint c env h) (blockOut id) = _
    rw [h1]; rfl
  | ex i =>
    have h3' : ifb (Nat.beq i id) (Q .nm e oh) (Q (.ex i) e oh) := h3
    cases hb : Nat.beq i id with
    | true =>
      rw [hb] at h3'
      refine ⟨n + 1, ⟨.nm, oe, oh⟩, e, ?_, h2, h3'⟩
      show ob (exec E n hint c env h) (blockOut id) = _
      rw [h1]
      show ifb (Nat.beq i id) _ _ = _
      rw [hb]; rfl
    | false =>
      rw [hb] at h3'
      refine ⟨n + 1, ⟨.ex i, oe, oh⟩, e, ?_, h2, h3'⟩
      show ob (exec E n hint c env h) (blockOut id) = _
      rw [h1]
      show ifb (Nat.beq i id) _ _ = _
      rw [hb]; rfl

theorem WP.cond {x : Operand} {a b : Code} {t : Bool} (hv : opv x .nil env = some (.bool t)) (h1 : t = true → WP E hint a env h Q) (h2 : t = false → WP E hint b env h Q) : WP E hint (.cond x a b) env h Q := by
  cases t with
  | true =>
    obtain ⟨n, o, e, k1, k2, k3⟩ := h1 rfl
    refine ⟨n + 1, o, e, ?_, k2, k3⟩
    show ob (opv x .nil env) (fun v => ob (toBool v) fun t => ifb t (exec E n hint a env h) (exec E n hint b env h)) = _
    rw [hv]; exact k1
  | false =>
    obtain ⟨n, o, e, k1, k2, k3⟩ := h2 rfl
    refine ⟨n + 1, o, e, ?_, k2, k3⟩
    show ob (opv x .nil env) (fun v => ob (toBool v) fun t => ifb t (exec E n hint a env h) (exec E n hint b env h)) = _
    rw [hv]; exact k1

theorem WP.region_n (n : Nat) {id : Nat} {ops : Array Oper} {e : Regs} (hr : evOps ops.toList ops.toList E (exec E n) hint.keep .nil env h = some (env', h')) (hs : Sub e env') (hq : Q .nm e h') : WP E hint (.region id ops false) env h Q := by
  refine ⟨n + 1, ⟨.nm, env', h'⟩, e, ?_, hs, hq⟩
  show op2 (evOps ops.toList ops.toList E (exec E n) hint.keep .nil env h) (fun env h => some (⟨.nm, env, h⟩ : Out)) = _
  rw [hr]; rfl
theorem WP.region {id : Nat} {ops : Array Oper} (hr : evOps ops.toList ops.toList E R0 hint.keep .nil env h = some (env', h')) (hq : Q .nm env' h') : WP E hint (.region id ops false) env h Q := by
  obtain ⟨⟨e1, h1⟩, k1, k2, k3⟩ := NLe.ops (R0_le (exec E 0)) ops.toList ops.toList hint.keep .nil env env h (.refl _) _ hr
  cases k3
  exact WP.region_n 0 k1 k2 hq
theorem WP.sreg {id : Nat} {ops : Array Oper} {b : Code} (hr : evOps ops.toList ops.toList E R0 hint.keep .nil env h = some (env', h')) (hq : WP E hint b env' h' Q) : WP E hint (.seq (.region id ops false) b) env h Q :=
  .seq (.region hr hq)
/-- a region that calls code without a contract -/
theorem WP.region_call (n : Nat) {id : Nat} {ops : Array Oper} (hr : evOps ops.toList ops.toList E (exec E n) hint.keep .nil env h = some (env', h')) (hq : Q .nm env' h') : WP E hint (.region id ops false) env h Q :=
  WP.region_n n hr (.refl _) hq
theorem WP.region_draw {id : Nat} {ops : Array Oper} {hl : List HOp} (hd : hint.dr id = some hl) (hr : evDrawn ops.toList hl E R0 hint.keep env h = some (env', h')) (hq : Q .nm env' h') : WP E hint (.region id ops true) env h Q := by
  obtain ⟨⟨e1, h1⟩, k1, k2, k3⟩ := OLe.drawn (R0_le (exec E 0)) ops.toList hl hint.keep (.refl env) h _ hr
  cases k3
  refine ⟨1, ⟨.nm, e1, h'⟩, env', ?_, k2, hq⟩
  show op2 (ob (hint.dr id) fun hl => evDrawn ops.toList hl E (exec E 0) hint.keep env h) (fun env h => some (⟨.nm, env, h⟩ : Out)) = _
  rw [hd]
  show op2 (evDrawn ops.toList hl E (exec E 0) hint.keep env h) (fun env h => some (⟨.nm, env, h⟩ : Out)) = _
  rw [k1]; rfl

/-- a round's end -/
def Round {σ : Type} (regs : σ → Regs) (heap : σ → Heap) (inv : σ → Prop) (less : σ → Prop) (Q : Ex → Regs → Heap → Prop) (ex : Ex) (e : Regs) (h : Heap) : Prop :=
  @Ex.rec (fun _ => Prop) (∃ s', inv s' ∧ less s' ∧ Sub (regs s') e ∧ h = heap s') (fun i => Q (.ex i) e h) (Q .rt e h) ex
section
variable {σ : Type} {regs : σ → Regs} {heap : σ → Heap} {inv : σ → Prop} {less : σ → Prop}
theorem Round.nm (s' : σ) (h1 : inv s') (h2 : less s') (h3 : Sub (regs s') env) (h4 : h = heap s') : Round regs heap inv less Q .nm env h := ⟨s', h1, h2, h3, h4⟩
theorem Round.rt (w : Q .rt env h) : Round regs heap inv less Q .rt env h := w
theorem Round.ex {i : Nat} (w : Q (.ex i) env h) : Round regs heap inv less Q (.ex i) env h := w
end
theorem WP.loop {σ : Type} (regs : σ → Regs) (heap : σ → Heap) (inv : σ → Prop) (m : σ → Nat) {c : Code}
    (hb : ∀ s, inv s → WP E hint c (regs s) (heap s) (Round regs heap inv (fun s' => m s' < m s) Q))
    (s : σ) (h0 : inv s) (hs : Sub (regs s) env) (hh : h = heap s) : WP E hint (.loop c) env h Q := by
  subst hh
  refine WP.weaken ?_ hs
  clear hs
  generalize hm : m s = k
  induction k using Nat.strongRecOn generalizing s with
  | _ k ih =>
    obtain ⟨n, ⟨ex, oe, oh⟩, e, h1, h2, h3⟩ := hb s h0
    cases ex with
    | nm =>
      obtain ⟨s', q1, q2, q3, q4⟩ := h3
      have q4 : oh = heap s' := q4
      subst q4
      obtain ⟨n2, o2, e2, k1, k2, k3⟩ := ih (m s') (by omega) s' q1 rfl
      obtain ⟨o1', a1, a2, a3, a4⟩ := exec_mono E n (n + n2) (by omega) _ _ _ _ _ _ (.refl _) h1
      obtain ⟨o2', b1, b2, b3, b4⟩ := exec_mono E n2 (n + n2) (by omega) _ _ _ _ _ _ (q3.trans (h2.trans a4)) k1
      refine ⟨n + n2 + 1, o2', e2, ?_, k2.trans b4, by rw [b2, b3]; exact k3⟩
      show ob (exec E (n + n2) hint c (regs s) (heap s)) (seqOut (.loop c) (exec E (n + n2)) hint) = _
      rw [a1]
      obtain ⟨ex', oe', oh'⟩ := o1'
      cases a2; cases a3
      exact b1
    | ex i =>
      refine ⟨n + 1, ⟨.ex i, oe, oh⟩, e, ?_, h2, h3⟩
      show ob (exec E n hint c (regs s) (heap s)) (seqOut (.loop c) (exec E n) hint) = _
      rw [h1]; rfl
    | rt =>
      refine ⟨n + 1, ⟨.rt, oe, oh⟩, e, ?_, h2, h3⟩
      show ob (exec E n hint c (regs s) (heap s)) (seqOut (.loop c) (exec E n) hint) = _
      rw [h1]; rfl

theorem Sub.nil (e : Regs) : Sub .nil e := fun _ _ h => by cases h
theorem Sub.cons {t : Nat} {v : AV} {l e : Regs} (h1 : lk e t = some v) (h2 : Sub l e) : Sub (.cons t v l) e := fun u x q => by
  rw [lk_cons] at q
  split at q
  · cases q; rename_i hq; subst hq; exact h1
  · exact h2 u x q
end

/-- how a function ends that gives this -/
def Ends (fn : Func) (E : Env) (v : AV) (ex : Ex) (e : Regs) (h : Heap) : Prop := isEx ex = false ∧ ∃ vs bs, resVals fn.results.toList E h e = some vs ∧ resolve h 30 (one vs) = some (v, bs)
theorem Ends.mk {fn : Func} {E : Env} {v : AV} {ex : Ex} {e : Regs} {h : Heap} {vs : List AV} (h1 : isEx ex = false) (h2 : resVals fn.results.toList E h e = some vs) (h3 : ∃ bs, resolve h 30 (one vs) = some (v, bs)) : Ends fn E v ex e h :=
  let ⟨bs, h3⟩ := h3
  ⟨h1, vs, bs, h2, h3⟩

/-- a function whose body comes to this -/
theorem run_any {E : Env} {g : Nat} {fn : Func} {c : Code} {hint : Hint} {as : List AV} (R : AV → Prop) (e0 : Regs) (h1 : E.ins g = none) (h2 : E.orc g = none) (h3 : E.G g = some fn) (h4 : fn.body = some c) (h5 : E.hint g = some hint) (h6 : E.own g = true)
    (hs : Sub e0 (args0 hint.keep as 0)) (w0 : WP E hint c e0 heap0 (fun ex e h => ∃ v, R v ∧ Ends fn E v ex e h)) : ∃ v fuel, R v ∧ runI E fuel g as = some v := by
  obtain ⟨n, ⟨ex, oe, oh⟩, e, k1, k2, v, hv, k3, vs, bs, k4, k5⟩ := w0.weaken hs
  refine ⟨v, n, hv, ?_⟩
  have e1 : callF g E (exec E n) as heap0 (fun v h => op2 (resolve h 30 v) fun u _ => some (.cons 0 u .nil, h)) = some (.cons 0 v .nil, oh) := by
    show @Option.rec (Nat × Nat) (fun _ => Option Fin2) (@Option.rec (List AV → Option AV) (fun _ => Option Fin2) (callIn g E (exec E n) as heap0 _) (fun φ => callOrc φ g E (exec E n) as heap0 _) (E.orc g)) (fun zb => insertOp zb heap0 as _) (E.ins g) = _
    rw [h1, h2]
    show ob (E.G g) (fun fn => ob fn.body fun c => ob (E.hint g) fun hint => callBody c fn.results.toList hint (E.own g) E (exec E n) as heap0 _) = _
    rw [h3]
    show ob fn.body (fun c => ob (E.hint g) fun hint => callBody c fn.results.toList hint (E.own g) E (exec E n) as heap0 _) = _
    rw [h4]
    show ob (E.hint g) (fun hint => callBody c fn.results.toList hint (E.own g) E (exec E n) as heap0 _) = _
    rw [h5, h6]
    show ob (exec E n hint c (args0 hint.keep as 0) heap0) _ = _
    rw [k1]
    show ifb (isEx ex) none (ob (resVals fn.results.toList E oh oe) fun vs => closeResult true heap0.next oh (one vs) _) = _
    rw [k3, resVals_mono k2 E oh _ vs k4]
    show op2 (resolve oh 30 (one vs)) (fun u x => some (AL.cons 0 u AL.nil, oh)) = some (AL.cons 0 v AL.nil, oh)
    rw [k5]
    rfl
  show op2 (callF g E (exec E n) as heap0 _) _ = _
  rw [e1]
  rfl

theorem run_of {E : Env} {g : Nat} {fn : Func} {c : Code} {hint : Hint} {as : List AV} {v : AV} (e0 : Regs) (h1 : E.ins g = none) (h2 : E.orc g = none) (h3 : E.G g = some fn) (h4 : fn.body = some c) (h5 : E.hint g = some hint) (h6 : E.own g = true)
    (hs : Sub e0 (args0 hint.keep as 0)) (w0 : WP E hint c e0 heap0 (Ends fn E v)) : ∃ fuel, runI E fuel g as = some v := by
  obtain ⟨v', n, rfl, hn⟩ := run_any (· = v) e0 h1 h2 h3 h4 h5 h6 hs (w0.mono fun ex e h q => ⟨v, rfl, q⟩)
  exact ⟨n, hn⟩

theorem fact_run {P : Program} {E : Env} (hE : EnvOk P E) {g : Nat} {φ : List AV → Option AV} (he : ∃ fn, P.funcs[g]? = some fn ∧ fn.name ≠ "runtime.NumGoroutine" ∧ fn.body.isSome = true) (h : ∀ as v, φ as = some v → ∃ fuel, runI E fuel g as = some v) : Fact P g φ where
  enters := he
  gives := fun as v e => by
    obtain ⟨n, hn⟩ := h as v e
    exact (runI_gives hE hn).1
end Go.Den

namespace Go.Den
open Go

variable [Val]

/-! ### single operations at values that are not literal -/
theorem lenV_sl {nn : Bool} {z : Nat} {xs : List Row} : lenV (.sl nn z xs) = some (.int .i64 (xs.length : Int)) := by
  show ob (some (len xs)) (fun n => some (mkInt .i64 (.ofNat n))) = _
  rw [len_eq]; show some (mkInt .i64 (Int.ofNat xs.length)) = _; rw [mkInt_eq]; rfl
theorem lenV_ref {b z off n : Nat} {cap : Option Nat} : lenV (.ref b z off n cap) = some (.int .i64 (n : Int)) := by
  show some (mkInt .i64 (Int.ofNat n)) = _; rw [mkInt_eq]; rfl
theorem lenV_str {l : List Nat} : lenV (.str l) = some (.int .i64 (l.length : Int)) := by
  show ob (some (len l)) (fun n => some (mkInt .i64 (.ofNat n))) = _
  rw [len_eq]; show some (mkInt .i64 (Int.ofNat l.length)) = _; rw [mkInt_eq]; rfl
theorem lenV_nil : lenV .nil = some (.int .i64 0) := by
  show some (mkInt .i64 (Int.ofNat 0)) = _; rw [mkInt_eq]; rfl

theorem bin_add {a b : Int} {ti : Option TI} (h : -9223372036854775808 ≤ a + b ∧ a + b ≤ 9223372036854775807) : binop3 (.int .i64 a) .add (.int .i64 b) ti = some (.int .i64 (a + b)) := by
  show orElseV (some (mkInt .i64 (wrapF .i64 (a + b)))) _ = _
  rw [mkInt_eq, wrapF_eq, IntKind.wrap_i64_small h.1 h.2]; rfl
theorem bin_sub {a b : Int} {ti : Option TI} (h : -9223372036854775808 ≤ a - b ∧ a - b ≤ 9223372036854775807) : binop3 (.int .i64 a) .sub (.int .i64 b) ti = some (.int .i64 (a - b)) := by
  show orElseV (some (mkInt .i64 (wrapF .i64 (a - b)))) _ = _
  rw [mkInt_eq, wrapF_eq, IntKind.wrap_i64_small h.1 h.2]; rfl
theorem bin_mul {a b : Int} {ti : Option TI} (h : -9223372036854775808 ≤ a * b ∧ a * b ≤ 9223372036854775807) : binop3 (.int .i64 a) .mul (.int .i64 b) ti = some (.int .i64 (a * b)) := by
  show orElseV (some (mkInt .i64 (wrapF .i64 (a * b)))) _ = _
  rw [mkInt_eq, wrapF_eq, IntKind.wrap_i64_small h.1 h.2]; rfl

section
variable {k : IntKind} {a b : Int} {ti : Option TI}
theorem kindBeq_refl (k : IntKind) : kindBeq k k = true := by cases k <;> rfl
theorem bin_same (op : BinOp) (hs : isShift op = false) : binop3 (.int k a) op (.int k b) ti = orElseV (binInt op k a b) (orElseV (symBin (.int k a) op (.int k b)) (aggBin (.int k a) op (.int k b) ti)) := by
  show orElseV (ifb (isShift op) _ (ifb (kindBeq k k) (binInt op k a b) none)) _ = _
  rw [hs, kindBeq_refl]; rfl
theorem bin_lss : binop3 (.int k a) .lss (.int k b) ti = some (.bool (decide (a < b))) := by
  rw [bin_same _ rfl]; show some (AV.bool (intBlt a b)) = _; rw [intBlt_eq]
theorem bin_gtr : binop3 (.int k a) .gtr (.int k b) ti = some (.bool (decide (b < a))) := by
  rw [bin_same _ rfl]; show some (AV.bool (intBlt b a)) = _; rw [intBlt_eq]
theorem bin_leq : binop3 (.int k a) .leq (.int k b) ti = some (.bool (decide (a ≤ b))) := by
  rw [bin_same _ rfl]; show some (AV.bool (bnot (intBlt b a))) = _; rw [intBlt_eq, bnot_eq]
  by_cases h : b < a
  · have h2 : ¬ a ≤ b := by omega
    simp [h, h2]
  · have h2 : a ≤ b := by omega
    simp [h, h2]
theorem bin_geq : binop3 (.int k a) .geq (.int k b) ti = some (.bool (decide (b ≤ a))) := by
  rw [bin_same _ rfl]; show some (AV.bool (bnot (intBlt a b))) = _; rw [intBlt_eq, bnot_eq]
  by_cases h : a < b
  · have h2 : ¬ b ≤ a := by omega
    simp [h, h2]
  · have h2 : b ≤ a := by omega
    simp [h, h2]
theorem bin_eql : binop3 (.int k a) .eql (.int k b) ti = some (.bool (decide (a = b))) := by
  rw [bin_same _ rfl]; show some (AV.bool (intBeq a b)) = _; rw [intBeq_eq]; rfl
theorem bin_neq : binop3 (.int k a) .neq (.int k b) ti = some (.bool (decide (¬ a = b))) := by
  rw [bin_same _ rfl]; show some (AV.bool (bnot (intBeq a b))) = _; rw [intBeq_eq, bnot_eq]
  by_cases h : a = b <;> simp [h]
end

theorem listBeq_refl : ∀ l : List Nat, listBeq l l = true
  | [] => rfl
  | a :: l => by show ifb (Nat.beq a a) (listBeq l l) false = true; rw [Nat.beq_refl]; exact listBeq_refl l
theorem listBeq_iff (a b : List Nat) : listBeq a b = true ↔ a = b := by
  induction a generalizing b with
  | nil => cases b with
    | nil => exact ⟨fun _ => rfl, fun _ => rfl⟩
    | cons y b => constructor <;> (intro h; cases h)
  | cons x a ih => cases b with
    | nil => constructor <;> (intro h; cases h)
    | cons y b =>
      show ifb (Nat.beq x y) (listBeq a b) false = true ↔ _
      cases hb : Nat.beq x y with
      | true => have := Nat.eq_of_beq_eq_true hb; subst this; simp [ifb, ih]
      | false => simp only [ifb]; constructor
                 · intro h; cases h
                 · intro h; cases h; rw [Nat.beq_refl] at hb; cases hb
theorem listBeq_dec (a b : List Nat) : listBeq a b = decide (a = b) := by
  by_cases h : a = b
  · subst h; simp [listBeq_refl]
  · cases hq : listBeq a b with
    | true => exact absurd ((listBeq_iff a b).1 hq) h
    | false => simp [h]
theorem bin_seql {a b : List Nat} {ti : Option TI} : binop3 (.str a) .eql (.str b) ti = some (.bool (decide (a = b))) := by
  show some (AV.bool (listBeq a b)) = _; rw [listBeq_dec]
theorem bin_sneq {a b : List Nat} {ti : Option TI} : binop3 (.str a) .neq (.str b) ti = some (.bool (decide (¬ a = b))) := by
  show some (AV.bool (bnot (listBeq a b))) = _; rw [listBeq_dec, bnot_eq]
  by_cases h : a = b <;> simp [h]

theorem index_sl {nn : Bool} {z n : Nat} {xs : List Row} {cs : Row} (h : xs[n]? = some cs) : indexAddrOp (.sl nn z xs) z n = some (.rp cs) := by
  show ifb (Nat.beq z z) (ob (nth xs n) fun cs => some (AV.rp cs)) none = _
  rw [Nat.beq_refl, nth_eq, h]; rfl
theorem index_ref {b z off n m : Nat} {cap : Option Nat} (h : n < m) : indexAddrOp (.ref b z off m cap) z n = some (.ptr b (off + n) 0) := by
  show ifb (band (Nat.beq z z) (Nat.blt n m)) (forceNat (Nat.add off n) fun m => some (AV.ptr b m 0)) none = _
  rw [Nat.beq_refl, blt_eq, forceNat_eq]; simp [h, band, ifb]
theorem index_str {l : List Nat} {n c : Nat} (h : l[n]? = some c) : nth l n = some c := by rw [nth_eq]; exact h
theorem elems_sl {nn : Bool} {z : Nat} {xs : List Row} {h : Heap} : elems (.sl nn z xs) h z = some xs := by
  show ifb (Nat.beq z z) (some xs) none = _; rw [Nat.beq_refl]; rfl
theorem elems_ref_eq {b z off n : Nat} {cap : Option Nat} {h : Heap} {els : List Row} {g : Bool} {fz : Nat} (hb : h.get b = some ⟨els, g, fz⟩) (hn : off + n ≤ els.length) : elems (.ref b z off n cap) h z = some ((els.drop off).take n) := by
  show ifb (Nat.beq z z) (elemsRef h b off n) none = _
  rw [Nat.beq_refl]
  show elemsRef h b off n = _
  cases n with
  | zero => simp; rfl
  | succ n =>
    show openBlk h b (fun els _ _ => takeK (dropL els off) (n + 1) fun l => ifb (Nat.beq (len l) (n + 1)) (some l) none) = _
    unfold openBlk
    rw [hb]
    show takeK (dropL els off) (n + 1) (fun l => ifb (Nat.beq (len l) (n + 1)) (some l) none) = _
    rw [takeK_eq, dropL_eq, len_eq, List.length_take, List.length_drop, Nat.min_eq_left (by omega), Nat.beq_refl]; rfl
theorem elems_rows {b z off n : Nat} {cap : Option Nat} {h : Heap} {els : List Row} {g : Bool} {fz : Nat} (rows : List Row) (hb : h.get b = some ⟨els, g, fz⟩) (hr : (els.drop off).take n = rows) (hn : off + n ≤ els.length) : elems (.ref b z off n cap) h z = some rows := by
  rw [elems_ref_eq hb hn, hr]
theorem open_of {β : Type} {h : Heap} {b : Nat} {els : List Row} {g : Bool} {fz : Nat} {f : List Row → Bool → Nat → Option β} {r : Option β} (hb : h.get b = some ⟨els, g, fz⟩) (e : f els g fz = r) : openBlk h b f = r := by
  unfold openBlk; rw [hb]; exact e
theorem get_new_same {h : Heap} {k : Blk} : (hpush h k).get h.next = some k := by rw [get_hpush, sete_same]
theorem get_new_ne {h : Heap} {k : Blk} {b : Nat} (hb : b ≠ h.next) : (hpush h k).get b = h.get b := by rw [get_hpush, sete_ne _ _ hb]
theorem get_set_same {h : Heap} {b : Nat} {k k0 : Blk} (hb : h.get b = some k0) : (hset h b k).get b = some k := by rw [get_hset h b k k0 hb, sete_same]
theorem get_set_ne {h : Heap} {b c : Nat} {k k0 : Blk} (hb : h.get b = some k0) (hc : c ≠ b) : (hset h b k).get c = h.get c := by rw [get_hset h b k k0 hb, sete_ne _ _ hc]
theorem get_kill_ne {h : Heap} {b c : Nat} (hc : c ≠ b) : (hkill h b).get c = h.get c := by rw [get_hkill, sete_ne _ _ hc]

theorem beq_tt {x : Bool} (h : x = true) : boolBeq x true = true := by subst h; rfl
theorem beq_tf {x : Bool} (h : x = false) : boolBeq x true = false := by subst h; rfl
theorem beq_ff {x : Bool} (h : x = false) : boolBeq x false = true := by subst h; rfl
theorem beq_ft {x : Bool} (h : x = true) : boolBeq x false = false := by subst h; rfl
theorem mm_max {k : IntKind} {a b : Int} : mm2 true (.int k a) (.int k b) = some (.int k (max a b)) := by
  show ifb (kindBeq k k) (some (AV.int k (ifb true (ifb (intBlt a b) b a) _))) none = _
  rw [kindBeq_refl, intBlt_eq]
  show some (AV.int k (ifb (decide (a < b)) b a)) = _
  by_cases h : a < b
  · have : max a b = b := by omega
    simp [h, ifb, this]
  · have : max a b = a := by omega
    simp [h, ifb, this]
theorem mm_min {k : IntKind} {a b : Int} : mm2 false (.int k a) (.int k b) = some (.int k (min a b)) := by
  show ifb (kindBeq k k) (some (AV.int k (ifb false _ (ifb (intBlt b a) b a)))) none = _
  rw [kindBeq_refl, intBlt_eq, intBlt_eq]
  show some (AV.int k (ifb (decide (b < a)) b a)) = _
  by_cases h : b < a
  · have : min a b = b := by omega
    simp [h, ifb, this]
  · have : min a b = a := by omega
    simp [h, ifb, this]
theorem bound_int {x : Operand} {l e : Regs} {k : IntKind} {a : Int} (m : Nat) (h1 : opv x l e = some (.int k a)) (h2 : a = (m : Int)) : bound (some x) l e = some (some m) := by
  subst h2
  show ob (opv x l e) (fun w => ob (natOf w) fun n => some (some n)) = _
  rw [h1]; rfl
theorem slice_str {l : List Nat} {i : TI} {h : Heap} {a b : Nat} (hi : isStrTd i = true) (h1 : a ≤ b) (h2 : b ≤ l.length) : sliceOp (.str l) i h (some a) (some b) = some (.str ((l.take b).drop a)) := by
  show ifb (isStrTd i) (cutK l a b .str) none = _
  rw [hi]
  refine ifb_t (b := band (Nat.ble a b) (Nat.ble b (len l))) ?_ ?_
  · rw [len_eq, Nat.ble_eq.mpr h1, Nat.ble_eq.mpr h2]; rfl
  · rw [takeK_eq, dropL_eq]
theorem slice_ref {k z off n : Nat} {cap : Option Nat} {i : TI} {h : Heap} {a b : Nat} (hi : isSliceTd i = true) (hz : Nat.beq (szTd i) z = true) (lo hi' : Option Nat) (ha : orElse lo 0 = a) (hb : orElse hi' n = b) (h1 : a ≤ b) (h2 : b ≤ n) :
    sliceOp (.ref k z off n cap) i h lo hi' = some (.ref k z (off + a) (b - a) (capLess cap a)) := by
  show ifb (band (isSliceTd i) (Nat.beq (szTd i) z)) (forceNat (orElse hi' n) fun b => forceNat (orElse lo 0) fun a => ifb (band (Nat.ble a b) (bor (Nat.ble b n) (capFits h k off b cap))) (forceNat (off + a) fun o => forceNat (b - a) fun n => some (AV.ref k z o n (capLess cap a))) none) none = _
  rw [hi, hz, ha, hb, forceNat_eq, forceNat_eq]
  refine ifb_t (b := band true true) rfl ?_
  refine ifb_t ?_ ?_
  · rw [Nat.ble_eq.mpr h1, Nat.ble_eq.mpr h2]; rfl
  · rw [forceNat_eq, forceNat_eq]

theorem mapOpt_self {rec : AV → Option (AV × List Nat)} : ∀ {l : Row}, (∀ v ∈ l, rec v = some (v, [])) → mapOpt rec l = some (l, [])
  | [], _ => rfl
  | x :: l, h => by
    show op2 (rec x) (fun y bs => op2 (mapOpt rec l) fun r cs => appK bs cs fun bs => some (y :: r, bs)) = _
    rw [h x (List.mem_cons_self ..), mapOpt_self fun v hv => h v (List.mem_cons_of_mem _ hv)]
    rfl
theorem mapRows_self {rec : AV → Option (AV × List Nat)} : ∀ {l : List Row}, (∀ r ∈ l, ∀ v ∈ r, rec v = some (v, [])) → mapRows rec l = some (l, [])
  | [], _ => rfl
  | x :: l, h => by
    show op2 (mapOpt rec x) (fun y bs => op2 (mapRows rec l) fun r cs => appK bs cs fun bs => some (y :: r, bs)) = _
    rw [mapOpt_self (h x (List.mem_cons_self ..)), mapRows_self fun r hr => h r (List.mem_cons_of_mem _ hr)]
    rfl
theorem resolve_ref_0 {h : Heap} {k b z off : Nat} {cap : Option Nat} : resolve h (k + 1) (.ref b z off 0 cap) = some (.sl true z [], []) := rfl
theorem resolve_ref {h : Heap} {k b z off n : Nat} {cap : Option Nat} {els : List Row} {g : Bool} {fz : Nat} (rows : List Row) (hn0 : 0 < n) (hb : h.get b = some ⟨els, g, fz⟩) (hr : (els.drop off).take n = rows) (hn : off + n ≤ els.length)
    (hs : ∀ r ∈ rows, ∀ v ∈ r, resolve h k v = some (v, [])) : resolve h (k + 1) (.ref b z off n cap) = some (.sl true z rows, [b]) := by
  show ifb (Nat.beq n 0) (some (AV.sl true z [], [])) (ob (elemsRef h b off n) fun xs => op2 (mapRows (resolve h k) xs) fun ys bs => some (AV.sl true z ys, b :: bs)) = _
  rw [beq_ne (by omega)]
  have h1 : elemsRef h b off n = some rows := by
    have := elems_rows (z := z) (cap := cap) rows hb hr hn
    have h3 : elems (.ref b z off n cap) h z = elemsRef h b off n := by
      show ifb (Nat.beq z z) (elemsRef h b off n) none = _
      rw [Nat.beq_refl]; rfl
    rw [← h3, this]
  refine ifb_f rfl (ob_of h1 ?_)
  rw [mapRows_self hs]; rfl
theorem resolve_tup2 {h : Heap} {k : Nat} {a b a' b' : AV} {xs ys : List Nat} (h1 : resolve h k a = some (a', xs)) (h2 : resolve h k b = some (b', ys)) : resolve h (k + 1) (.tup [a, b]) = some (.tup [a', b'], xs ++ (ys ++ [])) := by
  show op2 (mapOpt (resolve h k) [a, b]) (fun ds bs => some (AV.tup ds, bs)) = _
  refine op2_of (a := [a', b']) (b := xs ++ (ys ++ [])) ?_ rfl
  show op2 (resolve h k a) (fun y bs => op2 (op2 (resolve h k b) fun y bs => op2 (some ([], [])) fun r cs => appK bs cs fun bs => some (y :: r, bs)) fun r cs => appK bs cs fun bs => some (y :: r, bs)) = _
  rw [h1, h2]
  refine op2_of rfl (op2_of (a := [b']) (b := ys ++ []) ?_ ?_)
  · refine op2_of rfl (op2_of rfl ?_)
    rw [appK_eq]
  · rw [appK_eq]

/-- append onto nothing, or onto a full row -/
theorem app_nil {h : Heap} {sz bytes : Nat} {x : Row} {xs : List Row} {f : K} {r : Option Fin2} (hb : (xs.length + 1) * bytes ≤ 140737488355328) (e : f (.ref h.next sz 0 (xs.length + 1) none) (hpush h ⟨x :: xs, true, 0⟩) = r) :
    appendOp h sz bytes .nil (x :: xs) f = r := by
  show freshRow h sz bytes [] (x :: xs) 0 f = r
  unfold freshRow
  rw [appK_eq, forceNat_eq, len_eq]
  have : Nat.ble (([] ++ x :: xs : List Row).length * bytes) 140737488355328 = true := Nat.ble_eq.mpr (by simpa using hb)
  rw [this]
  refine ifb_t rfl ?_
  rw [newBlk_eq]; simpa using e
theorem app_none {h : Heap} {sz bytes : Nat} {s : AV} {f : K} {r : Option Fin2} (hs : isSl s = true) (e : f s h = r) : appendOp h sz bytes s [] f = r := by
  show ifb (isSl s) (f s h) none = r
  rw [hs]; exact e
theorem app_cap {h : Heap} {sz bytes b off n c : Nat} {x : Row} {xs els : List Row} {g : Bool} {fz : Nat} {f : K} {r : Option Fin2} (hc : c < n + (xs.length + 1)) (hg : h.get b = some ⟨els, g, fz⟩) (hn : off + n ≤ els.length)
    (hb : (n + (xs.length + 1)) * bytes ≤ 140737488355328) (e : f (.ref h.next sz 0 (n + (xs.length + 1)) none) (hpush h ⟨(els.drop off).take n ++ x :: xs, true, 0⟩) = r) :
    appendOp h sz bytes (.ref b sz off n (some c)) (x :: xs) f = r := by
  show ifb (Nat.beq sz sz) (appendRef h bytes b sz off n (some c) (x :: xs) f) none = r
  rw [Nat.beq_refl]
  show ifb (Nat.ble (n + len (x :: xs)) c) _ (ob (elemsRef h b off n) fun olds => freshRow h sz bytes olds (x :: xs) 0 f) = r
  have h1 : Nat.ble (n + len (x :: xs)) c = false := by
    rw [len_eq]
    cases hq : Nat.ble (n + (x :: xs).length) c with
    | false => rfl
    | true => have := Nat.le_of_ble_eq_true hq; simp at this; omega
  rw [h1]
  show ob (elemsRef h b off n) (fun olds => freshRow h sz bytes olds (x :: xs) 0 f) = r
  have h2 : elemsRef h b off n = some ((els.drop off).take n) := by
    have := elems_ref_eq (b := b) (z := sz) (off := off) (n := n) (cap := some c) hg hn
    have h3 : elems (.ref b sz off n (some c)) h sz = elemsRef h b off n := by
      show ifb (Nat.beq sz sz) (elemsRef h b off n) none = _
      rw [Nat.beq_refl]; rfl
    rw [← h3, this]
  rw [h2]
  show freshRow h sz bytes ((els.drop off).take n) (x :: xs) 0 f = r
  unfold freshRow
  rw [appK_eq, forceNat_eq, len_eq]
  have hl : ((els.drop off).take n ++ x :: xs).length = n + (xs.length + 1) := by
    rw [List.length_append, List.length_take, List.length_drop, Nat.min_eq_left (by omega)]; rfl
  rw [hl]
  have : Nat.ble ((n + (xs.length + 1)) * bytes) 140737488355328 = true := Nat.ble_eq.mpr hb
  rw [this]
  refine ifb_t rfl ?_
  rw [newBlk_eq]; exact e
/-- onto a row with no room told: it is full -/
theorem app_grow {h : Heap} {sz bytes b off n : Nat} {x : Row} {xs els : List Row} {g : Bool} {fz : Nat} {f : K} {r : Option Fin2} (hg : h.get b = some ⟨els, g, fz⟩) (hn : off + n = els.length) (hz : fz ≤ off + n)
    (hb : (n + (xs.length + 1)) * bytes ≤ 140737488355328) (e : f (.ref h.next sz 0 (n + (xs.length + 1)) none) (hpush (hkill h b) ⟨els.drop off ++ x :: xs, true, fz - off⟩) = r) :
    appendOp h sz bytes (.ref b sz off n none) (x :: xs) f = r := by
  show ifb (Nat.beq sz sz) (appendRef h bytes b sz off n none (x :: xs) f) none = r
  rw [Nat.beq_refl]
  refine ifb_t rfl ?_
  unfold appendRef
  refine open_of hg ?_
  have h1 : Nat.ble (Nat.add (Nat.add off n) (len (x :: xs))) (len els) = false := by
    rw [len_eq, len_eq]
    cases hq : Nat.ble (Nat.add (Nat.add off n) (x :: xs).length) els.length with
    | false => rfl
    | true =>
      have h3 := Nat.le_of_ble_eq_true hq
      have h4 : off + n + (xs.length + 1) ≤ els.length := h3
      omega
  rw [h1]
  show ifb (Nat.ble fz (off + n)) _ none = r
  rw [Nat.ble_eq.mpr hz]
  show ob (elemsRef h b off n) _ = r
  have h2 : elemsRef h b off n = some (els.drop off) := by
    have := elems_ref_eq (b := b) (z := sz) (off := off) (n := n) (cap := none) hg (by omega)
    have h3 : elems (.ref b sz off n none) h sz = elemsRef h b off n := by
      show ifb (Nat.beq sz sz) (elemsRef h b off n) none = _
      rw [Nat.beq_refl]; rfl
    rw [← h3, this, List.take_of_length_le (by rw [List.length_drop]; omega)]
  rw [h2]
  refine ob_of rfl ?_
  rw [killBlk_eq]
  unfold freshRow
  rw [appK_eq, forceNat_eq, len_eq]
  have hl : (els.drop off ++ x :: xs).length = n + (xs.length + 1) := by
    rw [List.length_append, List.length_drop]; simp; omega
  rw [hl]
  have : Nat.ble ((n + (xs.length + 1)) * bytes) 140737488355328 = true := Nat.ble_eq.mpr hb
  rw [this]
  refine ifb_t rfl ?_
  rw [newBlk_eq]; exact e
/-- within the room of the row -/
theorem app_in {h : Heap} {sz bytes b off n : Nat} {x : Row} {xs els : List Row} {g : Bool} {fz : Nat} {f : K} {r : Option Fin2} (hg : h.get b = some ⟨els, g, fz⟩) (hn : off + n + (xs.length + 1) ≤ els.length) (hz : fz ≤ off + n)
    (e : f (.ref b sz off (n + (xs.length + 1)) none) (hset h b ⟨putAt els (off + n) (x :: xs), g, fz⟩) = r) :
    appendOp h sz bytes (.ref b sz off n none) (x :: xs) f = r := by
  show ifb (Nat.beq sz sz) (appendRef h bytes b sz off n none (x :: xs) f) none = r
  rw [Nat.beq_refl]
  refine ifb_t rfl ?_
  unfold appendRef
  refine open_of hg ?_
  have h1 : Nat.ble (Nat.add (Nat.add off n) (len (x :: xs))) (len els) = true := by
    rw [len_eq, len_eq]; exact Nat.ble_eq.mpr hn
  rw [h1]
  show writeRow h b (off + n) (x :: xs) _ = r
  unfold writeRow
  refine open_of hg ?_
  have h2 : bor (Nat.blt (off + n) fz) (Nat.blt (len els) (off + n + len (x :: xs))) = false := by
    rw [len_eq, len_eq, blt_eq, blt_eq, bor_eq]
    have : ¬ (off + n < fz) := by omega
    have h3 : ¬ (els.length < off + n + (x :: xs).length) := by simp; omega
    simp only [this, h3]; rfl
  rw [h2]
  show putAtK els (off + n) (x :: xs) _ = r
  rw [putAtK_eq]
  show setBlk _ _ _ _ = r
  rw [setBlk_eq, forceNat_eq, len_eq]; exact e
end Go.Den
