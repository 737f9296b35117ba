/- A part of a machine that computes what the program computes, and of the proof that it does -/
import Derived.Test.YtngjccjmhlhlbaaGreatDenW
import Derived.Orders
set_option linter.unusedVariables false
set_option linter.unusedSimpArgs false
set_option linter.unusedSectionVars false
namespace Go.Den
open Go

variable [Val]

/-! ### equal values -/
theorem listBeq_true {x y : List Nat} (h : listBeq x y = true) : x = y := by rw [listBeq_eq] at h; simpa using h
theorem intBeq_true {x y : Int} (h : intBeq x y = true) : x = y := by rw [intBeq_eq] at h; simpa using h
theorem boolBeq_true {x y : Bool} (h : boolBeq x y = true) : x = y := by rw [boolBeq_eq] at h; simpa using h
theorem ifb_and {b c : Bool} (h : ifb b c false = true) : b = true ∧ c = true := by cases b <;> simp_all [ifb]

theorem eqAV_true (x : AV) : ∀ y, eqAV x y = true → x = y := by
  refine AV.rec (motive_1 := fun x => ∀ y, eqAV x y = true → x = y) (motive_2 := fun l => ∀ m, eqRows l m = true → l = m) (motive_3 := fun l => ∀ m, eqRow l m = true → l = m)
    ?_ ?_ ?_ ?_ ?_ ?_ ?_ ?_ ?_ ?_ ?_ ?_ ?_ ?_ ?_ ?_ ?_ ?_ ?_ ?_ x
  · intro k n y h
    cases y <;> first | exact absurd h Bool.false_ne_true | skip
    obtain ⟨h1, h2⟩ := ifb_and h
    rw [kindBeq_eq h1, intBeq_true h2]
  · intro b y h
    cases y <;> first | exact absurd h Bool.false_ne_true | skip
    rw [boolBeq_true h]
  · intro l y h
    cases y <;> first | exact absurd h Bool.false_ne_true | skip
    rw [listBeq_true h]
  · intro y h; cases y <;> first | exact absurd h Bool.false_ne_true | rfl
  · intro y h; cases y <;> first | exact absurd h Bool.false_ne_true | rfl
  · intro y h; cases y <;> first | exact absurd h Bool.false_ne_true | rfl
  · intro nn z xs ih y h
    cases y <;> first | exact absurd h Bool.false_ne_true | skip
    obtain ⟨h1, h2⟩ := ifb_and h
    obtain ⟨h3, h4⟩ := ifb_and h2
    rw [boolBeq_true h1, beq_eq_of h3, ih _ h4]
  · intro b z off n cap y h
    cases y <;> first | exact absurd h Bool.false_ne_true | skip
    rename_i b' z' off' n' cap'
    obtain ⟨h1, h2⟩ := ifb_and h
    obtain ⟨h3, h4⟩ := ifb_and h2
    obtain ⟨h5, h6⟩ := ifb_and h4
    obtain ⟨h7, h8⟩ := ifb_and h6
    have hc : cap = cap' := by
      cases cap with
      | none => cases cap' with
        | none => rfl
        | some _ => exact absurd h8 Bool.false_ne_true
      | some p => cases cap' with
        | none => exact absurd h8 Bool.false_ne_true
        | some q => rw [beq_eq_of (show Nat.beq p q = true from h8)]
    rw [beq_eq_of h1, beq_eq_of h3, beq_eq_of h5, beq_eq_of h7, hc]
  · intro b i j y h
    cases y <;> first | exact absurd h Bool.false_ne_true | skip
    obtain ⟨h1, h2⟩ := ifb_and h
    obtain ⟨h3, h4⟩ := ifb_and h2
    rw [beq_eq_of h1, beq_eq_of h3, beq_eq_of h4]
  · intro cs ih y h
    cases y <;> first | exact absurd h Bool.false_ne_true | skip
    rw [ih _ h]
  · intro cs ih y h
    cases y <;> first | exact absurd h Bool.false_ne_true | skip
    rw [ih _ h]
  · intro cs ih y h
    cases y <;> first | exact absurd h Bool.false_ne_true | skip
    rw [ih _ h]
  · intro g cs ih y h
    cases y <;> first | exact absurd h Bool.false_ne_true | skip
    obtain ⟨h1, h2⟩ := ifb_and h
    rw [beq_eq_of h1, ih _ h2]
  · intro b y h
    cases y <;> first | exact absurd h Bool.false_ne_true | skip
    rw [beq_eq_of h]
  · intro y h; cases y <;> first | exact absurd h Bool.false_ne_true | rfl
  · intro s y h
    cases y <;> first | exact absurd h Bool.false_ne_true | skip
    rename_i t
    cases s with
    | int i o lo hi =>
      cases t with
      | int j p l u =>
        obtain ⟨h1, h2⟩ := ifb_and (show ifb (Nat.beq i j) (ifb (intBeq o p) (ifb (intBeq lo l) (intBeq hi u) false) false) false = true from h)
        obtain ⟨h3, h4⟩ := ifb_and h2
        obtain ⟨h5, h6⟩ := ifb_and h4
        rw [beq_eq_of h1, intBeq_true h3, intBeq_true h5, intBeq_true h6]
      | str => cases h
    | str pre i lo hi a b =>
      cases t with
      | int => cases h
      | str qre j l u c d =>
        obtain ⟨h1, h2⟩ := ifb_and (show ifb (listBeq pre qre) (ifb (Nat.beq i j) (ifb (optStrBeq lo l) (ifb (optStrBeq hi u) (ifb (Nat.beq a c) (Nat.beq b d) false) false) false) false) false = true from h)
        obtain ⟨h3, h4⟩ := ifb_and h2
        obtain ⟨h5, h6⟩ := ifb_and h4
        obtain ⟨h7, h8⟩ := ifb_and h6
        obtain ⟨h9, h10⟩ := ifb_and h8
        have os : ∀ {x y : Option (List Nat)}, optStrBeq x y = true → x = y := by
          intro x y h
          cases x <;> cases y <;> first | rfl | cases h | skip
          rw [listBeq_true h]
        rw [listBeq_true h1, beq_eq_of h3, os h5, os h7, beq_eq_of h9, beq_eq_of h10]
  · intro m h; cases m with
    | nil => rfl
    | cons _ _ => exact absurd h Bool.false_ne_true
  · intro a l ih1 ih2 m h; cases m with
    | nil => exact absurd h Bool.false_ne_true
    | cons b m =>
      obtain ⟨h1, h2⟩ := ifb_and h
      rw [ih1 _ h1, ih2 _ h2]
  · intro m h; cases m with
    | nil => rfl
    | cons _ _ => exact absurd h Bool.false_ne_true
  · intro a l ih1 ih2 m h; cases m with
    | nil => exact absurd h Bool.false_ne_true
    | cons b m =>
      obtain ⟨h1, h2⟩ := ifb_and h
      rw [ih1 _ h1, ih2 _ h2]

/-! ### the run in the text's order -/
structure St where
  loc : Regs
  env : Regs
  pd : Heap
  h : Heap
  cks : List CI
  eps : List Heap

/-- one object that has been made is put into the heap -/
noncomputable def mv1 (id : Nat) (pd h : Heap) : Heap × Heap :=
  match lk pd.blks id with
  | some k => (⟨pd.next, del pd.blks id, pd.maps, pd.mark, pd.log⟩, ⟨h.next, .cons id k h.blks, h.maps, h.mark, h.log⟩)
  | none => match lk pd.maps id with
    | some l => (⟨pd.next, pd.blks, del pd.maps id, pd.mark, pd.log⟩, ⟨h.next, h.blks, .cons id l h.maps, h.mark, h.log⟩)
    | none => (pd, h)
noncomputable def mvL (base : Nat) : List Nat → Heap → Heap → Heap × Heap
  | [], pd, h => (pd, h)
  | i :: ad, pd, h => mvL base ad (mv1 (base + i) pd h).1 (mv1 (base + i) pd h).2
theorem move1_eq (id : Nat) (pd h : Heap) (f : Heap → Heap → Option Fin2) : move1 id pd h f = f (mv1 id pd h).1 (mv1 id pd h).2 := by
  unfold move1 mv1
  cases lk pd.blks id with
  | some k => exact delK_eq _ _ _
  | none => cases lk pd.maps id with
    | some l => exact delK_eq _ _ _
    | none => rfl
theorem moveL_eq (base : Nat) : ∀ (ad : List Nat) (pd h : Heap) (f : Heap → Heap → Option Fin2), moveL ad base pd h f = f (mvL base ad pd h).1 (mvL base ad pd h).2
  | [], pd, h, f => rfl
  | i :: ad, pd, h, f => by
    change forceNat (base + i) (fun id => move1 id pd h fun pd h => moveL ad base pd h f) = _
    rw [forceNat_eq, move1_eq, moveL_eq base ad]; rfl

def IsEff (ho : HOp) : Prop := ho.cls ≠ 0 ∧ ho.cls ≠ 1 ∧ ho.cls ≠ 2

section
variable (P : Program) (E : Env) (rec : Rec) (keep : Nat) (all : List Oper)

def SetR (dst : Option Nat) (loc env : Regs) (v : AV) (loc' env' : Regs) : Prop :=
  (dst = none ∧ loc' = loc ∧ env' = env) ∨ (∃ t, dst = some t ∧ ((keeps keep t = true ∧ loc' = loc ∧ env' = put env t v) ∨ (keeps keep t = false ∧ loc' = .cons t v loc ∧ env' = env)))

def PureFact (o : Oper) (r : Regs) (h : Heap) (v : AV) : Prop := ∀ φ I w a, SimH φ I h w → RelR w φ I r .nil a → PureAt P (execOp a.eval o) φ I w v

/-- what an operation does in the text's order; what it makes -/
inductive Did (o : Oper) (ho : HOp) (base id : Nat) (s s' : St) (v : AV) : Option NObj → Prop
  | skip (hw : wantedB o.guard all (sub ho.rd s.loc s.env) .nil = some false) (hv : v = .tup []) (hh : s'.h = s.h) (hd : s'.pd = s.pd) (hc : s'.cks = s.cks) (h2 : ho.cls ≠ 2) (he : (IsEff ho ∧ s'.eps = s.eps ++ [unionH s.pd s.h]) ∨ (¬ IsEff ho ∧ s'.eps = s.eps)) : Did o ho base id s s' v none
  | pure (hw : wantedB o.guard all (sub ho.rd s.loc s.env) .nil = some true) (h0 : ho.cls = 0) (hp : PureFact P o (sub ho.rd s.loc s.env) (bareHeap s.h.next) v) (hh : s'.h = s.h) (hd : s'.pd = s.pd) (hc : s'.cks = s.cks) (he : s'.eps = s.eps) : Did o ho base id s s' v none
  | read (hw : wantedB o.guard all (sub ho.rd s.loc s.env) .nil = some true) (h1 : ho.cls = 1) (hp : PureFact P o (sub ho.rd s.loc s.env) (unionH s.pd s.h) v) (hh : s'.h = s.h) (hd : s'.pd = s.pd)
      (hc : (ho.lo = ho.hi ∧ s'.cks = s.cks) ∨ s'.cks = ⟨ho.lo, ho.hi, again o.op E rec (sub ho.rd s.loc s.env) v⟩ :: s.cks) (he : s'.eps = s.eps) : Did o ho base id s s' v none
  | make (hw : wantedB o.guard all (sub ho.rd s.loc s.env) .nil = some true) (h2 : ho.cls = 2) (n : NObj) (mkv : Nat → AV) (hv : v = mkv id)
      (hp : ∀ φ I w a, RelR w φ I (sub ho.rd s.loc s.env) .nil a → ∃ c w' L, (execOp a.eval o).run P w = .ok (.value c) w' ∧ Made φ I w w' L n ∧ ∀ b φ' I' w'', φ' b = some L → RelV w'' φ' I' (mkv b) c)
      (hh : s'.h = s.h) (hd : s'.pd = joinH (hadd (bareHeap id) n) s.pd) (hc : s'.cks = s.cks) (he : s'.eps = s.eps) : Did o ho base id s s' v (some n)
  | eff (hw : wantedB o.guard all (sub ho.rd s.loc s.env) .nil = some true) (h3 : IsEff ho)
      (hp : ∀ φ I w a, Sim φ I (mvL base ho.ad s.pd s.h).2 w → RelR w φ I (sub ho.rd s.loc s.env) .nil a → OpR P (execOp a.eval o) w (Post (mvL base ho.ad s.pd s.h).2 φ I w v s'.h)) (hd : s'.pd = (mvL base ho.ad s.pd s.h).1) (hc : s'.cks = s.cks) (he : s'.eps = s.eps ++ [unionH s.pd s.h]) : Did o ho base id s s' v none
end

section
variable {P : Program} {E : Env} {rec : Rec} {keep : Nat} {all : List Oper}

theorem byCls_some {α : Type} {c : Nat} {a0 a1 a2 a3 : Option α} {r : α} (e : byCls c a0 a1 a2 a3 = some r) : (c = 0 ∧ a0 = some r) ∨ (c = 1 ∧ a1 = some r) ∨ (c = 2 ∧ a2 = some r) ∨ ((c ≠ 0 ∧ c ≠ 1 ∧ c ≠ 2) ∧ a3 = some r) := by
  have ne : ∀ a b : Nat, Nat.beq a b = false → a ≠ b := fun a b h he => by subst he; simp at h
  rcases ifb_some e with ⟨h, e1⟩ | ⟨h, e1⟩
  · exact .inl ⟨beq_eq_of h, e1⟩
  · rcases ifb_some e1 with ⟨h', e2⟩ | ⟨h', e2⟩
    · exact .inr (.inl ⟨beq_eq_of h', e2⟩)
    · rcases ifb_some e2 with ⟨h'', e3⟩ | ⟨h'', e3⟩
      · exact .inr (.inr (.inl ⟨beq_eq_of h'', e3⟩))
      · exact .inr (.inr (.inr ⟨⟨ne _ _ h, ne _ _ h', ne _ _ h''⟩, e3⟩))

theorem evOperD_some (hT : TypesOk P E) (hF : ∀ t i, E.T t = some i → FieldsIn i) (hC : FnSound P E rec) {o : Oper} {ho : HOp} {base id : Nat} {next : NxD} {s : St} {r : Fin2}
    (hp : ho.cls = 0 ∨ ho.cls = 1 → pureOp E o.op = true) (ha : ho.cls = 2 → allocOp E o.op = true)
    (e : evOperD all o ho E rec keep base id next s.loc s.env s.pd s.h s.cks s.eps = some r) :
    ∃ s' v n, Did P E rec all o ho base id s s' v n ∧ SetR keep o.dst s.loc s.env v s'.loc s'.env ∧ next s'.loc s'.env s'.pd s'.h s'.cks s'.eps = some r := by
  rcases o with ⟨dst, op, ty, pos, aft, g⟩
  obtain ⟨b, hb, e1⟩ := ob_some (show ob (wantedB g all (sub ho.rd s.loc s.env) .nil) (fun b => ifb b (evOpD op ho E rec (sub ho.rd s.loc s.env) base id s.pd s.h s.cks s.eps fun v pd h cks eps => setReg dst keep s.loc s.env v fun loc env => next loc env pd h cks eps)
        (byCls ho.cls (setReg dst keep s.loc s.env (.tup []) fun loc env => next loc env s.pd s.h s.cks s.eps) (setReg dst keep s.loc s.env (.tup []) fun loc env => next loc env s.pd s.h s.cks s.eps) none
          (appK s.eps [unionH s.pd s.h] fun eps => setReg dst keep s.loc s.env (.tup []) fun loc env => next loc env s.pd s.h s.cks eps))) = some r from e)
  rcases ifb_some e1 with ⟨rfl, e2⟩ | ⟨rfl, e2⟩
  · rcases byCls_some e2 with ⟨h0, e3⟩ | ⟨h0, e3⟩ | ⟨h0, e3⟩ | ⟨h0, e3⟩
    · obtain ⟨v, e4, hs⟩ := op_pure (P := P) (o := ⟨dst, op, ty, pos, aft, g⟩) hT hF (hp (.inl h0)) e3
      obtain ⟨loc', env', e5, hset⟩ := setReg_some e4
      exact ⟨⟨loc', env', s.pd, s.h, s.cks, s.eps⟩, v, none, .pure hb h0 hs rfl rfl rfl rfl, hset, e5⟩
    · obtain ⟨v, e4, hs⟩ := op_pure (P := P) (o := ⟨dst, op, ty, pos, aft, g⟩) hT hF (hp (.inr h0)) e3
      obtain ⟨loc', env', e5, hset⟩ := setReg_some e4
      refine ⟨⟨loc', env', s.pd, s.h, _, s.eps⟩, v, none, .read hb h0 hs rfl rfl ?_ rfl, hset, e5⟩
      cases hq : Nat.beq ho.lo ho.hi with
      | true => exact .inl ⟨beq_eq_of hq, rfl⟩
      | false => exact .inr rfl
    · obtain ⟨n, mkv, e4, hs⟩ := op_alloc (P := P) (o := ⟨dst, op, ty, pos, aft, g⟩) hT (ha h0) e3
      obtain ⟨loc', env', e5, hset⟩ := setReg_some e4
      exact ⟨⟨loc', env', _, s.h, s.cks, s.eps⟩, _, some n, .make hb h0 n mkv rfl hs rfl rfl rfl rfl, hset, e5⟩
    · rw [appK_eq, moveL_eq] at e3
      obtain ⟨v, h', e4, hs⟩ := op_sound (P := P) (o := ⟨dst, op, ty, pos, aft, g⟩) hT hF hC e3
      obtain ⟨loc', env', e5, hset⟩ := setReg_some e4
      exact ⟨⟨loc', env', (mvL base ho.ad s.pd s.h).1, h', s.cks, s.eps ++ [unionH s.pd s.h]⟩, v, none, .eff hb h0 hs rfl rfl rfl, hset, e5⟩
  · rcases byCls_some e2 with ⟨h0, e3⟩ | ⟨h0, e3⟩ | ⟨h0, e3⟩ | ⟨h0, e3⟩
    · obtain ⟨loc', env', e5, hset⟩ := setReg_some e3
      exact ⟨⟨loc', env', s.pd, s.h, s.cks, s.eps⟩, .tup [], none, .skip hb rfl rfl rfl rfl (by omega) (.inr ⟨fun h => h.1 h0, rfl⟩), hset, e5⟩
    · obtain ⟨loc', env', e5, hset⟩ := setReg_some e3
      exact ⟨⟨loc', env', s.pd, s.h, s.cks, s.eps⟩, .tup [], none, .skip hb rfl rfl rfl rfl (by omega) (.inr ⟨fun h => h.2.1 h0, rfl⟩), hset, e5⟩
    · cases e3
    · rw [appK_eq] at e3
      obtain ⟨loc', env', e5, hset⟩ := setReg_some e3
      exact ⟨⟨loc', env', s.pd, s.h, s.cks, s.eps ++ [unionH s.pd s.h]⟩, .tup [], none, .skip hb rfl rfl rfl rfl h0.2.2 (.inl ⟨h0, rfl⟩), hset, e5⟩

/-- the states, the values, the objects, by places in the text -/
theorem evDraw_some (hT : TypesOk P E) (hF : ∀ t i, E.T t = some i → FieldsIn i) (hC : FnSound P E rec) : ∀ (base : Nat) (l : List Oper) (hl : List HOp) (id : Nat) (s : St) (env' : Regs) (h' : Heap),
    (∀ (i : Nat) (o : Oper) (ho : HOp), l[i]? = some o → hl[i]? = some ho → (ho.cls = 0 ∨ ho.cls = 1 → pureOp E o.op = true) ∧ (ho.cls = 2 → allocOp E o.op = true)) →
    evDraw all l E rec keep base hl id s.loc s.env s.pd s.h s.cks s.eps = some (env', h') →
    ∃ (S : Nat → St) (V : Nat → AV) (N : Nat → Option NObj), S 0 = s ∧ l.length ≤ hl.length ∧ (∀ (i : Nat) (o : Oper) (ho : HOp), l[i]? = some o → hl[i]? = some ho → Did P E rec all o ho base (id + i) (S i) (S (i + 1)) (V i) (N i) ∧ SetR keep o.dst (S i).loc (S i).env (V i) (S (i + 1)).loc (S (i + 1)).env) ∧
      (S l.length).env = env' ∧ unionH (S l.length).pd (S l.length).h = h' ∧ checkAll (S l.length).cks ((S l.length).eps ++ [h']) = true
  | base, [], hl, id, s, env', h', _, e => by
    change appK s.eps [unionH s.pd s.h] (fun eps => ifb (checkAll s.cks eps) (some (s.env, unionH s.pd s.h)) none) = some (env', h') at e
    rw [appK_eq] at e
    obtain ⟨h1, h2⟩ := ifb_none e
    cases h2
    exact ⟨fun _ => s, fun _ => .bad, fun _ => none, rfl, Nat.zero_le _, fun i o ho hi => by simp at hi, rfl, rfl, h1⟩
  | base, o :: l, [], id, s, env', h', _, e => by cases e
  | base, o :: l, ho :: hl, id, s, env', h', hst, e => by
    obtain ⟨hp, ha⟩ := hst 0 o ho rfl rfl
    obtain ⟨s', v, n, hd, hset, e1⟩ := evOperD_some (P := P) hT hF hC hp ha (show evOperD all o ho E rec keep base id (evDraw all l E rec keep base hl (Nat.succ id)) s.loc s.env s.pd s.h s.cks s.eps = some (env', h') from e)
    obtain ⟨S, V, N, k1, k2, k3, k4⟩ := evDraw_some hT hF hC base l hl (id + 1) s' env' h' (fun i o ho h1 h2 => hst (i + 1) o ho (by simpa using h1) (by simpa using h2)) e1
    refine ⟨fun i => match i with | 0 => s | i + 1 => S i, fun i => match i with | 0 => v | i + 1 => V i, fun i => match i with | 0 => n | i + 1 => N i, rfl, by simp [k2], fun i o' ho' h1 h2 => ?_, k4⟩
    cases i with
    | zero =>
      simp at h1 h2; subst h1; subst h2
      dsimp only
      rw [k1]; exact ⟨hd, hset⟩
    | succ i =>
      have := k3 i o' ho' (by simpa using h1) (by simpa using h2)
      rw [show id + (i + 1) = id + 1 + i by omega]; exact this
end
end Go.Den
