/- A part of a machine that computes what the program computes, and of the proof that it does -/
import Derived.Test.YtngjccjmhlhlbaaGreatDenZe
set_option linter.unusedVariables false
set_option linter.unusedSimpArgs false
set_option linter.unusedSectionVars false
namespace Go.Den
open Go

variable [Val]

section
variable {φ : Pos} {I : Imm} {w w' : World}

theorem HR.agree {g g' : Nat → Option Blk} {m m' : Nat → Option (List (AV × AV))} (h : HR φ I g m w) (hg : ∀ b k L, g' b = some k → φ b = some L → g b = some k) (hm : ∀ b l L, m' b = some l → φ b = some L → m b = some l) : HR φ I g' m' w where
  blk b k L hb hL := h.blk b k L (hg b k L hb hL) hL
  map b l L hb hL := h.map b l L (hm b l L hb hL) hL
  inj b b' k k' L L' hb hb' hL hL' := h.inj b b' k k' L L' (hg _ _ _ hb hL) (hg _ _ _ hb' hL') hL hL'
  minj b b' k k' L L' hb hb' hL hL' := h.minj b b' k k' L L' (hm _ _ _ hb hL) (hm _ _ _ hb' hL') hL hL'
  lt := h.lt
  imm := h.imm

theorem HR.sameHeap {g : Nat → Option Blk} {m : Nat → Option (List (AV × AV))} (h : HR φ I g m w) (he : w'.heap = w.heap) : HR φ I g m w' := by
  have hv : ∀ v c, RelV w φ I v c → RelV w' φ I v c := fun v c hv => hv.mono (fun _ _ h => h) (fun _ _ h => h) (fun B x _ => cell_of_heap (by rw [he]) x)
  exact ⟨fun b k L hb hL => (h.blk b k L hb hL).mono (by rw [he]) hv, fun b l L hb hL => (h.map b l L hb hL).mono (by rw [he]) hv, h.inj, h.minj, fun b L hL => by rw [he]; exact h.lt b L hL, fun B x hx => by rw [he]; exact h.imm B x hx⟩

theorem Uniq.appA {α : Type} {a b : AL α} (ha : Uniq a) (hb : Uniq b) (h : ∀ k v, lk a k = some v → lk b k = none) : Uniq (appA a b) := by
  induction a with
  | nil => exact hb
  | cons k v t ih =>
    refine ⟨(appA_lk t b k).trans ?_, ih ha.2 fun k' v' hk => h k' v' (by rw [lk_cons]; split <;> first | (subst_vars; rw [ha.1] at hk; cases hk) | exact hk)⟩
    rw [ha.1, Option.none_or]
    exact h k v (by rw [lk_cons, if_pos rfl])
end

/-- so many are not done -/
def unl : List Bool → Nat
  | [] => 0
  | b :: l => unl l + if b then 0 else 1
theorem unl_set : ∀ (l : List Bool) (i : Nat), l[i]? = some false → unl (l.set i true) + 1 = unl l
  | [], i, h => by simp at h
  | b :: l, 0, h => by simp at h; subst h; simp [unl]
  | b :: l, i + 1, h => by
    have := unl_set l i (by simpa using h)
    simp only [List.set_cons_succ, unl]; omega
theorem unl_rep (n : Nat) : unl (List.replicate n false) = n := by
  induction n with
  | zero => rfl
  | succ n ih => simp [List.replicate_succ, unl, ih]
theorem unl_zero : ∀ (l : List Bool), unl l = 0 → ∀ i : Nat, i < l.length → l[i]? = some true
  | [], _, i, h => by simp at h
  | b :: l, h0, i, h => by
    cases b with
    | false => simp [unl] at h0
    | true =>
      have h1 : unl l = 0 := by simpa [unl] using h0
      cases i with
      | zero => rfl
      | succ i => simpa using unl_zero l h1 i (by simpa using h)

section
variable {P : Program} {E : Env} {rec : Rec} {keep : Nat} {ops : Array Oper} {hl : List HOp} {base : Nat} {S : Nat → St} {V : Nat → AV} {N : Nat → Option NObj} {env0 : Regs}
variable {K0 : Nat → Prop} {φ0 : Pos} {I0 : Imm} {w0 : World} {nt : Nat}

theorem ready_full (t : TrOk P E rec keep ops hl base S V N env0) {L : Array Bool} (hs : L.size = ops.size) (h : Region.ready .any ops L = []) : ∀ i, i < ops.size → L.getD i false = true := by
  intro i
  induction i using Nat.strongRecOn with
  | _ i ih =>
    intro hi
    cases hq : L.getD i false with
    | true => rfl
    | false =>
      obtain ⟨o, ho, h1, h2⟩ := t.both hi
      have : i ∈ Region.ready .any ops L := mem_ready.2 ⟨by simpa [hs, hi] using hq, o, h1, fun e he hb => by
        have hlt := t.ok.down _ _ (Bef.edge h1 he hb)
        exact ih e.on hlt (by omega)⟩
      rw [h] at this; cases this

theorem wpAny_all' (hT : TypesOk P E) (hF : ∀ t i, E.T t = some i → FieldsIn i) (t : TrOk P E rec keep ops hl base S V N env0) (hcks : checkAll (S ops.size).cks ((S ops.size).eps ++ [unionH (S ops.size).pd (S ops.size).h]) = true)
    (hnt : ∀ (i : Nat) (o : Oper) (d : Nat), ops[i]? = some o → o.dst = some d → d < nt) {Q : Exit → Act → World → Prop}
    (hQ : ∀ (L : Array Bool) a w p φ I, (∀ i, i < ops.size → L.getD i false = true) → Inv P ops hl base S V N env0 K0 φ0 I0 w0 nt L a w p φ I → Q .normal a w) :
    ∀ (fuel : Nat) (L : Array Bool) (a : Act) (w : World) (p : Nat) (φ : Pos) (I : Imm), unl L.toList ≤ fuel → Inv P ops hl base S V N env0 K0 φ0 I0 w0 nt L a w p φ I → wpAny P .any ops Q fuel L a w
  | 0, L, a, w, p, φ, I, hf, v => by
    have hall : ∀ i, i < ops.size → L.getD i false = true := fun i hi => by
      have := unl_zero L.toList (by omega) i (by simp [v.size, hi])
      have hi' : i < L.size := by rw [v.size]; exact hi
      simp [hi'] at this ⊢; exact this
    refine ⟨?_, hQ L a w p φ I hall v⟩
    cases hq : Region.ready .any ops L with
    | nil => rfl
    | cons x l =>
      have : x ∈ Region.ready .any ops L := by rw [hq]; exact List.mem_cons_self ..
      obtain ⟨h1, o, h2, _⟩ := mem_ready.1 this
      have hx : x < ops.size := (Array.getElem?_eq_some_iff.1 h2).1
      have := hall x hx
      have hx' : x < L.size := by rw [v.size]; exact hx
      simp [hx'] at h1 this
      rw [h1] at this; cases this
  | fuel + 1, L, a, w, p, φ, I, hf, v => by
    refine ⟨fun h => hQ L a w p φ I (ready_full t v.size h) v, fun i hi => ?_⟩
    refine v.step hT hF t hcks hnt hi fun a' w' p' φ' I' v' => wpAny_all' hT hF t hcks hnt hQ fuel _ a' w' p' φ' I' ?_ v'
    obtain ⟨h1, o, h2, _⟩ := mem_ready.1 hi
    have hx : i < ops.size := (Array.getElem?_eq_some_iff.1 h2).1
    have hx' : i < L.size := by rw [v.size]; exact hx
    have := unl_set L.toList i (by simp [hx'] at h1 ⊢; exact h1)
    simp only [Array.toList_setIfInBounds]
    omega

/-- all is done -/
theorem Inv.final (t : TrOk P E rec keep ops hl base S V N env0) {L : Array Bool} {a : Act} {w : World} {p : Nat} {φ : Pos} {I : Imm} (hall : ∀ i, i < ops.size → L.getD i false = true)
    (v : Inv P ops hl base S V N env0 K0 φ0 I0 w0 nt L a w p φ I) :
    Ext base (unionH (S ops.size).pd (S ops.size).h).next K0 φ0 I0 w0 (Kn (unionH (S ops.size).pd (S ops.size).h)) φ I w ∧ Sim φ I (unionH (S ops.size).pd (S ops.size).h) w ∧ RelR w φ I .nil (S ops.size).env a ∧ EnvKp keep (S ops.size).env := by
  have hne : ∀ e, p ≤ e → e < ops.size → effAt hl e = false := fun e h1 h2 => by
    cases hq : effAt hl e with
    | false => rfl
    | true => have := v.todo e h1 hq; rw [hall e h2] at this; cases this
  obtain ⟨g1, g2, g3, g4⟩ := t.steps v.ple (Nat.le_refl _) hne v.hw
  have eG : Gf ops base S N p = (unionH (S ops.size).pd (S ops.size).h).get := by
    rw [← g2]; funext b; rw [unionH_get]; unfold Gf Gp Dg; rw [if_neg (by omega), Option.none_or]
  have eM : Mf ops base S N p = lk (unionH (S ops.size).pd (S ops.size).h).maps := by
    rw [← g3]; funext b; rw [unionH_maps]; unfold Mf Mp Dm; rw [if_neg (by omega), Option.none_or]
  have en : (unionH (S ops.size).pd (S ops.size).h).next = (S p).h.next := by rw [← g4]; rfl
  have hroom := g1.room
  have hnn : (S ops.size).h.next = (S p).h.next := by rw [g4]
  have split : ∀ {α : Type} {x y : Option α} {z : α}, x.or y = some z → x = some z ∨ (x = none ∧ y = some z) := by
    intro α x y z h; cases x <;> simp_all
  have noneM : ∀ b, Kn (S ops.size).pd b → lk (S ops.size).h.maps b = none := fun b hb => by
    cases hq : lk (S ops.size).h.maps b with
    | none => rfl
    | some l => exact absurd (.inr ⟨l, hq⟩) (g1.pds b hb).2.2
  obtain ⟨l1, l2, l3, l4⟩ := t.regs ops.size (Nat.le_refl _)
  refine ⟨?_, ⟨by rw [← eG, ← eM]; exact v.hr, ⟨fun b Lb hb => by rw [en]; exact v.pos b Lb hb, fun b k hb => ?_, fun b l hb => ?_, fun b k hb => ?_, ?_, ?_⟩⟩, fun d x hx => ?_, l2⟩
  · have := v.ext
    rw [en]
    have hK : KG (Gf ops base S N p) (Mf ops base S N p) = Kn (unionH (S ops.size).pd (S ops.size).h) := by funext b; rw [eG, eM]; rfl
    rw [hK] at this
    exact this
  · rw [unionH_get] at hb
    rw [en, ← hnn]
    rcases split hb with h | ⟨_, h⟩
    · have := (g1.pds b (.inl ⟨k, h⟩)).2.1; omega
    · exact g1.blks b k h
  · rw [unionH_maps] at hb
    rw [en, ← hnn]
    rcases split hb with h | ⟨_, h⟩
    · have := (g1.pds b (.inr ⟨l, h⟩)).2.1; omega
    · exact g1.maps b l h
  · rw [unionH_get] at hb
    rw [unionH_maps]
    rcases split hb with h | ⟨_, h⟩
    · rw [g1.pap b k h, noneM b (.inl ⟨k, h⟩)]; rfl
    · have hn : lk (S ops.size).pd.maps b = none := by
        cases hq : lk (S ops.size).pd.maps b with
        | none => rfl
        | some l => exact absurd (.inl ⟨k, h⟩) (g1.pds b (.inr ⟨l, hq⟩)).2.2
      rw [hn, g1.apart b k h]; rfl
  · refine g1.pub.appA g1.ub fun k x hk => ?_
    cases hq : lk (S ops.size).h.blks k with
    | none => rfl
    | some l => exact absurd (.inl ⟨l, by rw [get_eq]; exact hq⟩) (g1.pds k (.inl ⟨x, by rw [get_eq]; exact hk⟩)).2.2
  · exact g1.pum.appA g1.um fun k x hk => noneM k (.inr ⟨x, hk⟩)
  · rw [lk2_eq, lk_nil, Option.none_or] at hx
    have hloc : lk (S ops.size).loc d = none := by
      cases hq : lk (S ops.size).loc d with
      | none => rfl
      | some y => have h1 := l1 d y hq; have h2 := l2 d x hx; rw [h1] at h2; cases h2
    have hx2 : lk2 (S ops.size).loc (S ops.size).env d = some x := by rw [lk2_eq, hloc, hx]; rfl
    by_cases hwr : ∃ (j : Nat) (oj : Oper), ops[j]? = some oj ∧ oj.dst = some d
    · obtain ⟨j, oj, w1, w2⟩ := hwr
      have hj : j < ops.size := (Array.getElem?_eq_some_iff.1 w1).1
      rw [l3 j oj d hj w1 w2] at hx2; cases hx2
      exact v.r1 j oj d (hall j hj) w1 w2
    · rw [l4 d fun j oj _ ho hd => hwr ⟨j, oj, ho, hd⟩] at hx2
      exact v.r2 d x hx2 fun j oj _ ho hd => hwr ⟨j, oj, ho, hd⟩
end

section
variable {P : Program} {E : Env} {rec : Rec}

/-- a region that draws its order is as the machine says -/
theorem drawS (hT : TypesOk P E) (hF : ∀ t i, E.T t = some i → FieldsIn i) (hC : FnSound P E rec) (hm : P.follows .mixedOrders = true) {hint : Hint} {id : Nat} {ops : Array Oper} (hok : ∀ hl, hint.dr id = some hl → DrawOk E ops hl) : DrawS P E rec hint id ops := by
  intro hl nt env env' h h' h0 φ0 I0 w0 a w Q hdr hdst e hk ha hQ
  have ok := hok hl hdr
  unfold evDrawn at e
  rw [forceNat_eq] at e
  have e1 : evDraw ops.toList ops.toList E rec hint.keep h.next hl h.next .nil env heap00 ⟨h.next + ops.size, h.blks, h.maps, h.mark, h.log⟩ [] [] = some (env', h') := by
    cases h
    have := e
    unfold reserve at this
    simp only [forceNat_eq, len_eq] at this
    simpa using this
  obtain ⟨S, V, N, k0, k1, k2, k3, k4, k5⟩ := evDraw_some (P := P) hT hF hC h.next ops.toList hl h.next ⟨.nil, env, heap00, ⟨h.next + ops.size, h.blks, h.maps, h.mark, h.log⟩, [], []⟩ env' h'
    (fun i o ho h1 h2 => ok.kinds i o ho (by simpa using h1) h2) e1
  simp only [Array.length_toList] at k3 k4 k5
  have t : TrOk P E rec hint.keep ops hl h.next S V N env := ⟨ok, fun i o ho h1 h2 => k2 i o ho (by simpa using h1) h2, (by rw [k0]), (by rw [k0]), (by rw [k0]), (by rw [k0]), hk⟩
  obtain ⟨φ, I, ex, s, hR⟩ := ha.rel
  have hnt : ∀ (i : Nat) (o : Oper) (d : Nat), ops[i]? = some o → o.dst = some d → d < nt := fun i o d h1 h2 => hdst o (by rw [Array.mem_toList_iff]; exact Array.mem_of_getElem? h1) d h2
  have hrep : ∀ i, (Array.replicate ops.size false).getD i false = false := fun i => by
    simp only [Array.getD_eq_getD_getElem?, Array.getElem?_replicate]; split <;> rfl
  have hDg : ∀ b L, φ b = some L → Dg ops h.next N 0 b = none ∧ Dm ops h.next N 0 b = none := fun b L hb => by
    have := s.ok.pos b L hb
    unfold Dg Dm
    rw [if_neg (by omega), if_neg (by omega)]; exact ⟨rfl, rfl⟩
  have hpd : ∀ b, ¬ Kn heap00 b := fun b hb => by
    rcases hb with ⟨k, hb⟩ | ⟨l, hb⟩ <;> cases hb
  have hget1 : (⟨h.next + ops.size, h.blks, h.maps, h.mark, h.log⟩ : Heap).get = h.get := by rw [get_eq, get_eq]
  have hkn1 : ∀ b, Kn ⟨h.next + ops.size, h.blks, h.maps, h.mark, h.log⟩ b → Kn h b := fun b hb => by unfold Kn at *; rw [hget1] at hb; exact hb
  have knlt : ∀ b, Kn h b → b < h.next := fun b hb => by
    rcases hb with ⟨k, hb⟩ | ⟨l, hb⟩
    · exact s.ok.blks b k hb
    · exact s.ok.maps b l hb
  have G0 : ∀ b, Gf ops h.next S N 0 b = (Dg ops h.next N 0 b).or (h.get b) := fun b => by unfold Gf Gp; rw [k0]; dsimp only; rw [hget1]; rfl
  have M0 : ∀ b, Mf ops h.next S N 0 b = (Dm ops h.next N 0 b).or (lk h.maps b) := fun b => by unfold Mf Mp; rw [k0]; rfl
  have hr1 : HR φ I h.get (lk h.maps) { w with drawn := w.drawn + 1 } := s.hr.sameHeap rfl
  have hrel1 : ∀ v c, RelV w φ I v c → RelV { w with drawn := w.drawn + 1 } φ I v c := fun v c hv => @RelV.mono _ w { w with drawn := w.drawn + 1 } φ φ I I (fun _ _ h => h) (fun _ _ h => h) (fun B x _ => @cell_of_heap _ w { w with drawn := w.drawn + 1 } B rfl x) v c hv
  have v0 : Inv P ops hl h.next S V N env (Kn h) φ I w nt (Array.replicate ops.size false) a { w with drawn := w.drawn + 1 } 0 φ I := by
    refine ⟨by simp, fun i o e hi => (by rw [hrep] at hi; cases hi), Nat.zero_le _, fun e he => (by omega), fun e _ _ => hrep e, .inl rfl, ?_, hr1.agree (fun b k L hb hL => ?_) (fun b l L hb hL => ?_), fun b L hb => ?_, fun i hi hN => ⟨fun h => (by rw [hrep] at h; cases h), fun _ => ?_⟩, ?_, fun i o t hi => (by rw [hrep] at hi; cases hi), fun d x hx _ => ?_, ha.defers, ha.size⟩
    · unfold HW
      rw [k0]
      refine ⟨fun b k hb => ?_, fun b l hb => ?_, fun b k hb => ?_, s.ok.ub, s.ok.um, Nat.le_refl _, fun i h1 h2 => ⟨fun hK => ?_, hpd _⟩, fun b hb => absurd hb (hpd b), fun b k hb => ?_, trivial, trivial⟩
      · rw [hget1] at hb; exact Nat.lt_of_lt_of_le (s.ok.blks b k hb) (Nat.le_add_right _ _)
      · exact Nat.lt_of_lt_of_le (s.ok.maps b l hb) (Nat.le_add_right _ _)
      · rw [hget1] at hb; exact s.ok.apart b k hb
      · have := knlt _ (hkn1 _ hK); omega
      · cases hb
    · rw [G0, (hDg b L hL).1, Option.none_or] at hb; exact hb
    · rw [M0, (hDg b L hL).2, Option.none_or] at hb; exact hb
    · rw [k0]; exact Nat.lt_of_lt_of_le (s.ok.pos b L hb) (Nat.le_add_right _ _)
    · cases hq : φ (h.next + i) with
      | none => rfl
      | some L => have := s.ok.pos _ L hq; omega
    · refine ⟨⟨rfl, rfl, rfl, Nat.le_refl _, fun _ _ h => h, fun _ _ h => h, fun B x _ => cell_of_heap (w' := { w with drawn := w.drawn + 1 }) rfl x⟩, (by rw [k0]; exact Nat.le_add_right _ _), fun _ _ _ => rfl, fun b L hb hK => .inl ⟨hb, ?_⟩, fun _ _ h => .inl h, fun b hK => ?_, fun _ _ h => .inl h⟩
      · rcases hK with ⟨k, hK⟩ | ⟨l, hK⟩
        · rw [G0, (hDg b L hb).1, Option.none_or] at hK; exact .inl ⟨k, hK⟩
        · rw [M0, (hDg b L hb).2, Option.none_or] at hK; exact .inr ⟨l, hK⟩
      · by_cases hlt : b < h.next
        · left
          rcases hK with ⟨k, hK⟩ | ⟨l, hK⟩
          · rw [G0] at hK; unfold Dg at hK; rw [if_neg (by omega), Option.none_or] at hK; exact .inl ⟨k, hK⟩
          · rw [M0] at hK; unfold Dm at hK; rw [if_neg (by omega), Option.none_or] at hK; exact .inr ⟨l, hK⟩
        · right; omega
    · obtain ⟨q1, q2⟩ := hR d x (by rw [lk2_eq, lk_nil, Option.none_or]; exact hx)
      exact ⟨q1, hrel1 _ _ q2⟩
  refine wp_region_any hm (wpAny_all' hT hF t (by rw [k4]; exact k5) hnt (fun L a' w' p' φ' I' hall v => ?_) ops.size (Array.replicate ops.size false) a _ 0 φ I (by simp [unl_rep]) v0)
  obtain ⟨f1, f2, f3, f4⟩ := v.final t hall
  rw [k3] at f3 f4
  rw [k4] at f1 f2
  exact hQ a' w' f4 ⟨v.defers, v.tmps, φ', I', ex.trans f1, f2, f3⟩
end
end Go.Den
