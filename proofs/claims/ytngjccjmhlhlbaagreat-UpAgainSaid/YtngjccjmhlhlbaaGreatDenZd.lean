/- A part of a machine that computes what the program computes, and of the proof that it does -/
import Derived.Test.YtngjccjmhlhlbaaGreatDenZc
set_option linter.unusedVariables false
set_option linter.unusedSimpArgs false
set_option linter.unusedSectionVars false
namespace Go.Den
open Go

variable [Val]

section
variable {P : Program} {E : Env} {rec : Rec} {keep : Nat} {ops : Array Oper} {hl : List HOp} {base : Nat} {S : Nat → St} {V : Nat → AV} {N : Nat → Option NObj} {env0 : Regs}
variable {K0 : Nat → Prop} {φ0 : Pos} {I0 : Imm} {w0 : World} {nt : Nat} {L : Array Bool} {a : Act} {w : World} {p : Nat} {φ : Pos} {I : Imm}

theorem appA_lk {α : Type} (n l : AL α) (b : Nat) : lk (appA n l) b = (lk n b).or (lk l b) := by
  induction n with
  | nil => simp [appA, lk_nil]
  | cons k v t ih =>
    change lk (.cons k v (appA t l)) b = _
    rw [lk_cons, lk_cons]; split
    · simp
    · exact ih
theorem unionH_get (pd h : Heap) (b : Nat) : (unionH pd h).get b = (pd.get b).or (h.get b) := by rw [get_eq, get_eq, get_eq]; exact appA_lk ..
theorem unionH_maps (pd h : Heap) (b : Nat) : lk (unionH pd h).maps b = (lk pd.maps b).or (lk h.maps b) := appA_lk ..

/-- what waits and the heap, of all that is known -/
theorem union_sim {j : Nat} (hw : HW ops base S j) (hr : HR φ I (Gf ops base S N j) (Mf ops base S N j) w) : SimH φ I (unionH (S j).pd (S j).h) w := by
  have hD : ∀ b, (∃ k, Dg ops base N j b = some k) ∨ (∃ l, Dm ops base N j b = some l) → ¬ Kn (S j).h b ∧ ¬ Kn (S j).pd b := by
    intro b hb
    have hc : base + j ≤ b ∧ b < base + ops.size := by
      rcases hb with ⟨k, hb⟩ | ⟨l, hb⟩
      · unfold Dg at hb; split at hb
        · assumption
        · cases hb
      · unfold Dm at hb; split at hb
        · assumption
        · cases hb
    have := hw.free (b - base) (by omega) (by omega)
    rw [show base + (b - base) = b by omega] at this
    exact this
  refine hr.less (fun b k hb => ?_) (fun b l hb => ?_)
  · rw [unionH_get] at hb
    unfold Gf Gp
    cases hq : Dg ops base N j b with
    | none => simpa using hb
    | some k' =>
      exfalso
      obtain ⟨h1, h2⟩ := hD b (.inl ⟨k', hq⟩)
      cases hp : (S j).pd.get b with
      | some k1 => exact h2 (.inl ⟨k1, hp⟩)
      | none => rw [hp] at hb; exact h1 (.inl ⟨k, by simpa using hb⟩)
  · rw [unionH_maps] at hb
    unfold Mf Mp
    cases hq : Dm ops base N j b with
    | none => simpa using hb
    | some k' =>
      exfalso
      obtain ⟨h1, h2⟩ := hD b (.inr ⟨k', hq⟩)
      cases hp : lk (S j).pd.maps b with
      | some k1 => exact h2 (.inr ⟨k1, hp⟩)
      | none => rw [hp] at hb; exact h1 (.inr ⟨l, by simpa using hb⟩)

theorem cntE_lt {i j : Nat} (h : i < j) (he : effAt hl i = true) : cntE hl i < cntE hl j := by
  have := cntE_mono hl (show i + 1 ≤ j from h)
  have h2 : cntE hl (i + 1) = cntE hl i + 1 := by simp [cntE, he]
  omega

theorem prev_eff (hl : List HOp) : ∀ i, 0 < cntE hl i → ∃ q, q < i ∧ effAt hl q = true ∧ cntE hl q + 1 = cntE hl i
  | 0, h => by simp [cntE] at h
  | i + 1, h => by
    cases hq : effAt hl i with
    | true => exact ⟨i, Nat.lt_succ_self _, hq, by simp [cntE, hq]⟩
    | false =>
      have : cntE hl (i + 1) = cntE hl i := by simp [cntE, hq]
      rw [this] at h ⊢
      obtain ⟨q, h1, h2, h3⟩ := prev_eff hl i h
      exact ⟨q, by omega, h2, h3⟩

/-- a reading operation's value -/
theorem Inv.readFact (hT : TypesOk P E) (hF : ∀ t i, E.T t = some i → FieldsIn i) (t : TrOk P E rec keep ops hl base S V N env0) (hcks : checkAll (S ops.size).cks ((S ops.size).eps ++ [unionH (S ops.size).pd (S ops.size).h]) = true)
    (v : Inv P ops hl base S V N env0 K0 φ0 I0 w0 nt L a w p φ I) {i : Nat} {o : Oper} {ho : HOp} (h1 : ops[i]? = some o) (h2 : hl[i]? = some ho) (hu : L.getD i false = false)
    (hr : ∀ (o : Oper) (e : Edge), ops[i]? = some o → e ∈ o.after → Region.binds .any e = true → L.getD e.on false = true) (hc1 : ho.cls = 1)
    (hp : PureFact P o (sub ho.rd (S i).loc (S i).env) (unionH (S i).pd (S i).h) (V i))
    (hck : (ho.lo = ho.hi ∧ (S (i + 1)).cks = (S i).cks) ∨ (S (i + 1)).cks = ⟨ho.lo, ho.hi, again o.op E rec (sub ho.rd (S i).loc (S i).env) (V i)⟩ :: (S i).cks) : PureAt P (execOp a.eval o) φ I w (V i) := by
  have hi : i < ops.size := (Array.getElem?_eq_some_iff.1 h1).1
  obtain ⟨lh1, lh2, lh3⟩ := t.ok.lohi i ho h2 hc1
  have hreads := v.reads t h1 h2 hu hr
  have hn := next_eff hl ops.size (ops.size - p) p rfl v.ple
  -- so many are done
  have klo : ho.lo ≤ cntE hl p := by
    rcases Nat.lt_or_ge (cntE hl p) ho.lo with h | h
    · rcases hn with hn | ⟨e, e1, e2, e3, e4⟩
      · have := cntE_same hl v.ple hn; omega
      · have hce := cntE_same hl e1 e4
        have := ((lh3 e e3).1 (by omega)).ready v.dc hr
        rw [v.todo e e1 e3] at this; cases this
    · exact h
  have khi : cntE hl p ≤ ho.hi := by
    rcases Nat.lt_or_ge ho.hi (cntE hl p) with h | h
    · rcases v.first with rfl | ⟨q, rfl, hq⟩
      · simp [cntE] at h
      · have hcq : cntE hl (q + 1) = cntE hl q + 1 := by simp [cntE, hq]
        have := ((lh3 q hq).2 (by omega)).inL v.dc (v.done q (Nat.lt_succ_self _) hq)
        rw [hu] at this; cases this
    · exact h
  rcases hck with ⟨heq, _⟩ | hck
  · -- the text's own heap
    have cl : ho.lo ≤ cntE hl i := by
      rcases Nat.lt_or_ge (cntE hl i) ho.lo with h | h
      · rcases next_eff hl ops.size (ops.size - i) i rfl (Nat.le_of_lt hi) with hn | ⟨e, e1, e2, e3, e4⟩
        · have := cntE_same hl (Nat.le_of_lt hi) hn; omega
        · have hce := cntE_same hl e1 e4
          have := t.ok.down _ _ ((lh3 e e3).1 (by omega)); omega
      · exact h
    have ch : cntE hl i ≤ ho.hi := by
      rcases Nat.lt_or_ge ho.hi (cntE hl i) with h | h
      · obtain ⟨q, q1, q2, q3⟩ := prev_eff hl i (by omega)
        have := t.ok.down _ _ ((lh3 q q2).2 (by omega)); omega
      · exact h
    have hpi : p ≤ i := by
      rcases Nat.lt_or_ge i p with h | h
      · rcases v.first with rfl | ⟨q, rfl, hq⟩
        · omega
        · have hcq : cntE hl (q + 1) = cntE hl q + 1 := by simp [cntE, hq]
          have := cntE_mono hl (show i ≤ q by omega); omega
      · exact h
    have hne : ∀ e, p ≤ e → e < i → effAt hl e = false := by
      intro e e1 e2
      cases hq : effAt hl e with
      | false => rfl
      | true => have := cntE_lt e2 hq; have := cntE_mono hl e1; omega
    obtain ⟨g1, g2, g3, _⟩ := t.steps hpi (Nat.le_of_lt hi) hne v.hw
    exact hp φ I w a (union_sim (N := N) g1 (by rw [g2, g3]; exact v.hr)) hreads
  · have hmem := t.cks (show i + 1 ≤ ops.size from hi) (Nat.le_refl _) ⟨ho.lo, ho.hi, again o.op E rec (sub ho.rd (S i).loc (S i).env) (V i)⟩ (by rw [hck]; exact List.mem_cons_self ..)
    have hone := checkAll_spec hcks _ hmem
    obtain ⟨ep1, ep2⟩ := t.eps ops.size (Nat.le_refl _)
    have key : ∃ j, p ≤ j ∧ j ≤ ops.size ∧ (∀ e, p ≤ e → e < j → effAt hl e = false) ∧ ((S ops.size).eps ++ [unionH (S ops.size).pd (S ops.size).h])[cntE hl p]? = some (unionH (S j).pd (S j).h) := by
      rcases hn with hn | ⟨e, e1, e2, e3, e4⟩
      · refine ⟨ops.size, v.ple, Nat.le_refl _, hn, ?_⟩
        rw [cntE_same hl v.ple hn, List.getElem?_append_right (by rw [ep1]; exact Nat.le_refl _), ep1]; simp
      · refine ⟨e, e1, Nat.le_of_lt e2, e4, ?_⟩
        have := ep2 e e2 e3
        rw [cntE_same hl e1 e4, List.getElem?_append_left (List.getElem?_eq_some_iff.1 this).1]; exact this
    obtain ⟨j, j1, j2, j3, j4⟩ := key
    have hagain := checkOne_spec hone _ _ j4 (by simpa using klo) (by simpa using khi)
    obtain ⟨g1, g2, g3, _⟩ := t.steps j1 j2 j3 v.hw
    exact again_spec (P := P) hT hF ((t.ok.kinds i o ho h1 h2).1 (.inr hc1)) hagain φ I w a (union_sim (N := N) g1 (by rw [g2, g3]; exact v.hr)) hreads
end
end Go.Den
