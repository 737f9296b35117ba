/- A part of a machine that computes what the program computes, and of the proof that it does -/
import Derived.Test.YtngjccjmhlhlbaaGreatDenZg
set_option linter.unusedVariables false
set_option linter.unusedSimpArgs false
set_option linter.unusedSectionVars false
namespace Go.Den
open Go

variable [Val]

/-! ### the check of a region's hints -/
structure Rw where
  ix : Nat
  o : Oper
  ho : HOp
  m : Nat
  c : Nat

def rowsGo : List Oper → List HOp → List Nat → Nat → Nat → List Rw
  | o :: l, ho :: hl, m :: ms, i, c => ⟨i, o, ho, m, c⟩ :: rowsGo l hl ms (i + 1) (c + if effB ho then 1 else 0)
  | _, _, _, _, _ => []

noncomputable def masksK {α : Type} : List Oper → List Nat → (List Nat → α) → α
  | [], ms, k => k ms
  | o :: l, ms, k => forceNat (maskOf ms o) fun m => appK ms [m] fun ms => masksK l ms k
theorem masksK_eq {α : Type} : ∀ (l : List Oper) (ms : List Nat) (k : List Nat → α), masksK l ms k = k (masksGo l ms)
  | [], ms, k => rfl
  | o :: l, ms, k => by rw [masksK, forceNat_eq, appK_eq, masksK_eq l, masksGo]

noncomputable def rowsK {α : Type} : List Oper → List HOp → List Nat → Nat → Nat → (List Rw → Nat → α) → α
  | o :: l, ho :: hl, m :: ms, i, c, k => forceNat (i + 1) fun j => forceNat (c + if effB ho then 1 else 0) fun d => rowsK l hl ms j d fun rs n => k (⟨i, o, ho, m, c⟩ :: rs) n
  | _, _, _, _, c, k => k [] c
def cntL : List HOp → Nat → Nat
  | [], _ => 0
  | _ :: _, 0 => 0
  | ho :: hl, n + 1 => (if effB ho then 1 else 0) + cntL hl n
theorem effAt_cons (ho : HOp) (hl : List HOp) (j : Nat) : effAt (ho :: hl) (j + 1) = effAt hl j := by simp [effAt]
theorem cntE_cons (ho : HOp) (hl : List HOp) : ∀ n, cntE (ho :: hl) (n + 1) = (if effB ho then 1 else 0) + cntE hl n
  | 0 => by simp [cntE, effAt]
  | n + 1 => by
    rw [show cntE (ho :: hl) (n + 1 + 1) = cntE (ho :: hl) (n + 1) + if effAt (ho :: hl) (n + 1) then 1 else 0 from rfl, cntE_cons ho hl n, effAt_cons]
    show _ = _ + (cntE hl n + _)
    omega
theorem rowsK_eq {α : Type} : ∀ (l : List Oper) (hl : List HOp) (ms : List Nat) (i c : Nat) (k : List Rw → Nat → α), l.length = hl.length → l.length = ms.length →
    rowsK l hl ms i c k = k (rowsGo l hl ms i c) (c + cntE hl l.length)
  | [], [], [], i, c, k, _, _ => by simp [rowsK, rowsGo, cntE]
  | o :: l, ho :: hl, m :: ms, i, c, k, h1, h2 => by
    rw [rowsK, forceNat_eq, forceNat_eq, rowsK_eq l hl ms _ _ _ (by simpa using h1) (by simpa using h2), rowsGo, List.length_cons, cntE_cons]
    rw [show c + ((if effB ho then 1 else 0) + cntE hl l.length) = c + (if effB ho then 1 else 0) + cntE hl l.length by omega]
theorem rowsGo_get : ∀ (l : List Oper) (hl : List HOp) (ms : List Nat) (i c k : Nat) (o : Oper) (ho : HOp) (m : Nat), l[k]? = some o → hl[k]? = some ho → ms[k]? = some m →
    (⟨i + k, o, ho, m, c + cntE hl k⟩ : Rw) ∈ rowsGo l hl ms i c
  | o' :: l, ho' :: hl, m' :: ms, i, c, 0, o, ho, m, h1, h2, h3 => by
    simp at h1 h2 h3; subst h1 h2 h3
    exact List.mem_cons_self ..
  | o' :: l, ho' :: hl, m' :: ms, i, c, k + 1, o, ho, m, h1, h2, h3 => by
    have := rowsGo_get l hl ms (i + 1) (c + if effB ho' then 1 else 0) k o ho m (by simpa using h1) (by simpa using h2) (by simpa using h3)
    rw [rowsGo, cntE_cons, show i + (k + 1) = i + 1 + k by omega, show c + ((if effB ho' then 1 else 0) + cntE hl k) = c + (if effB ho' then 1 else 0) + cntE hl k by omega]
    exact List.mem_cons_of_mem _ this
  | [], _, _, i, c, k, o, ho, m, h1, h2, h3 => by simp at h1
  | _ :: _, [], _, i, c, k, o, ho, m, h1, h2, h3 => by simp at h2
  | _ :: _, _ :: _, [], i, c, k, o, ho, m, h1, h2, h3 => by simp at h3

noncomputable def allB {α : Type} (f : α → Bool) : List α → Bool
  | [] => true
  | a :: l => ifb (f a) (allB f l) false
theorem allB_mem {α : Type} {f : α → Bool} : ∀ {l : List α}, allB f l = true → ∀ a ∈ l, f a = true
  | [], _, a, h => by cases h
  | b :: l, e, a, h => by
    obtain ⟨h1, h2⟩ := ifb_and e
    rcases List.mem_cons.1 h with rfl | h
    · exact h1
    · exact allB_mem h2 a h
noncomputable def impB (a b : Bool) : Bool := ifb a b true
theorem impB_mp {a b : Bool} (h : impB a b = true) (ha : a = true) : b = true := by subst ha; exact h
def optIs (o : Option Nat) (t : Nat) : Bool := match o with | some d => Nat.beq d t | none => false
theorem optIs_some (d : Nat) : optIs (some d) d = true := by simp [optIs]

noncomputable def row1 (E : Env) (total : Nat) (a : Rw) : Bool :=
  ifb (allB (fun e => impB (Region.binds .any e) (Nat.blt e.on a.ix)) a.o.after.toList)
    (ifb (impB (Nat.ble a.ho.cls 1) (pureOp E a.o.op)) (ifb (impB (Nat.beq a.ho.cls 2) (allocOp E a.o.op))
      (ifb (allB (fun t => a.m.testBit t) a.ho.ad) (impB (Nat.beq a.ho.cls 1) (ifb (Nat.ble a.ho.lo a.ho.hi) (Nat.ble a.ho.hi total) false)) false) false) false) false
noncomputable def row2 (a b : Rw) : Bool :=
  ifb (match a.o.dst with | some d => impB (optIs b.o.dst d) (Nat.beq a.ix b.ix) | none => true)
    (ifb (match b.o.dst with | some d => impB (allB (fun t => Bool.not (Nat.beq t d)) a.ho.rd |>.not) (ifb (a.m.testBit b.ix) true (ifb (b.m.testBit a.ix) true (Nat.beq a.ix b.ix))) | none => true)
      (ifb (effB b.ho) (ifb (impB (ifb (effB a.ho) (Nat.blt a.ix b.ix) false) (b.m.testBit a.ix)) (impB (Nat.beq a.ho.cls 1) (ifb (impB (Nat.blt b.c a.ho.lo) (a.m.testBit b.ix)) (impB (Nat.ble a.ho.hi b.c) (b.m.testBit a.ix)) false)) false) true) false) false

noncomputable def drawOkB (E : Env) (ops : List Oper) (hl : List HOp) : Bool :=
  ifb (Nat.beq hl.length ops.length) (masksK ops [] fun ms => rowsK ops hl ms 0 0 fun rs total => ifb (allB (row1 E total) rs) (allB (fun a => allB (fun b => row2 a b) rs) rs) false) false

theorem drawOk_of {E : Env} {ops : Array Oper} {hl : List HOp} (h : drawOkB E ops.toList hl = true) : DrawOk E ops hl := by
  obtain ⟨hlen, h1⟩ := ifb_and h
  have hlen' := beq_eq_of hlen
  rw [masksK_eq, rowsK_eq _ _ _ _ _ _ hlen'.symm (by rw [masksGo_len]; simp)] at h1
  obtain ⟨h2, h3⟩ := ifb_and h1
  have hmem : ∀ (i : Nat) (o : Oper) (ho : HOp), ops[i]? = some o → hl[i]? = some ho → (⟨i, o, ho, (masks ops.toList).getD i 0, cntE hl i⟩ : Rw) ∈ rowsGo ops.toList hl (masksGo ops.toList []) 0 0 := by
    intro i o ho h1 h2
    have hm : (masksGo ops.toList [])[i]? = some ((masks ops.toList).getD i 0) := by
      have hi : i < (masksGo ops.toList []).length := by
        rw [masksGo_len]; simp; exact (Array.getElem?_eq_some_iff.1 h1).1
      unfold masks
      rw [List.getD_eq_getElem?_getD, List.getElem?_eq_getElem hi]; rfl
    have := rowsGo_get ops.toList hl (masksGo ops.toList []) 0 0 i o ho _ (by simpa using h1) h2 hm
    simpa using this
  have hho : ∀ (i : Nat) (o : Oper), ops[i]? = some o → ∃ ho, hl[i]? = some ho := by
    intro i o h1
    have hi : i < hl.length := by rw [hlen', Array.length_toList]; exact (Array.getElem?_eq_some_iff.1 h1).1
    exact ⟨_, List.getElem?_eq_getElem hi⟩
  have hoo : ∀ (i : Nat) (ho : HOp), hl[i]? = some ho → ∃ o, ops[i]? = some o := by
    intro i ho h1
    have hi : i < ops.size := by rw [← Array.length_toList, ← hlen']; exact (List.getElem?_eq_some_iff.1 h1).1
    exact ⟨_, Array.getElem?_eq_getElem hi⟩
  have hd : ∀ (j : Nat) (o : Oper) (e : Edge), ops[j]? = some o → e ∈ o.after → Region.binds .any e = true → e.on < j := by
    intro j o e h1 h4 h5
    obtain ⟨ho, h6⟩ := hho j o h1
    have := allB_mem (ifb_and (allB_mem h2 _ (hmem j o ho h1 h6))).1 e (by simpa using h4)
    have := impB_mp this h5
    simpa using this
  have bef : ∀ i j, ((masks ops.toList).getD j 0).testBit i = true → Bef ops i j := fun i j => mask_bef hd j i
  have R1 := fun (i : Nat) (o : Oper) (ho : HOp) (h1 : ops[i]? = some o) (h4 : hl[i]? = some ho) => ifb_and (ifb_and (allB_mem h2 _ (hmem i o ho h1 h4))).2
  have R2 := fun (i : Nat) (o : Oper) (ho : HOp) (h1 : ops[i]? = some o) (h4 : hl[i]? = some ho) (j : Nat) (o' : Oper) (ho' : HOp) (h5 : ops[j]? = some o') (h6 : hl[j]? = some ho') => ifb_and (allB_mem (allB_mem h3 _ (hmem i o ho h1 h4)) _ (hmem j o' ho' h5 h6))
  refine ⟨by rw [hlen', Array.length_toList], fun i j => bef_lt hd, ?_, ?_, ?_, ?_, ?_, ?_⟩
  · intro i j oi oj d h1 h4 h5 h6
    obtain ⟨hi, k1⟩ := hho i oi h1
    obtain ⟨hj, k2⟩ := hho j oj h4
    have := (R2 i oi hi h1 k1 j oj hj h4 k2).1
    simp only [h5] at this
    have := impB_mp this (by simp only [h6]; exact optIs_some d)
    exact beq_eq_of this
  · intro i ho j oj t h1 h4 h5 h6
    obtain ⟨oi, k1⟩ := hoo i ho h1
    obtain ⟨hj, k2⟩ := hho j oj h5
    have := (ifb_and (R2 i oi ho k1 h1 j oj hj h5 k2).2).1
    simp only [h6] at this
    have hne : (allB (fun u => Bool.not (Nat.beq u t)) ho.rd).not = true := by
      cases hq : allB (fun u => Bool.not (Nat.beq u t)) ho.rd with
      | false => rfl
      | true => have := allB_mem hq t h4; simp at this
    have := impB_mp this hne
    cases hb : ((masks ops.toList).getD i 0).testBit j with
    | true => exact .inl (bef _ _ hb)
    | false =>
      simp only [hb] at this
      cases hb2 : ((masks ops.toList).getD j 0).testBit i with
      | true => exact .inr (.inl (bef _ _ hb2))
      | false =>
        simp only [hb2] at this
        exact .inr (.inr (beq_eq_of this))
  · intro i o ho h1 h4
    obtain ⟨a1, a2⟩ := R1 i o ho h1 h4
    obtain ⟨a3, a4⟩ := ifb_and a2
    refine ⟨fun hc => impB_mp a1 ?_, fun hc => impB_mp a3 ?_⟩
    · rcases hc with hc | hc <;> simp [hc]
    · simp [hc]
  · intro i j hij h1 h4
    unfold effAt at h1 h4
    cases k1 : hl[i]? with
    | none => rw [k1] at h1; cases h1
    | some hi =>
      cases k2 : hl[j]? with
      | none => rw [k2] at h4; cases h4
      | some hj =>
        rw [k1] at h1; rw [k2] at h4
        obtain ⟨oi, k3⟩ := hoo i hi k1
        obtain ⟨oj, k4⟩ := hoo j hj k2
        have := (ifb_and (R2 i oi hi k3 k1 j oj hj k4 k2).2).2
        dsimp only at this h1 h4
        rw [h4] at this
        have := (ifb_and (show ifb _ _ false = true from this)).1
        exact bef _ _ (impB_mp this (by rw [h1]; simpa [ifb] using hij))
  · intro i ho j h1 h4
    obtain ⟨o, k1⟩ := hoo i ho h1
    have := (ifb_and (ifb_and (R1 i o ho k1 h1).2).2).1
    exact bef _ _ (allB_mem this j h4)
  · intro i ho h1 hc
    obtain ⟨o, k1⟩ := hoo i ho h1
    have := (ifb_and (ifb_and (R1 i o ho k1 h1).2).2).2
    obtain ⟨a1, a2⟩ := ifb_and (impB_mp this (by simp [hc]))
    refine ⟨by simpa using a1, by simpa using a2, fun e he => ?_⟩
    unfold effAt at he
    cases k2 : hl[e]? with
    | none => rw [k2] at he; cases he
    | some hj =>
      rw [k2] at he
      obtain ⟨oj, k4⟩ := hoo e hj k2
      have := (ifb_and (R2 i o ho k1 h1 e oj hj k4 k2).2).2
      dsimp only at this he
      rw [he] at this
      have := (ifb_and (show ifb _ _ false = true from this)).2
      obtain ⟨b1, b2⟩ := ifb_and (impB_mp this (by simp [hc]))
      exact ⟨fun hlt => bef _ _ (impB_mp b1 (by simpa using hlt)), fun hle => bef _ _ (impB_mp b2 (by simpa using hle))⟩

/-! ### the check of a function's code -/
noncomputable def codeOkB (E : Env) (hint : Hint) (nt : Nat) : Code → Bool
  | .region id ops draw => ifb (allB (fun o => match o.dst with | some d => Nat.blt d nt | none => true) ops.toList)
      (ifb draw (match hint.dr id with | some hl => drawOkB E ops.toList hl | none => true) true) false
  | .seq a b => ifb (codeOkB E hint nt a) (codeOkB E hint nt b) false
  | .cond _ a b => ifb (codeOkB E hint nt a) (codeOkB E hint nt b) false
  | .block _ c => codeOkB E hint nt c
  | .loop c => codeOkB E hint nt c
  | _ => true

theorem codeOk_of {E : Env} {hint : Hint} {nt : Nat} : ∀ {c : Code}, codeOkB E hint nt c = true → CodeOk (fun id ops => ∀ hl, hint.dr id = some hl → DrawOk E ops hl) nt c := by
  intro c
  induction c with
  | region id ops draw =>
    intro h
    obtain ⟨h1, h2⟩ := ifb_and (show ifb _ _ false = true from h)
    refine ⟨fun o ho d hd => ?_, fun hdr hl hh => ?_⟩
    · have := allB_mem h1 o ho
      simp only [hd] at this
      simpa using this
    · subst hdr
      have h3 : (match hint.dr id with | some hl => drawOkB E ops.toList hl | none => true) = true := h2
      simp only [hh] at h3
      exact drawOk_of h3
  | seq a b iha ihb =>
    intro h
    obtain ⟨h1, h2⟩ := ifb_and (show ifb _ _ false = true from h)
    exact ⟨iha h1, ihb h2⟩
  | cond x a b iha ihb =>
    intro h
    obtain ⟨h1, h2⟩ := ifb_and (show ifb _ _ false = true from h)
    exact ⟨iha h1, ihb h2⟩
  | block id c ih => intro h; exact ih h
  | loop c ih => intro h; exact ih h
  | _ => intro h; trivial
end Go.Den
