/- A part of a machine that computes what the program computes, and of the proof that it does -/
import Derived.Test.YtngjccjmhlhlbaaGreatDenZf
import Derived.Test.YtngjccjmhlhlbaaGreatDenX
set_option linter.unusedVariables false
set_option linter.unusedSimpArgs false
set_option linter.unusedSectionVars false
namespace Go.Den
open Go

variable [Val]

/-! ### a check of the hints -/
def maskOf (ms : List Nat) (o : Oper) : Nat := o.after.toList.foldl (fun m e => if Region.binds .any e then m ||| (2 ^ e.on) ||| ms.getD e.on 0 else m) 0
def masksGo : List Oper → List Nat → List Nat
  | [], ms => ms
  | o :: l, ms => masksGo l (ms ++ [maskOf ms o])
def masks (ops : List Oper) : List Nat := masksGo ops []

theorem masksGo_len : ∀ (l : List Oper) (ms : List Nat), (masksGo l ms).length = ms.length + l.length
  | [], ms => by simp [masksGo]
  | o :: l, ms => by rw [masksGo, masksGo_len l]; simp; omega
theorem masksGo_get : ∀ (l : List Oper) (ms : List Nat) (i : Nat), i < ms.length → (masksGo l ms)[i]? = ms[i]?
  | [], ms, i, _ => rfl
  | o :: l, ms, i, h => by
    rw [masksGo, masksGo_get l _ i (by simp; omega), List.getElem?_append_left h]
theorem masksGo_at : ∀ (l : List Oper) (ms : List Nat) (i : Nat) (o : Oper), l[i]? = some o → (masksGo l ms)[ms.length + i]? = some (maskOf ((masksGo l ms).take (ms.length + i)) o)
  | [], ms, i, o, h => by simp at h
  | x :: l, ms, 0, o, h => by
    simp at h; subst h
    rw [masksGo, masksGo_get l _ _ (by simp)]
    have : (masksGo l (ms ++ [maskOf ms x])).take ms.length = ms := by
      apply List.ext_getElem?
      intro k
      rw [List.getElem?_take]
      split
      · rename_i hk; rw [masksGo_get l _ k (by simp; omega), List.getElem?_append_left hk]
      · rename_i hk; rw [List.getElem?_eq_none (by omega)]
    simp [this]
  | x :: l, ms, i + 1, o, h => by
    have := masksGo_at l (ms ++ [maskOf ms x]) i o (by simpa using h)
    rw [masksGo]
    simp only [List.length_append, List.length_singleton] at this
    rw [show ms.length + (i + 1) = ms.length + 1 + i by omega]; exact this

theorem maskOf_bit (ms : List Nat) (o : Oper) (i : Nat) (h : (maskOf ms o).testBit i = true) : ∃ e, e ∈ o.after ∧ Region.binds .any e = true ∧ (i = e.on ∨ (ms.getD e.on 0).testBit i = true) := by
  have key : ∀ (l : List Edge) (m : Nat), (l.foldl (fun m e => if Region.binds .any e then m ||| (2 ^ e.on) ||| ms.getD e.on 0 else m) m).testBit i = true → m.testBit i = true ∨ ∃ e, e ∈ l ∧ Region.binds .any e = true ∧ (i = e.on ∨ (ms.getD e.on 0).testBit i = true) := by
    intro l
    induction l with
    | nil => intro m h; exact .inl h
    | cons e l ih =>
      intro m h
      rw [List.foldl_cons] at h
      rcases ih _ h with h1 | ⟨e', h1, h2, h3⟩
      · split at h1
        · rename_i hb
          rw [Nat.testBit_or, Nat.testBit_or] at h1
          cases hm : m.testBit i with
          | true => exact .inl rfl
          | false =>
            right
            refine ⟨e, List.mem_cons_self .., hb, ?_⟩
            rw [hm] at h1
            simp only [Bool.false_or, Bool.or_eq_true] at h1
            rcases h1 with h1 | h1
            · left; rw [Nat.testBit_two_pow] at h1; simpa using (of_decide_eq_true h1).symm
            · exact .inr h1
        · exact .inl h1
      · exact .inr ⟨e', List.mem_cons_of_mem _ h1, h2, h3⟩
  rcases key o.after.toList 0 h with h1 | ⟨e, h1, h2, h3⟩
  · simp at h1
  · exact ⟨e, by simpa using h1, h2, h3⟩

theorem mask_bef {ops : Array Oper} (hd : ∀ (j : Nat) (o : Oper) (e : Edge), ops[j]? = some o → e ∈ o.after → Region.binds .any e = true → e.on < j) : ∀ (j i : Nat), ((masks ops.toList).getD j 0).testBit i = true → Bef ops i j := by
  intro j
  induction j using Nat.strongRecOn with
  | _ j ih =>
    intro i h
    cases ho : ops[j]? with
    | none =>
      have hlen : (masks ops.toList).length = ops.size := by unfold masks; rw [masksGo_len]; simp
      have hj : ops.size ≤ j := by simpa using ho
      rw [List.getD_eq_getElem?_getD, List.getElem?_eq_none (by omega)] at h
      simp at h
    | some o =>
      have hat := masksGo_at ops.toList [] j o (by simpa using ho)
      simp only [List.length_nil, Nat.zero_add] at hat
      rw [List.getD_eq_getElem?_getD, show (masks ops.toList)[j]? = _ from hat] at h
      obtain ⟨e, h1, h2, h3⟩ := maskOf_bit _ o i (by simpa using h)
      have hlt := hd j o e ho h1 h2
      rcases h3 with rfl | h3
      · exact .edge ho h1 h2
      · refine .trans (ih e.on hlt i ?_) (.edge ho h1 h2)
        rw [List.getD_eq_getElem?_getD] at h3 ⊢
        rw [List.getElem?_take, if_pos hlt] at h3
        exact h3

theorem bef_lt {ops : Array Oper} (hd : ∀ (j : Nat) (o : Oper) (e : Edge), ops[j]? = some o → e ∈ o.after → Region.binds .any e = true → e.on < j) {i j : Nat} (h : Bef ops i j) : i < j := by
  induction h with
  | edge h he hb => exact hd _ _ _ h he hb
  | trans _ _ h1 h2 => exact Nat.lt_trans h1 h2
end Go.Den
