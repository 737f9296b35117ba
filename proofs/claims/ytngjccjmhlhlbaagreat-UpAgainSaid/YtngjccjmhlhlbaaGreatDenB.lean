/- A part of a machine that computes what the program computes, and of the proof that it does -/
import Derived.Test.YtngjccjmhlhlbaaGreatDen
import Derived.Tactics
set_option linter.unusedVariables false
set_option linter.unusedSimpArgs false
set_option linter.unusedSectionVars false
namespace Go.Den
open Go

/-! ### the machine's words as lists' own -/
section
variable {α β γ : Type}
theorem ifb_true (x y : α) : ifb true x y = x := rfl
theorem ifb_false (x y : α) : ifb false x y = y := rfl
theorem ifb_some {b : Bool} {x y : Option α} {r : α} (h : ifb b x y = some r) : (b = true ∧ x = some r) ∨ (b = false ∧ y = some r) := by cases b <;> simp_all [ifb]
theorem ifb_none {b : Bool} {x : Option α} {r : α} (h : ifb b x none = some r) : b = true ∧ x = some r := by cases b <;> simp_all [ifb]
theorem ifb_none' {b : Bool} {x : Option α} {r : α} (h : ifb b none x = some r) : b = false ∧ x = some r := by cases b <;> simp_all [ifb]
theorem ob_some {o : Option α} {f : α → Option β} {r : β} (h : ob o f = some r) : ∃ a, o = some a ∧ f a = some r := by cases o <;> simp_all [ob]
theorem op2_some {o : Option (α × β)} {f : α → β → Option γ} {r : γ} (h : op2 o f = some r) : ∃ a b, o = some (a, b) ∧ f a b = some r := by
  rcases o with _ | ⟨a, b⟩
  · simp [op2] at h
  · exact ⟨a, b, rfl, h⟩
theorem forceNat_eq (n : Nat) (f : Nat → α) : forceNat n f = f n := by cases n <;> rfl
theorem nth_eq (l : List α) : ∀ n, nth l n = l[n]? := by
  induction l with
  | nil => intro n; rfl
  | cons x l ih => intro n; cases n with
    | zero => rfl
    | succ n => exact ih n
theorem len_go (l : List α) : ∀ n, @List.rec α (fun _ => Nat → Nat) (fun n => n) (fun _ _ ih n => ih (Nat.succ n)) l n = n + l.length := by
  induction l with
  | nil => intro n; rfl
  | cons x l ih => intro n; show @List.rec α (fun _ => Nat → Nat) (fun n => n) (fun _ _ ih n => ih (Nat.succ n)) l (Nat.succ n) = _; rw [ih]; simp; omega
theorem len_eq (l : List α) : len l = l.length := by unfold len; rw [len_go]; omega
theorem appK_eq (l m : List α) : ∀ k : List α → β, appK l m k = k (l ++ m) := by
  induction l with
  | nil => intro k; rfl
  | cons x l ih => intro k; exact ih fun r => k (x :: r)
theorem dropL_eq (l : List α) : ∀ n, dropL l n = l.drop n := by
  induction l with
  | nil => intro n; simp [dropL]
  | cons x l ih => intro n; cases n with
    | zero => rfl
    | succ n => exact ih n
theorem takeK_eq (l : List α) : ∀ n (k : List α → β), takeK l n k = k (l.take n) := by
  induction l with
  | nil => intro n k; simp [takeK]
  | cons x l ih => intro n k; cases n with
    | zero => rfl
    | succ n => exact ih n fun r => k (x :: r)
theorem setK_eq (l : List α) (x : α) : ∀ n (k : List α → β), setK l n x k = k (l.set n x) := by
  induction l with
  | nil => intro n k; simp [setK]
  | cons y l ih => intro n k; cases n with
    | zero => rfl
    | succ n => exact ih n fun r => k (y :: r)
/-- the cells from n on are these -/
def putAt : List α → Nat → List α → List α
  | [], _, _ => []
  | y :: t, 0, [] => y :: t
  | _ :: t, 0, x :: xs => x :: putAt t 0 xs
  | y :: t, n + 1, xs => y :: putAt t n xs
theorem putAtK_eq (l : List α) : ∀ n xs (k : List α → β), putAtK l n xs k = k (putAt l n xs) := by
  induction l with
  | nil => intro n xs k; simp [putAtK, putAt]
  | cons y l ih => intro n xs k; cases n with
    | zero => cases xs with
      | nil => rfl
      | cons x xs => exact ih 0 xs fun r => k (x :: r)
    | succ n => simp only [putAt]; exact ih n xs fun r => k (y :: r)
theorem putAt_length (l : List α) : ∀ n xs, (putAt l n xs).length = l.length := by
  induction l with
  | nil => intro n xs; rfl
  | cons y l ih => intro n xs; cases n with
    | zero => cases xs <;> simp [putAt, ih]
    | succ n => simp [putAt, ih]
theorem putAt_get (l : List α) : ∀ n xs i, (putAt l n xs)[i]? = if n ≤ i ∧ i < n + xs.length ∧ i < l.length then xs[i - n]? else l[i]? := by
  induction l with
  | nil => intro n xs i; simp [putAt]
  | cons y l ih =>
    intro n xs i
    cases n with
    | zero => cases xs with
      | nil => simp [putAt]
      | cons x xs =>
        cases i with
        | zero => simp [putAt]
        | succ i => simp only [putAt, List.getElem?_cons_succ, ih]; simp; 
    | succ n => cases i with
      | zero => simp [putAt]
      | succ i => simp only [putAt, List.getElem?_cons_succ, ih]; simp; congr 1; simp; omega
theorem repK_eq (x : α) (n : Nat) : ∀ k : List α → β, repK x n k = k (List.replicate n x) := by
  induction n with
  | zero => intro k; rfl
  | succ n ih => intro k; exact ih fun r => k (x :: r)

theorem beq_ne {a b : Nat} (h : a ≠ b) : Nat.beq a b = false := by
  cases hb : Nat.beq a b
  · rfl
  · exact absurd (Nat.eq_of_beq_eq_true hb) h
theorem lk_nil (n : Nat) : lk (.nil : AL α) n = none := rfl
theorem lk_cons (k : Nat) (v : α) (t : AL α) (n : Nat) : lk (.cons k v t) n = if k = n then some v else lk t n := by
  unfold lk
  by_cases h : k = n
  · subst h; simp
  · have : Nat.beq k n = false := beq_ne h
    simp [this, h]
theorem lk2_eq (l m : AL α) (n : Nat) : lk2 l m n = (lk l n).or (lk m n) := by
  induction l with
  | nil => simp [lk2, lk]
  | cons k v t ih =>
    by_cases h : k = n
    · subst h; simp [lk2, lk]
    · have hb : Nat.beq k n = false := beq_ne h
      rw [lk_cons, if_neg h, ← ih]
      unfold lk2; simp [hb]
def put (l : AL α) (n : Nat) (x : α) : AL α := match l with
  | .nil => .cons n x .nil
  | .cons i v t => if i = n then .cons n x t else .cons i v (put t n x)
theorem putK_eq (l : AL α) (n : Nat) (x : α) : ∀ k : AL α → β, putK l n x k = k (put l n x) := by
  induction l with
  | nil => intro k; rfl
  | cons i v t ih =>
    intro k
    by_cases h : i = n
    · subst h; simp [putK, put]
    · have hb : Nat.beq i n = false := beq_ne h
      have := ih fun r => k (.cons i v r)
      simp only [put, h, if_false]
      rw [← this]; unfold putK; simp [hb]
theorem lk_put (l : AL α) (n : Nat) (x : α) (m : Nat) : lk (put l n x) m = if n = m then some x else lk l m := by
  induction l with
  | nil => simp [put, lk_cons, lk_nil]
  | cons i v t ih =>
    simp only [put]
    by_cases h : i = n
    · subst h; simp only [if_true, lk_cons]; split <;> simp_all
    · simp only [h, if_false, lk_cons, ih]; split <;> split <;> simp_all
def upd (l : AL α) (n : Nat) (x : α) : AL α := match l with
  | .nil => .nil
  | .cons i v t => if i = n then .cons n x t else .cons i v (upd t n x)
theorem updK_eq (l : AL α) (n : Nat) (x : α) : ∀ k : AL α → β, updK l n x k = k (upd l n x) := by
  induction l with
  | nil => intro k; rfl
  | cons i v t ih =>
    intro k
    by_cases h : i = n
    · subst h; simp [updK, upd]
    · have hb : Nat.beq i n = false := beq_ne h
      have := ih fun r => k (.cons i v r)
      simp only [upd, h, if_false]
      rw [← this]; unfold updK; simp [hb]
theorem lk_upd (l : AL α) (n : Nat) (x : α) (m : Nat) : lk (upd l n x) m = if n = m then (lk l m).map fun _ => x else lk l m := by
  induction l with
  | nil => simp [upd, lk_nil]
  | cons i v t ih =>
    simp only [upd]
    by_cases h : i = n
    · subst h; simp only [if_true, lk_cons]; split <;> simp_all
    · simp only [h, if_false, lk_cons, ih]; split <;> split <;> simp_all
/-- without what has that number -/
def del (l : AL α) (n : Nat) : AL α := match l with
  | .nil => .nil
  | .cons i v t => if i = n then del t n else .cons i v (del t n)
theorem delK_eq (l : AL α) (n : Nat) : ∀ k : AL α → β, delK l n k = k (del l n) := by
  induction l with
  | nil => intro k; rfl
  | cons i v t ih =>
    intro k
    by_cases h : i = n
    · subst h
      have := ih k
      simp only [del, if_true]
      rw [← this]; unfold delK; simp
    · have hb : Nat.beq i n = false := beq_ne h
      have := ih fun r => k (.cons i v r)
      simp only [del, h, if_false]
      rw [← this]; unfold delK; simp [hb]
theorem lk_del (l : AL α) (n m : Nat) : lk (del l n) m = if n = m then none else lk l m := by
  induction l with
  | nil => simp [del, lk_nil]
  | cons i v t ih =>
    simp only [del]
    by_cases h : i = n
    · subst h; simp only [if_true, lk_cons, ih]; split <;> simp_all
    · simp only [h, if_false, lk_cons, ih]; split <;> split <;> simp_all
theorem lk_dropFrom (l : AL α) (n m : Nat) (hm : m < n) : lk (dropFrom n l) m = lk l m := by
  induction l with
  | nil => rfl
  | cons i v t ih =>
    cases h : Nat.ble n i with
    | true =>
      have hi : n ≤ i := Nat.le_of_ble_eq_true h
      have : dropFrom n (.cons i v t) = dropFrom n t := by unfold dropFrom; simp [h]
      rw [this, ih, lk_cons, if_neg (by omega)]
    | false =>
      have : dropFrom n (.cons i v t) = .cons i v t := by unfold dropFrom; simp [h]
      rw [this]
/-- a number that is there stays, or goes with all from n on -/
theorem lk_dropFrom_some {l : AL α} {n m : Nat} {x : α} (h : lk (dropFrom n l) m = some x) : ∃ y, lk l m = some y := by
  induction l with
  | nil => simp [dropFrom, lk_nil] at h
  | cons i v t ih =>
    cases hb : Nat.ble n i with
    | true =>
      have e : dropFrom n (.cons i v t) = dropFrom n t := by unfold dropFrom; simp [hb]
      rw [e] at h
      obtain ⟨y, hy⟩ := ih h
      rw [lk_cons]; split <;> exact ⟨_, by first | rfl | exact hy⟩
    | false =>
      have e : dropFrom n (.cons i v t) = .cons i v t := by unfold dropFrom; simp [hb]
      rw [e] at h; exact ⟨_, h⟩

/-- each number is there once -/
def Uniq : AL α → Prop
  | .nil => True
  | .cons k _ t => lk t k = none ∧ Uniq t
theorem Uniq.upd {l : AL α} (h : Uniq l) (n : Nat) (x : α) : Uniq (upd l n x) := by
  induction l with
  | nil => trivial
  | cons k v t ih =>
    simp only [Den.upd]
    split
    · subst_vars; exact h
    · exact ⟨by rw [lk_upd]; split <;> simp [h.1], ih h.2⟩
theorem Uniq.del {l : AL α} (h : Uniq l) (n : Nat) : Uniq (del l n) := by
  induction l with
  | nil => trivial
  | cons k v t ih =>
    simp only [Den.del]
    split
    · exact ih h.2
    · exact ⟨by rw [lk_del]; split <;> simp [h.1], ih h.2⟩
theorem Uniq.dropFrom {l : AL α} (h : Uniq l) (n : Nat) : Uniq (dropFrom n l) := by
  induction l with
  | nil => trivial
  | cons k v t ih =>
    cases hb : Nat.ble n k with
    | true =>
      have e : Den.dropFrom n (.cons k v t) = Den.dropFrom n t := by unfold Den.dropFrom; simp [hb]
      rw [e]; exact ih h.2
    | false =>
      have e : Den.dropFrom n (.cons k v t) = .cons k v t := by unfold Den.dropFrom; simp [hb]
      rw [e]; exact h
theorem Uniq.lk_dropFrom {l : AL α} (h : Uniq l) {n m : Nat} {x : α} (hm : lk (Den.dropFrom n l) m = some x) : lk l m = some x := by
  induction l with
  | nil => exact hm
  | cons k v t ih =>
    cases hb : Nat.ble n k with
    | true =>
      have e : Den.dropFrom n (.cons k v t) = Den.dropFrom n t := by unfold Den.dropFrom; simp [hb]
      rw [e] at hm
      have h1 := ih h.2 hm
      rw [lk_cons]; split
      · subst_vars; rw [h.1] at h1; cases h1
      · exact h1
    | false =>
      have e : Den.dropFrom n (.cons k v t) = .cons k v t := by unfold Den.dropFrom; simp [hb]
      rw [e] at hm; exact hm
end
end Go.Den
