/- A part of a machine that computes what the program computes, and of the proof that it does -/
import Derived.Test.YtngjccjmhlhlbaaGreatDenL
import Derived.Laws.Cover1
import Derived.Laws.Cover3
import Derived.Laws.StructEq
set_option linter.unusedVariables false
set_option linter.unusedSimpArgs false
set_option linter.unusedSectionVars false
namespace Go.Den
open Go

variable [Val]

section
variable {P : Program} {E : Env} {rec : Rec} {loc env : Regs} {h : Heap} {f : K} {r : Fin2} {o : Oper}

theorem mkInt_eq (k : IntKind) (n : Int) : mkInt k n = .int k n := by cases n <;> simp only [mkInt, forceNat_eq] <;> rfl

theorem IntKind.wrap_i64_small {n : Int} (h1 : -9223372036854775808 ≤ n) (h2 : n ≤ 9223372036854775807) : IntKind.i64.wrap n = n := by
  change (if (true && decide (n % 18446744073709551616 ≥ 9223372036854775808)) = true then n % 18446744073709551616 - 18446744073709551616 else n % 18446744073709551616) = n
  by_cases hc : n % 18446744073709551616 ≥ 9223372036854775808
  · rw [if_pos (by simpa using hc)]; omega
  · rw [if_neg (by simpa using hc)]; omega

theorem wrapF_eq (k : IntKind) (n : Int) : wrapF k n = k.wrap n := by
  unfold wrapF
  cases hk : is64 k with
  | false => rfl
  | true =>
    obtain rfl : k = .i64 := by cases k <;> first | rfl | cases hk
    cases hs : small n with
    | false => rfl
    | true =>
      show n = IntKind.i64.wrap n
      refine (IntKind.wrap_i64_small ?_ ?_).symm <;> cases n <;> have := Nat.le_of_ble_eq_true hs <;> simp <;> omega

theorem kindBeq_eq {j k : IntKind} (h : kindBeq j k = true) : j = k := by cases j <;> cases k <;> first | rfl | cases h

theorem intBeq_eq (a b : Int) : intBeq a b = (a == b) := by
  cases a <;> cases b <;> simp [intBeq] <;> first | rfl | skip
  all_goals (rename_i m n; cases h : Nat.beq m n)
  all_goals first
    | (have := Nat.eq_of_beq_eq_true h; subst this; simp)
    | (have : m ≠ n := fun e => by subst e; simp at h
       simp [this]; try omega)

theorem blt_eq (a b : Nat) : Nat.blt a b = decide (a < b) := by
  cases h : Nat.blt a b with
  | true => have := Nat.le_of_ble_eq_true h; simp; omega
  | false =>
    have : ¬ a < b := fun e => by have : Nat.blt a b = true := Nat.ble_eq.mpr e; rw [h] at this; cases this
    simp [this]
theorem intBlt_eq (a b : Int) : intBlt a b = decide (a < b) := by
  cases a <;> cases b <;> simp only [intBlt, blt_eq] <;> simp <;> omega
theorem bnot_eq (b : Bool) : bnot b = !b := by cases b <;> rfl
theorem bor_eq (a b : Bool) : bor a b = (a || b) := by cases a <;> rfl
theorem band_eq (a b : Bool) : band a b = (a && b) := by cases a <;> rfl
theorem boolBeq_eq (a b : Bool) : boolBeq a b = (a == b) := by cases a <;> cases b <;> rfl

theorem shN_eq (k : IntKind) (n : Nat) : shN k n = min n k.bits := by
  unfold shN
  cases h : Nat.ble n k.bits with
  | true => have := Nat.le_of_ble_eq_true h; simp [ifb, Nat.min_def, this]
  | false =>
    have : ¬ n ≤ k.bits := fun e => by have : Nat.ble n k.bits = true := Nat.ble_eq.mpr e; rw [h] at this; cases this
    simp [ifb, Nat.min_def, this]

theorem run_pure_v {c : Value} (w : World) : (pure c : Sem Value).run P w = .ok c w := rfl

theorem wrap_mod (k : IntKind) (n : Nat) : k.wrap ((n % 2 ^ k.bits : Nat) : Int) = k.wrap (n : Int) := by
  simp only [IntKind.wrap]
  have : ((n % 2 ^ k.bits : Nat) : Int) % (2 ^ k.bits : Int) = (n : Int) % (2 ^ k.bits : Int) := by
    rw [Int.natCast_emod]; simp
  rw [this]

theorem orInt_sound {k : IntKind} {a b : Int} {v : AV} (e : orInt k a b = some v) (w : World) (t : TypeId) : ∃ c, (Go.binOp .or t (.int k a) (.int k b)).run P w = .ok c w ∧ ∀ I, RelI w I v c := by
  cases a with
  | negSucc _ => cases e
  | ofNat x =>
  cases b with
  | negSucc _ => cases e
  | ofNat y =>
  have e' : some (mkInt k (k.wrap (Nat.lor x y : Nat))) = some v := e
  cases e'
  refine ⟨.int k (k.wrap ((BitVec.ofInt k.bits (Int.ofNat x) ||| BitVec.ofInt k.bits (Int.ofNat y)).toNat)), ?_, fun I => ?_⟩
  · simp [Go.binOp, Op.intBits]
  · rw [mkInt_eq]
    have : (x ||| y) % 2 ^ k.bits = x % 2 ^ k.bits ||| y % 2 ^ k.bits := by
      apply Nat.eq_of_testBit_eq; intro i; simp [Nat.testBit_mod_two_pow]; cases decide (i < k.bits) <;> simp
    have h1 := wrap_mod k (x ||| y)
    rw [this] at h1
    have h2 : (Nat.lor x y) = x ||| y := rfl
    have h3 : (BitVec.ofInt k.bits (Int.ofNat x) ||| BitVec.ofInt k.bits (Int.ofNat y)).toNat = x % 2 ^ k.bits ||| y % 2 ^ k.bits := by simp
    rw [h2, ← h1, h3]
    exact .int _ _

theorem binInt_sound {op : BinOp} {k : IntKind} {a b : Int} {v : AV} (e : binInt op k a b = some v) (w : World) (t : TypeId) :
    ∃ c, (Go.binOp op t (.int k a) (.int k b)).run P w = .ok c w ∧ ∀ I, RelI w I v c := by
  cases op <;> first | cases e | skip
  case or => exact orInt_sound e w t
  case quo =>
    obtain ⟨h0, h1⟩ := ifb_none' e
    rw [intBeq_eq] at h0
    simp at h0
    cases h1
    exact ⟨.int k (k.wrap (a.tdiv b)), by simp [Go.binOp, Op.intDiv, h0], fun I => by rw [mkInt_eq, wrapF_eq]; exact .int _ _⟩
  case rem =>
    obtain ⟨h0, h1⟩ := ifb_none' e
    rw [intBeq_eq] at h0
    simp at h0
    cases h1
    exact ⟨.int k (a.tmod b), by simp [Go.binOp, Op.intDiv, h0], fun I => by rw [mkInt_eq]; exact .int _ _⟩
  all_goals refine ⟨_, by simp [Go.binOp, Op.intArith, Op.intCmp]; rfl, fun I => ?_⟩
  all_goals simp only [mkInt_eq, wrapF_eq, intBeq_eq, intBlt_eq, bnot_eq]
  all_goals first
    | exact .int _ _
    | exact .bool _
    | (have hh : (!decide (b < a)) = decide (a ≤ b) := by by_cases h : b < a <;> simp [h] <;> omega
       rw [hh]; exact .bool _)
    | (have hh : (!decide (a < b)) = decide (b ≤ a) := by by_cases h : a < b <;> simp [h] <;> omega
       rw [hh]; exact .bool _)

theorem shiftInt_sound {op : BinOp} {k k' : IntKind} {a b : Int} {v : AV} (e : shiftInt op k a b = some v) (w : World) (t : TypeId) :
    ∃ c, (Go.binOp op t (.int k a) (.int k' b)).run P w = .ok c w ∧ ∀ I, RelI w I v c := by
  cases op <;> first | cases e | skip
  all_goals (cases b <;> first | cases e | skip)
  all_goals refine ⟨_, by simp [Go.binOp, Op.shift]; rfl, fun I => ?_⟩
  all_goals (simp only [mkInt_eq, shN_eq]; exact .int _ _)

/-! ### strings -/
theorem listBeq_eq : ∀ a b : List Nat, listBeq a b = (a == b)
  | [], [] => rfl
  | [], _ :: _ => rfl
  | _ :: _, [] => rfl
  | x :: a, y :: b => by
    change ifb (Nat.beq x y) (listBeq a b) false = _
    rw [listBeq_eq a b]
    cases h : Nat.beq x y with
    | true => have := Nat.eq_of_beq_eq_true h; subst this; simp [ifb]
    | false =>
      have : x ≠ y := fun e => by subst e; simp at h
      simp [ifb, this]
theorem bytesLess_eq : ∀ a b : List UInt8, bytesLess (a.map UInt8.toNat) (b.map UInt8.toNat) = Op.bytesLess a b
  | [], [] => rfl
  | [], _ :: _ => rfl
  | _ :: _, [] => rfl
  | x :: a, y :: b => by
    change ifb (Nat.blt x.toNat y.toNat) true (ifb (Nat.beq x.toNat y.toNat) (bytesLess (a.map UInt8.toNat) (b.map UInt8.toNat)) false) = (decide (x < y) || (x == y && Op.bytesLess a b))
    rw [bytesLess_eq a b, blt_eq]
    have h1 : decide (x.toNat < y.toNat) = decide (x < y) := rfl
    rw [h1]
    cases decide (x < y) with
    | true => rfl
    | false =>
      cases h : Nat.beq x.toNat y.toNat with
      | true =>
        have := Nat.eq_of_beq_eq_true h
        have : x = y := UInt8.toNat_inj.1 this
        subst this; simp [ifb]
      | false =>
        have : x ≠ y := fun e => by subst e; simp at h
        simp [ifb, this]

theorem bytesOfStr_toList (s : ByteArray) : bytesOfStr s = s.toList.map UInt8.toNat := by unfold bytesOfStr; rw [ByteArray.toList_eq]
theorem bytesOfStr_beq (a b : ByteArray) : (bytesOfStr a == bytesOfStr b) = (a.toList == b.toList) := by
  rw [bytesOfStr_toList, bytesOfStr_toList]
  generalize a.toList = x
  generalize b.toList = y
  by_cases h : x = y
  · subst h; simp
  · have : x.map UInt8.toNat ≠ y.map UInt8.toNat := fun e => h (List.map_inj_right (fun _ _ => UInt8.toNat_inj.1) |>.1 e)
    rw [beq_eq_false_iff_ne.2 h, beq_eq_false_iff_ne.2 this]

theorem bytesLess_str (a b : ByteArray) : bytesLess (bytesOfStr a) (bytesOfStr b) = Op.bytesLess a.toList b.toList := by rw [bytesOfStr_toList a, bytesOfStr_toList b, bytesLess_eq]

theorem binStr_sound {op : BinOp} {a b : ByteArray} {v : AV} (e : binStr op (bytesOfStr a) (bytesOfStr b) = some v) (w : World) (t : TypeId) :
    ∃ c, (Go.binOp op t (.string a) (.string b)).run P w = .ok c w ∧ ∀ I, RelI w I v c := by
  cases op <;> first | cases e | skip
  case add =>
    have e' : appK (bytesOfStr a) (bytesOfStr b) (fun l => ifb (Nat.ble (len l) 9223372036854775807) (some (.str l)) none) = some v := e
    rw [appK_eq] at e'
    obtain ⟨h1, h2⟩ := ifb_none e'
    cases h2
    have h1 := Nat.le_of_ble_eq_true h1
    rw [len_eq] at h1
    have hab : bytesOfStr a ++ bytesOfStr b = bytesOfStr (a ++ b) := by simp [bytesOfStr]
    have hsz : a.size + b.size ≤ 9223372036854775807 := by simpa [bytesOfStr] using h1
    exact ⟨.string (a ++ b), by rw [binOp_string_add, run_string_add_sum w a b hsz], fun I => by rw [hab]; exact .str _⟩
  all_goals refine ⟨_, by simp [Go.binOp, Op.stringOp]; rfl, fun I => ?_⟩
  all_goals simp only [listBeq_eq, bytesOfStr_beq, bnot_eq, bor_eq, bytesLess_str]
  all_goals first
    | exact .bool _
    | (rw [Bool.not_or]; exact .bool _)

/-! ### one operation on two values -/
theorem run_eqGuard_plain {op : BinOp} {t : TypeId} {x y : Operand} {a b : Value} (h1 : ∀ u, a ≠ .agg u) (h2 : a ≠ .nilIface) (w : World) : (eqGuard op t x y a b).run P w = .ok () w := by
  cases op <;> cases a <;> first | rfl | exact absurd rfl h2 | exact absurd rfl (h1 _)

theorem eqOp_some {op : BinOp} {b : Bool} {v : AV} (e : eqOp op b = some v) : (op = .eql ∧ v = .bool b) ∨ (op = .neq ∧ v = .bool (!b)) := by
  cases op <;> first | (cases e; first | exact .inl ⟨rfl, rfl⟩ | exact .inr ⟨rfl, by rw [bnot_eq]⟩) | cases e

theorem isNil_some {v : AV} (h : isNil v = true) : v = .nil := by cases v <;> first | rfl | cases h

theorem nilEq_sound {x y v : AV} {op : BinOp} {E : Env} {t : Nat} {w : World} {φ : Pos} {I : Imm} {c d : Value} (hT : TypesOk P E) (hx : RelV w φ I x c) (hy : RelV w φ I y d) (e : nilEq op x y (E.T t) = some v) :
    ∃ u, (Go.binOp op t c d).run P w = .ok u w ∧ (∀ I, RelI w I v u) ∧ (∀ u, c ≠ .agg u) ∧ c ≠ .nilIface := by
  obtain ⟨h1, e1⟩ := ifb_none e
  obtain ⟨i, hi, e2⟩ := ob_some e1
  obtain ⟨h2, e3⟩ := ifb_none e2
  obtain ⟨b, hb, e4⟩ := ob_some e3
  obtain rfl := isNil_some h1
  obtain rfl := hy.nil_inv
  obtain ⟨dd, hd, hdo⟩ := (hT t i hi).und
  obtain ⟨el, bts, zero, rfl, hinfo⟩ := isSliceTd_some hdo h2
  have key : ∃ a n cp, c = .slice a n cp ∧ a.isNone = b := by
    cases x with
    | nil => cases hb; exact ⟨_, _, _, hx.nil_inv, rfl⟩
    | sl nn z xs =>
      have hs := hx.sl_inv
      have hb' : ifb nn (some false) (@List.rec Row (fun _ => Option Bool) none (fun _ _ _ => some false) xs) = some b := hb
      cases hs with
      | sl0 _ _ a cap hnn h0 =>
        cases nn with
        | true => cases hb'; have := hnn rfl; exact ⟨_, _, _, rfl, by cases a <;> simp_all⟩
        | false => cases hb'
      | sl _ _ _ B off cap cell hn hcap hrow hcell hone hrel =>
        refine ⟨_, _, _, rfl, ?_⟩
        cases nn with
        | true => cases hb'; rfl
        | false => cases xs with
          | nil => cases hb'
          | cons _ _ => cases hb'; rfl
    | ref k z off n cap =>
      have hb' : some false = some b := hb
      cases hb'
      obtain ⟨L, hL, hLz, hrv⟩ := hx.ref_inv
      rcases hrv with ⟨c', rfl, _⟩ | ⟨_, ⟨o, rfl⟩, _⟩ <;> exact ⟨_, _, _, rfl, rfl⟩
    | _ => cases hb
  obtain ⟨a, n, cp, rfl, hab⟩ := key
  refine ⟨.bool (if op = .eql then b else !b), ?_, fun I => ?_, fun u => by simp, by simp⟩
  · have heq := run_equal_slice_nil (P := P) w t el a n cp hd
    rcases eqOp_some e4 with ⟨rfl, rfl⟩ | ⟨rfl, rfl⟩ <;> simp [Go.binOp, heq, hab]
  · rcases eqOp_some e4 with ⟨rfl, rfl⟩ | ⟨rfl, rfl⟩ <;> exact .bool _

theorem tri_some {t f : Bool} {v : AV} (e : tri t f = some v) : (t = true ∧ v = .bool true) ∨ (f = true ∧ v = .bool false) := by
  cases t <;> cases f <;> simp_all [tri, ifb]

theorem symCmp_int {op : BinOp} {lo hi a m : Int} {v : AV} (h1 : lo ≤ a) (h2 : a ≤ hi) (e : symCmp op lo hi m = some v) : binInt op .i64 a m = some v ∧ isShift op = false := by
  cases op <;> first | cases e | skip
  all_goals refine ⟨?_, rfl⟩
  all_goals rcases tri_some e with ⟨k, rfl⟩ | ⟨k, rfl⟩
  all_goals simp only [intBlt_eq, intBeq_eq, bnot_eq, bor_eq, binInt, decide_eq_true_eq, Bool.or_eq_true, Bool.not_eq_true', decide_eq_false_iff_not, Option.some.injEq, AV.bool.injEq, Bool.false_eq_true] at k ⊢
  all_goals first
    | omega
    | simp only [decide_eq_true_eq, decide_eq_false_iff_not, beq_iff_eq, beq_eq_false_iff_ne, ne_eq, Bool.not_eq_true', Bool.not_eq_false']; omega

theorem symFlip_int {op : BinOp} {lo hi a m : Int} {v : AV} (h1 : lo ≤ a) (h2 : a ≤ hi) (e : symCmp (flipOp op) lo hi m = some v) : binInt op .i64 m a = some v ∧ isShift op = false := by
  have := symCmp_int h1 h2 e
  cases op <;> first | cases e | skip
  all_goals refine ⟨?_, rfl⟩
  all_goals rw [← this.1]
  all_goals simp only [flipOp, binInt, intBeq_eq]
  all_goals congr 2; rw [Bool.eq_iff_iff]; simp only [beq_iff_eq, bnot_eq, Bool.not_eq_true', beq_eq_false_iff_ne, ne_eq]; exact ⟨fun h => (by first | exact h.symm | exact fun q => h q.symm), fun h => (by first | exact h.symm | exact fun q => h q.symm)⟩

theorem symSelf_int {op : BinOp} {a : Int} {v : AV} (e : symSelf op = some v) : binInt op .i64 a a = some v ∧ isShift op = false := by
  cases op <;> first | cases e | skip
  all_goals refine ⟨?_, rfl⟩
  all_goals simp [binInt, intBlt_eq, intBeq_eq, bnot_eq]


/-! ### strings that are not known -/
theorem bytesLess_irrefl : ∀ a : List Nat, bytesLess a a = false
  | [] => rfl
  | x :: a => by
    change ifb (Nat.blt x x) true (ifb (Nat.beq x x) (bytesLess a a) false) = false
    have h1 : Nat.blt x x = false := by rw [blt_eq]; simp
    rw [h1, bytesLess_irrefl a]; simp [ifb]
theorem bytesLess_cons (x y : Nat) (a b : List Nat) : bytesLess (x :: a) (y :: b) = true ↔ x < y ∨ (x = y ∧ bytesLess a b = true) := by
  change ifb (Nat.blt x y) true (ifb (Nat.beq x y) (bytesLess a b) false) = true ↔ _
  cases h1 : Nat.blt x y with
  | true =>
    have : x < y := by rw [blt_eq] at h1; exact of_decide_eq_true h1
    simp [ifb, this]
  | false =>
    have h1' : ¬ x < y := by rw [blt_eq] at h1; exact of_decide_eq_false h1
    cases h2 : Nat.beq x y with
    | true => have := Nat.eq_of_beq_eq_true h2; subst this; simp [ifb]
    | false =>
      have : x ≠ y := fun e => by subst e; simp at h2
      simp [ifb, h1', this]
theorem bytesLess_trans : ∀ a b c : List Nat, bytesLess a b = true → bytesLess b c = true → bytesLess a c = true
  | [], [], _, h, _ => by cases h
  | _ :: _, [], _, h, _ => by cases h
  | _, _ :: _, [], _, h => by cases h
  | [], _ :: _, _ :: _, _, _ => rfl
  | x :: a, y :: b, z :: c, h1, h2 => by
    rw [bytesLess_cons] at *
    rcases h1 with h1 | ⟨rfl, h1⟩ <;> rcases h2 with h2 | ⟨rfl, h2⟩
    · exact .inl (Nat.lt_trans h1 h2)
    · exact .inl h1
    · exact .inl h2
    · exact .inr ⟨rfl, bytesLess_trans a b c h1 h2⟩
theorem bytesLess_total : ∀ a b : List Nat, bytesLess a b = false → a = b ∨ bytesLess b a = true
  | [], [], _ => .inl rfl
  | [], _ :: _, h => by cases h
  | _ :: _, [], _ => .inr rfl
  | x :: a, y :: b, h => by
    have h' : ¬ (x < y ∨ (x = y ∧ bytesLess a b = true)) := by rw [← bytesLess_cons, h]; simp
    rcases Nat.lt_trichotomy x y with h1 | h1 | h1
    · exact absurd (.inl h1) h'
    · subst h1
      have : bytesLess a b = false := by cases hq : bytesLess a b with
        | false => rfl
        | true => exact absurd (.inr ⟨rfl, hq⟩) h'
      rcases bytesLess_total a b this with rfl | h2
      · exact .inl rfl
      · exact .inr ((bytesLess_cons _ _ _ _).2 (.inr ⟨rfl, h2⟩))
    · exact .inr ((bytesLess_cons _ _ _ _).2 (.inl h1))
theorem bytesLess_asymm {a b : List Nat} (h : bytesLess a b = true) : bytesLess b a = false := by
  cases hq : bytesLess b a with
  | false => rfl
  | true => have := bytesLess_trans _ _ _ h hq; rw [bytesLess_irrefl] at this; cases this

theorem restHi_some {hi : Option (List Nat)} {x l : List Nat} {b : Bool} (hh : ∀ h, hi = some h → bytesLess x h = true) (e : restHi hi l = some b) : b = true ∧ bytesLess x l = true := by
  cases hi with
  | none => cases e
  | some h =>
    rcases ifb_some (show ifb (bytesLess l h) none (some true) = some b from e) with ⟨_, h2⟩ | ⟨h1, h2⟩
    · cases h2
    · cases h2
      refine ⟨rfl, ?_⟩
      rcases bytesLess_total _ _ h1 with rfl | h3
      · exact hh _ rfl
      · exact bytesLess_trans _ _ _ (hh _ rfl) h3
def CmpIs (x l : List Nat) (b : Bool) : Prop := if b then bytesLess x l = true else bytesLess l x = true
theorem restCmp_some {lo hi : Option (List Nat)} {x l : List Nat} {b : Bool} (hl : ∀ k, lo = some k → bytesLess k x = true) (hh : ∀ h, hi = some h → bytesLess x h = true) (e : restCmp lo hi l = some b) : CmpIs x l b := by
  cases lo with
  | none => obtain ⟨rfl, h⟩ := restHi_some hh e; exact h
  | some k =>
    rcases ifb_some (show ifb (bytesLess k l) (restHi hi l) (some false) = some b from e) with ⟨_, h2⟩ | ⟨h1, h2⟩
    · obtain ⟨rfl, h⟩ := restHi_some hh h2; exact h
    · cases h2
      show bytesLess l x = true
      rcases bytesLess_total _ _ h1 with rfl | h3
      · exact hl _ rfl
      · exact bytesLess_trans _ _ _ h3 (hl _ rfl)
theorem strCmp_some {lo hi : Option (List Nat)} {x : List Nat} (hl : ∀ k, lo = some k → bytesLess k x = true) (hh : ∀ h, hi = some h → bytesLess x h = true) : ∀ (pre l : List Nat) (b : Bool), strCmp lo hi pre l = some b → CmpIs (pre ++ x) l b
  | [], l, b, e => restCmp_some hl hh e
  | p :: pre, [], b, e => by cases e; rfl
  | p :: pre, q :: l, b, e => by
    rcases ifb_some (show ifb (Nat.beq p q) (strCmp lo hi pre l) (some (Nat.blt p q)) = some b from e) with ⟨h1, h2⟩ | ⟨h1, h2⟩
    · have := Nat.eq_of_beq_eq_true h1
      subst this
      have ih := strCmp_some hl hh pre l b h2
      unfold CmpIs at *
      cases b with
      | true => exact (bytesLess_cons _ _ _ _).2 (.inr ⟨rfl, ih⟩)
      | false => exact (bytesLess_cons _ _ _ _).2 (.inr ⟨rfl, ih⟩)
    · cases h2
      have hne : p ≠ q := fun he => by subst he; simp at h1
      unfold CmpIs
      cases hq : Nat.blt p q with
      | true => exact (bytesLess_cons _ _ _ _).2 (.inl (by rw [blt_eq] at hq; exact of_decide_eq_true hq))
      | false =>
        have h3 : ¬ p < q := by rw [blt_eq] at hq; exact of_decide_eq_false hq
        exact (bytesLess_cons _ _ _ _).2 (.inl (by omega))

theorem isPre_false : ∀ (l k x : List Nat), bytesLess l k = true → isPre l k = false → bytesLess (l ++ x) k = true
  | [], k, x, _, h => by cases h
  | a :: l, [], x, h, _ => by cases h
  | a :: l, b :: k, x, h, h2 => by
    rw [List.cons_append, bytesLess_cons]
    rcases (bytesLess_cons _ _ _ _).1 h with h | ⟨rfl, h3⟩
    · exact .inl h
    · refine .inr ⟨rfl, isPre_false l k x h3 ?_⟩
      have h2 : ifb (Nat.beq a a) (isPre l k) false = false := h2
      have : Nat.beq a a = true := by simp
      rw [this] at h2; exact h2
theorem bytesLess_append : ∀ (l x : List Nat), x = [] ∨ bytesLess l (l ++ x) = true
  | [], [] => .inl rfl
  | [], _ :: _ => .inr rfl
  | a :: l, x => by
    rcases bytesLess_append l x with h | h
    · exact .inl h
    · exact .inr (by rw [List.cons_append, bytesLess_cons]; exact .inr ⟨rfl, h⟩)
theorem tailCmp_some {lo hi : Option (List Nat)} {x l : List Nat} {b : Bool} (hl : ∀ k, lo = some k → bytesLess k x = true) (hh : ∀ h, hi = some h → bytesLess x h = true) (e : tailCmp lo hi l = some b) : CmpIs x (l ++ x) b := by
  have hiCase : restHi hi l = some b → CmpIs x (l ++ x) b := fun e => by
    obtain ⟨rfl, h⟩ := restHi_some hh e
    show bytesLess x (l ++ x) = true
    rcases bytesLess_append l x with h2 | h2
    · subst h2; rw [List.append_nil]; exact h
    · exact bytesLess_trans _ _ _ h h2
  cases lo with
  | none => exact hiCase e
  | some k =>
    rcases ifb_some (show ifb (band (bytesLess l k) (bnot (isPre l k))) (some false) (restHi hi l) = some b from e) with ⟨h1, h2⟩ | ⟨_, h2⟩
    · cases h2
      have h3 : bytesLess l k = true ∧ isPre l k = false := by
        cases h4 : bytesLess l k <;> cases h5 : isPre l k <;> simp_all [band, bnot]
      show bytesLess (l ++ x) x = true
      exact bytesLess_trans _ _ _ (isPre_false l k x h3.1 h3.2) (hl _ rfl)
    · exact hiCase h2
theorem CmpIs.flip {x l : List Nat} {b : Bool} (h : CmpIs x l b) : CmpIs l x (!b) := by cases b <;> exact h
theorem catCmp_some {lo hi : Option (List Nat)} {x : List Nat} (hl : ∀ k, lo = some k → bytesLess k x = true) (hh : ∀ h, hi = some h → bytesLess x h = true) : ∀ (pre qre : List Nat) (b : Bool), catCmp lo hi pre qre = some b → CmpIs (pre ++ x) (qre ++ x) b
  | [], [], b, e => by cases e
  | [], q :: qs, b, e => tailCmp_some hl hh e
  | p :: ps, [], b, e => by
    obtain ⟨c, hc, e2⟩ := ob_some (show ob (tailCmp lo hi (p :: ps)) (fun b => some (bnot b)) = some b from e)
    cases e2
    rw [bnot_eq]
    exact (tailCmp_some hl hh hc).flip
  | p :: ps, q :: qs, b, e => by
    rcases ifb_some (show ifb (Nat.beq p q) (catCmp lo hi ps qs) (some (Nat.blt p q)) = some b from e) with ⟨h1, h2⟩ | ⟨h1, h2⟩
    · have := Nat.eq_of_beq_eq_true h1
      subst this
      have ih := catCmp_some hl hh ps qs b h2
      unfold CmpIs at *
      cases b with
      | true => exact (bytesLess_cons _ _ _ _).2 (.inr ⟨rfl, ih⟩)
      | false => exact (bytesLess_cons _ _ _ _).2 (.inr ⟨rfl, ih⟩)
    · cases h2
      have hne : p ≠ q := fun he => by subst he; simp at h1
      unfold CmpIs
      cases hq : Nat.blt p q with
      | true => exact (bytesLess_cons _ _ _ _).2 (.inl (by rw [blt_eq] at hq; exact of_decide_eq_true hq))
      | false =>
        have h3 : ¬ p < q := by rw [blt_eq] at hq; exact of_decide_eq_false hq
        exact (bytesLess_cons _ _ _ _).2 (.inl (by omega))

theorem cmpOp_str {op : BinOp} {x l : List Nat} {b : Bool} {v : AV} (h : CmpIs x l b) (e : cmpOp op b = some v) : binStr op x l = some v := by
  have h1 : bytesLess x l = b := by cases b with
    | true => exact h
    | false => exact bytesLess_asymm h
  have h2 : listBeq x l = false := by
    rw [listBeq_eq, beq_eq_false_iff_ne]
    intro he; subst he
    cases b <;> (unfold CmpIs at h; simp [bytesLess_irrefl] at h)
  cases op <;> first | cases e | skip
  all_goals simp only [binStr, h1, h2, bor_eq, bnot_eq, Bool.or_false]
  all_goals first | rfl | (cases b <;> rfl)
theorem cmpFlip_str {op : BinOp} {x l : List Nat} {b : Bool} {v : AV} (h : CmpIs x l b) (e : cmpOp (flipOp op) b = some v) : binStr op l x = some v := by
  have h1 : bytesLess l x = !b := by cases b with
    | true => exact bytesLess_asymm h
    | false => exact h
  have h2 : listBeq l x = false := by
    rw [listBeq_eq, beq_eq_false_iff_ne]
    intro he; subst he
    cases b <;> (unfold CmpIs at h; simp [bytesLess_irrefl] at h)
  cases op <;> first | cases e | skip
  all_goals simp only [binStr, h1, h2, bor_eq, bnot_eq, Bool.or_false]
  all_goals first | rfl | (cases b <;> rfl)
theorem catOp_str {op : BinOp} {x l : List Nat} {b : Option Bool} {v : AV} (hne : x ≠ l) (h : ∀ c, b = some c → CmpIs x l c) (e : catOp op b = some v) : binStr op x l = some v := by
  have h2 : listBeq x l = false := by rw [listBeq_eq, beq_eq_false_iff_ne]; exact hne
  cases op <;> first | cases e | skip
  case eql => simp only [binStr, h2]
  case neq => simp only [binStr, h2]; rfl
  all_goals
    obtain ⟨c, hc, e2⟩ := ob_some e
    exact cmpOp_str (h c hc) e2
theorem symSelf_str {op : BinOp} {x : List Nat} {v : AV} (e : symSelf op = some v) : binStr op x x = some v := by
  cases op <;> first | cases e | skip
  all_goals simp [binStr, bytesLess_irrefl, listBeq_eq, bor_eq, bnot_eq]

/-- what two values that are not known come to -/
inductive SymIs (w : World) (op : BinOp) (v : AV) : Value → Value → Prop
  | int (a b : Int) (h : binInt op .i64 a b = some v) (hs : isShift op = false) : SymIs w op v (.int .i64 a) (.int .i64 b)
  | str (s u : ByteArray) (h : binStr op (bytesOfStr s) (bytesOfStr u) = some v) : SymIs w op v (.string s) (.string u)
  | add (a b : Int) (h : op = .add) (h1 : -9223372036854775808 ≤ a + b) (h2 : a + b ≤ 9223372036854775807) (hr : ∀ I, RelI w I v (.int .i64 (a + b))) : SymIs w op v (.int .i64 a) (.int .i64 b)
  | sub (a b : Int) (h : op = .sub) (h1 : -9223372036854775808 ≤ a - b) (h2 : a - b ≤ 9223372036854775807) (hr : ∀ I, RelI w I v (.int .i64 (a - b))) : SymIs w op v (.int .i64 a) (.int .i64 b)
  | cat (s u : ByteArray) (h : op = .add) (h1 : s.size + u.size ≤ 9223372036854775807) (hr : ∀ I, RelI w I v (.string (s ++ u))) : SymIs w op v (.string s) (.string u)

theorem forceInt_eq {α : Type} (n : Int) (f : Int → α) : forceInt n f = f n := by cases n <;> simp only [forceInt, forceNat_eq] <;> rfl

theorem symAdd_some {i : Nat} {off lo hi m : Int} {v : AV} (e : symAdd i off lo hi m = some v) : v = .sym (.int i (off + m) (lo + m) (hi + m)) ∧ -4611686018427387904 < lo + m ∧ hi + m < 4611686018427387904 := by
  unfold symAdd at e
  rw [forceInt_eq, forceInt_eq, forceInt_eq] at e
  obtain ⟨h1, e1⟩ := ifb_none e
  obtain ⟨h2, e2⟩ := ifb_none e1
  cases e2
  rw [intBlt_eq] at h1 h2
  exact ⟨rfl, of_decide_eq_true h1, of_decide_eq_true h2⟩

theorem symBin_is {w : World} {φ : Pos} {I : Imm} {op : BinOp} {x y v : AV} {c d : Value} (hx : RelV w φ I x c) (hy : RelV w φ I y d) (e : symBin x op y = some v) : SymIs w op v c d := by
  have symr : ∀ {s : Sy} {c : Value}, RelV w φ I (.sym s) c → SyRel s c := fun h => by cases h with | imm _ _ h => cases h with | sym _ _ h => exact h
  have intAdd : ∀ {i : Nat} {off lo hi m : Int}, lo ≤ Val.ν i + off → Val.ν i + off ≤ hi → symIntOp op i off lo hi m = some v → SymIs w op v (.int .i64 (Val.ν i + off)) (.int .i64 m) := by
    intro i off lo hi m l1 l2 h
    have fin : symCmp op lo hi m = some v → SymIs w op v (.int .i64 (Val.ν i + off)) (.int .i64 m) := fun h => by
      obtain ⟨q1, q2⟩ := symCmp_int l1 l2 h
      exact .int _ _ q1 q2
    cases op
    case add =>
      obtain ⟨rfl, k1, k2⟩ := symAdd_some (show symAdd i off lo hi m = some v from h)
      exact .add _ _ rfl (by omega) (by omega) fun I => .sym _ _ ⟨by rw [Int.add_assoc], by omega, by omega⟩
    case sub =>
      obtain ⟨rfl, k1, k2⟩ := symAdd_some (show symAdd i off lo hi (0 - m) = some v from h)
      exact .sub _ _ rfl (by omega) (by omega) fun I => .sym _ _ ⟨by congr 1; omega, by omega, by omega⟩
    all_goals exact fin h
  cases x with
  | sym s =>
    have hs := symr hx
    cases y with
    | int k m =>
      obtain rfl := hy.int_inv
      cases s with
      | int i off lo hi =>
        obtain ⟨rfl, l1, l2⟩ := hs
        obtain ⟨h1, h2⟩ := ifb_none (show ifb (kindBeq k .i64) (symIntOp op i off lo hi m) none = some v from e)
        obtain rfl := kindBeq_eq h1
        exact intAdd l1 l2 h2
      | str => cases e
    | str l =>
      obtain ⟨u, rfl, rfl⟩ := hy.str_inv
      cases s with
      | int => cases e
      | str pre i lo hi a b =>
        obtain ⟨st, rfl, k1, k2, k3, _⟩ := hs
        obtain ⟨b, hb, e2⟩ := ob_some (show ob (strCmp lo hi pre (bytesOfStr u)) (cmpOp op) = some v from e)
        have := strCmp_some k2 k3 pre _ b hb
        rw [← k1] at this
        exact .str _ _ (cmpOp_str this e2)
    | sym t =>
      have ht := symr hy
      cases s with
      | int i off lo hi =>
        cases t with
        | int j p lo' hi' =>
          obtain ⟨rfl, _, _⟩ := hs
          obtain ⟨rfl, _, _⟩ := ht
          obtain ⟨h1, h2⟩ := ifb_none (show ifb (Nat.beq i j) (ifb (intBeq off p) (symSelf op) none) none = some v from e)
          obtain ⟨h3, h4⟩ := ifb_none h2
          have := Nat.eq_of_beq_eq_true h1
          subst this
          rw [intBeq_eq, beq_iff_eq] at h3
          subst h3
          obtain ⟨q1, q2⟩ := symSelf_int h4
          exact .int _ _ q1 q2
        | str => cases e
      | str pre i lo hi a b =>
        cases t with
        | int => cases e
        | str qre j l h c d =>
          obtain ⟨st, rfl, k1, k3, k4, _⟩ := hs
          obtain ⟨su, rfl, k2, _⟩ := ht
          obtain ⟨h1, h2⟩ := ifb_none (show ifb (Nat.beq i j) (ifb (listBeq pre qre) (symSelf op) (catOp op (catCmp lo hi pre qre))) none = some v from e)
          have := Nat.eq_of_beq_eq_true h1
          subst this
          rcases ifb_some h2 with ⟨h3, h4⟩ | ⟨h3, h4⟩
          · rw [listBeq_eq, beq_iff_eq] at h3
            subst h3
            have : bytesOfStr su = bytesOfStr st := by rw [k1, k2]
            exact .str _ _ (by rw [this]; exact symSelf_str h4)
          · rw [listBeq_eq, beq_eq_false_iff_ne] at h3
            refine .str _ _ ?_
            rw [k1, k2]
            exact catOp_str (fun he => h3 (List.append_cancel_right he)) (fun c hc => catCmp_some k3 k4 _ _ c hc) h4
    | _ => cases e
  | int k n =>
    cases y with
    | sym t =>
      have ht := symr hy
      obtain rfl := hx.int_inv
      cases t with
      | int j p lo hi =>
        obtain ⟨rfl, l1, l2⟩ := ht
        obtain ⟨h1, h2⟩ := ifb_none (show ifb (kindBeq k .i64) (symCmp (flipOp op) lo hi n) none = some v from e)
        obtain rfl := kindBeq_eq h1
        obtain ⟨q1, q2⟩ := symFlip_int l1 l2 h2
        exact .int _ _ q1 q2
      | str => cases e
    | _ => cases e
  | str l =>
    cases y with
    | sym t =>
      have ht := symr hy
      obtain ⟨u, rfl, rfl⟩ := hx.str_inv
      cases t with
      | int => cases op <;> cases e
      | str pre i lo hi a b =>
        obtain ⟨st, rfl, k1, k2, k3, k4, k5⟩ := ht
        have cmp : ob (strCmp lo hi pre (bytesOfStr u)) (cmpOp (flipOp op)) = some v → SymIs w op v (.string u) (.string st) := fun e => by
          obtain ⟨b, hb, e2⟩ := ob_some e
          have := strCmp_some k2 k3 pre _ b hb
          rw [← k1] at this
          exact .str _ _ (cmpFlip_str this e2)
        cases op
        case add =>
          have e' : appK (bytesOfStr u) pre (fun qre => ifb (Nat.ble (len qre + b) 9223372036854775807) (some (.sym (.str qre i lo hi a b))) none) = some v := e
          rw [appK_eq] at e'
          obtain ⟨h1, h2⟩ := ifb_none e'
          cases h2
          have h1 := Nat.le_of_ble_eq_true h1
          rw [len_eq, List.length_append] at h1
          have hu : (bytesOfStr u).length = u.size := by simp [bytesOfStr]
          have hst : st.size = pre.length + (Val.τ i).size := by
            have := congrArg List.length k1
            rw [List.length_append] at this
            simpa [bytesOfStr] using this
          refine .cat _ _ rfl (by omega) fun I => .sym _ _ ⟨u ++ st, rfl, ?_, k2, k3, k4, k5⟩
          rw [List.append_assoc, ← k1]; simp [bytesOfStr]
        all_goals exact cmp e
    | _ => cases e
  | _ => cases e

theorem SymIs.run {P : Program} {w : World} {op : BinOp} {v : AV} {c d : Value} (h : SymIs w op v c d) (t : TypeId) : (∃ r, (Go.binOp op t c d).run P w = .ok r w ∧ ∀ I, RelI w I v r) ∧ (∀ u, c ≠ .agg u) ∧ c ≠ .nilIface := by
  cases h with
  | int a b h hs => exact ⟨binInt_sound h w t, by simp, by simp⟩
  | str s u h => exact ⟨binStr_sound h w t, by simp, by simp⟩
  | add a b h h1 h2 hr =>
    subst h
    refine ⟨⟨.int .i64 (a + b), ?_, hr⟩, by simp, by simp⟩
    obtain ⟨c, q1, q2⟩ := binInt_sound (P := P) (op := .add) (k := .i64) (a := a) (b := b) rfl w t
    have hc := q2 (fun _ _ => False)
    rw [mkInt_eq, wrapF_eq, IntKind.wrap_i64_small h1 h2] at hc
    cases hc
    exact q1
  | sub a b h h1 h2 hr =>
    subst h
    refine ⟨⟨.int .i64 (a - b), ?_, hr⟩, by simp, by simp⟩
    obtain ⟨c, q1, q2⟩ := binInt_sound (P := P) (op := .sub) (k := .i64) (a := a) (b := b) rfl w t
    have hc := q2 (fun _ _ => False)
    rw [mkInt_eq, wrapF_eq, IntKind.wrap_i64_small h1 h2] at hc
    cases hc
    exact q1
  | cat s u h h1 hr =>
    subst h
    exact ⟨⟨.string (s ++ u), by rw [binOp_string_add, run_string_add_sum w s u h1], hr⟩, by simp, by simp⟩

/-! ### rows by '==' -/
theorem bytes_toList (a b : ByteArray) : (bytesOfStr a == bytesOfStr b) = (a.toList == b.toList) := bytesOfStr_beq a b

theorem cellEq_val {w : World} {φ : Pos} {I : Imm} {x y : AV} {c d : Value} {q : Bool} (hx : RelV w φ I x c) (hy : RelV w φ I y d) (e : cellEq x y = some q) : q = valEq c d := by
  cases x with
  | int j a =>
    obtain ⟨k, b, h1, h2⟩ := op2_some (show op2 (toInt y) (fun k b => ifb (kindBeq j k) (some (intBeq a b)) none) = some q from e)
    obtain rfl := toInt_some h1
    obtain ⟨_, h4⟩ := ifb_none h2
    cases h4
    rw [hx.int_inv, hy.int_inv, intBeq_eq]; rfl
  | bool a =>
    obtain ⟨b, h1, h2⟩ := ob_some (show ob (toBool y) (fun b => some (boolBeq a b)) = some q from e)
    obtain rfl := toBool_some h1
    cases h2
    rw [hx.bool_inv, hy.bool_inv, boolBeq_eq]; rfl
  | str a =>
    obtain ⟨b, h1, h2⟩ := ob_some (show ob (toStr y) (fun b => some (listBeq a b)) = some q from e)
    obtain rfl := toStr_some h1
    cases h2
    obtain ⟨s, rfl, rfl⟩ := hx.str_inv
    obtain ⟨u, rfl, rfl⟩ := hy.str_inv
    rw [listBeq_eq, bytes_toList]; rfl
  | _ => cases e

theorem cellE_val {w : World} {φ : Pos} {I : Imm} {x y : AV} {c d : Value} {q : Bool} (hx : RelV w φ I x c) (hy : RelV w φ I y d) (e : cellE x y = some q) : q = valEq c d := by
  unfold cellE at e
  cases hq : cellEq x y with
  | some b => rw [hq] at e; cases e; exact cellEq_val hx hy hq
  | none =>
    rw [hq] at e
    obtain ⟨v, hv, e1⟩ := ob_some (show ob (symBin x .eql y) toBool = some q from e)
    obtain rfl := toBool_some e1
    have := symBin_is hx hy hv
    generalize hop : BinOp.eql = op at this
    cases this with
    | int a b h _ => subst hop; cases h; rw [intBeq_eq]; rfl
    | str s u h => subst hop; cases h; rw [listBeq_eq, bytes_toList]; rfl
    | add _ _ h => subst hop; cases h
    | sub _ _ h => subst hop; cases h
    | cat _ _ h => subst hop; cases h

theorem cellsE_val {w : World} {φ : Pos} {I : Imm} : ∀ {xs ys : Row} {cs ds : List Value} {q : Bool}, RelL w φ I xs cs → RelL w φ I ys ds → cellsE xs ys = some q → q = valsEq cs ds
  | [], ys, cs, ds, q, hx, hy, e => by
    have hc : cs = [] := List.eq_nil_of_length_eq_zero hx.1
    cases ys with
    | nil => cases e; have hd : ds = [] := List.eq_nil_of_length_eq_zero hy.1; subst hc hd; rfl
    | cons y ys => cases e
  | x :: xs, ys, cs, ds, q, hx, hy, e => by
    cases ys with
    | nil => cases e
    | cons y ys =>
      obtain ⟨p, hp, e1⟩ := ob_some (show ob (cellE x y) (fun p => ob (cellsE xs ys) fun q => some (band p q)) = some q from e)
      obtain ⟨r, hr, e2⟩ := ob_some e1
      cases e2
      match cs, ds, hx, hy with
      | c :: cs, d :: ds, hx, hy =>
        have h1 := cellE_val (hx.2 0 x c rfl rfl) (hy.2 0 y d rfl rfl) hp
        have h2 := cellsE_val ⟨by simpa using hx.1, fun j v c hv hc => hx.2 (j + 1) v c hv hc⟩ ⟨by simpa using hy.1, fun j v c hv hc => hy.2 (j + 1) v c hv hc⟩ hr
        rw [band_eq, h1, h2]; rfl
      | [], _, hx, _ => simp [RelL] at hx
      | _ :: _, [], _, hy => simp [RelL] at hy

theorem shapeB_c {w : World} {φ : Pos} {I : Imm} {x z : AV} {c : Value} (hx : RelV w φ I x c) (e : shapeB x z = true) : ShapeC z c := by
  cases z with
  | int k n =>
    cases x with
    | int j m => rw [hx.int_inv, kindBeq_eq (show kindBeq j k = true from e)]; exact ⟨_, rfl⟩
    | sym s =>
      cases hx with | imm _ _ h => cases h with | sym _ _ h =>
      cases s with
      | int i off lo hi => obtain ⟨rfl, _⟩ := h; rw [← kindBeq_eq (show kindBeq .i64 k = true from e)]; exact ⟨_, rfl⟩
      | str => cases e
    | _ => cases e
  | bool b =>
    cases x with
    | bool d => rw [hx.bool_inv]; exact ⟨_, rfl⟩
    | _ => cases e
  | str l =>
    cases x with
    | str d => obtain ⟨s, rfl, _⟩ := hx.str_inv; exact ⟨_, rfl⟩
    | sym s =>
      cases hx with | imm _ _ h => cases h with | sym _ _ h =>
      cases s with
      | int => cases e
      | str => obtain ⟨st, rfl, _⟩ := h; exact ⟨_, rfl⟩
    | _ => cases e
  | _ => cases e

theorem rowShape_l {w : World} {φ : Pos} {I : Imm} : ∀ {xs z : Row} {cs : List Value}, RelL w φ I xs cs → rowShape xs z = true → ShapeL z cs
  | [], z, cs, hx, e => by
    have hc : cs = [] := List.eq_nil_of_length_eq_zero hx.1
    cases z with
    | nil => subst hc; trivial
    | cons y ys => cases e
  | x :: xs, z, cs, hx, e => by
    cases z with
    | nil => cases e
    | cons y ys =>
      have e' : ifb (shapeB x y) (rowShape xs ys) false = true := e
      cases h1 : shapeB x y with
      | false => rw [h1] at e'; cases e'
      | true =>
        rw [h1] at e'
        match cs, hx with
        | c :: cs, hx => exact ⟨shapeB_c (hx.2 0 x c rfl rfl) h1, rowShape_l ⟨by simpa using hx.1, fun j v c hv hc => hx.2 (j + 1) v c hv hc⟩ e'⟩
        | [], hx => simp [RelL] at hx

theorem Sound.binOp (hT : TypesOk P E) {op : BinOp} {t : Nat} {x y : Operand} (ho : ∃ q, o.op = .binOp op t x y q) (e : evBin op t x y E rec loc env h f = some r) : SoundP P o loc env h f r := by
  obtain ⟨q, ho⟩ := ho
  obtain ⟨a1, ha, e1⟩ := ob_some e
  obtain ⟨b1, hb, e2⟩ := ob_some e1
  obtain ⟨v, hv, e3⟩ := ob_some e2
  refine ⟨v, e3, fun φ I w a s hR => ?_⟩
  have hx := opv_rel hR ha
  have hy := opv_rel hR hb
  -- from the run of the operation to the machine's step
  have fin : ∀ c, (do eqGuard op t x y (a.eval x) (a.eval y); Go.binOp op t (a.eval x) (a.eval y) : Sem Value).run P w = .ok c w → RelI w I v c → PureAt P (execOp a.eval o) φ I w v := by
    intro c hc hrel
    refine PureAt.mk (v := c) ?_ (id (.imm _ _ hrel))
    unfold execOp; simp only [ho]; exact run_v hc
  have plain : ∀ c, (∀ u, a.eval x ≠ .agg u) → a.eval x ≠ .nilIface → (Go.binOp op t (a.eval x) (a.eval y)).run P w = .ok c w → RelI w I v c → PureAt P (execOp a.eval o) φ I w v := by
    intro c h1 h2 hc hrel
    refine fin c ?_ hrel
    rw [Sem.run_bind, run_eqGuard_plain h1 h2 w, Result.andThen_ok, hc]
  have hv0 : binop a1 op b1 (E.T t) = some v ∨ symBin a1 op b1 = some v ∨ aggBin a1 op b1 (E.T t) = some v := by
    have hv' : orElseV (binop a1 op b1 (E.T t)) (orElseV (symBin a1 op b1) (aggBin a1 op b1 (E.T t))) = some v := hv
    cases hq : binop a1 op b1 (E.T t) with
    | some u => rw [hq] at hv'; exact .inl hv'
    | none =>
      rw [hq] at hv'
      cases hq2 : symBin a1 op b1 with
      | some u => rw [hq2] at hv'; exact .inr (.inl hv')
      | none => rw [hq2] at hv'; exact .inr (.inr hv')
  rcases hv0 with hv | hv | hv
  rotate_left
  · obtain ⟨⟨c, c1, c2⟩, c3, c4⟩ := (symBin_is hx hy hv).run (P := P) t
    exact plain c c3 c4 c1 (c2 I)
  · cases a1 with
    | agg cs =>
      obtain ⟨i, hi, e4⟩ := ob_some (show ob (E.T t) (fun i => ifb i.eq (ob (toAgg b1) fun b => ifb (rowShape cs i.zero) (ifb (rowShape b i.zero) (ob (cellsE cs b) (eqOp op)) none) none) none) = some v from hv)
      obtain ⟨hi1, e5⟩ := ifb_none e4
      obtain ⟨ds, hds, e6⟩ := ob_some e5
      obtain ⟨s1, e6⟩ := ifb_none e6
      obtain ⟨s2, e6⟩ := ifb_none e6
      obtain ⟨b, hb', e7⟩ := ob_some e6
      obtain rfl := toAgg_some hds
      obtain ⟨xs, hc, x1, _, x3⟩ := hx.agg_inv
      obtain ⟨ys, hd, y1, _, y3⟩ := hy.agg_inv
      have lx : RelL w φ I cs xs.toList := ⟨by simpa using x1, fun j v c hv hc => x3 j v c hv (by simpa using hc)⟩
      have ly : RelL w φ I ds ys.toList := ⟨by simpa using y1, fun j v c hv hc => y3 j v c hv (by simpa using hc)⟩
      have hop : op = .eql ∨ op = .neq := by rcases eqOp_some e7 with ⟨rfl, _⟩ | ⟨rfl, _⟩ <;> simp
      have key := (hT t i hi).eq hi1 w xs ys (rowShape_l lx s1) (rowShape_l ly s2) op x y hop
      have hq := cellsE_val lx ly hb'
      rw [← hq] at key
      refine fin _ (by rw [hc, hd]; exact key) ?_
      rcases eqOp_some e7 with ⟨rfl, rfl⟩ | ⟨rfl, rfl⟩ <;> exact .bool _
    | _ => cases hv
  cases a1 with
  | int j n =>
    change op2 (toInt b1) (fun k b => ifb (isShift op) (shiftInt op j n b) (ifb (kindBeq j k) (binInt op j n b) none)) = some v at hv
    obtain ⟨k, m, hm, e4⟩ := op2_some hv
    obtain rfl := toInt_some hm
    have hc := hx.int_inv
    have hd := hy.int_inv
    have key : ∃ c, (Go.binOp op t (.int j n) (.int k m)).run P w = .ok c w ∧ ∀ I, RelI w I v c := by
      rcases ifb_some e4 with ⟨_, e5⟩ | ⟨_, e5⟩
      · exact shiftInt_sound e5 w t
      · obtain ⟨hk, e6⟩ := ifb_none e5
        obtain rfl := kindBeq_eq hk
        exact binInt_sound e6 w t
    obtain ⟨c, c1, c2⟩ := key
    exact plain c (by simp [hc]) (by simp [hc]) (by rw [hc, hd]; exact c1) (c2 I)
  | str l =>
    obtain ⟨l', hl, e4⟩ := ob_some hv
    obtain rfl := toStr_some hl
    obtain ⟨s1, hc, rfl⟩ := hx.str_inv
    obtain ⟨s2, hd, rfl⟩ := hy.str_inv
    obtain ⟨c, c1, c2⟩ := binStr_sound (P := P) e4 w t
    exact plain c (by simp [hc]) (by simp [hc]) (by rw [hc, hd]; exact c1) (c2 I)
  | bool b =>
    obtain ⟨i, hi, e4⟩ := ob_some hv
    obtain ⟨hi1, e5⟩ := ifb_none e4
    obtain ⟨b', hb', e6⟩ := ob_some e5
    obtain rfl := toBool_some hb'
    have hc := hx.bool_inv
    have hd := hy.bool_inv
    obtain ⟨d, hd1, hdo⟩ := (hT t i hi).und
    obtain rfl := isBoolTd_some hdo hi1
    have heq := run_equal_bool (P := P) w t b b' hd1
    refine plain (.bool (if op = .eql then b == b' else !(b == b'))) (by simp [hc]) (by simp [hc]) ?_ ?_
    · rw [hc, hd]
      rcases eqOp_some e6 with ⟨rfl, rfl⟩ | ⟨rfl, rfl⟩ <;> simp [Go.binOp, heq]
    · rcases eqOp_some e6 with ⟨rfl, rfl⟩ | ⟨rfl, rfl⟩ <;> rw [boolBeq_eq] <;> exact .bool _
  | nil => obtain ⟨c, c1, c2, c3, c4⟩ := nilEq_sound (t := t) hT hx hy hv; exact plain c c3 c4 c1 (c2 I)
  | sl nn z xs => obtain ⟨c, c1, c2, c3, c4⟩ := nilEq_sound (t := t) hT hx hy hv; exact plain c c3 c4 c1 (c2 I)
  | ref k z off n cap => obtain ⟨c, c1, c2, c3, c4⟩ := nilEq_sound (t := t) hT hx hy hv; exact plain c c3 c4 c1 (c2 I)
  | _ => cases hv

theorem Sound.unOp {op : UnOp} {t : Nat} {x : Operand} (ho : o.op = .unOp op t x) (e : evUn op x E rec loc env h f = some r) : SoundP P o loc env h f r := by
  obtain ⟨a1, ha, e1⟩ := ob_some e
  obtain ⟨v, hv, e2⟩ := ob_some e1
  refine ⟨v, e2, fun φ I w a s hR => ?_⟩
  have hx := opv_rel hR ha
  have fin : ∀ c, (Op.unary op (a.eval x)).run P w = .ok c w → RelI w I v c → PureAt P (execOp a.eval o) φ I w v := by
    intro c hc hrel
    refine PureAt.mk (v := c) ?_ (id (.imm _ _ hrel))
    unfold execOp; simp only [ho]; exact run_v hc
  cases op with
  | not =>
    obtain ⟨b, hb, e3⟩ := ob_some hv
    cases e3
    obtain rfl := toBool_some hb
    have hc := hx.bool_inv
    exact fin (.bool (!b)) (by rw [hc]; rfl) (by rw [bnot_eq]; exact .bool _)
  | neg =>
    change op2 (toInt a1) (fun k n => some (mkInt k (wrapF k (0 - n)))) = some v at hv
    obtain ⟨k, n, hn, e3⟩ := op2_some hv
    cases e3
    obtain rfl := toInt_some hn
    have hc := hx.int_inv
    exact fin (.int k (k.wrap (0 - n))) (by rw [hc]; rfl) (by rw [mkInt_eq, wrapF_eq]; exact .int _ _)
  | _ => cases hv
end
end Go.Den
