/- A part of a machine that computes what the program computes, and of the proof that it does -/
import Derived.Test.YthkclhpmnjnnfaaGreatDenL
import Derived.Laws.Cover1
import Derived.Laws.Cover3
import Derived.Laws.StructEq
set_option linter.unusedVariables false
set_option linter.unusedSimpArgs false
namespace Go.Den
open Go

section
variable {P : Program} {E : Env} {rec : Rec} {loc env : Regs} {h : Heap} {f : K} {r : Fin2} {o : Oper}

theorem mkInt_eq (k : IntKind) (n : Int) : mkInt k n = .int k n := by cases n <;> simp only [mkInt, forceNat_eq] <;> rfl

theorem IntKind.wrap_i64_small {n : Int} (h1 : -9223372036854775808 ≤ n) (h2 : n ≤ 9223372036854775807) : IntKind.i64.wrap n = n := by
  change (if (true && decide (n % 18446744073709551616 ≥ 9223372036854775808)) = true then n % 18446744073709551616 - 18446744073709551616 else n % 18446744073709551616) = n
  by_cases hc : n % 18446744073709551616 ≥ 9223372036854775808
  · rw [if_pos (by simpa using hc)]; omega
  · rw [if_neg (by simpa using hc)]; omega

theorem wrapF_eq (k : IntKind) (n : Int) : wrapF k n = k.wrap n := by
  unfold wrapF
  cases hk : is64 k with
  | false => rfl
  | true =>
    obtain rfl : k = .i64 := by cases k <;> first | rfl | cases hk
    cases hs : small n with
    | false => rfl
    | true =>
      show n = IntKind.i64.wrap n
      refine (IntKind.wrap_i64_small ?_ ?_).symm <;> cases n <;> have := Nat.le_of_ble_eq_true hs <;> simp <;> omega

theorem kindBeq_eq {j k : IntKind} (h : kindBeq j k = true) : j = k := by cases j <;> cases k <;> first | rfl | cases h

theorem intBeq_eq (a b : Int) : intBeq a b = (a == b) := by
  cases a <;> cases b <;> simp [intBeq] <;> first | rfl | skip
  all_goals (rename_i m n; cases h : Nat.beq m n)
  all_goals first
    | (have := Nat.eq_of_beq_eq_true h; subst this; simp)
    | (have : m ≠ n := fun e => by subst e; simp at h
       simp [this]; try omega)

theorem blt_eq (a b : Nat) : Nat.blt a b = decide (a < b) := by
  cases h : Nat.blt a b with
  | true => have := Nat.le_of_ble_eq_true h; simp; omega
  | false =>
    have : ¬ a < b := fun e => by have : Nat.blt a b = true := Nat.ble_eq.mpr e; rw [h] at this; cases this
    simp [this]
theorem intBlt_eq (a b : Int) : intBlt a b = decide (a < b) := by
  cases a <;> cases b <;> simp only [intBlt, blt_eq] <;> simp <;> omega
theorem bnot_eq (b : Bool) : bnot b = !b := by cases b <;> rfl
theorem bor_eq (a b : Bool) : bor a b = (a || b) := by cases a <;> rfl
theorem band_eq (a b : Bool) : band a b = (a && b) := by cases a <;> rfl
theorem boolBeq_eq (a b : Bool) : boolBeq a b = (a == b) := by cases a <;> cases b <;> rfl

theorem shN_eq (k : IntKind) (n : Nat) : shN k n = min n k.bits := by
  unfold shN
  cases h : Nat.ble n k.bits with
  | true => have := Nat.le_of_ble_eq_true h; simp [ifb, Nat.min_def, this]
  | false =>
    have : ¬ n ≤ k.bits := fun e => by have : Nat.ble n k.bits = true := Nat.ble_eq.mpr e; rw [h] at this; cases this
    simp [ifb, Nat.min_def, this]

theorem run_pure_v {c : Value} (w : World) : (pure c : Sem Value).run P w = .ok c w := rfl

theorem wrap_mod (k : IntKind) (n : Nat) : k.wrap ((n % 2 ^ k.bits : Nat) : Int) = k.wrap (n : Int) := by
  simp only [IntKind.wrap]
  have : ((n % 2 ^ k.bits : Nat) : Int) % (2 ^ k.bits : Int) = (n : Int) % (2 ^ k.bits : Int) := by
    rw [Int.natCast_emod]; simp
  rw [this]

theorem orInt_sound {k : IntKind} {a b : Int} {v : AV} (e : orInt k a b = some v) (w : World) (t : TypeId) : ∃ c, (Go.binOp .or t (.int k a) (.int k b)).run P w = .ok c w ∧ ∀ I, RelI w I v c := by
  cases a with
  | negSucc _ => cases e
  | ofNat x =>
  cases b with
  | negSucc _ => cases e
  | ofNat y =>
  have e' : some (mkInt k (k.wrap (Nat.lor x y : Nat))) = some v := e
  cases e'
  refine ⟨.int k (k.wrap ((BitVec.ofInt k.bits (Int.ofNat x) ||| BitVec.ofInt k.bits (Int.ofNat y)).toNat)), ?_, fun I => ?_⟩
  · simp [Go.binOp, Op.intBits]
  · rw [mkInt_eq]
    have : (x ||| y) % 2 ^ k.bits = x % 2 ^ k.bits ||| y % 2 ^ k.bits := by
      apply Nat.eq_of_testBit_eq; intro i; simp [Nat.testBit_mod_two_pow]; cases decide (i < k.bits) <;> simp
    have h1 := wrap_mod k (x ||| y)
    rw [this] at h1
    have h2 : (Nat.lor x y) = x ||| y := rfl
    have h3 : (BitVec.ofInt k.bits (Int.ofNat x) ||| BitVec.ofInt k.bits (Int.ofNat y)).toNat = x % 2 ^ k.bits ||| y % 2 ^ k.bits := by simp
    rw [h2, ← h1, h3]
    exact .int _ _

theorem binInt_sound {op : BinOp} {k : IntKind} {a b : Int} {v : AV} (e : binInt op k a b = some v) (w : World) (t : TypeId) :
    ∃ c, (Go.binOp op t (.int k a) (.int k b)).run P w = .ok c w ∧ ∀ I, RelI w I v c := by
  cases op <;> first | cases e | skip
  case or => exact orInt_sound e w t
  case quo =>
    obtain ⟨h0, h1⟩ := ifb_none' e
    rw [intBeq_eq] at h0
    simp at h0
    cases h1
    exact ⟨.int k (k.wrap (a.tdiv b)), by simp [Go.binOp, Op.intDiv, h0], fun I => by rw [mkInt_eq, wrapF_eq]; exact .int _ _⟩
  case rem =>
    obtain ⟨h0, h1⟩ := ifb_none' e
    rw [intBeq_eq] at h0
    simp at h0
    cases h1
    exact ⟨.int k (a.tmod b), by simp [Go.binOp, Op.intDiv, h0], fun I => by rw [mkInt_eq]; exact .int _ _⟩
  all_goals refine ⟨_, by simp [Go.binOp, Op.intArith, Op.intCmp]; rfl, fun I => ?_⟩
  all_goals simp only [mkInt_eq, wrapF_eq, intBeq_eq, intBlt_eq, bnot_eq]
  all_goals first
    | exact .int _ _
    | exact .bool _
    | (have hh : (!decide (b < a)) = decide (a ≤ b) := by by_cases h : b < a <;> simp [h] <;> omega
       rw [hh]; exact .bool _)
    | (have hh : (!decide (a < b)) = decide (b ≤ a) := by by_cases h : a < b <;> simp [h] <;> omega
       rw [hh]; exact .bool _)

theorem shiftInt_sound {op : BinOp} {k k' : IntKind} {a b : Int} {v : AV} (e : shiftInt op k a b = some v) (w : World) (t : TypeId) :
    ∃ c, (Go.binOp op t (.int k a) (.int k' b)).run P w = .ok c w ∧ ∀ I, RelI w I v c := by
  cases op <;> first | cases e | skip
  all_goals (cases b <;> first | cases e | skip)
  all_goals refine ⟨_, by simp [Go.binOp, Op.shift]; rfl, fun I => ?_⟩
  all_goals (simp only [mkInt_eq, shN_eq]; exact .int _ _)

/-! ### strings -/
theorem listBeq_eq : ∀ a b : List Nat, listBeq a b = (a == b)
  | [], [] => rfl
  | [], _ :: _ => rfl
  | _ :: _, [] => rfl
  | x :: a, y :: b => by
    change ifb (Nat.beq x y) (listBeq a b) false = _
    rw [listBeq_eq a b]
    cases h : Nat.beq x y with
    | true => have := Nat.eq_of_beq_eq_true h; subst this; simp [ifb]
    | false =>
      have : x ≠ y := fun e => by subst e; simp at h
      simp [ifb, this]
theorem bytesLess_eq : ∀ a b : List UInt8, bytesLess (a.map UInt8.toNat) (b.map UInt8.toNat) = Op.bytesLess a b
  | [], [] => rfl
  | [], _ :: _ => rfl
  | _ :: _, [] => rfl
  | x :: a, y :: b => by
    change ifb (Nat.blt x.toNat y.toNat) true (ifb (Nat.beq x.toNat y.toNat) (bytesLess (a.map UInt8.toNat) (b.map UInt8.toNat)) false) = (decide (x < y) || (x == y && Op.bytesLess a b))
    rw [bytesLess_eq a b, blt_eq]
    have h1 : decide (x.toNat < y.toNat) = decide (x < y) := rfl
    rw [h1]
    cases decide (x < y) with
    | true => rfl
    | false =>
      cases h : Nat.beq x.toNat y.toNat with
      | true =>
        have := Nat.eq_of_beq_eq_true h
        have : x = y := UInt8.toNat_inj.1 this
        subst this; simp [ifb]
      | false =>
        have : x ≠ y := fun e => by subst e; simp at h
        simp [ifb, this]

theorem bytesOfStr_toList (s : ByteArray) : bytesOfStr s = s.toList.map UInt8.toNat := by unfold bytesOfStr; rw [ByteArray.toList_eq]
theorem bytesOfStr_beq (a b : ByteArray) : (bytesOfStr a == bytesOfStr b) = (a.toList == b.toList) := by
  rw [bytesOfStr_toList, bytesOfStr_toList]
  generalize a.toList = x
  generalize b.toList = y
  by_cases h : x = y
  · subst h; simp
  · have : x.map UInt8.toNat ≠ y.map UInt8.toNat := fun e => h (List.map_inj_right (fun _ _ => UInt8.toNat_inj.1) |>.1 e)
    rw [beq_eq_false_iff_ne.2 h, beq_eq_false_iff_ne.2 this]

theorem bytesLess_str (a b : ByteArray) : bytesLess (bytesOfStr a) (bytesOfStr b) = Op.bytesLess a.toList b.toList := by rw [bytesOfStr_toList a, bytesOfStr_toList b, bytesLess_eq]

theorem binStr_sound {op : BinOp} {a b : ByteArray} {v : AV} (e : binStr op (bytesOfStr a) (bytesOfStr b) = some v) (w : World) (t : TypeId) :
    ∃ c, (Go.binOp op t (.string a) (.string b)).run P w = .ok c w ∧ ∀ I, RelI w I v c := by
  cases op <;> first | cases e | skip
  case add =>
    have e' : appK (bytesOfStr a) (bytesOfStr b) (fun l => ifb (Nat.ble (len l) 9223372036854775807) (some (.str l)) none) = some v := e
    rw [appK_eq] at e'
    obtain ⟨h1, h2⟩ := ifb_none e'
    cases h2
    have h1 := Nat.le_of_ble_eq_true h1
    rw [len_eq] at h1
    have hab : bytesOfStr a ++ bytesOfStr b = bytesOfStr (a ++ b) := by simp [bytesOfStr]
    have hsz : a.size + b.size ≤ 9223372036854775807 := by simpa [bytesOfStr] using h1
    exact ⟨.string (a ++ b), by rw [binOp_string_add, run_string_add_sum w a b hsz], fun I => by rw [hab]; exact .str _⟩
  all_goals refine ⟨_, by simp [Go.binOp, Op.stringOp]; rfl, fun I => ?_⟩
  all_goals simp only [listBeq_eq, bytesOfStr_beq, bnot_eq, bor_eq, bytesLess_str]
  all_goals first
    | exact .bool _
    | (rw [Bool.not_or]; exact .bool _)

/-! ### one operation on two values -/
theorem run_eqGuard_plain {op : BinOp} {t : TypeId} {x y : Operand} {a b : Value} (h1 : ∀ u, a ≠ .agg u) (h2 : a ≠ .nilIface) (w : World) : (eqGuard op t x y a b).run P w = .ok () w := by
  cases op <;> cases a <;> first | rfl | exact absurd rfl h2 | exact absurd rfl (h1 _)

theorem eqOp_some {op : BinOp} {b : Bool} {v : AV} (e : eqOp op b = some v) : (op = .eql ∧ v = .bool b) ∨ (op = .neq ∧ v = .bool (!b)) := by
  cases op <;> first | (cases e; first | exact .inl ⟨rfl, rfl⟩ | exact .inr ⟨rfl, by rw [bnot_eq]⟩) | cases e

theorem isNil_some {v : AV} (h : isNil v = true) : v = .nil := by cases v <;> first | rfl | cases h

theorem nilEq_sound {x y v : AV} {op : BinOp} {E : Env} {t : Nat} {w : World} {φ : Pos} {I : Imm} {c d : Value} (hT : TypesOk P E) (hx : RelV w φ I x c) (hy : RelV w φ I y d) (e : nilEq op x y (E.T t) = some v) :
    ∃ u, (Go.binOp op t c d).run P w = .ok u w ∧ (∀ I, RelI w I v u) ∧ (∀ u, c ≠ .agg u) ∧ c ≠ .nilIface := by
  obtain ⟨h1, e1⟩ := ifb_none e
  obtain ⟨i, hi, e2⟩ := ob_some e1
  obtain ⟨h2, e3⟩ := ifb_none e2
  obtain ⟨b, hb, e4⟩ := ob_some e3
  obtain rfl := isNil_some h1
  obtain rfl := hy.nil_inv
  obtain ⟨dd, hd, hdo⟩ := (hT t i hi).und
  obtain ⟨el, bts, zero, rfl, hinfo⟩ := isSliceTd_some hdo h2
  have key : ∃ a n cp, c = .slice a n cp ∧ a.isNone = b := by
    cases x with
    | nil => cases hb; exact ⟨_, _, _, hx.nil_inv, rfl⟩
    | sl nn z xs =>
      have hs := hx.sl_inv
      have hb' : ifb nn (some false) (@List.rec Row (fun _ => Option Bool) none (fun _ _ _ => some false) xs) = some b := hb
      cases hs with
      | sl0 _ _ a cap hnn h0 =>
        cases nn with
        | true => cases hb'; have := hnn rfl; exact ⟨_, _, _, rfl, by cases a <;> simp_all⟩
        | false => cases hb'
      | sl _ _ _ B off cap cell hn hcap hrow hcell hone hrel =>
        refine ⟨_, _, _, rfl, ?_⟩
        cases nn with
        | true => cases hb'; rfl
        | false => cases xs with
          | nil => cases hb'
          | cons _ _ => cases hb'; rfl
    | ref k z off n cap =>
      have hb' : some false = some b := hb
      cases hb'
      obtain ⟨L, hL, hLz, hrv⟩ := hx.ref_inv
      rcases hrv with ⟨c', rfl, _⟩ | ⟨_, ⟨o, rfl⟩, _⟩ <;> exact ⟨_, _, _, rfl, rfl⟩
    | _ => cases hb
  obtain ⟨a, n, cp, rfl, hab⟩ := key
  refine ⟨.bool (if op = .eql then b else !b), ?_, fun I => ?_, fun u => by simp, by simp⟩
  · have heq := run_equal_slice_nil (P := P) w t el a n cp hd
    rcases eqOp_some e4 with ⟨rfl, rfl⟩ | ⟨rfl, rfl⟩ <;> simp [Go.binOp, heq, hab]
  · rcases eqOp_some e4 with ⟨rfl, rfl⟩ | ⟨rfl, rfl⟩ <;> exact .bool _

theorem Sound.binOp (hT : TypesOk P E) {op : BinOp} {t : Nat} {x y : Operand} (ho : ∃ q, o.op = .binOp op t x y q) (e : evBin op t x y E rec loc env h f = some r) : SoundP P o loc env h f r := by
  obtain ⟨q, ho⟩ := ho
  obtain ⟨a1, ha, e1⟩ := ob_some e
  obtain ⟨b1, hb, e2⟩ := ob_some e1
  obtain ⟨v, hv, e3⟩ := ob_some e2
  refine ⟨v, e3, fun φ I w a s hR => ?_⟩
  have hx := opv_rel hR ha
  have hy := opv_rel hR hb
  -- from the run of the operation to the machine's step
  have fin : ∀ c, (do eqGuard op t x y (a.eval x) (a.eval y); Go.binOp op t (a.eval x) (a.eval y) : Sem Value).run P w = .ok c w → RelI w I v c → PureAt P (execOp a.eval o) φ I w v := by
    intro c hc hrel
    refine PureAt.mk (v := c) ?_ (id (.imm _ _ hrel))
    unfold execOp; simp only [ho]; exact run_v hc
  have plain : ∀ c, (∀ u, a.eval x ≠ .agg u) → a.eval x ≠ .nilIface → (Go.binOp op t (a.eval x) (a.eval y)).run P w = .ok c w → RelI w I v c → PureAt P (execOp a.eval o) φ I w v := by
    intro c h1 h2 hc hrel
    refine fin c ?_ hrel
    rw [Sem.run_bind, run_eqGuard_plain h1 h2 w, Result.andThen_ok, hc]
  cases a1 with
  | int j n =>
    change op2 (toInt b1) (fun k b => ifb (isShift op) (shiftInt op j n b) (ifb (kindBeq j k) (binInt op j n b) none)) = some v at hv
    obtain ⟨k, m, hm, e4⟩ := op2_some hv
    obtain rfl := toInt_some hm
    have hc := hx.int_inv
    have hd := hy.int_inv
    have key : ∃ c, (Go.binOp op t (.int j n) (.int k m)).run P w = .ok c w ∧ ∀ I, RelI w I v c := by
      rcases ifb_some e4 with ⟨_, e5⟩ | ⟨_, e5⟩
      · exact shiftInt_sound e5 w t
      · obtain ⟨hk, e6⟩ := ifb_none e5
        obtain rfl := kindBeq_eq hk
        exact binInt_sound e6 w t
    obtain ⟨c, c1, c2⟩ := key
    exact plain c (by simp [hc]) (by simp [hc]) (by rw [hc, hd]; exact c1) (c2 I)
  | str l =>
    obtain ⟨l', hl, e4⟩ := ob_some hv
    obtain rfl := toStr_some hl
    obtain ⟨s1, hc, rfl⟩ := hx.str_inv
    obtain ⟨s2, hd, rfl⟩ := hy.str_inv
    obtain ⟨c, c1, c2⟩ := binStr_sound (P := P) e4 w t
    exact plain c (by simp [hc]) (by simp [hc]) (by rw [hc, hd]; exact c1) (c2 I)
  | bool b =>
    obtain ⟨i, hi, e4⟩ := ob_some hv
    obtain ⟨hi1, e5⟩ := ifb_none e4
    obtain ⟨b', hb', e6⟩ := ob_some e5
    obtain rfl := toBool_some hb'
    have hc := hx.bool_inv
    have hd := hy.bool_inv
    obtain ⟨d, hd1, hdo⟩ := (hT t i hi).und
    obtain rfl := isBoolTd_some hdo hi1
    have heq := run_equal_bool (P := P) w t b b' hd1
    refine plain (.bool (if op = .eql then b == b' else !(b == b'))) (by simp [hc]) (by simp [hc]) ?_ ?_
    · rw [hc, hd]
      rcases eqOp_some e6 with ⟨rfl, rfl⟩ | ⟨rfl, rfl⟩ <;> simp [Go.binOp, heq]
    · rcases eqOp_some e6 with ⟨rfl, rfl⟩ | ⟨rfl, rfl⟩ <;> rw [boolBeq_eq] <;> exact .bool _
  | agg cs =>
    obtain ⟨i, hi, e4⟩ := ob_some hv
    obtain ⟨hi1, e5⟩ := ifb_none e4
    obtain ⟨ds, hds, e6⟩ := ob_some e5
    obtain ⟨q0, hq0, e6⟩ := ob_some e6
    obtain ⟨b, hb', e7⟩ := ob_some e6
    obtain rfl := toAgg_some hds
    obtain ⟨xs, hc, _⟩ := hx.agg_inv
    obtain ⟨ys, hd, _⟩ := hy.agg_inv
    rw [hc] at hx; rw [hd] at hy
    have hop : op = .eql ∨ op = .neq := by rcases eqOp_some e7 with ⟨rfl, _⟩ | ⟨rfl, _⟩ <;> simp
    have key := (hT t i hi).eq hi1 w xs ys cs ds b ⟨φ, I, hx⟩ ⟨φ, I, hy⟩ ⟨q0, hq0⟩ hb' op x y hop
    refine fin _ (by rw [hc, hd]; exact key) ?_
    rcases eqOp_some e7 with ⟨rfl, rfl⟩ | ⟨rfl, rfl⟩ <;> exact .bool _
  | nil => obtain ⟨c, c1, c2, c3, c4⟩ := nilEq_sound (t := t) hT hx hy hv; exact plain c c3 c4 c1 (c2 I)
  | sl nn z xs => obtain ⟨c, c1, c2, c3, c4⟩ := nilEq_sound (t := t) hT hx hy hv; exact plain c c3 c4 c1 (c2 I)
  | ref k z off n cap => obtain ⟨c, c1, c2, c3, c4⟩ := nilEq_sound (t := t) hT hx hy hv; exact plain c c3 c4 c1 (c2 I)
  | _ => cases hv

theorem Sound.unOp {op : UnOp} {t : Nat} {x : Operand} (ho : o.op = .unOp op t x) (e : evUn op x E rec loc env h f = some r) : SoundP P o loc env h f r := by
  obtain ⟨a1, ha, e1⟩ := ob_some e
  obtain ⟨v, hv, e2⟩ := ob_some e1
  refine ⟨v, e2, fun φ I w a s hR => ?_⟩
  have hx := opv_rel hR ha
  have fin : ∀ c, (Op.unary op (a.eval x)).run P w = .ok c w → RelI w I v c → PureAt P (execOp a.eval o) φ I w v := by
    intro c hc hrel
    refine PureAt.mk (v := c) ?_ (id (.imm _ _ hrel))
    unfold execOp; simp only [ho]; exact run_v hc
  cases op with
  | not =>
    obtain ⟨b, hb, e3⟩ := ob_some hv
    cases e3
    obtain rfl := toBool_some hb
    have hc := hx.bool_inv
    exact fin (.bool (!b)) (by rw [hc]; rfl) (by rw [bnot_eq]; exact .bool _)
  | neg =>
    change op2 (toInt a1) (fun k n => some (mkInt k (wrapF k (0 - n)))) = some v at hv
    obtain ⟨k, n, hn, e3⟩ := op2_some hv
    cases e3
    obtain rfl := toInt_some hn
    have hc := hx.int_inv
    exact fin (.int k (k.wrap (0 - n))) (by rw [hc]; rfl) (by rw [mkInt_eq, wrapF_eq]; exact .int _ _)
  | _ => cases hv
end
end Go.Den
