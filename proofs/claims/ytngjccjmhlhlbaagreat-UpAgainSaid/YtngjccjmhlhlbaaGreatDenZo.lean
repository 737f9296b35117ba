/- A part of a machine that computes what the program computes, and of the proof that it does -/
import Derived.Test.YtngjccjmhlhlbaaGreatDenZn
set_option linter.unusedVariables false
set_option linter.unusedSimpArgs false
set_option linter.unusedSectionVars false
namespace Go.Den
open Go

/-! ### the unknown numbers and strings of a call -/
@[reducible] def mkVal (nums : Nat → Int) (strs : Nat → ByteArray) : Val where
  ν i := if i % 2 = 1 then ((strs (i / 2)).size : Int) else nums (i / 2)
  τ := strs
  len i := by
    have h1 : (i * 2 + 1) % 2 = 1 := by omega
    have h2 : (i * 2 + 1) / 2 = i := by omega
    simp only [h1, h2, if_true]

theorem sym_int (nums : Nat → Int) (strs : Nat → ByteArray) (j : Nat) (lo hi : Int) (h1 : lo ≤ nums j) (h2 : nums j ≤ hi) (w : World) (I : Imm) :
    @RelI (mkVal nums strs) w I (.sym (.int (j * 2) 0 lo hi)) (.int .i64 (nums j)) := by
  letI := mkVal nums strs
  have e : (Val.ν (j * 2) : Int) = nums j := by
    show (if (j * 2) % 2 = 1 then ((strs (j * 2 / 2)).size : Int) else nums (j * 2 / 2)) = nums j
    rw [if_neg (by omega), show j * 2 / 2 = j by omega]
  refine .sym _ _ ⟨by rw [e]; simp, by rw [e]; omega, by rw [e]; omega⟩

theorem sym_str (nums : Nat → Int) (strs : Nat → ByteArray) (j : Nat) (lo hi : Option (List Nat)) (a b : Nat) (h1 : ∀ l, lo = some l → bytesLess l (bytesOfStr (strs j)) = true) (h2 : ∀ h, hi = some h → bytesLess (bytesOfStr (strs j)) h = true)
    (h3 : a ≤ (strs j).size) (h4 : (strs j).size ≤ b) (w : World) (I : Imm) : @RelI (mkVal nums strs) w I (.sym (.str [] j lo hi a b)) (.string (strs j)) := by
  letI := mkVal nums strs
  exact .sym _ _ ⟨strs j, rfl, rfl, h1, h2, h3, h4⟩

variable [Val]

/-- a function that leaves the world as it is -/
theorem Gives.pure {P : Program} {g : Nat} {as : List AV} {v : AV} (h : ∀ (I : Imm) (w : World) (cs : List Value), RelIL w I as cs → ∃ c, RelI w I v c ∧ Calls P g cs.toArray w fun e w' => e = .returned c ∧ w' = w) : Gives P g as v := by
  intro I w cs hI hl
  obtain ⟨c, hv, hc⟩ := h I w cs hl
  refine hc.mono fun e w' ⟨he, hw⟩ => ?_
  subst hw
  exact ⟨c, I, he, .refl _ _ _, fun _ _ => rfl, hI, fun B x hx => .inl hx, hv⟩

theorem str_inj {a b : ByteArray} (h : bytesOfStr a = bytesOfStr b) : a = b := by
  have h1 : a.data.toList = b.data.toList := List.map_inj_right (fun _ _ => UInt8.toNat_inj.1) |>.1 h
  cases a; cases b
  simpa using h1

theorem sym_str_inv {w : World} {I : Imm} {i : Nat} {lo hi : Option (List Nat)} {a b : Nat} {c : Value} (h : RelI w I (.sym (.str [] i lo hi a b)) c) : c = .string (Val.τ i) := by
  cases h with
  | sym _ _ h =>
    obtain ⟨s, rfl, h1, _⟩ := h
    rw [str_inj h1]
end Go.Den
