/- Where a name lies among the names that it is held against -/
import Derived.Test.YtngjccjmhlhlbaaGreatDenZo
import Derived.Test.YtngjccjmhlhlbaaGreatNamed
set_option linter.unusedVariables false
set_option linter.unusedSimpArgs false
set_option linter.unusedSectionVars false
namespace Go.Den
open Go
variable [Val]

theorem isPre_take : ∀ (l m : List Nat), isPre l m = true → m.take l.length = l
  | [], m, _ => by simp
  | a :: l, [], h => by cases h
  | a :: l, b :: m, h => by
    have h' : ifb (Nat.beq a b) (isPre l m) false = true := h
    cases hab : Nat.beq a b with
    | false => rw [hab] at h'; cases h'
    | true =>
      rw [hab] at h'
      have := Nat.eq_of_beq_eq_true hab
      subst this
      simp [isPre_take l m h']

theorem not_kept {s : ByteArray} (h : Go.Proofs.keptB s = false) : isPre [46, 119, 104, 46] (bytesOfStr s) = false := by
  cases hp : isPre [46, 119, 104, 46] (bytesOfStr s) with
  | false => rfl
  | true =>
    have h1 := isPre_take _ _ hp
    have hlen : (bytesOfStr s).length = s.size := by simp [bytesOfStr]
    have h4 : 4 ≤ s.size := by
      have := congrArg List.length h1
      rw [List.length_take, hlen] at this
      simp at this; omega
    have h2 : bytesOfStr (s.extract 0 4) = [46, 119, 104, 46] := by
      rw [← h1]
      unfold bytesOfStr
      rw [ByteArray.data_extract]
      simp only [Array.toList_extract, List.extract_eq_take_drop, List.map_take, List.map_drop]
      simp
    unfold Go.Proofs.keptB at h
    rw [if_pos h4] at h
    have h3 : (s.extract 0 4).toList = [46, 119, 104, 46] := by
      have h5 : (s.extract 0 4).toList.map UInt8.toNat = ([46, 119, 104, 46] : List UInt8).map UInt8.toNat := by rw [← bytesOfStr_toList, h2]; rfl
      exact List.map_inj_right (fun _ _ => UInt8.toNat_inj.1) |>.1 h5
    rw [h3] at h
    exact absurd h (by decide)

/-- where a name lies -/
theorem name_class {s : ByteArray} (h : Go.Proofs.keptB s = false) :
    bytesOfStr s = [100] ∨ bytesOfStr s = [102] ∨ bytesOfStr s = [115] ∨
    bytesLess (bytesOfStr s) [46, 119, 104, 46] = true ∨
    (bytesLess [46, 119, 104, 46, 256] (bytesOfStr s) = true ∧ bytesLess (bytesOfStr s) [100] = true) ∨
    (bytesLess [100] (bytesOfStr s) = true ∧ bytesLess (bytesOfStr s) [102] = true) ∨
    (bytesLess [102] (bytesOfStr s) = true ∧ bytesLess (bytesOfStr s) [115] = true) ∨ bytesLess [115] (bytesOfStr s) = true := by
  have hk := not_kept h
  generalize bytesOfStr s = x at *
  have tri : ∀ y : List Nat, x = y ∨ bytesLess x y = true ∨ bytesLess y x = true := fun y => by
    cases hq : bytesLess x y with
    | true => exact .inr (.inl rfl)
    | false => rcases bytesLess_total _ _ hq with h | h
               · exact .inl h
               · exact .inr (.inr h)
  rcases tri [100] with h1 | h1 | h1
  · exact .inl h1
  · rcases tri [46, 119, 104, 46] with h2 | h2 | h2
    · rw [h2] at hk; exact absurd hk (by decide)
    · exact .inr (.inr (.inr (.inl h2)))
    · exact .inr (.inr (.inr (.inr (.inl ⟨isPre_false [46, 119, 104, 46] x [256] h2 hk, h1⟩))))
  · rcases tri [102] with h2 | h2 | h2
    · exact .inr (.inl h2)
    · exact .inr (.inr (.inr (.inr (.inr (.inl ⟨h1, h2⟩)))))
    · rcases tri [115] with h3 | h3 | h3
      · exact .inr (.inr (.inl h3))
      · exact .inr (.inr (.inr (.inr (.inr (.inr (.inl ⟨h2, h3⟩))))))
      · exact .inr (.inr (.inr (.inr (.inr (.inr (.inr h3))))))
end Go.Den
