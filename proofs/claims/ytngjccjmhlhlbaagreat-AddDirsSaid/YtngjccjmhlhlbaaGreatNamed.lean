/- What two functions of a name come to: walked -/
import Derived.Test.YtngjccjmhlhlbaaGreatProg
import Derived.WalkKit
import Derived.LoopTactic
import Derived.ProofKit
set_option linter.unusedSimpArgs false
set_option linter.unusedSectionVars false
namespace Go.Proofs
open Go.RowKit
set_option linter.unusedVariables false
set_option maxRecDepth 100000
set_option maxHeartbeats 4000000

def keptB (s : ByteArray) : Bool := if 4 ≤ s.size then ((s.extract 0 4).toList == [46, 119, 104, 46]) else false

theorem kept_walk (s : ByteArray) (w : World) (hs : s.size ≤ maxLen) :
    Calls Tryz.prog 15 #[.string s] w fun e w' => e = .returned (.bool (keptB s)) ∧ w' = w := by
  go_enter Tryz.func15, Tryz.ntmps15
  go_wp2
  all_goals go_ret
  · have h : 4 ≤ s.size := by omega
    simp [keptB, h]
  · have h : ¬ 4 ≤ s.size := by omega
    simp [keptB, h]

def okBytes (s : ByteArray) : Prop := ∀ (j : Nat) (h : j < s.size), ¬ (s[j].toNat = 47) ∧ ¬ (s[j].toNat = 0)
open Classical in
noncomputable def namedB (s : ByteArray) : Bool := decide (okBytes s) && (decide (1 ≤ s.size) && (decide (s.size ≤ 24) && (!(s.toList == [46]) && !(s.toList == [46, 46]))))

theorem named_walk (s : ByteArray) (w : World) (hs : s.size ≤ maxLen) :
    Calls Tryz.prog 14 #[.string s] w fun e w' => e = .returned (.bool (namedB s)) ∧ w' = w := by
  unfold maxLen at hs
  go_enter Tryz.func14, Tryz.ntmps14
  go_wp2
  go_loop [3] (fun i => ∃ k : Nat, k ≤ s.size ∧ i = .int .i64 k ∧ ∀ (j : Nat) (h : j < s.size), j < k → ¬ (s[j].toNat = 47) ∧ ¬ (s[j].toNat = 0)) (fun i => s.size - (intOf i).toNat)
  case atStart => exact ⟨0, Nat.zero_le _, rfl, fun j h hj => by omega⟩
  case round =>
    obtain ⟨k, hk, rfl, hok⟩ := hrel
    have bad : ∀ h : k < s.size, (s[k].toNat = 47 ∨ s[k].toNat = 0) → namedB s = false := fun h hb => by
      unfold namedB
      have : ¬ okBytes s := fun ho => by
        have := ho k h
        omega
      simp [this]
    have good : ¬ k < s.size → okBytes s := fun h j hj => hok j hj (by omega)
    go_wp2
    · have h1 : k < s.size := by assumption
      have h2 : s[k].toNat = 47 := by omega
      go_ret
      rw [bad h1 (.inl h2)]; exact ⟨rfl, rfl⟩
    · have h1 : k < s.size := by assumption
      have h2 : s[k].toNat = 47 ∨ s[k].toNat = 0 := by
        have h3 : ((s[k].toNat : Int) == 47) = true ∨ ((s[k].toNat : Int) == 0) = true := by assumption
        simp only [beq_iff_eq] at h3
        omega
      go_ret
      rw [bad h1 h2]; exact ⟨rfl, rfl⟩
    · have h1 : k < s.size := by assumption
      have h3 : ((s[k].toNat : Int) == 47) = false ∧ ((s[k].toNat : Int) == 0) = false := by assumption
      simp only [beq_eq_false_iff_ne, ne_eq] at h3
      go_round
      case rel =>
        refine ⟨k + 1, by omega, by go_num, fun j h hj => ?_⟩
        by_cases hjk : j = k
        · subst hjk; omega
        · exact hok j h (by omega)
      case measure => simp [intOf]; omega
    · have h0 := good (by assumption)
      have h1 : (1 : Int) ≤ s.size := by assumption
      have h2 : (s.size : Int) ≤ 24 := by assumption
      have h3 : s.toList = [46] := by assumption
      go_ret
      refine ⟨?_, rfl⟩
      simp [namedB, h3]
    · have h0 := good (by assumption)
      have h1 : (1 : Int) ≤ s.size := by assumption
      have h2 : (s.size : Int) ≤ 24 := by assumption
      have h3 : ¬ s.toList = [46] := by assumption
      go_ret
      refine ⟨?_, rfl⟩
      have h4 : 1 ≤ s.size := by omega
      have h5 : s.size ≤ 24 := by omega
      simp [namedB, h0, h3, h4, h5]
    · have h2 : (24 : Int) < s.size := by assumption
      go_ret
      refine ⟨?_, rfl⟩
      have h5 : ¬ s.size ≤ 24 := by omega
      simp [namedB, h5]
    · have h2 : (s.size : Int) < 1 := by assumption
      go_ret
      refine ⟨?_, rfl⟩
      have h5 : ¬ 1 ≤ s.size := by omega
      simp [namedB, h5]
end Go.Proofs
