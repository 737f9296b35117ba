/- veneerlaw17.HideNone returns true for every pair of whole numbers; its arguments read as before. No condition. -/
import Derived.Test.YthkclhpmnjnnfaaGreatRows
import Derived.Test.YthkclhpmnjnnfaaGreatHNM1
import Derived.Test.YthkclhpmnjnnfaaGreatHNM2
import Derived.Test.YthkclhpmnjnnfaaGreatHNM3
import Derived.Test.YthkclhpmnjnnfaaGreatDenZn
import Derived.WalkKit
import Derived.ProofKit
import Derived.OpenShut
import Derived.ChangeMaps5
namespace Go.Proofs.YthkclhpmnjnnfaaGreat.hideNone
open Go.ChangeShapes Go.WideShapes Go.ChangeAt Go.RowKit Go.ChangeMaps
set_option linter.unusedVariables false

set_option maxRecDepth 100000 in
set_option maxHeartbeats 4000000 in
theorem out1 (a0 : Int) (a1 : Int) (w : World) (h0 : a0 < 1) :
    Calls Tryz.prog 4 #[.int .i64 a0, .int .i64 a1] w fun e w' => e = .returned (.bool true) ∧ Grown w w' := by
  go_enter Tryz.func4, Tryz.ntmps4
  go_wp2
  go_ret
  exact ⟨rfl, by repeat (first | exact Grown.refl _ | apply Grown.drew | apply Grown.alloc)⟩

set_option maxRecDepth 100000 in
set_option maxHeartbeats 4000000 in
theorem out2 (a0 : Int) (a1 : Int) (w : World) (h0 : ¬ a0 < 1) (h1 : 3 < a0) :
    Calls Tryz.prog 4 #[.int .i64 a0, .int .i64 a1] w fun e w' => e = .returned (.bool true) ∧ Grown w w' := by
  go_enter Tryz.func4, Tryz.ntmps4
  go_wp2
  go_ret
  exact ⟨rfl, by repeat (first | exact Grown.refl _ | apply Grown.drew | apply Grown.alloc)⟩

set_option maxRecDepth 100000 in
set_option maxHeartbeats 4000000 in
theorem out3 (a0 : Int) (a1 : Int) (w : World) (h0 : ¬ a0 < 1) (h1 : ¬ 3 < a0) (h2 : a1 < 0) :
    Calls Tryz.prog 4 #[.int .i64 a0, .int .i64 a1] w fun e w' => e = .returned (.bool true) ∧ Grown w w' := by
  go_enter Tryz.func4, Tryz.ntmps4
  go_wp2
  go_ret
  exact ⟨rfl, by repeat (first | exact Grown.refl _ | apply Grown.drew | apply Grown.alloc)⟩

set_option maxRecDepth 100000 in
set_option maxHeartbeats 4000000 in
theorem out4 (a0 : Int) (a1 : Int) (w : World) (h0 : ¬ a0 < 1) (h1 : ¬ 3 < a0) (h2 : ¬ a1 < 0) (h3 : 4 ≤ a1) :
    Calls Tryz.prog 4 #[.int .i64 a0, .int .i64 a1] w fun e w' => e = .returned (.bool true) ∧ Grown w w' := by
  go_enter Tryz.func4, Tryz.ntmps4
  go_wp2
  go_ret
  exact ⟨rfl, by repeat (first | exact Grown.refl _ | apply Grown.drew | apply Grown.alloc)⟩

theorem own : ownKnob Tryz.prog.godebug = none := by kernel_rfl

theorem walk (a0 : Int) (a1 : Int) (w : World) :
    Calls Tryz.prog 4 #[.int .i64 a0, .int .i64 a1] w fun e w' => e = .returned (.bool true) ∧ w.keptBut w' (fun _ => False) := by
  by_cases h0 : a0 < 1
  · exact (out1 a0 a1 w h0).mono fun e w' ⟨he, hg⟩ => ⟨he, hg.frame _⟩
  by_cases h1 : 3 < a0
  · exact (out2 a0 a1 w h0 h1).mono fun e w' ⟨he, hg⟩ => ⟨he, hg.frame _⟩
  by_cases h2 : a1 < 0
  · exact (out3 a0 a1 w h0 h1 h2).mono fun e w' ⟨he, hg⟩ => ⟨he, hg.frame _⟩
  by_cases h3 : 4 ≤ a1
  · exact (out4 a0 a1 w h0 h1 h2 h3).mono fun e w' ⟨he, hg⟩ => ⟨he, hg.frame _⟩
  obtain h5 | h5 | h5 : a0 = 1 ∨ a0 = 2 ∨ a0 = 3 := by omega
  · subst h5
    obtain h6 | h6 | h6 | h6 : a1 = 0 ∨ a1 = 1 ∨ a1 = 2 ∨ a1 = 3 := by omega
    · subst h6; exact (Go.Den.g1_0).two w
    · subst h6; exact (Go.Den.g1_1).two w
    · subst h6; exact (Go.Den.g1_2).two w
    · subst h6; exact (Go.Den.g1_3).two w
  · subst h5
    obtain h6 | h6 | h6 | h6 : a1 = 0 ∨ a1 = 1 ∨ a1 = 2 ∨ a1 = 3 := by omega
    · subst h6; exact (Go.Den.g2_0).two w
    · subst h6; exact (Go.Den.g2_1).two w
    · subst h6; exact (Go.Den.g2_2).two w
    · subst h6; exact (Go.Den.g2_3).two w
  · subst h5
    obtain h6 | h6 | h6 | h6 : a1 = 0 ∨ a1 = 1 ∨ a1 = 2 ∨ a1 = 3 := by omega
    · subst h6; exact (Go.Den.g3_0).two w
    · subst h6; exact (Go.Den.g3_1).two w
    · subst h6; exact (Go.Den.g3_2).two w
    · subst h6; exact (Go.Den.g3_3).two w

set_option maxRecDepth 100000 in
theorem lifted (os : Os) (started : os.Started) (H : Type) (enc : TypeId × Value → H) :
    ReturnsInHanded {} Tryz.checked os 4 .any (Rows.hideNoneSpec.pre6 enc Tryz.prog Tryz.f4 Rows.hideNoneRow.domain false) (Rows.hideNoneSpec.post enc Tryz.prog Tryz.f4 false true false false) := by
  refine returnsInHanded_of_change (C := Tryz.checked) own started (by kernel_rfl) Tryz.func4
    (ChangeSpec.witness6 (enc := enc) (C := Tryz.checked) false ⟨#[], #[.int .i64 0, .int .i64 0], []⟩ 8 (by kernel_rfl) (by kernel_rfl) (by kernel_rfl) (by kernel_rfl)) ?_
  intro W base args ds gs before hval0 hW hcnd _
  have hval : ∀ (j : Nat) t v, Tryz.f4.params[j]? = some t → args[j]? = some v → Value.okWide Tryz.prog W .any base t v := hval0
  have hW' := hW
  obtain ⟨p, q, hA0, hV, rfl, hfz, hnd⟩ := hW
  have hA : DataW.TrodAll enc Tryz.prog W 0 (fun _ => true) true Tryz.f4.params.toList args.toList ds p := hA0
  rw [Tryz.params4] at hA hval
  obtain ⟨v0, vs0, d0, ds0, p0, q0, hargs, rfl, rfl, h0, r0⟩ := trodAll_cons hA
  obtain ⟨v1, vs1, d1, ds1, p1, q1, rfl, rfl, rfl, h1, r1⟩ := trodAll_cons r0
  obtain ⟨rfl, rfl, rfl⟩ := trodAll_nil r1
  obtain rfl : args = #[v0, v1] := by cases args; simp_all
  obtain ⟨rfl, rfl⟩ := trodVars_none hV
  obtain ⟨a0, rfl, rfl, rfl, w0⟩ := open_int Tryz.underlying3 (hval 0 3 v0 rfl rfl) h0
  obtain ⟨a1, rfl, rfl, rfl, w1⟩ := open_int Tryz.underlying3 (hval 1 3 v1 rfl rfl) h1
  clear hA0 hval0
  simp only [List.append_nil] at hW'
  refine (walk a0 a1 W).mono fun e W' ⟨he, hg⟩ => ?_
  subst he
  exact ⟨_, rfl, Go.Den.post_of_kept (pa := []) (pv := []) hW' (fun _ _ _ => (trodAll_cons_mk (shut_bool Tryz.underlying4 _) trodAll_mk0)) (fun sp _ => (trodAll_cons_mk (shut_int Tryz.underlying3 w0) (trodAll_cons_mk (shut_int Tryz.underlying3 w1) trodAll_mk0))) (fun _ _ => rfl) rfl
    hg (ok_one (by kernel_rfl) rfl (okWide_bool_mk Tryz.underlying4 _))⟩

theorem over : Rows.hideNoneRow.holds Tryz.pinned (OpenSpec.ofChange Rows.hideNoneSpec) :=
  OpenClaim.holds_of_wide 4 Tryz.f4 rfl rfl rfl rfl rfl rfl rfl ⟨rfl, rfl, rfl, rfl, rfl⟩ rfl rfl rfl rfl rfl (by kernel_rfl) Tryz.func4 (by kernel_rfl)
    (of_decide_eq_true (by kernel_rfl)) (by unfold Func.isWrapper; first | (rw [if_pos (by decide +kernel)]; kernel_rfl) | (rw [if_neg (by decide +kernel)]; exact ⟨rfl, rfl⟩))
    (fun os started H enc _ => lifted os started H enc)

theorem proved : Rows.HideNoneSaid :=
  over
end Go.Proofs.YthkclhpmnjnnfaaGreat.hideNone
