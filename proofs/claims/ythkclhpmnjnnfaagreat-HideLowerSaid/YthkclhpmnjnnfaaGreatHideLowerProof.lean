/- veneerlaw17.HideLower returns true for every whole number and every string; its arguments read as before. No condition. -/
import Derived.Test.YthkclhpmnjnnfaaGreatRows
import Derived.Test.YthkclhpmnjnnfaaGreatHLM1
import Derived.Test.YthkclhpmnjnnfaaGreatHLM2
import Derived.Test.YthkclhpmnjnnfaaGreatHLM3
import Derived.Test.YthkclhpmnjnnfaaGreatDenZn
import Derived.WalkKit
import Derived.ProofKit
import Derived.OpenShut
import Derived.ChangeMaps5
namespace Go.Proofs.YthkclhpmnjnnfaaGreat.hideLower
open Go.ChangeShapes Go.WideShapes Go.ChangeAt Go.RowKit Go.ChangeMaps
set_option linter.unusedVariables false

set_option maxRecDepth 100000 in
set_option maxHeartbeats 4000000 in
theorem out1 (a0 : Int) (a1 : ByteArray) (w : World) (h0 : a0 < 1) :
    Calls Tryz.prog 5 #[.int .i64 a0, .string a1] w fun e w' => e = .returned (.bool true) ∧ Grown w w' := by
  go_enter Tryz.func5, Tryz.ntmps5
  go_wp2
  go_ret
  exact ⟨rfl, by repeat (first | exact Grown.refl _ | apply Grown.drew | apply Grown.alloc)⟩

set_option maxRecDepth 100000 in
set_option maxHeartbeats 4000000 in
theorem out2 (a0 : Int) (a1 : ByteArray) (w : World) (h0 : ¬ a0 < 1) (h1 : 3 < a0) :
    Calls Tryz.prog 5 #[.int .i64 a0, .string a1] w fun e w' => e = .returned (.bool true) ∧ Grown w w' := by
  go_enter Tryz.func5, Tryz.ntmps5
  go_wp2
  go_ret
  exact ⟨rfl, by repeat (first | exact Grown.refl _ | apply Grown.drew | apply Grown.alloc)⟩

set_option maxRecDepth 100000 in
set_option maxHeartbeats 4000000 in
theorem out3 (a0 : Int) (a1 : ByteArray) (w : World) (h0 : ¬ a0 < 1) (h1 : ¬ 3 < a0) (k0 : ¬ a1.toList = [102]) (k1 : ¬ a1.toList = [100]) (k2 : ¬ a1.toList = [115]) (k3 : ¬ a1.toList = [113]) :
    Calls Tryz.prog 5 #[.int .i64 a0, .string a1] w fun e w' => e = .returned (.bool true) ∧ Grown w w' := by
  have b0 : (a1.toList == [102]) = false := by simpa using k0
  have b1 : (a1.toList == [100]) = false := by simpa using k1
  have b2 : (a1.toList == [115]) = false := by simpa using k2
  have b3 : (a1.toList == [113]) = false := by simpa using k3
  go_enter Tryz.func5, Tryz.ntmps5
  go_wp2
  go_ret
  exact ⟨rfl, by repeat (first | exact Grown.refl _ | apply Grown.drew | apply Grown.alloc)⟩

theorem own : ownKnob Tryz.prog.godebug = none := by kernel_rfl

theorem walk (a0 : Int) (a1 : ByteArray) (w : World) :
    Calls Tryz.prog 5 #[.int .i64 a0, .string a1] w fun e w' => e = .returned (.bool true) ∧ w.keptBut w' (fun _ => False) := by
  by_cases h0 : a0 < 1
  · exact (out1 a0 a1 w h0).mono fun e w' ⟨he, hg⟩ => ⟨he, hg.frame _⟩
  by_cases h1 : 3 < a0
  · exact (out2 a0 a1 w h0 h1).mono fun e w' ⟨he, hg⟩ => ⟨he, hg.frame _⟩
  by_cases k0 : a1.toList = [102]
  · obtain h5 | h5 | h5 : a0 = 1 ∨ a0 = 2 ∨ a0 = 3 := by omega
    · subst h5; exact (Go.Den.g1_0).intStr (Go.Den.bytes_of k0) w
    · subst h5; exact (Go.Den.g2_0).intStr (Go.Den.bytes_of k0) w
    · subst h5; exact (Go.Den.g3_0).intStr (Go.Den.bytes_of k0) w
  by_cases k1 : a1.toList = [100]
  · obtain h5 | h5 | h5 : a0 = 1 ∨ a0 = 2 ∨ a0 = 3 := by omega
    · subst h5; exact (Go.Den.g1_1).intStr (Go.Den.bytes_of k1) w
    · subst h5; exact (Go.Den.g2_1).intStr (Go.Den.bytes_of k1) w
    · subst h5; exact (Go.Den.g3_1).intStr (Go.Den.bytes_of k1) w
  by_cases k2 : a1.toList = [115]
  · obtain h5 | h5 | h5 : a0 = 1 ∨ a0 = 2 ∨ a0 = 3 := by omega
    · subst h5; exact (Go.Den.g1_2).intStr (Go.Den.bytes_of k2) w
    · subst h5; exact (Go.Den.g2_2).intStr (Go.Den.bytes_of k2) w
    · subst h5; exact (Go.Den.g3_2).intStr (Go.Den.bytes_of k2) w
  by_cases k3 : a1.toList = [113]
  · obtain h5 | h5 | h5 : a0 = 1 ∨ a0 = 2 ∨ a0 = 3 := by omega
    · subst h5; exact (Go.Den.g1_3).intStr (Go.Den.bytes_of k3) w
    · subst h5; exact (Go.Den.g2_3).intStr (Go.Den.bytes_of k3) w
    · subst h5; exact (Go.Den.g3_3).intStr (Go.Den.bytes_of k3) w
  exact (out3 a0 a1 w h0 h1 k0 k1 k2 k3).mono fun e w' ⟨he, hg⟩ => ⟨he, hg.frame _⟩

set_option maxRecDepth 100000 in
theorem lifted (os : Os) (started : os.Started) (H : Type) (enc : TypeId × Value → H) :
    ReturnsInHanded {} Tryz.checked os 5 .any (Rows.hideLowerSpec.pre6 enc Tryz.prog Tryz.f5 Rows.hideLowerRow.domain false) (Rows.hideLowerSpec.post enc Tryz.prog Tryz.f5 false true false false) := by
  refine returnsInHanded_of_change (C := Tryz.checked) own started (by kernel_rfl) Tryz.func5
    (ChangeSpec.witness6 (enc := enc) (C := Tryz.checked) false ⟨#[], #[.int .i64 0, .string ⟨#[]⟩], []⟩ 8 (by kernel_rfl) (by kernel_rfl) (by kernel_rfl) (by kernel_rfl)) ?_
  intro W base args ds gs before hval0 hW hcnd _
  have hval : ∀ (j : Nat) t v, Tryz.f5.params[j]? = some t → args[j]? = some v → Value.okWide Tryz.prog W .any base t v := hval0
  have hW' := hW
  obtain ⟨p, q, hA0, hV, rfl, hfz, hnd⟩ := hW
  have hA : DataW.TrodAll enc Tryz.prog W 0 (fun _ => true) true Tryz.f5.params.toList args.toList ds p := hA0
  rw [Tryz.params5] at hA hval
  obtain ⟨v0, vs0, d0, ds0, p0, q0, hargs, rfl, rfl, h0, r0⟩ := trodAll_cons hA
  obtain ⟨v1, vs1, d1, ds1, p1, q1, rfl, rfl, rfl, h1, r1⟩ := trodAll_cons r0
  obtain ⟨rfl, rfl, rfl⟩ := trodAll_nil r1
  obtain rfl : args = #[v0, v1] := by cases args; simp_all
  obtain ⟨rfl, rfl⟩ := trodVars_none hV
  obtain ⟨a0, rfl, rfl, rfl, w0⟩ := open_int Tryz.underlying3 (hval 0 3 v0 rfl rfl) h0
  obtain ⟨a1, rfl, rfl, rfl, w1⟩ := open_string Tryz.underlying9 (hval 1 9 v1 rfl rfl) h1
  clear hA0 hval0
  simp only [List.append_nil] at hW'
  refine (walk a0 a1 W).mono fun e W' ⟨he, hg⟩ => ?_
  subst he
  exact ⟨_, rfl, Go.Den.post_of_kept (pa := []) (pv := []) hW' (fun _ _ _ => (trodAll_cons_mk (shut_bool Tryz.underlying4 _) trodAll_mk0)) (fun sp _ => (trodAll_cons_mk (shut_int Tryz.underlying3 w0) (trodAll_cons_mk (shut_string Tryz.underlying9 w1) trodAll_mk0))) (fun _ _ => rfl) rfl
    hg (ok_one (by kernel_rfl) rfl (okWide_bool_mk Tryz.underlying4 _))⟩

theorem over : Rows.hideLowerRow.holds Tryz.pinned (OpenSpec.ofChange Rows.hideLowerSpec) :=
  OpenClaim.holds_of_wide 5 Tryz.f5 rfl rfl rfl rfl rfl rfl rfl ⟨rfl, rfl, rfl, rfl, rfl⟩ rfl rfl rfl rfl rfl (by kernel_rfl) Tryz.func5 (by kernel_rfl)
    (of_decide_eq_true (by kernel_rfl)) (by unfold Func.isWrapper; first | (rw [if_pos (by decide +kernel)]; kernel_rfl) | (rw [if_neg (by decide +kernel)]; exact ⟨rfl, rfl⟩))
    (fun os started H enc _ => lifted os started H enc)

theorem proved : Rows.HideLowerSaid :=
  over
end Go.Proofs.YthkclhpmnjnnfaaGreat.hideLower
