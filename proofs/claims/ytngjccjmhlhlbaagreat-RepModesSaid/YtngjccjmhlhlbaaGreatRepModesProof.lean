/- veneerlaw16.RepModes returns true for every pair of whole numbers; its arguments read as before. No condition. -/
import Derived.Test.YtngjccjmhlhlbaaGreatRows
import Derived.Test.YtngjccjmhlhlbaaGreatRMM1
import Derived.Test.YtngjccjmhlhlbaaGreatDenZo
import Derived.WalkKit
import Derived.ProofKit
import Derived.OpenShut
import Derived.ChangeMaps5
namespace Go.Proofs.YtngjccjmhlhlbaaGreat.repModes
open Go.ChangeShapes Go.WideShapes Go.ChangeAt Go.RowKit Go.ChangeMaps
set_option linter.unusedVariables false

set_option maxRecDepth 100000 in
set_option maxHeartbeats 4000000 in
theorem out1 (a0 : Int) (a1 : Int) (w : World) (h0 : a0 < 0) :
    Calls Tryz.prog 3 #[.int .i64 a0, .int .i64 a1] w fun e w' => e = .returned (.bool true) ∧ Grown w w' := by
  go_enter Tryz.func3, Tryz.ntmps3
  go_wp2
  go_ret
  exact ⟨rfl, by repeat (first | exact Grown.refl _ | apply Grown.drew | apply Grown.alloc)⟩

set_option maxRecDepth 100000 in
set_option maxHeartbeats 4000000 in
theorem out2 (a0 : Int) (a1 : Int) (w : World) (h0 : ¬ a0 < 0) (h1 : 511 < a0) :
    Calls Tryz.prog 3 #[.int .i64 a0, .int .i64 a1] w fun e w' => e = .returned (.bool true) ∧ Grown w w' := by
  go_enter Tryz.func3, Tryz.ntmps3
  go_wp2
  go_ret
  exact ⟨rfl, by repeat (first | exact Grown.refl _ | apply Grown.drew | apply Grown.alloc)⟩

set_option maxRecDepth 100000 in
set_option maxHeartbeats 4000000 in
theorem out3 (a0 : Int) (a1 : Int) (w : World) (h0 : ¬ a0 < 0) (h1 : ¬ 511 < a0) (h2 : a1 < 0) :
    Calls Tryz.prog 3 #[.int .i64 a0, .int .i64 a1] w fun e w' => e = .returned (.bool true) ∧ Grown w w' := by
  go_enter Tryz.func3, Tryz.ntmps3
  go_wp2
  go_ret
  exact ⟨rfl, by repeat (first | exact Grown.refl _ | apply Grown.drew | apply Grown.alloc)⟩

set_option maxRecDepth 100000 in
set_option maxHeartbeats 4000000 in
theorem out4 (a0 : Int) (a1 : Int) (w : World) (h0 : ¬ a0 < 0) (h1 : ¬ 511 < a0) (h2 : ¬ a1 < 0) (h3 : 511 < a1) :
    Calls Tryz.prog 3 #[.int .i64 a0, .int .i64 a1] w fun e w' => e = .returned (.bool true) ∧ Grown w w' := by
  go_enter Tryz.func3, Tryz.ntmps3
  go_wp2
  go_ret
  exact ⟨rfl, by repeat (first | exact Grown.refl _ | apply Grown.drew | apply Grown.alloc)⟩

theorem walk (a0 : Int) (a1 : Int) (w : World) :
    Calls Tryz.prog 3 #[.int .i64 a0, .int .i64 a1] w fun e w' => e = .returned (.bool true) ∧ w.keptBut w' (fun _ => False) := by
  by_cases h0 : a0 < 0
  · exact (out1 a0 a1 w h0).mono fun e w' ⟨he, hg⟩ => ⟨he, hg.frame _⟩
  by_cases h1 : 511 < a0
  · exact (out2 a0 a1 w h0 h1).mono fun e w' ⟨he, hg⟩ => ⟨he, hg.frame _⟩
  by_cases h2 : a1 < 0
  · exact (out3 a0 a1 w h0 h1 h2).mono fun e w' ⟨he, hg⟩ => ⟨he, hg.frame _⟩
  by_cases h3 : 511 < a1
  · exact (out4 a0 a1 w h0 h1 h2 h3).mono fun e w' ⟨he, hg⟩ => ⟨he, hg.frame _⟩
  letI := Go.Den.mkVal (fun i => if i = 0 then a0 else a1) (fun _ => ⟨#[]⟩)
  refine ((Go.Den.g1).calls w [.int .i64 a0, .int .i64 a1] rfl fun j x c hx hc => ?_).mono fun e w' ⟨⟨c, I', he, hv⟩, hk⟩ => ⟨?_, hk⟩
  · match j with
    | 0 => cases hx; cases hc; exact Go.Den.sym_int (fun i => if i = 0 then a0 else a1) (fun _ => ⟨#[]⟩) 0 0 511 (by simp; omega) (by simp; omega) w _
    | 1 => cases hx; cases hc; exact Go.Den.sym_int (fun i => if i = 0 then a0 else a1) (fun _ => ⟨#[]⟩) 1 0 511 (by simp; omega) (by simp; omega) w _
    | j + 2 => simp at hx
  · rw [he]; cases hv; rfl

theorem own : ownKnob Tryz.prog.godebug = none := by kernel_rfl

set_option maxRecDepth 100000 in
theorem lifted (os : Os) (started : os.Started) (H : Type) (enc : TypeId × Value → H) :
    ReturnsInHanded {} Tryz.checked os 3 .any (Rows.repModesSpec.pre6 enc Tryz.prog Tryz.f3 Rows.repModesRow.domain false) (Rows.repModesSpec.post enc Tryz.prog Tryz.f3 false true false false) := by
  refine returnsInHanded_of_change (C := Tryz.checked) own started (by kernel_rfl) Tryz.func3
    (ChangeSpec.witness6 (enc := enc) (C := Tryz.checked) false ⟨#[], #[.int .i64 0, .int .i64 0], []⟩ 8 (by kernel_rfl) (by kernel_rfl) (by kernel_rfl) (by kernel_rfl)) ?_
  intro W base args ds gs before hval0 hW hcnd _
  have hval : ∀ (j : Nat) t v, Tryz.f3.params[j]? = some t → args[j]? = some v → Value.okWide Tryz.prog W .any base t v := hval0
  have hW' := hW
  obtain ⟨p, q, hA0, hV, rfl, hfz, hnd⟩ := hW
  have hA : DataW.TrodAll enc Tryz.prog W 0 (fun _ => true) true Tryz.f3.params.toList args.toList ds p := hA0
  rw [Tryz.params3] at hA hval
  obtain ⟨v0, vs0, d0, ds0, p0, q0, hargs, rfl, rfl, h0, r0⟩ := trodAll_cons hA
  obtain ⟨v1, vs1, d1, ds1, p1, q1, rfl, rfl, rfl, h1, r1⟩ := trodAll_cons r0
  obtain ⟨rfl, rfl, rfl⟩ := trodAll_nil r1
  obtain rfl : args = #[v0, v1] := by cases args; simp_all
  obtain ⟨rfl, rfl⟩ := trodVars_none hV
  obtain ⟨a0, rfl, rfl, rfl, w0⟩ := open_int Tryz.underlying3 (hval 0 3 v0 rfl rfl) h0
  obtain ⟨a1, rfl, rfl, rfl, w1⟩ := open_int Tryz.underlying3 (hval 1 3 v1 rfl rfl) h1
  clear hA0 hval0
  simp only [List.append_nil] at hW'
  refine (walk a0 a1 W).mono fun e W' ⟨he, hg⟩ => ?_
  subst he
  letI := Go.Den.mkVal (fun _ => 0) (fun _ => ⟨#[]⟩)
  exact ⟨_, rfl, Go.Den.post_of_kept (pa := []) (pv := []) hW' (fun _ _ _ => (trodAll_cons_mk (shut_bool Tryz.underlying4 _) trodAll_mk0)) (fun sp _ => (trodAll_cons_mk (shut_int Tryz.underlying3 w0) (trodAll_cons_mk (shut_int Tryz.underlying3 w1) trodAll_mk0))) (fun _ _ => rfl) rfl
    hg (ok_one (by kernel_rfl) rfl (okWide_bool_mk Tryz.underlying4 _))⟩

theorem over : Rows.repModesRow.holds Tryz.pinned (OpenSpec.ofChange Rows.repModesSpec) :=
  OpenClaim.holds_of_wide 3 Tryz.f3 rfl rfl rfl rfl rfl rfl rfl ⟨rfl, rfl, rfl, rfl, rfl⟩ rfl rfl rfl rfl rfl (by kernel_rfl) Tryz.func3 (by kernel_rfl)
    (of_decide_eq_true (by kernel_rfl)) (by unfold Func.isWrapper; first | (rw [if_pos (by decide +kernel)]; kernel_rfl) | (rw [if_neg (by decide +kernel)]; exact ⟨rfl, rfl⟩))
    (fun os started H enc _ => lifted os started H enc)

theorem proved : Rows.RepModesSaid :=
  over
end Go.Proofs.YtngjccjmhlhlbaaGreat.repModes
