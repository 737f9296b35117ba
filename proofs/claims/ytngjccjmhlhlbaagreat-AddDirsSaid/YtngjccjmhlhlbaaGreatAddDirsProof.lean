/- veneerlaw19.AddDirs returns true for all whole numbers and every string; its arguments read as before. No condition. -/
import Derived.Test.YtngjccjmhlhlbaaGreatRows
import Derived.Test.YtngjccjmhlhlbaaGreatADM1a
import Derived.Test.YtngjccjmhlhlbaaGreatADM1c
import Derived.Test.YtngjccjmhlhlbaaGreatADM2a
import Derived.Test.YtngjccjmhlhlbaaGreatADM2c
import Derived.Test.YtngjccjmhlhlbaaGreatADM3a
import Derived.Test.YtngjccjmhlhlbaaGreatADM3c
import Derived.Test.YtngjccjmhlhlbaaGreatCls
import Derived.Test.YtngjccjmhlhlbaaGreatDenZo
import Derived.WalkKit
import Derived.ProofKit
import Derived.OpenShut
import Derived.ChangeMaps5
namespace Go.Proofs.YtngjccjmhlhlbaaGreat.addDirs
open Go.ChangeShapes Go.WideShapes Go.ChangeAt Go.RowKit Go.ChangeMaps
set_option linter.unusedVariables false

set_option maxRecDepth 100000 in
set_option maxHeartbeats 4000000 in
theorem out1 (a0 : Int) (a1 : ByteArray) (a2 : Int) (w : World) (h0 : a0 < 1) :
    Calls Tryz.prog 4 #[.int .i64 a0, .string a1, .int .i64 a2] w fun e w' => e = .returned (.bool true) ∧ Grown w w' := by
  go_enter Tryz.func4, Tryz.ntmps4
  go_wp2
  go_ret
  exact ⟨rfl, by repeat (first | exact Grown.refl _ | apply Grown.drew | apply Grown.alloc)⟩

set_option maxRecDepth 100000 in
set_option maxHeartbeats 4000000 in
theorem out2 (a0 : Int) (a1 : ByteArray) (a2 : Int) (w : World) (h0 : ¬ a0 < 1) (h1 : 3 < a0) :
    Calls Tryz.prog 4 #[.int .i64 a0, .string a1, .int .i64 a2] w fun e w' => e = .returned (.bool true) ∧ Grown w w' := by
  go_enter Tryz.func4, Tryz.ntmps4
  go_wp2
  go_ret
  exact ⟨rfl, by repeat (first | exact Grown.refl _ | apply Grown.drew | apply Grown.alloc)⟩

set_option maxRecDepth 100000 in
set_option maxHeartbeats 4000000 in
theorem out3 (a0 : Int) (a1 : ByteArray) (a2 : Int) (w : World) (h0 : ¬ a0 < 1) (h1 : ¬ 3 < a0) (h2 : a2 < 0) :
    Calls Tryz.prog 4 #[.int .i64 a0, .string a1, .int .i64 a2] w fun e w' => e = .returned (.bool true) ∧ Grown w w' := by
  go_enter Tryz.func4, Tryz.ntmps4
  go_wp2
  go_ret
  exact ⟨rfl, by repeat (first | exact Grown.refl _ | apply Grown.drew | apply Grown.alloc)⟩

set_option maxRecDepth 100000 in
set_option maxHeartbeats 4000000 in
theorem out4 (a0 : Int) (a1 : ByteArray) (a2 : Int) (w : World) (h0 : ¬ a0 < 1) (h1 : ¬ 3 < a0) (h2 : ¬ a2 < 0) (h3 : 511 < a2) :
    Calls Tryz.prog 4 #[.int .i64 a0, .string a1, .int .i64 a2] w fun e w' => e = .returned (.bool true) ∧ Grown w w' := by
  go_enter Tryz.func4, Tryz.ntmps4
  go_wp2
  go_ret
  exact ⟨rfl, by repeat (first | exact Grown.refl _ | apply Grown.drew | apply Grown.alloc)⟩

set_option maxRecDepth 100000 in
set_option maxHeartbeats 4000000 in
theorem out5 (a0 : Int) (a1 : ByteArray) (a2 : Int) (w : World) (h0 : ¬ a0 < 1) (h1 : ¬ 3 < a0) (h2 : ¬ a2 < 0) (h3 : ¬ 511 < a2) (hc : Calls Tryz.prog 14 #[.string a1] w fun e w' => e = .returned (.bool false) ∧ w' = w) :
    Calls Tryz.prog 4 #[.int .i64 a0, .string a1, .int .i64 a2] w fun e w' => e = .returned (.bool true) ∧ Grown w w' := by
  go_enter Tryz.func4, Tryz.ntmps4
  go_wp2_with fail
  refine hc.mono ?_
  rintro e w' ⟨rfl, rfl⟩
  go_wp2
  go_ret
  exact ⟨rfl, by repeat (first | exact Grown.refl _ | apply Grown.drew | apply Grown.alloc)⟩

set_option maxRecDepth 100000 in
set_option maxHeartbeats 4000000 in
theorem out6 (a0 : Int) (a1 : ByteArray) (a2 : Int) (w : World) (h0 : ¬ a0 < 1) (h1 : ¬ 3 < a0) (h2 : ¬ a2 < 0) (h3 : ¬ 511 < a2) (hc : Calls Tryz.prog 14 #[.string a1] w fun e w' => e = .returned (.bool true) ∧ w' = w) (hk : Calls Tryz.prog 15 #[.string a1] w fun e w' => e = .returned (.bool true) ∧ w' = w) :
    Calls Tryz.prog 4 #[.int .i64 a0, .string a1, .int .i64 a2] w fun e w' => e = .returned (.bool true) ∧ Grown w w' := by
  go_enter Tryz.func4, Tryz.ntmps4
  go_wp2_with fail
  refine hc.mono ?_
  rintro e w' ⟨rfl, rfl⟩
  go_wp2_with fail
  refine hk.mono ?_
  rintro e w' ⟨rfl, rfl⟩
  go_wp2
  go_ret
  exact ⟨rfl, by repeat (first | exact Grown.refl _ | apply Grown.drew | apply Grown.alloc)⟩

set_option maxRecDepth 100000 in
set_option maxHeartbeats 4000000 in
theorem out7 (a0 : Int) (a1 : ByteArray) (a2 : Int) (w : World) (h0 : ¬ a0 < 1) (h1 : ¬ 3 < a0) (h2 : ¬ a2 < 0) (h3 : ¬ 511 < a2) (hc : Calls Tryz.prog 14 #[.string a1] w fun e w' => e = .returned (.bool true) ∧ w' = w) (hk : Calls Tryz.prog 15 #[.string a1] w fun e w' => e = .returned (.bool false) ∧ w' = w) (hs : 20 < a1.size) :
    Calls Tryz.prog 4 #[.int .i64 a0, .string a1, .int .i64 a2] w fun e w' => e = .returned (.bool true) ∧ Grown w w' := by
  have hs' : (20 : Int) < (a1.size : Int) := by omega
  go_enter Tryz.func4, Tryz.ntmps4
  go_wp2_with fail
  refine hc.mono ?_
  rintro e w' ⟨rfl, rfl⟩
  go_wp2_with fail
  refine hk.mono ?_
  rintro e w' ⟨rfl, rfl⟩
  go_wp2
  go_ret
  exact ⟨rfl, by repeat (first | exact Grown.refl _ | apply Grown.drew | apply Grown.alloc)⟩

theorem walk (a0 : Int) (a1 : ByteArray) (a2 : Int) (w : World) (hs : a1.size ≤ maxLen) :
    Calls Tryz.prog 4 #[.int .i64 a0, .string a1, .int .i64 a2] w fun e w' => e = .returned (.bool true) ∧ w.keptBut w' (fun _ => False) := by
  by_cases h0 : a0 < 1
  · exact (out1 a0 a1 a2 w h0).mono fun e w' ⟨he, hg⟩ => ⟨he, hg.frame _⟩
  by_cases h1 : 3 < a0
  · exact (out2 a0 a1 a2 w h0 h1).mono fun e w' ⟨he, hg⟩ => ⟨he, hg.frame _⟩
  by_cases h2 : a2 < 0
  · exact (out3 a0 a1 a2 w h0 h1 h2).mono fun e w' ⟨he, hg⟩ => ⟨he, hg.frame _⟩
  by_cases h3 : 511 < a2
  · exact (out4 a0 a1 a2 w h0 h1 h2 h3).mono fun e w' ⟨he, hg⟩ => ⟨he, hg.frame _⟩
  have hc := Go.Proofs.named_walk a1 w hs
  have hk := Go.Proofs.kept_walk a1 w hs
  cases hN : Go.Proofs.namedB a1 with
  | false => rw [hN] at hc; exact (out5 a0 a1 a2 w h0 h1 h2 h3 hc).mono fun e w' ⟨he, hg⟩ => ⟨he, hg.frame _⟩
  | true =>
    rw [hN] at hc
    cases hK : Go.Proofs.keptB a1 with
    | true => rw [hK] at hk; exact (out6 a0 a1 a2 w h0 h1 h2 h3 hc hk).mono fun e w' ⟨he, hg⟩ => ⟨he, hg.frame _⟩
    | false =>
      rw [hK] at hk
      by_cases hz : 20 < a1.size
      · exact (out7 a0 a1 a2 w h0 h1 h2 h3 hc hk hz).mono fun e w' ⟨he, hg⟩ => ⟨he, hg.frame _⟩
      letI := Go.Den.mkVal (fun _ => a2) (fun _ => a1)
      have hz1 : 1 ≤ a1.size := by
        unfold Go.Proofs.namedB at hN
        simp only [Bool.and_eq_true, decide_eq_true_eq] at hN
        exact hN.2.1
      have fin : ∀ (x : Go.Den.AV), Go.Den.Gives Tryz.prog 4 [.int .i64 a0, x, .sym (.int 2 0 0 511)] (.bool true) → (∀ I, Go.Den.RelI w I x (.string a1)) →
          Calls Tryz.prog 4 #[.int .i64 a0, .string a1, .int .i64 a2] w fun e w' => e = .returned (.bool true) ∧ w.keptBut w' (fun _ => False) := fun x hg hx =>
        (hg.calls w [.int .i64 a0, .string a1, .int .i64 a2] rfl fun j y c hy hc => by
          match j with
          | 0 => cases hy; cases hc; exact .int _ _
          | 1 => cases hy; cases hc; exact hx _
          | 2 => cases hy; cases hc; exact Go.Den.sym_int (fun _ => a2) (fun _ => a1) 1 0 511 (by omega) (by omega) w _
          | j + 3 => simp at hy).mono fun e w' ⟨⟨c, I', he, hv⟩, hk⟩ => ⟨by rw [he]; cases hv; rfl, hk⟩
      have sy : ∀ (lo hi : Option (List Nat)), (∀ l, lo = some l → Go.Den.bytesLess l (Go.Den.bytesOfStr a1) = true) → (∀ h, hi = some h → Go.Den.bytesLess (Go.Den.bytesOfStr a1) h = true) → ∀ I, Go.Den.RelI w I (.sym (.str [] 0 lo hi 1 20)) (.string a1) := fun lo hi q1 q2 I =>
        Go.Den.sym_str (fun _ => a2) (fun _ => a1) 0 lo hi 1 20 q1 q2 hz1 (by omega) w I
      have sq : ∀ l, Go.Den.bytesOfStr a1 = l → ∀ I, Go.Den.RelI w I (.str l) (.string a1) := fun l hl I => by rw [← hl]; exact .str _
      obtain h5 | h5 | h5 : a0 = 1 ∨ a0 = 2 ∨ a0 = 3 := by omega
      · subst h5
        rcases Go.Den.name_class hK with k | k | k | k | ⟨k, l⟩ | ⟨k, l⟩ | ⟨k, l⟩ | k
        · exact fin _ Go.Den.g1_d (sq _ k)
        · exact fin _ Go.Den.g1_f (sq _ k)
        · exact fin _ Go.Den.g1_s (sq _ k)
        · exact fin _ (Go.Den.g1_0 hN hK hs) (sy _ _ (fun _ q => by cases q) (fun _ q => by cases q; exact k))
        · exact fin _ (Go.Den.g1_1 hN hK hs) (sy _ _ (fun _ q => by cases q; exact k) (fun _ q => by cases q; exact l))
        · exact fin _ (Go.Den.g1_2 hN hK hs) (sy _ _ (fun _ q => by cases q; exact k) (fun _ q => by cases q; exact l))
        · exact fin _ (Go.Den.g1_3 hN hK hs) (sy _ _ (fun _ q => by cases q; exact k) (fun _ q => by cases q; exact l))
        · exact fin _ (Go.Den.g1_4 hN hK hs) (sy _ _ (fun _ q => by cases q; exact k) (fun _ q => by cases q))
      · subst h5
        rcases Go.Den.name_class hK with k | k | k | k | ⟨k, l⟩ | ⟨k, l⟩ | ⟨k, l⟩ | k
        · exact fin _ Go.Den.g2_d (sq _ k)
        · exact fin _ Go.Den.g2_f (sq _ k)
        · exact fin _ Go.Den.g2_s (sq _ k)
        · exact fin _ (Go.Den.g2_0 hN hK hs) (sy _ _ (fun _ q => by cases q) (fun _ q => by cases q; exact k))
        · exact fin _ (Go.Den.g2_1 hN hK hs) (sy _ _ (fun _ q => by cases q; exact k) (fun _ q => by cases q; exact l))
        · exact fin _ (Go.Den.g2_2 hN hK hs) (sy _ _ (fun _ q => by cases q; exact k) (fun _ q => by cases q; exact l))
        · exact fin _ (Go.Den.g2_3 hN hK hs) (sy _ _ (fun _ q => by cases q; exact k) (fun _ q => by cases q; exact l))
        · exact fin _ (Go.Den.g2_4 hN hK hs) (sy _ _ (fun _ q => by cases q; exact k) (fun _ q => by cases q))
      · subst h5
        rcases Go.Den.name_class hK with k | k | k | k | ⟨k, l⟩ | ⟨k, l⟩ | ⟨k, l⟩ | k
        · exact fin _ Go.Den.g3_d (sq _ k)
        · exact fin _ Go.Den.g3_f (sq _ k)
        · exact fin _ Go.Den.g3_s (sq _ k)
        · exact fin _ (Go.Den.g3_0 hN hK hs) (sy _ _ (fun _ q => by cases q) (fun _ q => by cases q; exact k))
        · exact fin _ (Go.Den.g3_1 hN hK hs) (sy _ _ (fun _ q => by cases q; exact k) (fun _ q => by cases q; exact l))
        · exact fin _ (Go.Den.g3_2 hN hK hs) (sy _ _ (fun _ q => by cases q; exact k) (fun _ q => by cases q; exact l))
        · exact fin _ (Go.Den.g3_3 hN hK hs) (sy _ _ (fun _ q => by cases q; exact k) (fun _ q => by cases q; exact l))
        · exact fin _ (Go.Den.g3_4 hN hK hs) (sy _ _ (fun _ q => by cases q; exact k) (fun _ q => by cases q))

theorem own : ownKnob Tryz.prog.godebug = none := by kernel_rfl

set_option maxRecDepth 100000 in
theorem lifted (os : Os) (started : os.Started) (H : Type) (enc : TypeId × Value → H) :
    ReturnsInHanded {} Tryz.checked os 4 .any (Rows.addDirsSpec.pre6 enc Tryz.prog Tryz.f4 Rows.addDirsRow.domain false) (Rows.addDirsSpec.post enc Tryz.prog Tryz.f4 false true false false) := by
  refine returnsInHanded_of_change (C := Tryz.checked) own started (by kernel_rfl) Tryz.func4
    (ChangeSpec.witness6 (enc := enc) (C := Tryz.checked) false ⟨#[], #[.int .i64 0, .string ⟨#[]⟩, .int .i64 0], []⟩ 8 (by kernel_rfl) (by kernel_rfl) (by kernel_rfl) (by kernel_rfl)) ?_
  intro W base args ds gs before hval0 hW hcnd _
  have hval : ∀ (j : Nat) t v, Tryz.f4.params[j]? = some t → args[j]? = some v → Value.okWide Tryz.prog W .any base t v := hval0
  have hW' := hW
  obtain ⟨p, q, hA0, hV, rfl, hfz, hnd⟩ := hW
  have hA : DataW.TrodAll enc Tryz.prog W 0 (fun _ => true) true Tryz.f4.params.toList args.toList ds p := hA0
  rw [Tryz.params4] at hA hval
  obtain ⟨v0, vs0, d0, ds0, p0, q0, hargs, rfl, rfl, h0, r0⟩ := trodAll_cons hA
  obtain ⟨v1, vs1, d1, ds1, p1, q1, rfl, rfl, rfl, h1, r1⟩ := trodAll_cons r0
  obtain ⟨v2, vs2, d2, ds2, p2, q2, rfl, rfl, rfl, h2, r2⟩ := trodAll_cons r1
  obtain ⟨rfl, rfl, rfl⟩ := trodAll_nil r2
  obtain rfl : args = #[v0, v1, v2] := by cases args; simp_all
  obtain ⟨rfl, rfl⟩ := trodVars_none hV
  obtain ⟨a0, rfl, rfl, rfl, w0⟩ := open_int Tryz.underlying3 (hval 0 3 v0 rfl rfl) h0
  obtain ⟨a1, rfl, rfl, rfl, w1⟩ := open_string Tryz.underlying9 (hval 1 9 v1 rfl rfl) h1
  obtain ⟨a2, rfl, rfl, rfl, w2⟩ := open_int Tryz.underlying3 (hval 2 3 v2 rfl rfl) h2
  clear hA0 hval0
  simp only [List.append_nil] at hW'
  refine (walk a0 a1 a2 W w1).mono fun e W' ⟨he, hg⟩ => ?_
  subst he
  letI := Go.Den.mkVal (fun _ => 0) (fun _ => ⟨#[]⟩)
  exact ⟨_, rfl, Go.Den.post_of_kept (pa := []) (pv := []) hW' (fun _ _ _ => (trodAll_cons_mk (shut_bool Tryz.underlying4 _) trodAll_mk0)) (fun sp _ => (trodAll_cons_mk (shut_int Tryz.underlying3 w0) (trodAll_cons_mk (shut_string Tryz.underlying9 w1) (trodAll_cons_mk (shut_int Tryz.underlying3 w2) trodAll_mk0)))) (fun _ _ => rfl) rfl
    hg (ok_one (by kernel_rfl) rfl (okWide_bool_mk Tryz.underlying4 _))⟩

theorem over : Rows.addDirsRow.holds Tryz.pinned (OpenSpec.ofChange Rows.addDirsSpec) :=
  OpenClaim.holds_of_wide 4 Tryz.f4 rfl rfl rfl rfl rfl rfl rfl ⟨rfl, rfl, rfl, rfl, rfl⟩ rfl rfl rfl rfl rfl (by kernel_rfl) Tryz.func4 (by kernel_rfl)
    (of_decide_eq_true (by kernel_rfl)) (by unfold Func.isWrapper; first | (rw [if_pos (by decide +kernel)]; kernel_rfl) | (rw [if_neg (by decide +kernel)]; exact ⟨rfl, rfl⟩))
    (fun os started H enc _ => lifted os started H enc)

theorem proved : Rows.AddDirsSaid :=
  over
end Go.Proofs.YtngjccjmhlhlbaaGreat.addDirs
