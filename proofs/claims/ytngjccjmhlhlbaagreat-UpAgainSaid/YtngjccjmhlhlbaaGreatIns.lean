/- The walks of the instances of slices.Insert -/
import Derived.Test.YtngjccjmhlhlbaaGreatProg
import Derived.Test.YtngjccjmhlhlbaaGreatDenZj
import Derived.Shelf.RegionOpenPlain
import Derived.WalkKit
import Derived.Lib.Walk
import Derived.Lib.SliceRun
import Derived.Lib.JoinLaws
import Derived.Lib.AppendZerosOnto
import Derived.Lib.Overlaps
import Derived.Laws.Externs
import Derived.Laws.IdiomCopy
set_option linter.unusedVariables false
set_option linter.unusedSimpArgs false
set_option linter.unusedSectionVars false
namespace Go.Proofs
open Go.RowKit Go.Lib

theorem wp_copy_runI {P : Program} (w : World) {o : Oper} {a : Act} {K : Act → World → Prop} {Q : Exit → Act → World → Prop} (d s : Operand) (t t' : TypeId)
    (ho : o.op = .call { callee := .builtin .copy, args := #[d, s], argTypes := #[t, t'] }) (v u : Value) (hd : a.eval d = v) (hs : a.eval s = u) {v' : Value} {w' : World}
    (hr : (Builtin.copy_ #[t, t'] o.type #[v, u]).run P w = .ok v' w') (h : K (a.put o.dst v') w') : o.wp P a w K Q := by
  unfold Oper.wp execOp
  simp only [ho, resolve, invoke, builtin, Sem.run_bind, Sem.run_pure, Result.andThen_ok, List.map_toArray, List.map_cons, List.map_nil, hd, hs, hr]
  exact h

theorem wpList_copy_runI {P : Program} (w : World) {ops : Array Oper} {rest : List Oper} {o : Oper} {a : Act} {Q : Exit → Act → World → Prop} (hgd : o.guard = none) (d s : Operand) (t t' : TypeId)
    (ho : o.op = .call { callee := .builtin .copy, args := #[d, s], argTypes := #[t, t'] }) (v u : Value) (hd : a.eval d = v) (hs : a.eval s = u) {v' : Value} {w' : World}
    (hr : (Builtin.copy_ #[t, t'] o.type #[v, u]).run P w = .ok v' w') (h : wpList P ops Q rest (a.put o.dst v') w') : wpList P ops Q (o :: rest) a w :=
  wpList_plain hgd fun _ hK => wp_copy_runI w d s t t' ho v u hd hs hr (hK _ _ h)

theorem step_copy_runI {P : Program} {ops : Array Oper} {o : Oper} {a : Act} {w : World} {K : Act → World → Prop} {Q : Exit → Act → World → Prop} {E : Prop}
    (hg : o.guard = none) (d x : Operand) (dT sT : TypeId) (hop : o.op = Op.call { callee := Callee.builtin Builtin.copy, args := #[d, x], argTypes := #[dT, sT] })
    (v u : Value) (hd : a.eval d = v) (hx : a.eval x = u) {v' : Value} {w' : World} (hr : (Builtin.copy_ #[dT, sT] o.type #[v, u]).run P w = .ok v' w') (hK : K (a.put o.dst v') w') :
    if Region.wanted o (yielded ops a.tmps) = true then Oper.wp P o a w K Q else E := by
  have hw : Region.wanted o (yielded ops a.tmps) = true := by simp [Region.wanted, hg]
  rw [if_pos hw]
  unfold Oper.wp
  simp [execOp, hop, resolve, invoke, builtin, hd, hx, hr, Result.andThen]
  exact hK

set_option maxHeartbeats 4000000 in
set_option maxRecDepth 100000 in
theorem insEnd137 (base : Option Addr) (n c m vc : Nat) (xb : Option Addr) (w w' : World) (v' : Value) (hm : 0 < m)
    (hrun : (Builtin.append_ #[30, 30] 30 #[.slice base n c, .slice xb m vc]).run Tryz.prog w = .ok v' w') (hn : n ≤ c) (hnil : base = none → n = 0 ∧ c = 0) :
    Calls Tryz.prog 137 #[.slice base n c, .int .i64 n, .slice xb m vc] w fun e w'' => e = .returned v' ∧ w'' = w' := by
  have hz1 : ¬ ((m : Int) = 0) := by omega
  go_enter Tryz.func137, Tryz.ntmps137
  cases base with
  | none =>
    obtain ⟨h0, h1⟩ := hnil rfl
    subst h0 h1
    go_wp2_with (at_builtin; refine Lib.wpList_append_run _ rfl _ _ _ _ rfl _ _ rfl rfl _ _ hrun ?_)
    go_ret
    exact ⟨rfl, rfl⟩
  | some a =>
    obtain ⟨ab, ao, asp⟩ := a
    go_wp2_with (at_builtin; refine Lib.wpList_append_run _ rfl _ _ _ _ rfl _ _ rfl rfl _ _ hrun ?_)
    all_goals (go_ret; exact ⟨rfl, rfl⟩)

set_option maxHeartbeats 4000000 in
set_option maxRecDepth 100000 in
theorem insShift137 (b off n c i m vc xa xo kA kB : Nat) (tA tB : TypeId) (w w1 w2 : World) (v1 v2 : Value) (hi : i < n) (hm : 0 < m) (hroom : n + m ≤ c) (hc63 : n + m ≤ 9223372036854775807)
    (hne : xa ≠ b) (hsa : w.shape? xa = some (tA, kA)) (hsb : w.shape? b = some (tB, kB)) (hkB : kB ≠ 0) (hfa : w.frozen? ⟨xa, xo, none⟩ = false) (hfe : w.frozen? ⟨xa, kA, none⟩ = false)
    (hcp1 : ∀ dc sc, (Builtin.copy_ #[30, 30] 3 #[.slice (some ⟨b, off + (i + m) * 3, none⟩) (n + m - (i + m)) dc, .slice (some ⟨b, off + i * 3, none⟩) (n + m - i) sc]).run Tryz.prog w.drew = .ok v1 w1)
    (hcp2 : ∀ dc, (Builtin.copy_ #[30, 30] 3 #[.slice (some ⟨b, off + i * 3, none⟩) (n + m - i) dc, .slice (some ⟨xa, xo, none⟩) m vc]).run Tryz.prog w1 = .ok v2 w2) :
    Calls Tryz.prog 137 #[.slice (some ⟨b, off, none⟩) n c, .int .i64 i, .slice (some ⟨xa, xo, none⟩) m vc] w fun e w' => e = .returned (.slice (some ⟨b, off, none⟩) (n + m) c) ∧ w' = w2 := by
  have hov : ∀ lb cb, (callFunc 222 #[.slice (some ⟨xa, xo, none⟩) m vc, .slice (some ⟨b, off + (i + m) * 3, none⟩) lb cb]).run Tryz.prog w = .ok (.value (.bool false)) w := fun lb cb => by
    rw [run_callFunc_extern Tryz.func222 (by kernel_rfl) (by kernel_rfl) (by kernel_rfl) (e := Extern.SlicesOverlaps.overlaps #[30, 30] #[4]) (by kernel_rfl),
      Lib.run_overlaps_apart w 30 4 150 (by simp) 3 (fun w => by simp) ⟨xa, xo, none⟩ ⟨b, off + (i + m) * 3, none⟩ m vc lb cb hne tA tB kA kB hsa hsb hkB hfa hfe]
    rfl
  have hz1 : ¬ ((m : Int) = 0) := by omega
  have hz2 : ¬ ((i : Int) = (n : Int)) := by omega
  have hw1 : IntKind.i64.wrap ((i : Int) + (m : Int)) = (i : Int) + (m : Int) := by rw [IntKind.wrap_i64]; omega
  have hb1 : (0 : Int) ≤ (i : Int) + (m : Int) := by omega
  have hin : i ≤ n := by omega
  have htn : ((i : Int) + (m : Int)).toNat = i + m := by omega
  have hb2 : ¬ (c = i + m) := by omega
  have hb3 : (i : Int) ≤ (n : Int) + (m : Int) := by omega
  have hb4 : ¬ (c = i) := by omega
  have mixed : Tryz.prog.follows .mixedOrders = true := rfl
  go_enter Tryz.func137, Tryz.ntmps137
  go_wp2_with (simp only [hov])
  go_region_law_o (refine step_copy_runI rfl _ _ 30 30 rfl _ _ (by simp [Act.eval, Act.put]) (by simp [Act.eval, Act.put]) (hcp1 _ _) ?_)
  go_wp2_with (at_builtin; refine wpList_copy_runI _ rfl _ _ 30 30 rfl _ _ rfl rfl (hcp2 _) ?_)
  go_ret
  exact ⟨rfl, rfl⟩

set_option maxHeartbeats 4000000 in
set_option maxRecDepth 100000 in
theorem insGrow137 (b off n c i m vc N G : Nat) (xb : Option Addr) (w w1 w2 w3 : World) (v2 v3 : Value) (hi : i < n) (hm : 0 < m) (hnc : n ≤ c) (hroom : c < n + m) (hc63 : n + m ≤ 9223372036854775807) (hGn : n + m ≤ G) (hG63 : G ≤ 9223372036854775807)
    (hrz : (Builtin.append_ #[30, 3] 30 #[.slice (some ⟨b, off, none⟩) i c, .int .i64 ((n : Int) + (m : Int) - (i : Int))]).run Tryz.prog w = .ok (.slice (some ⟨N, 0, none⟩) (n + m) G) w1)
    (hcpA : ∀ dc, (Builtin.copy_ #[30, 30] 3 #[.slice (some ⟨N, i * 3, none⟩) (n + m - i) dc, .slice xb m vc]).run Tryz.prog w1 = .ok v2 w2)
    (hcpB : ∀ dc sc, (Builtin.copy_ #[30, 30] 3 #[.slice (some ⟨N, (i + m) * 3, none⟩) (n + m - (i + m)) dc, .slice (some ⟨b, off + i * 3, none⟩) (n - i) sc]).run Tryz.prog w2.drew = .ok v3 w3) :
    Calls Tryz.prog 137 #[.slice (some ⟨b, off, none⟩) n c, .int .i64 i, .slice xb m vc] w fun e w' => e = .returned (.slice (some ⟨N, 0, none⟩) (n + m) G) ∧ w' = w3 := by
  have hz1 : ¬ ((m : Int) = 0) := by omega
  have hz2 : ¬ ((i : Int) = (n : Int)) := by omega
  have hz3 : (c : Int) < (n : Int) + (m : Int) := by omega
  have hw1 : IntKind.i64.wrap ((i : Int) + (m : Int)) = (i : Int) + (m : Int) := by rw [IntKind.wrap_i64]; omega
  have hb1 : (0 : Int) ≤ (i : Int) + (m : Int) := by omega
  have hin : i ≤ n := by omega
  have htn : ((i : Int) + (m : Int)).toNat = i + m := by omega
  have hb3 : (i : Int) ≤ (n : Int) := by omega
  have hGi : ¬ (G = i) := by omega
  have hGim : ¬ (G = i + m) := by omega
  have hci : ¬ (c = i) := by omega
  have mixed : Tryz.prog.follows .mixedOrders = true := rfl
  go_enter Tryz.func137, Tryz.ntmps137
  go_wp2_with (first
    | (at_builtin; refine Lib.wpList_append_run _ rfl _ _ _ _ rfl _ _ rfl rfl _ _ hrz ?_)
    | (at_builtin; refine wpList_copy_runI _ rfl _ _ 30 30 rfl _ _ rfl rfl (hcpA _) ?_)
    | (at_builtin; refine wpList_copy_runI _ rfl _ _ 30 30 rfl _ _ rfl rfl (hcpB _ _) ?_))
  go_region_law_o (refine step_copy_runI rfl _ _ 30 30 rfl (.slice (some ⟨N, (i + m) * 3, none⟩) (n + m - (i + m)) (G - (i + m))) (.slice (some ⟨b, off + i * 3, none⟩) (n - i) (c - i)) (by simp [Act.eval, Act.put]) (by simp [Act.eval, Act.put]) (hcpB (G - (i + m)) (c - i)) ?_)
  go_wp2
  go_ret
  exact ⟨rfl, rfl⟩

theorem insWalk137 [Go.Den.Val] : Go.Den.InsWalk Tryz.prog 137 30 3 3 where
  fn := ⟨Tryz.f137, Tryz.func137, by decide, rfl⟩
  end_ := insEnd137
  shift := insShift137
  grow := insGrow137

set_option maxHeartbeats 4000000 in
set_option maxRecDepth 100000 in
theorem insEnd218 (base : Option Addr) (n c m vc : Nat) (xb : Option Addr) (w w' : World) (v' : Value) (hm : 0 < m)
    (hrun : (Builtin.append_ #[37, 37] 37 #[.slice base n c, .slice xb m vc]).run Tryz.prog w = .ok v' w') (hn : n ≤ c) (hnil : base = none → n = 0 ∧ c = 0) :
    Calls Tryz.prog 218 #[.slice base n c, .int .i64 n, .slice xb m vc] w fun e w'' => e = .returned v' ∧ w'' = w' := by
  have hz1 : ¬ ((m : Int) = 0) := by omega
  go_enter Tryz.func218, Tryz.ntmps218
  cases base with
  | none =>
    obtain ⟨h0, h1⟩ := hnil rfl
    subst h0 h1
    go_wp2_with (at_builtin; refine Lib.wpList_append_run _ rfl _ _ _ _ rfl _ _ rfl rfl _ _ hrun ?_)
    go_ret
    exact ⟨rfl, rfl⟩
  | some a =>
    obtain ⟨ab, ao, asp⟩ := a
    go_wp2_with (at_builtin; refine Lib.wpList_append_run _ rfl _ _ _ _ rfl _ _ rfl rfl _ _ hrun ?_)
    all_goals (go_ret; exact ⟨rfl, rfl⟩)

set_option maxHeartbeats 4000000 in
set_option maxRecDepth 100000 in
theorem insShift218 (b off n c i m vc xa xo kA kB : Nat) (tA tB : TypeId) (w w1 w2 : World) (v1 v2 : Value) (hi : i < n) (hm : 0 < m) (hroom : n + m ≤ c) (hc63 : n + m ≤ 9223372036854775807)
    (hne : xa ≠ b) (hsa : w.shape? xa = some (tA, kA)) (hsb : w.shape? b = some (tB, kB)) (hkB : kB ≠ 0) (hfa : w.frozen? ⟨xa, xo, none⟩ = false) (hfe : w.frozen? ⟨xa, kA, none⟩ = false)
    (hcp1 : ∀ dc sc, (Builtin.copy_ #[37, 37] 3 #[.slice (some ⟨b, off + (i + m) * 8, none⟩) (n + m - (i + m)) dc, .slice (some ⟨b, off + i * 8, none⟩) (n + m - i) sc]).run Tryz.prog w.drew = .ok v1 w1)
    (hcp2 : ∀ dc, (Builtin.copy_ #[37, 37] 3 #[.slice (some ⟨b, off + i * 8, none⟩) (n + m - i) dc, .slice (some ⟨xa, xo, none⟩) m vc]).run Tryz.prog w1 = .ok v2 w2) :
    Calls Tryz.prog 218 #[.slice (some ⟨b, off, none⟩) n c, .int .i64 i, .slice (some ⟨xa, xo, none⟩) m vc] w fun e w' => e = .returned (.slice (some ⟨b, off, none⟩) (n + m) c) ∧ w' = w2 := by
  have hov : ∀ lb cb, (callFunc 270 #[.slice (some ⟨xa, xo, none⟩) m vc, .slice (some ⟨b, off + (i + m) * 8, none⟩) lb cb]).run Tryz.prog w = .ok (.value (.bool false)) w := fun lb cb => by
    rw [run_callFunc_extern Tryz.func270 (by kernel_rfl) (by kernel_rfl) (by kernel_rfl) (e := Extern.SlicesOverlaps.overlaps #[37, 37] #[4]) (by kernel_rfl),
      Lib.run_overlaps_apart w 37 4 54 (by simp) 8 (fun w => by simp) ⟨xa, xo, none⟩ ⟨b, off + (i + m) * 8, none⟩ m vc lb cb hne tA tB kA kB hsa hsb hkB hfa hfe]
    rfl
  have hz1 : ¬ ((m : Int) = 0) := by omega
  have hz2 : ¬ ((i : Int) = (n : Int)) := by omega
  have hw1 : IntKind.i64.wrap ((i : Int) + (m : Int)) = (i : Int) + (m : Int) := by rw [IntKind.wrap_i64]; omega
  have hb1 : (0 : Int) ≤ (i : Int) + (m : Int) := by omega
  have hin : i ≤ n := by omega
  have htn : ((i : Int) + (m : Int)).toNat = i + m := by omega
  have hb2 : ¬ (c = i + m) := by omega
  have hb3 : (i : Int) ≤ (n : Int) + (m : Int) := by omega
  have hb4 : ¬ (c = i) := by omega
  have mixed : Tryz.prog.follows .mixedOrders = true := rfl
  go_enter Tryz.func218, Tryz.ntmps218
  go_wp2_with (simp only [hov])
  go_region_law_o (refine step_copy_runI rfl _ _ 37 37 rfl _ _ (by simp [Act.eval, Act.put]) (by simp [Act.eval, Act.put]) (hcp1 _ _) ?_)
  go_wp2_with (at_builtin; refine wpList_copy_runI _ rfl _ _ 37 37 rfl _ _ rfl rfl (hcp2 _) ?_)
  go_ret
  exact ⟨rfl, rfl⟩

set_option maxHeartbeats 4000000 in
set_option maxRecDepth 100000 in
theorem insGrow218 (b off n c i m vc N G : Nat) (xb : Option Addr) (w w1 w2 w3 : World) (v2 v3 : Value) (hi : i < n) (hm : 0 < m) (hnc : n ≤ c) (hroom : c < n + m) (hc63 : n + m ≤ 9223372036854775807) (hGn : n + m ≤ G) (hG63 : G ≤ 9223372036854775807)
    (hrz : (Builtin.append_ #[37, 3] 37 #[.slice (some ⟨b, off, none⟩) i c, .int .i64 ((n : Int) + (m : Int) - (i : Int))]).run Tryz.prog w = .ok (.slice (some ⟨N, 0, none⟩) (n + m) G) w1)
    (hcpA : ∀ dc, (Builtin.copy_ #[37, 37] 3 #[.slice (some ⟨N, i * 8, none⟩) (n + m - i) dc, .slice xb m vc]).run Tryz.prog w1 = .ok v2 w2)
    (hcpB : ∀ dc sc, (Builtin.copy_ #[37, 37] 3 #[.slice (some ⟨N, (i + m) * 8, none⟩) (n + m - (i + m)) dc, .slice (some ⟨b, off + i * 8, none⟩) (n - i) sc]).run Tryz.prog w2.drew = .ok v3 w3) :
    Calls Tryz.prog 218 #[.slice (some ⟨b, off, none⟩) n c, .int .i64 i, .slice xb m vc] w fun e w' => e = .returned (.slice (some ⟨N, 0, none⟩) (n + m) G) ∧ w' = w3 := by
  have hz1 : ¬ ((m : Int) = 0) := by omega
  have hz2 : ¬ ((i : Int) = (n : Int)) := by omega
  have hz3 : (c : Int) < (n : Int) + (m : Int) := by omega
  have hw1 : IntKind.i64.wrap ((i : Int) + (m : Int)) = (i : Int) + (m : Int) := by rw [IntKind.wrap_i64]; omega
  have hb1 : (0 : Int) ≤ (i : Int) + (m : Int) := by omega
  have hin : i ≤ n := by omega
  have htn : ((i : Int) + (m : Int)).toNat = i + m := by omega
  have hb3 : (i : Int) ≤ (n : Int) := by omega
  have hGi : ¬ (G = i) := by omega
  have hGim : ¬ (G = i + m) := by omega
  have hci : ¬ (c = i) := by omega
  have mixed : Tryz.prog.follows .mixedOrders = true := rfl
  go_enter Tryz.func218, Tryz.ntmps218
  go_wp2_with (first
    | (at_builtin; refine Lib.wpList_append_run _ rfl _ _ _ _ rfl _ _ rfl rfl _ _ hrz ?_)
    | (at_builtin; refine wpList_copy_runI _ rfl _ _ 37 37 rfl _ _ rfl rfl (hcpA _) ?_)
    | (at_builtin; refine wpList_copy_runI _ rfl _ _ 37 37 rfl _ _ rfl rfl (hcpB _ _) ?_))
  go_region_law_o (refine step_copy_runI rfl _ _ 37 37 rfl (.slice (some ⟨N, (i + m) * 8, none⟩) (n + m - (i + m)) (G - (i + m))) (.slice (some ⟨b, off + i * 8, none⟩) (n - i) (c - i)) (by simp [Act.eval, Act.put]) (by simp [Act.eval, Act.put]) (hcpB (G - (i + m)) (c - i)) ?_)
  go_wp2
  go_ret
  exact ⟨rfl, rfl⟩

theorem insWalk218 [Go.Den.Val] : Go.Den.InsWalk Tryz.prog 218 37 3 8 where
  fn := ⟨Tryz.f218, Tryz.func218, by decide, rfl⟩
  end_ := insEnd218
  shift := insShift218
  grow := insGrow218

set_option maxHeartbeats 4000000 in
set_option maxRecDepth 100000 in
theorem insEnd264 (base : Option Addr) (n c m vc : Nat) (xb : Option Addr) (w w' : World) (v' : Value) (hm : 0 < m)
    (hrun : (Builtin.append_ #[49, 49] 49 #[.slice base n c, .slice xb m vc]).run Tryz.prog w = .ok v' w') (hn : n ≤ c) (hnil : base = none → n = 0 ∧ c = 0) :
    Calls Tryz.prog 264 #[.slice base n c, .int .i64 n, .slice xb m vc] w fun e w'' => e = .returned v' ∧ w'' = w' := by
  have hz1 : ¬ ((m : Int) = 0) := by omega
  go_enter Tryz.func264, Tryz.ntmps264
  cases base with
  | none =>
    obtain ⟨h0, h1⟩ := hnil rfl
    subst h0 h1
    go_wp2_with (at_builtin; refine Lib.wpList_append_run _ rfl _ _ _ _ rfl _ _ rfl rfl _ _ hrun ?_)
    go_ret
    exact ⟨rfl, rfl⟩
  | some a =>
    obtain ⟨ab, ao, asp⟩ := a
    go_wp2_with (at_builtin; refine Lib.wpList_append_run _ rfl _ _ _ _ rfl _ _ rfl rfl _ _ hrun ?_)
    all_goals (go_ret; exact ⟨rfl, rfl⟩)

set_option maxHeartbeats 4000000 in
set_option maxRecDepth 100000 in
theorem insShift264 (b off n c i m vc xa xo kA kB : Nat) (tA tB : TypeId) (w w1 w2 : World) (v1 v2 : Value) (hi : i < n) (hm : 0 < m) (hroom : n + m ≤ c) (hc63 : n + m ≤ 9223372036854775807)
    (hne : xa ≠ b) (hsa : w.shape? xa = some (tA, kA)) (hsb : w.shape? b = some (tB, kB)) (hkB : kB ≠ 0) (hfa : w.frozen? ⟨xa, xo, none⟩ = false) (hfe : w.frozen? ⟨xa, kA, none⟩ = false)
    (hcp1 : ∀ dc sc, (Builtin.copy_ #[49, 49] 3 #[.slice (some ⟨b, off + (i + m) * 2, none⟩) (n + m - (i + m)) dc, .slice (some ⟨b, off + i * 2, none⟩) (n + m - i) sc]).run Tryz.prog w.drew = .ok v1 w1)
    (hcp2 : ∀ dc, (Builtin.copy_ #[49, 49] 3 #[.slice (some ⟨b, off + i * 2, none⟩) (n + m - i) dc, .slice (some ⟨xa, xo, none⟩) m vc]).run Tryz.prog w1 = .ok v2 w2) :
    Calls Tryz.prog 264 #[.slice (some ⟨b, off, none⟩) n c, .int .i64 i, .slice (some ⟨xa, xo, none⟩) m vc] w fun e w' => e = .returned (.slice (some ⟨b, off, none⟩) (n + m) c) ∧ w' = w2 := by
  have hov : ∀ lb cb, (callFunc 285 #[.slice (some ⟨xa, xo, none⟩) m vc, .slice (some ⟨b, off + (i + m) * 2, none⟩) lb cb]).run Tryz.prog w = .ok (.value (.bool false)) w := fun lb cb => by
    rw [run_callFunc_extern Tryz.func285 (by kernel_rfl) (by kernel_rfl) (by kernel_rfl) (e := Extern.SlicesOverlaps.overlaps #[49, 49] #[4]) (by kernel_rfl),
      Lib.run_overlaps_apart w 49 4 243 (by simp) 2 (fun w => by simp) ⟨xa, xo, none⟩ ⟨b, off + (i + m) * 2, none⟩ m vc lb cb hne tA tB kA kB hsa hsb hkB hfa hfe]
    rfl
  have hz1 : ¬ ((m : Int) = 0) := by omega
  have hz2 : ¬ ((i : Int) = (n : Int)) := by omega
  have hw1 : IntKind.i64.wrap ((i : Int) + (m : Int)) = (i : Int) + (m : Int) := by rw [IntKind.wrap_i64]; omega
  have hb1 : (0 : Int) ≤ (i : Int) + (m : Int) := by omega
  have hin : i ≤ n := by omega
  have htn : ((i : Int) + (m : Int)).toNat = i + m := by omega
  have hb2 : ¬ (c = i + m) := by omega
  have hb3 : (i : Int) ≤ (n : Int) + (m : Int) := by omega
  have hb4 : ¬ (c = i) := by omega
  have mixed : Tryz.prog.follows .mixedOrders = true := rfl
  go_enter Tryz.func264, Tryz.ntmps264
  go_wp2_with (simp only [hov])
  go_region_law_o (refine step_copy_runI rfl _ _ 49 49 rfl _ _ (by simp [Act.eval, Act.put]) (by simp [Act.eval, Act.put]) (hcp1 _ _) ?_)
  go_wp2_with (at_builtin; refine wpList_copy_runI _ rfl _ _ 49 49 rfl _ _ rfl rfl (hcp2 _) ?_)
  go_ret
  exact ⟨rfl, rfl⟩

set_option maxHeartbeats 4000000 in
set_option maxRecDepth 100000 in
theorem insGrow264 (b off n c i m vc N G : Nat) (xb : Option Addr) (w w1 w2 w3 : World) (v2 v3 : Value) (hi : i < n) (hm : 0 < m) (hnc : n ≤ c) (hroom : c < n + m) (hc63 : n + m ≤ 9223372036854775807) (hGn : n + m ≤ G) (hG63 : G ≤ 9223372036854775807)
    (hrz : (Builtin.append_ #[49, 3] 49 #[.slice (some ⟨b, off, none⟩) i c, .int .i64 ((n : Int) + (m : Int) - (i : Int))]).run Tryz.prog w = .ok (.slice (some ⟨N, 0, none⟩) (n + m) G) w1)
    (hcpA : ∀ dc, (Builtin.copy_ #[49, 49] 3 #[.slice (some ⟨N, i * 2, none⟩) (n + m - i) dc, .slice xb m vc]).run Tryz.prog w1 = .ok v2 w2)
    (hcpB : ∀ dc sc, (Builtin.copy_ #[49, 49] 3 #[.slice (some ⟨N, (i + m) * 2, none⟩) (n + m - (i + m)) dc, .slice (some ⟨b, off + i * 2, none⟩) (n - i) sc]).run Tryz.prog w2.drew = .ok v3 w3) :
    Calls Tryz.prog 264 #[.slice (some ⟨b, off, none⟩) n c, .int .i64 i, .slice xb m vc] w fun e w' => e = .returned (.slice (some ⟨N, 0, none⟩) (n + m) G) ∧ w' = w3 := by
  have hz1 : ¬ ((m : Int) = 0) := by omega
  have hz2 : ¬ ((i : Int) = (n : Int)) := by omega
  have hz3 : (c : Int) < (n : Int) + (m : Int) := by omega
  have hw1 : IntKind.i64.wrap ((i : Int) + (m : Int)) = (i : Int) + (m : Int) := by rw [IntKind.wrap_i64]; omega
  have hb1 : (0 : Int) ≤ (i : Int) + (m : Int) := by omega
  have hin : i ≤ n := by omega
  have htn : ((i : Int) + (m : Int)).toNat = i + m := by omega
  have hb3 : (i : Int) ≤ (n : Int) := by omega
  have hGi : ¬ (G = i) := by omega
  have hGim : ¬ (G = i + m) := by omega
  have hci : ¬ (c = i) := by omega
  have mixed : Tryz.prog.follows .mixedOrders = true := rfl
  go_enter Tryz.func264, Tryz.ntmps264
  go_wp2_with (first
    | (at_builtin; refine Lib.wpList_append_run _ rfl _ _ _ _ rfl _ _ rfl rfl _ _ hrz ?_)
    | (at_builtin; refine wpList_copy_runI _ rfl _ _ 49 49 rfl _ _ rfl rfl (hcpA _) ?_)
    | (at_builtin; refine wpList_copy_runI _ rfl _ _ 49 49 rfl _ _ rfl rfl (hcpB _ _) ?_))
  go_region_law_o (refine step_copy_runI rfl _ _ 49 49 rfl (.slice (some ⟨N, (i + m) * 2, none⟩) (n + m - (i + m)) (G - (i + m))) (.slice (some ⟨b, off + i * 2, none⟩) (n - i) (c - i)) (by simp [Act.eval, Act.put]) (by simp [Act.eval, Act.put]) (hcpB (G - (i + m)) (c - i)) ?_)
  go_wp2
  go_ret
  exact ⟨rfl, rfl⟩

theorem insWalk264 [Go.Den.Val] : Go.Den.InsWalk Tryz.prog 264 49 3 2 where
  fn := ⟨Tryz.f264, Tryz.func264, by decide, rfl⟩
  end_ := insEnd264
  shift := insShift264
  grow := insGrow264

set_option maxHeartbeats 4000000 in
set_option maxRecDepth 100000 in
theorem insEnd278 (base : Option Addr) (n c m vc : Nat) (xb : Option Addr) (w w' : World) (v' : Value) (hm : 0 < m)
    (hrun : (Builtin.append_ #[52, 52] 52 #[.slice base n c, .slice xb m vc]).run Tryz.prog w = .ok v' w') (hn : n ≤ c) (hnil : base = none → n = 0 ∧ c = 0) :
    Calls Tryz.prog 278 #[.slice base n c, .int .i64 n, .slice xb m vc] w fun e w'' => e = .returned v' ∧ w'' = w' := by
  have hz1 : ¬ ((m : Int) = 0) := by omega
  go_enter Tryz.func278, Tryz.ntmps278
  cases base with
  | none =>
    obtain ⟨h0, h1⟩ := hnil rfl
    subst h0 h1
    go_wp2_with (at_builtin; refine Lib.wpList_append_run _ rfl _ _ _ _ rfl _ _ rfl rfl _ _ hrun ?_)
    go_ret
    exact ⟨rfl, rfl⟩
  | some a =>
    obtain ⟨ab, ao, asp⟩ := a
    go_wp2_with (at_builtin; refine Lib.wpList_append_run _ rfl _ _ _ _ rfl _ _ rfl rfl _ _ hrun ?_)
    all_goals (go_ret; exact ⟨rfl, rfl⟩)

set_option maxHeartbeats 4000000 in
set_option maxRecDepth 100000 in
theorem insShift278 (b off n c i m vc xa xo kA kB : Nat) (tA tB : TypeId) (w w1 w2 : World) (v1 v2 : Value) (hi : i < n) (hm : 0 < m) (hroom : n + m ≤ c) (hc63 : n + m ≤ 9223372036854775807)
    (hne : xa ≠ b) (hsa : w.shape? xa = some (tA, kA)) (hsb : w.shape? b = some (tB, kB)) (hkB : kB ≠ 0) (hfa : w.frozen? ⟨xa, xo, none⟩ = false) (hfe : w.frozen? ⟨xa, kA, none⟩ = false)
    (hcp1 : ∀ dc sc, (Builtin.copy_ #[52, 52] 3 #[.slice (some ⟨b, off + (i + m) * 2, none⟩) (n + m - (i + m)) dc, .slice (some ⟨b, off + i * 2, none⟩) (n + m - i) sc]).run Tryz.prog w.drew = .ok v1 w1)
    (hcp2 : ∀ dc, (Builtin.copy_ #[52, 52] 3 #[.slice (some ⟨b, off + i * 2, none⟩) (n + m - i) dc, .slice (some ⟨xa, xo, none⟩) m vc]).run Tryz.prog w1 = .ok v2 w2) :
    Calls Tryz.prog 278 #[.slice (some ⟨b, off, none⟩) n c, .int .i64 i, .slice (some ⟨xa, xo, none⟩) m vc] w fun e w' => e = .returned (.slice (some ⟨b, off, none⟩) (n + m) c) ∧ w' = w2 := by
  have hov : ∀ lb cb, (callFunc 291 #[.slice (some ⟨xa, xo, none⟩) m vc, .slice (some ⟨b, off + (i + m) * 2, none⟩) lb cb]).run Tryz.prog w = .ok (.value (.bool false)) w := fun lb cb => by
    rw [run_callFunc_extern Tryz.func291 (by kernel_rfl) (by kernel_rfl) (by kernel_rfl) (e := Extern.SlicesOverlaps.overlaps #[52, 52] #[4]) (by kernel_rfl),
      Lib.run_overlaps_apart w 52 4 194 (by simp) 2 (fun w => by simp) ⟨xa, xo, none⟩ ⟨b, off + (i + m) * 2, none⟩ m vc lb cb hne tA tB kA kB hsa hsb hkB hfa hfe]
    rfl
  have hz1 : ¬ ((m : Int) = 0) := by omega
  have hz2 : ¬ ((i : Int) = (n : Int)) := by omega
  have hw1 : IntKind.i64.wrap ((i : Int) + (m : Int)) = (i : Int) + (m : Int) := by rw [IntKind.wrap_i64]; omega
  have hb1 : (0 : Int) ≤ (i : Int) + (m : Int) := by omega
  have hin : i ≤ n := by omega
  have htn : ((i : Int) + (m : Int)).toNat = i + m := by omega
  have hb2 : ¬ (c = i + m) := by omega
  have hb3 : (i : Int) ≤ (n : Int) + (m : Int) := by omega
  have hb4 : ¬ (c = i) := by omega
  have mixed : Tryz.prog.follows .mixedOrders = true := rfl
  go_enter Tryz.func278, Tryz.ntmps278
  go_wp2_with (simp only [hov])
  go_region_law_o (refine step_copy_runI rfl _ _ 52 52 rfl _ _ (by simp [Act.eval, Act.put]) (by simp [Act.eval, Act.put]) (hcp1 _ _) ?_)
  go_wp2_with (at_builtin; refine wpList_copy_runI _ rfl _ _ 52 52 rfl _ _ rfl rfl (hcp2 _) ?_)
  go_ret
  exact ⟨rfl, rfl⟩

set_option maxHeartbeats 4000000 in
set_option maxRecDepth 100000 in
theorem insGrow278 (b off n c i m vc N G : Nat) (xb : Option Addr) (w w1 w2 w3 : World) (v2 v3 : Value) (hi : i < n) (hm : 0 < m) (hnc : n ≤ c) (hroom : c < n + m) (hc63 : n + m ≤ 9223372036854775807) (hGn : n + m ≤ G) (hG63 : G ≤ 9223372036854775807)
    (hrz : (Builtin.append_ #[52, 3] 52 #[.slice (some ⟨b, off, none⟩) i c, .int .i64 ((n : Int) + (m : Int) - (i : Int))]).run Tryz.prog w = .ok (.slice (some ⟨N, 0, none⟩) (n + m) G) w1)
    (hcpA : ∀ dc, (Builtin.copy_ #[52, 52] 3 #[.slice (some ⟨N, i * 2, none⟩) (n + m - i) dc, .slice xb m vc]).run Tryz.prog w1 = .ok v2 w2)
    (hcpB : ∀ dc sc, (Builtin.copy_ #[52, 52] 3 #[.slice (some ⟨N, (i + m) * 2, none⟩) (n + m - (i + m)) dc, .slice (some ⟨b, off + i * 2, none⟩) (n - i) sc]).run Tryz.prog w2.drew = .ok v3 w3) :
    Calls Tryz.prog 278 #[.slice (some ⟨b, off, none⟩) n c, .int .i64 i, .slice xb m vc] w fun e w' => e = .returned (.slice (some ⟨N, 0, none⟩) (n + m) G) ∧ w' = w3 := by
  have hz1 : ¬ ((m : Int) = 0) := by omega
  have hz2 : ¬ ((i : Int) = (n : Int)) := by omega
  have hz3 : (c : Int) < (n : Int) + (m : Int) := by omega
  have hw1 : IntKind.i64.wrap ((i : Int) + (m : Int)) = (i : Int) + (m : Int) := by rw [IntKind.wrap_i64]; omega
  have hb1 : (0 : Int) ≤ (i : Int) + (m : Int) := by omega
  have hin : i ≤ n := by omega
  have htn : ((i : Int) + (m : Int)).toNat = i + m := by omega
  have hb3 : (i : Int) ≤ (n : Int) := by omega
  have hGi : ¬ (G = i) := by omega
  have hGim : ¬ (G = i + m) := by omega
  have hci : ¬ (c = i) := by omega
  have mixed : Tryz.prog.follows .mixedOrders = true := rfl
  go_enter Tryz.func278, Tryz.ntmps278
  go_wp2_with (first
    | (at_builtin; refine Lib.wpList_append_run _ rfl _ _ _ _ rfl _ _ rfl rfl _ _ hrz ?_)
    | (at_builtin; refine wpList_copy_runI _ rfl _ _ 52 52 rfl _ _ rfl rfl (hcpA _) ?_)
    | (at_builtin; refine wpList_copy_runI _ rfl _ _ 52 52 rfl _ _ rfl rfl (hcpB _ _) ?_))
  go_region_law_o (refine step_copy_runI rfl _ _ 52 52 rfl (.slice (some ⟨N, (i + m) * 2, none⟩) (n + m - (i + m)) (G - (i + m))) (.slice (some ⟨b, off + i * 2, none⟩) (n - i) (c - i)) (by simp [Act.eval, Act.put]) (by simp [Act.eval, Act.put]) (hcpB (G - (i + m)) (c - i)) ?_)
  go_wp2
  go_ret
  exact ⟨rfl, rfl⟩

theorem insWalk278 [Go.Den.Val] : Go.Den.InsWalk Tryz.prog 278 52 3 2 where
  fn := ⟨Tryz.f278, Tryz.func278, by decide, rfl⟩
  end_ := insEnd278
  shift := insShift278
  grow := insGrow278
end Go.Proofs
