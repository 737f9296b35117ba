/- A part of a machine that computes what the program computes, and of the proof that it does -/
import Derived.Test.YtngjccjmhlhlbaaGreatDenR
set_option linter.unusedVariables false
set_option linter.unusedSimpArgs false
set_option linter.unusedSectionVars false
namespace Go.Den
open Go

variable [Val]

section
variable {P : Program} {E : Env} {rec : Rec} {loc env : Regs} {h : Heap} {f : K} {r : Fin2} {o : Oper}

theorem headT_some {β : Type} {ts : List Nat} {g : Nat → Option β} {r : β} (e : headT ts g = some r) : ∃ t ts', ts = t :: ts' ∧ g t = some r := by
  cases ts with
  | nil => cases e
  | cons t ts => exact ⟨t, ts, rfl, e⟩
theorem headT2_some {β : Type} {ts : List Nat} {g : Nat → Nat → Option β} {r : β} (e : headT2 ts g = some r) : ∃ t u ts', ts = t :: u :: ts' ∧ g t u = some r := by
  cases ts with
  | nil => cases e
  | cons t ts => obtain ⟨u, ts', rfl, e1⟩ := headT_some (show headT ts (g t) = some r from e); exact ⟨t, u, ts', rfl, e1⟩
theorem single_some {l : Row} {v : AV} (e : single l = some v) : l = [v] := by
  cases l with
  | nil => cases e
  | cons x l => cases l with
    | nil => cases e; rfl
    | cons _ _ => cases e
theorem two_some {β : Type} {l : List AV} {g : AV → AV → Option β} {r : β} (e : two l g = some r) : ∃ x y, l = [x, y] ∧ g x y = some r := by
  cases l with
  | nil => cases e
  | cons x l => cases l with
    | nil => cases e
    | cons y l => cases l with
      | nil => exact ⟨x, y, rfl, e⟩
      | cons _ _ => cases e

theorem RelL.one_inv {w : World} {φ : Pos} {I : Imm} {x : AV} {cs : List Value} (hl : RelL w φ I [x] cs) : ∃ c, cs = [c] ∧ RelV w φ I x c := by
  obtain ⟨h1, h2⟩ := hl
  match cs, h1 with
  | [c], _ => exact ⟨c, rfl, h2 0 x c rfl rfl⟩
theorem RelL.two_inv {w : World} {φ : Pos} {I : Imm} {x y : AV} {cs : List Value} (hl : RelL w φ I [x, y] cs) : ∃ c d, cs = [c, d] ∧ RelV w φ I x c ∧ RelV w φ I y d := by
  obtain ⟨h1, h2⟩ := hl
  match cs, h1 with
  | [c, d], _ => exact ⟨c, d, rfl, h2 0 x c rfl rfl, h2 1 y d rfl rfl⟩

theorem mm2_some {mx : Bool} {x y v : AV} (e : mm2 mx x y = some v) : ∃ j a b, x = .int j a ∧ y = .int j b ∧ v = .int j (if mx then (if a < b then b else a) else (if b < a then b else a)) := by
  obtain ⟨j, a, ha, e1⟩ := op2_some e
  obtain ⟨k, b, hb, e2⟩ := op2_some e1
  obtain ⟨h1, e3⟩ := ifb_none e2
  obtain rfl := toInt_some ha
  obtain rfl := toInt_some hb
  obtain rfl := kindBeq_eq h1
  cases e3
  refine ⟨j, a, b, rfl, rfl, ?_⟩
  rw [intBlt_eq, intBlt_eq]
  congr 1
  by_cases h1 : a < b <;> by_cases h2 : b < a <;> cases mx <;> simp [ifb, h1, h2]

/-- 'len', 'min', 'max' -/
def isPureB (b : Builtin) : Bool := match b with | .len | .min | .max => true | _ => false

theorem builtin_pure (hT : TypesOk P E) {b : Builtin} {ts : List Nat} {vs : List AV} (hb : isPureB b = true) (e : builtinOp b ts E vs h f = some r) :
    ∃ v, f v h = some r ∧ ∀ φ I w (cs : List Value) ty consts, RelL w φ I vs cs → ∃ c, (builtin b ts.toArray ty consts cs.toArray).run P w = .ok (.value c) w ∧ RelV w φ I v c := by
  cases b with
  | len =>
    obtain ⟨t, ts', rfl, e1⟩ := headT_some (show headT ts (fun t => ob (E.T t) fun i => ob (single vs) fun x => ob (lenV x) fun v => ifb (lenTd x i) (f v h) none) = some r from e)
    obtain ⟨i, hi, e2⟩ := ob_some e1
    obtain ⟨x, hx, e3⟩ := ob_some e2
    obtain ⟨u, hu, e4⟩ := ob_some e3
    obtain ⟨htd, e5⟩ := ifb_none e4
    obtain rfl := single_some hx
    refine ⟨_, e5, fun φ I w cs ty consts hl => ?_⟩
    obtain ⟨c, rfl, hc⟩ := hl.one_inv
    obtain ⟨d, hd, hdo⟩ := (hT t i hi).und
    have plain : ∀ n : Nat, lenOf x = some n → lenV x = ob (lenOf x) (fun n => some (mkInt .i64 (.ofNat n))) → ((Builtin.len_ (t :: ts').toArray ty #[c]).run P w = .ok (.int .i64 n) w) → ∃ c_1, (builtin .len (t :: ts').toArray ty consts [c].toArray).run P w = .ok (.value c_1) w ∧ RelV w φ I u c_1 := by
      intro n hn hv key
      rw [hv, hn] at hu
      cases hu
      exact ⟨.int .i64 n, by simp [builtin, key], .imm _ _ (by rw [mkInt_eq]; exact .int _ _)⟩
    cases x with
    | str l =>
      obtain rfl := isStrTd_some hdo htd
      obtain ⟨st, rfl, rfl⟩ := hc.str_inv
      exact plain _ rfl rfl (by simp [Builtin.len_, run_underlying hd w, goInt, len_eq, bytesOfStr])
    | nil =>
      obtain ⟨el, bts, zero, rfl, hinfo⟩ := isSliceTd_some hdo htd
      obtain rfl := hc.nil_inv
      exact plain _ rfl rfl (by simp [Builtin.len_, run_underlying hd w, goInt])
    | sl nn z xs =>
      obtain ⟨el, bts, zero, rfl, hinfo⟩ := isSliceTd_some hdo htd
      have hs := hc.sl_inv
      refine plain _ rfl rfl ?_
      cases hs <;> simp [Builtin.len_, run_underlying hd w, goInt, len_eq]
    | ref b z off m cap =>
      obtain ⟨el, bts, zero, rfl, hinfo⟩ := isSliceTd_some hdo htd
      obtain ⟨L, hL, _, hrv⟩ := hc.ref_inv
      refine plain _ rfl rfl ?_
      rcases hrv with ⟨c', rfl, _⟩ | ⟨rfl, ⟨o, rfl⟩, _⟩ <;> simp [Builtin.len_, run_underlying hd w, goInt]
    | sym s =>
      obtain rfl := isStrTd_some hdo htd
      cases s with
      | int => cases hu
      | str pre j lo hi' a b =>
        have hs : SyRel (.str pre j lo hi' a b) c := by cases hc with | imm _ _ h => cases h with | sym _ _ h => exact h
        obtain ⟨st, rfl, k1, _, _, k4, k5⟩ := hs
        have hst : st.size = pre.length + (Val.τ j).size := by
          have := congrArg List.length k1
          rw [List.length_append] at this
          simpa [bytesOfStr] using this
        have hu' : lenSy (.str pre j lo hi' a b) = some u := hu
        simp only [lenSy, forceNat_eq, len_eq] at hu'
        cases hu'
        refine ⟨.int .i64 (st.size : Nat), by simp [builtin, Builtin.len_, run_underlying hd w, goInt], .imm _ _ (.sym _ _ ⟨?_, ?_, ?_⟩)⟩
        · rw [Val.len, hst]; congr 1; simp; omega
        · rw [Val.len]; simp; omega
        · rw [Val.len]; simp; omega
    | _ => cases hu
  | min =>
    obtain ⟨v, hv, e1⟩ := ob_some (show ob (two vs (mm2 false)) (fun v => f v h) = some r from e)
    obtain ⟨x, y, rfl, e2⟩ := two_some hv
    obtain ⟨j, a, b, rfl, rfl, rfl⟩ := mm2_some e2
    refine ⟨_, e1, fun φ I w cs ty consts hl => ?_⟩
    obtain ⟨c, d, rfl, hc, hd⟩ := hl.two_inv
    obtain rfl := hc.int_inv
    obtain rfl := hd.int_inv
    exact ⟨.int j (if b < a then b else a), by simp [builtin, Builtin.min_, Builtin.min2], .imm _ _ (.int _ _)⟩
  | max =>
    obtain ⟨v, hv, e1⟩ := ob_some (show ob (two vs (mm2 true)) (fun v => f v h) = some r from e)
    obtain ⟨x, y, rfl, e2⟩ := two_some hv
    obtain ⟨j, a, b, rfl, rfl, rfl⟩ := mm2_some e2
    refine ⟨_, e1, fun φ I w cs ty consts hl => ?_⟩
    obtain ⟨c, d, rfl, hc, hd⟩ := hl.two_inv
    obtain rfl := hc.int_inv
    obtain rfl := hd.int_inv
    exact ⟨.int j (if a < b then b else a), by simp [builtin, Builtin.max_, Builtin.max2], .imm _ _ (.int _ _)⟩
  | _ => exact absurd hb Bool.false_ne_true

theorem builtin_sound (hT : TypesOk P E) {b : Builtin} {ts : List Nat} {vs : List AV} (e : builtinOp b ts E vs h f = some r) :
    ∃ v h', f v h' = some r ∧ ∀ φ I w (cs : List Value) ty consts, Sim φ I h w → RelL w φ I vs cs → ∃ c w', (builtin b ts.toArray ty consts cs.toArray).run P w = .ok (.value c) w' ∧ Post h φ I w v h' c w' := by
  cases b with
  | len =>
    obtain ⟨v, e1, hp⟩ := builtin_pure (P := P) hT (b := .len) rfl e
    refine ⟨v, h, e1, fun φ I w cs ty consts s hl => ?_⟩
    obtain ⟨c, h1, h2⟩ := hp φ I w cs ty consts hl
    exact ⟨c, w, h1, Post.same s h2⟩
  | append =>
    obtain ⟨t, u, ts', rfl, e1⟩ := headT2_some (show headT2 ts (fun t u => ob (E.T t) fun i => ob (E.T u) fun j => ifb (bor (isSliceTd j) (isStrTd j)) (sliceTd i fun sz bytes _ => two vs fun s x => ob (elems x h sz) fun xs => appendOp h sz bytes s xs f) none) = some r from e)
    obtain ⟨i, hi, e2⟩ := ob_some e1
    obtain ⟨j, hj, e3⟩ := ob_some e2
    obtain ⟨htu, e4⟩ := ifb_none e3
    obtain ⟨sz, bts, zero, u8, htd, e5⟩ := sliceTd_some e4
    obtain ⟨sv, xv, rfl, e6⟩ := two_some e5
    obtain ⟨xs, hxs, e7⟩ := ob_some e6
    obtain ⟨v, h', e8, hy⟩ := append_sound (P := P) e7
    refine ⟨v, h', e8, fun φ I w cs ty consts s hl => ?_⟩
    obtain ⟨c, d, rfl, hc, hd⟩ := hl.two_inv
    obtain ⟨td, ht1, ht2⟩ := (hT t i hi).und
    rw [htd] at ht2
    obtain ⟨el, rfl, hinfo, _, _⟩ := ht2.slice_inv
    obtain ⟨ud, hu1, hu2⟩ := (hT u j hj).und
    have hnint : ∀ k, ud ≠ .int k := by
      rcases bor_true htu with h1 | h1
      · obtain ⟨_, _, _, rfl, _⟩ := isSliceTd_some hu2 h1; intro k; simp
      · obtain rfl := isStrTd_some hu2 h1; intro k; simp
    obtain ⟨news, hx⟩ := elems_arg (P := P) s.hr hd hxs
    obtain ⟨c', w', hrun, hp⟩ := hy φ I w (Builtin.append_ #[t, u] ty #[c, d]) s ⟨t, u, ty, el, zero, ud, c, d, news, ht1, hinfo, hu1, hnint, hc, hx, rfl⟩
    refine ⟨c', w', ?_, hp⟩
    have : (Builtin.append_ (t :: u :: ts').toArray ty #[c, d]) = Builtin.append_ #[t, u] ty #[c, d] := by simp [Builtin.append_]
    simp [builtin, this, hrun]
  | copy =>
    obtain ⟨t, ts', rfl, e1⟩ := headT_some (show headT ts (fun t => ob (E.T t) fun i => sliceTd i fun sz _ _ => two vs fun d x => ob (elems x h sz) fun xs => copyOp d h sz xs f) = some r from e)
    obtain ⟨i, hi, e2⟩ := ob_some e1
    obtain ⟨sz, bts, zero, u8, htd, e5⟩ := sliceTd_some e2
    obtain ⟨sv, xv, rfl, e6⟩ := two_some e5
    obtain ⟨xs, hxs, e7⟩ := ob_some e6
    obtain ⟨v, h', e8, hy⟩ := copy_sound (P := P) e7
    refine ⟨v, h', e8, fun φ I w cs ty consts s hl => ?_⟩
    obtain ⟨c, d, rfl, hc, hd⟩ := hl.two_inv
    obtain ⟨td, ht1, ht2⟩ := (hT t i hi).und
    rw [htd] at ht2
    obtain ⟨el, rfl, hinfo, _, _⟩ := ht2.slice_inv
    obtain ⟨news, hx⟩ := elems_arg (P := P) s.hr hd hxs
    obtain ⟨c', w', hrun, hp⟩ := hy φ I w (Builtin.copy_ #[t, 0] ty #[c, d]) s ⟨t, 0, ty, el, bts, zero, c, d, news, ht1, hinfo, hc, hx, rfl⟩
    refine ⟨c', w', ?_, hp⟩
    have : (Builtin.copy_ (t :: ts').toArray ty #[c, d]) = Builtin.copy_ #[t, 0] ty #[c, d] := by simp [Builtin.copy_]
    simp [builtin, this, hrun]
  | clear =>
    obtain ⟨t, ts', rfl, e1⟩ := headT_some (show headT ts (fun t => ob (E.T t) fun i => sliceTd i fun sz _ zero => ob (single vs) fun d => clearOp d h sz zero f) = some r from e)
    obtain ⟨i, hi, e2⟩ := ob_some e1
    obtain ⟨sz, bts, zero, u8, htd, e5⟩ := sliceTd_some e2
    obtain ⟨dv, hdv, e6⟩ := ob_some e5
    obtain rfl := single_some hdv
    obtain ⟨v, h', e8, hy⟩ := clear_sound (P := P) e6
    refine ⟨v, h', e8, fun φ I w cs ty consts s hl => ?_⟩
    obtain ⟨c, rfl, hc⟩ := hl.one_inv
    obtain ⟨td, ht1, ht2⟩ := (hT t i hi).und
    rw [htd] at ht2
    obtain ⟨el, rfl, hinfo, _, _⟩ := ht2.slice_inv
    obtain ⟨c', w', hrun, hp⟩ := hy φ I w (Builtin.clear_ #[t] ty #[c]) s ⟨t, ty, el, bts, c, ht1, hinfo, hc, rfl⟩
    refine ⟨c', w', ?_, hp⟩
    have : (Builtin.clear_ (t :: ts').toArray ty #[c]) = Builtin.clear_ #[t] ty #[c] := by simp [Builtin.clear_]
    simp [builtin, this, hrun]
  | min =>
    obtain ⟨v, e1, hp⟩ := builtin_pure (P := P) hT (b := .min) rfl e
    refine ⟨v, h, e1, fun φ I w cs ty consts s hl => ?_⟩
    obtain ⟨c, h1, h2⟩ := hp φ I w cs ty consts hl
    exact ⟨c, w, h1, Post.same s h2⟩
  | max =>
    obtain ⟨v, e1, hp⟩ := builtin_pure (P := P) hT (b := .max) rfl e
    refine ⟨v, h, e1, fun φ I w cs ty consts s hl => ?_⟩
    obtain ⟨c, h1, h2⟩ := hp φ I w cs ty consts hl
    exact ⟨c, w, h1, Post.same s h2⟩
  | _ => cases e

theorem Sound.builtin (hT : TypesOk P E) {c : Call} {b : Builtin} (ho : o.op = .call c) (hc : c.callee = .builtin b) (e : evCall c E rec loc env h f = some r) : Sound P (fun a => execOp a.eval o) loc env h f r := by
  rcases c with ⟨cal, args, ts⟩
  dsimp only at hc; subst hc
  obtain ⟨vs, hvs, e1⟩ := ob_some (show ob (opvs args.toList loc env) (fun vs => builtinOp b ts.toList E vs h f) = some r from e)
  obtain ⟨v, h', e2, hy⟩ := builtin_sound (P := P) hT e1
  refine ⟨v, h', e2, fun φ I w a s hR => ?_⟩
  obtain ⟨c', w', hrun, hp⟩ := hy φ I w (args.toList.map a.eval) o.type (args.map fun | .const _ => true | _ => false) s (opvs_rel hR hvs)
  refine OpR.value (v := c') (w' := w') ?_ hp
  unfold execOp; simp only [ho]
  have h1 : ts.toList.toArray = ts := by simp
  have h2 : (args.toList.map a.eval).toArray = args.map a.eval := by rw [← Array.toList_map, Array.toArray_toList]
  rw [h1, h2] at hrun
  simp only [Go.resolve, Sem.run_bind, Sem.run_pure, Result.andThen_ok, invoke]
  exact hrun

theorem Sound.builtinP (hT : TypesOk P E) {c : Call} {b : Builtin} (hb : isPureB b = true) (ho : o.op = .call c) (hc : c.callee = .builtin b) (e : evCall c E rec loc env h f = some r) : SoundP P o loc env h f r := by
  rcases c with ⟨cal, args, ts⟩
  dsimp only at hc; subst hc
  obtain ⟨vs, hvs, e1⟩ := ob_some (show ob (opvs args.toList loc env) (fun vs => builtinOp b ts.toList E vs h f) = some r from e)
  obtain ⟨v, e2, hy⟩ := builtin_pure (P := P) hT hb e1
  refine ⟨v, e2, fun φ I w a s hR => ?_⟩
  obtain ⟨c', hrun, hp⟩ := hy φ I w (args.toList.map a.eval) o.type (args.map fun | .const _ => true | _ => false) (opvs_rel hR hvs)
  refine PureAt.mk (v := c') ?_ hp
  unfold execOp; simp only [ho]
  have h1 : ts.toList.toArray = ts := by simp
  have h2 : (args.toList.map a.eval).toArray = args.map a.eval := by rw [← Array.toList_map, Array.toArray_toList]
  rw [h1, h2] at hrun
  simp only [Go.resolve, Sem.run_bind, Sem.run_pure, Result.andThen_ok, invoke]
  exact hrun
end
end Go.Den
