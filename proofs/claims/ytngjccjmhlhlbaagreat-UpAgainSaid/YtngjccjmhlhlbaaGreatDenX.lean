/- A part of a machine that computes what the program computes, and of the proof that it does -/
import Derived.Test.YtngjccjmhlhlbaaGreatDenW
set_option linter.unusedVariables false
set_option linter.unusedSimpArgs false
set_option linter.unusedSectionVars false
namespace Go.Den
open Go

variable [Val]

section
variable {P : Program} {E : Env} {rec : Rec}

theorem known_sound {g : Nat} {ψ : List AV → Option AV} (hf : Fact P g ψ) {args : List AV} {h : Heap} {v : AV} {h2 : Heap} (e : known ψ args h = some (v, h2)) :
    ∀ φ I w (cs : List Value), Sim φ I h w → RelL w φ I args cs → Calls P g cs.toArray w fun e w' => ∃ c, e = .returned c ∧ Post h φ I w v h2 c w' := by
  obtain ⟨as, bs, h1, e1⟩ := op2_some (show op2 (mapOpt (resolve h 30) args) (fun as bs => ob (ψ as) fun v => @Heap.rec (fun _ => Option (AV × Heap)) (fun next blks maps mark log => some (v, ⟨next, freeze bs blks, maps, mark, log⟩)) h) = some (v, h2) from e)
  obtain ⟨u, hu, e2⟩ := ob_some e1
  obtain ⟨rfl, rfl⟩ : u = v ∧ (⟨h.next, freeze bs h.blks, h.maps, h.mark, h.log⟩ : Heap) = h2 := by
    cases h; cases e2; exact ⟨rfl, rfl⟩
  intro φ I w cs s hl
  obtain ⟨m1, m2⟩ := mapOpt_some h1
  have hkn : ∀ b, Kn ⟨h.next, freeze bs h.blks, h.maps, h.mark, h.log⟩ b → Kn h b := by
    intro b hK
    unfold Kn at *
    rcases hK with ⟨k', hK⟩ | hK
    · rw [get_eq] at hK
      obtain ⟨k, q1, _⟩ := freeze_get bs _ b k' hK
      exact .inl ⟨k, by rw [get_eq]; exact q1⟩
    · exact .inr hK
  have s2 : Sim φ (Wide φ I h bs) ⟨h.next, freeze bs h.blks, h.maps, h.mark, h.log⟩ w := by
    refine s.closed bs _ rfl (freeze_uniq _ _ s.ok.ub) s.ok.um (fun b k' hk => ?_) (fun b l hl => hl)
    rw [get_eq] at hk
    obtain ⟨k, q1, q2⟩ := freeze_get bs _ b k' hk
    exact ⟨k, by rw [get_eq]; exact q1, q2⟩
  have ex0 : HExt h φ I w ⟨h.next, freeze bs h.blks, h.maps, h.mark, h.log⟩ φ (Wide φ I h bs) w := HExt.closed (.refl _ _ _ _ _) bs _ rfl hkn
  have hrel : RelIL w (Wide φ I h bs) as cs := ⟨by rw [hl.1, m1], fun j x c hj hc => by
    obtain ⟨y, c', q1, q2, q3⟩ := m2 j x hj
    exact Wide.mono q3 (resolve_sound s 30 y x c' c q2 (hl.2 j y c q1 hc))⟩
  refine Calls.mono (hf.gives as u hu _ w cs s2.hr.imm hrel) fun en w' ⟨c, I', he, ex, hframe, himm, hnew, hv⟩ => ⟨c, he, φ, I', ?_, ?_, .imm _ _ hv⟩
  · refine ex0.trans ⟨⟨ex.os, ex.tape, ex.output, ex.size, fun _ _ h => h, ex.isub, ex.icell⟩, Nat.le_refl _, fun B hB _ => hframe B hB, fun b L h1 h2 => .inl ⟨h1, h2⟩, fun b L h => .inl h, fun b h => .inl h, fun B x hx => ?_⟩
    rcases hnew B x hx with h1 | h1
    · exact .inl h1
    · exact .inr (.inl h1)
  · have hmono : ∀ v c, RelV w φ (Wide φ I h bs) v c → RelV w' φ I' v c := fun v c hv => hv.mono (fun _ _ h => h) ex.isub ex.icell
    refine ⟨⟨fun b k L hk hL => ?_, fun b l L hl hL => ?_, s2.hr.inj, s2.hr.minj, fun b L hL => Nat.lt_of_lt_of_le (s2.hr.lt b L hL) ex.size, himm⟩, s2.ok⟩
    · have old := s2.hr.blk b k L hk hL
      have hlt := s2.hr.lt b L hL
      obtain ⟨cells, elem, lo, hi, c1, c2, c3, c4⟩ := old.there
      refine ⟨⟨cells, elem, lo, hi, by rw [hframe _ hlt]; exact c1, c2, c3, fun i j r v hi hj => ?_⟩, old.room, old.rows, fun x hx => ?_⟩
      · obtain ⟨c, d1, d2, d3⟩ := c4 i j r v hi hj
        exact ⟨c, d1, d2, hmono _ _ d3⟩
      · rcases hnew _ x hx with h1 | h1
        · exact old.dry x h1
        · omega
    · obtain ⟨es, clock, c1, c2, c3⟩ := (s2.hr.map b l L hl hL).there
      exact ⟨es, clock, by rw [hframe _ (s2.hr.lt b L hL)]; exact c1, c2, fun i p e hi he => ⟨hmono _ _ (c3 i p e hi he).1, hmono _ _ (c3 i p e hi he).2⟩⟩

theorem fnSound (hE : EnvOk P E) {n : Nat} (hR : RecS P E n rec) : FnSound P E rec := by
  intro g args h f r e
  cases hi : E.ins g with
  | some zb =>
    have e1 : @Option.rec (Nat × Nat) (fun _ => Option Fin2) (@Option.rec (List AV → Option AV) (fun _ => Option Fin2) (callIn g E rec args h f) (fun φ => callOrc φ g E rec args h f) (E.orc g)) (fun zb => insertOp zb h args f) (E.ins g) = some r := e
    rw [hi] at e1
    exact hE.ins g zb hi args h f r e1
  | none =>
    have e0 : @Option.rec (Nat × Nat) (fun _ => Option Fin2) (@Option.rec (List AV → Option AV) (fun _ => Option Fin2) (callIn g E rec args h f) (fun φ => callOrc φ g E rec args h f) (E.orc g)) (fun zb => insertOp zb h args f) (E.ins g) = some r := e
    rw [hi] at e0
    have e1 : @Option.rec (List AV → Option AV) (fun _ => Option Fin2) (callIn g E rec args h f) (fun φ => callOrc φ g E rec args h f) (E.orc g) = some r := e0
    cases ho : E.orc g with
    | none => rw [ho] at e1; exact callIn_sound hE hR e1
    | some ψ =>
      rw [ho] at e1
      have e2 : @Option.rec (AV × Heap) (fun _ => Option Fin2) (callIn g E rec args h f) (fun p => @Prod.rec AV Heap (fun _ => Option Fin2) f p) (known ψ args h) = some r := e1
      cases hk : known ψ args h with
      | none => rw [hk] at e2; exact callIn_sound hE hR e2
      | some p =>
        obtain ⟨v, h2⟩ := p
        rw [hk] at e2
        exact ⟨(hE.orc g ψ ho).enters, v, h2, e2, known_sound (hE.orc g ψ ho) hk⟩

theorem exec_sound (hE : EnvOk P E) : ∀ n, RecS P E n (exec E n)
  | 0 => by intro hint D nt c env h out hD hc e; cases e
  | n + 1 => stepC_sound hE.types hE.fields (exec_sound hE n) (fnSound hE (exec_sound hE n))

/-- a function's value at these arguments, with nothing else on the heap -/
noncomputable def runI (E : Env) (fuel g : Nat) (as : List AV) : Option AV :=
  op2 (callF g E (exec E fuel) as heap0 fun v h => op2 (resolve h 30 v) fun u _ => some (.cons 0 u .nil, h)) fun r _ => lk r 0

theorem sim0 {I : Imm} {w : World} (h : ImmIn I w) : Sim (fun _ => none) I heap0 w :=
  ⟨⟨fun b k L hk hL => (by cases hL), fun b l L hl hL => (by cases hL), fun b b' k k' L L' hk hk' hL => (by cases hL), fun b b' k k' L L' hk hk' hL => (by cases hL), fun b L hL => (by cases hL), h⟩,
   ⟨fun b L hL => (by cases hL), fun b k hk => (by cases hk), fun b l hl => (by cases hl), fun b k hk => (by cases hk), trivial, trivial⟩⟩

theorem runI_gives (hE : EnvOk P E) {fuel g : Nat} {as : List AV} {v : AV} (e : runI E fuel g as = some v) : Gives P g as v ∧ ∃ fn, P.funcs[g]? = some fn ∧ fn.name ≠ "runtime.NumGoroutine" ∧ fn.body.isSome = true := by
  obtain ⟨rg, hh, e1, e2⟩ := op2_some e
  obtain ⟨hent, u, h', e3, hc⟩ := fnSound hE (exec_sound hE fuel) g as heap0 _ _ e1
  refine ⟨?_, hent⟩
  obtain ⟨x, bs, e4, e5⟩ := op2_some e3
  cases e5
  have hx : x = v := by rw [lk_cons, if_pos rfl] at e2; exact Option.some.inj e2
  subst hx
  intro I w cs hI hl
  refine Calls.mono (hc _ I w cs (sim0 hI) ⟨hl.1, fun j a c hj hc => .imm _ _ (hl.2 j a c hj hc)⟩) fun en w' ⟨c, he, φ', I', ex, s', hv⟩ => ?_
  have hK : ∀ b, ¬ Kn heap0 b := fun b hK => by
    rcases hK with ⟨k, hk⟩ | ⟨l, hl⟩
    · cases hk
    · cases hl
  have hnew : ∀ B x, I' B x → I B x ∨ w.heap.size ≤ B := fun B x hx => by
    rcases ex.inew B x hx with h1 | h1 | ⟨b0, L0, h1, _⟩
    · exact .inl h1
    · exact .inr h1
    · cases h1
  refine ⟨c, Wide φ' I' hh bs, he, ⟨ex.os, ex.tape, ex.output, ex.size, fun _ _ h => h, fun B x hx => .inl (ex.isub B x hx), ex.icell⟩, fun B hB => ex.frame B hB fun b L hL => (by cases hL), fun B x hx => ?_, fun B x hx => ?_, resolve_sound s' 30 u x bs c e4 hv⟩
  · rcases hx with hx | ⟨b, hb', k, L, q1, q2, rfl, q4⟩
    · exact s'.hr.imm B x hx
    · have old := s'.hr.blk b k L q1 q2
      obtain ⟨cells, elem, lo, hi, c1, c2, c3, c4⟩ := old.there
      refine ⟨cells, elem, (lo, hi), c1, ?_⟩
      have := Nat.mul_le_mul_right L.z old.room
      omega
  · rcases hx with hx | ⟨b, hb', k, L, q1, q2, rfl, q4⟩
    · exact hnew B x hx
    · rcases ex.new b L q2 (.inl ⟨k, q1⟩) with ⟨h1, _⟩ | h1 | ⟨b0, L0, h1, _⟩
      · cases h1
      · exact .inr h1
      · cases h1
end
end Go.Den
