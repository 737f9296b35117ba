/- A part of a machine that computes what the program computes, and of the proof that it does -/
import Derived.Test.YtngjccjmhlhlbaaGreatDenZa
set_option linter.unusedVariables false
set_option linter.unusedSimpArgs false
set_option linter.unusedSectionVars false
namespace Go.Den
open Go

variable [Val]

section
variable {φ φ' : Pos} {I I' : Imm} {w w' : World}

/-- of that number the object is known, and nothing else -/
def ObjIs (g : Nat → Option Blk) (m : Nat → Option (List (AV × AV))) (b : Nat) : NObj → Prop
  | .blk k => g b = some k ∧ m b = none
  | .map => g b = none ∧ m b = some []

/-- an object that was known already comes to lie somewhere -/
theorem HR.locate {g : Nat → Option Blk} {m : Nat → Option (List (AV × AV))} (h : HR φ I g m w) {b : Nat} (hb : φ b = none) {L : Loc} {nb : NObj} (mk : Made φ I w w' L nb)
    (hg : ObjIs g m b nb) :
    HR (sete φ b (some L)) I g m w' ∧ Ext0 φ I w (sete φ b (some L)) I w' ∧ L.blk = w.heap.size ∧ w'.heap.size = w.heap.size + 1 ∧ (∀ B, B < w.heap.size → w'.heap[B]? = w.heap[B]?) := by
  have key : ∀ o, Pushed w w' o → L.blk = w.heap.size → (∀ k, g b = some k → BlkRel w' (sete φ b (some L)) I k L) → (∀ l, m b = some l → MapRel w' (sete φ b (some L)) I l L) →
      HR (sete φ b (some L)) I g m w' ∧ Ext0 φ I w (sete φ b (some L)) I w' ∧ L.blk = w.heap.size ∧ w'.heap.size = w.heap.size + 1 ∧ (∀ B, B < w.heap.size → w'.heap[B]? = w.heap[B]?) := by
    intro o p hL hk hm
    have e := h.ext_push p b hb L hL
    refine ⟨⟨fun c k Lc hc hLc => ?_, fun c l Lc hc hLc => ?_, fun c c' k k' L1 L2 hc hc' hL1 hL2 hne => ?_, fun c c' k k' L1 L2 hc hc' hL1 hL2 hne => ?_, fun c Lc hLc => ?_, h.imm_push p⟩, e, hL, p.size, fun B hB => p.old hB⟩
    · by_cases hcb : c = b
      · subst hcb; rw [sete_same] at hLc; cases hLc; exact hk k hc
      · rw [sete_ne _ _ hcb] at hLc
        exact (h.blk c k Lc hc hLc).mono (p.old (h.lt c Lc hLc)) fun _ _ hv => hv.ext e
    · by_cases hcb : c = b
      · subst hcb; rw [sete_same] at hLc; cases hLc; exact hm l hc
      · rw [sete_ne _ _ hcb] at hLc
        exact (h.map c l Lc hc hLc).mono (p.old (h.lt c Lc hLc)) fun _ _ hv => hv.ext e
    · by_cases h1 : c = b
      · subst h1; rw [sete_same] at hL1; cases hL1
        rw [sete_ne _ _ (Ne.symm hne)] at hL2
        have := h.lt c' L2 hL2; omega
      · rw [sete_ne _ _ h1] at hL1
        by_cases h2 : c' = b
        · subst h2; rw [sete_same] at hL2; cases hL2
          have := h.lt c L1 hL1; omega
        · rw [sete_ne _ _ h2] at hL2; exact h.inj c c' k k' L1 L2 hc hc' hL1 hL2 hne
    · by_cases h1 : c = b
      · subst h1; rw [sete_same] at hL1; cases hL1
        rw [sete_ne _ _ (Ne.symm hne)] at hL2
        have := h.lt c' L2 hL2; omega
      · rw [sete_ne _ _ h1] at hL1
        by_cases h2 : c' = b
        · subst h2; rw [sete_same] at hL2; cases hL2
          have := h.lt c L1 hL1; omega
        · rw [sete_ne _ _ h2] at hL2; exact h.minj c c' k k' L1 L2 hc hc' hL1 hL2 hne
    · by_cases hcb : c = b
      · subst hcb; rw [sete_same] at hLc; cases hLc; rw [p.size]; omega
      · rw [sete_ne _ _ hcb] at hLc; rw [p.size]; exact Nat.lt_succ_of_lt (h.lt c Lc hLc)
  cases nb with
  | blk k =>
    obtain ⟨⟨cells, elem, lo, hi, p, fr, hsz, hc⟩, hL, hbase, hroom, hrows⟩ := mk
    have e := h.ext_push p b hb L hL
    refine key _ p hL (fun k' hk => ?_) (fun l hl => by rw [hg.2] at hl; cases hl)
    rw [hg.1] at hk; cases hk
    refine ⟨⟨cells, elem, lo, hi, by rw [hL]; exact p.get, fr, by rw [hbase]; omega, fun i j r v hi hj => ?_⟩, hroom, hrows, fun x hx => ?_⟩
    · obtain ⟨c, h1, h2, h3⟩ := hc i j r v hi hj
      exact ⟨c, by rw [hbase, Nat.zero_add]; exact h1, h2, h3.ext e⟩
    · obtain ⟨cs, el, f, hcs, _⟩ := h.imm _ x hx
      have := (Array.getElem?_eq_some_iff.1 hcs).1
      omega
  | map =>
    obtain ⟨p, rfl⟩ := mk
    refine key _ p rfl (fun k' hk => by rw [hg.1] at hk; cases hk) (fun l hl => ?_)
    rw [hg.2] at hl; cases hl
    exact ⟨#[], 0, p.get, rfl, fun i q x hi => by simp at hi⟩

/-- what a piece of the run does not know of stays -/
theorem HR.frame {gD : Nat → Option Blk} {mD : Nat → Option (List (AV × AV))} {h h' : Heap} (hr : HR φ I (fun b => (gD b).or (h.get b)) (fun b => (mD b).or (lk h.maps b)) w)
    (ex : HExt h φ I w h' φ' I' w') (s' : SimH φ' I' h' w') (hD : ∀ b, KG gD mD b → b < h.next ∧ ¬ Kn h b) :
    HR φ' I' (fun b => (gD b).or (h'.get b)) (fun b => (mD b).or (lk h'.maps b)) w' := by
  have old : ∀ b L, KG gD mD b → φ' b = some L → φ b = some L := fun b L hK hL => (ex.fresh b L hL).resolve_right (fun hle => by have := (hD b hK).1; omega)
  have known : ∀ b, Kn h b → gD b = none ∧ mD b = none := fun b hK => by
    constructor
    · cases hq : gD b with
      | none => rfl
      | some k => exact absurd hK (hD b (.inl ⟨k, hq⟩)).2
    · cases hq : mD b with
      | none => rfl
      | some k => exact absurd hK (hD b (.inr ⟨k, hq⟩)).2
  -- a block that is not known lies apart from all that are
  have apartB : ∀ b k L, gD b = some k → φ b = some L → ∀ b' L', φ b' = some L' → Kn h b' → L'.blk ≠ L.blk := by
    intro b k L hg hL b' L' hL' hK'
    have hne : b' ≠ b := fun he => (hD b (.inl ⟨k, hg⟩)).2 (he ▸ hK')
    obtain ⟨n1, n2⟩ := known b' hK'
    rcases hK' with ⟨k', hk'⟩ | ⟨l', hl'⟩
    · exact hr.inj b' b k' k L' L (by simp [n1, hk']) (by simp [hg]) hL' hL hne
    · intro he
      obtain ⟨es, clock, c1, _⟩ := (hr.map b' l' L' (by simp [n2, hl']) hL').there
      obtain ⟨cells, elem, lo, hi, c2, _⟩ := (hr.blk b k L (by simp [hg]) hL).there
      rw [he, c2] at c1; cases c1
  have apartM : ∀ b l L, mD b = some l → φ b = some L → ∀ b' L', φ b' = some L' → Kn h b' → L'.blk ≠ L.blk := by
    intro b l L hg hL b' L' hL' hK'
    have hne : b' ≠ b := fun he => (hD b (.inr ⟨l, hg⟩)).2 (he ▸ hK')
    obtain ⟨n1, n2⟩ := known b' hK'
    rcases hK' with ⟨k', hk'⟩ | ⟨l', hl'⟩
    · intro he
      obtain ⟨es, clock, c1, _⟩ := (hr.map b l L (by simp [hg]) hL).there
      obtain ⟨cells, elem, lo, hi, c2, _⟩ := (hr.blk b' k' L' (by simp [n1, hk']) hL').there
      rw [he, c1] at c2; cases c2
    · exact hr.minj b' b l' l L' L (by simp [n2, hl']) (by simp [hg]) hL' hL hne
  -- and from what is new
  have apart' : ∀ (L : Loc), L.blk < w.heap.size → (∀ b' L', φ b' = some L' → Kn h b' → L'.blk ≠ L.blk) → ∀ b' L', φ' b' = some L' → Kn h' b' → L'.blk ≠ L.blk := by
    intro L hlt ha b' L' hL' hK' he
    rcases ex.new b' L' hL' hK' with ⟨h1, h2⟩ | h1 | ⟨b0, L0, h1, h2, h3⟩
    · exact ha b' L' h1 h2 he
    · omega
    · exact ha b0 L0 h1 h2 (h3.trans he)
  have same : ∀ (L : Loc), L.blk < w.heap.size → (∀ b' L', φ b' = some L' → Kn h b' → L'.blk ≠ L.blk) → w'.heap[L.blk]? = w.heap[L.blk]? := fun L hlt ha => ex.frame L.blk hlt ha
  have split : ∀ {α : Type} {x y : Option α} {z : α}, x.or y = some z → x = some z ∨ (x = none ∧ y = some z) := by
    intro α x y z h; cases x <;> simp_all
  refine ⟨fun b k L hk hL => ?_, fun b l L hl hL => ?_, fun b b' k k' L L' hk hk' hL hL' hne => ?_, fun b b' k k' L L' hk hk' hL hL' hne => ?_, s'.lt, s'.imm⟩
  · rcases split hk with h1 | ⟨_, h1⟩
    · have hL0 := old b L (.inl ⟨k, h1⟩) hL
      have o := hr.blk b k L (by simp [h1]) hL0
      have hlt := hr.lt b L hL0
      have ha := apartB b k L h1 hL0
      obtain ⟨cells, elem, lo, hi, c1, c2, c3, c4⟩ := o.there
      refine ⟨⟨cells, elem, lo, hi, by rw [same L hlt ha]; exact c1, c2, c3, fun i j r v hi hj => let ⟨c, d1, d2, d3⟩ := c4 i j r v hi hj; ⟨c, d1, d2, d3.ext ex.toExt0⟩⟩, o.room, o.rows, fun x hx => ?_⟩
      rcases ex.inew L.blk x hx with h2 | h2 | ⟨b0, L0, h2, h3, h4⟩
      · exact o.dry x h2
      · omega
      · exact absurd h4 (ha b0 L0 h2 h3)
    · exact s'.blk b k L h1 hL
  · rcases split hl with h1 | ⟨_, h1⟩
    · have hL0 := old b L (.inr ⟨l, h1⟩) hL
      have o := hr.map b l L (by simp [h1]) hL0
      have hlt := hr.lt b L hL0
      obtain ⟨es, clock, c1, c2, c3⟩ := o.there
      exact ⟨es, clock, by rw [same L hlt (apartM b l L h1 hL0)]; exact c1, c2, fun i p e hi he => ⟨(c3 i p e hi he).1.ext ex.toExt0, (c3 i p e hi he).2.ext ex.toExt0⟩⟩
    · exact s'.map b l L h1 hL
  · rcases split hk with h1 | ⟨_, h1⟩ <;> rcases split hk' with h2 | ⟨_, h2⟩
    · exact hr.inj b b' k k' L L' (by simp [h1]) (by simp [h2]) (old b L (.inl ⟨k, h1⟩) hL) (old b' L' (.inl ⟨k', h2⟩) hL') hne
    · have hL0 := old b L (.inl ⟨k, h1⟩) hL
      exact (apart' L (hr.lt b L hL0) (apartB b k L h1 hL0) b' L' hL' (.inl ⟨k', h2⟩)).symm
    · have hL0 := old b' L' (.inl ⟨k', h2⟩) hL'
      exact apart' L' (hr.lt b' L' hL0) (apartB b' k' L' h2 hL0) b L hL (.inl ⟨k, h1⟩)
    · exact s'.inj b b' k k' L L' h1 h2 hL hL' hne
  · rcases split hk with h1 | ⟨_, h1⟩ <;> rcases split hk' with h2 | ⟨_, h2⟩
    · exact hr.minj b b' k k' L L' (by simp [h1]) (by simp [h2]) (old b L (.inr ⟨k, h1⟩) hL) (old b' L' (.inr ⟨k', h2⟩) hL') hne
    · have hL0 := old b L (.inr ⟨k, h1⟩) hL
      exact (apart' L (hr.lt b L hL0) (apartM b k L h1 hL0) b' L' hL' (.inr ⟨k', h2⟩)).symm
    · have hL0 := old b' L' (.inr ⟨k', h2⟩) hL'
      exact apart' L' (hr.lt b' L' hL0) (apartM b' k' L' h2 hL0) b L hL (.inr ⟨k, h1⟩)
    · exact s'.minj b b' k k' L L' h1 h2 hL hL' hne
end
end Go.Den
