/- A part of a machine that computes what the program computes, and of the proof that it does -/
import Derived.Test.YtngjccjmhlhlbaaGreatDenC
set_option linter.unusedVariables false
set_option linter.unusedSimpArgs false
set_option linter.unusedSectionVars false
namespace Go.Den
open Go

variable [Val]

theorem BlkRel.mono {w w' : World} {φ φ' : Pos} {I : Imm} {k : Blk} {L : Loc} (hh : w'.heap[L.blk]? = w.heap[L.blk]?)
    (hv : ∀ v c, RelV w φ I v c → RelV w' φ' I v c) (h : BlkRel w φ I k L) : BlkRel w' φ' I k L where
  there := by
    obtain ⟨cells, elem, lo, hi, h1, h2, h3, h4⟩ := h.there
    exact ⟨cells, elem, lo, hi, by rw [hh, h1], h2, h3, fun i j r v hi hj => let ⟨c, hc, ho, hr⟩ := h4 i j r v hi hj; ⟨c, hc, ho, hv _ _ hr⟩⟩
  room := h.room
  rows := h.rows
  dry := h.dry

theorem MapRel.mono {w w' : World} {φ φ' : Pos} {I : Imm} {l : List (AV × AV)} {L : Loc} (hh : w'.heap[L.blk]? = w.heap[L.blk]?)
    (hv : ∀ v c, RelV w φ I v c → RelV w' φ' I v c) (h : MapRel w φ I l L) : MapRel w' φ' I l L where
  there := by
    obtain ⟨es, clock, h1, h2, h3⟩ := h.there
    exact ⟨es, clock, by rw [hh, h1], h2, fun i p e hp he => ⟨hv _ _ (h3 i p e hp he).1, hv _ _ (h3 i p e hp he).2⟩⟩

def sete {α : Type} (g : Nat → Option α) (n : Nat) (x : Option α) : Nat → Option α := fun b => if b = n then x else g b
theorem sete_same {α : Type} (g : Nat → Option α) (n : Nat) (x : Option α) : sete g n x n = x := by simp [sete]
theorem sete_ne {α : Type} (g : Nat → Option α) {n b : Nat} (x : Option α) (h : b ≠ n) : sete g n x b = g b := by simp [sete, h]

section
variable {φ : Pos} {I : Imm} {g : Nat → Option Blk} {m : Nat → Option (List (AV × AV))} {w w' : World}

/-- fewer blocks are asked of -/
theorem HR.less (h : HR φ I g m w) {g' : Nat → Option Blk} {m' : Nat → Option (List (AV × AV))} (hg : ∀ b k, g' b = some k → g b = some k) (hm : ∀ b k, m' b = some k → m b = some k) : HR φ I g' m' w where
  blk b k L hb hL := h.blk b k L (hg _ _ hb) hL
  map b k L hb hL := h.map b k L (hm _ _ hb) hL
  inj b b' k k' L L' hb hb' := h.inj b b' k k' L L' (hg _ _ hb) (hg _ _ hb')
  minj b b' k k' L L' hb hb' := h.minj b b' k k' L L' (hm _ _ hb) (hm _ _ hb')
  lt := h.lt
  imm := h.imm

/-- one block more, or another one in its place -/
theorem HR.set (h : HR φ I g m w) (n : Nat) (L : Loc) (k : Blk) (e : Ext0 φ I w (sete φ n (some L)) I w') (hk : BlkRel w' (sete φ n (some L)) I k L)
    (ho : ∀ b k' L', b ≠ n → g b = some k' → φ b = some L' → L'.blk ≠ L.blk) (hm : ∀ b l L', m b = some l → φ b = some L' → L'.blk ≠ L.blk) (hmn : m n = none)
    (hh : ∀ B, B < w.heap.size → B ≠ L.blk → w'.heap[B]? = w.heap[B]?) (hsz : L.blk < w'.heap.size)
    (himm : ∀ B x, I B x → ∃ (cells : Array Value) (elem : TypeId) (fr : Nat × Nat), w'.heap[B]? = some (.cells cells elem fr) ∧ x < cells.size) :
    HR (sete φ n (some L)) I (sete g n (some k)) m w' where
  blk b k' L' hb hL := by
    by_cases hbn : b = n
    · subst hbn; rw [sete_same] at hb hL; cases hb; cases hL; exact hk
    · rw [sete_ne _ _ hbn] at hb hL
      exact (h.blk b k' L' hb hL).mono (hh _ (h.lt _ _ hL) (ho b k' L' hbn hb hL)) fun _ _ hv => hv.ext e
  map b l L' hb hL := by
    have hbn : b ≠ n := fun he => by subst he; rw [hmn] at hb; cases hb
    rw [sete_ne _ _ hbn] at hL
    exact (h.map b l L' hb hL).mono (hh _ (h.lt _ _ hL) (hm b l L' hb hL)) fun _ _ hv => hv.ext e
  inj b b' k1 k2 L1 L2 hb hb' hL hL' hne := by
    by_cases h1 : b = n
    · subst h1; rw [sete_same] at hL; cases hL
      have h2 : b' ≠ b := fun he => hne he.symm
      rw [sete_ne _ _ h2] at hb' hL'
      exact fun he => ho b' k2 L2 h2 hb' hL' he.symm
    · rw [sete_ne _ _ h1] at hb hL
      by_cases h2 : b' = n
      · subst h2; rw [sete_same] at hL'; cases hL'
        exact ho b k1 L1 h1 hb hL
      · rw [sete_ne _ _ h2] at hb' hL'
        exact h.inj b b' k1 k2 L1 L2 hb hb' hL hL' hne
  minj b b' l l' L1 L2 hb hb' hL hL' hne := by
    have h1 : b ≠ n := fun he => by subst he; rw [hmn] at hb; cases hb
    have h2 : b' ≠ n := fun he => by subst he; rw [hmn] at hb'; cases hb'
    rw [sete_ne _ _ h1] at hL; rw [sete_ne _ _ h2] at hL'
    exact h.minj b b' l l' L1 L2 hb hb' hL hL' hne
  lt b L' hL := by
    by_cases hbn : b = n
    · subst hbn; rw [sete_same] at hL; cases hL; exact hsz
    · rw [sete_ne _ _ hbn] at hL; exact Nat.lt_of_lt_of_le (h.lt _ _ hL) e.size
  imm := himm

/-- a world with one object more -/
structure Pushed (w w' : World) (o : Obj) : Prop where
  heap : w'.heap = w.heap.push o
  os : w'.os = w.os
  tape : w'.tape = w.tape
  output : w'.output = w.output

theorem Pushed.get {o : Obj} (h : Pushed w w' o) : w'.heap[w.heap.size]? = some o := by rw [h.heap]; simp
theorem Pushed.old {o : Obj} (h : Pushed w w' o) {B : Nat} (hB : B < w.heap.size) : w'.heap[B]? = w.heap[B]? := by
  rw [h.heap, Array.getElem?_push]; split
  · omega
  · rfl
theorem Pushed.size {o : Obj} (h : Pushed w w' o) : w'.heap.size = w.heap.size + 1 := by rw [h.heap]; simp

theorem cell_of_heap {w w' : World} {B : Nat} (h : w'.heap[B]? = w.heap[B]?) (x : Nat) : w'.cell? (at_ B x) = w.cell? (at_ B x) := by
  unfold World.cell? at_; simp only [h]

theorem HR.ext_push (h : HR φ I g m w) {o : Obj} (p : Pushed w w' o) (n : Nat) (hn : φ n = none) (L : Loc) (hL : L.blk = w.heap.size) : Ext0 φ I w (sete φ n (some L)) I w' where
  os := p.os
  tape := p.tape
  output := p.output
  size := by rw [p.size]; omega
  sub b L' hb := by rw [sete_ne]; exact hb; intro he; subst he; rw [hn] at hb; cases hb
  isub _ _ hb := hb
  icell B x hb := by
    obtain ⟨cells, elem, fr, hc, _⟩ := h.imm B x hb
    exact cell_of_heap (p.old (Array.getElem?_eq_some_iff.1 hc).1) x

theorem HR.imm_push (h : HR φ I g m w) {o : Obj} (p : Pushed w w' o) : ∀ B x, I B x → ∃ (cells : Array Value) (elem : TypeId) (fr : Nat × Nat), w'.heap[B]? = some (.cells cells elem fr) ∧ x < cells.size := by
  intro B x hb
  obtain ⟨cells, elem, fr, hc, hx⟩ := h.imm B x hb
  exact ⟨cells, elem, fr, by rw [p.old (Array.getElem?_eq_some_iff.1 hc).1]; exact hc, hx⟩

/-- a new row -/
theorem HR.alloc (h : HR φ I g m w) {cells : Array Value} {elem : TypeId} {lo hi : Nat} (p : Pushed w w' (.cells cells elem (lo, hi))) (n : Nat) (hn : φ n = none) (hmn : m n = none)
    (k : Blk) (z cap : Nat) (hfr : FrOk z cells lo hi) (hsz : cells.size = cap * z) (hroom : k.els.length ≤ cap) (hrows : ∀ (i : Nat) (r : Row), k.els[i]? = some r → r.length = z)
    (hc : ∀ (i j : Nat) (r : Row) (v : AV), k.els[i]? = some r → r[j]? = some v → ∃ c, cells[i * z + j]? = some c ∧ c.oneCell' = true ∧ RelV w φ I v c) :
    HR (sete φ n (some ⟨w.heap.size, 0, z, cap⟩)) I (sete g n (some k)) m w' ∧ Ext0 φ I w (sete φ n (some ⟨w.heap.size, 0, z, cap⟩)) I w' := by
  have e := h.ext_push p n hn ⟨w.heap.size, 0, z, cap⟩ rfl
  refine ⟨h.set n _ k e ⟨⟨cells, elem, lo, hi, p.get, hfr, by simp [hsz], fun i j r v hi hj => ?_⟩, hroom, hrows, fun x hx => ?_⟩ ?_ ?_ hmn (fun B hB _ => p.old hB) (by rw [p.size]; exact Nat.lt_succ_self _) (h.imm_push p), e⟩
  · obtain ⟨c, h1, h2, h3⟩ := hc i j r v hi hj
    exact ⟨c, by simpa using h1, h2, h3.ext e⟩
  · obtain ⟨cs, el, fr, hcs, _⟩ := h.imm _ x hx
    have := (Array.getElem?_eq_some_iff.1 hcs).1
    simp at this
  · intro b k' L' _ _ hL he
    have := h.lt b L' hL
    simp at he; omega
  · intro b k' L' _ hL he
    have := h.lt b L' hL
    simp at he; omega

/-- a world in which one row's cells are others, as many -/
structure Wrote (w w' : World) (B : Nat) (cells : Array Value) (elem : TypeId) (fr : Nat × Nat) : Prop where
  get : w'.heap[B]? = some (.cells cells elem fr)
  old : ∀ C, C ≠ B → w'.heap[C]? = w.heap[C]?
  size : w'.heap.size = w.heap.size
  os : w'.os = w.os
  tape : w'.tape = w.tape
  output : w'.output = w.output

/-- a row is written, or grows in its place -/
theorem HR.write (h : HR φ I g m w) (b : Nat) (k : Blk) (L : Loc) (hb : g b = some k) (hL : φ b = some L) (cells cells' : Array Value) (elem : TypeId) (lo hi : Nat)
    (hget : w.heap[L.blk]? = some (.cells cells elem (lo, hi))) (hfr : FrOk L.z cells lo hi) (hsize : cells'.size = cells.size) (p : Wrote w w' L.blk cells' elem (lo, hi))
    (n : Nat) (L' : Loc) (hn : φ n = none ∨ n = b ∧ L' = L) (hB : L'.blk = L.blk) (hmn : m n = none) (hzz : L'.z = L.z) (k' : Blk) (hsz : cells'.size = L'.base + L'.cap * L'.z) (hroom : k'.els.length ≤ L'.cap)
    (hrows : ∀ (i : Nat) (r : Row), k'.els[i]? = some r → r.length = L'.z)
    (hkeep : ∀ x, I L.blk x → cells'[x]? = cells[x]?) (hdry : ∀ x, I L.blk x → x < L'.base + k'.fz * L'.z)
    (hc : ∀ (i j : Nat) (r : Row) (v : AV), k'.els[i]? = some r → r[j]? = some v → ∃ c, cells'[L'.base + i * L'.z + j]? = some c ∧ c.oneCell' = true ∧ RelV w φ I v c) :
    HR (sete φ n (some L')) I (sete (sete g b none) n (some k')) m w' ∧ Ext0 φ I w (sete φ n (some L')) I w' := by
  have e : Ext0 φ I w (sete φ n (some L')) I w' :=
    { os := p.os, tape := p.tape, output := p.output, size := by rw [p.size]; exact Nat.le_refl _
      sub := fun c M hc => by
        by_cases hcn : c = n
        · subst hcn
          rcases hn with hn | ⟨rfl, rfl⟩
          · rw [hn] at hc; cases hc
          · rw [sete_same, ← hL, hc]
        · rw [sete_ne _ _ hcn]; exact hc
      isub := fun _ _ hx => hx
      icell := fun B x hx => by
        by_cases hBB : B = L.blk
        · subst hBB
          unfold World.cell? at_
          simp only [p.get, hget]
          simpa using hkeep x hx
        · exact cell_of_heap (p.old B hBB) x }
  refine ⟨(h.less (g' := sete g b none) (m' := m) (fun c k hc => ?_) (fun _ _ hc => hc)).set n L' k' e ⟨⟨cells', elem, lo, hi, hB ▸ p.get, by unfold FrOk; rw [hsize, hzz]; exact hfr, hsz, fun i j r v hi hj => ?_⟩, hroom, hrows, by rw [hB]; exact hdry⟩ ?_ ?_ hmn
    (fun B hlt hne => p.old B (by rw [← hB]; exact hne)) (by rw [p.size, hB]; exact h.lt _ _ hL) ?_, e⟩
  · unfold sete at hc; split at hc
    · cases hc
    · exact hc
  · obtain ⟨c, h1, h2, h3⟩ := hc i j r v hi hj
    exact ⟨c, h1, h2, h3.ext e⟩
  · intro c k1 L1 _ hc hL1
    unfold sete at hc; split at hc
    · cases hc
    · rename_i hcb; rw [hB]; exact h.inj c b k1 k L1 L hc hb hL1 hL hcb
  · intro c l L1 hc hL1 he
    obtain ⟨es, clock, hm, _⟩ := (h.map c l L1 hc hL1).there
    rw [he, hB, hget] at hm; cases hm
  · intro B x hx
    by_cases hBB : B = L.blk
    · subst hBB
      obtain ⟨cs, el, fr, hcs, hlt⟩ := h.imm _ x hx
      rw [hget] at hcs; cases hcs
      exact ⟨_, _, _, p.get, by rw [hsize]; exact hlt⟩
    · obtain ⟨cs, el, fr, hcs, hlt⟩ := h.imm _ x hx
      exact ⟨cs, el, fr, by rw [p.old B hBB]; exact hcs, hlt⟩
end
end Go.Den
