/- A part of a machine that computes what the program computes, and of the proof that it does -/
import Derived.Test.YtngjccjmhlhlbaaGreatDenF
set_option linter.unusedVariables false
set_option linter.unusedSimpArgs false
set_option linter.unusedSectionVars false
namespace Go.Den
open Go

variable [Val]

/-! ### the machine's heap, step by step -/
def hpush (h : Heap) (k : Blk) : Heap := ⟨h.next + 1, .cons h.next k h.blks, h.maps, h.mark, h.log⟩
noncomputable def hset (h : Heap) (b : Nat) (k : Blk) : Heap := ⟨h.next, upd h.blks b k, h.maps, h.mark, wrLog h.mark b h.log⟩
noncomputable def hkill (h : Heap) (b : Nat) : Heap := ⟨h.next, del h.blks b, h.maps, h.mark, wrLog h.mark b h.log⟩

theorem newBlk_eq (h : Heap) (k : Blk) (f : Nat → KH) : newBlk h k f = f h.next (hpush h k) := by
  cases h; simp only [newBlk, hpush, forceNat_eq]
theorem setBlk_eq (h : Heap) (b : Nat) (k : Blk) (f : KH) : setBlk h b k f = f (hset h b k) := by
  cases h; simp only [setBlk, hset, updK_eq]
theorem killBlk_eq (h : Heap) (b : Nat) (f : KH) : killBlk h b f = f (hkill h b) := by
  cases h; simp only [killBlk, hkill, delK_eq]
theorem openBlk_some {β : Type} {h : Heap} {b : Nat} {f : List Row → Bool → Nat → Option β} {r : β} (e : openBlk h b f = some r) : ∃ els grow fz, h.get b = some ⟨els, grow, fz⟩ ∧ f els grow fz = some r := by
  obtain ⟨k, h1, h2⟩ := ob_some e
  cases k; exact ⟨_, _, _, h1, h2⟩
theorem get_eq (h : Heap) : h.get = lk h.blks := by cases h; rfl
theorem get_hpush (h : Heap) (k : Blk) : (hpush h k).get = sete h.get h.next (some k) := by
  funext b; simp only [get_eq, hpush, lk_cons, sete]; split <;> split <;> simp_all
theorem get_hset (h : Heap) (b : Nat) (k k0 : Blk) (hb : h.get b = some k0) : (hset h b k).get = sete h.get b (some k) := by
  funext c; rw [get_eq] at hb; simp only [get_eq, hset, lk_upd, sete]; split
  · rename_i e; subst e; simp [hb]
  · rename_i e; rw [if_neg (fun h => e h.symm)]
theorem get_hkill (h : Heap) (b : Nat) : (hkill h b).get = sete h.get b none := by
  funext c; simp only [get_eq, hkill, lk_del, sete]; split
  · rename_i e; subst e; simp
  · rename_i e; rw [if_neg (fun h => e h.symm)]

/-- a block or a map of that number is known -/
def Kn (h : Heap) (b : Nat) : Prop := (∃ k, h.get b = some k) ∨ ∃ l, lk h.maps b = some l

abbrev HExt (h : Heap) (φ : Pos) (I : Imm) (w : World) (h' : Heap) (φ' : Pos) (I' : Imm) (w' : World) : Prop := Ext h.next h'.next (Kn h) φ I w (Kn h') φ' I' w'

structure HOk (φ : Pos) (h : Heap) : Prop where
  pos : ∀ b L, φ b = some L → b < h.next
  blks : ∀ b k, h.get b = some k → b < h.next
  maps : ∀ b l, lk h.maps b = some l → b < h.next
  apart : ∀ b k, h.get b = some k → lk h.maps b = none
  ub : Uniq h.blks
  um : Uniq h.maps

/-- the world holds what the machine's heap holds; no more is asked -/
abbrev SimH (φ : Pos) (I : Imm) (h : Heap) (w : World) : Prop := HR φ I h.get (lk h.maps) w

structure Sim (φ : Pos) (I : Imm) (h : Heap) (w : World) : Prop where
  hr : HR φ I h.get (lk h.maps) w
  ok : HOk φ h

section
variable {P : Program} {φ : Pos} {I : Imm} {h : Heap} {w w' : World}

theorem Sim.fresh (s : Sim φ I h w) : φ h.next = none := by
  cases hp : φ h.next with
  | none => rfl
  | some L => exact absurd (s.ok.pos _ _ hp) (Nat.lt_irrefl _)
theorem Sim.freshM (s : Sim φ I h w) : lk h.maps h.next = none := by
  cases hp : lk h.maps h.next with
  | none => rfl
  | some L => exact absurd (s.ok.maps _ _ hp) (Nat.lt_irrefl _)

theorem HOk.push (o : HOk φ h) (k : Blk) (L : Loc) (hm : lk h.maps h.next = none) : HOk (sete φ h.next (some L)) (hpush h k) where
  pos b L' hb := by
    unfold sete at hb; split at hb
    · subst_vars; exact Nat.lt_succ_self _
    · exact Nat.lt_succ_of_lt (o.pos _ _ hb)
  blks b k' hb := by
    rw [get_hpush] at hb; unfold sete at hb; split at hb
    · subst_vars; exact Nat.lt_succ_self _
    · exact Nat.lt_succ_of_lt (o.blks _ _ hb)
  maps b l hb := Nat.lt_succ_of_lt (o.maps _ _ hb)
  apart b k' hb := by
    rw [get_hpush] at hb; unfold sete at hb; split at hb
    · subst_vars; exact hm
    · exact o.apart _ _ hb
  ub := by
    refine ⟨?_, o.ub⟩
    cases hq : lk h.blks h.next with
    | none => rfl
    | some k => exact absurd (o.blks h.next k (by rw [get_eq]; exact hq)) (Nat.lt_irrefl _)
  um := o.um

/-- a new row of the world is a new block -/
theorem Sim.alloc (s : Sim φ I h w) {cells : Array Value} {elem : TypeId} {lo hi : Nat} (p : Pushed w w' (.cells cells elem (lo, hi)))
    (k : Blk) (z cap : Nat) (hfr : FrOk z cells lo hi) (hsz : cells.size = cap * z) (hroom : k.els.length ≤ cap) (hrows : ∀ (i : Nat) (r : Row), k.els[i]? = some r → r.length = z)
    (hc : ∀ (i j : Nat) (r : Row) (v : AV), k.els[i]? = some r → r[j]? = some v → ∃ c, cells[i * z + j]? = some c ∧ c.oneCell' = true ∧ RelV w φ I v c) :
    Sim (sete φ h.next (some ⟨w.heap.size, 0, z, cap⟩)) I (hpush h k) w' ∧ HExt h φ I w (hpush h k) (sete φ h.next (some ⟨w.heap.size, 0, z, cap⟩)) I w' := by
  obtain ⟨h1, h2⟩ := s.hr.alloc p h.next s.fresh s.freshM k z cap hfr hsz hroom hrows hc
  refine ⟨⟨by rw [get_hpush]; exact h1, s.ok.push k _ s.freshM⟩, ⟨h2, Nat.le_succ _, fun B hB _ => p.old hB, fun b L hb hK => ?_, fun b L hb => ?_, fun b hK => ?_, fun _ _ h => .inl h⟩⟩
  rotate_left 2
  · by_cases hbn : b = h.next
    · exact .inr (Nat.le_of_eq hbn.symm)
    · left; unfold Kn at *; rw [get_hpush, sete_ne _ _ hbn] at hK; exact hK
  · by_cases hbn : b = h.next
    · subst hbn; rw [sete_same] at hb; cases hb; exact .inr (.inl (Nat.le_refl _))
    · rw [sete_ne _ _ hbn] at hb
      refine .inl ⟨hb, ?_⟩
      unfold Kn at *; rw [get_hpush, sete_ne _ _ hbn] at hK; exact hK
  · by_cases hbn : b = h.next
    · exact .inr (Nat.le_of_eq hbn.symm)
    · rw [sete_ne _ _ hbn] at hb; exact .inl hb

theorem pushed_alloc (w : World) (o : Obj) : Pushed w (w.alloc o) o := ⟨rfl, rfl, rfl, rfl⟩
theorem pushed_drew {w w' : World} {o : Obj} (p : Pushed w w' o) : Pushed w w'.drew o := ⟨p.heap, p.os, p.tape, p.output⟩
theorem drew_pushed {w w' : World} {o : Obj} (p : Pushed w.drew w' o) : Pushed w w' o := ⟨p.heap, p.os, p.tape, p.output⟩

/-- a block's row of the world is written -/
theorem Sim.write (s : Sim φ I h w) {b : Nat} {k : Blk} {L : Loc} (hb : h.get b = some k) (hL : φ b = some L) {cells cells' : Array Value} {elem : TypeId} {lo hi : Nat}
    (hget : w.heap[L.blk]? = some (.cells cells elem (lo, hi))) (hfr : FrOk L.z cells lo hi) (hsize : cells'.size = cells.size) (p : Wrote w w' L.blk cells' elem (lo, hi))
    (k' : Blk) (hroom : k'.els.length ≤ L.cap) (hrows : ∀ (i : Nat) (r : Row), k'.els[i]? = some r → r.length = L.z) (hfz : k'.fz = k.fz)
    (hkeep : ∀ x, x < L.base + k.fz * L.z → cells'[x]? = cells[x]?)
    (hc : ∀ (i j : Nat) (r : Row) (v : AV), k'.els[i]? = some r → r[j]? = some v → ∃ c, cells'[L.base + i * L.z + j]? = some c ∧ c.oneCell' = true ∧ RelV w φ I v c) :
    Sim φ I (hset h b k') w' ∧ HExt h φ I w (hset h b k') φ I w' := by
  have old := s.hr.blk b k L hb hL
  have hsz : cells.size = L.base + L.cap * L.z := by
    obtain ⟨cs, el, l1, h1, e1, _, e3, _⟩ := old.there
    rw [hget] at e1; cases e1; exact e3
  have key := s.hr.write b k L hb hL cells cells' elem lo hi hget hfr hsize p b L (.inr ⟨rfl, rfl⟩) rfl (s.ok.apart _ _ hb) rfl k' (by rw [hsize]; exact hsz) hroom hrows
    (fun x hx => hkeep x (old.dry x hx)) (fun x hx => by rw [hfz]; exact old.dry x hx) hc
  have e1 : sete φ b (some L) = φ := by funext c; unfold sete; split <;> simp_all
  have e2 : sete (sete h.get b none) b (some k') = (hset h b k').get := by rw [get_hset h b k' k hb]; funext c; unfold sete; split <;> simp_all
  rw [e1, e2] at key
  have hkn : ∀ c, Kn (hset h b k') c → Kn h c := by
    intro c hK
    unfold Kn at *
    rcases hK with ⟨k1, hK⟩ | hK
    · rw [get_hset h b k' k hb] at hK; unfold sete at hK; split at hK
      · subst_vars; exact .inl ⟨_, hb⟩
      · exact .inl ⟨_, hK⟩
    · exact .inr hK
  refine ⟨⟨key.1, ⟨s.ok.pos, fun c k1 hc1 => ?_, s.ok.maps, fun c k1 hc1 => ?_, s.ok.ub.upd _ _, s.ok.um⟩⟩, ⟨key.2, Nat.le_refl _, fun B _ hne => p.old B fun he => hne b L hL (.inl ⟨_, hb⟩) he.symm, fun c M hc hK => .inl ⟨hc, hkn c hK⟩, fun _ _ h => .inl h, fun c hK => .inl (hkn c hK), fun _ _ h => .inl h⟩⟩
  · rw [get_hset h b k' k hb] at hc1; unfold sete at hc1; split at hc1
    · subst_vars; exact s.ok.blks _ _ hb
    · exact s.ok.blks _ _ hc1
  · rw [get_hset h b k' k hb] at hc1; unfold sete at hc1; split at hc1
    · subst_vars; exact s.ok.apart _ _ hb
    · exact s.ok.apart _ _ hc1

/-- fewer blocks -/
theorem Sim.kill (s : Sim φ I h w) (b : Nat) : Sim φ I (hkill h b) w := by
  have hle : ∀ c k, (hkill h b).get c = some k → h.get c = some k := fun c k hc => by
    rw [get_hkill] at hc; unfold sete at hc; split at hc
    · cases hc
    · exact hc
  exact ⟨s.hr.less hle (fun _ _ h => h), ⟨s.ok.pos, fun c k hc => s.ok.blks c k (hle c k hc), s.ok.maps, fun c k hc => s.ok.apart c k (hle c k hc), s.ok.ub.del _, s.ok.um⟩⟩

/-- a block's row grows in its place: it is a new block of the machine's, whose elements begin at another cell -/
theorem Sim.grow (s : Sim φ I h w) {b : Nat} {k : Blk} {L : Loc} (hb : h.get b = some k) (hL : φ b = some L) {cells cells' : Array Value} {elem : TypeId} {lo hi : Nat}
    (hget : w.heap[L.blk]? = some (.cells cells elem (lo, hi))) (hfr : FrOk L.z cells lo hi) (hsize : cells'.size = cells.size) (p : Wrote w w' L.blk cells' elem (lo, hi))
    (off : Nat) (hoff : off ≤ L.cap) (k' : Blk) (hroom : off + k'.els.length ≤ L.cap) (hrows : ∀ (i : Nat) (r : Row), k'.els[i]? = some r → r.length = L.z) (hfz : k.fz ≤ off + k'.fz)
    (hkeep : ∀ x, x < L.base + k.fz * L.z → cells'[x]? = cells[x]?)
    (hc : ∀ (i j : Nat) (r : Row) (v : AV), k'.els[i]? = some r → r[j]? = some v → ∃ c, cells'[L.base + (off + i) * L.z + j]? = some c ∧ c.oneCell' = true ∧ RelV w φ I v c) :
    Sim (sete φ h.next (some ⟨L.blk, L.base + off * L.z, L.z, L.cap - off⟩)) I (hpush (hkill h b) k') w' ∧ HExt h φ I w (hpush (hkill h b) k') (sete φ h.next (some ⟨L.blk, L.base + off * L.z, L.z, L.cap - off⟩)) I w' := by
  have old := s.hr.blk b k L hb hL
  have hsz : cells.size = L.base + L.cap * L.z := by
    obtain ⟨cs, el, l1, h1, e1, _, e3, _⟩ := old.there
    rw [hget] at e1; cases e1; exact e3
  have hmul : off * L.z + (L.cap - off) * L.z = L.cap * L.z := by rw [← Nat.add_mul]; congr 1; omega
  have key := s.hr.write b k L hb hL cells cells' elem lo hi hget hfr hsize p h.next ⟨L.blk, L.base + off * L.z, L.z, L.cap - off⟩ (.inl s.fresh) rfl s.freshM rfl k'
    (by rw [hsize, hsz]; dsimp only; omega) (by dsimp only; omega) hrows (fun x hx => hkeep x (old.dry x hx))
    (fun x hx => by
      have h1 := old.dry x hx
      have h2 : k.fz * L.z ≤ (off + k'.fz) * L.z := Nat.mul_le_mul_right _ hfz
      rw [Nat.add_mul] at h2
      dsimp only; omega)
    (fun i j r v hi hj => by
      obtain ⟨c, h1, h2⟩ := hc i j r v hi hj
      refine ⟨c, ?_, h2⟩
      rw [← h1]; dsimp only; rw [Nat.add_mul]; congr 1; omega)
  have e2 : sete (sete h.get b none) h.next (some k') = (hpush (hkill h b) k').get := by rw [get_hpush, get_hkill]; rfl
  rw [e2] at key
  refine ⟨⟨key.1, (s.kill b).ok.push k' _ s.freshM⟩, ⟨key.2, Nat.le_succ _, fun B _ hne => p.old B fun he => hne b L hL (.inl ⟨_, hb⟩) he.symm, fun c M hc hK => ?_, fun c M hc => ?_, fun c hK => ?_, fun _ _ h => .inl h⟩⟩
  rotate_left 2
  · by_cases hcn : c = h.next
    · exact .inr (Nat.le_of_eq hcn.symm)
    · left; unfold Kn at *
      rcases hK with ⟨k1, hK⟩ | hK
      · rw [get_hpush, sete_ne _ _ (show c ≠ (hkill h b).next from hcn), get_hkill] at hK; unfold sete at hK; split at hK
        · cases hK
        · exact .inl ⟨_, hK⟩
      · exact .inr hK
  · by_cases hcn : c = h.next
    · subst hcn; rw [sete_same] at hc; cases hc; exact .inr (.inr ⟨b, L, hL, .inl ⟨_, hb⟩, rfl⟩)
    · rw [sete_ne _ _ hcn] at hc
      refine .inl ⟨hc, ?_⟩
      unfold Kn at *
      rcases hK with ⟨k1, hK⟩ | hK
      · rw [get_hpush, sete_ne _ _ (show c ≠ (hkill h b).next from hcn), get_hkill] at hK; unfold sete at hK; split at hK
        · cases hK
        · exact .inl ⟨_, hK⟩
      · exact .inr hK
  · by_cases hcn : c = h.next
    · exact .inr (Nat.le_of_eq hcn.symm)
    · rw [sete_ne _ _ hcn] at hc; exact .inl hc
def hmap (h : Heap) (l : List (AV × AV)) : Heap := ⟨h.next + 1, h.blks, .cons h.next l h.maps, h.mark, h.log⟩

/-- a new map -/
theorem Sim.newMap (s : Sim φ I h w) {clock : Nat} (p : Pushed w w' (.map #[] clock)) :
    Sim (sete φ h.next (some ⟨w.heap.size, 0, 0, 0⟩)) I (hmap h []) w' ∧ HExt h φ I w (hmap h []) (sete φ h.next (some ⟨w.heap.size, 0, 0, 0⟩)) I w' := by
  have e := s.hr.ext_push p h.next s.fresh ⟨w.heap.size, 0, 0, 0⟩ rfl
  have hbk : ∀ b k, h.get b = some k → b ≠ h.next := fun b k hb he => by have := s.ok.blks b k hb; omega
  have hmp : ∀ b l, lk h.maps b = some l → b ≠ h.next := fun b l hb he => by have := s.ok.maps b l hb; omega
  have hget : (hmap h []).get = h.get := by rw [get_eq, get_eq]; rfl
  have hlk : ∀ b, lk (hmap h []).maps b = if h.next = b then some [] else lk h.maps b := fun b => by unfold hmap; rw [lk_cons]
  refine ⟨⟨⟨fun b k L hb hL => ?_, fun b l L hb hL => ?_, fun b b' k k' L L' hb hb' hL hL' => ?_, fun b b' l l' L L' hb hb' hL hL' hne => ?_, fun b L hL => ?_, s.hr.imm_push p⟩, ⟨fun b L hL => ?_, fun b k hb => ?_, fun b l hb => ?_, fun b k hb => ?_, s.ok.ub, ⟨s.freshM, s.ok.um⟩⟩⟩, ⟨e, Nat.le_succ _, fun B hB _ => p.old hB, fun b L hb hK => ?_, fun b L hb => ?_, fun b hK => ?_, fun _ _ h => .inl h⟩⟩
  · rw [hget] at hb
    rw [sete_ne _ _ (hbk b k hb)] at hL
    exact (s.hr.blk b k L hb hL).mono (p.old (s.hr.lt b L hL)) fun _ _ hv => hv.ext e
  · rw [hlk] at hb
    split at hb
    · subst_vars
      cases hb
      rw [sete_same] at hL; cases hL
      exact ⟨#[], clock, p.get, rfl, fun i p e hi => by simp at hi⟩
    · rw [sete_ne _ _ (hmp b l hb)] at hL
      exact (s.hr.map b l L hb hL).mono (p.old (s.hr.lt b L hL)) fun _ _ hv => hv.ext e
  · rw [hget] at hb hb'
    rw [sete_ne _ _ (hbk b k hb)] at hL
    rw [sete_ne _ _ (hbk b' k' hb')] at hL'
    exact s.hr.inj b b' k k' L L' hb hb' hL hL'
  · rw [hlk] at hb hb'
    split at hb
    · subst_vars
      rw [if_neg hne] at hb'
      rw [sete_same] at hL; cases hL
      rw [sete_ne _ _ (hmp b' l' hb')] at hL'
      intro he; have := s.hr.lt b' L' hL'; simp at he; omega
    · rw [sete_ne _ _ (hmp b l hb)] at hL
      split at hb'
      · subst_vars
        rw [sete_same] at hL'; cases hL'
        intro he; have := s.hr.lt b L hL; simp at he; omega
      · rw [sete_ne _ _ (hmp b' l' hb')] at hL'
        exact s.hr.minj b b' l l' L L' hb hb' hL hL' hne
  · unfold sete at hL; split at hL
    · cases hL; rw [p.size]; exact Nat.lt_succ_self _
    · rw [p.size]; exact Nat.lt_succ_of_lt (s.hr.lt b L hL)
  · unfold sete at hL; split at hL
    · subst_vars; exact Nat.lt_succ_self _
    · exact Nat.lt_succ_of_lt (s.ok.pos _ _ hL)
  · rw [hget] at hb; exact Nat.lt_succ_of_lt (s.ok.blks _ _ hb)
  · rw [hlk] at hb; split at hb
    · subst_vars; exact Nat.lt_succ_self _
    · exact Nat.lt_succ_of_lt (s.ok.maps _ _ hb)
  · rw [hget] at hb
    rw [hlk, if_neg (fun he => hbk b k hb he.symm)]
    exact s.ok.apart b k hb
  · by_cases hbn : b = h.next
    · subst hbn; rw [sete_same] at hb; cases hb; exact .inr (.inl (Nat.le_refl _))
    · rw [sete_ne _ _ hbn] at hb
      refine .inl ⟨hb, ?_⟩
      unfold Kn at *; rw [hget] at hK; rw [hlk, if_neg (Ne.symm hbn)] at hK; exact hK
  · by_cases hbn : b = h.next
    · exact .inr (Nat.le_of_eq hbn.symm)
    · rw [sete_ne _ _ hbn] at hb; exact .inl hb
  · by_cases hbn : b = h.next
    · exact .inr (Nat.le_of_eq hbn.symm)
    · left; unfold Kn at *; rw [hget] at hK; rw [hlk, if_neg (Ne.symm hbn)] at hK; exact hK

end
end Go.Den
