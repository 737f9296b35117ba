/- A part of a machine that computes what the program computes, and of the proof that it does -/
import Derived.Test.YtngjccjmhlhlbaaGreatDenH
set_option linter.unusedVariables false
set_option linter.unusedSimpArgs false
set_option linter.unusedSectionVars false
namespace Go.Den
open Go

variable [Val]

/-- the types that the machine knows are the program's -/
def TypesOk (P : Program) (E : Env) : Prop := ∀ t i, E.T t = some i → TIOk P t i

def Sound (P : Program) (s : Act → Sem Next) (loc env : Regs) (h : Heap) (f : K) (r : Fin2) : Prop :=
  ∃ v h', f v h' = some r ∧ ∀ (φ : Pos) (I : Imm) (w : World) (a : Act), Sim φ I h w → RelR w φ I loc env a → OpR P (s a) w (Post h φ I w v h')

/-- an operation that leaves the world as it is -/
def PureAt (P : Program) (s : Sem Next) (φ : Pos) (I : Imm) (w : World) (v : AV) : Prop := ∃ c, s.run P w = .ok (.value c) w ∧ RelV w φ I v c
theorem PureAt.mk {P : Program} {s : Sem Next} {φ : Pos} {I : Imm} {w : World} {u : AV} {v : Value} (h : s.run P w = .ok (.value v) w) (r : RelV w φ I u v) : PureAt P s φ I w u := ⟨v, h, r⟩

def SoundP (P : Program) (o : Oper) (loc env : Regs) (h : Heap) (f : K) (r : Fin2) : Prop :=
  ∃ v, f v h = some r ∧ ∀ (φ : Pos) (I : Imm) (w : World) (a : Act), SimH φ I h w → RelR w φ I loc env a → PureAt P (execOp a.eval o) φ I w v

theorem SoundP.sound {P : Program} {o : Oper} {loc env : Regs} {h : Heap} {f : K} {r : Fin2} (p : SoundP P o loc env h f r) : Sound P (fun a => execOp a.eval o) loc env h f r := by
  obtain ⟨v, hf, hp⟩ := p
  refine ⟨v, h, hf, fun φ I w a s hR => ?_⟩
  obtain ⟨c, h1, h2⟩ := hp φ I w a s.hr hR
  exact OpR.value h1 (Post.same s h2)

/-- something new on the heap: a row, a map -/
inductive NObj where
  | blk (k : Blk)
  | map

def hadd (h : Heap) : NObj → Heap
  | .blk k => hpush h k
  | .map => hmap h []

structure NewRow (φ : Pos) (I : Imm) (w w' : World) (k : Blk) (L : Loc) : Prop where
  obj : ∃ (cells : Array Value) (elem : TypeId) (lo hi : Nat), Pushed w w' (.cells cells elem (lo, hi)) ∧ FrOk L.z cells lo hi ∧ cells.size = L.cap * L.z ∧
    ∀ (i j : Nat) (r : Row) (v : AV), k.els[i]? = some r → r[j]? = some v → ∃ c, cells[i * L.z + j]? = some c ∧ c.oneCell' = true ∧ RelV w φ I v c
  blk : L.blk = w.heap.size
  base : L.base = 0
  room : k.els.length ≤ L.cap
  rows : ∀ (i : Nat) (r : Row), k.els[i]? = some r → r.length = L.z

def Made (φ : Pos) (I : Imm) (w w' : World) (L : Loc) : NObj → Prop
  | .blk k => NewRow φ I w w' k L
  | .map => Pushed w w' (.map #[] 0) ∧ L = ⟨w.heap.size, 0, 0, 0⟩

/-- an operation that makes one new object, and leaves the world else as it is -/
def SoundA (P : Program) (o : Oper) (loc env : Regs) (h : Heap) (f : K) (r : Fin2) : Prop :=
  ∃ (n : NObj) (mkv : Nat → AV), f (mkv h.next) (hadd h n) = some r ∧ ∀ (φ : Pos) (I : Imm) (w : World) (a : Act), RelR w φ I loc env a →
    ∃ c w' L, (execOp a.eval o).run P w = .ok (.value c) w' ∧ Made φ I w w' L n ∧ ∀ b φ' I' w'', φ' b = some L → RelV w'' φ' I' (mkv b) c

theorem NewRow.of {φ : Pos} {I : Imm} {w w' : World} {cells : Array Value} {elem : TypeId} {lo hi : Nat} (p : Pushed w w' (.cells cells elem (lo, hi)))
    (k : Blk) (z cap : Nat) (hfr : FrOk z cells lo hi) (hsz : cells.size = cap * z) (hroom : k.els.length ≤ cap) (hrows : ∀ (i : Nat) (r : Row), k.els[i]? = some r → r.length = z)
    (hc : ∀ (i j : Nat) (r : Row) (v : AV), k.els[i]? = some r → r[j]? = some v → ∃ c, cells[i * z + j]? = some c ∧ c.oneCell' = true ∧ RelV w φ I v c) : NewRow φ I w w' k ⟨w.heap.size, 0, z, cap⟩ :=
  ⟨⟨cells, elem, lo, hi, p, hfr, hsz, hc⟩, rfl, rfl, hroom, hrows⟩

theorem Sim.made {φ : Pos} {I : Imm} {h : Heap} {w w' : World} (s : Sim φ I h w) {L : Loc} {n : NObj} (m : Made φ I w w' L n) :
    Sim (sete φ h.next (some L)) I (hadd h n) w' ∧ HExt h φ I w (hadd h n) (sete φ h.next (some L)) I w' := by
  cases n with
  | blk k =>
    obtain ⟨⟨cells, elem, lo, hi, p, fr, hsz, hc⟩, hb, hbase, hroom, hrows⟩ := m
    rcases L with ⟨B, base, z, cap⟩
    dsimp only at *
    subst hb hbase
    exact s.alloc p k z cap fr hsz hroom hrows hc
  | map =>
    obtain ⟨p, rfl⟩ := m
    exact s.newMap p

theorem SoundA.sound {P : Program} {o : Oper} {loc env : Regs} {h : Heap} {f : K} {r : Fin2} (p : SoundA P o loc env h f r) : Sound P (fun a => execOp a.eval o) loc env h f r := by
  obtain ⟨n, mkv, hf, hp⟩ := p
  refine ⟨_, _, hf, fun φ I w a s hR => ?_⟩
  obtain ⟨c, w', L, h1, h2, h3⟩ := hp φ I w a hR
  obtain ⟨s', ex⟩ := s.made h2
  exact OpR.value h1 ⟨_, I, ex, s', h3 _ _ _ _ (sete_same _ _ _)⟩

theorem run_v {P : Program} {s : Sem Value} {w w' : World} {v : Value} (h : s.run P w = .ok v w') : (do pure (.value (← s)) : Sem Next).run P w = .ok (.value v) w' := by
  simp [h]
theorem run_u {P : Program} {s : Sem Unit} {w w' : World} (h : s.run P w = .ok () w') : (do s; pure .skip : Sem Next).run P w = .ok .skip w' := by
  simp [h]

section
variable {P : Program} {E : Env} {rec : Rec} {loc env : Regs} {h : Heap} {f : K} {r : Fin2} {o : Oper}

theorem Sound.move {x : Operand} (ho : o.op = .move x ∨ o.op = .assign x) (e : evMove x E rec loc env h f = some r) : SoundP P o loc env h f r := by
  obtain ⟨v, hv, e⟩ := ob_some e
  refine ⟨v, e, fun φ I w a s hR => ?_⟩
  refine PureAt.mk (v := a.eval x) ?_ (id (opv_rel hR hv))
  unfold execOp; rcases ho with ho | ho <;> simp [ho]

theorem toBool_some {v : AV} {b : Bool} (h : toBool v = some b) : v = .bool b := by cases v <;> first | (cases h; rfl) | cases h
theorem toInt_some {v : AV} {k : IntKind} {n : Int} (h : toInt v = some (k, n)) : v = .int k n := by cases v <;> first | (cases h; rfl) | cases h
theorem toStr_some {v : AV} {l : List Nat} (h : toStr v = some l) : v = .str l := by cases v <;> first | (cases h; rfl) | cases h
theorem toAgg_some {v : AV} {l : Row} (h : toAgg v = some l) : v = .agg l := by cases v <;> first | (cases h; rfl) | cases h
theorem toTup_some {v : AV} {l : Row} (h : toTup v = some l) : v = .tup l := by cases v <;> first | (cases h; rfl) | cases h
theorem toMp_some {v : AV} {b : Nat} (h : toMp v = some b) : v = .mp b := by cases v <;> first | (cases h; rfl) | cases h
theorem natOf_some {v : AV} {n : Nat} (h : natOf v = some n) : ∃ k, v = .int k (n : Int) := by
  cases v <;> first | cases h | skip
  rename_i k m
  cases m with
  | ofNat m => cases h; exact ⟨k, rfl⟩
  | negSucc m => cases h

theorem Sound.pick {c x y : Operand} (ho : o.op = .pick c x y) (e : evPick c x y E rec loc env h f = some r) : SoundP P o loc env h f r := by
  obtain ⟨v, hv, e1⟩ := ob_some e

  obtain ⟨b, hb, e2⟩ := ob_some e1

  obtain rfl := toBool_some hb
  have key : ∃ z u, opv z loc env = some u ∧ f u h = some r ∧ (if b then x else y) = z := by
    rcases ifb_some e2 with ⟨rfl, e3⟩ | ⟨rfl, e3⟩
    · obtain ⟨u, hu, e4⟩ := ob_some e3; exact ⟨x, u, hu, e4, rfl⟩
    · obtain ⟨u, hu, e4⟩ := ob_some e3; exact ⟨y, u, hu, e4, rfl⟩
  obtain ⟨z, u, hu, e4, hz⟩ := key
  refine ⟨u, e4, fun φ I w a s hR => ?_⟩
  have hc := (opv_rel hR hv).bool_inv
  refine PureAt.mk (v := a.eval z) ?_ (id (opv_rel hR hu))
  unfold execOp; cases b <;> simp at hz <;> subst hz <;> simp [ho, hc, asBool]

theorem Sound.alloc (hT : TypesOk P E) {t : Nat} (ho : o.op = .alloc t) (e : evAlloc t E rec loc env h f = some r) : SoundA P o loc env h f r := by
  obtain ⟨i, hi, e⟩ := ob_some e
  rw [newBlk_eq] at e
  obtain ⟨bytes, hinfo⟩ := (hT t i hi).info
  obtain ⟨z, hz, z1, z2⟩ := hinfo.run_zero (P := P)
  refine ⟨.blk ⟨[i.zero], false, 0⟩, fun b => .ptr b 0 0, e, fun φ I w a hR => ?_⟩
  have mk : NewRow φ I w (w.alloc (.cells z.cells t)) ⟨[i.zero], false, 0⟩ ⟨w.heap.size, 0, i.size, 1⟩ := NewRow.of (pushed_alloc w (.cells z.cells t)) ⟨[i.zero], false, 0⟩ i.size 1 (.inl rfl) (by rw [z1, hinfo.len]; omega) (by simp) (fun n row hn => by
      cases n <;> simp at hn; rw [← hn, hinfo.len]) (fun n j row v hn hj => by
      cases n with
      | succ n => simp at hn
      | zero =>
        simp at hn; subst hn
        have hj' : j < z.cells.size := by rw [z1]; exact (List.getElem?_eq_some_iff.1 hj).1
        have := z2 j v _ hj (Array.getElem?_eq_getElem hj')
        exact ⟨_, by simp, this.1, .imm _ _ (this.2 w I)⟩)
  refine ⟨.pointer (some (at_ w.heap.size 0)), w.alloc (.cells z.cells t), ⟨w.heap.size, 0, i.size, 1⟩, ?_, mk, fun b φ' I' w'' hb => ?_⟩
  · unfold execOp; simp only [ho]
    apply run_v
    simp only [Instr.alloc, Sem.run_bind, hz, Result.andThen_ok, newVar, newRow, run_newObj, Sem.run_pure]
    rfl
  · have := RelV.ptr (w := w'') (I := I') (φ := φ') b 0 0 ⟨w.heap.size, 0, i.size, 1⟩ hb
    simpa using this

theorem Sound.box (hT : TypesOk P E) {t : Nat} {x : Operand} (ho : o.op = .box t x) (e : evBox t x E rec loc env h f = some r) : SoundA P o loc env h f r := by
  obtain ⟨i, hi, e⟩ := ob_some e
  obtain ⟨v, hv, e⟩ := ob_some e
  obtain ⟨hl, e⟩ := ifb_none e
  rw [newBlk_eq] at e
  rw [len_eq] at hl
  have hl := Nat.eq_of_beq_eq_true hl
  obtain ⟨bytes, hinfo⟩ := (hT t i hi).info
  refine ⟨.blk ⟨[cellsOf v], false, 0⟩, fun b => .ptr b 0 0, e, fun φ I w a hR => ?_⟩
  have hrel := opv_rel hR hv
  obtain ⟨c1, c2, c3⟩ := hrel.cells (by have := hinfo.pos; omega)
  have mk : NewRow φ I w (w.alloc (.cells (a.eval x).cells t)) ⟨[cellsOf v], false, 0⟩ ⟨w.heap.size, 0, i.size, 1⟩ := NewRow.of (pushed_alloc w (.cells (a.eval x).cells t)) ⟨[cellsOf v], false, 0⟩ i.size 1 (.inl rfl) (by omega) (by simp) (fun n row hn => by
      cases n <;> simp at hn; rw [← hn, hl]) (fun n j row y hn hj => by
      cases n with
      | succ n => simp at hn
      | zero =>
        simp at hn; subst hn
        have hj' : j < (a.eval x).cells.size := by rw [c1]; exact (List.getElem?_eq_some_iff.1 hj).1
        exact ⟨_, by simp, c2 j _ (Array.getElem?_eq_getElem hj'), c3 j y _ hj (Array.getElem?_eq_getElem hj')⟩)
  refine ⟨.pointer (some (at_ w.heap.size 0)), w.alloc (.cells (a.eval x).cells t), ⟨w.heap.size, 0, i.size, 1⟩, ?_, mk, fun b φ' I' w'' hb => ?_⟩
  · unfold execOp; simp only [ho]
    apply run_v
    simp only [Instr.box, Sem.run_bind, newVar, newRow, run_newObj, Sem.run_pure, Result.andThen_ok]
    rfl
  · have := RelV.ptr (w := w'') (I := I') (φ := φ') b 0 0 ⟨w.heap.size, 0, i.size, 1⟩ hb
    simpa using this

theorem Sound.load (hT : TypesOk P E) {t : Nat} {x : Operand} (ho : o.op = .load t x) (e : evLoad t x E rec loc env h f = some r) : SoundP P o loc env h f r := by
  obtain ⟨i, hi, e⟩ := ob_some e
  obtain ⟨p, hp, e⟩ := ob_some e
  obtain ⟨v, hv, e⟩ := ob_some e
  refine ⟨v, e, fun φ I w a s hR => ?_⟩
  obtain ⟨d, h1, h2⟩ := loadOp_sound s (hT t i hi) (opv_rel hR hp) hv
  refine PureAt.mk (v := d) ?_ (id h2)
  unfold execOp; simp only [ho]; exact run_v h1

theorem Sound.store (hT : TypesOk P E) {t : Nat} {x y : Operand} (ho : o.op = .store t x y) (e : evStore t x y E rec loc env h f = some r) : Sound P (fun a => execOp a.eval o) loc env h f r := by
  obtain ⟨i, hi, e⟩ := ob_some e
  obtain ⟨p, hp, e⟩ := ob_some e
  obtain ⟨v, hv, e⟩ := ob_some e
  -- the heap behind it is the machine's alone
  have key : ∃ h', f (.tup []) h' = some r ∧ ∀ (φ : Pos) (I : Imm) (w : World) (a : Act), Sim φ I h w → RelR w φ I loc env a → ∃ w', (Instr.storeAt t (a.eval x) (a.eval y)).run P w = .ok () w' ∧ Sim φ I h' w' ∧ HExt h φ I w h' φ I w' := by
    cases p with
    | ptr b n j =>
      have e' := e
      change storePtr h i.size (cellsOf v) b n j _ = some r at e'
      unfold storePtr at e'
      obtain ⟨els, grow, fz, hb, e'⟩ := openBlk_some e'
      obtain ⟨hfz, e'⟩ := ifb_none' e'
      obtain ⟨row, hr, e'⟩ := ob_some e'
      obtain ⟨hg, e'⟩ := ifb_none e'
      rw [putAtK_eq, setK_eq, setBlk_eq] at e'
      refine ⟨_, e', fun φ I w a s hR => ?_⟩
      have hs := storeOp_sound (P := P) s (hT t i hi) (opv_rel hR hp) (opv_rel hR hv) (f := fun h => some (.nil, h)) (r := (.nil, hset h b ⟨els.set n (putAt row j (cellsOf v)), grow, fz⟩)) (by
        change storePtr h i.size (cellsOf v) b n j _ = some _
        unfold storePtr openBlk
        simp only [hb, ob, hfz, hr, hg, ifb, putAtK_eq, setK_eq, setBlk_eq])
      obtain ⟨h', h1, h2⟩ := hs
      cases h1
      exact h2
    | _ => cases e
  obtain ⟨h', e', hk⟩ := key
  refine ⟨.tup [], h', e', fun φ I w a s hR => ?_⟩
  obtain ⟨w', h1, h2, h3⟩ := hk φ I w a s hR
  refine OpR.skip (w' := w') ?_ ⟨φ, I, h3, h2, undef_rel⟩
  unfold execOp; simp only [ho]; exact run_u h1

/-! ### places -/
theorem Sound.fieldAddr (hT : TypesOk P E) {t n : Nat} {x : Operand} (ho : o.op = .fieldAddr t x n) (e : evFieldAddr t x n E rec loc env h f = some r) : SoundP P o loc env h f r := by
  obtain ⟨i, hi, e⟩ := ob_some e
  obtain ⟨p, hp, e⟩ := ob_some e
  obtain ⟨v, hv, e⟩ := ob_some e
  refine ⟨v, e, fun φ I w a s hR => ?_⟩
  unfold fieldAddrOp at hv
  obtain ⟨fs, hfs, hv1⟩ := ob_some hv
  obtain ⟨off, sz, hn, hv2⟩ := op2_some hv1
  clear hv hv1

  rw [nth_eq] at hn
  have ti := hT t i hi
  obtain ⟨d, hd, htd⟩ := ti.und
  rcases i with ⟨td, size, zero, eq⟩
  dsimp only at htd
  have htd' : td = .struct fs := by cases td <;> first | (cases hfs; rfl) | cases hfs
  subst htd'
  cases htd with
  | struct fields _ hl hf =>
    obtain ⟨fl, fi, fd, f1, f2, f3, f4, f5, f6, _⟩ := hf n off sz hn
    have hplace : ∀ (B x : Nat), (Instr.fieldAt t (.pointer (some (at_ B x))) n).run P w = .ok (.pointer (some (at_ B (x + off)))) w := by
      intro B x
      have : fi.size ≠ 0 := by omega
      simp only [Instr.fieldAt, Sem.run_bind, run_underlying hd w, Result.andThen_ok, f1, Instr.sureAddr, Sem.run_pure, fieldPlace, sizeOf, typeInfo, run_program, f3, this, Sem.run_ite, if_false, add_at, f2]
    have hp' := opv_rel hR hp
    cases p with
    | ptr b m j =>
      change forceNat (Nat.add j off) (fun j => some (.ptr b m j)) = some v at hv2
      rw [forceNat_eq] at hv2
      cases hv2
      obtain ⟨L, hL, hc⟩ := hp'.ptr_inv
      refine PureAt.mk (v := .pointer (some (at_ L.blk (L.base + m * L.z + j + off)))) ?_ (id ?_)
      · unfold execOp; simp only [ho, hc]; exact run_v (hplace _ _)
      · have := RelV.ptr (w := w) (I := I) b m (j + off) L hL
        rw [show L.base + m * L.z + (j + off) = L.base + m * L.z + j + off by omega] at this
        exact this
    | rp cs =>
      cases hv2
      obtain ⟨B, o', cell, hc, h1, h2, h3⟩ := hp'.rp_inv
      refine PureAt.mk (v := .pointer (some (at_ B (o' + off)))) ?_ (id (.rp _ B (o' + off) (fun j => cell (off + j)) ?_ ?_ ?_))
      · unfold execOp; simp only [ho, hc]; exact run_v (hplace _ _)
      · intro j v hj; rw [dropL_eq, List.getElem?_drop] at hj
        have := h1 _ v hj
        rw [show o' + off + j = o' + (off + j) by omega]; exact this
      · intro j v hj; rw [dropL_eq, List.getElem?_drop] at hj; exact h2 _ v hj
      · intro j v hj; rw [dropL_eq, List.getElem?_drop] at hj; exact h3 _ v hj
    | _ => cases hv2
end
end Go.Den
