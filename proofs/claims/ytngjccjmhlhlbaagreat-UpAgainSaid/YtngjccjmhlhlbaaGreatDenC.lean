/- A part of a machine that computes what the program computes, and of the proof that it does -/
import Derived.Test.YtngjccjmhlhlbaaGreatDenB
set_option linter.unusedVariables false
set_option linter.unusedSimpArgs false
set_option linter.unusedSectionVars false
namespace Go.Den
open Go

/-- the numbers and strings that are not known -/
class Val where
  ν : Nat → Int
  τ : Nat → ByteArray
  len : ∀ i, ν (i * 2 + 1) = ((τ i).size : Int)

variable [Val]

def SyRel (s : Sy) (c : Value) : Prop := match s with
  | .int i off lo hi => c = .int .i64 (Val.ν i + off) ∧ lo ≤ Val.ν i + off ∧ Val.ν i + off ≤ hi
  | .str pre i lo hi a b => ∃ s : ByteArray, c = .string s ∧ bytesOfStr s = pre ++ bytesOfStr (Val.τ i) ∧ (∀ l, lo = some l → bytesLess l (bytesOfStr (Val.τ i)) = true) ∧
      (∀ h, hi = some h → bytesLess (bytesOfStr (Val.τ i)) h = true) ∧ a ≤ (Val.τ i).size ∧ (Val.τ i).size ≤ b

/-- where a block of the machine's lies: its block of the world, the first cell, the cells of an element, the room in elements -/
structure Loc where
  blk : Nat
  base : Nat
  z : Nat
  cap : Nat

abbrev Pos := Nat → Option Loc
abbrev Imm := Nat → Nat → Prop

def at_ (b o : Nat) : Addr := ⟨b, o, none⟩

theorem add_at (b o n : Nat) : (at_ b o).add n = at_ b (o + n) := by
  unfold Addr.add at_; split <;> simp_all

inductive RelI (w : World) (I : Imm) : AV → Value → Prop
  | int (k : IntKind) (n : Int) : RelI w I (.int k n) (.int k n)
  | bool (b : Bool) : RelI w I (.bool b) (.bool b)
  | str (s : ByteArray) : RelI w I (.str (bytesOfStr s)) (.string s)
  | nil : RelI w I .nil (.slice none 0 0)
  | nilp : RelI w I .nilp (.pointer none)
  | nilf : RelI w I .nilf .nilFunc
  | bad (v : Value) (h : v.oneCell' = true) : RelI w I .bad v
  | sym (s : Sy) (v : Value) (h : SyRel s v) : RelI w I (.sym s) v
  | sl0 (nn : Bool) (z : Nat) (a : Option Addr) (cap : Nat) (h : nn = true → a.isSome = true) (h0 : a = none → cap = 0) : RelI w I (.sl nn z []) (.slice a 0 cap)
  | sl (nn : Bool) (z : Nat) (xs : List Row) (B off cap : Nat) (cell : Nat → Nat → Value) (hn : xs ≠ []) (hc : xs.length ≤ cap)
      (hrow : ∀ (i : Nat) (r : Row), xs[i]? = some r → r.length = z)
      (hcell : ∀ (i j : Nat) (r : Row) (v : AV), xs[i]? = some r → r[j]? = some v → w.cell? (at_ B (off + i * z + j)) = some (cell i j) ∧ I B (off + i * z + j))
      (hone : ∀ (i j : Nat) (r : Row) (v : AV), xs[i]? = some r → r[j]? = some v → (cell i j).oneCell' = true)
      (hrel : ∀ (i j : Nat) (r : Row) (v : AV), xs[i]? = some r → r[j]? = some v → RelI w I v (cell i j)) : RelI w I (.sl nn z xs) (.slice (some (at_ B off)) xs.length cap)
  | agg (cs : Row) (vs : Array Value) (hl : vs.size = cs.length) (hf : ∀ (j : Nat) (c : Value), vs[j]? = some c → c.oneCell' = true) (h : ∀ (j : Nat) (v : AV) (c : Value), cs[j]? = some v → vs[j]? = some c → RelI w I v c) : RelI w I (.agg cs) (.agg vs)
  | tup (cs : Row) (vs : Array Value) (hl : vs.size = cs.length) (h : ∀ (j : Nat) (v : AV) (c : Value), cs[j]? = some v → vs[j]? = some c → RelI w I v c) : RelI w I (.tup cs) (.tuple vs)

/-- the room behind a slice's begin -/
def CapIs (L : Loc) (off : Nat) : Option Nat → Nat → Prop
  | some m, c => c = m
  | none, c => off + c = L.cap

/-- how a slice of an own block reads -/
def RefVal (L : Loc) (off n : Nat) (cap : Option Nat) (v : Value) : Prop :=
  (∃ c, v = .slice (some (at_ L.blk (L.base + off * L.z))) n c ∧ n ≤ c ∧ CapIs L off cap c) ∨
  (n = 0 ∧ (∃ o, v = .slice (some (at_ L.blk o)) 0 0) ∧ CapIs L off cap 0)

inductive RelV (w : World) (φ : Pos) (I : Imm) : AV → Value → Prop
  | imm (v : AV) (c : Value) (h : RelI w I v c) : RelV w φ I v c
  | ref (b z off n : Nat) (cap : Option Nat) (L : Loc) (v : Value) (hb : φ b = some L) (hz : L.z = z) (hv : RefVal L off n cap v) : RelV w φ I (.ref b z off n cap) v
  | ptr (b i j : Nat) (L : Loc) (hb : φ b = some L) : RelV w φ I (.ptr b i j) (.pointer (some (at_ L.blk (L.base + i * L.z + j))))
  | rp (cs : Row) (B off : Nat) (cell : Nat → Value) (h : ∀ (j : Nat) (v : AV), cs[j]? = some v → w.cell? (at_ B (off + j)) = some (cell j) ∧ I B (off + j))
      (ho : ∀ (j : Nat) (v : AV), cs[j]? = some v → (cell j).oneCell' = true) (hr : ∀ (j : Nat) (v : AV), cs[j]? = some v → RelI w I v (cell j)) : RelV w φ I (.rp cs) (.pointer (some (at_ B off)))
  | agg (cs : Row) (vs : Array Value) (hl : vs.size = cs.length) (hf : ∀ (j : Nat) (c : Value), vs[j]? = some c → c.oneCell' = true) (h : ∀ (j : Nat) (v : AV) (c : Value), cs[j]? = some v → vs[j]? = some c → RelV w φ I v c) : RelV w φ I (.agg cs) (.agg vs)
  | tup (cs : Row) (vs : Array Value) (hl : vs.size = cs.length) (h : ∀ (j : Nat) (v : AV) (c : Value), cs[j]? = some v → vs[j]? = some c → RelV w φ I v c) : RelV w φ I (.tup cs) (.tuple vs)
  | clo (g : FuncId) (cs : Row) (vs : Array Value) (hl : vs.size = cs.length) (h : ∀ (j : Nat) (v : AV) (c : Value), cs[j]? = some v → vs[j]? = some c → RelV w φ I v c) : RelV w φ I (.clo g cs) (.func (.func g) #[] vs)
  | mp (b : Nat) (L : Loc) (hb : φ b = some L) : RelV w φ I (.mp b) (.map (some L.blk))
  | bad (v : Value) (h : v.oneCell' = true) : RelV w φ I .bad v

/-- no cell of the row is frozen: nothing, or (bytes) only places behind its last cell -/
def FrOk (z : Nat) (cells : Array Value) (lo hi : Nat) : Prop := lo = hi ∨ (z = 1 ∧ cells.size ≤ lo)

structure BlkRel (w : World) (φ : Pos) (I : Imm) (k : Blk) (L : Loc) : Prop where
  there : ∃ (cells : Array Value) (elem : TypeId) (lo hi : Nat), w.heap[L.blk]? = some (.cells cells elem (lo, hi)) ∧ FrOk L.z cells lo hi ∧
    cells.size = L.base + L.cap * L.z ∧ (∀ (i j : Nat) (r : Row) (v : AV), k.els[i]? = some r → r[j]? = some v → ∃ c, cells[L.base + i * L.z + j]? = some c ∧ c.oneCell' = true ∧ RelV w φ I v c)
  room : k.els.length ≤ L.cap
  rows : ∀ (i : Nat) (r : Row), k.els[i]? = some r → r.length = L.z
  dry : ∀ x, I L.blk x → x < L.base + k.fz * L.z

structure MapRel (w : World) (φ : Pos) (I : Imm) (l : List (AV × AV)) (L : Loc) : Prop where
  there : ∃ (es : Array MapEntry) (clock : Nat), w.heap[L.blk]? = some (.map es clock) ∧ es.size = l.length ∧
    ∀ (i : Nat) (p : AV × AV) (e : MapEntry), l[i]? = some p → es[i]? = some e → RelV w φ I p.1 e.key ∧ RelV w φ I p.2 e.val

/-- the world holds what the machine's blocks hold -/
structure HR (φ : Pos) (I : Imm) (g : Nat → Option Blk) (m : Nat → Option (List (AV × AV))) (w : World) : Prop where
  blk : ∀ b k L, g b = some k → φ b = some L → BlkRel w φ I k L
  map : ∀ b l L, m b = some l → φ b = some L → MapRel w φ I l L
  inj : ∀ b b' k k' L L', g b = some k → g b' = some k' → φ b = some L → φ b' = some L' → b ≠ b' → L.blk ≠ L'.blk
  minj : ∀ b b' l l' L L', m b = some l → m b' = some l' → φ b = some L → φ b' = some L' → b ≠ b' → L.blk ≠ L'.blk
  lt : ∀ b L, φ b = some L → L.blk < w.heap.size
  imm : ∀ B x, I B x → ∃ (cells : Array Value) (elem : TypeId) (fr : Nat × Nat), w.heap[B]? = some (.cells cells elem fr) ∧ x < cells.size

/-- what a piece of the run does to the world -/
structure Ext0 (φ : Pos) (I : Imm) (w : World) (φ' : Pos) (I' : Imm) (w' : World) : Prop where
  os : w'.os = w.os
  tape : w'.tape = w.tape
  output : w'.output = w.output
  size : w.heap.size ≤ w'.heap.size
  sub : ∀ b L, φ b = some L → φ' b = some L
  isub : ∀ B x, I B x → I' B x
  icell : ∀ B x, I B x → w'.cell? (at_ B x) = w.cell? (at_ B x)

/-- the same, with what is known of the blocks before and behind it (K, K'), and the first new number -/
structure Ext (N N' : Nat) (K : Nat → Prop) (φ : Pos) (I : Imm) (w : World) (K' : Nat → Prop) (φ' : Pos) (I' : Imm) (w' : World) : Prop extends Ext0 φ I w φ' I' w' where
  next : N ≤ N'
  frame : ∀ B, B < w.heap.size → (∀ b L, φ b = some L → K b → L.blk ≠ B) → w'.heap[B]? = w.heap[B]?
  new : ∀ b L, φ' b = some L → K' b → (φ b = some L ∧ K b) ∨ w.heap.size ≤ L.blk ∨ ∃ b0 L0, φ b0 = some L0 ∧ K b0 ∧ L0.blk = L.blk
  fresh : ∀ b L, φ' b = some L → φ b = some L ∨ N ≤ b
  ids : ∀ b, K' b → K b ∨ N ≤ b
  inew : ∀ B x, I' B x → I B x ∨ w.heap.size ≤ B ∨ ∃ b0 L0, φ b0 = some L0 ∧ K b0 ∧ L0.blk = B

theorem Ext0.refl (φ : Pos) (I : Imm) (w : World) : Ext0 φ I w φ I w :=
  ⟨rfl, rfl, rfl, Nat.le_refl _, fun _ _ h => h, fun _ _ h => h, fun _ _ _ => rfl⟩

theorem Ext.refl (N : Nat) (K : Nat → Prop) (φ : Pos) (I : Imm) (w : World) : Ext N N K φ I w K φ I w :=
  ⟨.refl _ _ _, Nat.le_refl _, fun _ _ _ => rfl, fun _ _ h k => .inl ⟨h, k⟩, fun _ _ h => .inl h, fun _ h => .inl h, fun _ _ h => .inl h⟩

theorem Ext0.trans {φ φ' φ'' : Pos} {I I' I'' : Imm} {w w' w'' : World} (h : Ext0 φ I w φ' I' w') (k : Ext0 φ' I' w' φ'' I'' w'') : Ext0 φ I w φ'' I'' w'' where
  os := k.os.trans h.os
  tape := k.tape.trans h.tape
  output := k.output.trans h.output
  size := Nat.le_trans h.size k.size
  sub b L hb := k.sub b L (h.sub b L hb)
  isub B x hb := k.isub B x (h.isub B x hb)
  icell B x hb := (k.icell B x (h.isub B x hb)).trans (h.icell B x hb)

theorem Ext.trans {N N' N'' : Nat} {K K' K'' : Nat → Prop} {φ φ' φ'' : Pos} {I I' I'' : Imm} {w w' w'' : World} (h : Ext N N' K φ I w K' φ' I' w') (k : Ext N' N'' K' φ' I' w' K'' φ'' I'' w'') : Ext N N'' K φ I w K'' φ'' I'' w'' where
  toExt0 := h.toExt0.trans k.toExt0
  next := Nat.le_trans h.next k.next
  frame B hB hn := by
    rw [k.frame B (Nat.lt_of_lt_of_le hB h.size) ?_, h.frame B hB hn]
    intro b L hb hK he
    rcases h.new b L hb hK with ⟨h1, h2⟩ | h1 | ⟨b0, L0, h1, h2, h3⟩
    · exact hn b L h1 h2 he
    · omega
    · exact hn b0 L0 h1 h2 (h3.trans he)
  new b L hb hK := by
    rcases k.new b L hb hK with ⟨h1, h2⟩ | h1 | ⟨b0, L0, h1, h2, h3⟩
    · exact h.new b L h1 h2
    · exact .inr (.inl (Nat.le_trans h.size h1))
    · rcases h.new b0 L0 h1 h2 with ⟨h4, h5⟩ | h4 | ⟨b1, L1, h4, h5, h6⟩
      · exact .inr (.inr ⟨b0, L0, h4, h5, h3⟩)
      · exact .inr (.inl (h3 ▸ h4))
      · exact .inr (.inr ⟨b1, L1, h4, h5, h6.trans h3⟩)
  fresh b L hb := by
    rcases k.fresh b L hb with h1 | h1
    · exact h.fresh b L h1
    · exact .inr (Nat.le_trans h.next h1)
  ids b hb := by
    rcases k.ids b hb with h1 | h1
    · exact h.ids b h1
    · exact .inr (Nat.le_trans h.next h1)
  inew B x hx := by
    rcases k.inew B x hx with h1 | h1 | ⟨b0, L0, h1, h2, h3⟩
    · exact h.inew B x h1
    · exact .inr (.inl (Nat.le_trans h.size h1))
    · rcases h.new b0 L0 h1 h2 with ⟨h4, h5⟩ | h4 | ⟨b1, L1, h4, h5, h6⟩
      · exact .inr (.inr ⟨b0, L0, h4, h5, h3⟩)
      · exact .inr (.inl (h3 ▸ h4))
      · exact .inr (.inr ⟨b1, L1, h4, h5, h6.trans h3⟩)

/-- more is asked to be known at first -/
theorem Ext.more {N N' : Nat} {K K0 K' : Nat → Prop} {φ φ' : Pos} {I I' : Imm} {w w' : World} (h : Ext N N' K φ I w K' φ' I' w') (hk : ∀ b, K b → K0 b) : Ext N N' K0 φ I w K' φ' I' w' where
  toExt0 := h.toExt0
  next := h.next
  frame B hB hn := h.frame B hB fun b L hb hK => hn b L hb (hk b hK)
  new b L hb hK := (h.new b L hb hK).imp (fun h => ⟨h.1, hk b h.2⟩) (Or.imp id fun ⟨b0, L0, h1, h2, h3⟩ => ⟨b0, L0, h1, hk b0 h2, h3⟩)
  fresh := h.fresh
  ids b hb := (h.ids b hb).imp (hk b) id
  inew B x hx := (h.inew B x hx).imp id (Or.imp id fun ⟨b0, L0, h1, h2, h3⟩ => ⟨b0, L0, h1, hk b0 h2, h3⟩)

theorem RelI.mono {w w' : World} {I I' : Imm} (hs : ∀ B x, I B x → I' B x) (hc : ∀ B x, I B x → w'.cell? (at_ B x) = w.cell? (at_ B x)) {v : AV} {c : Value} (h : RelI w I v c) : RelI w' I' v c := by
  induction h with
  | int k n => exact .int k n
  | bool b => exact .bool b
  | str s => exact .str s
  | nil => exact .nil
  | nilp => exact .nilp
  | nilf => exact .nilf
  | bad v h => exact .bad v h
  | sym s v h => exact .sym s v h
  | sl0 nn z a cap h h0 => exact .sl0 nn z a cap h h0
  | sl nn z xs B off cap cell hn hcap hrow hcell hone hrel ih =>
    exact .sl nn z xs B off cap cell hn hcap hrow (fun i j r v hi hj => ⟨by rw [hc _ _ (hcell i j r v hi hj).2]; exact (hcell i j r v hi hj).1, hs _ _ (hcell i j r v hi hj).2⟩) hone ih
  | agg cs vs hl hf h ih => exact .agg cs vs hl hf ih
  | tup cs vs hl h ih => exact .tup cs vs hl ih

theorem RelV.mono {w w' : World} {φ φ' : Pos} {I I' : Imm} (hp : ∀ b L, φ b = some L → φ' b = some L) (hs : ∀ B x, I B x → I' B x) (hc : ∀ B x, I B x → w'.cell? (at_ B x) = w.cell? (at_ B x))
    {v : AV} {c : Value} (h : RelV w φ I v c) : RelV w' φ' I' v c := by
  induction h with
  | imm v c h => exact .imm v c (h.mono hs hc)
  | ref b z off n cap L v hb hz hv => exact .ref b z off n cap L v (hp _ _ hb) hz hv
  | ptr b i j L hb => exact .ptr b i j L (hp _ _ hb)
  | rp cs B off cell h ho hr => exact .rp cs B off cell (fun j v hj => ⟨by rw [hc _ _ (h j v hj).2]; exact (h j v hj).1, hs _ _ (h j v hj).2⟩) ho (fun j v hj => (hr j v hj).mono hs hc)
  | agg cs vs hl hf h ih => exact .agg cs vs hl hf ih
  | tup cs vs hl h ih => exact .tup cs vs hl ih
  | clo g cs vs hl h ih => exact .clo g cs vs hl ih
  | mp b L hb => exact .mp b L (hp _ _ hb)
  | bad v h => exact .bad v h

theorem RelV.ext {w w' : World} {φ φ' : Pos} {I I' : Imm} (e : Ext0 φ I w φ' I' w') {v : AV} {c : Value} (h : RelV w φ I v c) : RelV w' φ' I' v c := h.mono e.sub e.isub e.icell

/-! ### what a value of the machine's says of the value -/
section
variable {w : World} {φ : Pos} {I : Imm}
theorem RelV.int_inv {k : IntKind} {n : Int} {c : Value} (h : RelV w φ I (.int k n) c) : c = .int k n := by cases h with | imm _ _ h => cases h; rfl
theorem RelV.bool_inv {b : Bool} {c : Value} (h : RelV w φ I (.bool b) c) : c = .bool b := by cases h with | imm _ _ h => cases h; rfl
theorem RelV.str_inv {l : List Nat} {c : Value} (h : RelV w φ I (.str l) c) : ∃ s, c = .string s ∧ bytesOfStr s = l := by cases h with | imm _ _ h => cases h; exact ⟨_, rfl, rfl⟩
theorem RelV.nil_inv {c : Value} (h : RelV w φ I .nil c) : c = .slice none 0 0 := by cases h with | imm _ _ h => cases h; rfl
theorem RelV.tup0_inv {c : Value} (h : RelV w φ I (.tup []) c) : c = .tuple #[] := by
  cases h with
  | imm _ _ h => cases h with | tup _ vs hl => simp at hl; rw [hl]
  | tup _ vs hl => simp at hl; rw [hl]
theorem RelV.agg_inv {cs : Row} {c : Value} (h : RelV w φ I (.agg cs) c) : ∃ vs : Array Value, c = .agg vs ∧ vs.size = cs.length ∧ (∀ (j : Nat) (c : Value), vs[j]? = some c → c.oneCell' = true) ∧ ∀ (j : Nat) (v : AV) (c : Value), cs[j]? = some v → vs[j]? = some c → RelV w φ I v c := by
  cases h with
  | imm _ _ h => cases h with | agg _ vs hl hf h => exact ⟨vs, rfl, hl, hf, fun j v c h1 h2 => .imm _ _ (h j v c h1 h2)⟩
  | agg _ vs hl hf h => exact ⟨vs, rfl, hl, hf, h⟩
theorem RelV.tup_inv {cs : Row} {c : Value} (h : RelV w φ I (.tup cs) c) : ∃ vs : Array Value, c = .tuple vs ∧ vs.size = cs.length ∧ ∀ (j : Nat) (v : AV) (c : Value), cs[j]? = some v → vs[j]? = some c → RelV w φ I v c := by
  cases h with
  | imm _ _ h => cases h with | tup _ vs hl h => exact ⟨vs, rfl, hl, fun j v c h1 h2 => .imm _ _ (h j v c h1 h2)⟩
  | tup _ vs hl h => exact ⟨vs, rfl, hl, h⟩
theorem RelV.clo_inv {g : FuncId} {cs : Row} {c : Value} (h : RelV w φ I (.clo g cs) c) : ∃ vs : Array Value, c = .func (.func g) #[] vs ∧ vs.size = cs.length ∧ ∀ (j : Nat) (v : AV) (c : Value), cs[j]? = some v → vs[j]? = some c → RelV w φ I v c := by
  cases h with
  | imm _ _ h => cases h
  | clo _ _ vs hl h => exact ⟨vs, rfl, hl, h⟩
theorem RelV.ref_inv {b z off n : Nat} {cap : Option Nat} {c : Value} (h : RelV w φ I (.ref b z off n cap) c) : ∃ L, φ b = some L ∧ L.z = z ∧ RefVal L off n cap c := by
  cases h with
  | imm _ _ h => cases h
  | ref _ _ _ _ _ L _ hb hz hv => exact ⟨L, hb, hz, hv⟩
theorem RelV.ptr_inv {b i j : Nat} {c : Value} (h : RelV w φ I (.ptr b i j) c) : ∃ L, φ b = some L ∧ c = .pointer (some (at_ L.blk (L.base + i * L.z + j))) := by
  cases h with
  | imm _ _ h => cases h
  | ptr _ _ _ L hb => exact ⟨L, hb, rfl⟩
theorem RelV.rp_inv {cs : Row} {c : Value} (h : RelV w φ I (.rp cs) c) : ∃ (B off : Nat) (cell : Nat → Value), c = .pointer (some (at_ B off)) ∧
    (∀ (j : Nat) (v : AV), cs[j]? = some v → w.cell? (at_ B (off + j)) = some (cell j) ∧ I B (off + j)) ∧ (∀ (j : Nat) (v : AV), cs[j]? = some v → (cell j).oneCell' = true) ∧ (∀ (j : Nat) (v : AV), cs[j]? = some v → RelI w I v (cell j)) := by
  cases h with
  | imm _ _ h => cases h
  | rp _ B off cell h ho hr => exact ⟨B, off, cell, rfl, h, ho, hr⟩
theorem RelV.mp_inv {b : Nat} {c : Value} (h : RelV w φ I (.mp b) c) : ∃ L, φ b = some L ∧ c = .map (some L.blk) := by
  cases h with
  | imm _ _ h => cases h
  | mp _ L hb => exact ⟨L, hb, rfl⟩
theorem RelV.sl_inv {nn : Bool} {z : Nat} {xs : List Row} {c : Value} (h : RelV w φ I (.sl nn z xs) c) : RelI w I (.sl nn z xs) c := by
  cases h with | imm _ _ h => exact h

/-- the cells of a value: as many, each of one cell, each as the machine's -/
theorem RelV.cells {v : AV} {c : Value} (h : RelV w φ I v c) (hz : (cellsOf v).length ≠ 0) : c.cells.size = (cellsOf v).length ∧ (∀ (j : Nat) (d : Value), c.cells[j]? = some d → d.oneCell' = true) ∧
    ∀ (j : Nat) (x : AV) (d : Value), (cellsOf v)[j]? = some x → c.cells[j]? = some d → RelV w φ I x d := by
  have one : ∀ (v : AV) (c : Value), cellsOf v = [v] → c.cells = #[c] → c.oneCell' = true → RelV w φ I v c → c.cells.size = (cellsOf v).length ∧ (∀ (j : Nat) (d : Value), c.cells[j]? = some d → d.oneCell' = true) ∧
      ∀ (j : Nat) (x : AV) (d : Value), (cellsOf v)[j]? = some x → c.cells[j]? = some d → RelV w φ I x d := by
    intro v c h1 h2 h3 h4
    rw [h1, h2]
    refine ⟨rfl, fun j d hd => ?_, fun j x d hx hd => ?_⟩
    · cases j <;> simp at hd; rw [← hd]; exact h3
    · cases j <;> simp at hd hx; rw [← hd, ← hx]; exact h4
  have h0 := h
  cases h with
  | imm _ _ h =>
    cases h with
    | agg cs vs hl hf h => exact ⟨hl, hf, fun j x d hx hd => .imm _ _ (h j x d hx hd)⟩
    | tup cs vs hl h => exact absurd rfl hz
    | bad v h => exact one _ _ rfl (by cases c <;> first | rfl | simp [Value.oneCell'] at h) h h0
    | sym s v h =>
      cases s with
      | int i off lo hi => obtain ⟨rfl, _⟩ := h; exact one _ _ rfl rfl rfl h0
      | str pre i lo hi a b => obtain ⟨st, rfl, _⟩ := h; exact one _ _ rfl rfl rfl h0
    | _ => exact one _ _ rfl rfl rfl h0
  | bad v h => exact one _ _ rfl (by cases c <;> first | rfl | simp [Value.oneCell'] at h) h h0
  | agg cs vs hl hf h => exact ⟨hl, hf, h⟩
  | tup cs vs hl h => exact absurd rfl hz
  | ref b z off n cap L v hb hzz hv =>
    rcases hv with ⟨c, rfl, _⟩ | ⟨_, ⟨o, rfl⟩, _⟩ <;> exact one _ _ rfl rfl rfl h0
  | _ => exact one _ _ rfl rfl rfl h0
end
end Go.Den
