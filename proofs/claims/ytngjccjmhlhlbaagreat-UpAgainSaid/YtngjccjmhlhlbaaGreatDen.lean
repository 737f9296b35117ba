/- The machine that is walked by the kernel: values, a heap of own blocks, the operations, calls, regions -/
import GoSem.Step
set_option linter.unusedVariables false
set_option linter.unusedSimpArgs false
set_option linter.unusedSectionVars false
namespace Go.Den
open Go

/-- what is not known: a whole number (so much more than one of a number) between bounds; a string (a known one and then one that is not), between two strings, its length -/
inductive Sy where
  | int (i : Nat) (off lo hi : Int)
  | str (pre : List Nat) (i : Nat) (lo hi : Option (List Nat)) (a b : Nat)

inductive AV where
  | int (k : IntKind) (n : Int)
  | bool (b : Bool)
  | str (l : List Nat)
  | nil
  | nilp
  | nilf
  | sl (nn : Bool) (sz : Nat) (xs : List (List AV))
  | ref (b sz off len : Nat) (cap : Option Nat)
  | ptr (b i j : Nat)
  | rp (cs : List AV)
  | agg (cs : List AV)
  | tup (vs : List AV)
  | clo (f : FuncId) (caps : List AV)
  | mp (b : Nat)
  | bad
  | sym (s : Sy)

abbrev Row := List AV
/-- values at numbers -/
inductive AL (α : Type) where
  | nil
  | cons (k : Nat) (v : α) (t : AL α)

abbrev Regs := AL AV

noncomputable section

def ifb {α : Type} (b : Bool) (x y : α) : α := @Bool.rec (fun _ => α) y x b
def ob {α β : Type} (o : Option α) (f : α → Option β) : Option β := @Option.rec α (fun _ => Option β) none f o
def op2 {α β γ : Type} (o : Option (α × β)) (f : α → β → Option γ) : Option γ := @Option.rec (α × β) (fun _ => Option γ) none (fun p => @Prod.rec α β (fun _ => Option γ) f p) o
def forceNat {α : Type} (n : Nat) (f : Nat → α) : α := @Nat.rec (fun _ => α) (f 0) (fun m _ => f (Nat.succ m)) n

inductive Tr (α : Type) where
  | leaf
  | node (k : Nat) (v : α) (l r : Tr α)

def Tr.get {α : Type} (t : Tr α) (n : Nat) : Option α :=
  @Tr.rec α (fun _ => Option α) none (fun k v _ _ a b => ifb (Nat.beq n k) (some v) (ifb (Nat.blt n k) a b)) t

def lk {α : Type} (l : AL α) (n : Nat) : Option α :=
  @AL.rec α (fun _ => Option α) none (fun k v _ ih => @Bool.rec (fun _ => Option α) ih (some v) (Nat.beq k n)) l

/-- the first list's, else the second's -/
def lk2 {α : Type} (l m : AL α) (n : Nat) : Option α :=
  @AL.rec α (fun _ => Option α) (lk m n) (fun k v _ ih => @Bool.rec (fun _ => Option α) ih (some v) (Nat.beq k n)) l

def nth {α : Type} (l : List α) : Nat → Option α :=
  @List.rec α (fun _ => Nat → Option α) (fun _ => none) (fun x _ ih n => @Nat.rec (fun _ => Option α) (some x) (fun m _ => ih m) n) l

def len {α : Type} (l : List α) : Nat := @List.rec α (fun _ => Nat → Nat) (fun n => n) (fun _ _ ih n => ih (Nat.succ n)) l 0

def appK {α β : Type} (l m : List α) (k : List α → β) : β :=
  @List.rec α (fun _ => (List α → β) → β) (fun k => k m) (fun x _ ih k => ih fun r => k (x :: r)) l k

def dropL {α : Type} (l : List α) (n : Nat) : List α :=
  @List.rec α (fun _ => Nat → List α) (fun _ => []) (fun x t ih n => @Nat.rec (fun _ => List α) (x :: t) (fun m _ => ih m) n) l n

def takeK {α β : Type} (l : List α) (n : Nat) (k : List α → β) : β :=
  @List.rec α (fun _ => Nat → (List α → β) → β) (fun _ k => k []) (fun x _ ih n k => @Nat.rec (fun _ => β) (k []) (fun m _ => ih m fun r => k (x :: r)) n) l n k

/-- the cells from n on are these -/
def putAtK {α β : Type} (l : List α) (n : Nat) (xs : List α) (k : List α → β) : β :=
  @List.rec α (fun _ => Nat → List α → (List α → β) → β) (fun _ _ k => k [])
    (fun y t ih n xs k => @Nat.rec (fun _ => β)
      (@List.rec α (fun _ => β) (k (y :: t)) (fun x xs _ => ih 0 xs fun r => k (x :: r)) xs)
      (fun m _ => ih m xs fun r => k (y :: r)) n) l n xs k

def setK {α β : Type} (l : List α) (n : Nat) (x : α) (k : List α → β) : β :=
  @List.rec α (fun _ => Nat → (List α → β) → β) (fun _ k => k [])
    (fun y t ih n k => @Nat.rec (fun _ => β) (k (x :: t)) (fun m _ => ih m fun r => k (y :: r)) n) l n k

/-- another value at a key; where it isn't there, one more -/
def putK {α β : Type} (l : AL α) (n : Nat) (x : α) (k : AL α → β) : β :=
  @AL.rec α (fun _ => (AL α → β) → β) (fun k => k (.cons n x .nil))
    (fun i v t ih k => @Bool.rec (fun _ => β) (ih fun r => k (.cons i v r)) (k (.cons n x t)) (Nat.beq i n)) l k

def updK {α β : Type} (l : AL α) (n : Nat) (x : α) (k : AL α → β) : β :=
  @AL.rec α (fun _ => (AL α → β) → β) (fun k => k .nil)
    (fun i v t ih k => @Bool.rec (fun _ => β) (ih fun r => k (.cons i v r)) (k (.cons n x t)) (Nat.beq i n)) l k

def delK {α β : Type} (l : AL α) (n : Nat) (k : AL α → β) : β :=
  @AL.rec α (fun _ => (AL α → β) → β) (fun k => k .nil)
    (fun i v _ ih k => @Bool.rec (fun _ => β) (ih fun r => k (.cons i v r)) (ih k) (Nat.beq i n)) l k

def dropFrom {α : Type} (n : Nat) (l : AL α) : AL α :=
  @AL.rec α (fun _ => AL α) .nil (fun k v t ih => @Bool.rec (fun _ => AL α) (.cons k v t) ih (Nat.ble n k)) l

def repK {α β : Type} (x : α) (n : Nat) (k : List α → β) : β :=
  @Nat.rec (fun _ => (List α → β) → β) (fun k => k []) (fun _ ih k => ih fun r => k (x :: r)) n k

inductive TD where
  | bool | int (k : IntKind) | str
  | slice (sz bytes : Nat) (zero : Row) (u8 : Bool)
  | struct (fs : List (Nat × Nat))   -- offset, size
  | ptr
  | map (esz : Nat) (struct : Bool) (zero : Row)
  | func
  | other

structure TI where
  td : TD
  size : Nat
  zero : Row
  eq : Bool          -- values of it are compared cell by cell

structure Blk where
  els : List Row
  grow : Bool
  fz : Nat

structure Heap where
  next : Nat
  blks : AL Blk
  maps : AL (List (AV × AV))
  mark : Nat
  log : List Nat

/-- for an operation of a region that draws its order: its kind (0: pure, 1: reads, 2: makes an object, 3: all else), which of the region's operations of kind 3 it can have behind it, what it looks at -/
structure HOp where
  cls : Nat
  lo : Nat
  hi : Nat
  rd : List Nat
  ad : List Nat     -- for kind 3: what is made ahead of it in every order (places)

/-- hints for a function: the temporaries that live beyond a region (a mask); its regions that draw -/
structure Hint where
  keep : Nat
  dr : Nat → Option (List HOp)

structure Env where
  T : Nat → Option TI
  G : Nat → Option Func
  hint : Nat → Option Hint
  own : Nat → Bool                    -- hint: results are handed back as they are
  ins : Nat → Option (Nat × Nat)      -- slices.Insert: an element's size, its bytes
  orc : Nat → Option (List AV → Option AV)   -- what is known of a function

abbrev Fin2 := Regs × Heap
abbrev K := AV → Heap → Option Fin2
abbrev KH := Heap → Option Fin2

def mkInt (k : IntKind) (n : Int) : AV :=
  @Int.rec (fun _ => AV) (fun n => forceNat n fun n => .int k (.ofNat n)) (fun n => forceNat n fun n => .int k (.negSucc n)) n

def small (n : Int) : Bool :=
  @Int.rec (fun _ => Bool) (fun n => Nat.ble n 9223372036854775807) (fun n => Nat.ble n 9223372036854775807) n

def is64 (k : IntKind) : Bool := (@IntKind.rec (fun _ => Bool) (false) (false) (false) (true) (false) (false) (false) (false) k)

def wrapF (k : IntKind) (n : Int) : Int := ifb (is64 k) (ifb (small n) n (k.wrap n)) (k.wrap n)

def bytesOfStr (s : ByteArray) : List Nat := s.data.toList.map UInt8.toNat

def ofConst : Value → Option AV
  | .int k n => some (.int k n)
  | .bool b => some (.bool b)
  | .string s => some (.str (bytesOfStr s))
  | .slice none 0 0 => some .nil
  | .pointer none => some .nilp
  | .nilFunc => some .nilf
  | _ => none

def opv (o : Operand) : Regs → Regs → Option AV :=
  @Operand.rec (fun _ => Regs → Regs → Option AV) (fun t loc env => lk2 loc env t) (fun v _ _ => ofConst v) (fun _ _ _ => none) (fun f _ _ => some (.clo f [])) o

def opvs (l : List Operand) (loc env : Regs) : Option (List AV) :=
  @List.rec Operand (fun _ => Option (List AV)) (some []) (fun x _ ih => ob (opv x loc env) fun v => ob ih fun vs => some (v :: vs)) l

def opvParts (l : List (Nat × Operand)) (loc env : Regs) : Option (List (Nat × AV)) :=
  @List.rec (Nat × Operand) (fun _ => Option (List (Nat × AV))) (some []) (fun p _ ih => @Prod.rec Nat Operand (fun _ => Option (List (Nat × AV))) (fun n x => ob (opv x loc env) fun v => ob ih fun vs => some ((n, v) :: vs)) p) l

def cellsOf (v : AV) : Row := (@AV.rec (fun _ => AV → Row) (fun _ => Unit) (fun _ => Unit) (fun _ _ => fun v => [v]) (fun _ => fun v => [v]) (fun _ => fun v => [v]) (fun v => [v]) (fun v => [v]) (fun v => [v]) (fun _ _ _ _ => fun v => [v]) (fun _ _ _ _ _ => fun v => [v]) (fun _ _ _ => fun v => [v]) (fun _ _ => fun v => [v]) (fun cs _ => fun _ => cs) (fun _ _ => fun _ => []) (fun _ _ _ => fun v => [v]) (fun _ => fun v => [v]) (fun v => [v]) (fun _ => fun v => [v]) () (fun _ _ _ _ => ()) () (fun _ _ _ _ => ()) v) v

/-- the value of a type in so many cells -/
def single (l : Row) : Option AV := @List.rec AV (fun _ => Option AV) none (fun v t _ => @List.rec AV (fun _ => Option AV) (some v) (fun _ _ _ => none) t) l

def pack (i : TI) (cs : Row) : Option AV :=
  @TI.rec (fun _ => Option AV) (fun td size _ _ => (@TD.rec (fun _ => Nat → Row → Option AV) (fun _ cs => single cs) (fun _ => fun _ cs => single cs) (fun _ cs => single cs) (fun _ _ _ _ => fun _ cs => single cs) (fun _ => fun size cs => ifb (Nat.beq (len cs) size) (some (.agg cs)) none) (fun _ cs => single cs) (fun _ _ _ => fun _ cs => single cs) (fun _ cs => single cs) (fun _ cs => single cs) td) size cs) i

def Heap.get (h : Heap) (b : Nat) : Option Blk := @Heap.rec (fun _ => Option Blk) (fun _ blks _ _ _ => lk blks b) h
def wrLog (mark b : Nat) (log : List Nat) : List Nat := ifb (Nat.blt b mark) (b :: log) log

/-- the heap with another block of that number, handed on -/
def setBlk (h : Heap) (b : Nat) (k : Blk) (f : KH) : Option Fin2 :=
  @Heap.rec (fun _ => Option Fin2) (fun next blks maps mark log => updK blks b k fun blks => f ⟨next, blks, maps, mark, wrLog mark b log⟩) h

def newBlk (h : Heap) (k : Blk) (f : Nat → KH) : Option Fin2 :=
  @Heap.rec (fun _ => Option Fin2) (fun next blks maps mark log => forceNat (Nat.succ next) fun n => f next ⟨n, AL.cons next k blks, maps, mark, log⟩) h

def killBlk (h : Heap) (b : Nat) (f : KH) : Option Fin2 :=
  @Heap.rec (fun _ => Option Fin2) (fun next blks maps mark log => delK blks b fun blks => f ⟨next, blks, maps, mark, wrLog mark b log⟩) h

def openBlk {β : Type} (h : Heap) (b : Nat) (f : List Row → Bool → Nat → Option β) : Option β :=
  ob (h.get b) fun k => @Blk.rec (fun _ => Option β) f k

def elemsRef (h : Heap) (b off n : Nat) : Option (List Row) :=
  @Nat.rec (fun _ => Option (List Row)) (some []) (fun _ _ =>
    openBlk h b fun els _ _ => takeK (dropL els off) n fun l => ifb (Nat.beq (len l) n) (some l) none) n

def byteCell (c : Nat) : Row := [.int .u8 (.ofNat c)]

/-- the elements of a slice -/
def elems (v : AV) : Heap → Nat → Option (List Row) := (@AV.rec (fun _ => Heap → Nat → Option (List Row)) (fun _ => Unit) (fun _ => Unit) (fun _ _ => fun _ _ => none) (fun _ => fun _ _ => none) (fun l => fun _ sz => ifb (Nat.beq sz 1) (some (l.map byteCell)) none) (fun _ _ => some []) (fun _ _ => none) (fun _ _ => none) (fun _ z xs _ => fun _ sz => ifb (Nat.beq z sz) (some xs) none) (fun b z off n _ => fun h sz => ifb (Nat.beq z sz) (elemsRef h b off n) none) (fun _ _ _ => fun _ _ => none) (fun _ _ => fun _ _ => none) (fun _ _ => fun _ _ => none) (fun _ _ => fun _ _ => none) (fun _ _ _ => fun _ _ => none) (fun _ => fun _ _ => none) (fun _ _ => none) (fun _ => fun _ _ => none) () (fun _ _ _ _ => ()) () (fun _ _ _ _ => ()) v)

def lenOf (v : AV) : Option Nat := (@AV.rec (fun _ => Option Nat) (fun _ => Unit) (fun _ => Unit) (fun _ _ => none) (fun _ => none) (fun l => some (len l)) (some 0) (none) (none) (fun _ _ xs _ => some (len xs)) (fun _ _ _ n _ => some n) (fun _ _ _ => none) (fun _ _ => none) (fun _ _ => none) (fun _ _ => none) (fun _ _ _ => none) (fun _ => none) (none) (fun _ => none) () (fun _ _ _ _ => ()) () (fun _ _ _ _ => ()) v)

/-- a small whole number -/
def natOf (v : AV) : Option Nat := (@AV.rec (fun _ => Option Nat) (fun _ => Unit) (fun _ => Unit) (fun _ n => @Int.rec (fun _ => Option Nat) (fun n => some n) (fun _ => none) n) (fun _ => none) (fun _ => none) (none) (none) (none) (fun _ _ _ _ => none) (fun _ _ _ _ _ => none) (fun _ _ _ => none) (fun _ _ => none) (fun _ _ => none) (fun _ _ => none) (fun _ _ _ => none) (fun _ => none) (none) (fun _ => none) () (fun _ _ _ _ => ()) () (fun _ _ _ _ => ()) v)

def bytesLess (x y : List Nat) : Bool :=
  @List.rec Nat (fun _ => List Nat → Bool) (fun y => @List.rec Nat (fun _ => Bool) false (fun _ _ _ => true) y)
    (fun a _ ih y => @List.rec Nat (fun _ => Bool) false (fun b y _ => ifb (Nat.blt a b) true (ifb (Nat.beq a b) (ih y) false)) y) x y

def listBeq (x y : List Nat) : Bool :=
  @List.rec Nat (fun _ => List Nat → Bool) (fun y => @List.rec Nat (fun _ => Bool) true (fun _ _ _ => false) y)
    (fun a _ ih y => @List.rec Nat (fun _ => Bool) false (fun b y _ => ifb (Nat.beq a b) (ih y) false) y) x y

def intBeq (a b : Int) : Bool :=
  @Int.rec (fun _ => Bool) (fun a => @Int.rec (fun _ => Bool) (fun b => Nat.beq a b) (fun _ => false) b)
    (fun a => @Int.rec (fun _ => Bool) (fun _ => false) (fun b => Nat.beq a b) b) a

def intBlt (a b : Int) : Bool :=
  @Int.rec (fun _ => Bool) (fun a => @Int.rec (fun _ => Bool) (fun b => Nat.blt a b) (fun _ => false) b)
    (fun a => @Int.rec (fun _ => Bool) (fun _ => true) (fun b => Nat.blt b a) b) a

def bnot (b : Bool) : Bool := @Bool.rec (fun _ => Bool) true false b
def bor (a b : Bool) : Bool := @Bool.rec (fun _ => Bool) b true a
def band (a b : Bool) : Bool := @Bool.rec (fun _ => Bool) false b a
def boolBeq (a b : Bool) : Bool := @Bool.rec (fun _ => Bool) (bnot b) b a

def kindNum (k : IntKind) : Nat := @IntKind.rec (fun _ => Nat) 0 1 2 3 4 5 6 7 k
def kindBeq (j k : IntKind) : Bool := Nat.beq (kindNum j) (kindNum k)

def toInt (v : AV) : Option (IntKind × Int) := (@AV.rec (fun _ => Option (IntKind × Int)) (fun _ => Unit) (fun _ => Unit) (fun k n => some (k, n)) (fun _ => none) (fun _ => none) (none) (none) (none) (fun _ _ _ _ => none) (fun _ _ _ _ _ => none) (fun _ _ _ => none) (fun _ _ => none) (fun _ _ => none) (fun _ _ => none) (fun _ _ _ => none) (fun _ => none) (none) (fun _ => none) () (fun _ _ _ _ => ()) () (fun _ _ _ _ => ()) v)
def toBool (v : AV) : Option Bool := (@AV.rec (fun _ => Option Bool) (fun _ => Unit) (fun _ => Unit) (fun _ _ => none) (fun b => some b) (fun _ => none) (none) (none) (none) (fun _ _ _ _ => none) (fun _ _ _ _ _ => none) (fun _ _ _ => none) (fun _ _ => none) (fun _ _ => none) (fun _ _ => none) (fun _ _ _ => none) (fun _ => none) (none) (fun _ => none) () (fun _ _ _ _ => ()) () (fun _ _ _ _ => ()) v)
def toStr (v : AV) : Option (List Nat) := (@AV.rec (fun _ => Option (List Nat)) (fun _ => Unit) (fun _ => Unit) (fun _ _ => none) (fun _ => none) (fun l => some l) (none) (none) (none) (fun _ _ _ _ => none) (fun _ _ _ _ _ => none) (fun _ _ _ => none) (fun _ _ => none) (fun _ _ => none) (fun _ _ => none) (fun _ _ _ => none) (fun _ => none) (none) (fun _ => none) () (fun _ _ _ _ => ()) () (fun _ _ _ _ => ()) v)
def toAgg (v : AV) : Option Row := (@AV.rec (fun _ => Option Row) (fun _ => Unit) (fun _ => Unit) (fun _ _ => none) (fun _ => none) (fun _ => none) (none) (none) (none) (fun _ _ _ _ => none) (fun _ _ _ _ _ => none) (fun _ _ _ => none) (fun _ _ => none) (fun cs _ => some cs) (fun _ _ => none) (fun _ _ _ => none) (fun _ => none) (none) (fun _ => none) () (fun _ _ _ _ => ()) () (fun _ _ _ _ => ()) v)
def toTup (v : AV) : Option Row := (@AV.rec (fun _ => Option Row) (fun _ => Unit) (fun _ => Unit) (fun _ _ => none) (fun _ => none) (fun _ => none) (none) (none) (none) (fun _ _ _ _ => none) (fun _ _ _ _ _ => none) (fun _ _ _ => none) (fun _ _ => none) (fun _ _ => none) (fun cs _ => some cs) (fun _ _ _ => none) (fun _ => none) (none) (fun _ => none) () (fun _ _ _ _ => ()) () (fun _ _ _ _ => ()) v)
def toMp (v : AV) : Option Nat := (@AV.rec (fun _ => Option Nat) (fun _ => Unit) (fun _ => Unit) (fun _ _ => none) (fun _ => none) (fun _ => none) (none) (none) (none) (fun _ _ _ _ => none) (fun _ _ _ _ _ => none) (fun _ _ _ => none) (fun _ _ => none) (fun _ _ => none) (fun _ _ => none) (fun _ _ _ => none) (fun b => some b) (none) (fun _ => none) () (fun _ _ _ _ => ()) () (fun _ _ _ _ => ()) v)

/-- equal cells: whole numbers, bools, strings -/
def cellEq (x : AV) : AV → Option Bool := (@AV.rec (fun _ => AV → Option Bool) (fun _ => Unit) (fun _ => Unit) (fun j a => fun y => op2 (toInt y) fun k b => ifb (kindBeq j k) (some (intBeq a b)) none) (fun a => fun y => ob (toBool y) fun b => some (boolBeq a b)) (fun a => fun y => ob (toStr y) fun b => some (listBeq a b)) (fun _ => none) (fun _ => none) (fun _ => none) (fun _ _ _ _ => fun _ => none) (fun _ _ _ _ _ => fun _ => none) (fun _ _ _ => fun _ => none) (fun _ _ => fun _ => none) (fun _ _ => fun _ => none) (fun _ _ => fun _ => none) (fun _ _ _ => fun _ => none) (fun _ => fun _ => none) (fun _ => none) (fun _ => fun _ => none) () (fun _ _ _ _ => ()) () (fun _ _ _ _ => ()) x)

def cellsEq (x y : Row) : Option Bool :=
  @List.rec AV (fun _ => Row → Option Bool) (fun y => @List.rec AV (fun _ => Option Bool) (some true) (fun _ _ _ => none) y)
    (fun a _ ih y => @List.rec AV (fun _ => Option Bool) none (fun b y _ => ob (cellEq a b) fun p => ob (ih y) fun q => some (band p q)) y) x y

def orInt (k : IntKind) (a b : Int) : Option AV :=
  @Int.rec (fun _ => Option AV) (fun x => @Int.rec (fun _ => Option AV) (fun y => some (mkInt k (k.wrap (Nat.lor x y : Nat)))) (fun _ => none) b) (fun _ => none) a

def shN (k : IntKind) (n : Nat) : Nat := ifb (Nat.ble n k.bits) n k.bits

def shiftBy (f : Nat → Option AV) (b : Int) : Option AV := @Int.rec (fun _ => Option AV) f (fun _ => none) b

/-- both of one kind -/
def binInt (op : BinOp) : IntKind → Int → Int → Option AV := (@BinOp.rec (fun _ => IntKind → Int → Int → Option AV) (fun k a b => some (mkInt k (wrapF k (a + b)))) (fun k a b => some (mkInt k (wrapF k (a - b)))) (fun k a b => some (mkInt k (wrapF k (a * b)))) (fun k a b => ifb (intBeq b 0) none (some (mkInt k (wrapF k (a.tdiv b))))) (fun k a b => ifb (intBeq b 0) none (some (mkInt k (a.tmod b)))) (fun _ _ _ => none) (orInt) (fun _ _ _ => none) (fun _ _ _ => none) (fun _ _ _ => none) (fun _ _ _ => none) (fun _ a b => some (.bool (intBeq a b))) (fun _ a b => some (.bool (bnot (intBeq a b)))) (fun _ a b => some (.bool (intBlt a b))) (fun _ a b => some (.bool (bnot (intBlt b a)))) (fun _ a b => some (.bool (intBlt b a))) (fun _ a b => some (.bool (bnot (intBlt a b)))) op)

def shiftInt (op : BinOp) : IntKind → Int → Int → Option AV := (@BinOp.rec (fun _ => IntKind → Int → Int → Option AV) (fun _ _ _ => none) (fun _ _ _ => none) (fun _ _ _ => none) (fun _ _ _ => none) (fun _ _ _ => none) (fun _ _ _ => none) (fun _ _ _ => none) (fun _ _ _ => none) (fun k a b => shiftBy (fun n => some (mkInt k (k.wrap (a * 2 ^ (shN k n))))) b) (fun k a b => shiftBy (fun n => some (mkInt k (a.fdiv (2 ^ (shN k n))))) b) (fun _ _ _ => none) (fun _ _ _ => none) (fun _ _ _ => none) (fun _ _ _ => none) (fun _ _ _ => none) (fun _ _ _ => none) (fun _ _ _ => none) op)

def isShift (op : BinOp) : Bool := (@BinOp.rec (fun _ => Bool) (false) (false) (false) (false) (false) (false) (false) (false) (true) (true) (false) (false) (false) (false) (false) (false) (false) op)

def isNilSlice (v : AV) : Option Bool := (@AV.rec (fun _ => Option Bool) (fun _ => Unit) (fun _ => Unit) (fun _ _ => none) (fun _ => none) (fun _ => none) (some true) (none) (none) (fun nn _ xs _ => ifb nn (some false) (@List.rec Row (fun _ => Option Bool) none (fun _ _ _ => some false) xs)) (fun _ _ _ _ _ => some false) (fun _ _ _ => none) (fun _ _ => none) (fun _ _ => none) (fun _ _ => none) (fun _ _ _ => none) (fun _ => none) (none) (fun _ => none) () (fun _ _ _ _ => ()) () (fun _ _ _ _ => ()) v)

def binStr (op : BinOp) : List Nat → List Nat → Option AV := (@BinOp.rec (fun _ => List Nat → List Nat → Option AV) (fun a b => appK a b fun l => ifb (Nat.ble (len l) 9223372036854775807) (some (.str l)) none) (fun _ _ => none) (fun _ _ => none) (fun _ _ => none) (fun _ _ => none) (fun _ _ => none) (fun _ _ => none) (fun _ _ => none) (fun _ _ => none) (fun _ _ => none) (fun _ _ => none) (fun a b => some (.bool (listBeq a b))) (fun a b => some (.bool (bnot (listBeq a b)))) (fun a b => some (.bool (bytesLess a b))) (fun a b => some (.bool (bor (bytesLess a b) (listBeq a b)))) (fun a b => some (.bool (bnot (bor (bytesLess a b) (listBeq a b))))) (fun a b => some (.bool (bnot (bytesLess a b)))) op)

def eqOp (op : BinOp) : Bool → Option AV := (@BinOp.rec (fun _ => Bool → Option AV) (fun _ => none) (fun _ => none) (fun _ => none) (fun _ => none) (fun _ => none) (fun _ => none) (fun _ => none) (fun _ => none) (fun _ => none) (fun _ => none) (fun _ => none) (fun r => some (.bool r)) (fun r => some (.bool (bnot r))) (fun _ => none) (fun _ => none) (fun _ => none) (fun _ => none) op)

def isNil (v : AV) : Bool := (@AV.rec (fun _ => Bool) (fun _ => Unit) (fun _ => Unit) (fun _ _ => false) (fun _ => false) (fun _ => false) (true) (false) (false) (fun _ _ _ _ => false) (fun _ _ _ _ _ => false) (fun _ _ _ => false) (fun _ _ => false) (fun _ _ => false) (fun _ _ => false) (fun _ _ _ => false) (fun _ => false) (false) (fun _ => false) () (fun _ _ _ _ => ()) () (fun _ _ _ _ => ()) v)
def isBoolTd (i : TI) : Bool := @TI.rec (fun _ => Bool) (fun td _ _ _ => (@TD.rec (fun _ => Bool) (true) (fun _ => false) (false) (fun _ _ _ _ => false) (fun _ => false) (false) (fun _ _ _ => false) (false) (false) td)) i
def isSliceTd (i : TI) : Bool := @TI.rec (fun _ => Bool) (fun td _ _ _ => (@TD.rec (fun _ => Bool) (false) (fun _ => false) (false) (fun _ _ _ _ => true) (fun _ => false) (false) (fun _ _ _ => false) (false) (false) td)) i

def nilEq (op : BinOp) (x y : AV) (ti : Option TI) : Option AV := ifb (isNil y) (ob ti fun i => ifb (isSliceTd i) (ob (isNilSlice x) (eqOp op)) none) none

/-- x op y; what is known of their type -/
def binop (x : AV) : BinOp → AV → Option TI → Option AV := (@AV.rec (fun _ => BinOp → AV → Option TI → Option AV) (fun _ => Unit) (fun _ => Unit) (fun j a => fun op y _ => op2 (toInt y) fun k b => ifb (isShift op) (shiftInt op j a b) (ifb (kindBeq j k) (binInt op j a b) none)) (fun a => fun op y ti => ob ti fun i => ifb (isBoolTd i) (ob (toBool y) fun b => eqOp op (boolBeq a b)) none) (fun a => fun op y _ => ob (toStr y) fun b => binStr op a b) (fun op y ti => nilEq op .nil y ti) (fun _ _ _ => none) (fun _ _ _ => none) (fun nn z xs _ => fun op y ti => nilEq op (.sl nn z xs) y ti) (fun b z off n cap => fun op y ti => nilEq op (.ref b z off n cap) y ti) (fun _ _ _ => fun _ _ _ => none) (fun _ _ => fun _ _ _ => none) (fun _ _ => fun _ _ _ => none) (fun _ _ => fun _ _ _ => none) (fun _ _ _ => fun _ _ _ => none) (fun _ => fun _ _ _ => none) (fun _ _ _ => none) (fun _ => fun _ _ _ => none) () (fun _ _ _ _ => ()) () (fun _ _ _ _ => ()) x)

def tri (t f : Bool) : Option AV := ifb t (some (.bool true)) (ifb f (some (.bool false)) none)

/-- a number between lo and hi, against m -/
def symCmp (op : BinOp) : Int → Int → Int → Option AV := (@BinOp.rec (fun _ => Int → Int → Int → Option AV) (fun _ _ _ => none) (fun _ _ _ => none) (fun _ _ _ => none) (fun _ _ _ => none) (fun _ _ _ => none) (fun _ _ _ => none) (fun _ _ _ => none) (fun _ _ _ => none) (fun _ _ _ => none) (fun _ _ _ => none) (fun _ _ _ => none) (fun lo hi m => tri false (bor (intBlt m lo) (intBlt hi m))) (fun lo hi m => tri (bor (intBlt m lo) (intBlt hi m)) false) (fun lo hi m => tri (intBlt hi m) (bnot (intBlt lo m))) (fun lo hi m => tri (bnot (intBlt m hi)) (intBlt m lo)) (fun lo hi m => tri (intBlt m lo) (bnot (intBlt m hi))) (fun lo hi m => tri (bnot (intBlt lo m)) (intBlt hi m)) op)

def flipOp (op : BinOp) : BinOp := (@BinOp.rec (fun _ => BinOp) (.add) (.add) (.add) (.add) (.add) (.add) (.add) (.add) (.add) (.add) (.add) (.eql) (.neq) (.gtr) (.geq) (.lss) (.leq) op)

def symSelf (op : BinOp) : Option AV := (@BinOp.rec (fun _ => Option AV) (none) (none) (none) (none) (none) (none) (none) (none) (none) (none) (none) (some (.bool true)) (some (.bool false)) (some (.bool false)) (some (.bool true)) (some (.bool false)) (some (.bool true)) op)

def forceInt {α : Type} (n : Int) (f : Int → α) : α := @Int.rec (fun _ => α) (fun n => forceNat n fun n => f (.ofNat n)) (fun n => forceNat n fun n => f (.negSucc n)) n

/-- a number of which so much is known, and so much more -/
def symAdd (i : Nat) (off lo hi m : Int) : Option AV :=
  forceInt (off + m) fun o => forceInt (lo + m) fun l => forceInt (hi + m) fun h =>
    ifb (intBlt (-4611686018427387904) l) (ifb (intBlt h 4611686018427387904) (some (.sym (.int i o l h))) none) none

def symIntOp (op : BinOp) : Nat → Int → Int → Int → Int → Option AV := (@BinOp.rec (fun _ => Nat → Int → Int → Int → Int → Option AV) (fun i off lo hi m => symAdd i off lo hi m) (fun i off lo hi m => symAdd i off lo hi (0 - m)) (fun _ _ lo hi m => symCmp op lo hi m) (fun _ _ lo hi m => symCmp op lo hi m) (fun _ _ lo hi m => symCmp op lo hi m) (fun _ _ lo hi m => symCmp op lo hi m) (fun _ _ lo hi m => symCmp op lo hi m) (fun _ _ lo hi m => symCmp op lo hi m) (fun _ _ lo hi m => symCmp op lo hi m) (fun _ _ lo hi m => symCmp op lo hi m) (fun _ _ lo hi m => symCmp op lo hi m) (fun _ _ lo hi m => symCmp op lo hi m) (fun _ _ lo hi m => symCmp op lo hi m) (fun _ _ lo hi m => symCmp op lo hi m) (fun _ _ lo hi m => symCmp op lo hi m) (fun _ _ lo hi m => symCmp op lo hi m) (fun _ _ lo hi m => symCmp op lo hi m) op)

def restHi (hi : Option (List Nat)) (l : List Nat) : Option Bool := @Option.rec (List Nat) (fun _ => Option Bool) none (fun h => ifb (bytesLess l h) none (some true)) hi
def restCmp (lo hi : Option (List Nat)) (l : List Nat) : Option Bool :=
  @Option.rec (List Nat) (fun _ => Option Bool) (restHi hi l) (fun k => ifb (bytesLess k l) (restHi hi l) (some false)) lo
/-- is it less than this text? they are not one -/
def strCmp (lo hi : Option (List Nat)) (pre : List Nat) : List Nat → Option Bool :=
  @List.rec Nat (fun _ => List Nat → Option Bool) (fun l => restCmp lo hi l)
    (fun p _ ih l => @List.rec Nat (fun _ => Option Bool) (some false) (fun q qs _ => ifb (Nat.beq p q) (ih qs) (some (Nat.blt p q))) l) pre
def cmpOp (op : BinOp) : Bool → Option AV := (@BinOp.rec (fun _ => Bool → Option AV) (fun _ => none) (fun _ => none) (fun _ => none) (fun _ => none) (fun _ => none) (fun _ => none) (fun _ => none) (fun _ => none) (fun _ => none) (fun _ => none) (fun _ => none) (fun _ => some (.bool false)) (fun _ => some (.bool true)) (fun b => some (.bool b)) (fun b => some (.bool b)) (fun b => some (.bool (bnot b))) (fun b => some (.bool (bnot b))) op)

/-- is l the other one's begin? -/
def isPre (l : List Nat) : List Nat → Bool :=
  @List.rec Nat (fun _ => List Nat → Bool) (fun _ => true) (fun a _ ih m => @List.rec Nat (fun _ => Bool) false (fun b m _ => ifb (Nat.beq a b) (ih m) false) m) l
/-- what is not known, against l and then what is not known -/
def tailCmp (lo hi : Option (List Nat)) (l : List Nat) : Option Bool :=
  @Option.rec (List Nat) (fun _ => Option Bool) (restHi hi l) (fun k => ifb (band (bytesLess l k) (bnot (isPre l k))) (some false) (restHi hi l)) lo
def negO (b : Option Bool) : Option Bool := ob b fun b => some (bnot b)
/-- so much and what is not known, against so much and what is not known; they are not one -/
def catCmp (lo hi : Option (List Nat)) (pre : List Nat) : List Nat → Option Bool :=
  @List.rec Nat (fun _ => List Nat → Option Bool) (fun l => @List.rec Nat (fun _ => Option Bool) none (fun q qs _ => tailCmp lo hi (q :: qs)) l)
    (fun p ps ih l => @List.rec Nat (fun _ => Option Bool) (negO (tailCmp lo hi (p :: ps))) (fun q qs _ => ifb (Nat.beq p q) (ih qs) (some (Nat.blt p q))) l) pre
def catOp (op : BinOp) (b : Option Bool) : Option AV := (@BinOp.rec (fun _ => Option Bool → Option AV) (fun _ => none) (fun _ => none) (fun _ => none) (fun _ => none) (fun _ => none) (fun _ => none) (fun _ => none) (fun _ => none) (fun _ => none) (fun _ => none) (fun _ => none) (fun _ => some (.bool false)) (fun _ => some (.bool true)) (fun b => ob b (cmpOp .lss)) (fun b => ob b (cmpOp .leq)) (fun b => ob b (cmpOp .gtr)) (fun b => ob b (cmpOp .geq)) op) b

def symSym (s t : Sy) (op : BinOp) : Option AV := @Sy.rec (fun _ => Option AV)
  (fun i o _ _ => @Sy.rec (fun _ => Option AV) (fun j p _ _ => ifb (Nat.beq i j) (ifb (intBeq o p) (symSelf op) none) none) (fun _ _ _ _ _ _ => none) t)
  (fun pre i lo hi _ _ => @Sy.rec (fun _ => Option AV) (fun _ _ _ _ => none) (fun qre j _ _ _ _ => ifb (Nat.beq i j) (ifb (listBeq pre qre) (symSelf op) (catOp op (catCmp lo hi pre qre))) none) t) s
def symInt (s : Sy) (op : BinOp) (k : IntKind) (m : Int) : Option AV := @Sy.rec (fun _ => Option AV) (fun i off lo hi => ifb (kindBeq k .i64) (symIntOp op i off lo hi m) none) (fun _ _ _ _ _ _ => none) s
def symIntR (s : Sy) (op : BinOp) (k : IntKind) (m : Int) : Option AV := @Sy.rec (fun _ => Option AV) (fun _ _ lo hi => ifb (kindBeq k .i64) (symCmp (flipOp op) lo hi m) none) (fun _ _ _ _ _ _ => none) s
def symStr (s : Sy) (op : BinOp) (l : List Nat) : Option AV := @Sy.rec (fun _ => Option AV) (fun _ _ _ _ => none) (fun pre _ lo hi _ _ => ob (strCmp lo hi pre l) (cmpOp op)) s
def symCat (s : Sy) (l : List Nat) : Option AV := @Sy.rec (fun _ => Option AV) (fun _ _ _ _ => none)
  (fun pre i lo hi a b => appK l pre fun qre => ifb (Nat.ble (len qre + b) 9223372036854775807) (some (.sym (.str qre i lo hi a b))) none) s
def symStrR (s : Sy) (op : BinOp) : List Nat → Option AV := (@BinOp.rec (fun _ => List Nat → Option AV) (fun l => symCat s l) (fun l => symStr s (flipOp op) l) (fun l => symStr s (flipOp op) l) (fun l => symStr s (flipOp op) l) (fun l => symStr s (flipOp op) l) (fun l => symStr s (flipOp op) l) (fun l => symStr s (flipOp op) l) (fun l => symStr s (flipOp op) l) (fun l => symStr s (flipOp op) l) (fun l => symStr s (flipOp op) l) (fun l => symStr s (flipOp op) l) (fun l => symStr s (flipOp op) l) (fun l => symStr s (flipOp op) l) (fun l => symStr s (flipOp op) l) (fun l => symStr s (flipOp op) l) (fun l => symStr s (flipOp op) l) (fun l => symStr s (flipOp op) l) op)

def symL (y : AV) : Sy → BinOp → Option AV := (@AV.rec (fun _ => Sy → BinOp → Option AV) (fun _ => Unit) (fun _ => Unit) (fun k m => fun s op => symInt s op k m) (fun _ => fun _ _ => none) (fun l => fun s op => symStr s op l) (fun _ _ => none) (fun _ _ => none) (fun _ _ => none) (fun _ _ _ _ => fun _ _ => none) (fun _ _ _ _ _ => fun _ _ => none) (fun _ _ _ => fun _ _ => none) (fun _ _ => fun _ _ => none) (fun _ _ => fun _ _ => none) (fun _ _ => fun _ _ => none) (fun _ _ _ => fun _ _ => none) (fun _ => fun _ _ => none) (fun _ _ => none) (fun t => fun s op => symSym s t op) () (fun _ _ _ _ => ()) () (fun _ _ _ _ => ()) y)
def symR (y : AV) : BinOp → IntKind → Int → Option AV := (@AV.rec (fun _ => BinOp → IntKind → Int → Option AV) (fun _ => Unit) (fun _ => Unit) (fun _ _ => fun _ _ _ => none) (fun _ => fun _ _ _ => none) (fun _ => fun _ _ _ => none) (fun _ _ _ => none) (fun _ _ _ => none) (fun _ _ _ => none) (fun _ _ _ _ => fun _ _ _ => none) (fun _ _ _ _ _ => fun _ _ _ => none) (fun _ _ _ => fun _ _ _ => none) (fun _ _ => fun _ _ _ => none) (fun _ _ => fun _ _ _ => none) (fun _ _ => fun _ _ _ => none) (fun _ _ _ => fun _ _ _ => none) (fun _ => fun _ _ _ => none) (fun _ _ _ => none) (fun t => fun op k n => symIntR t op k n) () (fun _ _ _ _ => ()) () (fun _ _ _ _ => ()) y)
def symRS (y : AV) : BinOp → List Nat → Option AV := (@AV.rec (fun _ => BinOp → List Nat → Option AV) (fun _ => Unit) (fun _ => Unit) (fun _ _ => fun _ _ => none) (fun _ => fun _ _ => none) (fun _ => fun _ _ => none) (fun _ _ => none) (fun _ _ => none) (fun _ _ => none) (fun _ _ _ _ => fun _ _ => none) (fun _ _ _ _ _ => fun _ _ => none) (fun _ _ _ => fun _ _ => none) (fun _ _ => fun _ _ => none) (fun _ _ => fun _ _ => none) (fun _ _ => fun _ _ => none) (fun _ _ _ => fun _ _ => none) (fun _ => fun _ _ => none) (fun _ _ => none) (fun t => fun op l => symStrR t op l) () (fun _ _ _ _ => ()) () (fun _ _ _ _ => ()) y)
def symBin (x : AV) : BinOp → AV → Option AV := (@AV.rec (fun _ => BinOp → AV → Option AV) (fun _ => Unit) (fun _ => Unit) (fun k n => fun op y => symR y op k n) (fun _ => fun _ _ => none) (fun l => fun op y => symRS y op l) (fun _ _ => none) (fun _ _ => none) (fun _ _ => none) (fun _ _ _ _ => fun _ _ => none) (fun _ _ _ _ _ => fun _ _ => none) (fun _ _ _ => fun _ _ => none) (fun _ _ => fun _ _ => none) (fun _ _ => fun _ _ => none) (fun _ _ => fun _ _ => none) (fun _ _ _ => fun _ _ => none) (fun _ => fun _ _ => none) (fun _ _ => none) (fun s => fun op y => symL y s op) () (fun _ _ _ _ => ()) () (fun _ _ _ _ => ()) x)

/-- cells that may be unknown: is one the other? -/
def cellE (x y : AV) : Option Bool := @Option.rec Bool (fun _ => Option Bool) (ob (symBin x .eql y) toBool) (fun b => some b) (cellEq x y)
def cellsE (x y : Row) : Option Bool :=
  @List.rec AV (fun _ => Row → Option Bool) (fun y => @List.rec AV (fun _ => Option Bool) (some true) (fun _ _ _ => none) y)
    (fun a _ ih y => @List.rec AV (fun _ => Option Bool) none (fun b y _ => ob (cellE a b) fun p => ob (ih y) fun q => some (band p q)) y) x y
/-- a cell of the kind of a zero value's cell -/
def shapeB (x z : AV) : Bool := (@AV.rec (fun _ => Bool) (fun _ => Unit) (fun _ => Unit) (fun k _ => (@AV.rec (fun _ => Bool) (fun _ => Unit) (fun _ => Unit) (fun j _ => kindBeq j k) (fun _ => false) (fun _ => false) (false) (false) (false) (fun _ _ _ _ => false) (fun _ _ _ _ _ => false) (fun _ _ _ => false) (fun _ _ => false) (fun _ _ => false) (fun _ _ => false) (fun _ _ _ => false) (fun _ => false) (false) (fun s => @Sy.rec (fun _ => Bool) (fun _ _ _ _ => kindBeq .i64 k) (fun _ _ _ _ _ _ => false) s) () (fun _ _ _ _ => ()) () (fun _ _ _ _ => ()) x)) (fun _ => (@AV.rec (fun _ => Bool) (fun _ => Unit) (fun _ => Unit) (fun _ _ => false) (fun _ => true) (fun _ => false) (false) (false) (false) (fun _ _ _ _ => false) (fun _ _ _ _ _ => false) (fun _ _ _ => false) (fun _ _ => false) (fun _ _ => false) (fun _ _ => false) (fun _ _ _ => false) (fun _ => false) (false) (fun _ => false) () (fun _ _ _ _ => ()) () (fun _ _ _ _ => ()) x)) (fun _ => (@AV.rec (fun _ => Bool) (fun _ => Unit) (fun _ => Unit) (fun _ _ => false) (fun _ => false) (fun _ => true) (false) (false) (false) (fun _ _ _ _ => false) (fun _ _ _ _ _ => false) (fun _ _ _ => false) (fun _ _ => false) (fun _ _ => false) (fun _ _ => false) (fun _ _ _ => false) (fun _ => false) (false) (fun s => @Sy.rec (fun _ => Bool) (fun _ _ _ _ => false) (fun _ _ _ _ _ _ => true) s) () (fun _ _ _ _ => ()) () (fun _ _ _ _ => ()) x)) (false) (false) (false) (fun _ _ _ _ => false) (fun _ _ _ _ _ => false) (fun _ _ _ => false) (fun _ _ => false) (fun _ _ => false) (fun _ _ => false) (fun _ _ _ => false) (fun _ => false) (false) (fun _ => false) () (fun _ _ _ _ => ()) () (fun _ _ _ _ => ()) z)
def rowShape (x z : Row) : Bool :=
  @List.rec AV (fun _ => Row → Bool) (fun z => @List.rec AV (fun _ => Bool) true (fun _ _ _ => false) z)
    (fun a _ ih z => @List.rec AV (fun _ => Bool) false (fun b z _ => ifb (shapeB a b) (ih z) false) z) x z

def orElseV (a b : Option AV) : Option AV := @Option.rec AV (fun _ => Option AV) b (fun v => some v) a

/-- rows of cells, by '==' -/
def aggBin (x : AV) : BinOp → AV → Option TI → Option AV := (@AV.rec (fun _ => BinOp → AV → Option TI → Option AV) (fun _ => Unit) (fun _ => Unit) (fun _ _ => fun _ _ _ => none) (fun _ => fun _ _ _ => none) (fun _ => fun _ _ _ => none) (fun _ _ _ => none) (fun _ _ _ => none) (fun _ _ _ => none) (fun _ _ _ _ => fun _ _ _ => none) (fun _ _ _ _ _ => fun _ _ _ => none) (fun _ _ _ => fun _ _ _ => none) (fun _ _ => fun _ _ _ => none) (fun a _ => fun op y ti => ob ti fun i => ifb i.eq (ob (toAgg y) fun b => ifb (rowShape a i.zero) (ifb (rowShape b i.zero) (ob (cellsE a b) (eqOp op)) none) none) none) (fun _ _ => fun _ _ _ => none) (fun _ _ _ => fun _ _ _ => none) (fun _ => fun _ _ _ => none) (fun _ _ _ => none) (fun _ => fun _ _ _ => none) () (fun _ _ _ _ => ()) () (fun _ _ _ _ => ()) x)
def binop3 (x : AV) (op : BinOp) (y : AV) (ti : Option TI) : Option AV := orElseV (binop x op y ti) (orElseV (symBin x op y) (aggBin x op y ti))

def unop (op : UnOp) : AV → Option AV := (@UnOp.rec (fun _ => AV → Option AV) (fun x => op2 (toInt x) fun k n => some (mkInt k (wrapF k (0 - n)))) (fun _ => none) (fun x => ob (toBool x) fun b => some (.bool (bnot b))) (fun _ => none) op)

def loadPtr (h : Heap) (i : TI) (b n j : Nat) : Option AV :=
  openBlk h b fun els _ _ => ob (nth els n) fun cs => takeK (dropL cs j) i.size fun l => pack i l

def loadOp (v : AV) : Heap → TI → Option AV := (@AV.rec (fun _ => Heap → TI → Option AV) (fun _ => Unit) (fun _ => Unit) (fun _ _ => fun _ _ => none) (fun _ => fun _ _ => none) (fun _ => fun _ _ => none) (fun _ _ => none) (fun _ _ => none) (fun _ _ => none) (fun _ _ _ _ => fun _ _ => none) (fun _ _ _ _ _ => fun _ _ => none) (fun b n j => fun h i => loadPtr h i b n j) (fun cs _ => fun _ i => takeK cs i.size fun l => pack i l) (fun _ _ => fun _ _ => none) (fun _ _ => fun _ _ => none) (fun _ _ _ => fun _ _ => none) (fun _ => fun _ _ => none) (fun _ _ => none) (fun _ => fun _ _ => none) () (fun _ _ _ _ => ()) () (fun _ _ _ _ => ()) v)

def storePtr (h : Heap) (sz : Nat) (vs : Row) (b n j : Nat) (f : KH) : Option Fin2 :=
  openBlk h b fun els grow fz => ifb (Nat.blt n fz) none (ob (nth els n) fun cs =>
      ifb (band (Nat.beq (len vs) sz) (Nat.ble (Nat.add j sz) (len cs)))
        (putAtK cs j vs fun cs => setK els n cs fun els => setBlk h b ⟨els, grow, fz⟩ f) none)

def storeOp (p : AV) : Heap → TI → AV → KH → Option Fin2 := (@AV.rec (fun _ => Heap → TI → AV → KH → Option Fin2) (fun _ => Unit) (fun _ => Unit) (fun _ _ => fun _ _ _ _ => none) (fun _ => fun _ _ _ _ => none) (fun _ => fun _ _ _ _ => none) (fun _ _ _ _ => none) (fun _ _ _ _ => none) (fun _ _ _ _ => none) (fun _ _ _ _ => fun _ _ _ _ => none) (fun _ _ _ _ _ => fun _ _ _ _ => none) (fun b n j => fun h i v f => storePtr h i.size (cellsOf v) b n j f) (fun _ _ => fun _ _ _ _ => none) (fun _ _ => fun _ _ _ _ => none) (fun _ _ => fun _ _ _ _ => none) (fun _ _ _ => fun _ _ _ _ => none) (fun _ => fun _ _ _ _ => none) (fun _ _ _ _ => none) (fun _ => fun _ _ _ _ => none) () (fun _ _ _ _ => ()) () (fun _ _ _ _ => ()) p)

def addOff (p : AV) : Nat → Option AV := (@AV.rec (fun _ => Nat → Option AV) (fun _ => Unit) (fun _ => Unit) (fun _ _ => fun _ => none) (fun _ => fun _ => none) (fun _ => fun _ => none) (fun _ => none) (fun _ => none) (fun _ => none) (fun _ _ _ _ => fun _ => none) (fun _ _ _ _ _ => fun _ => none) (fun b n j => fun o => forceNat (Nat.add j o) fun j => some (.ptr b n j)) (fun cs _ => fun o => some (.rp (dropL cs o))) (fun _ _ => fun _ => none) (fun _ _ => fun _ => none) (fun _ _ _ => fun _ => none) (fun _ => fun _ => none) (fun _ => none) (fun _ => fun _ => none) () (fun _ _ _ _ => ()) () (fun _ _ _ _ => ()) p)

def fieldsOf (i : TI) : Option (List (Nat × Nat)) := @TI.rec (fun _ => Option (List (Nat × Nat))) (fun td _ _ _ => (@TD.rec (fun _ => Option (List (Nat × Nat))) (none) (fun _ => none) (none) (fun _ _ _ _ => none) (fun fs => some fs) (none) (fun _ _ _ => none) (none) (none) td)) i

def fieldAddrOp (i : TI) (n : Nat) (p : AV) : Option AV := ob (fieldsOf i) fun fs => op2 (nth fs n) fun o _ => addOff p o

def indexAddrOp (x : AV) : Nat → Nat → Option AV := (@AV.rec (fun _ => Nat → Nat → Option AV) (fun _ => Unit) (fun _ => Unit) (fun _ _ => fun _ _ => none) (fun _ => fun _ _ => none) (fun _ => fun _ _ => none) (fun _ _ => none) (fun _ _ => none) (fun _ _ => none) (fun _ z xs _ => fun sz n => ifb (Nat.beq z sz) (ob (nth xs n) fun cs => some (.rp cs)) none) (fun b z off m _ => fun sz n => ifb (band (Nat.beq z sz) (Nat.blt n m)) (forceNat (Nat.add off n) fun m => some (.ptr b m 0)) none) (fun _ _ _ => fun _ _ => none) (fun _ _ => fun _ _ => none) (fun _ _ => fun _ _ => none) (fun _ _ => fun _ _ => none) (fun _ _ _ => fun _ _ => none) (fun _ => fun _ _ => none) (fun _ _ => none) (fun _ => fun _ _ => none) () (fun _ _ _ _ => ()) () (fun _ _ _ _ => ()) x)

def cutK {α : Type} (l : List α) (a b : Nat) (f : List α → AV) : Option AV :=
  ifb (band (Nat.ble a b) (Nat.ble b (len l))) (takeK l b fun l => some (f (dropL l a))) none

def capFits (h : Heap) (k off b : Nat) (cap : Option Nat) : Bool :=
  @Option.rec Nat (fun _ => Bool) (@Option.rec Blk (fun _ => Bool) false (fun bl => Nat.ble (off + b) (len bl.els)) (h.get k)) (fun c => Nat.ble b c) cap

def orElse (o : Option Nat) (n : Nat) : Nat := @Option.rec Nat (fun _ => Nat) n (fun x => x) o

def capLess (cap : Option Nat) (a : Nat) : Option Nat := @Option.rec Nat (fun _ => Option Nat) none (fun c => forceNat (c - a) fun c => some c) cap

def isStrTd (i : TI) : Bool := @TI.rec (fun _ => Bool) (fun td _ _ _ => (@TD.rec (fun _ => Bool) (false) (fun _ => false) (true) (fun _ _ _ _ => false) (fun _ => false) (false) (fun _ _ _ => false) (false) (false) td)) i
def szTd (i : TI) : Nat := @TI.rec (fun _ => Nat) (fun td _ _ _ => (@TD.rec (fun _ => Nat) (0) (fun _ => 0) (0) (fun sz _ _ _ => sz) (fun _ => 0) (0) (fun _ _ _ => 0) (0) (0) td)) i

/-- x[lo:hi] -/
def sliceOp (x : AV) : TI → Heap → Option Nat → Option Nat → Option AV := (@AV.rec (fun _ => TI → Heap → Option Nat → Option Nat → Option AV) (fun _ => Unit) (fun _ => Unit) (fun _ _ => fun _ _ _ _ => none) (fun _ => fun _ _ _ _ => none) (fun l => fun i _ lo hi => ifb (isStrTd i) (cutK l (orElse lo 0) (orElse hi (len l)) .str) none) (fun i _ lo hi => ifb (band (isSliceTd i) (band (Nat.beq (orElse lo 0) 0) (Nat.beq (orElse hi 0) 0))) (some .nil) none) (fun _ _ _ _ => none) (fun _ _ _ _ => none) (fun nn z xs _ => fun i _ lo hi => ifb (band (isSliceTd i) (Nat.beq (szTd i) z)) (cutK xs (orElse lo 0) (orElse hi (len xs)) (.sl nn z)) none) (fun k z off n cap => fun i h lo hi =>
    ifb (band (isSliceTd i) (Nat.beq (szTd i) z)) (forceNat (orElse hi n) fun b => forceNat (orElse lo 0) fun a =>
    ifb (band (Nat.ble a b) (bor (Nat.ble b n) (capFits h k off b cap)))
      (forceNat (off + a) fun o => forceNat (b - a) fun n => some (.ref k z o n (capLess cap a))) none) none) (fun _ _ _ => fun _ _ _ _ => none) (fun _ _ => fun _ _ _ _ => none) (fun _ _ => fun _ _ _ _ => none) (fun _ _ => fun _ _ _ _ => none) (fun _ _ _ => fun _ _ _ _ => none) (fun _ => fun _ _ _ _ => none) (fun _ _ _ _ => none) (fun _ => fun _ _ _ _ => none) () (fun _ _ _ _ => ()) () (fun _ _ _ _ => ()) x)

def freshRow (h : Heap) (sz bytes : Nat) (olds xs : List Row) (fz : Nat) (f : K) : Option Fin2 :=
  appK olds xs fun all => forceNat (len all) fun n =>
    ifb (Nat.ble (n * bytes) 140737488355328) (newBlk h ⟨all, true, fz⟩ fun b h => f (.ref b sz 0 n none) h) none

def writeRow (h : Heap) (b at_ : Nat) (xs : List Row) (f : KH) : Option Fin2 :=
  openBlk h b fun els grow fz => ifb (bor (Nat.blt at_ fz) (Nat.blt (len els) (at_ + len xs))) none
        (putAtK els at_ xs fun els => setBlk h b ⟨els, grow, fz⟩ f)

def appendRef (h : Heap) (bytes : Nat) (b z off n : Nat) (cap : Option Nat) (xs : List Row) (f : K) : Option Fin2 :=
  @Option.rec Nat (fun _ => Option Fin2)
    (openBlk h b fun els _ fz =>
      ifb (Nat.ble (Nat.add (Nat.add off n) (len xs)) (len els))
        (writeRow h b (off + n) xs fun h => forceNat (n + len xs) fun m => f (.ref b z off m cap) h)
        (ifb (Nat.ble fz (off + n))
          (ob (elemsRef h b off n) fun olds => killBlk h b fun h => freshRow h z bytes olds xs (fz - off) f) none))
    (fun c => ifb (Nat.ble (n + len xs) c)
      (writeRow h b (off + n) xs fun h => forceNat (n + len xs) fun m => f (.ref b z off m cap) h)
      (ob (elemsRef h b off n) fun olds => freshRow h z bytes olds xs 0 f)) cap

def appendTo (s : AV) : Heap → Nat → Nat → List Row → K → Option Fin2 := (@AV.rec (fun _ => Heap → Nat → Nat → List Row → K → Option Fin2) (fun _ => Unit) (fun _ => Unit) (fun _ _ => fun _ _ _ _ _ => none) (fun _ => fun _ _ _ _ _ => none) (fun _ => fun _ _ _ _ _ => none) (fun h sz bytes xs f => freshRow h sz bytes [] xs 0 f) (fun _ _ _ _ _ => none) (fun _ _ _ _ _ => none) (fun _ _ _ _ => fun _ _ _ _ _ => none) (fun b z off n cap => fun h sz bytes xs f => ifb (Nat.beq z sz) (appendRef h bytes b z off n cap xs f) none) (fun _ _ _ => fun _ _ _ _ _ => none) (fun _ _ => fun _ _ _ _ _ => none) (fun _ _ => fun _ _ _ _ _ => none) (fun _ _ => fun _ _ _ _ _ => none) (fun _ _ _ => fun _ _ _ _ _ => none) (fun _ => fun _ _ _ _ _ => none) (fun _ _ _ _ _ => none) (fun _ => fun _ _ _ _ _ => none) () (fun _ _ _ _ => ()) () (fun _ _ _ _ => ()) s)

def isSl (s : AV) : Bool := (@AV.rec (fun _ => Bool) (fun _ => Unit) (fun _ => Unit) (fun _ _ => false) (fun _ => false) (fun _ => false) (true) (false) (false) (fun _ _ _ _ => true) (fun _ _ _ _ _ => true) (fun _ _ _ => false) (fun _ _ => false) (fun _ _ => false) (fun _ _ => false) (fun _ _ _ => false) (fun _ => false) (false) (fun _ => false) () (fun _ _ _ _ => ()) () (fun _ _ _ _ => ()) s)

/-- append(s, xs...); the element type's size and bytes -/
def appendOp (h : Heap) (sz bytes : Nat) (s : AV) (xs : List Row) (f : K) : Option Fin2 :=
  @List.rec Row (fun _ => Option Fin2) (ifb (isSl s) (f s h) none) (fun _ _ _ => appendTo s h sz bytes xs f) xs

def copyOp (d : AV) : Heap → Nat → List Row → K → Option Fin2 := (@AV.rec (fun _ => Heap → Nat → List Row → K → Option Fin2) (fun _ => Unit) (fun _ => Unit) (fun _ _ => fun _ _ _ _ => none) (fun _ => fun _ _ _ _ => none) (fun _ => fun _ _ _ _ => none) (fun h _ _ f => f (mkInt .i64 0) h) (fun _ _ _ _ => none) (fun _ _ _ _ => none) (fun _ _ _ _ => fun _ _ _ _ => none) (fun b z off n _ => fun h sz xs f => ifb (Nat.beq z sz) (takeK xs n fun ys => ifb (Nat.beq (len ys) 0) (f (mkInt .i64 0) h)
      (writeRow h b off ys fun h => f (mkInt .i64 (.ofNat (len ys))) h)) none) (fun _ _ _ => fun _ _ _ _ => none) (fun _ _ => fun _ _ _ _ => none) (fun _ _ => fun _ _ _ _ => none) (fun _ _ => fun _ _ _ _ => none) (fun _ _ _ => fun _ _ _ _ => none) (fun _ => fun _ _ _ _ => none) (fun _ _ _ _ => none) (fun _ => fun _ _ _ _ => none) () (fun _ _ _ _ => ()) () (fun _ _ _ _ => ()) d)

def clearOp (d : AV) : Heap → Nat → Row → K → Option Fin2 := (@AV.rec (fun _ => Heap → Nat → Row → K → Option Fin2) (fun _ => Unit) (fun _ => Unit) (fun _ _ => fun _ _ _ _ => none) (fun _ => fun _ _ _ _ => none) (fun _ => fun _ _ _ _ => none) (fun h _ _ f => f (.tup []) h) (fun _ _ _ _ => none) (fun _ _ _ _ => none) (fun _ _ _ _ => fun _ _ _ _ => none) (fun b z off n _ => fun h sz zero f => ifb (Nat.beq z sz) (ifb (Nat.beq n 0) (f (.tup []) h)
      (repK zero n fun ys => writeRow h b off ys fun h => f (.tup []) h)) none) (fun _ _ _ => fun _ _ _ _ => none) (fun _ _ => fun _ _ _ _ => none) (fun _ _ => fun _ _ _ _ => none) (fun _ _ => fun _ _ _ _ => none) (fun _ _ _ => fun _ _ _ _ => none) (fun _ => fun _ _ _ _ => none) (fun _ _ _ _ => none) (fun _ => fun _ _ _ _ => none) () (fun _ _ _ _ => ()) () (fun _ _ _ _ => ()) d)

def fillFields (fs : List (Nat × Nat)) (l : List (Nat × AV)) (cells : Row) : Option AV :=
  @List.rec (Nat × AV) (fun _ => Row → Option AV) (fun cells => some (.agg cells))
    (fun p _ ih cells => @Prod.rec Nat AV (fun _ => Option AV) (fun f v => op2 (nth fs f) fun o n =>
      ifb (Nat.beq (len (cellsOf v)) n) (putAtK cells o (cellsOf v) ih) none) p) l cells

def fillElems (sz : Nat) (l : List (Nat × AV)) (els : List Row) : Option (List Row) :=
  @List.rec (Nat × AV) (fun _ => List Row → Option (List Row)) (fun els => some els)
    (fun p _ ih els => @Prod.rec Nat AV (fun _ => Option (List Row)) (fun f v =>
      ifb (band (Nat.beq (len (cellsOf v)) sz) (Nat.blt f (len els))) (setK els f (cellsOf v) ih) none) p) l els

def byteOf (r : Row) : Option Nat := ob (single r) fun v => op2 (toInt v) fun k n => ifb (Nat.beq (kindNum k) 4) (@Int.rec (fun _ => Option Nat) (fun n => ifb (Nat.ble n 255) (some n) none) (fun _ => none) n) none

def bytesOf (l : List Row) : Option (List Nat) :=
  @List.rec Row (fun _ => Option (List Nat)) (some []) (fun r _ ih => ob (byteOf r) fun n => ob ih fun l => some (n :: l)) l

def refOnly (x : AV) : Option Nat := (@AV.rec (fun _ => Option Nat) (fun _ => Unit) (fun _ => Unit) (fun _ _ => none) (fun _ => none) (fun _ => none) (none) (none) (none) (fun _ _ _ _ => none) (fun b z _ _ _ => ifb (Nat.beq z 1) (some b) none) (fun _ _ _ => none) (fun _ _ => none) (fun _ _ => none) (fun _ _ => none) (fun _ _ _ => none) (fun _ => none) (none) (fun _ => none) () (fun _ _ _ _ => ()) () (fun _ _ _ _ => ()) x)

/-- source's, target's description; are they one type? -/
def convTd (d : TD) : TD → Bool → AV → Heap → K → Option Fin2 := (@TD.rec (fun _ => TD → Bool → AV → Heap → K → Option Fin2) (fun _ _ _ _ _ => none) (fun k => fun _ _ x h f => op2 (toInt x) fun _ n => f (mkInt k (wrapF k n)) h) (fun s => (@TD.rec (fun _ => Bool → AV → Heap → K → Option Fin2) (fun _ _ _ _ => none) (fun _ => fun _ _ _ _ => none) (fun _ x h f => ob (toStr x) fun l => f (.str l) h) (fun _ _ _ u => fun _ x h f => ifb u (ob (elems x h 1) fun xs => ob (bytesOf xs) fun l => f (.str l) h) none) (fun _ => fun _ _ _ _ => none) (fun _ _ _ _ => none) (fun _ _ _ => fun _ _ _ _ => none) (fun _ _ _ _ => none) (fun _ _ _ _ => none) s)) (fun _ _ _ u => fun s => (@TD.rec (fun _ => Bool → AV → Heap → K → Option Fin2) (fun _ _ _ _ => none) (fun _ => fun _ _ _ _ => none) (fun _ x h f => ifb u (ob (toStr x) fun l => newBlk h ⟨l.map byteCell, true, 0⟩ fun b h => f (.ref b 1 0 (len l) none) h) none) (fun _ _ _ _ => fun same x h f => ifb (band u same) (ob (refOnly x) fun b => ob (h.get b) fun _ => f x h) none) (fun _ => fun _ _ _ _ => none) (fun _ _ _ _ => none) (fun _ _ _ => fun _ _ _ _ => none) (fun _ _ _ _ => none) (fun _ _ _ _ => none) s)) (fun _ => fun _ _ _ _ _ => none) (fun _ _ _ _ _ => none) (fun _ _ _ => fun _ _ _ _ _ => none) (fun _ _ _ _ _ => none) (fun _ _ _ _ _ => none) d)

def mm2 (mx : Bool) (x y : AV) : Option AV :=
  op2 (toInt x) fun j a => op2 (toInt y) fun k b => ifb (kindBeq j k) (some (.int j (ifb mx (ifb (intBlt a b) b a) (ifb (intBlt b a) b a)))) none

def two {β : Type} (l : List AV) (f : AV → AV → Option β) : Option β :=
  @List.rec AV (fun _ => Option β) none (fun x t _ => @List.rec AV (fun _ => Option β) none (fun y t _ => @List.rec AV (fun _ => Option β) (f x y) (fun _ _ _ => none) t) t) l

def sliceTd {β : Type} (i : TI) (f : Nat → Nat → Row → Option β) : Option β :=
  @TI.rec (fun _ => Option β) (fun td _ _ _ => (@TD.rec (fun _ => (Nat → Nat → Row → Option β) → Option β) (fun _ => none) (fun _ => fun _ => none) (fun _ => none) (fun sz bts z _ => fun f => f sz bts z) (fun _ => fun _ => none) (fun _ => none) (fun _ _ _ => fun _ => none) (fun _ => none) (fun _ => none) td) f) i

def headT {β : Type} (ts : List Nat) (f : Nat → Option β) : Option β := @List.rec Nat (fun _ => Option β) none (fun t _ _ => f t) ts

def headT2 {β : Type} (ts : List Nat) (f : Nat → Nat → Option β) : Option β := @List.rec Nat (fun _ => Option β) none (fun t r _ => headT r (f t)) ts
def lenTd (x : AV) (i : TI) : Bool := (@AV.rec (fun _ => Bool) (fun _ => Unit) (fun _ => Unit) (fun _ _ => isSliceTd i) (fun _ => isSliceTd i) (fun _ => isStrTd i) (isSliceTd i) (isSliceTd i) (isSliceTd i) (fun _ _ _ _ => isSliceTd i) (fun _ _ _ _ _ => isSliceTd i) (fun _ _ _ => isSliceTd i) (fun _ _ => isSliceTd i) (fun _ _ => isSliceTd i) (fun _ _ => isSliceTd i) (fun _ _ _ => isSliceTd i) (fun _ => isSliceTd i) (isSliceTd i) (fun _ => isStrTd i) () (fun _ _ _ _ => ()) () (fun _ _ _ _ => ()) x)
def lenSy (s : Sy) : Option AV := @Sy.rec (fun _ => Option AV) (fun _ _ _ _ => none)
  (fun pre i _ _ a b => forceNat (len pre) fun n => forceNat (i * 2 + 1) fun j => forceNat (n + a) fun lo => forceNat (n + b) fun hi => some (.sym (.int j (.ofNat n) (.ofNat lo) (.ofNat hi)))) s
def lenV (x : AV) : Option AV := (@AV.rec (fun _ => Option AV) (fun _ => Unit) (fun _ => Unit) (fun _ _ => ob (lenOf x) fun n => some (mkInt .i64 (.ofNat n))) (fun _ => ob (lenOf x) fun n => some (mkInt .i64 (.ofNat n))) (fun _ => ob (lenOf x) fun n => some (mkInt .i64 (.ofNat n))) (ob (lenOf x) fun n => some (mkInt .i64 (.ofNat n))) (ob (lenOf x) fun n => some (mkInt .i64 (.ofNat n))) (ob (lenOf x) fun n => some (mkInt .i64 (.ofNat n))) (fun _ _ _ _ => ob (lenOf x) fun n => some (mkInt .i64 (.ofNat n))) (fun _ _ _ _ _ => ob (lenOf x) fun n => some (mkInt .i64 (.ofNat n))) (fun _ _ _ => ob (lenOf x) fun n => some (mkInt .i64 (.ofNat n))) (fun _ _ => ob (lenOf x) fun n => some (mkInt .i64 (.ofNat n))) (fun _ _ => ob (lenOf x) fun n => some (mkInt .i64 (.ofNat n))) (fun _ _ => ob (lenOf x) fun n => some (mkInt .i64 (.ofNat n))) (fun _ _ _ => ob (lenOf x) fun n => some (mkInt .i64 (.ofNat n))) (fun _ => ob (lenOf x) fun n => some (mkInt .i64 (.ofNat n))) (ob (lenOf x) fun n => some (mkInt .i64 (.ofNat n))) (fun s => lenSy s) () (fun _ _ _ _ => ()) () (fun _ _ _ _ => ()) x)

def builtinOp (b : Builtin) : List Nat → Env → List AV → Heap → K → Option Fin2 := (@Builtin.rec (fun _ => List Nat → Env → List AV → Heap → K → Option Fin2) (fun ts E vs h f => headT2 ts fun t u => ob (E.T t) fun i => ob (E.T u) fun j => ifb (bor (isSliceTd j) (isStrTd j)) (sliceTd i fun sz bytes _ => two vs fun s x => ob (elems x h sz) fun xs => appendOp h sz bytes s xs f) none) (fun _ _ _ _ _ => none) (fun ts E vs h f => headT ts fun t => ob (E.T t) fun i => sliceTd i fun sz _ zero => ob (single vs) fun d => clearOp d h sz zero f) (fun _ _ _ _ _ => none) (fun _ _ _ _ _ => none) (fun ts E vs h f => headT ts fun t => ob (E.T t) fun i => sliceTd i fun sz _ _ => two vs fun d x => ob (elems x h sz) fun xs => copyOp d h sz xs f) (fun _ _ _ _ _ => none) (fun _ _ _ _ _ => none) (fun ts E vs h f => headT ts fun t => ob (E.T t) fun i => ob (single vs) fun x => ob (lenV x) fun v => ifb (lenTd x i) (f v h) none) (fun _ _ _ _ _ => none) (fun _ _ vs h f => ob (two vs (mm2 true)) fun v => f v h) (fun _ _ vs h f => ob (two vs (mm2 false)) fun v => f v h) (fun _ _ _ _ _ => none) (fun _ _ _ _ _ => none) (fun _ _ _ _ _ => none) (fun _ _ _ _ _ => none) (fun _ _ _ _ _ => none) (fun _ _ _ _ _ => none) (fun _ _ _ _ _ => none) (fun _ _ _ _ _ => none) (fun _ _ _ _ _ => none) (fun _ _ _ _ _ => none) (fun _ _ _ _ _ => none) (fun _ _ _ _ _ => none) (fun _ _ _ _ _ => none) (fun _ _ _ _ _ => none) b)

def mapFind (l : List (AV × AV)) (x : AV) : Option (Option AV) :=
  @List.rec (AV × AV) (fun _ => Option (Option AV)) (some none) (fun p _ ih => ob (cellEq p.1 x) fun b => ifb b (some (some p.2)) ih) l

inductive Ex where
  | nm | ex (id : Nat) | rt

structure Out where
  ex : Ex
  env : Regs
  heap : Heap

abbrev Rec := (hint : Hint) → Code → Regs → Heap → Option Out

def mapOpt (f : AV → Option (AV × List Nat)) (l : Row) : Option (Row × List Nat) :=
  @List.rec AV (fun _ => Option (Row × List Nat)) (some ([], [])) (fun x _ ih => op2 (f x) fun y bs => op2 ih fun r cs => appK bs cs fun bs => some (y :: r, bs)) l

def mapRows (f : AV → Option (AV × List Nat)) (l : List Row) : Option (List Row × List Nat) :=
  @List.rec Row (fun _ => Option (List Row × List Nat)) (some ([], [])) (fun x _ ih => op2 (mapOpt f x) fun y bs => op2 ih fun r cs => appK bs cs fun bs => some (y :: r, bs)) l

def resolve1 (v : AV) : Heap → (AV → Option (AV × List Nat)) → Option (AV × List Nat) := (@AV.rec (fun _ => Heap → (AV → Option (AV × List Nat)) → Option (AV × List Nat)) (fun _ => Unit) (fun _ => Unit) (fun k n => fun _ _ => some (.int k n, [])) (fun b => fun _ _ => some (.bool b, [])) (fun l => fun _ _ => some (.str l, [])) (fun _ _ => some (.nil, [])) (fun _ _ => some (.nilp, [])) (fun _ _ => some (.nilf, [])) (fun nn z xs _ => fun _ _ => some (.sl nn z xs, [])) (fun b z off n _ => fun h rec => ifb (Nat.beq n 0) (some (.sl true z [], [])) (ob (elemsRef h b off n) fun xs => op2 (mapRows rec xs) fun ys bs => some (.sl true z ys, b :: bs))) (fun _ _ _ => fun _ _ => none) (fun _ _ => fun _ _ => none) (fun cs _ => fun _ rec => op2 (mapOpt rec cs) fun ds bs => some (.agg ds, bs)) (fun cs _ => fun _ rec => op2 (mapOpt rec cs) fun ds bs => some (.tup ds, bs)) (fun _ _ _ => fun _ _ => none) (fun _ => fun _ _ => none) (fun _ _ => none) (fun s => fun _ _ => some (.sym s, [])) () (fun _ _ _ _ => ()) () (fun _ _ _ _ => ()) v)

/-- a result as a value that refers to no block; the blocks that it comes from -/
def resolve (h : Heap) (n : Nat) : AV → Option (AV × List Nat) :=
  @Nat.rec (fun _ => AV → Option (AV × List Nat)) (fun _ => none) (fun _ ih v => resolve1 v h ih) n

def freezeBlk (k : Blk) : Blk := @Blk.rec (fun _ => Blk) (fun els grow fz => forceNat (len els) fun n => ⟨els, grow, ifb (Nat.ble fz n) n fz⟩) k

def freeze (l : List Nat) (blks : AL Blk) : AL Blk :=
  @List.rec Nat (fun _ => AL Blk → AL Blk) (fun bs => bs)
    (fun b _ ih bs => @Option.rec Blk (fun _ => AL Blk) (ih bs) (fun k => updK bs b (freezeBlk k) ih) (lk bs b)) l blks

def keeps (keep d : Nat) : Bool := Nat.beq (Nat.mod (Nat.shiftRight keep d) 2) 1

def args0 (keep : Nat) (l : List AV) : Nat → Regs :=
  @List.rec AV (fun _ => Nat → Regs) (fun _ => .nil) (fun x _ ih n => ifb (keeps keep n) (.cons n x (ih (Nat.succ n))) (ih (Nat.succ n))) l

def resVal (r : ResultVar) : Env → Heap → Regs → Option AV :=
  @ResultVar.rec (fun _ => Env → Heap → Regs → Option AV) (fun t _ _ env => lk env t) (fun t ty E h env => ob (lk env t) fun p => ob (E.T ty) fun i => loadOp p h i) r

def resVals (l : List ResultVar) (E : Env) (h : Heap) (env : Regs) : Option (List AV) :=
  @List.rec ResultVar (fun _ => Option (List AV)) (some []) (fun r _ ih => ob (resVal r E h env) fun v => ob ih fun r => some (v :: r)) l

def one (l : List AV) : AV := @List.rec AV (fun _ => AV) (.tup []) (fun v t _ => @List.rec AV (fun _ => AV) v (fun _ _ _ => .tup l) t) l

/-- slices.Insert ahead of the end: where the row is put -/
def insertIn (v : AV) : Heap → Nat → Nat → List Row → K → Option Fin2 := (@AV.rec (fun _ => Heap → Nat → Nat → List Row → K → Option Fin2) (fun _ => Unit) (fun _ => Unit) (fun _ _ => fun _ _ _ _ _ => none) (fun _ => fun _ _ _ _ _ => none) (fun _ => fun _ _ _ _ _ => none) (fun _ _ _ _ _ => none) (fun _ _ _ _ _ => none) (fun _ _ _ _ _ => none) (fun _ _ _ _ => fun _ _ _ _ _ => none) (fun b _ off m cap => fun h z bx all f => @Option.rec Nat (fun _ => Option Fin2)
      (openBlk h b fun els _ fz => ifb (band (bnot (Nat.beq bx b)) (band (Nat.beq fz 0) (Nat.beq (off + m) (len els))))
          (killBlk h b fun h => newBlk h ⟨all, true, 0⟩ fun b h => f (.ref b z 0 (len all) none) h) none)
      (fun _ => none) cap) (fun _ _ _ => fun _ _ _ _ _ => none) (fun _ _ => fun _ _ _ _ _ => none) (fun _ _ => fun _ _ _ _ _ => none) (fun _ _ => fun _ _ _ _ _ => none) (fun _ _ _ => fun _ _ _ _ _ => none) (fun _ => fun _ _ _ _ _ => none) (fun _ _ _ _ _ => none) (fun _ => fun _ _ _ _ _ => none) () (fun _ _ _ _ => ()) () (fun _ _ _ _ => ()) v)

def insertAll (h : Heap) (v : AV) (z bytes i bx : Nat) (xs olds : List Row) (f : K) : Option Fin2 :=
  ifb (Nat.beq i (len olds)) (appendOp h z bytes v xs f)
    (ifb (Nat.blt i (len olds))
      (takeK olds i fun a => appK xs (dropL olds i) fun c => appK a c fun all => ifb (Nat.ble (len all * bytes) 140737488355328) (insertIn v h z bx all f) none) none)

def refB (x : AV) : Option Nat := (@AV.rec (fun _ => Option Nat) (fun _ => Unit) (fun _ => Unit) (fun _ _ => none) (fun _ => none) (fun _ => none) (none) (none) (none) (fun _ _ _ _ => none) (fun b _ _ n _ => ifb (Nat.beq n 1) (some b) none) (fun _ _ _ => none) (fun _ _ => none) (fun _ _ => none) (fun _ _ => none) (fun _ _ _ => none) (fun _ => none) (none) (fun _ => none) () (fun _ _ _ _ => ()) () (fun _ _ _ _ => ()) x)
def natI (x : AV) : Option Nat := op2 (toInt x) fun k _ => ifb (kindBeq k .i64) (natOf x) none

def insert3 (z bytes : Nat) (h : Heap) (v i x : AV) (f : K) : Option Fin2 :=
  ob (natI i) fun i => ob (refB x) fun bx => ob (elems x h z) fun xs => ob (elems v h z) fun olds => insertAll h v z bytes i bx xs olds f

def insertOp (zb : Nat × Nat) (h : Heap) (l : List AV) (f : K) : Option Fin2 :=
  @Prod.rec Nat Nat (fun _ => Option Fin2) (fun z bytes => @List.rec AV (fun _ => Option Fin2) none (fun v t _ => two t fun i x => insert3 z bytes h v i x f) l) zb

def closeResult (own : Bool) (start : Nat) (h : Heap) (v : AV) (f : K) : Option Fin2 :=
  ifb own (f v h) (op2 (resolve h 30 v) fun v bs => @Heap.rec (fun _ => Option Fin2) (fun next blks maps mark log => f v ⟨next, freeze bs (dropFrom start blks), dropFrom start maps, mark, log⟩) h)

def isEx (e : Ex) : Bool := @Ex.rec (fun _ => Bool) false (fun _ => true) false e

def callBody (c : Code) (rs : List ResultVar) (hint : Hint) (own : Bool) (E : Env) (rec : Rec) (args : List AV) (h : Heap) (f : K) : Option Fin2 :=
  ob (rec hint c (args0 hint.keep args 0) h) fun o => @Out.rec (fun _ => Option Fin2) (fun e env h' => ifb (isEx e) none (ob (resVals rs E h' env) fun vs => closeResult own h.next h' (one vs) f)) o

def callIn (g : Nat) (E : Env) (rec : Rec) (args : List AV) (h : Heap) (f : K) : Option Fin2 :=
  ob (E.G g) fun fn => ob fn.body fun c => ob (E.hint g) fun hint => callBody c fn.results.toList hint (E.own g) E rec args h f

/-- what is known of a function at these arguments -/
def known (φ : List AV → Option AV) (args : List AV) (h : Heap) : Option (AV × Heap) :=
  op2 (mapOpt (resolve h 30) args) fun as bs => ob (φ as) fun v => @Heap.rec (fun _ => Option (AV × Heap)) (fun next blks maps mark log => some (v, ⟨next, freeze bs blks, maps, mark, log⟩)) h

def callOrc (φ : List AV → Option AV) (g : Nat) (E : Env) (rec : Rec) (args : List AV) (h : Heap) (f : K) : Option Fin2 :=
  @Option.rec (AV × Heap) (fun _ => Option Fin2) (callIn g E rec args h f) (fun p => @Prod.rec AV Heap (fun _ => Option Fin2) f p) (known φ args h)

def callF (g : Nat) (E : Env) (rec : Rec) (args : List AV) (h : Heap) (f : K) : Option Fin2 :=
  @Option.rec (Nat × Nat) (fun _ => Option Fin2)
    (@Option.rec (List AV → Option AV) (fun _ => Option Fin2) (callIn g E rec args h f) (fun φ => callOrc φ g E rec args h f) (E.orc g))
    (fun zb => insertOp zb h args f) (E.ins g)

def callClo (v : AV) : Env → Rec → List AV → Heap → K → Option Fin2 := (@AV.rec (fun _ => Env → Rec → List AV → Heap → K → Option Fin2) (fun _ => Unit) (fun _ => Unit) (fun _ _ => fun _ _ _ _ _ => none) (fun _ => fun _ _ _ _ _ => none) (fun _ => fun _ _ _ _ _ => none) (fun _ _ _ _ _ => none) (fun _ _ _ _ _ => none) (fun _ _ _ _ _ => none) (fun _ _ _ _ => fun _ _ _ _ _ => none) (fun _ _ _ _ _ => fun _ _ _ _ _ => none) (fun _ _ _ => fun _ _ _ _ _ => none) (fun _ _ => fun _ _ _ _ _ => none) (fun _ _ => fun _ _ _ _ _ => none) (fun _ _ => fun _ _ _ _ _ => none) (fun g caps _ => fun E rec vs h f => appK vs caps fun vs => callF g E rec vs h f) (fun _ => fun _ _ _ _ _ => none) (fun _ _ _ _ _ => none) (fun _ => fun _ _ _ _ _ => none) () (fun _ _ _ _ => ()) () (fun _ _ _ _ => ()) v)

abbrev Dyn := Env → Rec → Regs → Regs → Heap → K → Option Fin2

def evMove (x : Operand) : Dyn := fun _ _ loc env h f => ob (opv x loc env) fun v => f v h

def evPick (c a b : Operand) : Dyn := fun _ _ loc env h f =>
  ob (opv c loc env) fun v => ob (toBool v) fun t => ifb t (ob (opv a loc env) fun v => f v h) (ob (opv b loc env) fun v => f v h)

def evAlloc (e : Nat) : Dyn := fun E _ _ _ h f => ob (E.T e) fun i => newBlk h ⟨[i.zero], false, 0⟩ fun b h => f (.ptr b 0 0) h

def evBox (e : Nat) (x : Operand) : Dyn := fun E _ loc env h f =>
  ob (E.T e) fun i => ob (opv x loc env) fun v => ifb (Nat.beq (len (cellsOf v)) i.size) (newBlk h ⟨[cellsOf v], false, 0⟩ fun b h => f (.ptr b 0 0) h) none

def evBuild (t : Nat) (ps : Array (Nat × Operand)) : Dyn := fun E _ loc env h f =>
  ob (E.T t) fun i => ob (opvParts ps.toList loc env) fun vs => ob (fieldsOf i) fun fs => ob (fillFields fs vs i.zero) fun v => f v h

def evBuildSlice (t n : Nat) (ps : Array (Nat × Operand)) : Dyn := fun E _ loc env h f =>
  ob (E.T t) fun i => sliceTd i fun sz _ zero => ob (opvParts ps.toList loc env) fun vs => repK zero n fun z => ob (fillElems sz vs z) fun els =>
    ifb (Nat.ble (n * sz) 16777216) (newBlk h ⟨els, false, 0⟩ fun b h => f (.ref b sz 0 n (some n)) h) none

def evLoad (t : Nat) (a : Operand) : Dyn := fun E _ loc env h f =>
  ob (E.T t) fun i => ob (opv a loc env) fun p => ob (loadOp p h i) fun v => f v h

def evStore (t : Nat) (a x : Operand) : Dyn := fun E _ loc env h f =>
  ob (E.T t) fun i => ob (opv a loc env) fun p => ob (opv x loc env) fun v => storeOp p h i v fun h => f (.tup []) h

def evBin (op : BinOp) (t : Nat) (x y : Operand) : Dyn := fun E _ loc env h f =>
  ob (opv x loc env) fun a => ob (opv y loc env) fun b => ob (binop3 a op b (E.T t)) fun v => f v h

def evUn (op : UnOp) (x : Operand) : Dyn := fun _ _ loc env h f => ob (opv x loc env) fun a => ob (unop op a) fun v => f v h

def evConv (s d : Nat) (x : Operand) : Dyn := fun E _ loc env h f =>
  ob (opv x loc env) fun a => ob (E.T s) fun si => ob (E.T d) fun di => convTd di.td si.td (Nat.beq s d) a h f

def isEmpty {α : Type} (l : List α) : Bool := @List.rec α (fun _ => Bool) true (fun _ _ _ => false) l

def evMakeFunc (fn : Fn) (fs caps : Array Operand) : Dyn := fun _ _ loc env h f =>
  @Fn.rec (fun _ => Option Fin2) (fun g => ifb (isEmpty fs.toList) (ob (opvs caps.toList loc env) fun vs => f (.clo g vs) h) none) (fun _ => none) (fun _ _ => none) (fun _ _ _ _ => none) (fun _ => none) fn

def evMakeSlice (t : Nat) (l c : Operand) : Dyn := fun E _ loc env h f =>
  ob (E.T t) fun i => sliceTd i fun sz bytes zero => ob (opv l loc env) fun a => ob (opv c loc env) fun b => ob (natOf a) fun n => ob (natOf b) fun m =>
    ifb (band (Nat.beq n m) (Nat.ble (n * bytes) 140737488355328)) (repK zero n fun els => newBlk h ⟨els, false, 0⟩ fun b h => f (.ref b sz 0 n (some n)) h) none

def bound (o : Option Operand) (loc env : Regs) : Option (Option Nat) :=
  @Option.rec Operand (fun _ => Option (Option Nat)) (some none) (fun a => ob (opv a loc env) fun w => ob (natOf w) fun n => some (some n)) o

/-- a slice with a room of its own: what it is is not said -/
def slice3Op (v : AV) : TI → Nat → Nat → Nat → Heap → K → Option Fin2 := (@AV.rec (fun _ => TI → Nat → Nat → Nat → Heap → K → Option Fin2) (fun _ => Unit) (fun _ => Unit) (fun _ _ => fun _ _ _ _ _ _ => none) (fun _ => fun _ _ _ _ _ _ => none) (fun _ => fun _ _ _ _ _ _ => none) (fun _ _ _ _ _ _ => none) (fun _ _ _ _ _ _ => none) (fun _ _ _ _ _ _ => none) (fun _ _ _ _ => fun _ _ _ _ _ _ => none) (fun _ _ _ n _ => fun i a b c h f => ifb (band (isSliceTd i) (band (Nat.ble a b) (band (Nat.ble b c) (Nat.ble c n)))) (f .bad h) none) (fun _ _ _ => fun _ _ _ _ _ _ => none) (fun _ _ => fun _ _ _ _ _ _ => none) (fun _ _ => fun _ _ _ _ _ _ => none) (fun _ _ => fun _ _ _ _ _ _ => none) (fun _ _ _ => fun _ _ _ _ _ _ => none) (fun _ => fun _ _ _ _ _ _ => none) (fun _ _ _ _ _ _ => none) (fun _ => fun _ _ _ _ _ _ => none) () (fun _ _ _ _ => ()) () (fun _ _ _ _ => ()) v)

def evSlice (t : Nat) (x : Operand) (lo hi mx : Option Operand) : Dyn := fun E _ loc env h f =>
  @Option.rec Operand (fun _ => Option Fin2)
    (ob (E.T t) fun i => ob (opv x loc env) fun v => ob (bound lo loc env) fun a => ob (bound hi loc env) fun b => ob (sliceOp v i h a b) fun v => f v h)
    (fun m => ob (E.T t) fun i => ob (opv x loc env) fun v => ob (bound lo loc env) fun a => ob (bound hi loc env) fun b => ob (opv m loc env) fun mv => ob (natOf mv) fun c => ob b fun b => slice3Op v i (orElse a 0) b c h f) mx

def evFieldAddr (s : Nat) (x : Operand) (n : Nat) : Dyn := fun E _ loc env h f =>
  ob (E.T s) fun i => ob (opv x loc env) fun p => ob (fieldAddrOp i n p) fun v => f v h

def oneOf (l : Row) : AV := @List.rec AV (fun _ => AV) (.agg []) (fun v t _ => @List.rec AV (fun _ => AV) v (fun _ _ _ => .agg l) t) l

def evField (t : Nat) (x : Operand) (n : Nat) : Dyn := fun E _ loc env h f =>
  ob (E.T t) fun i => ob (opv x loc env) fun v => ob (toAgg v) fun cs => ob (fieldsOf i) fun fs => op2 (nth fs n) fun o m => takeK (dropL cs o) m fun ds => ifb (Nat.beq (len ds) m) (f (oneOf ds) h) none

def evIndexAddr (t : Nat) (x n : Operand) : Dyn := fun E _ loc env h f =>
  ob (E.T t) fun i => sliceTd i fun sz _ _ => ob (opv x loc env) fun v => ob (opv n loc env) fun w => ob (natOf w) fun m => ob (indexAddrOp v sz m) fun v => f v h

def evIndex (t : Nat) (x n : Operand) : Dyn := fun E _ loc env h f =>
  ob (E.T t) fun i => ifb (isStrTd i) (ob (opv x loc env) fun v => ob (opv n loc env) fun w => ob (natOf w) fun m => ob (toStr v) fun l => ob (nth l m) fun c => f (.int .u8 (.ofNat c)) h) none

def evExtract (t : Operand) (n : Nat) : Dyn := fun _ _ loc env h f =>
  ob (opv t loc env) fun v => ob (toTup v) fun vs => ob (nth vs n) fun v => f v h

def isMapTd (i : TI) : Bool := @TI.rec (fun _ => Bool) (fun td _ _ _ => (@TD.rec (fun _ => Bool) (false) (fun _ => false) (false) (fun _ _ _ _ => false) (fun _ => false) (false) (fun _ _ _ => true) (false) (false) td)) i

def evMakeMap (r : Option Operand) : Dyn := fun _ _ _ _ h f =>
  @Option.rec Operand (fun _ => Option Fin2) (@Heap.rec (fun _ => Option Fin2) (fun next blks maps mark log => forceNat (Nat.succ next) fun n => f (.mp next) ⟨n, blks, AL.cons next [] maps, mark, log⟩) h) (fun _ => none) r

def evInsert (t : Nat) (m k x : Operand) : Dyn := fun E _ loc env h f =>
  ob (E.T t) fun i => ifb (isMapTd i) (ob (opv m loc env) fun mv => ob (opv k loc env) fun kv => ob (opv x loc env) fun v => ob (toMp mv) fun b => op2 (toInt kv) fun _ _ =>
    @Heap.rec (fun _ => Option Fin2) (fun next blks maps mark log => ob (lk maps b) fun l => ob (mapFind l kv) fun r => @Option.rec AV (fun _ => Option Fin2)
      (appK l [(kv, v)] fun l => updK maps b l fun maps => f (.tup []) ⟨next, blks, maps, mark, log⟩) (fun _ => none) r) h) none

def mapZero (i : TI) : Option AV := @TI.rec (fun _ => Option AV) (fun td _ _ _ => (@TD.rec (fun _ => Option AV) (none) (fun _ => none) (none) (fun _ _ _ _ => none) (fun _ => none) (none) (fun _ b z => ifb b none (single z)) (none) (none) td)) i

def evLookup (t : Nat) (m k : Operand) (ok : Bool) : Dyn := fun E _ loc env h f =>
  ob (E.T t) fun i => ob (opv m loc env) fun mv => ob (opv k loc env) fun kv => ob (toMp mv) fun b => op2 (toInt kv) fun _ _ => ob (mapZero i) fun z => ob (lk h.maps b) fun l => ob (mapFind l kv) fun r =>
    @Option.rec AV (fun _ => Option Fin2) (f (ifb ok (.tup [z, .bool false]) z) h) (fun v => f (ifb ok (.tup [v, .bool true]) v) h) r

def evCall (c : Call) : Dyn := fun E rec loc env h f =>
  @Call.rec (fun _ => Option Fin2) (fun cal args ts => @Callee.rec (fun _ => Option Fin2)
    (fun g => ob (opv g loc env) fun v => ob (opvs args.toList loc env) fun vs => callClo v E rec vs h f)
    (fun _ _ => none)
    (fun b => ob (opvs args.toList loc env) fun vs => builtinOp b ts.toList E vs h f) cal) c

def noOp : Dyn := fun _ _ _ _ _ _ => none

/-- an operation -/
def evOp (op : Op) : Dyn := (@Op.rec (fun _ => Dyn) (fun x => evMove x) (fun x => evMove x) (fun c a b => evPick c a b) (fun e => evAlloc e) (fun e v => evBox e v) (fun t ps => evBuild t ps) (fun t n ps => evBuildSlice t n ps) (fun t m k v => evInsert t m k v) (fun t a => evLoad t a) (fun t a v => evStore t a v) (fun _ => noOp) (fun _ => noOp) (fun _ => noOp) (fun op t x y _ => evBin op t x y) (fun op _ x => evUn op x) (fun s d x => evConv s d x) (fun _ _ => noOp) (fun _ _ => noOp) (fun fn fs cs => evMakeFunc fn fs cs) (fun _ r => evMakeMap r) (fun _ _ => noOp) (fun t l c => evMakeSlice t l c) (fun t x lo hi mx => evSlice t x lo hi mx) (fun t x n => evFieldAddr t x n) (fun t x n => evField t x n) (fun t x i => evIndexAddr t x i) (fun t x i => evIndex t x i) (fun t m k ok => evLookup t m k ok) (fun _ _ _ _ => noOp) (fun _ _ _ => noOp) (fun _ _ _ _ => noOp) (fun _ _ => noOp) (fun _ _ => noOp) (fun _ => noOp) (fun _ _ _ _ => noOp) (fun t n => evExtract t n) (fun c => evCall c) (fun _ => noOp) (fun _ => noOp) (fun _ => noOp) (fun _ _ => noOp) (fun _ _ _ => noOp) (fun _ _ => noOp) op)

def guardVal (v : AV) : Bool → Option Bool := (@AV.rec (fun _ => Bool → Option Bool) (fun _ => Unit) (fun _ => Unit) (fun _ _ => fun _ => none) (fun b => fun w => some (boolBeq b w)) (fun _ => fun _ => none) (fun _ => none) (fun _ => none) (fun _ => none) (fun _ _ _ _ => fun _ => none) (fun _ _ _ _ _ => fun _ => none) (fun _ _ _ => fun _ => none) (fun _ _ => fun _ => none) (fun _ _ => fun _ => none) (fun cs _ => fun _ => @List.rec AV (fun _ => Option Bool) (some false) (fun _ _ _ => none) cs) (fun _ _ _ => fun _ => none) (fun _ => fun _ => none) (fun _ => none) (fun _ => fun _ => none) () (fun _ _ _ _ => ()) () (fun _ _ _ _ => ()) v)

def wantedB (g : Option (Nat × Bool)) (all : List Oper) (loc env : Regs) : Option Bool :=
  @Option.rec (Nat × Bool) (fun _ => Option Bool) (some true) (fun p => @Prod.rec Nat Bool (fun _ => Option Bool) (fun j w => ob (nth all j) fun o => ob o.dst fun d => ob (lk2 loc env d) fun v => guardVal v w) p) g

def setReg (d : Option Nat) (keep : Nat) (loc env : Regs) (v : AV) (f : Regs → Regs → Option Fin2) : Option Fin2 :=
  @Option.rec Nat (fun _ => Option Fin2) (f loc env) (fun d => ifb (keeps keep d) (putK env d v fun env => f loc env) (f (.cons d v loc) env)) d

abbrev Nx := Regs → Regs → Heap → Option Fin2

def evOper (all : List Oper) (o : Oper) (E : Env) (rec : Rec) (keep : Nat) (next : Nx) : Nx := fun loc env h =>
  @Oper.rec (fun _ => Option Fin2) (fun dst op _ _ _ g =>
    ob (wantedB g all loc env) fun b =>
      ifb b (evOp op E rec loc env h fun v h => setReg dst keep loc env v fun loc env => next loc env h)
        (setReg dst keep loc env (.tup []) fun loc env => next loc env h)) o

def evOps (all : List Oper) (l : List Oper) (E : Env) (rec : Rec) (keep : Nat) : Nx :=
  @List.rec Oper (fun _ => Nx) (fun _ env h => some (env, h)) (fun o _ ih => evOper all o E rec keep ih) l

/-! regions that draw their order -/
def sub (rd : List Nat) (loc env : Regs) : Regs :=
  @List.rec Nat (fun _ => Regs) .nil (fun t _ ih => @Option.rec AV (fun _ => Regs) ih (fun v => .cons t v ih) (lk2 loc env t)) rd

def optStrBeq (x y : Option (List Nat)) : Bool := @Option.rec (List Nat) (fun _ => Bool) (@Option.rec (List Nat) (fun _ => Bool) true (fun _ => false) y) (fun a => @Option.rec (List Nat) (fun _ => Bool) false (fun b => listBeq a b) y) x
def syBeq (s t : Sy) : Bool := @Sy.rec (fun _ => Bool)
  (fun i o lo hi => @Sy.rec (fun _ => Bool) (fun j p l h => ifb (Nat.beq i j) (ifb (intBeq o p) (ifb (intBeq lo l) (intBeq hi h) false) false) false) (fun _ _ _ _ _ _ => false) t)
  (fun pre i lo hi a b => @Sy.rec (fun _ => Bool) (fun _ _ _ _ => false) (fun qre j l h c d => ifb (listBeq pre qre) (ifb (Nat.beq i j) (ifb (optStrBeq lo l) (ifb (optStrBeq hi h) (ifb (Nat.beq a c) (Nat.beq b d) false) false) false) false) false) t) s

def eqAV (x : AV) : AV → Bool :=
  @AV.rec (fun _ => AV → Bool) (fun _ => List (List AV) → Bool) (fun _ => List AV → Bool)
    (fun k n y => (@AV.rec (fun _ => Bool) (fun _ => Unit) (fun _ => Unit) (fun j m => ifb (kindBeq k j) (intBeq n m) false) (fun _ => false) (fun _ => false) (false) (false) (false) (fun _ _ _ _ => false) (fun _ _ _ _ _ => false) (fun _ _ _ => false) (fun _ _ => false) (fun _ _ => false) (fun _ _ => false) (fun _ _ _ => false) (fun _ => false) (false) (fun _ => false) () (fun _ _ _ _ => ()) () (fun _ _ _ _ => ()) y))
    (fun b y => (@AV.rec (fun _ => Bool) (fun _ => Unit) (fun _ => Unit) (fun _ _ => false) (fun c => boolBeq b c) (fun _ => false) (false) (false) (false) (fun _ _ _ _ => false) (fun _ _ _ _ _ => false) (fun _ _ _ => false) (fun _ _ => false) (fun _ _ => false) (fun _ _ => false) (fun _ _ _ => false) (fun _ => false) (false) (fun _ => false) () (fun _ _ _ _ => ()) () (fun _ _ _ _ => ()) y))
    (fun l y => (@AV.rec (fun _ => Bool) (fun _ => Unit) (fun _ => Unit) (fun _ _ => false) (fun _ => false) (fun m => listBeq l m) (false) (false) (false) (fun _ _ _ _ => false) (fun _ _ _ _ _ => false) (fun _ _ _ => false) (fun _ _ => false) (fun _ _ => false) (fun _ _ => false) (fun _ _ _ => false) (fun _ => false) (false) (fun _ => false) () (fun _ _ _ _ => ()) () (fun _ _ _ _ => ()) y))
    (fun y => (@AV.rec (fun _ => Bool) (fun _ => Unit) (fun _ => Unit) (fun _ _ => false) (fun _ => false) (fun _ => false) (true) (false) (false) (fun _ _ _ _ => false) (fun _ _ _ _ _ => false) (fun _ _ _ => false) (fun _ _ => false) (fun _ _ => false) (fun _ _ => false) (fun _ _ _ => false) (fun _ => false) (false) (fun _ => false) () (fun _ _ _ _ => ()) () (fun _ _ _ _ => ()) y))
    (fun y => (@AV.rec (fun _ => Bool) (fun _ => Unit) (fun _ => Unit) (fun _ _ => false) (fun _ => false) (fun _ => false) (false) (true) (false) (fun _ _ _ _ => false) (fun _ _ _ _ _ => false) (fun _ _ _ => false) (fun _ _ => false) (fun _ _ => false) (fun _ _ => false) (fun _ _ _ => false) (fun _ => false) (false) (fun _ => false) () (fun _ _ _ _ => ()) () (fun _ _ _ _ => ()) y))
    (fun y => (@AV.rec (fun _ => Bool) (fun _ => Unit) (fun _ => Unit) (fun _ _ => false) (fun _ => false) (fun _ => false) (false) (false) (true) (fun _ _ _ _ => false) (fun _ _ _ _ _ => false) (fun _ _ _ => false) (fun _ _ => false) (fun _ _ => false) (fun _ _ => false) (fun _ _ _ => false) (fun _ => false) (false) (fun _ => false) () (fun _ _ _ _ => ()) () (fun _ _ _ _ => ()) y))
    (fun nn z _ ih y => (@AV.rec (fun _ => Bool) (fun _ => Unit) (fun _ => Unit) (fun _ _ => false) (fun _ => false) (fun _ => false) (false) (false) (false) (fun mm w ys _ => ifb (boolBeq nn mm) (ifb (Nat.beq z w) (ih ys) false) false) (fun _ _ _ _ _ => false) (fun _ _ _ => false) (fun _ _ => false) (fun _ _ => false) (fun _ _ => false) (fun _ _ _ => false) (fun _ => false) (false) (fun _ => false) () (fun _ _ _ _ => ()) () (fun _ _ _ _ => ()) y))
    (fun b z off n cap y => (@AV.rec (fun _ => Bool) (fun _ => Unit) (fun _ => Unit) (fun _ _ => false) (fun _ => false) (fun _ => false) (false) (false) (false) (fun _ _ _ _ => false) (fun c w o m dd => ifb (Nat.beq b c) (ifb (Nat.beq z w) (ifb (Nat.beq off o) (ifb (Nat.beq n m) (@Option.rec Nat (fun _ => Bool) (@Option.rec Nat (fun _ => Bool) true (fun _ => false) dd) (fun p => @Option.rec Nat (fun _ => Bool) false (fun q => Nat.beq p q) dd) cap) false) false) false) false) (fun _ _ _ => false) (fun _ _ => false) (fun _ _ => false) (fun _ _ => false) (fun _ _ _ => false) (fun _ => false) (false) (fun _ => false) () (fun _ _ _ _ => ()) () (fun _ _ _ _ => ()) y))
    (fun b i j y => (@AV.rec (fun _ => Bool) (fun _ => Unit) (fun _ => Unit) (fun _ _ => false) (fun _ => false) (fun _ => false) (false) (false) (false) (fun _ _ _ _ => false) (fun _ _ _ _ _ => false) (fun c k l => ifb (Nat.beq b c) (ifb (Nat.beq i k) (Nat.beq j l) false) false) (fun _ _ => false) (fun _ _ => false) (fun _ _ => false) (fun _ _ _ => false) (fun _ => false) (false) (fun _ => false) () (fun _ _ _ _ => ()) () (fun _ _ _ _ => ()) y))
    (fun _ ih y => (@AV.rec (fun _ => Bool) (fun _ => Unit) (fun _ => Unit) (fun _ _ => false) (fun _ => false) (fun _ => false) (false) (false) (false) (fun _ _ _ _ => false) (fun _ _ _ _ _ => false) (fun _ _ _ => false) (fun cs _ => ih cs) (fun _ _ => false) (fun _ _ => false) (fun _ _ _ => false) (fun _ => false) (false) (fun _ => false) () (fun _ _ _ _ => ()) () (fun _ _ _ _ => ()) y))
    (fun _ ih y => (@AV.rec (fun _ => Bool) (fun _ => Unit) (fun _ => Unit) (fun _ _ => false) (fun _ => false) (fun _ => false) (false) (false) (false) (fun _ _ _ _ => false) (fun _ _ _ _ _ => false) (fun _ _ _ => false) (fun _ _ => false) (fun cs _ => ih cs) (fun _ _ => false) (fun _ _ _ => false) (fun _ => false) (false) (fun _ => false) () (fun _ _ _ _ => ()) () (fun _ _ _ _ => ()) y))
    (fun _ ih y => (@AV.rec (fun _ => Bool) (fun _ => Unit) (fun _ => Unit) (fun _ _ => false) (fun _ => false) (fun _ => false) (false) (false) (false) (fun _ _ _ _ => false) (fun _ _ _ _ _ => false) (fun _ _ _ => false) (fun _ _ => false) (fun _ _ => false) (fun cs _ => ih cs) (fun _ _ _ => false) (fun _ => false) (false) (fun _ => false) () (fun _ _ _ _ => ()) () (fun _ _ _ _ => ()) y))
    (fun g _ ih y => (@AV.rec (fun _ => Bool) (fun _ => Unit) (fun _ => Unit) (fun _ _ => false) (fun _ => false) (fun _ => false) (false) (false) (false) (fun _ _ _ _ => false) (fun _ _ _ _ _ => false) (fun _ _ _ => false) (fun _ _ => false) (fun _ _ => false) (fun _ _ => false) (fun k cs _ => ifb (Nat.beq g k) (ih cs) false) (fun _ => false) (false) (fun _ => false) () (fun _ _ _ _ => ()) () (fun _ _ _ _ => ()) y))
    (fun b y => (@AV.rec (fun _ => Bool) (fun _ => Unit) (fun _ => Unit) (fun _ _ => false) (fun _ => false) (fun _ => false) (false) (false) (false) (fun _ _ _ _ => false) (fun _ _ _ _ _ => false) (fun _ _ _ => false) (fun _ _ => false) (fun _ _ => false) (fun _ _ => false) (fun _ _ _ => false) (fun c => Nat.beq b c) (false) (fun _ => false) () (fun _ _ _ _ => ()) () (fun _ _ _ _ => ()) y))
    (fun y => (@AV.rec (fun _ => Bool) (fun _ => Unit) (fun _ => Unit) (fun _ _ => false) (fun _ => false) (fun _ => false) (false) (false) (false) (fun _ _ _ _ => false) (fun _ _ _ _ _ => false) (fun _ _ _ => false) (fun _ _ => false) (fun _ _ => false) (fun _ _ => false) (fun _ _ _ => false) (fun _ => false) (true) (fun _ => false) () (fun _ _ _ _ => ()) () (fun _ _ _ _ => ()) y))
    (fun s y => (@AV.rec (fun _ => Bool) (fun _ => Unit) (fun _ => Unit) (fun _ _ => false) (fun _ => false) (fun _ => false) (false) (false) (false) (fun _ _ _ _ => false) (fun _ _ _ _ _ => false) (fun _ _ _ => false) (fun _ _ => false) (fun _ _ => false) (fun _ _ => false) (fun _ _ _ => false) (fun _ => false) (false) (fun t => syBeq s t) () (fun _ _ _ _ => ()) () (fun _ _ _ _ => ()) y))
    (fun y => @List.rec (List AV) (fun _ => Bool) true (fun _ _ _ => false) y)
    (fun _ _ ih1 ih2 y => @List.rec (List AV) (fun _ => Bool) false (fun a b _ => ifb (ih1 a) (ih2 b) false) y)
    (fun y => @List.rec AV (fun _ => Bool) true (fun _ _ _ => false) y)
    (fun _ _ ih1 ih2 y => @List.rec AV (fun _ => Bool) false (fun a b _ => ifb (ih1 a) (ih2 b) false) y) x

def eqRows (x : List (List AV)) : List (List AV) → Bool :=
  @AV.rec_1 (fun _ => AV → Bool) (fun _ => List (List AV) → Bool) (fun _ => List AV → Bool)
    (fun k n y => (@AV.rec (fun _ => Bool) (fun _ => Unit) (fun _ => Unit) (fun j m => ifb (kindBeq k j) (intBeq n m) false) (fun _ => false) (fun _ => false) (false) (false) (false) (fun _ _ _ _ => false) (fun _ _ _ _ _ => false) (fun _ _ _ => false) (fun _ _ => false) (fun _ _ => false) (fun _ _ => false) (fun _ _ _ => false) (fun _ => false) (false) (fun _ => false) () (fun _ _ _ _ => ()) () (fun _ _ _ _ => ()) y))
    (fun b y => (@AV.rec (fun _ => Bool) (fun _ => Unit) (fun _ => Unit) (fun _ _ => false) (fun c => boolBeq b c) (fun _ => false) (false) (false) (false) (fun _ _ _ _ => false) (fun _ _ _ _ _ => false) (fun _ _ _ => false) (fun _ _ => false) (fun _ _ => false) (fun _ _ => false) (fun _ _ _ => false) (fun _ => false) (false) (fun _ => false) () (fun _ _ _ _ => ()) () (fun _ _ _ _ => ()) y))
    (fun l y => (@AV.rec (fun _ => Bool) (fun _ => Unit) (fun _ => Unit) (fun _ _ => false) (fun _ => false) (fun m => listBeq l m) (false) (false) (false) (fun _ _ _ _ => false) (fun _ _ _ _ _ => false) (fun _ _ _ => false) (fun _ _ => false) (fun _ _ => false) (fun _ _ => false) (fun _ _ _ => false) (fun _ => false) (false) (fun _ => false) () (fun _ _ _ _ => ()) () (fun _ _ _ _ => ()) y))
    (fun y => (@AV.rec (fun _ => Bool) (fun _ => Unit) (fun _ => Unit) (fun _ _ => false) (fun _ => false) (fun _ => false) (true) (false) (false) (fun _ _ _ _ => false) (fun _ _ _ _ _ => false) (fun _ _ _ => false) (fun _ _ => false) (fun _ _ => false) (fun _ _ => false) (fun _ _ _ => false) (fun _ => false) (false) (fun _ => false) () (fun _ _ _ _ => ()) () (fun _ _ _ _ => ()) y))
    (fun y => (@AV.rec (fun _ => Bool) (fun _ => Unit) (fun _ => Unit) (fun _ _ => false) (fun _ => false) (fun _ => false) (false) (true) (false) (fun _ _ _ _ => false) (fun _ _ _ _ _ => false) (fun _ _ _ => false) (fun _ _ => false) (fun _ _ => false) (fun _ _ => false) (fun _ _ _ => false) (fun _ => false) (false) (fun _ => false) () (fun _ _ _ _ => ()) () (fun _ _ _ _ => ()) y))
    (fun y => (@AV.rec (fun _ => Bool) (fun _ => Unit) (fun _ => Unit) (fun _ _ => false) (fun _ => false) (fun _ => false) (false) (false) (true) (fun _ _ _ _ => false) (fun _ _ _ _ _ => false) (fun _ _ _ => false) (fun _ _ => false) (fun _ _ => false) (fun _ _ => false) (fun _ _ _ => false) (fun _ => false) (false) (fun _ => false) () (fun _ _ _ _ => ()) () (fun _ _ _ _ => ()) y))
    (fun nn z _ ih y => (@AV.rec (fun _ => Bool) (fun _ => Unit) (fun _ => Unit) (fun _ _ => false) (fun _ => false) (fun _ => false) (false) (false) (false) (fun mm w ys _ => ifb (boolBeq nn mm) (ifb (Nat.beq z w) (ih ys) false) false) (fun _ _ _ _ _ => false) (fun _ _ _ => false) (fun _ _ => false) (fun _ _ => false) (fun _ _ => false) (fun _ _ _ => false) (fun _ => false) (false) (fun _ => false) () (fun _ _ _ _ => ()) () (fun _ _ _ _ => ()) y))
    (fun b z off n cap y => (@AV.rec (fun _ => Bool) (fun _ => Unit) (fun _ => Unit) (fun _ _ => false) (fun _ => false) (fun _ => false) (false) (false) (false) (fun _ _ _ _ => false) (fun c w o m dd => ifb (Nat.beq b c) (ifb (Nat.beq z w) (ifb (Nat.beq off o) (ifb (Nat.beq n m) (@Option.rec Nat (fun _ => Bool) (@Option.rec Nat (fun _ => Bool) true (fun _ => false) dd) (fun p => @Option.rec Nat (fun _ => Bool) false (fun q => Nat.beq p q) dd) cap) false) false) false) false) (fun _ _ _ => false) (fun _ _ => false) (fun _ _ => false) (fun _ _ => false) (fun _ _ _ => false) (fun _ => false) (false) (fun _ => false) () (fun _ _ _ _ => ()) () (fun _ _ _ _ => ()) y))
    (fun b i j y => (@AV.rec (fun _ => Bool) (fun _ => Unit) (fun _ => Unit) (fun _ _ => false) (fun _ => false) (fun _ => false) (false) (false) (false) (fun _ _ _ _ => false) (fun _ _ _ _ _ => false) (fun c k l => ifb (Nat.beq b c) (ifb (Nat.beq i k) (Nat.beq j l) false) false) (fun _ _ => false) (fun _ _ => false) (fun _ _ => false) (fun _ _ _ => false) (fun _ => false) (false) (fun _ => false) () (fun _ _ _ _ => ()) () (fun _ _ _ _ => ()) y))
    (fun _ ih y => (@AV.rec (fun _ => Bool) (fun _ => Unit) (fun _ => Unit) (fun _ _ => false) (fun _ => false) (fun _ => false) (false) (false) (false) (fun _ _ _ _ => false) (fun _ _ _ _ _ => false) (fun _ _ _ => false) (fun cs _ => ih cs) (fun _ _ => false) (fun _ _ => false) (fun _ _ _ => false) (fun _ => false) (false) (fun _ => false) () (fun _ _ _ _ => ()) () (fun _ _ _ _ => ()) y))
    (fun _ ih y => (@AV.rec (fun _ => Bool) (fun _ => Unit) (fun _ => Unit) (fun _ _ => false) (fun _ => false) (fun _ => false) (false) (false) (false) (fun _ _ _ _ => false) (fun _ _ _ _ _ => false) (fun _ _ _ => false) (fun _ _ => false) (fun cs _ => ih cs) (fun _ _ => false) (fun _ _ _ => false) (fun _ => false) (false) (fun _ => false) () (fun _ _ _ _ => ()) () (fun _ _ _ _ => ()) y))
    (fun _ ih y => (@AV.rec (fun _ => Bool) (fun _ => Unit) (fun _ => Unit) (fun _ _ => false) (fun _ => false) (fun _ => false) (false) (false) (false) (fun _ _ _ _ => false) (fun _ _ _ _ _ => false) (fun _ _ _ => false) (fun _ _ => false) (fun _ _ => false) (fun cs _ => ih cs) (fun _ _ _ => false) (fun _ => false) (false) (fun _ => false) () (fun _ _ _ _ => ()) () (fun _ _ _ _ => ()) y))
    (fun g _ ih y => (@AV.rec (fun _ => Bool) (fun _ => Unit) (fun _ => Unit) (fun _ _ => false) (fun _ => false) (fun _ => false) (false) (false) (false) (fun _ _ _ _ => false) (fun _ _ _ _ _ => false) (fun _ _ _ => false) (fun _ _ => false) (fun _ _ => false) (fun _ _ => false) (fun k cs _ => ifb (Nat.beq g k) (ih cs) false) (fun _ => false) (false) (fun _ => false) () (fun _ _ _ _ => ()) () (fun _ _ _ _ => ()) y))
    (fun b y => (@AV.rec (fun _ => Bool) (fun _ => Unit) (fun _ => Unit) (fun _ _ => false) (fun _ => false) (fun _ => false) (false) (false) (false) (fun _ _ _ _ => false) (fun _ _ _ _ _ => false) (fun _ _ _ => false) (fun _ _ => false) (fun _ _ => false) (fun _ _ => false) (fun _ _ _ => false) (fun c => Nat.beq b c) (false) (fun _ => false) () (fun _ _ _ _ => ()) () (fun _ _ _ _ => ()) y))
    (fun y => (@AV.rec (fun _ => Bool) (fun _ => Unit) (fun _ => Unit) (fun _ _ => false) (fun _ => false) (fun _ => false) (false) (false) (false) (fun _ _ _ _ => false) (fun _ _ _ _ _ => false) (fun _ _ _ => false) (fun _ _ => false) (fun _ _ => false) (fun _ _ => false) (fun _ _ _ => false) (fun _ => false) (true) (fun _ => false) () (fun _ _ _ _ => ()) () (fun _ _ _ _ => ()) y))
    (fun s y => (@AV.rec (fun _ => Bool) (fun _ => Unit) (fun _ => Unit) (fun _ _ => false) (fun _ => false) (fun _ => false) (false) (false) (false) (fun _ _ _ _ => false) (fun _ _ _ _ _ => false) (fun _ _ _ => false) (fun _ _ => false) (fun _ _ => false) (fun _ _ => false) (fun _ _ _ => false) (fun _ => false) (false) (fun t => syBeq s t) () (fun _ _ _ _ => ()) () (fun _ _ _ _ => ()) y))
    (fun y => @List.rec (List AV) (fun _ => Bool) true (fun _ _ _ => false) y)
    (fun _ _ ih1 ih2 y => @List.rec (List AV) (fun _ => Bool) false (fun a b _ => ifb (ih1 a) (ih2 b) false) y)
    (fun y => @List.rec AV (fun _ => Bool) true (fun _ _ _ => false) y)
    (fun _ _ ih1 ih2 y => @List.rec AV (fun _ => Bool) false (fun a b _ => ifb (ih1 a) (ih2 b) false) y) x

def eqRow (x : List AV) : List AV → Bool :=
  @AV.rec_2 (fun _ => AV → Bool) (fun _ => List (List AV) → Bool) (fun _ => List AV → Bool)
    (fun k n y => (@AV.rec (fun _ => Bool) (fun _ => Unit) (fun _ => Unit) (fun j m => ifb (kindBeq k j) (intBeq n m) false) (fun _ => false) (fun _ => false) (false) (false) (false) (fun _ _ _ _ => false) (fun _ _ _ _ _ => false) (fun _ _ _ => false) (fun _ _ => false) (fun _ _ => false) (fun _ _ => false) (fun _ _ _ => false) (fun _ => false) (false) (fun _ => false) () (fun _ _ _ _ => ()) () (fun _ _ _ _ => ()) y))
    (fun b y => (@AV.rec (fun _ => Bool) (fun _ => Unit) (fun _ => Unit) (fun _ _ => false) (fun c => boolBeq b c) (fun _ => false) (false) (false) (false) (fun _ _ _ _ => false) (fun _ _ _ _ _ => false) (fun _ _ _ => false) (fun _ _ => false) (fun _ _ => false) (fun _ _ => false) (fun _ _ _ => false) (fun _ => false) (false) (fun _ => false) () (fun _ _ _ _ => ()) () (fun _ _ _ _ => ()) y))
    (fun l y => (@AV.rec (fun _ => Bool) (fun _ => Unit) (fun _ => Unit) (fun _ _ => false) (fun _ => false) (fun m => listBeq l m) (false) (false) (false) (fun _ _ _ _ => false) (fun _ _ _ _ _ => false) (fun _ _ _ => false) (fun _ _ => false) (fun _ _ => false) (fun _ _ => false) (fun _ _ _ => false) (fun _ => false) (false) (fun _ => false) () (fun _ _ _ _ => ()) () (fun _ _ _ _ => ()) y))
    (fun y => (@AV.rec (fun _ => Bool) (fun _ => Unit) (fun _ => Unit) (fun _ _ => false) (fun _ => false) (fun _ => false) (true) (false) (false) (fun _ _ _ _ => false) (fun _ _ _ _ _ => false) (fun _ _ _ => false) (fun _ _ => false) (fun _ _ => false) (fun _ _ => false) (fun _ _ _ => false) (fun _ => false) (false) (fun _ => false) () (fun _ _ _ _ => ()) () (fun _ _ _ _ => ()) y))
    (fun y => (@AV.rec (fun _ => Bool) (fun _ => Unit) (fun _ => Unit) (fun _ _ => false) (fun _ => false) (fun _ => false) (false) (true) (false) (fun _ _ _ _ => false) (fun _ _ _ _ _ => false) (fun _ _ _ => false) (fun _ _ => false) (fun _ _ => false) (fun _ _ => false) (fun _ _ _ => false) (fun _ => false) (false) (fun _ => false) () (fun _ _ _ _ => ()) () (fun _ _ _ _ => ()) y))
    (fun y => (@AV.rec (fun _ => Bool) (fun _ => Unit) (fun _ => Unit) (fun _ _ => false) (fun _ => false) (fun _ => false) (false) (false) (true) (fun _ _ _ _ => false) (fun _ _ _ _ _ => false) (fun _ _ _ => false) (fun _ _ => false) (fun _ _ => false) (fun _ _ => false) (fun _ _ _ => false) (fun _ => false) (false) (fun _ => false) () (fun _ _ _ _ => ()) () (fun _ _ _ _ => ()) y))
    (fun nn z _ ih y => (@AV.rec (fun _ => Bool) (fun _ => Unit) (fun _ => Unit) (fun _ _ => false) (fun _ => false) (fun _ => false) (false) (false) (false) (fun mm w ys _ => ifb (boolBeq nn mm) (ifb (Nat.beq z w) (ih ys) false) false) (fun _ _ _ _ _ => false) (fun _ _ _ => false) (fun _ _ => false) (fun _ _ => false) (fun _ _ => false) (fun _ _ _ => false) (fun _ => false) (false) (fun _ => false) () (fun _ _ _ _ => ()) () (fun _ _ _ _ => ()) y))
    (fun b z off n cap y => (@AV.rec (fun _ => Bool) (fun _ => Unit) (fun _ => Unit) (fun _ _ => false) (fun _ => false) (fun _ => false) (false) (false) (false) (fun _ _ _ _ => false) (fun c w o m dd => ifb (Nat.beq b c) (ifb (Nat.beq z w) (ifb (Nat.beq off o) (ifb (Nat.beq n m) (@Option.rec Nat (fun _ => Bool) (@Option.rec Nat (fun _ => Bool) true (fun _ => false) dd) (fun p => @Option.rec Nat (fun _ => Bool) false (fun q => Nat.beq p q) dd) cap) false) false) false) false) (fun _ _ _ => false) (fun _ _ => false) (fun _ _ => false) (fun _ _ => false) (fun _ _ _ => false) (fun _ => false) (false) (fun _ => false) () (fun _ _ _ _ => ()) () (fun _ _ _ _ => ()) y))
    (fun b i j y => (@AV.rec (fun _ => Bool) (fun _ => Unit) (fun _ => Unit) (fun _ _ => false) (fun _ => false) (fun _ => false) (false) (false) (false) (fun _ _ _ _ => false) (fun _ _ _ _ _ => false) (fun c k l => ifb (Nat.beq b c) (ifb (Nat.beq i k) (Nat.beq j l) false) false) (fun _ _ => false) (fun _ _ => false) (fun _ _ => false) (fun _ _ _ => false) (fun _ => false) (false) (fun _ => false) () (fun _ _ _ _ => ()) () (fun _ _ _ _ => ()) y))
    (fun _ ih y => (@AV.rec (fun _ => Bool) (fun _ => Unit) (fun _ => Unit) (fun _ _ => false) (fun _ => false) (fun _ => false) (false) (false) (false) (fun _ _ _ _ => false) (fun _ _ _ _ _ => false) (fun _ _ _ => false) (fun cs _ => ih cs) (fun _ _ => false) (fun _ _ => false) (fun _ _ _ => false) (fun _ => false) (false) (fun _ => false) () (fun _ _ _ _ => ()) () (fun _ _ _ _ => ()) y))
    (fun _ ih y => (@AV.rec (fun _ => Bool) (fun _ => Unit) (fun _ => Unit) (fun _ _ => false) (fun _ => false) (fun _ => false) (false) (false) (false) (fun _ _ _ _ => false) (fun _ _ _ _ _ => false) (fun _ _ _ => false) (fun _ _ => false) (fun cs _ => ih cs) (fun _ _ => false) (fun _ _ _ => false) (fun _ => false) (false) (fun _ => false) () (fun _ _ _ _ => ()) () (fun _ _ _ _ => ()) y))
    (fun _ ih y => (@AV.rec (fun _ => Bool) (fun _ => Unit) (fun _ => Unit) (fun _ _ => false) (fun _ => false) (fun _ => false) (false) (false) (false) (fun _ _ _ _ => false) (fun _ _ _ _ _ => false) (fun _ _ _ => false) (fun _ _ => false) (fun _ _ => false) (fun cs _ => ih cs) (fun _ _ _ => false) (fun _ => false) (false) (fun _ => false) () (fun _ _ _ _ => ()) () (fun _ _ _ _ => ()) y))
    (fun g _ ih y => (@AV.rec (fun _ => Bool) (fun _ => Unit) (fun _ => Unit) (fun _ _ => false) (fun _ => false) (fun _ => false) (false) (false) (false) (fun _ _ _ _ => false) (fun _ _ _ _ _ => false) (fun _ _ _ => false) (fun _ _ => false) (fun _ _ => false) (fun _ _ => false) (fun k cs _ => ifb (Nat.beq g k) (ih cs) false) (fun _ => false) (false) (fun _ => false) () (fun _ _ _ _ => ()) () (fun _ _ _ _ => ()) y))
    (fun b y => (@AV.rec (fun _ => Bool) (fun _ => Unit) (fun _ => Unit) (fun _ _ => false) (fun _ => false) (fun _ => false) (false) (false) (false) (fun _ _ _ _ => false) (fun _ _ _ _ _ => false) (fun _ _ _ => false) (fun _ _ => false) (fun _ _ => false) (fun _ _ => false) (fun _ _ _ => false) (fun c => Nat.beq b c) (false) (fun _ => false) () (fun _ _ _ _ => ()) () (fun _ _ _ _ => ()) y))
    (fun y => (@AV.rec (fun _ => Bool) (fun _ => Unit) (fun _ => Unit) (fun _ _ => false) (fun _ => false) (fun _ => false) (false) (false) (false) (fun _ _ _ _ => false) (fun _ _ _ _ _ => false) (fun _ _ _ => false) (fun _ _ => false) (fun _ _ => false) (fun _ _ => false) (fun _ _ _ => false) (fun _ => false) (true) (fun _ => false) () (fun _ _ _ _ => ()) () (fun _ _ _ _ => ()) y))
    (fun s y => (@AV.rec (fun _ => Bool) (fun _ => Unit) (fun _ => Unit) (fun _ _ => false) (fun _ => false) (fun _ => false) (false) (false) (false) (fun _ _ _ _ => false) (fun _ _ _ _ _ => false) (fun _ _ _ => false) (fun _ _ => false) (fun _ _ => false) (fun _ _ => false) (fun _ _ _ => false) (fun _ => false) (false) (fun t => syBeq s t) () (fun _ _ _ _ => ()) () (fun _ _ _ _ => ()) y))
    (fun y => @List.rec (List AV) (fun _ => Bool) true (fun _ _ _ => false) y)
    (fun _ _ ih1 ih2 y => @List.rec (List AV) (fun _ => Bool) false (fun a b _ => ifb (ih1 a) (ih2 b) false) y)
    (fun y => @List.rec AV (fun _ => Bool) true (fun _ _ _ => false) y)
    (fun _ _ ih1 ih2 y => @List.rec AV (fun _ => Bool) false (fun a b _ => ifb (ih1 a) (ih2 b) false) y) x

def bareHeap (n : Nat) : Heap := ⟨n, .nil, .nil, 0, []⟩

def joinA {α : Type} (n : AL α) (l : AL α) : AL α := @AL.rec α (fun _ => AL α) l (fun b k _ _ => .cons b k l) n

/-- the one object of the first heap, in the second too -/
def joinH (h1 h : Heap) : Heap := ⟨h.next, joinA h1.blks h.blks, joinA h1.maps h.maps, h.mark, h.log⟩

def appA {α : Type} (n : AL α) (l : AL α) : AL α := @AL.rec α (fun _ => AL α) l (fun b k _ ih => .cons b k ih) n

/-- what has been made, and is not yet in the heap, and the heap -/
def unionH (pd h : Heap) : Heap := ⟨h.next, appA pd.blks h.blks, appA pd.maps h.maps, h.mark, h.log⟩

def move1 (id : Nat) (pd h : Heap) (f : Heap → Heap → Option Fin2) : Option Fin2 :=
  @Option.rec Blk (fun _ => Option Fin2)
    (@Option.rec (List (AV × AV)) (fun _ => Option Fin2) (f pd h) (fun l => delK pd.maps id fun mp => f ⟨pd.next, pd.blks, mp, pd.mark, pd.log⟩ ⟨h.next, h.blks, .cons id l h.maps, h.mark, h.log⟩) (lk pd.maps id))
    (fun k => delK pd.blks id fun bl => f ⟨pd.next, bl, pd.maps, pd.mark, pd.log⟩ ⟨h.next, .cons id k h.blks, h.maps, h.mark, h.log⟩) (lk pd.blks id)

def moveL (ad : List Nat) (base : Nat) : Heap → Heap → (Heap → Heap → Option Fin2) → Option Fin2 :=
  @List.rec Nat (fun _ => Heap → Heap → (Heap → Heap → Option Fin2) → Option Fin2) (fun pd h f => f pd h) (fun i _ ih pd h f => forceNat (base + i) fun id => move1 id pd h fun pd h => ih pd h f) ad

/-- a reading operation's value is the same with so many of the region's other operations done -/
structure CI where
  lo : Nat
  hi : Nat
  ck : Heap → Bool

def checkOne (c : CI) (eps : List Heap) : Nat → Bool :=
  @List.rec Heap (fun _ => Nat → Bool) (fun _ => true) (fun h _ ih k => ifb (band (Nat.ble c.lo k) (Nat.ble k c.hi)) (ifb (c.ck h) (ih (Nat.succ k)) false) (ih (Nat.succ k))) eps

def checkAll (cks : List CI) (eps : List Heap) : Bool :=
  @List.rec CI (fun _ => Bool) true (fun c _ ih => ifb (checkOne c eps 0) ih false) cks

def again (op : Op) (E : Env) (rec : Rec) (s : Regs) (v : AV) (h : Heap) : Bool :=
  @Option.rec Fin2 (fun _ => Bool) false (fun _ => true) (evOp op E rec s .nil h fun u h => ifb (eqAV v u) (some (.nil, h)) none)

def heap00 : Heap := ⟨0, .nil, .nil, 0, []⟩

abbrev NxD := Regs → Regs → Heap → Heap → List CI → List Heap → Option Fin2

/-- by the operation's kind -/
def byCls {α : Type} (c : Nat) (a0 a1 a2 a3 : α) : α := ifb (Nat.beq c 0) a0 (ifb (Nat.beq c 1) a1 (ifb (Nat.beq c 2) a2 a3))

def evOpD (op : Op) (ho : HOp) (E : Env) (rec : Rec) (s : Regs) (base id : Nat) (pd h : Heap) (cks : List CI) (eps : List Heap) (f : AV → Heap → Heap → List CI → List Heap → Option Fin2) : Option Fin2 :=
  byCls ho.cls
    (evOp op E rec s .nil (bareHeap h.next) fun v _ => f v pd h cks eps)
    (evOp op E rec s .nil (unionH pd h) fun v _ => f v pd h (ifb (Nat.beq ho.lo ho.hi) cks (⟨ho.lo, ho.hi, again op E rec s v⟩ :: cks)) eps)
    (evOp op E rec s .nil (bareHeap id) fun v h1 => f v (joinH h1 pd) h cks eps)
    (appK eps [unionH pd h] fun eps => moveL ho.ad base pd h fun pd h => evOp op E rec s .nil h fun v h => f v pd h cks eps)

def evOperD (all : List Oper) (o : Oper) (ho : HOp) (E : Env) (rec : Rec) (keep base id : Nat) (next : NxD) : NxD := fun loc env pd h cks eps =>
  @Oper.rec (fun _ => Option Fin2) (fun dst op _ _ _ g =>
    (fun s => ob (wantedB g all s .nil) fun b =>
      ifb b (evOpD op ho E rec s base id pd h cks eps fun v pd h cks eps => setReg dst keep loc env v fun loc env => next loc env pd h cks eps)
        (byCls ho.cls (setReg dst keep loc env (.tup []) fun loc env => next loc env pd h cks eps) (setReg dst keep loc env (.tup []) fun loc env => next loc env pd h cks eps) none
          (appK eps [unionH pd h] fun eps => setReg dst keep loc env (.tup []) fun loc env => next loc env pd h cks eps))) (sub ho.rd loc env)) o

def evDraw (all : List Oper) (l : List Oper) (E : Env) (rec : Rec) (keep base : Nat) : List HOp → Nat → NxD :=
  @List.rec Oper (fun _ => List HOp → Nat → NxD)
    (fun _ _ _ env pd h cks eps => appK eps [unionH pd h] fun eps => ifb (checkAll cks eps) (some (env, unionH pd h)) none)
    (fun o _ ih hl id loc env pd h cks eps => @List.rec HOp (fun _ => Option Fin2) none (fun ho hl _ => evOperD all o ho E rec keep base id (ih hl (Nat.succ id)) loc env pd h cks eps) hl) l

def reserve (h : Heap) (n : Nat) (f : Heap → Option Fin2) : Option Fin2 :=
  @Heap.rec (fun _ => Option Fin2) (fun next blks maps mark log => forceNat (next + n) fun n => f ⟨n, blks, maps, mark, log⟩) h

def evDrawn (ops : List Oper) (hl : List HOp) (E : Env) (rec : Rec) (keep : Nat) (env : Regs) (h : Heap) : Option Fin2 :=
  forceNat (len ops) fun n => reserve h n fun h1 => evDraw ops ops E rec keep h.next hl h.next .nil env heap00 h1 [] []

abbrev DynC := Env → Rec → Hint → Regs → Heap → Option Out

def seqOut (b : Code) (rec : Rec) (hint : Hint) (o : Out) : Option Out :=
  @Out.rec (fun _ => Option Out) (fun e env h => @Ex.rec (fun _ => Option Out) (rec hint b env h) (fun i => some ⟨.ex i, env, h⟩) (some ⟨.rt, env, h⟩) e) o

def blockOut (id : Nat) (o : Out) : Option Out :=
  @Out.rec (fun _ => Option Out) (fun e env h => @Ex.rec (fun _ => Option Out) (some ⟨.nm, env, h⟩) (fun i => ifb (Nat.beq i id) (some ⟨.nm, env, h⟩) (some ⟨.ex i, env, h⟩)) (some ⟨.rt, env, h⟩) e) o

def cSkip : DynC := fun _ _ _ env h => some ⟨.nm, env, h⟩
def cRegion (id : Nat) (ops : Array Oper) (draw : Bool) : DynC := fun E rec hint env h =>
  op2 (ifb draw (ob (hint.dr id) fun hl => evDrawn ops.toList hl E rec hint.keep env h) (evOps ops.toList ops.toList E rec hint.keep .nil env h)) fun env h => some ⟨.nm, env, h⟩
def cSeq (a b : Code) : DynC := fun _ rec hint env h => ob (rec hint a env h) fun o => seqOut b rec hint o
def cCond (c : Operand) (a b : Code) : DynC := fun _ rec hint env h => ob (opv c .nil env) fun v => ob (toBool v) fun t => ifb t (rec hint a env h) (rec hint b env h)
def cBlock (id : Nat) (c : Code) : DynC := fun _ rec hint env h => ob (rec hint c env h) fun o => blockOut id o
def cLoop (c : Code) : DynC := fun _ rec hint env h => ob (rec hint c env h) fun o => seqOut (.loop c) rec hint o
def cExit (id : Nat) : DynC := fun _ _ _ env h => some ⟨.ex id, env, h⟩
def cRet : DynC := fun _ _ _ env h => some ⟨.rt, env, h⟩
def cNo : DynC := fun _ _ _ _ _ => none

def stepC (c : Code) : DynC :=
  @Code.rec (fun _ => DynC) cSkip (fun id ops draw => cRegion id ops draw) (fun a b _ _ => cSeq a b) (fun c a b _ _ => cCond c a b) (fun id c _ => cBlock id c) (fun c _ => cLoop c)
    (fun _ _ _ _ _ _ => cNo) cExit (fun _ _ => cNo) (fun _ => cNo) (fun _ => cNo) cRet (fun _ => cNo) c

def exec (E : Env) (n : Nat) : Rec := @Nat.rec (fun _ => Rec) (fun _ _ _ _ => none) (fun _ ih hint c env h => stepC c E ih hint env h) n

def heap0 : Heap := ⟨0, .nil, .nil, 0, []⟩

def run (E : Env) (fuel : Nat) (f : Nat) (args : List AV) : Option AV :=
  op2 (callF f E (exec E fuel) args heap0 fun v h => some (.cons 0 v .nil, h)) fun r _ => lk r 0
end
end Go.Den
