/- A part of a machine that computes what the program computes, and of the proof that it does -/
import Derived.Test.YtngjccjmhlhlbaaGreatDenZh
set_option linter.unusedVariables false
set_option linter.unusedSimpArgs false
set_option linter.unusedSectionVars false
namespace Go.Den
open Go

variable [Val]

/-! ### trees -/
def Tr.All {α : Type} (Q : Nat → α → Prop) : Tr α → Prop
  | .leaf => True
  | .node k v l r => Q k v ∧ Tr.All Q l ∧ Tr.All Q r

theorem Tr.get_all {α : Type} {Q : Nat → α → Prop} : ∀ {t : Tr α} {n : Nat} {v : α}, t.All Q → t.get n = some v → Q n v
  | .leaf, n, v, _, e => by cases e
  | .node k u l r, n, v, h, e => by
    rcases ifb_some (show ifb (Nat.beq n k) (some u) (ifb (Nat.blt n k) (l.get n) (r.get n)) = some v from e) with ⟨h1, e1⟩ | ⟨h1, e1⟩
    · cases e1; rw [beq_eq_of h1]; exact h.1
    · rcases ifb_some e1 with ⟨h2, e2⟩ | ⟨h2, e2⟩
      · exact Tr.get_all h.2.1 e2
      · exact Tr.get_all h.2.2 e2

/-! ### the check of the types -/
noncomputable def cellB : Value → AV → Bool
  | .int k n, .int k' n' => ifb (kindBeq k' k) (intBeq n' n) false
  | .bool b, .bool b' => boolBeq b' b
  | .string s, .str [] => Nat.beq s.data.toList.length 0
  | .slice none 0 0, .nil => true
  | .pointer none, .nilp => true
  | .nilFunc, .nilf => true
  | .map none, .bad => true
  | .nilIface, .bad => true
  | _, _ => false

theorem cellB_rel {c : Value} {v : AV} (h : cellB c v = true) : c.oneCell' = true ∧ ∀ w I, RelI w I v c := by
  unfold cellB at h
  split at h
  · obtain ⟨h1, h2⟩ := ifb_and h
    rw [kindBeq_eq h1, intBeq_true h2]
    exact ⟨rfl, fun _ _ => .int _ _⟩
  · rw [boolBeq_true h]; exact ⟨rfl, fun _ _ => .bool _⟩
  · rename_i s
    refine ⟨rfl, fun w I => ?_⟩
    have h1 := beq_eq_of h
    have h2 : bytesOfStr s = [] := by unfold bytesOfStr; rw [List.eq_nil_of_length_eq_zero h1]; rfl
    have := RelI.str (w := w) (I := I) s
    rw [h2] at this; exact this
  · exact ⟨rfl, fun _ _ => .nil⟩
  · exact ⟨rfl, fun _ _ => .nilp⟩
  · exact ⟨rfl, fun _ _ => .nilf⟩
  · exact ⟨rfl, fun _ _ => .bad _ rfl⟩
  · exact ⟨rfl, fun _ _ => .bad _ rfl⟩
  · cases h

noncomputable def rowB : List Value → Row → Bool
  | [], [] => true
  | c :: cs, v :: vs => ifb (cellB c v) (rowB cs vs) false
  | _, _ => false
theorem rowB_rel : ∀ {cs : List Value} {vs : Row}, rowB cs vs = true → cs.length = vs.length ∧ ∀ (j : Nat) (v : AV) (c : Value), vs[j]? = some v → cs[j]? = some c → c.oneCell' = true ∧ ∀ w I, RelI w I v c
  | [], [], _ => ⟨rfl, fun j v c h => by simp at h⟩
  | c :: cs, v :: vs, h => by
    obtain ⟨h1, h2⟩ := ifb_and h
    obtain ⟨k1, k2⟩ := rowB_rel h2
    refine ⟨by simp [k1], fun j x d hx hd => ?_⟩
    cases j with
    | zero => simp at hx hd; subst hx hd; exact cellB_rel h1
    | succ j => exact k2 j x d (by simpa using hx) (by simpa using hd)
  | [], _ :: _, h => by cases h
  | _ :: _, [], h => by cases h

noncomputable def infoB (P : Program) (t : TypeId) (size : Nat) (zero : Row) : Bool :=
  match P.info? t with
  | some ti => ifb (Nat.beq ti.size size) (ifb (match ti.zero with | some z => rowB z.cells.toList zero | none => false) (ifb (Nat.beq zero.length size) (ifb (Nat.ble 1 size) (Nat.ble 1 ti.bytes) false) false) false) false
  | none => false
theorem infoB_ok {P : Program} {t : TypeId} {size : Nat} {zero : Row} (h : infoB P t size zero = true) : ∃ bytes, InfoOk P t size bytes zero := by
  unfold infoB at h
  split at h
  · rename_i ti hti
    obtain ⟨h1, h2⟩ := ifb_and h
    obtain ⟨h3, h4⟩ := ifb_and h2
    obtain ⟨h5, h6⟩ := ifb_and h4
    obtain ⟨h7, h8⟩ := ifb_and h6
    split at h3
    · rename_i z hz
      obtain ⟨k1, k2⟩ := rowB_rel h3
      refine ⟨ti.bytes, ⟨ti, z, hti, beq_eq_of h1, rfl, hz, by simpa using k1, fun j v c hv hc => k2 j v c hv (by simpa using hc)⟩, beq_eq_of h5, by simpa using h7, by simpa using h8⟩
    · cases h3
  · cases h
noncomputable def bytesB (P : Program) (t : TypeId) (bts : Nat) : Bool := match P.info? t with | some ti => Nat.beq ti.bytes bts | none => false
theorem infoB_bytes {P : Program} {t : TypeId} {size bts : Nat} {zero : Row} (h : infoB P t size zero = true) (hb : bytesB P t bts = true) : InfoOk P t size bts zero := by
  obtain ⟨b, k⟩ := infoB_ok h
  obtain ⟨ti, z, h1, h2, h3, h4, h5⟩ := k.info
  unfold bytesB at hb
  rw [h1] at hb
  have := beq_eq_of (show Nat.beq ti.bytes bts = true from hb)
  obtain rfl : b = bts := by rw [← h3, this]
  exact k

noncomputable def isU8 (P : Program) (e : TypeId) : Bool := match P.underlying e with | some (.int k) => kindBeq k .u8 | _ => false
theorem isU8_eq {P : Program} {e : TypeId} (h : isU8 P e = true) : P.underlying e = some (.int .u8) := by
  unfold isU8 at h
  split at h
  · rename_i k hk; rw [hk, kindBeq_eq h]
  · cases h
noncomputable def isInt (P : Program) (e : TypeId) : Bool := match P.underlying e with | some (.int _) => true | _ => false
theorem isInt_eq {P : Program} {e : TypeId} (h : isInt P e = true) : ∃ k, P.underlying e = some (.int k) := by
  unfold isInt at h
  split at h
  · rename_i k hk; exact ⟨k, hk⟩
  · cases h

noncomputable def fieldsB (P : Program) (size : Nat) : List Field → List (Nat × Nat) → Bool
  | [], [] => true
  | f :: fs, (o, s) :: l => ifb (Nat.beq f.offset o) (ifb (match P.info? f.type with | some fi => Nat.beq fi.size s | none => false)
      (ifb (Nat.ble 1 s) (ifb (match P.underlying f.type with | some d => boolBeq d.isRow (Bool.not (Nat.beq s 1)) | none => false) (ifb (Nat.ble (o + s) size) (fieldsB P size fs l) false) false) false) false) false
  | _, _ => false
theorem fieldsB_ok {P : Program} {size : Nat} : ∀ {fields : List Field} {fs : List (Nat × Nat)}, fieldsB P size fields fs = true → fields.length = fs.length ∧
    ∀ (n o s : Nat), fs[n]? = some (o, s) → o + s ≤ size ∧ ∃ f fi d, fields[n]? = some f ∧ f.offset = o ∧ P.info? f.type = some fi ∧ fi.size = s ∧ 1 ≤ s ∧ P.underlying f.type = some d ∧ (d.isRow = true ↔ s ≠ 1)
  | [], [], _ => ⟨rfl, fun n o s h => by simp at h⟩
  | f :: fields, (o', s') :: fs, h => by
    obtain ⟨h1, h2⟩ := ifb_and h
    obtain ⟨h3, h4⟩ := ifb_and h2
    obtain ⟨h5, h6⟩ := ifb_and h4
    obtain ⟨h7, h8⟩ := ifb_and h6
    obtain ⟨h9, h10⟩ := ifb_and h8
    obtain ⟨k1, k2⟩ := fieldsB_ok h10
    refine ⟨by simp [k1], fun n o s hn => ?_⟩
    cases n with
    | zero =>
      simp at hn
      obtain ⟨rfl, rfl⟩ := hn
      split at h3
      · rename_i fi hfi
        split at h7
        · rename_i d hd
          refine ⟨by simpa using h9, f, fi, d, rfl, beq_eq_of h1, hfi, beq_eq_of h3, by simpa using h5, hd, ?_⟩
          rw [boolBeq_true h7]
          cases hq : Nat.beq s' 1 with
          | true => simp [beq_eq_of hq]
          | false => simp only [Bool.not_false, true_iff]; intro he; subst he; simp at hq
        · cases h7
      · cases h3
    | succ n => 
      obtain ⟨m1, m2⟩ := k2 n o s (by simpa using hn)
      obtain ⟨f', m3⟩ := m2
      exact ⟨m1, f', by simpa using m3⟩
  | [], _ :: _, h => by cases h
  | _ :: _, [], h => by cases h

noncomputable def mapRowB (P : Program) (e : TypeId) (b : Bool) : Bool := ifb b true (match P.info? e with | some ti => (match ti.zero with | some z => z.oneCell' | none => true) | none => true)

noncomputable def tdB (P : Program) (size : Nat) : TypeDesc → TD → Bool
  | .bool, .bool => true
  | .int k, .int k' => kindBeq k k'
  | .string, .str => true
  | .slice e, .slice sz bts zero u8 => ifb (infoB P e sz zero) (ifb (bytesB P e bts) (impB u8 (ifb (isU8 P e) (Nat.beq sz 1) false)) false) false
  | .struct fields, .struct fs => fieldsB P size fields.toList fs
  | .pointer _, .ptr => true
  | .map k e, .map s b zero => ifb (isInt P k) (ifb (infoB P e s zero) (mapRowB P e b) false) false
  | .func _ _ _, .func => true
  | _, _ => false

theorem tdB_ok {P : Program} {size : Nat} {d : TypeDesc} {td : TD} (h : tdB P size d td = true) : TdOk P d td ∧ ∀ fs, td = .struct fs → ∀ (n o s : Nat), fs[n]? = some (o, s) → o + s ≤ size := by
  unfold tdB at h
  split at h
  · exact ⟨.bool, fun fs hq => by cases hq⟩
  · rw [kindBeq_eq h]; exact ⟨.int _, fun fs hq => by cases hq⟩
  · exact ⟨.str, fun fs hq => by cases hq⟩
  · obtain ⟨h1, h2⟩ := ifb_and h
    obtain ⟨h3, h4⟩ := ifb_and h2
    exact ⟨.slice _ _ _ _ _ (infoB_bytes h1 h3) (fun hu => isU8_eq (ifb_and (impB_mp h4 hu)).1) (fun hu => beq_eq_of (ifb_and (impB_mp h4 hu)).2), fun fs hq => by cases hq⟩
  · rename_i fields fs
    obtain ⟨k1, k2⟩ := fieldsB_ok h
    refine ⟨.struct fields fs (by simpa using k1) fun n o s hn => ?_, fun fs' hq n o s hn => ?_⟩
    · obtain ⟨f, fi, dd, m⟩ := (k2 n o s hn).2
      exact ⟨f, fi, dd, by simpa using m⟩
    · cases hq; exact (k2 n o s hn).1
  · exact ⟨.ptr _, fun fs hq => by cases hq⟩
  · obtain ⟨h1, h2⟩ := ifb_and h
    obtain ⟨h3, h4⟩ := ifb_and h2
    obtain ⟨kk, hk⟩ := isInt_eq h1
    refine ⟨.map _ _ kk _ _ _ hk (infoB_ok h3) (fun hb ti z hti hz => ?_), fun fs hq => by cases hq⟩
    subst hb
    have h5 : (match P.info? _ with | some ti => (match ti.zero with | some z => z.oneCell' | none => true) | none => true) = true := h4
    simp only [hti, hz] at h5
    exact h5
  · exact ⟨.func _ _ _, fun fs hq => by cases hq⟩
  · cases h

noncomputable def tiB (P : Program) (t : TypeId) (i : TI) : Bool :=
  ifb (infoB P t i.size i.zero) (match P.underlying t with | some d => tdB P i.size d i.td | none => false) false
theorem tiB_ok {P : Program} {t : TypeId} {i : TI} (h : tiB P t i = true) (he : i.eq = true → EqOk P t i.zero) : TIOk P t i ∧ FieldsIn i := by
  obtain ⟨h1, h2⟩ := ifb_and h
  split at h2
  · rename_i d hd
    obtain ⟨k1, k2⟩ := tdB_ok h2
    exact ⟨⟨infoB_ok h1, ⟨d, hd, k1⟩, he⟩, k2⟩
  · cases h2

theorem types_of {P : Program} {E : Env} {t : Tr TI} (hE : E.T = t.get) (h : t.All fun k i => tiB P k i = true ∧ (i.eq = true → EqOk P k i.zero)) : TypesOk P E ∧ ∀ t i, E.T t = some i → FieldsIn i := by
  have key : ∀ k i, E.T k = some i → TIOk P k i ∧ FieldsIn i := fun k i hk => by
    rw [hE] at hk
    have := Tr.get_all h hk
    exact tiB_ok this.1 this.2
  exact ⟨fun t i ht => (key t i ht).1, fun t i ht => (key t i ht).2⟩
end Go.Den
