/- A part of a machine that computes what the program computes, and of the proof that it does -/
import Derived.Test.YtngjccjmhlhlbaaGreatDenZm
set_option linter.unusedVariables false
set_option linter.unusedSimpArgs false
set_option linter.unusedSectionVars false
namespace Go.Den
open Go

variable [Val]

theorem bytes_of {s : ByteArray} {l : List UInt8} (h : s.toList = l) : bytesOfStr s = l.map UInt8.toNat := by
  rw [← h, ByteArray.toList_eq]; rfl

theorem Gives.intStr {P : Program} {g : Nat} {a : Int} {l : List Nat} (h : Gives P g [.int .i64 a, .str l] (.bool true)) {s : ByteArray} (hs : bytesOfStr s = l) (w : World) :
    Calls P g #[.int .i64 a, .string s] w fun e w' => e = .returned (.bool true) ∧ w.keptBut w' (fun _ => False) := by
  refine Calls.mono (h.calls w [.int .i64 a, .string s] rfl fun j x c hx hc => ?_) fun e w' ⟨⟨c, I', he, hv⟩, hk⟩ => ⟨?_, hk⟩
  · match j with
    | 0 => cases hx; cases hc; exact .int _ _
    | 1 => cases hx; cases hc; rw [← hs]; exact .str _
    | j + 2 => simp at hx
  · rw [he]; cases hv; rfl
end Go.Den
