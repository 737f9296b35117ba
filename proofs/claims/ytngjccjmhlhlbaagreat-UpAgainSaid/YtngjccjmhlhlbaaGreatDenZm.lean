/- A part of a machine that computes what the program computes, and of the proof that it does -/
import Derived.Test.YtngjccjmhlhlbaaGreatDenZl
import GoSem.ClaimChange
import Derived.ChangeSame
set_option linter.unusedVariables false
set_option linter.unusedSimpArgs false
set_option linter.unusedSectionVars false
namespace Go.Den
open Go Go.ChangeShapes Go.WideShapes

variable [Val]

noncomputable def isV (o : Option AV) (v : AV) : Bool := @Option.rec AV (fun _ => Bool) false (fun u => eqAV u v) o
theorem isV_eq {o : Option AV} {v : AV} (h : isV o v = true) : o = some v := by
  cases o with
  | none => cases h
  | some u => rw [eqAV_true u v h]

theorem fact_of {P : Program} {E : Env} (hE : EnvOk P E) {fuel g : Nat} {p : List AV × AV} {l : List (List AV × AV)} (h : ∀ q ∈ p :: l, isV (runI E fuel g q.1) q.2 = true) : Fact P g (tab (p :: l)) where
  enters := (runI_gives hE (isV_eq (h p (List.mem_cons_self ..)))).2
  gives := fun as v e => (runI_gives hE (isV_eq (h (as, v) (tab_some e)))).1

/-- nothing that was there is another; nothing is put out -/
theorem keptBut_of_heap {w w' : World} (may : MemPlace → Prop) (hos : w'.os = w.os) (hout : w'.output = w.output) (hh : ∀ B, B < w.heap.size → w'.heap[B]? = w.heap[B]?) : w.keptBut w' may := by
  refine ⟨hos, hout, fun i hi => ?_⟩
  rw [hh i hi]
  cases h : w.heap[i]? with
  | none => rfl
  | some o =>
    cases o with
    | cells c t fr => exact ⟨rfl, rfl, rfl, fun _ _ => rfl⟩
    | map es clock => exact .inr ⟨rfl, rfl⟩
    | _ => rfl

theorem keptBut_frozen {w w' : World} {may : MemPlace → Prop} (hk : w.keptBut w' may) (a : Addr) (h : a.block < w.heap.size) : w'.frozen? a = w.frozen? a := by
  have := hk.2.2 a.block h
  unfold World.frozen?
  split at this
  · rename_i h1 h2
    rw [h1, h2]; dsimp only; rw [this.2.1]
  · rename_i h1 h2
    rw [h1, h2]
  · rw [this]

theorem Gives.calls {P : Program} {g : Nat} {as : List AV} {v : AV} (h : Gives P g as v) (w : World) (cs : List Value) (hl : cs.length = as.length) (hr : ∀ (j : Nat) (a : AV) (c : Value), as[j]? = some a → cs[j]? = some c → RelI w (fun _ _ => False) a c) :
    Calls P g cs.toArray w fun e w' => (∃ c I', e = .returned c ∧ RelI w' I' v c) ∧ w.keptBut w' (fun _ => False) := by
  refine Calls.mono (h (fun _ _ => False) w cs (fun B x hx => hx.elim) ⟨hl, hr⟩) fun e w' ⟨c, I', he, ex, hfr, _, _, hv⟩ => ⟨⟨c, I', he, hv⟩, keptBut_of_heap _ ex.os ex.output hfr⟩

theorem Gives.two {P : Program} {g : Nat} {a b : Int} (h : Gives P g [.int .i64 a, .int .i64 b] (.bool true)) (w : World) :
    Calls P g #[.int .i64 a, .int .i64 b] w fun e w' => e = .returned (.bool true) ∧ w.keptBut w' (fun _ => False) := by
  refine Calls.mono (h.calls w [.int .i64 a, .int .i64 b] rfl fun j x c hx hc => ?_) fun e w' ⟨⟨c, I', he, hv⟩, hk⟩ => ⟨?_, hk⟩
  · match j with
    | 0 => cases hx; cases hc; exact .int _ _
    | 1 => cases hx; cases hc; exact .int _ _
    | j + 2 => simp at hx
  · rw [he]; cases hv; rfl

/-- the posts of a law: as the library's, where old blocks alone are looked at -/
theorem post_of_kept {H : Type} {enc : TypeId × Value → H} {P : Program} {f : Func} {s : ChangeSpec} {apart fresh handsOn again : Bool} {W W' : World} {args : Array Value} {v : Value} {ds gs : List (DataW H)} {before pa pv : List MemPlace}
    (hW : DataW.Whole enc P f.params.toList s.vars apart W args.toList ds gs before)
    (hres : ∀ (b : Nat) (sp : Nat → Bool) (hd : Bool), DataW.TrodAll enc P W' b sp hd f.resultTypes.toList (v.resultList f.resultTypes.size) (s.fn H (ds ++ gs)).results [])
    (hargs : ∀ sp : Nat → Bool, (∀ p ∈ before, sp p.block = true) → DataW.TrodAll enc P W' 0 sp true f.params.toList args.toList (s.fn H (ds ++ gs)).args pa)
    (hvars : ∀ sp : Nat → Bool, (∀ p ∈ before, sp p.block = true) → DataW.TrodVars enc P W' sp s.vars (s.fn H (ds ++ gs)).vars pv)
    (hps : before = pa ++ pv) (hk : W.keptBut W' (fun _ => False))
    (hok : ∀ (j : Nat) (t : TypeId) (r : Value), f.resultTypes[j]? = some t → (v.resultList f.resultTypes.size)[j]? = some r → Value.okWide P W' .any 0 t r) :
    s.post enc P f apart fresh handsOn again W args v W' := by
  have hold : ∀ p ∈ before, (fun b => decide (b < W.heap.size)) p.block = true := fun p hp => by simpa using hW.lt p hp
  have hk' : W.keptBut W' (· ∈ before) := World.keptBut_mono (fun _ h => h.elim) hk
  refine ⟨ds, gs, before, [], pa, pv, hW, hres _ _ _, hargs _ hold, hvars _ hold, World.keptBut_mono (fun p hp => ⟨hp, ?_⟩) hk', fun _ => ?_⟩
  · rw [hps, List.mem_append] at hp
    exact Or.inr hp
  · have hlt := hW.lt
    obtain ⟨_, _, _, _, _, hz, hn⟩ := hW
    refine ⟨hok, _, _, ([] ++ pa) ++ pv, ⟨[] ++ pa, pv, trodAll_append (hargs _ (fun _ _ => rfl)) (hres _ _ _), hvars _ (fun _ _ => rfl), rfl, ?_, ?_⟩, ?_⟩
    · intro b off hp
      have hp' : MemPlace.cell b off ∈ before := by rw [hps]; simpa using hp
      rw [keptBut_frozen hk _ (hlt _ hp')]
      exact hz b off hp'
    · intro ha
      have := hn ha
      rw [hps] at this
      simpa using this
    · intro p hp _
      rw [hps]
      simpa using hp
end Go.Den
