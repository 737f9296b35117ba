/- What the reference makes of a path: a row of names, or an error -/
import Derived.Test.YtngjccjmhlhlbaaGreatUAEnv
import Derived.Test.YtngjccjmhlhlbaaGreatDenZp
set_option linter.unusedVariables false
set_option linter.unusedSimpArgs false
set_option linter.unusedSectionVars false
open Go
set_option maxRecDepth 100000
set_option linter.unnecessarySimpa false
set_option linter.all false
namespace Go.Den
variable [Val]
attribute [local irreducible] ob op2 ifb forceNat takeK appK newBlk setBlk killBlk
noncomputable def E1 : Env := { E0 with own := fun _ => true }
/-- names of a path: from the second loop's head on -/
def Prel (L : AV) (h : Heap) (names : List (List Nat)) : Prop :=
  (L = .nil ∧ names = []) ∨ ∃ b els g fz, L = .ref b 1 0 names.length none ∧ h.get b = some ⟨els, g, fz⟩ ∧ (els.drop 0).take names.length = names.map (fun x => [AV.str x]) ∧ b < h.next ∧ names.length ≤ els.length
def Pinv (n : Nat) (L : AV) (names : List (List Nat)) (h : Heap) (k fr : Nat) : Prop :=
  1 ≤ k ∧ k ≤ n + 1 ∧ fr ≤ k ∧ names.length ≤ 16 ∧ (∀ x ∈ names, 1 ≤ x.length ∧ x.length ≤ 24 ∧ ∀ b ∈ x, b < 256) ∧ Prel L h names
/-- what Parse gives -/
def ParseOut (v : AV) : Prop := v = .tup [.nil, .int .i64 1] ∨ v = .tup [.nil, .int .i64 9] ∨ v = .tup [.nil, .int .i64 0] ∨
  ∃ names : List (List Nat), names.length ≤ 16 ∧ (∀ x ∈ names, 1 ≤ x.length ∧ x.length ≤ 24 ∧ ∀ b ∈ x, b < 256) ∧ v = .tup [.sl true 1 (names.map fun x => [AV.str x]), .int .i64 0]
set_option maxHeartbeats 4000000
theorem parse_gives (l : List Nat) (hl : l.length ≤ 9223372036854775807) (hlb : ∀ b ∈ l, b < 256) : ∃ v fuel, ParseOut v ∧ runI E1 fuel 24 [.str l] = some v := by
  refine run_any (ParseOut) (.cons 0 (.str l) .nil) (by with_unfolding_all rfl) (by with_unfolding_all rfl) (by with_unfolding_all rfl) (by with_unfolding_all rfl) (by with_unfolding_all rfl) (by with_unfolding_all rfl) (by repeat (first | exact Sub.nil _ | refine Sub.cons (by with_unfolding_all rfl) ?_)) ?_
  refine WP.seq ?_
  refine WP.region (by
      repeat first
        | rfl
        | refine ob_of lenV_sl ?_
        | refine ob_of lenV_ref ?_
        | refine ob_of lenV_str ?_
        | refine ob_of lenV_nil ?_
        | refine ob_of bin_lss ?_
        | refine ob_of bin_gtr ?_
        | refine ob_of bin_leq ?_
        | refine ob_of bin_geq ?_
        | refine ob_of bin_eql ?_
        | refine ob_of bin_neq ?_
        | refine ob_of bin_seql ?_
        | refine ob_of bin_sneq ?_
        | refine ob_of mm_max ?_
        | refine ob_of mm_min ?_
        | refine ob_of (bin_add (by omega)) ?_
        | refine ob_of (bin_sub (by omega)) ?_
        | refine ob_of (bin_mul (by omega)) ?_
        | refine ob_of (by assumption) ?_
        | refine ob_of (index_sl (by assumption)) ?_
        | refine ob_of (index_str (by assumption)) ?_
        | refine ob_of (by with_unfolding_all rfl) ?_
        | refine op2_of (by with_unfolding_all rfl) ?_
        | refine ifb_t (by with_unfolding_all rfl) ?_
        | refine ifb_f (by with_unfolding_all rfl) ?_
        | refine ifb_t (decide_eq_true (by first | omega | assumption)) ?_
        | refine ifb_f (decide_eq_false (by first | omega | assumption)) ?_
        | refine ifb_t (beq_tt (decide_eq_true (by first | omega | assumption))) ?_
        | refine ifb_f (beq_tf (decide_eq_false (by first | omega | assumption))) ?_
        | refine ifb_t (beq_ff (decide_eq_false (by first | omega | assumption))) ?_
        | refine ifb_f (beq_ft (decide_eq_true (by first | omega | assumption))) ?_
        | refine force_of ?_
        | refine new_of ?_
        | refine take_of ?_
        | refine app_of ?_) ?_
  refine Then.nm ?_
  refine WP.seq ?_
  refine WP.seq ?_
  by_cases h0 : l.length = 0
  · -- e True
    refine WP.region (by
        repeat first
          | rfl
          | refine ob_of lenV_sl ?_
          | refine ob_of lenV_ref ?_
          | refine ob_of lenV_str ?_
          | refine ob_of lenV_nil ?_
          | refine ob_of bin_lss ?_
          | refine ob_of bin_gtr ?_
          | refine ob_of bin_leq ?_
          | refine ob_of bin_geq ?_
          | refine ob_of bin_eql ?_
          | refine ob_of bin_neq ?_
          | refine ob_of bin_seql ?_
          | refine ob_of bin_sneq ?_
          | refine ob_of mm_max ?_
          | refine ob_of mm_min ?_
          | refine ob_of (bin_add (by omega)) ?_
          | refine ob_of (bin_sub (by omega)) ?_
          | refine ob_of (bin_mul (by omega)) ?_
          | refine ob_of (by assumption) ?_
          | refine ob_of (index_sl (by assumption)) ?_
          | refine ob_of (index_str (by assumption)) ?_
          | refine ob_of (by with_unfolding_all rfl) ?_
          | refine op2_of (by with_unfolding_all rfl) ?_
          | refine ifb_t (by with_unfolding_all rfl) ?_
          | refine ifb_f (by with_unfolding_all rfl) ?_
          | refine ifb_t (decide_eq_true (by first | omega | assumption)) ?_
          | refine ifb_f (decide_eq_false (by first | omega | assumption)) ?_
          | refine ifb_t (beq_tt (decide_eq_true (by first | omega | assumption))) ?_
          | refine ifb_f (beq_tf (decide_eq_false (by first | omega | assumption))) ?_
          | refine ifb_t (beq_ff (decide_eq_false (by first | omega | assumption))) ?_
          | refine ifb_f (beq_ft (decide_eq_true (by first | omega | assumption))) ?_
          | refine force_of ?_
          | refine new_of ?_
          | refine take_of ?_
          | refine app_of ?_) ?_
    refine Then.nm ?_
    refine WP.cond (by with_unfolding_all rfl) (fun ht16 => ?_) (fun ht16 => ?_)
    · -- t16 True
      clear ht16
      refine WP.seq ?_
      refine WP.region (by
          repeat first
            | rfl
            | refine ob_of lenV_sl ?_
            | refine ob_of lenV_ref ?_
            | refine ob_of lenV_str ?_
            | refine ob_of lenV_nil ?_
            | refine ob_of bin_lss ?_
            | refine ob_of bin_gtr ?_
            | refine ob_of bin_leq ?_
            | refine ob_of bin_geq ?_
            | refine ob_of bin_eql ?_
            | refine ob_of bin_neq ?_
            | refine ob_of bin_seql ?_
            | refine ob_of bin_sneq ?_
            | refine ob_of mm_max ?_
            | refine ob_of mm_min ?_
            | refine ob_of (bin_add (by omega)) ?_
            | refine ob_of (bin_sub (by omega)) ?_
            | refine ob_of (bin_mul (by omega)) ?_
            | refine ob_of (by assumption) ?_
            | refine ob_of (index_sl (by assumption)) ?_
            | refine ob_of (index_str (by assumption)) ?_
            | refine ob_of (by with_unfolding_all rfl) ?_
            | refine op2_of (by with_unfolding_all rfl) ?_
            | refine ifb_t (by with_unfolding_all rfl) ?_
            | refine ifb_f (by with_unfolding_all rfl) ?_
            | refine ifb_t (decide_eq_true (by first | omega | assumption)) ?_
            | refine ifb_f (decide_eq_false (by first | omega | assumption)) ?_
            | refine ifb_t (beq_tt (decide_eq_true (by first | omega | assumption))) ?_
            | refine ifb_f (beq_tf (decide_eq_false (by first | omega | assumption))) ?_
            | refine ifb_t (beq_ff (decide_eq_false (by first | omega | assumption))) ?_
            | refine ifb_f (beq_ft (decide_eq_true (by first | omega | assumption))) ?_
            | refine force_of ?_
            | refine new_of ?_
            | refine take_of ?_
            | refine app_of ?_) ?_
      refine Then.nm ?_
      refine WP.ret ?_
      refine Then.rt ?_
      exact ⟨_, .inl rfl, Ends.mk rfl (by with_unfolding_all rfl) ⟨_, (by with_unfolding_all rfl)⟩⟩
    · first | (cases ht16; done) | (simp at ht16; done) | exact absurd ht16 (by decide)
  · -- e False
    obtain ⟨c0, hc0⟩ : ∃ c, l[0]? = some c := ⟨l[0], by simp⟩
    refine WP.region (by
        repeat first
          | rfl
          | refine ob_of lenV_sl ?_
          | refine ob_of lenV_ref ?_
          | refine ob_of lenV_str ?_
          | refine ob_of lenV_nil ?_
          | refine ob_of bin_lss ?_
          | refine ob_of bin_gtr ?_
          | refine ob_of bin_leq ?_
          | refine ob_of bin_geq ?_
          | refine ob_of bin_eql ?_
          | refine ob_of bin_neq ?_
          | refine ob_of bin_seql ?_
          | refine ob_of bin_sneq ?_
          | refine ob_of mm_max ?_
          | refine ob_of mm_min ?_
          | refine ob_of (bin_add (by omega)) ?_
          | refine ob_of (bin_sub (by omega)) ?_
          | refine ob_of (bin_mul (by omega)) ?_
          | refine ob_of (by assumption) ?_
          | refine ob_of (index_sl (by assumption)) ?_
          | refine ob_of (index_str (by assumption)) ?_
          | refine ob_of (by with_unfolding_all rfl) ?_
          | refine op2_of (by with_unfolding_all rfl) ?_
          | refine ifb_t (by with_unfolding_all rfl) ?_
          | refine ifb_f (by with_unfolding_all rfl) ?_
          | refine ifb_t (decide_eq_true (by first | omega | assumption)) ?_
          | refine ifb_f (decide_eq_false (by first | omega | assumption)) ?_
          | refine ifb_t (beq_tt (decide_eq_true (by first | omega | assumption))) ?_
          | refine ifb_f (beq_tf (decide_eq_false (by first | omega | assumption))) ?_
          | refine ifb_t (beq_ff (decide_eq_false (by first | omega | assumption))) ?_
          | refine ifb_f (beq_ft (decide_eq_true (by first | omega | assumption))) ?_
          | refine force_of ?_
          | refine new_of ?_
          | refine take_of ?_
          | refine app_of ?_) ?_
    refine Then.nm ?_
    refine WP.cond (by with_unfolding_all rfl) (fun ht16 => ?_) (fun ht16 => ?_)
    · -- t16 True
      simp at ht16
      refine WP.seq ?_
      refine WP.region (by
          repeat first
            | rfl
            | refine ob_of lenV_sl ?_
            | refine ob_of lenV_ref ?_
            | refine ob_of lenV_str ?_
            | refine ob_of lenV_nil ?_
            | refine ob_of bin_lss ?_
            | refine ob_of bin_gtr ?_
            | refine ob_of bin_leq ?_
            | refine ob_of bin_geq ?_
            | refine ob_of bin_eql ?_
            | refine ob_of bin_neq ?_
            | refine ob_of bin_seql ?_
            | refine ob_of bin_sneq ?_
            | refine ob_of mm_max ?_
            | refine ob_of mm_min ?_
            | refine ob_of (bin_add (by omega)) ?_
            | refine ob_of (bin_sub (by omega)) ?_
            | refine ob_of (bin_mul (by omega)) ?_
            | refine ob_of (by assumption) ?_
            | refine ob_of (index_sl (by assumption)) ?_
            | refine ob_of (index_str (by assumption)) ?_
            | refine ob_of (by with_unfolding_all rfl) ?_
            | refine op2_of (by with_unfolding_all rfl) ?_
            | refine ifb_t (by with_unfolding_all rfl) ?_
            | refine ifb_f (by with_unfolding_all rfl) ?_
            | refine ifb_t (decide_eq_true (by first | omega | assumption)) ?_
            | refine ifb_f (decide_eq_false (by first | omega | assumption)) ?_
            | refine ifb_t (beq_tt (decide_eq_true (by first | omega | assumption))) ?_
            | refine ifb_f (beq_tf (decide_eq_false (by first | omega | assumption))) ?_
            | refine ifb_t (beq_ff (decide_eq_false (by first | omega | assumption))) ?_
            | refine ifb_f (beq_ft (decide_eq_true (by first | omega | assumption))) ?_
            | refine force_of ?_
            | refine new_of ?_
            | refine take_of ?_
            | refine app_of ?_) ?_
      refine Then.nm ?_
      refine WP.ret ?_
      refine Then.rt ?_
      exact ⟨_, .inl rfl, Ends.mk rfl (by with_unfolding_all rfl) ⟨_, (by with_unfolding_all rfl)⟩⟩
    · -- t16 False
      simp at ht16
      refine WP.skip (.refl _) ?_
      refine Then.nm ?_
      refine WP.seq ?_
      refine WP.seq ?_
      refine WP.region (by
          repeat first
            | rfl
            | refine ob_of lenV_sl ?_
            | refine ob_of lenV_ref ?_
            | refine ob_of lenV_str ?_
            | refine ob_of lenV_nil ?_
            | refine ob_of bin_lss ?_
            | refine ob_of bin_gtr ?_
            | refine ob_of bin_leq ?_
            | refine ob_of bin_geq ?_
            | refine ob_of bin_eql ?_
            | refine ob_of bin_neq ?_
            | refine ob_of bin_seql ?_
            | refine ob_of bin_sneq ?_
            | refine ob_of mm_max ?_
            | refine ob_of mm_min ?_
            | refine ob_of (bin_add (by omega)) ?_
            | refine ob_of (bin_sub (by omega)) ?_
            | refine ob_of (bin_mul (by omega)) ?_
            | refine ob_of (by assumption) ?_
            | refine ob_of (index_sl (by assumption)) ?_
            | refine ob_of (index_str (by assumption)) ?_
            | refine ob_of (by with_unfolding_all rfl) ?_
            | refine op2_of (by with_unfolding_all rfl) ?_
            | refine ifb_t (by with_unfolding_all rfl) ?_
            | refine ifb_f (by with_unfolding_all rfl) ?_
            | refine ifb_t (decide_eq_true (by first | omega | assumption)) ?_
            | refine ifb_f (decide_eq_false (by first | omega | assumption)) ?_
            | refine ifb_t (beq_tt (decide_eq_true (by first | omega | assumption))) ?_
            | refine ifb_f (beq_tf (decide_eq_false (by first | omega | assumption))) ?_
            | refine ifb_t (beq_ff (decide_eq_false (by first | omega | assumption))) ?_
            | refine ifb_f (beq_ft (decide_eq_true (by first | omega | assumption))) ?_
            | refine force_of ?_
            | refine new_of ?_
            | refine take_of ?_
            | refine app_of ?_) ?_
      refine Then.nm ?_
      refine WP.block ?_
      refine WP.loop (fun k : Nat => (.cons 0 (.str l) (.cons 4 (.int .i64 (k : Int)) .nil))) (fun _ => heap0) (fun k => k ≤ l.length) (fun k => l.length - k) ?_ 0 ?_ ?_ ?_
      · intro k (hk : k ≤ l.length)
        refine (show WP E1 _ _ (.cons 0 (.str l) (.cons 4 (.int .i64 (k : Int)) .nil)) heap0 _ from ?_)
        refine WP.seq ?_
        refine WP.seq ?_
        refine WP.region (by
            repeat first
              | rfl
              | refine ob_of lenV_sl ?_
              | refine ob_of lenV_ref ?_
              | refine ob_of lenV_str ?_
              | refine ob_of lenV_nil ?_
              | refine ob_of bin_lss ?_
              | refine ob_of bin_gtr ?_
              | refine ob_of bin_leq ?_
              | refine ob_of bin_geq ?_
              | refine ob_of bin_eql ?_
              | refine ob_of bin_neq ?_
              | refine ob_of bin_seql ?_
              | refine ob_of bin_sneq ?_
              | refine ob_of mm_max ?_
              | refine ob_of mm_min ?_
              | refine ob_of (bin_add (by omega)) ?_
              | refine ob_of (bin_sub (by omega)) ?_
              | refine ob_of (bin_mul (by omega)) ?_
              | refine ob_of (by assumption) ?_
              | refine ob_of (index_sl (by assumption)) ?_
              | refine ob_of (index_str (by assumption)) ?_
              | refine ob_of (by with_unfolding_all rfl) ?_
              | refine op2_of (by with_unfolding_all rfl) ?_
              | refine ifb_t (by with_unfolding_all rfl) ?_
              | refine ifb_f (by with_unfolding_all rfl) ?_
              | refine ifb_t (decide_eq_true (by first | omega | assumption)) ?_
              | refine ifb_f (decide_eq_false (by first | omega | assumption)) ?_
              | refine ifb_t (beq_tt (decide_eq_true (by first | omega | assumption))) ?_
              | refine ifb_f (beq_tf (decide_eq_false (by first | omega | assumption))) ?_
              | refine ifb_t (beq_ff (decide_eq_false (by first | omega | assumption))) ?_
              | refine ifb_f (beq_ft (decide_eq_true (by first | omega | assumption))) ?_
              | refine force_of ?_
              | refine new_of ?_
              | refine take_of ?_
              | refine app_of ?_) ?_
        refine Then.nm ?_
        refine WP.cond (by with_unfolding_all rfl) (fun ht20 => ?_) (fun ht20 => ?_)
        · -- t20 True
          simp at ht20
          refine WP.skip (.refl _) ?_
          refine Then.nm ?_
          refine WP.seq ?_
          refine WP.block ?_
          refine WP.seq ?_
          obtain ⟨c1, hc1⟩ : ∃ c, l[k]? = some c := ⟨l[k], by simp [ht20]⟩
          refine WP.region (by
              repeat first
                | rfl
                | refine ob_of lenV_sl ?_
                | refine ob_of lenV_ref ?_
                | refine ob_of lenV_str ?_
                | refine ob_of lenV_nil ?_
                | refine ob_of bin_lss ?_
                | refine ob_of bin_gtr ?_
                | refine ob_of bin_leq ?_
                | refine ob_of bin_geq ?_
                | refine ob_of bin_eql ?_
                | refine ob_of bin_neq ?_
                | refine ob_of bin_seql ?_
                | refine ob_of bin_sneq ?_
                | refine ob_of mm_max ?_
                | refine ob_of mm_min ?_
                | refine ob_of (bin_add (by omega)) ?_
                | refine ob_of (bin_sub (by omega)) ?_
                | refine ob_of (bin_mul (by omega)) ?_
                | refine ob_of (by assumption) ?_
                | refine ob_of (index_sl (by assumption)) ?_
                | refine ob_of (index_str (by assumption)) ?_
                | refine ob_of (by with_unfolding_all rfl) ?_
                | refine op2_of (by with_unfolding_all rfl) ?_
                | refine ifb_t (by with_unfolding_all rfl) ?_
                | refine ifb_f (by with_unfolding_all rfl) ?_
                | refine ifb_t (decide_eq_true (by first | omega | assumption)) ?_
                | refine ifb_f (decide_eq_false (by first | omega | assumption)) ?_
                | refine ifb_t (beq_tt (decide_eq_true (by first | omega | assumption))) ?_
                | refine ifb_f (beq_tf (decide_eq_false (by first | omega | assumption))) ?_
                | refine ifb_t (beq_ff (decide_eq_false (by first | omega | assumption))) ?_
                | refine ifb_f (beq_ft (decide_eq_true (by first | omega | assumption))) ?_
                | refine force_of ?_
                | refine new_of ?_
                | refine take_of ?_
                | refine app_of ?_) ?_
          refine Then.nm ?_
          refine WP.cond (by with_unfolding_all rfl) (fun ht26 => ?_) (fun ht26 => ?_)
          · -- t26 True
            simp at ht26
            refine WP.seq ?_
            refine WP.region (by
                repeat first
                  | rfl
                  | refine ob_of lenV_sl ?_
                  | refine ob_of lenV_ref ?_
                  | refine ob_of lenV_str ?_
                  | refine ob_of lenV_nil ?_
                  | refine ob_of bin_lss ?_
                  | refine ob_of bin_gtr ?_
                  | refine ob_of bin_leq ?_
                  | refine ob_of bin_geq ?_
                  | refine ob_of bin_eql ?_
                  | refine ob_of bin_neq ?_
                  | refine ob_of bin_seql ?_
                  | refine ob_of bin_sneq ?_
                  | refine ob_of mm_max ?_
                  | refine ob_of mm_min ?_
                  | refine ob_of (bin_add (by omega)) ?_
                  | refine ob_of (bin_sub (by omega)) ?_
                  | refine ob_of (bin_mul (by omega)) ?_
                  | refine ob_of (by assumption) ?_
                  | refine ob_of (index_sl (by assumption)) ?_
                  | refine ob_of (index_str (by assumption)) ?_
                  | refine ob_of (by with_unfolding_all rfl) ?_
                  | refine op2_of (by with_unfolding_all rfl) ?_
                  | refine ifb_t (by with_unfolding_all rfl) ?_
                  | refine ifb_f (by with_unfolding_all rfl) ?_
                  | refine ifb_t (decide_eq_true (by first | omega | assumption)) ?_
                  | refine ifb_f (decide_eq_false (by first | omega | assumption)) ?_
                  | refine ifb_t (beq_tt (decide_eq_true (by first | omega | assumption))) ?_
                  | refine ifb_f (beq_tf (decide_eq_false (by first | omega | assumption))) ?_
                  | refine ifb_t (beq_ff (decide_eq_false (by first | omega | assumption))) ?_
                  | refine ifb_f (beq_ft (decide_eq_true (by first | omega | assumption))) ?_
                  | refine force_of ?_
                  | refine new_of ?_
                  | refine take_of ?_
                  | refine app_of ?_) ?_
            refine Then.nm ?_
            refine WP.ret ?_
            refine Blok.rt ?_
            refine Then.rt ?_
            refine Round.rt ?_
            refine Blok.rt ?_
            refine Then.rt ?_
            exact ⟨_, .inl rfl, Ends.mk rfl (by with_unfolding_all rfl) ⟨_, (by with_unfolding_all rfl)⟩⟩
          · -- t26 False
            simp at ht26
            refine WP.skip (.refl _) ?_
            refine Blok.nm ?_
            refine Then.nm ?_
            refine WP.region (by
                repeat first
                  | rfl
                  | refine ob_of lenV_sl ?_
                  | refine ob_of lenV_ref ?_
                  | refine ob_of lenV_str ?_
                  | refine ob_of lenV_nil ?_
                  | refine ob_of bin_lss ?_
                  | refine ob_of bin_gtr ?_
                  | refine ob_of bin_leq ?_
                  | refine ob_of bin_geq ?_
                  | refine ob_of bin_eql ?_
                  | refine ob_of bin_neq ?_
                  | refine ob_of bin_seql ?_
                  | refine ob_of bin_sneq ?_
                  | refine ob_of mm_max ?_
                  | refine ob_of mm_min ?_
                  | refine ob_of (bin_add (by omega)) ?_
                  | refine ob_of (bin_sub (by omega)) ?_
                  | refine ob_of (bin_mul (by omega)) ?_
                  | refine ob_of (by assumption) ?_
                  | refine ob_of (index_sl (by assumption)) ?_
                  | refine ob_of (index_str (by assumption)) ?_
                  | refine ob_of (by with_unfolding_all rfl) ?_
                  | refine op2_of (by with_unfolding_all rfl) ?_
                  | refine ifb_t (by with_unfolding_all rfl) ?_
                  | refine ifb_f (by with_unfolding_all rfl) ?_
                  | refine ifb_t (decide_eq_true (by first | omega | assumption)) ?_
                  | refine ifb_f (decide_eq_false (by first | omega | assumption)) ?_
                  | refine ifb_t (beq_tt (decide_eq_true (by first | omega | assumption))) ?_
                  | refine ifb_f (beq_tf (decide_eq_false (by first | omega | assumption))) ?_
                  | refine ifb_t (beq_ff (decide_eq_false (by first | omega | assumption))) ?_
                  | refine ifb_f (beq_ft (decide_eq_true (by first | omega | assumption))) ?_
                  | refine force_of ?_
                  | refine new_of ?_
                  | refine take_of ?_
                  | refine app_of ?_) ?_
            refine Round.nm (k + 1) ?_ ?_ ?_ ?_
            · exact ht20
            · show l.length - (k + 1) < l.length - k; omega
            · repeat (first | exact Sub.nil _ | refine Sub.cons (by with_unfolding_all rfl) ?_)
            · rfl
        · -- t20 False
          simp at ht20
          refine WP.exit (.refl _) ?_
          refine Then.ex ?_
          refine Round.ex ?_
          refine Blok.here ?_
          refine Then.nm ?_
          refine WP.seq ?_
          refine WP.seq ?_
          refine WP.region (by
              repeat first
                | rfl
                | refine ob_of lenV_sl ?_
                | refine ob_of lenV_ref ?_
                | refine ob_of lenV_str ?_
                | refine ob_of lenV_nil ?_
                | refine ob_of bin_lss ?_
                | refine ob_of bin_gtr ?_
                | refine ob_of bin_leq ?_
                | refine ob_of bin_geq ?_
                | refine ob_of bin_eql ?_
                | refine ob_of bin_neq ?_
                | refine ob_of bin_seql ?_
                | refine ob_of bin_sneq ?_
                | refine ob_of mm_max ?_
                | refine ob_of mm_min ?_
                | refine ob_of (bin_add (by omega)) ?_
                | refine ob_of (bin_sub (by omega)) ?_
                | refine ob_of (bin_mul (by omega)) ?_
                | refine ob_of (by assumption) ?_
                | refine ob_of (index_sl (by assumption)) ?_
                | refine ob_of (index_str (by assumption)) ?_
                | refine ob_of (by with_unfolding_all rfl) ?_
                | refine op2_of (by with_unfolding_all rfl) ?_
                | refine ifb_t (by with_unfolding_all rfl) ?_
                | refine ifb_f (by with_unfolding_all rfl) ?_
                | refine ifb_t (decide_eq_true (by first | omega | assumption)) ?_
                | refine ifb_f (decide_eq_false (by first | omega | assumption)) ?_
                | refine ifb_t (beq_tt (decide_eq_true (by first | omega | assumption))) ?_
                | refine ifb_f (beq_tf (decide_eq_false (by first | omega | assumption))) ?_
                | refine ifb_t (beq_ff (decide_eq_false (by first | omega | assumption))) ?_
                | refine ifb_f (beq_ft (decide_eq_true (by first | omega | assumption))) ?_
                | refine force_of ?_
                | refine new_of ?_
                | refine take_of ?_
                | refine app_of ?_) ?_
          refine Then.nm ?_
          refine WP.cond (by with_unfolding_all rfl) (fun ht29 => ?_) (fun ht29 => ?_)
          · -- t29 True
            simp at ht29
            refine WP.seq ?_
            refine WP.region (by
                repeat first
                  | rfl
                  | refine ob_of lenV_sl ?_
                  | refine ob_of lenV_ref ?_
                  | refine ob_of lenV_str ?_
                  | refine ob_of lenV_nil ?_
                  | refine ob_of bin_lss ?_
                  | refine ob_of bin_gtr ?_
                  | refine ob_of bin_leq ?_
                  | refine ob_of bin_geq ?_
                  | refine ob_of bin_eql ?_
                  | refine ob_of bin_neq ?_
                  | refine ob_of bin_seql ?_
                  | refine ob_of bin_sneq ?_
                  | refine ob_of mm_max ?_
                  | refine ob_of mm_min ?_
                  | refine ob_of (bin_add (by omega)) ?_
                  | refine ob_of (bin_sub (by omega)) ?_
                  | refine ob_of (bin_mul (by omega)) ?_
                  | refine ob_of (by assumption) ?_
                  | refine ob_of (index_sl (by assumption)) ?_
                  | refine ob_of (index_str (by assumption)) ?_
                  | refine ob_of (by with_unfolding_all rfl) ?_
                  | refine op2_of (by with_unfolding_all rfl) ?_
                  | refine ifb_t (by with_unfolding_all rfl) ?_
                  | refine ifb_f (by with_unfolding_all rfl) ?_
                  | refine ifb_t (decide_eq_true (by first | omega | assumption)) ?_
                  | refine ifb_f (decide_eq_false (by first | omega | assumption)) ?_
                  | refine ifb_t (beq_tt (decide_eq_true (by first | omega | assumption))) ?_
                  | refine ifb_f (beq_tf (decide_eq_false (by first | omega | assumption))) ?_
                  | refine ifb_t (beq_ff (decide_eq_false (by first | omega | assumption))) ?_
                  | refine ifb_f (beq_ft (decide_eq_true (by first | omega | assumption))) ?_
                  | refine force_of ?_
                  | refine new_of ?_
                  | refine take_of ?_
                  | refine app_of ?_) ?_
            refine Then.nm ?_
            refine WP.ret ?_
            refine Then.rt ?_
            exact ⟨_, .inr (.inl rfl), Ends.mk rfl (by with_unfolding_all rfl) ⟨_, (by with_unfolding_all rfl)⟩⟩
          · -- t29 False
            simp at ht29
            refine WP.skip (.refl _) ?_
            refine Then.nm ?_
            refine WP.seq ?_
            refine WP.region (by
                repeat first
                  | rfl
                  | refine ob_of lenV_sl ?_
                  | refine ob_of lenV_ref ?_
                  | refine ob_of lenV_str ?_
                  | refine ob_of lenV_nil ?_
                  | refine ob_of bin_lss ?_
                  | refine ob_of bin_gtr ?_
                  | refine ob_of bin_leq ?_
                  | refine ob_of bin_geq ?_
                  | refine ob_of bin_eql ?_
                  | refine ob_of bin_neq ?_
                  | refine ob_of bin_seql ?_
                  | refine ob_of bin_sneq ?_
                  | refine ob_of mm_max ?_
                  | refine ob_of mm_min ?_
                  | refine ob_of (bin_add (by omega)) ?_
                  | refine ob_of (bin_sub (by omega)) ?_
                  | refine ob_of (bin_mul (by omega)) ?_
                  | refine ob_of (by assumption) ?_
                  | refine ob_of (index_sl (by assumption)) ?_
                  | refine ob_of (index_str (by assumption)) ?_
                  | refine ob_of (by with_unfolding_all rfl) ?_
                  | refine op2_of (by with_unfolding_all rfl) ?_
                  | refine ifb_t (by with_unfolding_all rfl) ?_
                  | refine ifb_f (by with_unfolding_all rfl) ?_
                  | refine ifb_t (decide_eq_true (by first | omega | assumption)) ?_
                  | refine ifb_f (decide_eq_false (by first | omega | assumption)) ?_
                  | refine ifb_t (beq_tt (decide_eq_true (by first | omega | assumption))) ?_
                  | refine ifb_f (beq_tf (decide_eq_false (by first | omega | assumption))) ?_
                  | refine ifb_t (beq_ff (decide_eq_false (by first | omega | assumption))) ?_
                  | refine ifb_f (beq_ft (decide_eq_true (by first | omega | assumption))) ?_
                  | refine force_of ?_
                  | refine new_of ?_
                  | refine take_of ?_
                  | refine app_of ?_) ?_
            refine Then.nm ?_
            refine WP.seq ?_
            refine WP.region (by
                repeat first
                  | rfl
                  | refine ob_of lenV_sl ?_
                  | refine ob_of lenV_ref ?_
                  | refine ob_of lenV_str ?_
                  | refine ob_of lenV_nil ?_
                  | refine ob_of bin_lss ?_
                  | refine ob_of bin_gtr ?_
                  | refine ob_of bin_leq ?_
                  | refine ob_of bin_geq ?_
                  | refine ob_of bin_eql ?_
                  | refine ob_of bin_neq ?_
                  | refine ob_of bin_seql ?_
                  | refine ob_of bin_sneq ?_
                  | refine ob_of mm_max ?_
                  | refine ob_of mm_min ?_
                  | refine ob_of (bin_add (by omega)) ?_
                  | refine ob_of (bin_sub (by omega)) ?_
                  | refine ob_of (bin_mul (by omega)) ?_
                  | refine ob_of (by assumption) ?_
                  | refine ob_of (index_sl (by assumption)) ?_
                  | refine ob_of (index_str (by assumption)) ?_
                  | refine ob_of (by with_unfolding_all rfl) ?_
                  | refine op2_of (by with_unfolding_all rfl) ?_
                  | refine ifb_t (by with_unfolding_all rfl) ?_
                  | refine ifb_f (by with_unfolding_all rfl) ?_
                  | refine ifb_t (decide_eq_true (by first | omega | assumption)) ?_
                  | refine ifb_f (decide_eq_false (by first | omega | assumption)) ?_
                  | refine ifb_t (beq_tt (decide_eq_true (by first | omega | assumption))) ?_
                  | refine ifb_f (beq_tf (decide_eq_false (by first | omega | assumption))) ?_
                  | refine ifb_t (beq_ff (decide_eq_false (by first | omega | assumption))) ?_
                  | refine ifb_f (beq_ft (decide_eq_true (by first | omega | assumption))) ?_
                  | refine force_of ?_
                  | refine new_of ?_
                  | refine take_of ?_
                  | refine app_of ?_) ?_
            refine Then.nm ?_
            refine WP.seq ?_
            refine WP.seq ?_
            refine WP.region (by
                repeat first
                  | rfl
                  | refine ob_of lenV_sl ?_
                  | refine ob_of lenV_ref ?_
                  | refine ob_of lenV_str ?_
                  | refine ob_of lenV_nil ?_
                  | refine ob_of bin_lss ?_
                  | refine ob_of bin_gtr ?_
                  | refine ob_of bin_leq ?_
                  | refine ob_of bin_geq ?_
                  | refine ob_of bin_eql ?_
                  | refine ob_of bin_neq ?_
                  | refine ob_of bin_seql ?_
                  | refine ob_of bin_sneq ?_
                  | refine ob_of mm_max ?_
                  | refine ob_of mm_min ?_
                  | refine ob_of (bin_add (by omega)) ?_
                  | refine ob_of (bin_sub (by omega)) ?_
                  | refine ob_of (bin_mul (by omega)) ?_
                  | refine ob_of (by assumption) ?_
                  | refine ob_of (index_sl (by assumption)) ?_
                  | refine ob_of (index_str (by assumption)) ?_
                  | refine ob_of (by with_unfolding_all rfl) ?_
                  | refine op2_of (by with_unfolding_all rfl) ?_
                  | refine ifb_t (by with_unfolding_all rfl) ?_
                  | refine ifb_f (by with_unfolding_all rfl) ?_
                  | refine ifb_t (decide_eq_true (by first | omega | assumption)) ?_
                  | refine ifb_f (decide_eq_false (by first | omega | assumption)) ?_
                  | refine ifb_t (beq_tt (decide_eq_true (by first | omega | assumption))) ?_
                  | refine ifb_f (beq_tf (decide_eq_false (by first | omega | assumption))) ?_
                  | refine ifb_t (beq_ff (decide_eq_false (by first | omega | assumption))) ?_
                  | refine ifb_f (beq_ft (decide_eq_true (by first | omega | assumption))) ?_
                  | refine force_of ?_
                  | refine new_of ?_
                  | refine take_of ?_
                  | refine app_of ?_) ?_
            refine Then.nm ?_
            refine WP.block ?_
            refine WP.loop (fun s : AV × List (List Nat) × Heap × Nat × Nat => (.cons 0 (.str l) (.cons 5 (s.1) (.cons 6 (.int .i64 ((s.2.2.2.2 : Nat) : Int)) (.cons 7 (.int .i64 ((s.2.2.2.1 : Nat) : Int)) .nil))))) (fun s => s.2.2.1) (fun s => Pinv l.length s.1 s.2.1 s.2.2.1 s.2.2.2.1 s.2.2.2.2) (fun s => l.length + 1 - s.2.2.2.1) ?_ (.nil, [], heap0, 1, 1) ?_ ?_ ?_
            · intro ⟨L, names, hp, k, fr⟩ hinv
              obtain ⟨hk0, hk, hfr, hn, hx16, hL⟩ : Pinv l.length L names hp k fr := hinv
              refine (show WP E1 _ _ (.cons 0 (.str l) (.cons 5 (L) (.cons 6 (.int .i64 (fr : Int)) (.cons 7 (.int .i64 (k : Int)) .nil)))) hp _ from ?_)
              refine WP.seq ?_
              refine WP.seq ?_
              refine WP.region (by
                  repeat first
                    | rfl
                    | refine ob_of lenV_sl ?_
                    | refine ob_of lenV_ref ?_
                    | refine ob_of lenV_str ?_
                    | refine ob_of lenV_nil ?_
                    | refine ob_of bin_lss ?_
                    | refine ob_of bin_gtr ?_
                    | refine ob_of bin_leq ?_
                    | refine ob_of bin_geq ?_
                    | refine ob_of bin_eql ?_
                    | refine ob_of bin_neq ?_
                    | refine ob_of bin_seql ?_
                    | refine ob_of bin_sneq ?_
                    | refine ob_of mm_max ?_
                    | refine ob_of mm_min ?_
                    | refine ob_of (bin_add (by omega)) ?_
                    | refine ob_of (bin_sub (by omega)) ?_
                    | refine ob_of (bin_mul (by omega)) ?_
                    | refine ob_of (by assumption) ?_
                    | refine ob_of (index_sl (by assumption)) ?_
                    | refine ob_of (index_str (by assumption)) ?_
                    | refine ob_of (by with_unfolding_all rfl) ?_
                    | refine op2_of (by with_unfolding_all rfl) ?_
                    | refine ifb_t (by with_unfolding_all rfl) ?_
                    | refine ifb_f (by with_unfolding_all rfl) ?_
                    | refine ifb_t (decide_eq_true (by first | omega | assumption)) ?_
                    | refine ifb_f (decide_eq_false (by first | omega | assumption)) ?_
                    | refine ifb_t (beq_tt (decide_eq_true (by first | omega | assumption))) ?_
                    | refine ifb_f (beq_tf (decide_eq_false (by first | omega | assumption))) ?_
                    | refine ifb_t (beq_ff (decide_eq_false (by first | omega | assumption))) ?_
                    | refine ifb_f (beq_ft (decide_eq_true (by first | omega | assumption))) ?_
                    | refine force_of ?_
                    | refine new_of ?_
                    | refine take_of ?_
                    | refine app_of ?_) ?_
              refine Then.nm ?_
              refine WP.cond (by with_unfolding_all rfl) (fun ht33 => ?_) (fun ht33 => ?_)
              · -- t33 True
                simp at ht33
                refine WP.skip (.refl _) ?_
                refine Then.nm ?_
                refine WP.seq ?_
                refine WP.block ?_
                refine WP.seq ?_
                refine WP.seq ?_
                by_cases h15 : k < l.length
                · -- r15 True
                  obtain ⟨c1, hc1⟩ : ∃ c, l[k]? = some c := ⟨l[k], by simp [h15]⟩
                  refine WP.region (by
                      repeat first
                        | rfl
                        | refine ob_of lenV_sl ?_
                        | refine ob_of lenV_ref ?_
                        | refine ob_of lenV_str ?_
                        | refine ob_of lenV_nil ?_
                        | refine ob_of bin_lss ?_
                        | refine ob_of bin_gtr ?_
                        | refine ob_of bin_leq ?_
                        | refine ob_of bin_geq ?_
                        | refine ob_of bin_eql ?_
                        | refine ob_of bin_neq ?_
                        | refine ob_of bin_seql ?_
                        | refine ob_of bin_sneq ?_
                        | refine ob_of mm_max ?_
                        | refine ob_of mm_min ?_
                        | refine ob_of (bin_add (by omega)) ?_
                        | refine ob_of (bin_sub (by omega)) ?_
                        | refine ob_of (bin_mul (by omega)) ?_
                        | refine ob_of (by assumption) ?_
                        | refine ob_of (index_sl (by assumption)) ?_
                        | refine ob_of (index_str (by assumption)) ?_
                        | refine ob_of (by with_unfolding_all rfl) ?_
                        | refine op2_of (by with_unfolding_all rfl) ?_
                        | refine ifb_t (by with_unfolding_all rfl) ?_
                        | refine ifb_f (by with_unfolding_all rfl) ?_
                        | refine ifb_t (decide_eq_true (by first | omega | assumption)) ?_
                        | refine ifb_f (decide_eq_false (by first | omega | assumption)) ?_
                        | refine ifb_t (beq_tt (decide_eq_true (by first | omega | assumption))) ?_
                        | refine ifb_f (beq_tf (decide_eq_false (by first | omega | assumption))) ?_
                        | refine ifb_t (beq_ff (decide_eq_false (by first | omega | assumption))) ?_
                        | refine ifb_f (beq_ft (decide_eq_true (by first | omega | assumption))) ?_
                        | refine force_of ?_
                        | refine new_of ?_
                        | refine take_of ?_
                        | refine app_of ?_) ?_
                  refine Then.nm ?_
                  refine WP.cond (by with_unfolding_all rfl) (fun ht45 => ?_) (fun ht45 => ?_)
                  · -- t45 True
                    simp at ht45
                    refine WP.exit (.refl _) ?_
                    refine Then.ex ?_
                    refine Blok.here ?_
                    refine Then.nm ?_
                    refine WP.region (by
                        repeat first
                          | rfl
                          | refine ob_of lenV_sl ?_
                          | refine ob_of lenV_ref ?_
                          | refine ob_of lenV_str ?_
                          | refine ob_of lenV_nil ?_
                          | refine ob_of bin_lss ?_
                          | refine ob_of bin_gtr ?_
                          | refine ob_of bin_leq ?_
                          | refine ob_of bin_geq ?_
                          | refine ob_of bin_eql ?_
                          | refine ob_of bin_neq ?_
                          | refine ob_of bin_seql ?_
                          | refine ob_of bin_sneq ?_
                          | refine ob_of mm_max ?_
                          | refine ob_of mm_min ?_
                          | refine ob_of (bin_add (by omega)) ?_
                          | refine ob_of (bin_sub (by omega)) ?_
                          | refine ob_of (bin_mul (by omega)) ?_
                          | refine ob_of (by assumption) ?_
                          | refine ob_of (index_sl (by assumption)) ?_
                          | refine ob_of (index_str (by assumption)) ?_
                          | refine ob_of (by with_unfolding_all rfl) ?_
                          | refine op2_of (by with_unfolding_all rfl) ?_
                          | refine ifb_t (by with_unfolding_all rfl) ?_
                          | refine ifb_f (by with_unfolding_all rfl) ?_
                          | refine ifb_t (decide_eq_true (by first | omega | assumption)) ?_
                          | refine ifb_f (decide_eq_false (by first | omega | assumption)) ?_
                          | refine ifb_t (beq_tt (decide_eq_true (by first | omega | assumption))) ?_
                          | refine ifb_f (beq_tf (decide_eq_false (by first | omega | assumption))) ?_
                          | refine ifb_t (beq_ff (decide_eq_false (by first | omega | assumption))) ?_
                          | refine ifb_f (beq_ft (decide_eq_true (by first | omega | assumption))) ?_
                          | refine force_of ?_
                          | refine new_of ?_
                          | refine take_of ?_
                          | refine app_of ?_) ?_
                    refine Round.nm ((L, names, hp, k + 1, fr)) ?_ ?_ ?_ ?_
                    · exact (show Pinv l.length L names hp (k + 1) (fr) from ⟨by omega, by omega, by omega, hn, hx16, hL⟩)
                    · show l.length + 1 - (k + 1) < l.length + 1 - k; omega
                    · repeat (first | exact Sub.nil _ | refine Sub.cons (by with_unfolding_all rfl) ?_)
                    · rfl
                  · -- t45 False
                    simp at ht45
                    refine WP.skip (.refl _) ?_
                    refine Then.nm ?_
                    refine WP.seq ?_
                    refine WP.region (by
                        repeat first
                          | rfl
                          | refine ob_of (slice_str (by with_unfolding_all rfl) (by omega) (by omega)) ?_
                          | refine ob_of lenV_sl ?_
                          | refine ob_of lenV_ref ?_
                          | refine ob_of lenV_str ?_
                          | refine ob_of lenV_nil ?_
                          | refine ob_of bin_lss ?_
                          | refine ob_of bin_gtr ?_
                          | refine ob_of bin_leq ?_
                          | refine ob_of bin_geq ?_
                          | refine ob_of bin_eql ?_
                          | refine ob_of bin_neq ?_
                          | refine ob_of bin_seql ?_
                          | refine ob_of bin_sneq ?_
                          | refine ob_of mm_max ?_
                          | refine ob_of mm_min ?_
                          | refine ob_of (bin_add (by omega)) ?_
                          | refine ob_of (bin_sub (by omega)) ?_
                          | refine ob_of (bin_mul (by omega)) ?_
                          | refine ob_of (by assumption) ?_
                          | refine ob_of (index_sl (by assumption)) ?_
                          | refine ob_of (index_str (by assumption)) ?_
                          | refine ob_of (by with_unfolding_all rfl) ?_
                          | refine op2_of (by with_unfolding_all rfl) ?_
                          | refine ifb_t (by with_unfolding_all rfl) ?_
                          | refine ifb_f (by with_unfolding_all rfl) ?_
                          | refine ifb_t (decide_eq_true (by first | omega | assumption)) ?_
                          | refine ifb_f (decide_eq_false (by first | omega | assumption)) ?_
                          | refine ifb_t (beq_tt (decide_eq_true (by first | omega | assumption))) ?_
                          | refine ifb_f (beq_tf (decide_eq_false (by first | omega | assumption))) ?_
                          | refine ifb_t (beq_ff (decide_eq_false (by first | omega | assumption))) ?_
                          | refine ifb_f (beq_ft (decide_eq_true (by first | omega | assumption))) ?_
                          | refine force_of ?_
                          | refine new_of ?_
                          | refine take_of ?_
                          | refine app_of ?_) ?_
                    have hxb : ∀ b ∈ (l.take k).drop fr, b < 256 := fun b hb => hlb b (List.mem_of_mem_take (List.mem_of_mem_drop hb))
                    generalize (l.take k).drop fr = x at hxb ⊢
                    refine Then.nm ?_
                    refine WP.seq ?_
                    refine WP.region (by
                        repeat first
                          | rfl
                          | refine ob_of lenV_sl ?_
                          | refine ob_of lenV_ref ?_
                          | refine ob_of lenV_str ?_
                          | refine ob_of lenV_nil ?_
                          | refine ob_of bin_lss ?_
                          | refine ob_of bin_gtr ?_
                          | refine ob_of bin_leq ?_
                          | refine ob_of bin_geq ?_
                          | refine ob_of bin_eql ?_
                          | refine ob_of bin_neq ?_
                          | refine ob_of bin_seql ?_
                          | refine ob_of bin_sneq ?_
                          | refine ob_of mm_max ?_
                          | refine ob_of mm_min ?_
                          | refine ob_of (bin_add (by omega)) ?_
                          | refine ob_of (bin_sub (by omega)) ?_
                          | refine ob_of (bin_mul (by omega)) ?_
                          | refine ob_of (by assumption) ?_
                          | refine ob_of (index_sl (by assumption)) ?_
                          | refine ob_of (index_str (by assumption)) ?_
                          | refine ob_of (by with_unfolding_all rfl) ?_
                          | refine op2_of (by with_unfolding_all rfl) ?_
                          | refine ifb_t (by with_unfolding_all rfl) ?_
                          | refine ifb_f (by with_unfolding_all rfl) ?_
                          | refine ifb_t (decide_eq_true (by first | omega | assumption)) ?_
                          | refine ifb_f (decide_eq_false (by first | omega | assumption)) ?_
                          | refine ifb_t (beq_tt (decide_eq_true (by first | omega | assumption))) ?_
                          | refine ifb_f (beq_tf (decide_eq_false (by first | omega | assumption))) ?_
                          | refine ifb_t (beq_ff (decide_eq_false (by first | omega | assumption))) ?_
                          | refine ifb_f (beq_ft (decide_eq_true (by first | omega | assumption))) ?_
                          | refine force_of ?_
                          | refine new_of ?_
                          | refine take_of ?_
                          | refine app_of ?_) ?_
                    refine Then.nm ?_
                    refine WP.block ?_
                    refine WP.seq ?_
                    by_cases h19 : x = bytesOfStr ⟨#[]⟩
                    · -- r19 True
                      refine WP.region (by
                          repeat first
                            | rfl
                            | refine ob_of lenV_sl ?_
                            | refine ob_of lenV_ref ?_
                            | refine ob_of lenV_str ?_
                            | refine ob_of lenV_nil ?_
                            | refine ob_of bin_lss ?_
                            | refine ob_of bin_gtr ?_
                            | refine ob_of bin_leq ?_
                            | refine ob_of bin_geq ?_
                            | refine ob_of bin_eql ?_
                            | refine ob_of bin_neq ?_
                            | refine ob_of bin_seql ?_
                            | refine ob_of bin_sneq ?_
                            | refine ob_of mm_max ?_
                            | refine ob_of mm_min ?_
                            | refine ob_of (bin_add (by omega)) ?_
                            | refine ob_of (bin_sub (by omega)) ?_
                            | refine ob_of (bin_mul (by omega)) ?_
                            | refine ob_of (by assumption) ?_
                            | refine ob_of (index_sl (by assumption)) ?_
                            | refine ob_of (index_str (by assumption)) ?_
                            | refine ob_of (by with_unfolding_all rfl) ?_
                            | refine op2_of (by with_unfolding_all rfl) ?_
                            | refine ifb_t (by with_unfolding_all rfl) ?_
                            | refine ifb_f (by with_unfolding_all rfl) ?_
                            | refine ifb_t (decide_eq_true (by first | omega | assumption)) ?_
                            | refine ifb_f (decide_eq_false (by first | omega | assumption)) ?_
                            | refine ifb_t (beq_tt (decide_eq_true (by first | omega | assumption))) ?_
                            | refine ifb_f (beq_tf (decide_eq_false (by first | omega | assumption))) ?_
                            | refine ifb_t (beq_ff (decide_eq_false (by first | omega | assumption))) ?_
                            | refine ifb_f (beq_ft (decide_eq_true (by first | omega | assumption))) ?_
                            | refine force_of ?_
                            | refine new_of ?_
                            | refine take_of ?_
                            | refine app_of ?_) ?_
                      refine Then.nm ?_
                      refine WP.cond (by with_unfolding_all rfl) (fun ht58 => ?_) (fun ht58 => ?_)
                      · -- t58 True
                        clear ht58
                        refine WP.skip (.refl _) ?_
                        refine Blok.nm ?_
                        refine Blok.nm ?_
                        refine Then.nm ?_
                        refine WP.region (by
                            repeat first
                              | rfl
                              | refine ob_of lenV_sl ?_
                              | refine ob_of lenV_ref ?_
                              | refine ob_of lenV_str ?_
                              | refine ob_of lenV_nil ?_
                              | refine ob_of bin_lss ?_
                              | refine ob_of bin_gtr ?_
                              | refine ob_of bin_leq ?_
                              | refine ob_of bin_geq ?_
                              | refine ob_of bin_eql ?_
                              | refine ob_of bin_neq ?_
                              | refine ob_of bin_seql ?_
                              | refine ob_of bin_sneq ?_
                              | refine ob_of mm_max ?_
                              | refine ob_of mm_min ?_
                              | refine ob_of (bin_add (by omega)) ?_
                              | refine ob_of (bin_sub (by omega)) ?_
                              | refine ob_of (bin_mul (by omega)) ?_
                              | refine ob_of (by assumption) ?_
                              | refine ob_of (index_sl (by assumption)) ?_
                              | refine ob_of (index_str (by assumption)) ?_
                              | refine ob_of (by with_unfolding_all rfl) ?_
                              | refine op2_of (by with_unfolding_all rfl) ?_
                              | refine ifb_t (by with_unfolding_all rfl) ?_
                              | refine ifb_f (by with_unfolding_all rfl) ?_
                              | refine ifb_t (decide_eq_true (by first | omega | assumption)) ?_
                              | refine ifb_f (decide_eq_false (by first | omega | assumption)) ?_
                              | refine ifb_t (beq_tt (decide_eq_true (by first | omega | assumption))) ?_
                              | refine ifb_f (beq_tf (decide_eq_false (by first | omega | assumption))) ?_
                              | refine ifb_t (beq_ff (decide_eq_false (by first | omega | assumption))) ?_
                              | refine ifb_f (beq_ft (decide_eq_true (by first | omega | assumption))) ?_
                              | refine force_of ?_
                              | refine new_of ?_
                              | refine take_of ?_
                              | refine app_of ?_) ?_
                        refine Round.nm ((L, names, hp, k + 1, k + 1)) ?_ ?_ ?_ ?_
                        · exact (show Pinv l.length L names hp (k + 1) (k + 1) from ⟨by omega, by omega, by omega, hn, hx16, hL⟩)
                        · show l.length + 1 - (k + 1) < l.length + 1 - k; omega
                        · repeat (first | exact Sub.nil _ | refine Sub.cons (by with_unfolding_all rfl) ?_)
                        · rfl
                      · first | (cases ht58; done) | (simp at ht58; done) | exact absurd ht58 (by decide)
                    · -- r19 False
                      refine WP.region (by
                          repeat first
                            | rfl
                            | refine ob_of lenV_sl ?_
                            | refine ob_of lenV_ref ?_
                            | refine ob_of lenV_str ?_
                            | refine ob_of lenV_nil ?_
                            | refine ob_of bin_lss ?_
                            | refine ob_of bin_gtr ?_
                            | refine ob_of bin_leq ?_
                            | refine ob_of bin_geq ?_
                            | refine ob_of bin_eql ?_
                            | refine ob_of bin_neq ?_
                            | refine ob_of bin_seql ?_
                            | refine ob_of bin_sneq ?_
                            | refine ob_of mm_max ?_
                            | refine ob_of mm_min ?_
                            | refine ob_of (bin_add (by omega)) ?_
                            | refine ob_of (bin_sub (by omega)) ?_
                            | refine ob_of (bin_mul (by omega)) ?_
                            | refine ob_of (by assumption) ?_
                            | refine ob_of (index_sl (by assumption)) ?_
                            | refine ob_of (index_str (by assumption)) ?_
                            | refine ob_of (by with_unfolding_all rfl) ?_
                            | refine op2_of (by with_unfolding_all rfl) ?_
                            | refine ifb_t (by with_unfolding_all rfl) ?_
                            | refine ifb_f (by with_unfolding_all rfl) ?_
                            | refine ifb_t (decide_eq_true (by first | omega | assumption)) ?_
                            | refine ifb_f (decide_eq_false (by first | omega | assumption)) ?_
                            | refine ifb_t (beq_tt (decide_eq_true (by first | omega | assumption))) ?_
                            | refine ifb_f (beq_tf (decide_eq_false (by first | omega | assumption))) ?_
                            | refine ifb_t (beq_ff (decide_eq_false (by first | omega | assumption))) ?_
                            | refine ifb_f (beq_ft (decide_eq_true (by first | omega | assumption))) ?_
                            | refine force_of ?_
                            | refine new_of ?_
                            | refine take_of ?_
                            | refine app_of ?_) ?_
                      refine Then.nm ?_
                      refine WP.cond (by with_unfolding_all rfl) (fun ht58 => ?_) (fun ht58 => ?_)
                      · -- t58 True
                        simp at ht58
                        refine WP.skip (.refl _) ?_
                        refine Blok.nm ?_
                        refine Blok.nm ?_
                        refine Then.nm ?_
                        refine WP.region (by
                            repeat first
                              | rfl
                              | refine ob_of lenV_sl ?_
                              | refine ob_of lenV_ref ?_
                              | refine ob_of lenV_str ?_
                              | refine ob_of lenV_nil ?_
                              | refine ob_of bin_lss ?_
                              | refine ob_of bin_gtr ?_
                              | refine ob_of bin_leq ?_
                              | refine ob_of bin_geq ?_
                              | refine ob_of bin_eql ?_
                              | refine ob_of bin_neq ?_
                              | refine ob_of bin_seql ?_
                              | refine ob_of bin_sneq ?_
                              | refine ob_of mm_max ?_
                              | refine ob_of mm_min ?_
                              | refine ob_of (bin_add (by omega)) ?_
                              | refine ob_of (bin_sub (by omega)) ?_
                              | refine ob_of (bin_mul (by omega)) ?_
                              | refine ob_of (by assumption) ?_
                              | refine ob_of (index_sl (by assumption)) ?_
                              | refine ob_of (index_str (by assumption)) ?_
                              | refine ob_of (by with_unfolding_all rfl) ?_
                              | refine op2_of (by with_unfolding_all rfl) ?_
                              | refine ifb_t (by with_unfolding_all rfl) ?_
                              | refine ifb_f (by with_unfolding_all rfl) ?_
                              | refine ifb_t (decide_eq_true (by first | omega | assumption)) ?_
                              | refine ifb_f (decide_eq_false (by first | omega | assumption)) ?_
                              | refine ifb_t (beq_tt (decide_eq_true (by first | omega | assumption))) ?_
                              | refine ifb_f (beq_tf (decide_eq_false (by first | omega | assumption))) ?_
                              | refine ifb_t (beq_ff (decide_eq_false (by first | omega | assumption))) ?_
                              | refine ifb_f (beq_ft (decide_eq_true (by first | omega | assumption))) ?_
                              | refine force_of ?_
                              | refine new_of ?_
                              | refine take_of ?_
                              | refine app_of ?_) ?_
                        refine Round.nm ((L, names, hp, k + 1, k + 1)) ?_ ?_ ?_ ?_
                        · exact (show Pinv l.length L names hp (k + 1) (k + 1) from ⟨by omega, by omega, by omega, hn, hx16, hL⟩)
                        · show l.length + 1 - (k + 1) < l.length + 1 - k; omega
                        · repeat (first | exact Sub.nil _ | refine Sub.cons (by with_unfolding_all rfl) ?_)
                        · rfl
                      · -- t58 False
                        simp at ht58
                        refine WP.seq ?_
                        refine WP.region (by
                            repeat first
                              | rfl
                              | refine ob_of lenV_sl ?_
                              | refine ob_of lenV_ref ?_
                              | refine ob_of lenV_str ?_
                              | refine ob_of lenV_nil ?_
                              | refine ob_of bin_lss ?_
                              | refine ob_of bin_gtr ?_
                              | refine ob_of bin_leq ?_
                              | refine ob_of bin_geq ?_
                              | refine ob_of bin_eql ?_
                              | refine ob_of bin_neq ?_
                              | refine ob_of bin_seql ?_
                              | refine ob_of bin_sneq ?_
                              | refine ob_of mm_max ?_
                              | refine ob_of mm_min ?_
                              | refine ob_of (bin_add (by omega)) ?_
                              | refine ob_of (bin_sub (by omega)) ?_
                              | refine ob_of (bin_mul (by omega)) ?_
                              | refine ob_of (by assumption) ?_
                              | refine ob_of (index_sl (by assumption)) ?_
                              | refine ob_of (index_str (by assumption)) ?_
                              | refine ob_of (by with_unfolding_all rfl) ?_
                              | refine op2_of (by with_unfolding_all rfl) ?_
                              | refine ifb_t (by with_unfolding_all rfl) ?_
                              | refine ifb_f (by with_unfolding_all rfl) ?_
                              | refine ifb_t (decide_eq_true (by first | omega | assumption)) ?_
                              | refine ifb_f (decide_eq_false (by first | omega | assumption)) ?_
                              | refine ifb_t (beq_tt (decide_eq_true (by first | omega | assumption))) ?_
                              | refine ifb_f (beq_tf (decide_eq_false (by first | omega | assumption))) ?_
                              | refine ifb_t (beq_ff (decide_eq_false (by first | omega | assumption))) ?_
                              | refine ifb_f (beq_ft (decide_eq_true (by first | omega | assumption))) ?_
                              | refine force_of ?_
                              | refine new_of ?_
                              | refine take_of ?_
                              | refine app_of ?_) ?_
                        refine Then.nm ?_
                        refine WP.cond (by with_unfolding_all rfl) (fun ht65 => ?_) (fun ht65 => ?_)
                        · -- t65 True
                          simp at ht65
                          rcases hL with ⟨rfl, rfl⟩ | ⟨b, els, g, fz, rfl, hg, htk, hb, hle⟩
                          · skip
                            refine WP.region (by
                                repeat first
                                  | rfl
                                  | refine ob_of (bound_int 0 (by with_unfolding_all rfl) (by omega)) ?_
                                  | refine ob_of lenV_sl ?_
                                  | refine ob_of lenV_ref ?_
                                  | refine ob_of lenV_str ?_
                                  | refine ob_of lenV_nil ?_
                                  | refine ob_of bin_lss ?_
                                  | refine ob_of bin_gtr ?_
                                  | refine ob_of bin_leq ?_
                                  | refine ob_of bin_geq ?_
                                  | refine ob_of bin_eql ?_
                                  | refine ob_of bin_neq ?_
                                  | refine ob_of bin_seql ?_
                                  | refine ob_of bin_sneq ?_
                                  | refine ob_of mm_max ?_
                                  | refine ob_of mm_min ?_
                                  | refine ob_of (bin_add (by omega)) ?_
                                  | refine ob_of (bin_sub (by omega)) ?_
                                  | refine ob_of (bin_mul (by omega)) ?_
                                  | refine ob_of (by assumption) ?_
                                  | refine ob_of (index_sl (by assumption)) ?_
                                  | refine ob_of (index_str (by assumption)) ?_
                                  | refine ob_of (by with_unfolding_all rfl) ?_
                                  | refine op2_of (by with_unfolding_all rfl) ?_
                                  | refine ifb_t (by with_unfolding_all rfl) ?_
                                  | refine ifb_f (by with_unfolding_all rfl) ?_
                                  | refine ifb_t (decide_eq_true (by first | omega | assumption)) ?_
                                  | refine ifb_f (decide_eq_false (by first | omega | assumption)) ?_
                                  | refine ifb_t (beq_tt (decide_eq_true (by first | omega | assumption))) ?_
                                  | refine ifb_f (beq_tf (decide_eq_false (by first | omega | assumption))) ?_
                                  | refine ifb_t (beq_ff (decide_eq_false (by first | omega | assumption))) ?_
                                  | refine ifb_f (beq_ft (decide_eq_true (by first | omega | assumption))) ?_
                                  | refine force_of ?_
                                  | refine new_of ?_
                                  | refine take_of ?_
                                  | refine app_of ?_) ?_
                            refine Blok.nm ?_
                            refine Blok.nm ?_
                            refine Then.nm ?_
                            refine WP.region (by
                                repeat first
                                  | rfl
                                  | refine ob_of lenV_sl ?_
                                  | refine ob_of lenV_ref ?_
                                  | refine ob_of lenV_str ?_
                                  | refine ob_of lenV_nil ?_
                                  | refine ob_of bin_lss ?_
                                  | refine ob_of bin_gtr ?_
                                  | refine ob_of bin_leq ?_
                                  | refine ob_of bin_geq ?_
                                  | refine ob_of bin_eql ?_
                                  | refine ob_of bin_neq ?_
                                  | refine ob_of bin_seql ?_
                                  | refine ob_of bin_sneq ?_
                                  | refine ob_of mm_max ?_
                                  | refine ob_of mm_min ?_
                                  | refine ob_of (bin_add (by omega)) ?_
                                  | refine ob_of (bin_sub (by omega)) ?_
                                  | refine ob_of (bin_mul (by omega)) ?_
                                  | refine ob_of (by assumption) ?_
                                  | refine ob_of (index_sl (by assumption)) ?_
                                  | refine ob_of (index_str (by assumption)) ?_
                                  | refine ob_of (by with_unfolding_all rfl) ?_
                                  | refine op2_of (by with_unfolding_all rfl) ?_
                                  | refine ifb_t (by with_unfolding_all rfl) ?_
                                  | refine ifb_f (by with_unfolding_all rfl) ?_
                                  | refine ifb_t (decide_eq_true (by first | omega | assumption)) ?_
                                  | refine ifb_f (decide_eq_false (by first | omega | assumption)) ?_
                                  | refine ifb_t (beq_tt (decide_eq_true (by first | omega | assumption))) ?_
                                  | refine ifb_f (beq_tf (decide_eq_false (by first | omega | assumption))) ?_
                                  | refine ifb_t (beq_ff (decide_eq_false (by first | omega | assumption))) ?_
                                  | refine ifb_f (beq_ft (decide_eq_true (by first | omega | assumption))) ?_
                                  | refine force_of ?_
                                  | refine new_of ?_
                                  | refine take_of ?_
                                  | refine app_of ?_) ?_
                            refine Round.nm ((.nil, [], hp, k + 1, k + 1)) ?_ ?_ ?_ ?_
                            · exact (show Pinv l.length .nil [] hp (k + 1) (k + 1) from ⟨by omega, by omega, by omega, hn, hx16, .inl ⟨rfl, rfl⟩⟩)
                            · show l.length + 1 - (k + 1) < l.length + 1 - k; omega
                            · repeat (first | exact Sub.nil _ | refine Sub.cons (by with_unfolding_all rfl) ?_)
                            · rfl
                          · skip
                            refine WP.region (by
                                repeat first
                                  | rfl
                                  | refine ob_of (bound_int (names.length - 1) (by with_unfolding_all rfl) (by omega)) ?_
                                  | refine ob_of (slice_ref (a := 0) (b := names.length - 1) (by with_unfolding_all rfl) (by with_unfolding_all rfl) none (some (names.length - 1)) rfl rfl (by omega) (by omega)) ?_
                                  | refine ob_of lenV_sl ?_
                                  | refine ob_of lenV_ref ?_
                                  | refine ob_of lenV_str ?_
                                  | refine ob_of lenV_nil ?_
                                  | refine ob_of bin_lss ?_
                                  | refine ob_of bin_gtr ?_
                                  | refine ob_of bin_leq ?_
                                  | refine ob_of bin_geq ?_
                                  | refine ob_of bin_eql ?_
                                  | refine ob_of bin_neq ?_
                                  | refine ob_of bin_seql ?_
                                  | refine ob_of bin_sneq ?_
                                  | refine ob_of mm_max ?_
                                  | refine ob_of mm_min ?_
                                  | refine ob_of (bin_add (by omega)) ?_
                                  | refine ob_of (bin_sub (by omega)) ?_
                                  | refine ob_of (bin_mul (by omega)) ?_
                                  | refine ob_of (by assumption) ?_
                                  | refine ob_of (index_sl (by assumption)) ?_
                                  | refine ob_of (index_str (by assumption)) ?_
                                  | refine ob_of (by with_unfolding_all rfl) ?_
                                  | refine op2_of (by with_unfolding_all rfl) ?_
                                  | refine ifb_t (by with_unfolding_all rfl) ?_
                                  | refine ifb_f (by with_unfolding_all rfl) ?_
                                  | refine ifb_t (decide_eq_true (by first | omega | assumption)) ?_
                                  | refine ifb_f (decide_eq_false (by first | omega | assumption)) ?_
                                  | refine ifb_t (beq_tt (decide_eq_true (by first | omega | assumption))) ?_
                                  | refine ifb_f (beq_tf (decide_eq_false (by first | omega | assumption))) ?_
                                  | refine ifb_t (beq_ff (decide_eq_false (by first | omega | assumption))) ?_
                                  | refine ifb_f (beq_ft (decide_eq_true (by first | omega | assumption))) ?_
                                  | refine force_of ?_
                                  | refine new_of ?_
                                  | refine take_of ?_
                                  | refine app_of ?_) ?_
                            refine Blok.nm ?_
                            refine Blok.nm ?_
                            refine Then.nm ?_
                            refine WP.region (by
                                repeat first
                                  | rfl
                                  | refine ob_of lenV_sl ?_
                                  | refine ob_of lenV_ref ?_
                                  | refine ob_of lenV_str ?_
                                  | refine ob_of lenV_nil ?_
                                  | refine ob_of bin_lss ?_
                                  | refine ob_of bin_gtr ?_
                                  | refine ob_of bin_leq ?_
                                  | refine ob_of bin_geq ?_
                                  | refine ob_of bin_eql ?_
                                  | refine ob_of bin_neq ?_
                                  | refine ob_of bin_seql ?_
                                  | refine ob_of bin_sneq ?_
                                  | refine ob_of mm_max ?_
                                  | refine ob_of mm_min ?_
                                  | refine ob_of (bin_add (by omega)) ?_
                                  | refine ob_of (bin_sub (by omega)) ?_
                                  | refine ob_of (bin_mul (by omega)) ?_
                                  | refine ob_of (by assumption) ?_
                                  | refine ob_of (index_sl (by assumption)) ?_
                                  | refine ob_of (index_str (by assumption)) ?_
                                  | refine ob_of (by with_unfolding_all rfl) ?_
                                  | refine op2_of (by with_unfolding_all rfl) ?_
                                  | refine ifb_t (by with_unfolding_all rfl) ?_
                                  | refine ifb_f (by with_unfolding_all rfl) ?_
                                  | refine ifb_t (decide_eq_true (by first | omega | assumption)) ?_
                                  | refine ifb_f (decide_eq_false (by first | omega | assumption)) ?_
                                  | refine ifb_t (beq_tt (decide_eq_true (by first | omega | assumption))) ?_
                                  | refine ifb_f (beq_tf (decide_eq_false (by first | omega | assumption))) ?_
                                  | refine ifb_t (beq_ff (decide_eq_false (by first | omega | assumption))) ?_
                                  | refine ifb_f (beq_ft (decide_eq_true (by first | omega | assumption))) ?_
                                  | refine force_of ?_
                                  | refine new_of ?_
                                  | refine take_of ?_
                                  | refine app_of ?_) ?_
                            refine Round.nm ((.ref b 1 0 (names.length - 1) none, names.take (names.length - 1), hp, k + 1, k + 1)) ?_ ?_ ?_ ?_
                            · exact (show Pinv l.length (.ref b 1 0 (names.length - 1) none) (names.take (names.length - 1)) hp (k + 1) (k + 1) from ⟨by omega, by omega, by omega, by (first | (simp; done) | (simp; omega)), fun x hx => hx16 x (List.mem_of_mem_take hx), .inr ⟨b, els, g, fz, by simp, hg, by simp only [List.drop_zero] at *; rw [List.length_take, List.map_take, ← htk, List.take_take]; (try (congr 1; omega)), hb, by (first | (simp; done) | (simp; omega))⟩⟩)
                            · show l.length + 1 - (k + 1) < l.length + 1 - k; omega
                            · repeat (first | exact Sub.nil _ | refine Sub.cons (by with_unfolding_all rfl) ?_)
                            · rfl
                        · -- t65 False
                          simp at ht65
                          refine WP.seq ?_
                          rcases hL with ⟨rfl, rfl⟩ | ⟨b, els, g, fz, rfl, hg, htk, hb, hle⟩
                          · skip
                            by_cases h22 : 24 < x.length
                            · -- r22 True
                              refine WP.region (by
                                  repeat first
                                    | rfl
                                    | refine ob_of lenV_sl ?_
                                    | refine ob_of lenV_ref ?_
                                    | refine ob_of lenV_str ?_
                                    | refine ob_of lenV_nil ?_
                                    | refine ob_of bin_lss ?_
                                    | refine ob_of bin_gtr ?_
                                    | refine ob_of bin_leq ?_
                                    | refine ob_of bin_geq ?_
                                    | refine ob_of bin_eql ?_
                                    | refine ob_of bin_neq ?_
                                    | refine ob_of bin_seql ?_
                                    | refine ob_of bin_sneq ?_
                                    | refine ob_of mm_max ?_
                                    | refine ob_of mm_min ?_
                                    | refine ob_of (bin_add (by omega)) ?_
                                    | refine ob_of (bin_sub (by omega)) ?_
                                    | refine ob_of (bin_mul (by omega)) ?_
                                    | refine ob_of (by assumption) ?_
                                    | refine ob_of (index_sl (by assumption)) ?_
                                    | refine ob_of (index_str (by assumption)) ?_
                                    | refine ob_of (by with_unfolding_all rfl) ?_
                                    | refine op2_of (by with_unfolding_all rfl) ?_
                                    | refine ifb_t (by with_unfolding_all rfl) ?_
                                    | refine ifb_f (by with_unfolding_all rfl) ?_
                                    | refine ifb_t (decide_eq_true (by first | omega | assumption)) ?_
                                    | refine ifb_f (decide_eq_false (by first | omega | assumption)) ?_
                                    | refine ifb_t (beq_tt (decide_eq_true (by first | omega | assumption))) ?_
                                    | refine ifb_f (beq_tf (decide_eq_false (by first | omega | assumption))) ?_
                                    | refine ifb_t (beq_ff (decide_eq_false (by first | omega | assumption))) ?_
                                    | refine ifb_f (beq_ft (decide_eq_true (by first | omega | assumption))) ?_
                                    | refine force_of ?_
                                    | refine new_of ?_
                                    | refine take_of ?_
                                    | refine app_of ?_) ?_
                              refine Then.nm ?_
                              refine WP.cond (by with_unfolding_all rfl) (fun ht74 => ?_) (fun ht74 => ?_)
                              · -- t74 True
                                clear ht74
                                refine WP.seq ?_
                                refine WP.region (by
                                    repeat first
                                      | rfl
                                      | refine ob_of lenV_sl ?_
                                      | refine ob_of lenV_ref ?_
                                      | refine ob_of lenV_str ?_
                                      | refine ob_of lenV_nil ?_
                                      | refine ob_of bin_lss ?_
                                      | refine ob_of bin_gtr ?_
                                      | refine ob_of bin_leq ?_
                                      | refine ob_of bin_geq ?_
                                      | refine ob_of bin_eql ?_
                                      | refine ob_of bin_neq ?_
                                      | refine ob_of bin_seql ?_
                                      | refine ob_of bin_sneq ?_
                                      | refine ob_of mm_max ?_
                                      | refine ob_of mm_min ?_
                                      | refine ob_of (bin_add (by omega)) ?_
                                      | refine ob_of (bin_sub (by omega)) ?_
                                      | refine ob_of (bin_mul (by omega)) ?_
                                      | refine ob_of (by assumption) ?_
                                      | refine ob_of (index_sl (by assumption)) ?_
                                      | refine ob_of (index_str (by assumption)) ?_
                                      | refine ob_of (by with_unfolding_all rfl) ?_
                                      | refine op2_of (by with_unfolding_all rfl) ?_
                                      | refine ifb_t (by with_unfolding_all rfl) ?_
                                      | refine ifb_f (by with_unfolding_all rfl) ?_
                                      | refine ifb_t (decide_eq_true (by first | omega | assumption)) ?_
                                      | refine ifb_f (decide_eq_false (by first | omega | assumption)) ?_
                                      | refine ifb_t (beq_tt (decide_eq_true (by first | omega | assumption))) ?_
                                      | refine ifb_f (beq_tf (decide_eq_false (by first | omega | assumption))) ?_
                                      | refine ifb_t (beq_ff (decide_eq_false (by first | omega | assumption))) ?_
                                      | refine ifb_f (beq_ft (decide_eq_true (by first | omega | assumption))) ?_
                                      | refine force_of ?_
                                      | refine new_of ?_
                                      | refine take_of ?_
                                      | refine app_of ?_) ?_
                                refine Then.nm ?_
                                refine WP.ret ?_
                                refine Blok.rt ?_
                                refine Blok.rt ?_
                                refine Then.rt ?_
                                refine Round.rt ?_
                                refine Blok.rt ?_
                                refine Then.rt ?_
                                exact ⟨_, .inr (.inl rfl), Ends.mk rfl (by with_unfolding_all rfl) ⟨_, (by with_unfolding_all rfl)⟩⟩
                              · first | (cases ht74; done) | (simp at ht74; done) | exact absurd ht74 (by decide)
                            · -- r22 False
                              refine WP.region (by
                                  repeat first
                                    | rfl
                                    | refine ob_of lenV_sl ?_
                                    | refine ob_of lenV_ref ?_
                                    | refine ob_of lenV_str ?_
                                    | refine ob_of lenV_nil ?_
                                    | refine ob_of bin_lss ?_
                                    | refine ob_of bin_gtr ?_
                                    | refine ob_of bin_leq ?_
                                    | refine ob_of bin_geq ?_
                                    | refine ob_of bin_eql ?_
                                    | refine ob_of bin_neq ?_
                                    | refine ob_of bin_seql ?_
                                    | refine ob_of bin_sneq ?_
                                    | refine ob_of mm_max ?_
                                    | refine ob_of mm_min ?_
                                    | refine ob_of (bin_add (by omega)) ?_
                                    | refine ob_of (bin_sub (by omega)) ?_
                                    | refine ob_of (bin_mul (by omega)) ?_
                                    | refine ob_of (by assumption) ?_
                                    | refine ob_of (index_sl (by assumption)) ?_
                                    | refine ob_of (index_str (by assumption)) ?_
                                    | refine ob_of (by with_unfolding_all rfl) ?_
                                    | refine op2_of (by with_unfolding_all rfl) ?_
                                    | refine ifb_t (by with_unfolding_all rfl) ?_
                                    | refine ifb_f (by with_unfolding_all rfl) ?_
                                    | refine ifb_t (decide_eq_true (by first | omega | assumption)) ?_
                                    | refine ifb_f (decide_eq_false (by first | omega | assumption)) ?_
                                    | refine ifb_t (beq_tt (decide_eq_true (by first | omega | assumption))) ?_
                                    | refine ifb_f (beq_tf (decide_eq_false (by first | omega | assumption))) ?_
                                    | refine ifb_t (beq_ff (decide_eq_false (by first | omega | assumption))) ?_
                                    | refine ifb_f (beq_ft (decide_eq_true (by first | omega | assumption))) ?_
                                    | refine force_of ?_
                                    | refine new_of ?_
                                    | refine take_of ?_
                                    | refine app_of ?_) ?_
                              refine Then.nm ?_
                              refine WP.cond (by with_unfolding_all rfl) (fun ht74 => ?_) (fun ht74 => ?_)
                              · first | (cases ht74; done) | (simp at ht74; done) | exact absurd ht74 (by decide)
                              · -- t74 False
                                clear ht74
                                refine WP.region (by
                                    repeat first
                                      | rfl
                                      | refine ob_of (elems_rows [[.str x]] get_new_same rfl (by simp)) ?_
                                      | refine app_none rfl ?_
                                      | refine app_cap (els := []) (g := false) (fz := 0) (by simp) ((get_new_ne (Nat.ne_of_lt (Nat.lt_succ_self _))).trans get_new_same) (by simp) (by simp) ?_
                                      | refine ob_of lenV_sl ?_
                                      | refine ob_of lenV_ref ?_
                                      | refine ob_of lenV_str ?_
                                      | refine ob_of lenV_nil ?_
                                      | refine ob_of bin_lss ?_
                                      | refine ob_of bin_gtr ?_
                                      | refine ob_of bin_leq ?_
                                      | refine ob_of bin_geq ?_
                                      | refine ob_of bin_eql ?_
                                      | refine ob_of bin_neq ?_
                                      | refine ob_of bin_seql ?_
                                      | refine ob_of bin_sneq ?_
                                      | refine ob_of mm_max ?_
                                      | refine ob_of mm_min ?_
                                      | refine ob_of (bin_add (by omega)) ?_
                                      | refine ob_of (bin_sub (by omega)) ?_
                                      | refine ob_of (bin_mul (by omega)) ?_
                                      | refine ob_of (by assumption) ?_
                                      | refine ob_of (index_sl (by assumption)) ?_
                                      | refine ob_of (index_str (by assumption)) ?_
                                      | refine ob_of (by with_unfolding_all rfl) ?_
                                      | refine op2_of (by with_unfolding_all rfl) ?_
                                      | refine ifb_t (by with_unfolding_all rfl) ?_
                                      | refine ifb_f (by with_unfolding_all rfl) ?_
                                      | refine ifb_t (decide_eq_true (by first | omega | assumption)) ?_
                                      | refine ifb_f (decide_eq_false (by first | omega | assumption)) ?_
                                      | refine ifb_t (beq_tt (decide_eq_true (by first | omega | assumption))) ?_
                                      | refine ifb_f (beq_tf (decide_eq_false (by first | omega | assumption))) ?_
                                      | refine ifb_t (beq_ff (decide_eq_false (by first | omega | assumption))) ?_
                                      | refine ifb_f (beq_ft (decide_eq_true (by first | omega | assumption))) ?_
                                      | refine force_of ?_
                                      | refine new_of ?_
                                      | refine take_of ?_
                                      | refine app_of ?_) ?_
                                refine Blok.nm ?_
                                refine Blok.nm ?_
                                refine Then.nm ?_
                                refine WP.region (by
                                    repeat first
                                      | rfl
                                      | refine ob_of lenV_sl ?_
                                      | refine ob_of lenV_ref ?_
                                      | refine ob_of lenV_str ?_
                                      | refine ob_of lenV_nil ?_
                                      | refine ob_of bin_lss ?_
                                      | refine ob_of bin_gtr ?_
                                      | refine ob_of bin_leq ?_
                                      | refine ob_of bin_geq ?_
                                      | refine ob_of bin_eql ?_
                                      | refine ob_of bin_neq ?_
                                      | refine ob_of bin_seql ?_
                                      | refine ob_of bin_sneq ?_
                                      | refine ob_of mm_max ?_
                                      | refine ob_of mm_min ?_
                                      | refine ob_of (bin_add (by omega)) ?_
                                      | refine ob_of (bin_sub (by omega)) ?_
                                      | refine ob_of (bin_mul (by omega)) ?_
                                      | refine ob_of (by assumption) ?_
                                      | refine ob_of (index_sl (by assumption)) ?_
                                      | refine ob_of (index_str (by assumption)) ?_
                                      | refine ob_of (by with_unfolding_all rfl) ?_
                                      | refine op2_of (by with_unfolding_all rfl) ?_
                                      | refine ifb_t (by with_unfolding_all rfl) ?_
                                      | refine ifb_f (by with_unfolding_all rfl) ?_
                                      | refine ifb_t (decide_eq_true (by first | omega | assumption)) ?_
                                      | refine ifb_f (decide_eq_false (by first | omega | assumption)) ?_
                                      | refine ifb_t (beq_tt (decide_eq_true (by first | omega | assumption))) ?_
                                      | refine ifb_f (beq_tf (decide_eq_false (by first | omega | assumption))) ?_
                                      | refine ifb_t (beq_ff (decide_eq_false (by first | omega | assumption))) ?_
                                      | refine ifb_f (beq_ft (decide_eq_true (by first | omega | assumption))) ?_
                                      | refine force_of ?_
                                      | refine new_of ?_
                                      | refine take_of ?_
                                      | refine app_of ?_) ?_
                                refine Round.nm (?L1499, [] ++ [x], ?hh1499, k + 1, k + 1) ?inv1499 ?less1499 ?sub1499 ?heap1499
                                case heap1499 => rfl
                                case sub1499 => repeat (first | exact Sub.nil _ | refine Sub.cons (by with_unfolding_all rfl) ?_)
                                case less1499 => show l.length + 1 - (k + 1) < l.length + 1 - k; omega
                                case inv1499 =>
                                  have hx1 : x.length ≠ 0 := fun hq => h19 (List.eq_nil_of_length_eq_zero hq)
                                  refine (show Pinv l.length _ _ _ (k + 1) (k + 1) from ⟨by omega, by omega, by omega, by simp, ?_, .inr ⟨_, _, _, _, rfl, get_new_same, ?_, Nat.lt_succ_self _, ?_⟩⟩)
                                  · intro z hz; simp only [List.mem_append, List.mem_singleton] at hz; rcases hz with hz | rfl
                                    · exact hx16 z hz
                                    · exact ⟨by omega, by omega, hxb⟩
                                  · first | (simp; done) | (simp; exact List.take_of_length_le (by simp))
                                  · simp
                          · skip
                            by_cases h22 : 24 < x.length
                            · -- r22 True
                              refine WP.region (by
                                  repeat first
                                    | rfl
                                    | refine ob_of lenV_sl ?_
                                    | refine ob_of lenV_ref ?_
                                    | refine ob_of lenV_str ?_
                                    | refine ob_of lenV_nil ?_
                                    | refine ob_of bin_lss ?_
                                    | refine ob_of bin_gtr ?_
                                    | refine ob_of bin_leq ?_
                                    | refine ob_of bin_geq ?_
                                    | refine ob_of bin_eql ?_
                                    | refine ob_of bin_neq ?_
                                    | refine ob_of bin_seql ?_
                                    | refine ob_of bin_sneq ?_
                                    | refine ob_of mm_max ?_
                                    | refine ob_of mm_min ?_
                                    | refine ob_of (bin_add (by omega)) ?_
                                    | refine ob_of (bin_sub (by omega)) ?_
                                    | refine ob_of (bin_mul (by omega)) ?_
                                    | refine ob_of (by assumption) ?_
                                    | refine ob_of (index_sl (by assumption)) ?_
                                    | refine ob_of (index_str (by assumption)) ?_
                                    | refine ob_of (by with_unfolding_all rfl) ?_
                                    | refine op2_of (by with_unfolding_all rfl) ?_
                                    | refine ifb_t (by with_unfolding_all rfl) ?_
                                    | refine ifb_f (by with_unfolding_all rfl) ?_
                                    | refine ifb_t (decide_eq_true (by first | omega | assumption)) ?_
                                    | refine ifb_f (decide_eq_false (by first | omega | assumption)) ?_
                                    | refine ifb_t (beq_tt (decide_eq_true (by first | omega | assumption))) ?_
                                    | refine ifb_f (beq_tf (decide_eq_false (by first | omega | assumption))) ?_
                                    | refine ifb_t (beq_ff (decide_eq_false (by first | omega | assumption))) ?_
                                    | refine ifb_f (beq_ft (decide_eq_true (by first | omega | assumption))) ?_
                                    | refine force_of ?_
                                    | refine new_of ?_
                                    | refine take_of ?_
                                    | refine app_of ?_) ?_
                              refine Then.nm ?_
                              refine WP.cond (by with_unfolding_all rfl) (fun ht74 => ?_) (fun ht74 => ?_)
                              · -- t74 True
                                clear ht74
                                refine WP.seq ?_
                                refine WP.region (by
                                    repeat first
                                      | rfl
                                      | refine ob_of lenV_sl ?_
                                      | refine ob_of lenV_ref ?_
                                      | refine ob_of lenV_str ?_
                                      | refine ob_of lenV_nil ?_
                                      | refine ob_of bin_lss ?_
                                      | refine ob_of bin_gtr ?_
                                      | refine ob_of bin_leq ?_
                                      | refine ob_of bin_geq ?_
                                      | refine ob_of bin_eql ?_
                                      | refine ob_of bin_neq ?_
                                      | refine ob_of bin_seql ?_
                                      | refine ob_of bin_sneq ?_
                                      | refine ob_of mm_max ?_
                                      | refine ob_of mm_min ?_
                                      | refine ob_of (bin_add (by omega)) ?_
                                      | refine ob_of (bin_sub (by omega)) ?_
                                      | refine ob_of (bin_mul (by omega)) ?_
                                      | refine ob_of (by assumption) ?_
                                      | refine ob_of (index_sl (by assumption)) ?_
                                      | refine ob_of (index_str (by assumption)) ?_
                                      | refine ob_of (by with_unfolding_all rfl) ?_
                                      | refine op2_of (by with_unfolding_all rfl) ?_
                                      | refine ifb_t (by with_unfolding_all rfl) ?_
                                      | refine ifb_f (by with_unfolding_all rfl) ?_
                                      | refine ifb_t (decide_eq_true (by first | omega | assumption)) ?_
                                      | refine ifb_f (decide_eq_false (by first | omega | assumption)) ?_
                                      | refine ifb_t (beq_tt (decide_eq_true (by first | omega | assumption))) ?_
                                      | refine ifb_f (beq_tf (decide_eq_false (by first | omega | assumption))) ?_
                                      | refine ifb_t (beq_ff (decide_eq_false (by first | omega | assumption))) ?_
                                      | refine ifb_f (beq_ft (decide_eq_true (by first | omega | assumption))) ?_
                                      | refine force_of ?_
                                      | refine new_of ?_
                                      | refine take_of ?_
                                      | refine app_of ?_) ?_
                                refine Then.nm ?_
                                refine WP.ret ?_
                                refine Blok.rt ?_
                                refine Blok.rt ?_
                                refine Then.rt ?_
                                refine Round.rt ?_
                                refine Blok.rt ?_
                                refine Then.rt ?_
                                exact ⟨_, .inr (.inl rfl), Ends.mk rfl (by with_unfolding_all rfl) ⟨_, (by with_unfolding_all rfl)⟩⟩
                              · first | (cases ht74; done) | (simp at ht74; done) | exact absurd ht74 (by decide)
                            · -- r22 False
                              refine WP.region (by
                                  repeat first
                                    | rfl
                                    | refine ob_of lenV_sl ?_
                                    | refine ob_of lenV_ref ?_
                                    | refine ob_of lenV_str ?_
                                    | refine ob_of lenV_nil ?_
                                    | refine ob_of bin_lss ?_
                                    | refine ob_of bin_gtr ?_
                                    | refine ob_of bin_leq ?_
                                    | refine ob_of bin_geq ?_
                                    | refine ob_of bin_eql ?_
                                    | refine ob_of bin_neq ?_
                                    | refine ob_of bin_seql ?_
                                    | refine ob_of bin_sneq ?_
                                    | refine ob_of mm_max ?_
                                    | refine ob_of mm_min ?_
                                    | refine ob_of (bin_add (by omega)) ?_
                                    | refine ob_of (bin_sub (by omega)) ?_
                                    | refine ob_of (bin_mul (by omega)) ?_
                                    | refine ob_of (by assumption) ?_
                                    | refine ob_of (index_sl (by assumption)) ?_
                                    | refine ob_of (index_str (by assumption)) ?_
                                    | refine ob_of (by with_unfolding_all rfl) ?_
                                    | refine op2_of (by with_unfolding_all rfl) ?_
                                    | refine ifb_t (by with_unfolding_all rfl) ?_
                                    | refine ifb_f (by with_unfolding_all rfl) ?_
                                    | refine ifb_t (decide_eq_true (by first | omega | assumption)) ?_
                                    | refine ifb_f (decide_eq_false (by first | omega | assumption)) ?_
                                    | refine ifb_t (beq_tt (decide_eq_true (by first | omega | assumption))) ?_
                                    | refine ifb_f (beq_tf (decide_eq_false (by first | omega | assumption))) ?_
                                    | refine ifb_t (beq_ff (decide_eq_false (by first | omega | assumption))) ?_
                                    | refine ifb_f (beq_ft (decide_eq_true (by first | omega | assumption))) ?_
                                    | refine force_of ?_
                                    | refine new_of ?_
                                    | refine take_of ?_
                                    | refine app_of ?_) ?_
                              refine Then.nm ?_
                              refine WP.cond (by with_unfolding_all rfl) (fun ht74 => ?_) (fun ht74 => ?_)
                              · -- t74 True
                                simp at ht74
                                refine WP.seq ?_
                                refine WP.region (by
                                    repeat first
                                      | rfl
                                      | refine ob_of lenV_sl ?_
                                      | refine ob_of lenV_ref ?_
                                      | refine ob_of lenV_str ?_
                                      | refine ob_of lenV_nil ?_
                                      | refine ob_of bin_lss ?_
                                      | refine ob_of bin_gtr ?_
                                      | refine ob_of bin_leq ?_
                                      | refine ob_of bin_geq ?_
                                      | refine ob_of bin_eql ?_
                                      | refine ob_of bin_neq ?_
                                      | refine ob_of bin_seql ?_
                                      | refine ob_of bin_sneq ?_
                                      | refine ob_of mm_max ?_
                                      | refine ob_of mm_min ?_
                                      | refine ob_of (bin_add (by omega)) ?_
                                      | refine ob_of (bin_sub (by omega)) ?_
                                      | refine ob_of (bin_mul (by omega)) ?_
                                      | refine ob_of (by assumption) ?_
                                      | refine ob_of (index_sl (by assumption)) ?_
                                      | refine ob_of (index_str (by assumption)) ?_
                                      | refine ob_of (by with_unfolding_all rfl) ?_
                                      | refine op2_of (by with_unfolding_all rfl) ?_
                                      | refine ifb_t (by with_unfolding_all rfl) ?_
                                      | refine ifb_f (by with_unfolding_all rfl) ?_
                                      | refine ifb_t (decide_eq_true (by first | omega | assumption)) ?_
                                      | refine ifb_f (decide_eq_false (by first | omega | assumption)) ?_
                                      | refine ifb_t (beq_tt (decide_eq_true (by first | omega | assumption))) ?_
                                      | refine ifb_f (beq_tf (decide_eq_false (by first | omega | assumption))) ?_
                                      | refine ifb_t (beq_ff (decide_eq_false (by first | omega | assumption))) ?_
                                      | refine ifb_f (beq_ft (decide_eq_true (by first | omega | assumption))) ?_
                                      | refine force_of ?_
                                      | refine new_of ?_
                                      | refine take_of ?_
                                      | refine app_of ?_) ?_
                                refine Then.nm ?_
                                refine WP.ret ?_
                                refine Blok.rt ?_
                                refine Blok.rt ?_
                                refine Then.rt ?_
                                refine Round.rt ?_
                                refine Blok.rt ?_
                                refine Then.rt ?_
                                exact ⟨_, .inr (.inl rfl), Ends.mk rfl (by with_unfolding_all rfl) ⟨_, (by with_unfolding_all rfl)⟩⟩
                              · -- t74 False
                                simp at ht74
                                rcases names with _ | ⟨y, ys⟩
                                · skip
                                  refine WP.region (by
                                      repeat first
                                        | rfl
                                        | refine ob_of (elems_rows [[.str x]] get_new_same rfl (by simp)) ?_
                                        | refine ob_of (elems_rows [] ((get_new_ne (Nat.ne_of_lt hb)).trans hg) htk (by simpa using hle)) ?_
                                        | refine app_none rfl ?_
                                        | refine app_cap (els := []) (g := false) (fz := 0) (by simp) ((get_new_ne (Nat.ne_of_lt (Nat.lt_succ_self _))).trans get_new_same) (by simp) (by simp) ?_
                                        | refine ob_of lenV_sl ?_
                                        | refine ob_of lenV_ref ?_
                                        | refine ob_of lenV_str ?_
                                        | refine ob_of lenV_nil ?_
                                        | refine ob_of bin_lss ?_
                                        | refine ob_of bin_gtr ?_
                                        | refine ob_of bin_leq ?_
                                        | refine ob_of bin_geq ?_
                                        | refine ob_of bin_eql ?_
                                        | refine ob_of bin_neq ?_
                                        | refine ob_of bin_seql ?_
                                        | refine ob_of bin_sneq ?_
                                        | refine ob_of mm_max ?_
                                        | refine ob_of mm_min ?_
                                        | refine ob_of (bin_add (by omega)) ?_
                                        | refine ob_of (bin_sub (by omega)) ?_
                                        | refine ob_of (bin_mul (by omega)) ?_
                                        | refine ob_of (by assumption) ?_
                                        | refine ob_of (index_sl (by assumption)) ?_
                                        | refine ob_of (index_str (by assumption)) ?_
                                        | refine ob_of (by with_unfolding_all rfl) ?_
                                        | refine op2_of (by with_unfolding_all rfl) ?_
                                        | refine ifb_t (by with_unfolding_all rfl) ?_
                                        | refine ifb_f (by with_unfolding_all rfl) ?_
                                        | refine ifb_t (decide_eq_true (by first | omega | assumption)) ?_
                                        | refine ifb_f (decide_eq_false (by first | omega | assumption)) ?_
                                        | refine ifb_t (beq_tt (decide_eq_true (by first | omega | assumption))) ?_
                                        | refine ifb_f (beq_tf (decide_eq_false (by first | omega | assumption))) ?_
                                        | refine ifb_t (beq_ff (decide_eq_false (by first | omega | assumption))) ?_
                                        | refine ifb_f (beq_ft (decide_eq_true (by first | omega | assumption))) ?_
                                        | refine force_of ?_
                                        | refine new_of ?_
                                        | refine take_of ?_
                                        | refine app_of ?_) ?_
                                  refine Blok.nm ?_
                                  refine Blok.nm ?_
                                  refine Then.nm ?_
                                  refine WP.region (by
                                      repeat first
                                        | rfl
                                        | refine ob_of lenV_sl ?_
                                        | refine ob_of lenV_ref ?_
                                        | refine ob_of lenV_str ?_
                                        | refine ob_of lenV_nil ?_
                                        | refine ob_of bin_lss ?_
                                        | refine ob_of bin_gtr ?_
                                        | refine ob_of bin_leq ?_
                                        | refine ob_of bin_geq ?_
                                        | refine ob_of bin_eql ?_
                                        | refine ob_of bin_neq ?_
                                        | refine ob_of bin_seql ?_
                                        | refine ob_of bin_sneq ?_
                                        | refine ob_of mm_max ?_
                                        | refine ob_of mm_min ?_
                                        | refine ob_of (bin_add (by omega)) ?_
                                        | refine ob_of (bin_sub (by omega)) ?_
                                        | refine ob_of (bin_mul (by omega)) ?_
                                        | refine ob_of (by assumption) ?_
                                        | refine ob_of (index_sl (by assumption)) ?_
                                        | refine ob_of (index_str (by assumption)) ?_
                                        | refine ob_of (by with_unfolding_all rfl) ?_
                                        | refine op2_of (by with_unfolding_all rfl) ?_
                                        | refine ifb_t (by with_unfolding_all rfl) ?_
                                        | refine ifb_f (by with_unfolding_all rfl) ?_
                                        | refine ifb_t (decide_eq_true (by first | omega | assumption)) ?_
                                        | refine ifb_f (decide_eq_false (by first | omega | assumption)) ?_
                                        | refine ifb_t (beq_tt (decide_eq_true (by first | omega | assumption))) ?_
                                        | refine ifb_f (beq_tf (decide_eq_false (by first | omega | assumption))) ?_
                                        | refine ifb_t (beq_ff (decide_eq_false (by first | omega | assumption))) ?_
                                        | refine ifb_f (beq_ft (decide_eq_true (by first | omega | assumption))) ?_
                                        | refine force_of ?_
                                        | refine new_of ?_
                                        | refine take_of ?_
                                        | refine app_of ?_) ?_
                                  refine Round.nm (?L1777, [] ++ [x], ?hh1777, k + 1, k + 1) ?inv1777 ?less1777 ?sub1777 ?heap1777
                                  case heap1777 => rfl
                                  case sub1777 => repeat (first | exact Sub.nil _ | refine Sub.cons (by with_unfolding_all rfl) ?_)
                                  case less1777 => show l.length + 1 - (k + 1) < l.length + 1 - k; omega
                                  case inv1777 =>
                                    have hx1 : x.length ≠ 0 := fun hq => h19 (List.eq_nil_of_length_eq_zero hq)
                                    refine (show Pinv l.length _ _ _ (k + 1) (k + 1) from ⟨by omega, by omega, by omega, by simp, ?_, .inr ⟨_, _, _, _, rfl, get_new_same, ?_, Nat.lt_succ_self _, ?_⟩⟩)
                                    · intro z hz; simp only [List.mem_append, List.mem_singleton] at hz; rcases hz with hz | rfl
                                      · exact hx16 z hz
                                      · exact ⟨by omega, by omega, hxb⟩
                                    · first | (simp; done) | (simp; exact List.take_of_length_le (by simp))
                                    · simp
                                · skip
                                  have hlen : ys.length + 1 ≤ 16 := by simpa using hn
                                  have hys : (ys.map fun x => [AV.str x]).length = ys.length := List.length_map ..
                                  refine WP.region (by
                                      repeat first
                                        | rfl
                                        | refine ob_of (elems_rows [[.str x]] get_new_same rfl (by simp)) ?_
                                        | refine ob_of (elems_rows ([AV.str y] :: ys.map fun x => [AV.str x]) ((get_new_ne (Nat.ne_of_lt hb)).trans hg) htk (by simpa using hle)) ?_
                                        | refine app_cap (els := []) (g := false) (fz := 0) (by omega) get_new_same (by simp) (by rw [hys]; omega) ?_
                                        | refine app_grow (els := [AV.str y] :: ys.map fun x => [AV.str x]) (g := true) (fz := 0) ((get_new_ne (Nat.ne_of_lt (Nat.lt_succ_self _))).trans get_new_same) (by simp) (by simp) (by rw [hys]; simp; omega) ?_
                                        | refine ob_of lenV_sl ?_
                                        | refine ob_of lenV_ref ?_
                                        | refine ob_of lenV_str ?_
                                        | refine ob_of lenV_nil ?_
                                        | refine ob_of bin_lss ?_
                                        | refine ob_of bin_gtr ?_
                                        | refine ob_of bin_leq ?_
                                        | refine ob_of bin_geq ?_
                                        | refine ob_of bin_eql ?_
                                        | refine ob_of bin_neq ?_
                                        | refine ob_of bin_seql ?_
                                        | refine ob_of bin_sneq ?_
                                        | refine ob_of mm_max ?_
                                        | refine ob_of mm_min ?_
                                        | refine ob_of (bin_add (by omega)) ?_
                                        | refine ob_of (bin_sub (by omega)) ?_
                                        | refine ob_of (bin_mul (by omega)) ?_
                                        | refine ob_of (by assumption) ?_
                                        | refine ob_of (index_sl (by assumption)) ?_
                                        | refine ob_of (index_str (by assumption)) ?_
                                        | refine ob_of (by with_unfolding_all rfl) ?_
                                        | refine op2_of (by with_unfolding_all rfl) ?_
                                        | refine ifb_t (by with_unfolding_all rfl) ?_
                                        | refine ifb_f (by with_unfolding_all rfl) ?_
                                        | refine ifb_t (decide_eq_true (by first | omega | assumption)) ?_
                                        | refine ifb_f (decide_eq_false (by first | omega | assumption)) ?_
                                        | refine ifb_t (beq_tt (decide_eq_true (by first | omega | assumption))) ?_
                                        | refine ifb_f (beq_tf (decide_eq_false (by first | omega | assumption))) ?_
                                        | refine ifb_t (beq_ff (decide_eq_false (by first | omega | assumption))) ?_
                                        | refine ifb_f (beq_ft (decide_eq_true (by first | omega | assumption))) ?_
                                        | refine force_of ?_
                                        | refine new_of ?_
                                        | refine take_of ?_
                                        | refine app_of ?_) ?_
                                  refine Blok.nm ?_
                                  refine Blok.nm ?_
                                  refine Then.nm ?_
                                  refine WP.region (by
                                      repeat first
                                        | rfl
                                        | refine ob_of lenV_sl ?_
                                        | refine ob_of lenV_ref ?_
                                        | refine ob_of lenV_str ?_
                                        | refine ob_of lenV_nil ?_
                                        | refine ob_of bin_lss ?_
                                        | refine ob_of bin_gtr ?_
                                        | refine ob_of bin_leq ?_
                                        | refine ob_of bin_geq ?_
                                        | refine ob_of bin_eql ?_
                                        | refine ob_of bin_neq ?_
                                        | refine ob_of bin_seql ?_
                                        | refine ob_of bin_sneq ?_
                                        | refine ob_of mm_max ?_
                                        | refine ob_of mm_min ?_
                                        | refine ob_of (bin_add (by omega)) ?_
                                        | refine ob_of (bin_sub (by omega)) ?_
                                        | refine ob_of (bin_mul (by omega)) ?_
                                        | refine ob_of (by assumption) ?_
                                        | refine ob_of (index_sl (by assumption)) ?_
                                        | refine ob_of (index_str (by assumption)) ?_
                                        | refine ob_of (by with_unfolding_all rfl) ?_
                                        | refine op2_of (by with_unfolding_all rfl) ?_
                                        | refine ifb_t (by with_unfolding_all rfl) ?_
                                        | refine ifb_f (by with_unfolding_all rfl) ?_
                                        | refine ifb_t (decide_eq_true (by first | omega | assumption)) ?_
                                        | refine ifb_f (decide_eq_false (by first | omega | assumption)) ?_
                                        | refine ifb_t (beq_tt (decide_eq_true (by first | omega | assumption))) ?_
                                        | refine ifb_f (beq_tf (decide_eq_false (by first | omega | assumption))) ?_
                                        | refine ifb_t (beq_ff (decide_eq_false (by first | omega | assumption))) ?_
                                        | refine ifb_f (beq_ft (decide_eq_true (by first | omega | assumption))) ?_
                                        | refine force_of ?_
                                        | refine new_of ?_
                                        | refine take_of ?_
                                        | refine app_of ?_) ?_
                                  refine Round.nm (?L1873, (y :: ys) ++ [x], ?hh1873, k + 1, k + 1) ?inv1873 ?less1873 ?sub1873 ?heap1873
                                  case heap1873 => rfl
                                  case sub1873 => repeat (first | exact Sub.nil _ | refine Sub.cons (by with_unfolding_all rfl) ?_)
                                  case less1873 => show l.length + 1 - (k + 1) < l.length + 1 - k; omega
                                  case inv1873 =>
                                    have hx1 : x.length ≠ 0 := fun hq => h19 (List.eq_nil_of_length_eq_zero hq)
                                    refine (show Pinv l.length _ _ _ (k + 1) (k + 1) from ⟨by omega, by omega, by omega, by simp at ht74 ⊢; (try omega), ?_, .inr ⟨_, _, _, _, congrArg (fun n => AV.ref _ 1 0 n none) (by simp), get_new_same, ?_, Nat.lt_succ_self _, ?_⟩⟩)
                                    · intro z hz; simp only [List.mem_append, List.mem_singleton] at hz; rcases hz with hz | rfl
                                      · exact hx16 z hz
                                      · exact ⟨by omega, by omega, hxb⟩
                                    · first | (simp; done) | (simp; exact List.take_of_length_le (by simp))
                                    · simp
                · -- r15 False
                  refine WP.region (by
                      repeat first
                        | rfl
                        | refine ob_of lenV_sl ?_
                        | refine ob_of lenV_ref ?_
                        | refine ob_of lenV_str ?_
                        | refine ob_of lenV_nil ?_
                        | refine ob_of bin_lss ?_
                        | refine ob_of bin_gtr ?_
                        | refine ob_of bin_leq ?_
                        | refine ob_of bin_geq ?_
                        | refine ob_of bin_eql ?_
                        | refine ob_of bin_neq ?_
                        | refine ob_of bin_seql ?_
                        | refine ob_of bin_sneq ?_
                        | refine ob_of mm_max ?_
                        | refine ob_of mm_min ?_
                        | refine ob_of (bin_add (by omega)) ?_
                        | refine ob_of (bin_sub (by omega)) ?_
                        | refine ob_of (bin_mul (by omega)) ?_
                        | refine ob_of (by assumption) ?_
                        | refine ob_of (index_sl (by assumption)) ?_
                        | refine ob_of (index_str (by assumption)) ?_
                        | refine ob_of (by with_unfolding_all rfl) ?_
                        | refine op2_of (by with_unfolding_all rfl) ?_
                        | refine ifb_t (by with_unfolding_all rfl) ?_
                        | refine ifb_f (by with_unfolding_all rfl) ?_
                        | refine ifb_t (decide_eq_true (by first | omega | assumption)) ?_
                        | refine ifb_f (decide_eq_false (by first | omega | assumption)) ?_
                        | refine ifb_t (beq_tt (decide_eq_true (by first | omega | assumption))) ?_
                        | refine ifb_f (beq_tf (decide_eq_false (by first | omega | assumption))) ?_
                        | refine ifb_t (beq_ff (decide_eq_false (by first | omega | assumption))) ?_
                        | refine ifb_f (beq_ft (decide_eq_true (by first | omega | assumption))) ?_
                        | refine force_of ?_
                        | refine new_of ?_
                        | refine take_of ?_
                        | refine app_of ?_) ?_
                  refine Then.nm ?_
                  refine WP.cond (by with_unfolding_all rfl) (fun ht45 => ?_) (fun ht45 => ?_)
                  · first | (cases ht45; done) | (simp at ht45; done) | exact absurd ht45 (by decide)
                  · -- t45 False
                    clear ht45
                    refine WP.skip (.refl _) ?_
                    refine Then.nm ?_
                    refine WP.seq ?_
                    refine WP.region (by
                        repeat first
                          | rfl
                          | refine ob_of (slice_str (by with_unfolding_all rfl) (by omega) (by omega)) ?_
                          | refine ob_of lenV_sl ?_
                          | refine ob_of lenV_ref ?_
                          | refine ob_of lenV_str ?_
                          | refine ob_of lenV_nil ?_
                          | refine ob_of bin_lss ?_
                          | refine ob_of bin_gtr ?_
                          | refine ob_of bin_leq ?_
                          | refine ob_of bin_geq ?_
                          | refine ob_of bin_eql ?_
                          | refine ob_of bin_neq ?_
                          | refine ob_of bin_seql ?_
                          | refine ob_of bin_sneq ?_
                          | refine ob_of mm_max ?_
                          | refine ob_of mm_min ?_
                          | refine ob_of (bin_add (by omega)) ?_
                          | refine ob_of (bin_sub (by omega)) ?_
                          | refine ob_of (bin_mul (by omega)) ?_
                          | refine ob_of (by assumption) ?_
                          | refine ob_of (index_sl (by assumption)) ?_
                          | refine ob_of (index_str (by assumption)) ?_
                          | refine ob_of (by with_unfolding_all rfl) ?_
                          | refine op2_of (by with_unfolding_all rfl) ?_
                          | refine ifb_t (by with_unfolding_all rfl) ?_
                          | refine ifb_f (by with_unfolding_all rfl) ?_
                          | refine ifb_t (decide_eq_true (by first | omega | assumption)) ?_
                          | refine ifb_f (decide_eq_false (by first | omega | assumption)) ?_
                          | refine ifb_t (beq_tt (decide_eq_true (by first | omega | assumption))) ?_
                          | refine ifb_f (beq_tf (decide_eq_false (by first | omega | assumption))) ?_
                          | refine ifb_t (beq_ff (decide_eq_false (by first | omega | assumption))) ?_
                          | refine ifb_f (beq_ft (decide_eq_true (by first | omega | assumption))) ?_
                          | refine force_of ?_
                          | refine new_of ?_
                          | refine take_of ?_
                          | refine app_of ?_) ?_
                    have hxb : ∀ b ∈ (l.take k).drop fr, b < 256 := fun b hb => hlb b (List.mem_of_mem_take (List.mem_of_mem_drop hb))
                    generalize (l.take k).drop fr = x at hxb ⊢
                    refine Then.nm ?_
                    refine WP.seq ?_
                    refine WP.region (by
                        repeat first
                          | rfl
                          | refine ob_of lenV_sl ?_
                          | refine ob_of lenV_ref ?_
                          | refine ob_of lenV_str ?_
                          | refine ob_of lenV_nil ?_
                          | refine ob_of bin_lss ?_
                          | refine ob_of bin_gtr ?_
                          | refine ob_of bin_leq ?_
                          | refine ob_of bin_geq ?_
                          | refine ob_of bin_eql ?_
                          | refine ob_of bin_neq ?_
                          | refine ob_of bin_seql ?_
                          | refine ob_of bin_sneq ?_
                          | refine ob_of mm_max ?_
                          | refine ob_of mm_min ?_
                          | refine ob_of (bin_add (by omega)) ?_
                          | refine ob_of (bin_sub (by omega)) ?_
                          | refine ob_of (bin_mul (by omega)) ?_
                          | refine ob_of (by assumption) ?_
                          | refine ob_of (index_sl (by assumption)) ?_
                          | refine ob_of (index_str (by assumption)) ?_
                          | refine ob_of (by with_unfolding_all rfl) ?_
                          | refine op2_of (by with_unfolding_all rfl) ?_
                          | refine ifb_t (by with_unfolding_all rfl) ?_
                          | refine ifb_f (by with_unfolding_all rfl) ?_
                          | refine ifb_t (decide_eq_true (by first | omega | assumption)) ?_
                          | refine ifb_f (decide_eq_false (by first | omega | assumption)) ?_
                          | refine ifb_t (beq_tt (decide_eq_true (by first | omega | assumption))) ?_
                          | refine ifb_f (beq_tf (decide_eq_false (by first | omega | assumption))) ?_
                          | refine ifb_t (beq_ff (decide_eq_false (by first | omega | assumption))) ?_
                          | refine ifb_f (beq_ft (decide_eq_true (by first | omega | assumption))) ?_
                          | refine force_of ?_
                          | refine new_of ?_
                          | refine take_of ?_
                          | refine app_of ?_) ?_
                    refine Then.nm ?_
                    refine WP.block ?_
                    refine WP.seq ?_
                    by_cases h19 : x = bytesOfStr ⟨#[]⟩
                    · -- r19 True
                      refine WP.region (by
                          repeat first
                            | rfl
                            | refine ob_of lenV_sl ?_
                            | refine ob_of lenV_ref ?_
                            | refine ob_of lenV_str ?_
                            | refine ob_of lenV_nil ?_
                            | refine ob_of bin_lss ?_
                            | refine ob_of bin_gtr ?_
                            | refine ob_of bin_leq ?_
                            | refine ob_of bin_geq ?_
                            | refine ob_of bin_eql ?_
                            | refine ob_of bin_neq ?_
                            | refine ob_of bin_seql ?_
                            | refine ob_of bin_sneq ?_
                            | refine ob_of mm_max ?_
                            | refine ob_of mm_min ?_
                            | refine ob_of (bin_add (by omega)) ?_
                            | refine ob_of (bin_sub (by omega)) ?_
                            | refine ob_of (bin_mul (by omega)) ?_
                            | refine ob_of (by assumption) ?_
                            | refine ob_of (index_sl (by assumption)) ?_
                            | refine ob_of (index_str (by assumption)) ?_
                            | refine ob_of (by with_unfolding_all rfl) ?_
                            | refine op2_of (by with_unfolding_all rfl) ?_
                            | refine ifb_t (by with_unfolding_all rfl) ?_
                            | refine ifb_f (by with_unfolding_all rfl) ?_
                            | refine ifb_t (decide_eq_true (by first | omega | assumption)) ?_
                            | refine ifb_f (decide_eq_false (by first | omega | assumption)) ?_
                            | refine ifb_t (beq_tt (decide_eq_true (by first | omega | assumption))) ?_
                            | refine ifb_f (beq_tf (decide_eq_false (by first | omega | assumption))) ?_
                            | refine ifb_t (beq_ff (decide_eq_false (by first | omega | assumption))) ?_
                            | refine ifb_f (beq_ft (decide_eq_true (by first | omega | assumption))) ?_
                            | refine force_of ?_
                            | refine new_of ?_
                            | refine take_of ?_
                            | refine app_of ?_) ?_
                      refine Then.nm ?_
                      refine WP.cond (by with_unfolding_all rfl) (fun ht58 => ?_) (fun ht58 => ?_)
                      · -- t58 True
                        clear ht58
                        refine WP.skip (.refl _) ?_
                        refine Blok.nm ?_
                        refine Blok.nm ?_
                        refine Then.nm ?_
                        refine WP.region (by
                            repeat first
                              | rfl
                              | refine ob_of lenV_sl ?_
                              | refine ob_of lenV_ref ?_
                              | refine ob_of lenV_str ?_
                              | refine ob_of lenV_nil ?_
                              | refine ob_of bin_lss ?_
                              | refine ob_of bin_gtr ?_
                              | refine ob_of bin_leq ?_
                              | refine ob_of bin_geq ?_
                              | refine ob_of bin_eql ?_
                              | refine ob_of bin_neq ?_
                              | refine ob_of bin_seql ?_
                              | refine ob_of bin_sneq ?_
                              | refine ob_of mm_max ?_
                              | refine ob_of mm_min ?_
                              | refine ob_of (bin_add (by omega)) ?_
                              | refine ob_of (bin_sub (by omega)) ?_
                              | refine ob_of (bin_mul (by omega)) ?_
                              | refine ob_of (by assumption) ?_
                              | refine ob_of (index_sl (by assumption)) ?_
                              | refine ob_of (index_str (by assumption)) ?_
                              | refine ob_of (by with_unfolding_all rfl) ?_
                              | refine op2_of (by with_unfolding_all rfl) ?_
                              | refine ifb_t (by with_unfolding_all rfl) ?_
                              | refine ifb_f (by with_unfolding_all rfl) ?_
                              | refine ifb_t (decide_eq_true (by first | omega | assumption)) ?_
                              | refine ifb_f (decide_eq_false (by first | omega | assumption)) ?_
                              | refine ifb_t (beq_tt (decide_eq_true (by first | omega | assumption))) ?_
                              | refine ifb_f (beq_tf (decide_eq_false (by first | omega | assumption))) ?_
                              | refine ifb_t (beq_ff (decide_eq_false (by first | omega | assumption))) ?_
                              | refine ifb_f (beq_ft (decide_eq_true (by first | omega | assumption))) ?_
                              | refine force_of ?_
                              | refine new_of ?_
                              | refine take_of ?_
                              | refine app_of ?_) ?_
                        refine Round.nm ((L, names, hp, k + 1, k + 1)) ?_ ?_ ?_ ?_
                        · exact (show Pinv l.length L names hp (k + 1) (k + 1) from ⟨by omega, by omega, by omega, hn, hx16, hL⟩)
                        · show l.length + 1 - (k + 1) < l.length + 1 - k; omega
                        · repeat (first | exact Sub.nil _ | refine Sub.cons (by with_unfolding_all rfl) ?_)
                        · rfl
                      · first | (cases ht58; done) | (simp at ht58; done) | exact absurd ht58 (by decide)
                    · -- r19 False
                      refine WP.region (by
                          repeat first
                            | rfl
                            | refine ob_of lenV_sl ?_
                            | refine ob_of lenV_ref ?_
                            | refine ob_of lenV_str ?_
                            | refine ob_of lenV_nil ?_
                            | refine ob_of bin_lss ?_
                            | refine ob_of bin_gtr ?_
                            | refine ob_of bin_leq ?_
                            | refine ob_of bin_geq ?_
                            | refine ob_of bin_eql ?_
                            | refine ob_of bin_neq ?_
                            | refine ob_of bin_seql ?_
                            | refine ob_of bin_sneq ?_
                            | refine ob_of mm_max ?_
                            | refine ob_of mm_min ?_
                            | refine ob_of (bin_add (by omega)) ?_
                            | refine ob_of (bin_sub (by omega)) ?_
                            | refine ob_of (bin_mul (by omega)) ?_
                            | refine ob_of (by assumption) ?_
                            | refine ob_of (index_sl (by assumption)) ?_
                            | refine ob_of (index_str (by assumption)) ?_
                            | refine ob_of (by with_unfolding_all rfl) ?_
                            | refine op2_of (by with_unfolding_all rfl) ?_
                            | refine ifb_t (by with_unfolding_all rfl) ?_
                            | refine ifb_f (by with_unfolding_all rfl) ?_
                            | refine ifb_t (decide_eq_true (by first | omega | assumption)) ?_
                            | refine ifb_f (decide_eq_false (by first | omega | assumption)) ?_
                            | refine ifb_t (beq_tt (decide_eq_true (by first | omega | assumption))) ?_
                            | refine ifb_f (beq_tf (decide_eq_false (by first | omega | assumption))) ?_
                            | refine ifb_t (beq_ff (decide_eq_false (by first | omega | assumption))) ?_
                            | refine ifb_f (beq_ft (decide_eq_true (by first | omega | assumption))) ?_
                            | refine force_of ?_
                            | refine new_of ?_
                            | refine take_of ?_
                            | refine app_of ?_) ?_
                      refine Then.nm ?_
                      refine WP.cond (by with_unfolding_all rfl) (fun ht58 => ?_) (fun ht58 => ?_)
                      · -- t58 True
                        simp at ht58
                        refine WP.skip (.refl _) ?_
                        refine Blok.nm ?_
                        refine Blok.nm ?_
                        refine Then.nm ?_
                        refine WP.region (by
                            repeat first
                              | rfl
                              | refine ob_of lenV_sl ?_
                              | refine ob_of lenV_ref ?_
                              | refine ob_of lenV_str ?_
                              | refine ob_of lenV_nil ?_
                              | refine ob_of bin_lss ?_
                              | refine ob_of bin_gtr ?_
                              | refine ob_of bin_leq ?_
                              | refine ob_of bin_geq ?_
                              | refine ob_of bin_eql ?_
                              | refine ob_of bin_neq ?_
                              | refine ob_of bin_seql ?_
                              | refine ob_of bin_sneq ?_
                              | refine ob_of mm_max ?_
                              | refine ob_of mm_min ?_
                              | refine ob_of (bin_add (by omega)) ?_
                              | refine ob_of (bin_sub (by omega)) ?_
                              | refine ob_of (bin_mul (by omega)) ?_
                              | refine ob_of (by assumption) ?_
                              | refine ob_of (index_sl (by assumption)) ?_
                              | refine ob_of (index_str (by assumption)) ?_
                              | refine ob_of (by with_unfolding_all rfl) ?_
                              | refine op2_of (by with_unfolding_all rfl) ?_
                              | refine ifb_t (by with_unfolding_all rfl) ?_
                              | refine ifb_f (by with_unfolding_all rfl) ?_
                              | refine ifb_t (decide_eq_true (by first | omega | assumption)) ?_
                              | refine ifb_f (decide_eq_false (by first | omega | assumption)) ?_
                              | refine ifb_t (beq_tt (decide_eq_true (by first | omega | assumption))) ?_
                              | refine ifb_f (beq_tf (decide_eq_false (by first | omega | assumption))) ?_
                              | refine ifb_t (beq_ff (decide_eq_false (by first | omega | assumption))) ?_
                              | refine ifb_f (beq_ft (decide_eq_true (by first | omega | assumption))) ?_
                              | refine force_of ?_
                              | refine new_of ?_
                              | refine take_of ?_
                              | refine app_of ?_) ?_
                        refine Round.nm ((L, names, hp, k + 1, k + 1)) ?_ ?_ ?_ ?_
                        · exact (show Pinv l.length L names hp (k + 1) (k + 1) from ⟨by omega, by omega, by omega, hn, hx16, hL⟩)
                        · show l.length + 1 - (k + 1) < l.length + 1 - k; omega
                        · repeat (first | exact Sub.nil _ | refine Sub.cons (by with_unfolding_all rfl) ?_)
                        · rfl
                      · -- t58 False
                        simp at ht58
                        refine WP.seq ?_
                        refine WP.region (by
                            repeat first
                              | rfl
                              | refine ob_of lenV_sl ?_
                              | refine ob_of lenV_ref ?_
                              | refine ob_of lenV_str ?_
                              | refine ob_of lenV_nil ?_
                              | refine ob_of bin_lss ?_
                              | refine ob_of bin_gtr ?_
                              | refine ob_of bin_leq ?_
                              | refine ob_of bin_geq ?_
                              | refine ob_of bin_eql ?_
                              | refine ob_of bin_neq ?_
                              | refine ob_of bin_seql ?_
                              | refine ob_of bin_sneq ?_
                              | refine ob_of mm_max ?_
                              | refine ob_of mm_min ?_
                              | refine ob_of (bin_add (by omega)) ?_
                              | refine ob_of (bin_sub (by omega)) ?_
                              | refine ob_of (bin_mul (by omega)) ?_
                              | refine ob_of (by assumption) ?_
                              | refine ob_of (index_sl (by assumption)) ?_
                              | refine ob_of (index_str (by assumption)) ?_
                              | refine ob_of (by with_unfolding_all rfl) ?_
                              | refine op2_of (by with_unfolding_all rfl) ?_
                              | refine ifb_t (by with_unfolding_all rfl) ?_
                              | refine ifb_f (by with_unfolding_all rfl) ?_
                              | refine ifb_t (decide_eq_true (by first | omega | assumption)) ?_
                              | refine ifb_f (decide_eq_false (by first | omega | assumption)) ?_
                              | refine ifb_t (beq_tt (decide_eq_true (by first | omega | assumption))) ?_
                              | refine ifb_f (beq_tf (decide_eq_false (by first | omega | assumption))) ?_
                              | refine ifb_t (beq_ff (decide_eq_false (by first | omega | assumption))) ?_
                              | refine ifb_f (beq_ft (decide_eq_true (by first | omega | assumption))) ?_
                              | refine force_of ?_
                              | refine new_of ?_
                              | refine take_of ?_
                              | refine app_of ?_) ?_
                        refine Then.nm ?_
                        refine WP.cond (by with_unfolding_all rfl) (fun ht65 => ?_) (fun ht65 => ?_)
                        · -- t65 True
                          simp at ht65
                          rcases hL with ⟨rfl, rfl⟩ | ⟨b, els, g, fz, rfl, hg, htk, hb, hle⟩
                          · skip
                            refine WP.region (by
                                repeat first
                                  | rfl
                                  | refine ob_of (bound_int 0 (by with_unfolding_all rfl) (by omega)) ?_
                                  | refine ob_of lenV_sl ?_
                                  | refine ob_of lenV_ref ?_
                                  | refine ob_of lenV_str ?_
                                  | refine ob_of lenV_nil ?_
                                  | refine ob_of bin_lss ?_
                                  | refine ob_of bin_gtr ?_
                                  | refine ob_of bin_leq ?_
                                  | refine ob_of bin_geq ?_
                                  | refine ob_of bin_eql ?_
                                  | refine ob_of bin_neq ?_
                                  | refine ob_of bin_seql ?_
                                  | refine ob_of bin_sneq ?_
                                  | refine ob_of mm_max ?_
                                  | refine ob_of mm_min ?_
                                  | refine ob_of (bin_add (by omega)) ?_
                                  | refine ob_of (bin_sub (by omega)) ?_
                                  | refine ob_of (bin_mul (by omega)) ?_
                                  | refine ob_of (by assumption) ?_
                                  | refine ob_of (index_sl (by assumption)) ?_
                                  | refine ob_of (index_str (by assumption)) ?_
                                  | refine ob_of (by with_unfolding_all rfl) ?_
                                  | refine op2_of (by with_unfolding_all rfl) ?_
                                  | refine ifb_t (by with_unfolding_all rfl) ?_
                                  | refine ifb_f (by with_unfolding_all rfl) ?_
                                  | refine ifb_t (decide_eq_true (by first | omega | assumption)) ?_
                                  | refine ifb_f (decide_eq_false (by first | omega | assumption)) ?_
                                  | refine ifb_t (beq_tt (decide_eq_true (by first | omega | assumption))) ?_
                                  | refine ifb_f (beq_tf (decide_eq_false (by first | omega | assumption))) ?_
                                  | refine ifb_t (beq_ff (decide_eq_false (by first | omega | assumption))) ?_
                                  | refine ifb_f (beq_ft (decide_eq_true (by first | omega | assumption))) ?_
                                  | refine force_of ?_
                                  | refine new_of ?_
                                  | refine take_of ?_
                                  | refine app_of ?_) ?_
                            refine Blok.nm ?_
                            refine Blok.nm ?_
                            refine Then.nm ?_
                            refine WP.region (by
                                repeat first
                                  | rfl
                                  | refine ob_of lenV_sl ?_
                                  | refine ob_of lenV_ref ?_
                                  | refine ob_of lenV_str ?_
                                  | refine ob_of lenV_nil ?_
                                  | refine ob_of bin_lss ?_
                                  | refine ob_of bin_gtr ?_
                                  | refine ob_of bin_leq ?_
                                  | refine ob_of bin_geq ?_
                                  | refine ob_of bin_eql ?_
                                  | refine ob_of bin_neq ?_
                                  | refine ob_of bin_seql ?_
                                  | refine ob_of bin_sneq ?_
                                  | refine ob_of mm_max ?_
                                  | refine ob_of mm_min ?_
                                  | refine ob_of (bin_add (by omega)) ?_
                                  | refine ob_of (bin_sub (by omega)) ?_
                                  | refine ob_of (bin_mul (by omega)) ?_
                                  | refine ob_of (by assumption) ?_
                                  | refine ob_of (index_sl (by assumption)) ?_
                                  | refine ob_of (index_str (by assumption)) ?_
                                  | refine ob_of (by with_unfolding_all rfl) ?_
                                  | refine op2_of (by with_unfolding_all rfl) ?_
                                  | refine ifb_t (by with_unfolding_all rfl) ?_
                                  | refine ifb_f (by with_unfolding_all rfl) ?_
                                  | refine ifb_t (decide_eq_true (by first | omega | assumption)) ?_
                                  | refine ifb_f (decide_eq_false (by first | omega | assumption)) ?_
                                  | refine ifb_t (beq_tt (decide_eq_true (by first | omega | assumption))) ?_
                                  | refine ifb_f (beq_tf (decide_eq_false (by first | omega | assumption))) ?_
                                  | refine ifb_t (beq_ff (decide_eq_false (by first | omega | assumption))) ?_
                                  | refine ifb_f (beq_ft (decide_eq_true (by first | omega | assumption))) ?_
                                  | refine force_of ?_
                                  | refine new_of ?_
                                  | refine take_of ?_
                                  | refine app_of ?_) ?_
                            refine Round.nm ((.nil, [], hp, k + 1, k + 1)) ?_ ?_ ?_ ?_
                            · exact (show Pinv l.length .nil [] hp (k + 1) (k + 1) from ⟨by omega, by omega, by omega, hn, hx16, .inl ⟨rfl, rfl⟩⟩)
                            · show l.length + 1 - (k + 1) < l.length + 1 - k; omega
                            · repeat (first | exact Sub.nil _ | refine Sub.cons (by with_unfolding_all rfl) ?_)
                            · rfl
                          · skip
                            refine WP.region (by
                                repeat first
                                  | rfl
                                  | refine ob_of (bound_int (names.length - 1) (by with_unfolding_all rfl) (by omega)) ?_
                                  | refine ob_of (slice_ref (a := 0) (b := names.length - 1) (by with_unfolding_all rfl) (by with_unfolding_all rfl) none (some (names.length - 1)) rfl rfl (by omega) (by omega)) ?_
                                  | refine ob_of lenV_sl ?_
                                  | refine ob_of lenV_ref ?_
                                  | refine ob_of lenV_str ?_
                                  | refine ob_of lenV_nil ?_
                                  | refine ob_of bin_lss ?_
                                  | refine ob_of bin_gtr ?_
                                  | refine ob_of bin_leq ?_
                                  | refine ob_of bin_geq ?_
                                  | refine ob_of bin_eql ?_
                                  | refine ob_of bin_neq ?_
                                  | refine ob_of bin_seql ?_
                                  | refine ob_of bin_sneq ?_
                                  | refine ob_of mm_max ?_
                                  | refine ob_of mm_min ?_
                                  | refine ob_of (bin_add (by omega)) ?_
                                  | refine ob_of (bin_sub (by omega)) ?_
                                  | refine ob_of (bin_mul (by omega)) ?_
                                  | refine ob_of (by assumption) ?_
                                  | refine ob_of (index_sl (by assumption)) ?_
                                  | refine ob_of (index_str (by assumption)) ?_
                                  | refine ob_of (by with_unfolding_all rfl) ?_
                                  | refine op2_of (by with_unfolding_all rfl) ?_
                                  | refine ifb_t (by with_unfolding_all rfl) ?_
                                  | refine ifb_f (by with_unfolding_all rfl) ?_
                                  | refine ifb_t (decide_eq_true (by first | omega | assumption)) ?_
                                  | refine ifb_f (decide_eq_false (by first | omega | assumption)) ?_
                                  | refine ifb_t (beq_tt (decide_eq_true (by first | omega | assumption))) ?_
                                  | refine ifb_f (beq_tf (decide_eq_false (by first | omega | assumption))) ?_
                                  | refine ifb_t (beq_ff (decide_eq_false (by first | omega | assumption))) ?_
                                  | refine ifb_f (beq_ft (decide_eq_true (by first | omega | assumption))) ?_
                                  | refine force_of ?_
                                  | refine new_of ?_
                                  | refine take_of ?_
                                  | refine app_of ?_) ?_
                            refine Blok.nm ?_
                            refine Blok.nm ?_
                            refine Then.nm ?_
                            refine WP.region (by
                                repeat first
                                  | rfl
                                  | refine ob_of lenV_sl ?_
                                  | refine ob_of lenV_ref ?_
                                  | refine ob_of lenV_str ?_
                                  | refine ob_of lenV_nil ?_
                                  | refine ob_of bin_lss ?_
                                  | refine ob_of bin_gtr ?_
                                  | refine ob_of bin_leq ?_
                                  | refine ob_of bin_geq ?_
                                  | refine ob_of bin_eql ?_
                                  | refine ob_of bin_neq ?_
                                  | refine ob_of bin_seql ?_
                                  | refine ob_of bin_sneq ?_
                                  | refine ob_of mm_max ?_
                                  | refine ob_of mm_min ?_
                                  | refine ob_of (bin_add (by omega)) ?_
                                  | refine ob_of (bin_sub (by omega)) ?_
                                  | refine ob_of (bin_mul (by omega)) ?_
                                  | refine ob_of (by assumption) ?_
                                  | refine ob_of (index_sl (by assumption)) ?_
                                  | refine ob_of (index_str (by assumption)) ?_
                                  | refine ob_of (by with_unfolding_all rfl) ?_
                                  | refine op2_of (by with_unfolding_all rfl) ?_
                                  | refine ifb_t (by with_unfolding_all rfl) ?_
                                  | refine ifb_f (by with_unfolding_all rfl) ?_
                                  | refine ifb_t (decide_eq_true (by first | omega | assumption)) ?_
                                  | refine ifb_f (decide_eq_false (by first | omega | assumption)) ?_
                                  | refine ifb_t (beq_tt (decide_eq_true (by first | omega | assumption))) ?_
                                  | refine ifb_f (beq_tf (decide_eq_false (by first | omega | assumption))) ?_
                                  | refine ifb_t (beq_ff (decide_eq_false (by first | omega | assumption))) ?_
                                  | refine ifb_f (beq_ft (decide_eq_true (by first | omega | assumption))) ?_
                                  | refine force_of ?_
                                  | refine new_of ?_
                                  | refine take_of ?_
                                  | refine app_of ?_) ?_
                            refine Round.nm ((.ref b 1 0 (names.length - 1) none, names.take (names.length - 1), hp, k + 1, k + 1)) ?_ ?_ ?_ ?_
                            · exact (show Pinv l.length (.ref b 1 0 (names.length - 1) none) (names.take (names.length - 1)) hp (k + 1) (k + 1) from ⟨by omega, by omega, by omega, by (first | (simp; done) | (simp; omega)), fun x hx => hx16 x (List.mem_of_mem_take hx), .inr ⟨b, els, g, fz, by simp, hg, by simp only [List.drop_zero] at *; rw [List.length_take, List.map_take, ← htk, List.take_take]; (try (congr 1; omega)), hb, by (first | (simp; done) | (simp; omega))⟩⟩)
                            · show l.length + 1 - (k + 1) < l.length + 1 - k; omega
                            · repeat (first | exact Sub.nil _ | refine Sub.cons (by with_unfolding_all rfl) ?_)
                            · rfl
                        · -- t65 False
                          simp at ht65
                          refine WP.seq ?_
                          rcases hL with ⟨rfl, rfl⟩ | ⟨b, els, g, fz, rfl, hg, htk, hb, hle⟩
                          · skip
                            by_cases h22 : 24 < x.length
                            · -- r22 True
                              refine WP.region (by
                                  repeat first
                                    | rfl
                                    | refine ob_of lenV_sl ?_
                                    | refine ob_of lenV_ref ?_
                                    | refine ob_of lenV_str ?_
                                    | refine ob_of lenV_nil ?_
                                    | refine ob_of bin_lss ?_
                                    | refine ob_of bin_gtr ?_
                                    | refine ob_of bin_leq ?_
                                    | refine ob_of bin_geq ?_
                                    | refine ob_of bin_eql ?_
                                    | refine ob_of bin_neq ?_
                                    | refine ob_of bin_seql ?_
                                    | refine ob_of bin_sneq ?_
                                    | refine ob_of mm_max ?_
                                    | refine ob_of mm_min ?_
                                    | refine ob_of (bin_add (by omega)) ?_
                                    | refine ob_of (bin_sub (by omega)) ?_
                                    | refine ob_of (bin_mul (by omega)) ?_
                                    | refine ob_of (by assumption) ?_
                                    | refine ob_of (index_sl (by assumption)) ?_
                                    | refine ob_of (index_str (by assumption)) ?_
                                    | refine ob_of (by with_unfolding_all rfl) ?_
                                    | refine op2_of (by with_unfolding_all rfl) ?_
                                    | refine ifb_t (by with_unfolding_all rfl) ?_
                                    | refine ifb_f (by with_unfolding_all rfl) ?_
                                    | refine ifb_t (decide_eq_true (by first | omega | assumption)) ?_
                                    | refine ifb_f (decide_eq_false (by first | omega | assumption)) ?_
                                    | refine ifb_t (beq_tt (decide_eq_true (by first | omega | assumption))) ?_
                                    | refine ifb_f (beq_tf (decide_eq_false (by first | omega | assumption))) ?_
                                    | refine ifb_t (beq_ff (decide_eq_false (by first | omega | assumption))) ?_
                                    | refine ifb_f (beq_ft (decide_eq_true (by first | omega | assumption))) ?_
                                    | refine force_of ?_
                                    | refine new_of ?_
                                    | refine take_of ?_
                                    | refine app_of ?_) ?_
                              refine Then.nm ?_
                              refine WP.cond (by with_unfolding_all rfl) (fun ht74 => ?_) (fun ht74 => ?_)
                              · -- t74 True
                                clear ht74
                                refine WP.seq ?_
                                refine WP.region (by
                                    repeat first
                                      | rfl
                                      | refine ob_of lenV_sl ?_
                                      | refine ob_of lenV_ref ?_
                                      | refine ob_of lenV_str ?_
                                      | refine ob_of lenV_nil ?_
                                      | refine ob_of bin_lss ?_
                                      | refine ob_of bin_gtr ?_
                                      | refine ob_of bin_leq ?_
                                      | refine ob_of bin_geq ?_
                                      | refine ob_of bin_eql ?_
                                      | refine ob_of bin_neq ?_
                                      | refine ob_of bin_seql ?_
                                      | refine ob_of bin_sneq ?_
                                      | refine ob_of mm_max ?_
                                      | refine ob_of mm_min ?_
                                      | refine ob_of (bin_add (by omega)) ?_
                                      | refine ob_of (bin_sub (by omega)) ?_
                                      | refine ob_of (bin_mul (by omega)) ?_
                                      | refine ob_of (by assumption) ?_
                                      | refine ob_of (index_sl (by assumption)) ?_
                                      | refine ob_of (index_str (by assumption)) ?_
                                      | refine ob_of (by with_unfolding_all rfl) ?_
                                      | refine op2_of (by with_unfolding_all rfl) ?_
                                      | refine ifb_t (by with_unfolding_all rfl) ?_
                                      | refine ifb_f (by with_unfolding_all rfl) ?_
                                      | refine ifb_t (decide_eq_true (by first | omega | assumption)) ?_
                                      | refine ifb_f (decide_eq_false (by first | omega | assumption)) ?_
                                      | refine ifb_t (beq_tt (decide_eq_true (by first | omega | assumption))) ?_
                                      | refine ifb_f (beq_tf (decide_eq_false (by first | omega | assumption))) ?_
                                      | refine ifb_t (beq_ff (decide_eq_false (by first | omega | assumption))) ?_
                                      | refine ifb_f (beq_ft (decide_eq_true (by first | omega | assumption))) ?_
                                      | refine force_of ?_
                                      | refine new_of ?_
                                      | refine take_of ?_
                                      | refine app_of ?_) ?_
                                refine Then.nm ?_
                                refine WP.ret ?_
                                refine Blok.rt ?_
                                refine Blok.rt ?_
                                refine Then.rt ?_
                                refine Round.rt ?_
                                refine Blok.rt ?_
                                refine Then.rt ?_
                                exact ⟨_, .inr (.inl rfl), Ends.mk rfl (by with_unfolding_all rfl) ⟨_, (by with_unfolding_all rfl)⟩⟩
                              · first | (cases ht74; done) | (simp at ht74; done) | exact absurd ht74 (by decide)
                            · -- r22 False
                              refine WP.region (by
                                  repeat first
                                    | rfl
                                    | refine ob_of lenV_sl ?_
                                    | refine ob_of lenV_ref ?_
                                    | refine ob_of lenV_str ?_
                                    | refine ob_of lenV_nil ?_
                                    | refine ob_of bin_lss ?_
                                    | refine ob_of bin_gtr ?_
                                    | refine ob_of bin_leq ?_
                                    | refine ob_of bin_geq ?_
                                    | refine ob_of bin_eql ?_
                                    | refine ob_of bin_neq ?_
                                    | refine ob_of bin_seql ?_
                                    | refine ob_of bin_sneq ?_
                                    | refine ob_of mm_max ?_
                                    | refine ob_of mm_min ?_
                                    | refine ob_of (bin_add (by omega)) ?_
                                    | refine ob_of (bin_sub (by omega)) ?_
                                    | refine ob_of (bin_mul (by omega)) ?_
                                    | refine ob_of (by assumption) ?_
                                    | refine ob_of (index_sl (by assumption)) ?_
                                    | refine ob_of (index_str (by assumption)) ?_
                                    | refine ob_of (by with_unfolding_all rfl) ?_
                                    | refine op2_of (by with_unfolding_all rfl) ?_
                                    | refine ifb_t (by with_unfolding_all rfl) ?_
                                    | refine ifb_f (by with_unfolding_all rfl) ?_
                                    | refine ifb_t (decide_eq_true (by first | omega | assumption)) ?_
                                    | refine ifb_f (decide_eq_false (by first | omega | assumption)) ?_
                                    | refine ifb_t (beq_tt (decide_eq_true (by first | omega | assumption))) ?_
                                    | refine ifb_f (beq_tf (decide_eq_false (by first | omega | assumption))) ?_
                                    | refine ifb_t (beq_ff (decide_eq_false (by first | omega | assumption))) ?_
                                    | refine ifb_f (beq_ft (decide_eq_true (by first | omega | assumption))) ?_
                                    | refine force_of ?_
                                    | refine new_of ?_
                                    | refine take_of ?_
                                    | refine app_of ?_) ?_
                              refine Then.nm ?_
                              refine WP.cond (by with_unfolding_all rfl) (fun ht74 => ?_) (fun ht74 => ?_)
                              · first | (cases ht74; done) | (simp at ht74; done) | exact absurd ht74 (by decide)
                              · -- t74 False
                                clear ht74
                                refine WP.region (by
                                    repeat first
                                      | rfl
                                      | refine ob_of (elems_rows [[.str x]] get_new_same rfl (by simp)) ?_
                                      | refine app_none rfl ?_
                                      | refine app_cap (els := []) (g := false) (fz := 0) (by simp) ((get_new_ne (Nat.ne_of_lt (Nat.lt_succ_self _))).trans get_new_same) (by simp) (by simp) ?_
                                      | refine ob_of lenV_sl ?_
                                      | refine ob_of lenV_ref ?_
                                      | refine ob_of lenV_str ?_
                                      | refine ob_of lenV_nil ?_
                                      | refine ob_of bin_lss ?_
                                      | refine ob_of bin_gtr ?_
                                      | refine ob_of bin_leq ?_
                                      | refine ob_of bin_geq ?_
                                      | refine ob_of bin_eql ?_
                                      | refine ob_of bin_neq ?_
                                      | refine ob_of bin_seql ?_
                                      | refine ob_of bin_sneq ?_
                                      | refine ob_of mm_max ?_
                                      | refine ob_of mm_min ?_
                                      | refine ob_of (bin_add (by omega)) ?_
                                      | refine ob_of (bin_sub (by omega)) ?_
                                      | refine ob_of (bin_mul (by omega)) ?_
                                      | refine ob_of (by assumption) ?_
                                      | refine ob_of (index_sl (by assumption)) ?_
                                      | refine ob_of (index_str (by assumption)) ?_
                                      | refine ob_of (by with_unfolding_all rfl) ?_
                                      | refine op2_of (by with_unfolding_all rfl) ?_
                                      | refine ifb_t (by with_unfolding_all rfl) ?_
                                      | refine ifb_f (by with_unfolding_all rfl) ?_
                                      | refine ifb_t (decide_eq_true (by first | omega | assumption)) ?_
                                      | refine ifb_f (decide_eq_false (by first | omega | assumption)) ?_
                                      | refine ifb_t (beq_tt (decide_eq_true (by first | omega | assumption))) ?_
                                      | refine ifb_f (beq_tf (decide_eq_false (by first | omega | assumption))) ?_
                                      | refine ifb_t (beq_ff (decide_eq_false (by first | omega | assumption))) ?_
                                      | refine ifb_f (beq_ft (decide_eq_true (by first | omega | assumption))) ?_
                                      | refine force_of ?_
                                      | refine new_of ?_
                                      | refine take_of ?_
                                      | refine app_of ?_) ?_
                                refine Blok.nm ?_
                                refine Blok.nm ?_
                                refine Then.nm ?_
                                refine WP.region (by
                                    repeat first
                                      | rfl
                                      | refine ob_of lenV_sl ?_
                                      | refine ob_of lenV_ref ?_
                                      | refine ob_of lenV_str ?_
                                      | refine ob_of lenV_nil ?_
                                      | refine ob_of bin_lss ?_
                                      | refine ob_of bin_gtr ?_
                                      | refine ob_of bin_leq ?_
                                      | refine ob_of bin_geq ?_
                                      | refine ob_of bin_eql ?_
                                      | refine ob_of bin_neq ?_
                                      | refine ob_of bin_seql ?_
                                      | refine ob_of bin_sneq ?_
                                      | refine ob_of mm_max ?_
                                      | refine ob_of mm_min ?_
                                      | refine ob_of (bin_add (by omega)) ?_
                                      | refine ob_of (bin_sub (by omega)) ?_
                                      | refine ob_of (bin_mul (by omega)) ?_
                                      | refine ob_of (by assumption) ?_
                                      | refine ob_of (index_sl (by assumption)) ?_
                                      | refine ob_of (index_str (by assumption)) ?_
                                      | refine ob_of (by with_unfolding_all rfl) ?_
                                      | refine op2_of (by with_unfolding_all rfl) ?_
                                      | refine ifb_t (by with_unfolding_all rfl) ?_
                                      | refine ifb_f (by with_unfolding_all rfl) ?_
                                      | refine ifb_t (decide_eq_true (by first | omega | assumption)) ?_
                                      | refine ifb_f (decide_eq_false (by first | omega | assumption)) ?_
                                      | refine ifb_t (beq_tt (decide_eq_true (by first | omega | assumption))) ?_
                                      | refine ifb_f (beq_tf (decide_eq_false (by first | omega | assumption))) ?_
                                      | refine ifb_t (beq_ff (decide_eq_false (by first | omega | assumption))) ?_
                                      | refine ifb_f (beq_ft (decide_eq_true (by first | omega | assumption))) ?_
                                      | refine force_of ?_
                                      | refine new_of ?_
                                      | refine take_of ?_
                                      | refine app_of ?_) ?_
                                refine Round.nm (?L2624, [] ++ [x], ?hh2624, k + 1, k + 1) ?inv2624 ?less2624 ?sub2624 ?heap2624
                                case heap2624 => rfl
                                case sub2624 => repeat (first | exact Sub.nil _ | refine Sub.cons (by with_unfolding_all rfl) ?_)
                                case less2624 => show l.length + 1 - (k + 1) < l.length + 1 - k; omega
                                case inv2624 =>
                                  have hx1 : x.length ≠ 0 := fun hq => h19 (List.eq_nil_of_length_eq_zero hq)
                                  refine (show Pinv l.length _ _ _ (k + 1) (k + 1) from ⟨by omega, by omega, by omega, by simp, ?_, .inr ⟨_, _, _, _, rfl, get_new_same, ?_, Nat.lt_succ_self _, ?_⟩⟩)
                                  · intro z hz; simp only [List.mem_append, List.mem_singleton] at hz; rcases hz with hz | rfl
                                    · exact hx16 z hz
                                    · exact ⟨by omega, by omega, hxb⟩
                                  · first | (simp; done) | (simp; exact List.take_of_length_le (by simp))
                                  · simp
                          · skip
                            by_cases h22 : 24 < x.length
                            · -- r22 True
                              refine WP.region (by
                                  repeat first
                                    | rfl
                                    | refine ob_of lenV_sl ?_
                                    | refine ob_of lenV_ref ?_
                                    | refine ob_of lenV_str ?_
                                    | refine ob_of lenV_nil ?_
                                    | refine ob_of bin_lss ?_
                                    | refine ob_of bin_gtr ?_
                                    | refine ob_of bin_leq ?_
                                    | refine ob_of bin_geq ?_
                                    | refine ob_of bin_eql ?_
                                    | refine ob_of bin_neq ?_
                                    | refine ob_of bin_seql ?_
                                    | refine ob_of bin_sneq ?_
                                    | refine ob_of mm_max ?_
                                    | refine ob_of mm_min ?_
                                    | refine ob_of (bin_add (by omega)) ?_
                                    | refine ob_of (bin_sub (by omega)) ?_
                                    | refine ob_of (bin_mul (by omega)) ?_
                                    | refine ob_of (by assumption) ?_
                                    | refine ob_of (index_sl (by assumption)) ?_
                                    | refine ob_of (index_str (by assumption)) ?_
                                    | refine ob_of (by with_unfolding_all rfl) ?_
                                    | refine op2_of (by with_unfolding_all rfl) ?_
                                    | refine ifb_t (by with_unfolding_all rfl) ?_
                                    | refine ifb_f (by with_unfolding_all rfl) ?_
                                    | refine ifb_t (decide_eq_true (by first | omega | assumption)) ?_
                                    | refine ifb_f (decide_eq_false (by first | omega | assumption)) ?_
                                    | refine ifb_t (beq_tt (decide_eq_true (by first | omega | assumption))) ?_
                                    | refine ifb_f (beq_tf (decide_eq_false (by first | omega | assumption))) ?_
                                    | refine ifb_t (beq_ff (decide_eq_false (by first | omega | assumption))) ?_
                                    | refine ifb_f (beq_ft (decide_eq_true (by first | omega | assumption))) ?_
                                    | refine force_of ?_
                                    | refine new_of ?_
                                    | refine take_of ?_
                                    | refine app_of ?_) ?_
                              refine Then.nm ?_
                              refine WP.cond (by with_unfolding_all rfl) (fun ht74 => ?_) (fun ht74 => ?_)
                              · -- t74 True
                                clear ht74
                                refine WP.seq ?_
                                refine WP.region (by
                                    repeat first
                                      | rfl
                                      | refine ob_of lenV_sl ?_
                                      | refine ob_of lenV_ref ?_
                                      | refine ob_of lenV_str ?_
                                      | refine ob_of lenV_nil ?_
                                      | refine ob_of bin_lss ?_
                                      | refine ob_of bin_gtr ?_
                                      | refine ob_of bin_leq ?_
                                      | refine ob_of bin_geq ?_
                                      | refine ob_of bin_eql ?_
                                      | refine ob_of bin_neq ?_
                                      | refine ob_of bin_seql ?_
                                      | refine ob_of bin_sneq ?_
                                      | refine ob_of mm_max ?_
                                      | refine ob_of mm_min ?_
                                      | refine ob_of (bin_add (by omega)) ?_
                                      | refine ob_of (bin_sub (by omega)) ?_
                                      | refine ob_of (bin_mul (by omega)) ?_
                                      | refine ob_of (by assumption) ?_
                                      | refine ob_of (index_sl (by assumption)) ?_
                                      | refine ob_of (index_str (by assumption)) ?_
                                      | refine ob_of (by with_unfolding_all rfl) ?_
                                      | refine op2_of (by with_unfolding_all rfl) ?_
                                      | refine ifb_t (by with_unfolding_all rfl) ?_
                                      | refine ifb_f (by with_unfolding_all rfl) ?_
                                      | refine ifb_t (decide_eq_true (by first | omega | assumption)) ?_
                                      | refine ifb_f (decide_eq_false (by first | omega | assumption)) ?_
                                      | refine ifb_t (beq_tt (decide_eq_true (by first | omega | assumption))) ?_
                                      | refine ifb_f (beq_tf (decide_eq_false (by first | omega | assumption))) ?_
                                      | refine ifb_t (beq_ff (decide_eq_false (by first | omega | assumption))) ?_
                                      | refine ifb_f (beq_ft (decide_eq_true (by first | omega | assumption))) ?_
                                      | refine force_of ?_
                                      | refine new_of ?_
                                      | refine take_of ?_
                                      | refine app_of ?_) ?_
                                refine Then.nm ?_
                                refine WP.ret ?_
                                refine Blok.rt ?_
                                refine Blok.rt ?_
                                refine Then.rt ?_
                                refine Round.rt ?_
                                refine Blok.rt ?_
                                refine Then.rt ?_
                                exact ⟨_, .inr (.inl rfl), Ends.mk rfl (by with_unfolding_all rfl) ⟨_, (by with_unfolding_all rfl)⟩⟩
                              · first | (cases ht74; done) | (simp at ht74; done) | exact absurd ht74 (by decide)
                            · -- r22 False
                              refine WP.region (by
                                  repeat first
                                    | rfl
                                    | refine ob_of lenV_sl ?_
                                    | refine ob_of lenV_ref ?_
                                    | refine ob_of lenV_str ?_
                                    | refine ob_of lenV_nil ?_
                                    | refine ob_of bin_lss ?_
                                    | refine ob_of bin_gtr ?_
                                    | refine ob_of bin_leq ?_
                                    | refine ob_of bin_geq ?_
                                    | refine ob_of bin_eql ?_
                                    | refine ob_of bin_neq ?_
                                    | refine ob_of bin_seql ?_
                                    | refine ob_of bin_sneq ?_
                                    | refine ob_of mm_max ?_
                                    | refine ob_of mm_min ?_
                                    | refine ob_of (bin_add (by omega)) ?_
                                    | refine ob_of (bin_sub (by omega)) ?_
                                    | refine ob_of (bin_mul (by omega)) ?_
                                    | refine ob_of (by assumption) ?_
                                    | refine ob_of (index_sl (by assumption)) ?_
                                    | refine ob_of (index_str (by assumption)) ?_
                                    | refine ob_of (by with_unfolding_all rfl) ?_
                                    | refine op2_of (by with_unfolding_all rfl) ?_
                                    | refine ifb_t (by with_unfolding_all rfl) ?_
                                    | refine ifb_f (by with_unfolding_all rfl) ?_
                                    | refine ifb_t (decide_eq_true (by first | omega | assumption)) ?_
                                    | refine ifb_f (decide_eq_false (by first | omega | assumption)) ?_
                                    | refine ifb_t (beq_tt (decide_eq_true (by first | omega | assumption))) ?_
                                    | refine ifb_f (beq_tf (decide_eq_false (by first | omega | assumption))) ?_
                                    | refine ifb_t (beq_ff (decide_eq_false (by first | omega | assumption))) ?_
                                    | refine ifb_f (beq_ft (decide_eq_true (by first | omega | assumption))) ?_
                                    | refine force_of ?_
                                    | refine new_of ?_
                                    | refine take_of ?_
                                    | refine app_of ?_) ?_
                              refine Then.nm ?_
                              refine WP.cond (by with_unfolding_all rfl) (fun ht74 => ?_) (fun ht74 => ?_)
                              · -- t74 True
                                simp at ht74
                                refine WP.seq ?_
                                refine WP.region (by
                                    repeat first
                                      | rfl
                                      | refine ob_of lenV_sl ?_
                                      | refine ob_of lenV_ref ?_
                                      | refine ob_of lenV_str ?_
                                      | refine ob_of lenV_nil ?_
                                      | refine ob_of bin_lss ?_
                                      | refine ob_of bin_gtr ?_
                                      | refine ob_of bin_leq ?_
                                      | refine ob_of bin_geq ?_
                                      | refine ob_of bin_eql ?_
                                      | refine ob_of bin_neq ?_
                                      | refine ob_of bin_seql ?_
                                      | refine ob_of bin_sneq ?_
                                      | refine ob_of mm_max ?_
                                      | refine ob_of mm_min ?_
                                      | refine ob_of (bin_add (by omega)) ?_
                                      | refine ob_of (bin_sub (by omega)) ?_
                                      | refine ob_of (bin_mul (by omega)) ?_
                                      | refine ob_of (by assumption) ?_
                                      | refine ob_of (index_sl (by assumption)) ?_
                                      | refine ob_of (index_str (by assumption)) ?_
                                      | refine ob_of (by with_unfolding_all rfl) ?_
                                      | refine op2_of (by with_unfolding_all rfl) ?_
                                      | refine ifb_t (by with_unfolding_all rfl) ?_
                                      | refine ifb_f (by with_unfolding_all rfl) ?_
                                      | refine ifb_t (decide_eq_true (by first | omega | assumption)) ?_
                                      | refine ifb_f (decide_eq_false (by first | omega | assumption)) ?_
                                      | refine ifb_t (beq_tt (decide_eq_true (by first | omega | assumption))) ?_
                                      | refine ifb_f (beq_tf (decide_eq_false (by first | omega | assumption))) ?_
                                      | refine ifb_t (beq_ff (decide_eq_false (by first | omega | assumption))) ?_
                                      | refine ifb_f (beq_ft (decide_eq_true (by first | omega | assumption))) ?_
                                      | refine force_of ?_
                                      | refine new_of ?_
                                      | refine take_of ?_
                                      | refine app_of ?_) ?_
                                refine Then.nm ?_
                                refine WP.ret ?_
                                refine Blok.rt ?_
                                refine Blok.rt ?_
                                refine Then.rt ?_
                                refine Round.rt ?_
                                refine Blok.rt ?_
                                refine Then.rt ?_
                                exact ⟨_, .inr (.inl rfl), Ends.mk rfl (by with_unfolding_all rfl) ⟨_, (by with_unfolding_all rfl)⟩⟩
                              · -- t74 False
                                simp at ht74
                                rcases names with _ | ⟨y, ys⟩
                                · skip
                                  refine WP.region (by
                                      repeat first
                                        | rfl
                                        | refine ob_of (elems_rows [[.str x]] get_new_same rfl (by simp)) ?_
                                        | refine ob_of (elems_rows [] ((get_new_ne (Nat.ne_of_lt hb)).trans hg) htk (by simpa using hle)) ?_
                                        | refine app_none rfl ?_
                                        | refine app_cap (els := []) (g := false) (fz := 0) (by simp) ((get_new_ne (Nat.ne_of_lt (Nat.lt_succ_self _))).trans get_new_same) (by simp) (by simp) ?_
                                        | refine ob_of lenV_sl ?_
                                        | refine ob_of lenV_ref ?_
                                        | refine ob_of lenV_str ?_
                                        | refine ob_of lenV_nil ?_
                                        | refine ob_of bin_lss ?_
                                        | refine ob_of bin_gtr ?_
                                        | refine ob_of bin_leq ?_
                                        | refine ob_of bin_geq ?_
                                        | refine ob_of bin_eql ?_
                                        | refine ob_of bin_neq ?_
                                        | refine ob_of bin_seql ?_
                                        | refine ob_of bin_sneq ?_
                                        | refine ob_of mm_max ?_
                                        | refine ob_of mm_min ?_
                                        | refine ob_of (bin_add (by omega)) ?_
                                        | refine ob_of (bin_sub (by omega)) ?_
                                        | refine ob_of (bin_mul (by omega)) ?_
                                        | refine ob_of (by assumption) ?_
                                        | refine ob_of (index_sl (by assumption)) ?_
                                        | refine ob_of (index_str (by assumption)) ?_
                                        | refine ob_of (by with_unfolding_all rfl) ?_
                                        | refine op2_of (by with_unfolding_all rfl) ?_
                                        | refine ifb_t (by with_unfolding_all rfl) ?_
                                        | refine ifb_f (by with_unfolding_all rfl) ?_
                                        | refine ifb_t (decide_eq_true (by first | omega | assumption)) ?_
                                        | refine ifb_f (decide_eq_false (by first | omega | assumption)) ?_
                                        | refine ifb_t (beq_tt (decide_eq_true (by first | omega | assumption))) ?_
                                        | refine ifb_f (beq_tf (decide_eq_false (by first | omega | assumption))) ?_
                                        | refine ifb_t (beq_ff (decide_eq_false (by first | omega | assumption))) ?_
                                        | refine ifb_f (beq_ft (decide_eq_true (by first | omega | assumption))) ?_
                                        | refine force_of ?_
                                        | refine new_of ?_
                                        | refine take_of ?_
                                        | refine app_of ?_) ?_
                                  refine Blok.nm ?_
                                  refine Blok.nm ?_
                                  refine Then.nm ?_
                                  refine WP.region (by
                                      repeat first
                                        | rfl
                                        | refine ob_of lenV_sl ?_
                                        | refine ob_of lenV_ref ?_
                                        | refine ob_of lenV_str ?_
                                        | refine ob_of lenV_nil ?_
                                        | refine ob_of bin_lss ?_
                                        | refine ob_of bin_gtr ?_
                                        | refine ob_of bin_leq ?_
                                        | refine ob_of bin_geq ?_
                                        | refine ob_of bin_eql ?_
                                        | refine ob_of bin_neq ?_
                                        | refine ob_of bin_seql ?_
                                        | refine ob_of bin_sneq ?_
                                        | refine ob_of mm_max ?_
                                        | refine ob_of mm_min ?_
                                        | refine ob_of (bin_add (by omega)) ?_
                                        | refine ob_of (bin_sub (by omega)) ?_
                                        | refine ob_of (bin_mul (by omega)) ?_
                                        | refine ob_of (by assumption) ?_
                                        | refine ob_of (index_sl (by assumption)) ?_
                                        | refine ob_of (index_str (by assumption)) ?_
                                        | refine ob_of (by with_unfolding_all rfl) ?_
                                        | refine op2_of (by with_unfolding_all rfl) ?_
                                        | refine ifb_t (by with_unfolding_all rfl) ?_
                                        | refine ifb_f (by with_unfolding_all rfl) ?_
                                        | refine ifb_t (decide_eq_true (by first | omega | assumption)) ?_
                                        | refine ifb_f (decide_eq_false (by first | omega | assumption)) ?_
                                        | refine ifb_t (beq_tt (decide_eq_true (by first | omega | assumption))) ?_
                                        | refine ifb_f (beq_tf (decide_eq_false (by first | omega | assumption))) ?_
                                        | refine ifb_t (beq_ff (decide_eq_false (by first | omega | assumption))) ?_
                                        | refine ifb_f (beq_ft (decide_eq_true (by first | omega | assumption))) ?_
                                        | refine force_of ?_
                                        | refine new_of ?_
                                        | refine take_of ?_
                                        | refine app_of ?_) ?_
                                  refine Round.nm (?L2902, [] ++ [x], ?hh2902, k + 1, k + 1) ?inv2902 ?less2902 ?sub2902 ?heap2902
                                  case heap2902 => rfl
                                  case sub2902 => repeat (first | exact Sub.nil _ | refine Sub.cons (by with_unfolding_all rfl) ?_)
                                  case less2902 => show l.length + 1 - (k + 1) < l.length + 1 - k; omega
                                  case inv2902 =>
                                    have hx1 : x.length ≠ 0 := fun hq => h19 (List.eq_nil_of_length_eq_zero hq)
                                    refine (show Pinv l.length _ _ _ (k + 1) (k + 1) from ⟨by omega, by omega, by omega, by simp, ?_, .inr ⟨_, _, _, _, rfl, get_new_same, ?_, Nat.lt_succ_self _, ?_⟩⟩)
                                    · intro z hz; simp only [List.mem_append, List.mem_singleton] at hz; rcases hz with hz | rfl
                                      · exact hx16 z hz
                                      · exact ⟨by omega, by omega, hxb⟩
                                    · first | (simp; done) | (simp; exact List.take_of_length_le (by simp))
                                    · simp
                                · skip
                                  have hlen : ys.length + 1 ≤ 16 := by simpa using hn
                                  have hys : (ys.map fun x => [AV.str x]).length = ys.length := List.length_map ..
                                  refine WP.region (by
                                      repeat first
                                        | rfl
                                        | refine ob_of (elems_rows [[.str x]] get_new_same rfl (by simp)) ?_
                                        | refine ob_of (elems_rows ([AV.str y] :: ys.map fun x => [AV.str x]) ((get_new_ne (Nat.ne_of_lt hb)).trans hg) htk (by simpa using hle)) ?_
                                        | refine app_cap (els := []) (g := false) (fz := 0) (by omega) get_new_same (by simp) (by rw [hys]; omega) ?_
                                        | refine app_grow (els := [AV.str y] :: ys.map fun x => [AV.str x]) (g := true) (fz := 0) ((get_new_ne (Nat.ne_of_lt (Nat.lt_succ_self _))).trans get_new_same) (by simp) (by simp) (by rw [hys]; simp; omega) ?_
                                        | refine ob_of lenV_sl ?_
                                        | refine ob_of lenV_ref ?_
                                        | refine ob_of lenV_str ?_
                                        | refine ob_of lenV_nil ?_
                                        | refine ob_of bin_lss ?_
                                        | refine ob_of bin_gtr ?_
                                        | refine ob_of bin_leq ?_
                                        | refine ob_of bin_geq ?_
                                        | refine ob_of bin_eql ?_
                                        | refine ob_of bin_neq ?_
                                        | refine ob_of bin_seql ?_
                                        | refine ob_of bin_sneq ?_
                                        | refine ob_of mm_max ?_
                                        | refine ob_of mm_min ?_
                                        | refine ob_of (bin_add (by omega)) ?_
                                        | refine ob_of (bin_sub (by omega)) ?_
                                        | refine ob_of (bin_mul (by omega)) ?_
                                        | refine ob_of (by assumption) ?_
                                        | refine ob_of (index_sl (by assumption)) ?_
                                        | refine ob_of (index_str (by assumption)) ?_
                                        | refine ob_of (by with_unfolding_all rfl) ?_
                                        | refine op2_of (by with_unfolding_all rfl) ?_
                                        | refine ifb_t (by with_unfolding_all rfl) ?_
                                        | refine ifb_f (by with_unfolding_all rfl) ?_
                                        | refine ifb_t (decide_eq_true (by first | omega | assumption)) ?_
                                        | refine ifb_f (decide_eq_false (by first | omega | assumption)) ?_
                                        | refine ifb_t (beq_tt (decide_eq_true (by first | omega | assumption))) ?_
                                        | refine ifb_f (beq_tf (decide_eq_false (by first | omega | assumption))) ?_
                                        | refine ifb_t (beq_ff (decide_eq_false (by first | omega | assumption))) ?_
                                        | refine ifb_f (beq_ft (decide_eq_true (by first | omega | assumption))) ?_
                                        | refine force_of ?_
                                        | refine new_of ?_
                                        | refine take_of ?_
                                        | refine app_of ?_) ?_
                                  refine Blok.nm ?_
                                  refine Blok.nm ?_
                                  refine Then.nm ?_
                                  refine WP.region (by
                                      repeat first
                                        | rfl
                                        | refine ob_of lenV_sl ?_
                                        | refine ob_of lenV_ref ?_
                                        | refine ob_of lenV_str ?_
                                        | refine ob_of lenV_nil ?_
                                        | refine ob_of bin_lss ?_
                                        | refine ob_of bin_gtr ?_
                                        | refine ob_of bin_leq ?_
                                        | refine ob_of bin_geq ?_
                                        | refine ob_of bin_eql ?_
                                        | refine ob_of bin_neq ?_
                                        | refine ob_of bin_seql ?_
                                        | refine ob_of bin_sneq ?_
                                        | refine ob_of mm_max ?_
                                        | refine ob_of mm_min ?_
                                        | refine ob_of (bin_add (by omega)) ?_
                                        | refine ob_of (bin_sub (by omega)) ?_
                                        | refine ob_of (bin_mul (by omega)) ?_
                                        | refine ob_of (by assumption) ?_
                                        | refine ob_of (index_sl (by assumption)) ?_
                                        | refine ob_of (index_str (by assumption)) ?_
                                        | refine ob_of (by with_unfolding_all rfl) ?_
                                        | refine op2_of (by with_unfolding_all rfl) ?_
                                        | refine ifb_t (by with_unfolding_all rfl) ?_
                                        | refine ifb_f (by with_unfolding_all rfl) ?_
                                        | refine ifb_t (decide_eq_true (by first | omega | assumption)) ?_
                                        | refine ifb_f (decide_eq_false (by first | omega | assumption)) ?_
                                        | refine ifb_t (beq_tt (decide_eq_true (by first | omega | assumption))) ?_
                                        | refine ifb_f (beq_tf (decide_eq_false (by first | omega | assumption))) ?_
                                        | refine ifb_t (beq_ff (decide_eq_false (by first | omega | assumption))) ?_
                                        | refine ifb_f (beq_ft (decide_eq_true (by first | omega | assumption))) ?_
                                        | refine force_of ?_
                                        | refine new_of ?_
                                        | refine take_of ?_
                                        | refine app_of ?_) ?_
                                  refine Round.nm (?L2998, (y :: ys) ++ [x], ?hh2998, k + 1, k + 1) ?inv2998 ?less2998 ?sub2998 ?heap2998
                                  case heap2998 => rfl
                                  case sub2998 => repeat (first | exact Sub.nil _ | refine Sub.cons (by with_unfolding_all rfl) ?_)
                                  case less2998 => show l.length + 1 - (k + 1) < l.length + 1 - k; omega
                                  case inv2998 =>
                                    have hx1 : x.length ≠ 0 := fun hq => h19 (List.eq_nil_of_length_eq_zero hq)
                                    refine (show Pinv l.length _ _ _ (k + 1) (k + 1) from ⟨by omega, by omega, by omega, by simp at ht74 ⊢; (try omega), ?_, .inr ⟨_, _, _, _, congrArg (fun n => AV.ref _ 1 0 n none) (by simp), get_new_same, ?_, Nat.lt_succ_self _, ?_⟩⟩)
                                    · intro z hz; simp only [List.mem_append, List.mem_singleton] at hz; rcases hz with hz | rfl
                                      · exact hx16 z hz
                                      · exact ⟨by omega, by omega, hxb⟩
                                    · first | (simp; done) | (simp; exact List.take_of_length_le (by simp))
                                    · simp
              · -- t33 False
                simp at ht33
                refine WP.exit (.refl _) ?_
                refine Then.ex ?_
                refine Round.ex ?_
                refine Blok.here ?_
                refine Then.nm ?_
                refine WP.seq ?_
                refine WP.region (by
                    repeat first
                      | rfl
                      | refine ob_of lenV_sl ?_
                      | refine ob_of lenV_ref ?_
                      | refine ob_of lenV_str ?_
                      | refine ob_of lenV_nil ?_
                      | refine ob_of bin_lss ?_
                      | refine ob_of bin_gtr ?_
                      | refine ob_of bin_leq ?_
                      | refine ob_of bin_geq ?_
                      | refine ob_of bin_eql ?_
                      | refine ob_of bin_neq ?_
                      | refine ob_of bin_seql ?_
                      | refine ob_of bin_sneq ?_
                      | refine ob_of mm_max ?_
                      | refine ob_of mm_min ?_
                      | refine ob_of (bin_add (by omega)) ?_
                      | refine ob_of (bin_sub (by omega)) ?_
                      | refine ob_of (bin_mul (by omega)) ?_
                      | refine ob_of (by assumption) ?_
                      | refine ob_of (index_sl (by assumption)) ?_
                      | refine ob_of (index_str (by assumption)) ?_
                      | refine ob_of (by with_unfolding_all rfl) ?_
                      | refine op2_of (by with_unfolding_all rfl) ?_
                      | refine ifb_t (by with_unfolding_all rfl) ?_
                      | refine ifb_f (by with_unfolding_all rfl) ?_
                      | refine ifb_t (decide_eq_true (by first | omega | assumption)) ?_
                      | refine ifb_f (decide_eq_false (by first | omega | assumption)) ?_
                      | refine ifb_t (beq_tt (decide_eq_true (by first | omega | assumption))) ?_
                      | refine ifb_f (beq_tf (decide_eq_false (by first | omega | assumption))) ?_
                      | refine ifb_t (beq_ff (decide_eq_false (by first | omega | assumption))) ?_
                      | refine ifb_f (beq_ft (decide_eq_true (by first | omega | assumption))) ?_
                      | refine force_of ?_
                      | refine new_of ?_
                      | refine take_of ?_
                      | refine app_of ?_) ?_
                refine Then.nm ?_
                refine WP.ret ?_
                rcases hL with ⟨rfl, rfl⟩ | ⟨b, els, g, fz, rfl, hg, htk, hb, hle⟩
                · exact ⟨_, .inr (.inr (.inl rfl)), Ends.mk rfl (by with_unfolding_all rfl) ⟨_, (by with_unfolding_all rfl)⟩⟩
                · rcases names with _ | ⟨y, ys⟩
                  · exact ⟨_, .inr (.inr (.inr ⟨[], hn, hx16, rfl⟩)), Ends.mk (vs := [.ref b 1 0 0 none, .int .i64 0]) rfl (by with_unfolding_all rfl) ⟨_, resolve_tup2 (k := 29) (resolve_ref_0 (k := 28)) rfl⟩⟩
                  · exact ⟨_, .inr (.inr (.inr ⟨y :: ys, hn, hx16, rfl⟩)), Ends.mk (vs := [.ref b 1 0 (y :: ys).length none, .int .i64 0]) rfl (by with_unfolding_all rfl) ⟨_, resolve_tup2 (k := 29) (resolve_ref (k := 28) _ (by simp) hg htk (by simpa using hle) (by intro r hr v hv; simp only [List.map_cons, List.mem_cons, List.mem_map] at hr; rcases hr with rfl | ⟨z, _, rfl⟩ <;> (simp at hv; subst hv; rfl))) rfl⟩⟩
            · exact (show Pinv l.length .nil [] heap0 1 1 from ⟨by omega, by omega, by omega, by simp, by simp, .inl ⟨rfl, rfl⟩⟩)
            · repeat (first | exact Sub.nil _ | refine Sub.cons (by with_unfolding_all rfl) ?_)
            · rfl
      · exact Nat.zero_le _
      · repeat (first | exact Sub.nil _ | refine Sub.cons (by with_unfolding_all rfl) ?_)
      · rfl
end Go.Den
