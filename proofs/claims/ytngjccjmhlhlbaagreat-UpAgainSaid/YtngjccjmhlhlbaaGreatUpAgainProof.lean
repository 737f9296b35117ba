/- veneerlaw18.UpAgain returns true for every whole number and every string; its arguments read as before. No condition. -/
import Derived.Test.YtngjccjmhlhlbaaGreatRows
import Derived.Test.YtngjccjmhlhlbaaGreatUAM1
import Derived.Test.YtngjccjmhlhlbaaGreatUAM2
import Derived.Test.YtngjccjmhlhlbaaGreatUAM3
import Derived.Test.YtngjccjmhlhlbaaGreatUAM4
import Derived.Test.YtngjccjmhlhlbaaGreatPrs
import Derived.Test.YtngjccjmhlhlbaaGreatDenZo
import Derived.WalkKit
import Derived.ProofKit
import Derived.OpenShut
import Derived.ChangeMaps5
namespace Go.Proofs.YtngjccjmhlhlbaaGreat.upAgain
open Go.ChangeShapes Go.WideShapes Go.ChangeAt Go.RowKit Go.ChangeMaps
set_option linter.unusedVariables false

theorem envBase_okw {P : Program} {E : Go.Den.Env} [Go.Den.Val] (b : Go.Den.EnvBase P E) (o : Nat → Option (List Go.Den.AV → Option Go.Den.AV)) (w : Nat → Bool) (ho : ∀ g ψ, o g = some ψ → Go.Den.Fact P g ψ) : Go.Den.EnvOk P { E with orc := o, own := w } where
  types := b.types
  fields := b.fields
  fns := b.fns
  code := by
    intro g fn c hint h1 h2 h3
    have h1 : E.G g = some fn := h1
    have h3 : E.hint g = some hint := h3
    have hb := b.code g fn h1
    unfold Go.Den.fnB at hb
    simp only [h3, h2] at hb
    refine ⟨fun id ops => ∀ hl, hint.dr id = some hl → Go.Den.DrawOk E ops hl, fun rec id ops hC hD => ?_, Go.Den.codeOk_of hb⟩
    exact Go.Den.drawS (E := { E with orc := o, own := w }) b.types b.fields hC b.mixed fun hl hh => Go.Den.DrawOk.env (E := E) (E' := { E with orc := o, own := w }) rfl (hD hl hh)
  ins := b.ins
  orc := ho
theorem e1_ok [Go.Den.Val] : Go.Den.EnvOk Tryz.prog Go.Den.E1 := envBase_okw Go.Den.base (fun _ => none) (fun _ => true) (fun g ψ h => by cases h)

open Go.Den in
def ofBytes (l : List Nat) : ByteArray := ⟨(l.map fun n => UInt8.ofNat n).toArray⟩
open Go.Den in
theorem bytes_ofBytes {l : List Nat} (h : ∀ b ∈ l, b < 256) : bytesOfStr (ofBytes l) = l := by
  unfold bytesOfStr ofBytes
  simp only [List.map_map]
  conv => rhs; rw [← List.map_id l]
  refine List.map_congr_left fun b hb => ?_
  have := h b hb
  simp [UInt8.toNat_ofNat']
  omega
open Go.Den in
theorem size_bytes (s : ByteArray) : (bytesOfStr s).length = s.size := by simp [bytesOfStr]
open Go.Den in
@[reducible] def V2 (a : ByteArray) (x y : List Nat) : Val := mkVal (fun _ => 0) (fun j => if j = 0 then a else if j = 1 then ofBytes x else ofBytes y)
open Go.Den in
theorem leName [Val] {j : Nat} {x : List Nat} {lo hi : Option (List Nat)} (ht : Val.τ j = ofBytes x) (hx : 1 ≤ x.length ∧ x.length ≤ 24 ∧ ∀ b ∈ x, b < 256) (h1 : ∀ l, lo = some l → bytesLess l x = true) (h2 : ∀ h, hi = some h → bytesLess x h = true) :
    Le (.str x) (.sym (.str [] j lo hi 1 24)) := by
  have e : bytesOfStr (Val.τ j) = x := by rw [ht]; exact bytes_ofBytes hx.2.2
  have es : (Val.τ j).size = x.length := by rw [← size_bytes, e]
  have := Le.sym_str (j := j) (lo := lo) (hi := hi) (a := 1) (b := 24) (by rw [e]; exact h1) (by rw [e]; exact h2) (by omega) (by omega)
  rwa [e] at this
open Go.Den in
theorem tri (x y : List Nat) : x = y ∨ bytesLess x y = true ∨ bytesLess y x = true := by
  letI := mkVal (fun _ => 0) (fun _ => ⟨#[]⟩)
  cases hq : bytesLess x y with
  | true => exact .inr (.inl rfl)
  | false => rcases bytesLess_total _ _ hq with h | h
             · exact .inl h
             · exact .inr (.inr h)
theorem class5 (x : List Nat) : x = [46, 119, 104, 46, 46, 119, 104, 46, 120, 105, 110, 111] ∨ x = [46, 119, 104, 46, 120, 105, 110, 111] ∨ x = [100] ∨ x = [102] ∨ x = [115] ∨ (Go.Den.bytesLess x [46, 119, 104, 46, 46, 119, 104, 46, 120, 105, 110, 111] = true) ∨ (Go.Den.bytesLess [46, 119, 104, 46, 46, 119, 104, 46, 120, 105, 110, 111] x = true ∧ Go.Den.bytesLess x [46, 119, 104, 46, 120, 105, 110, 111] = true) ∨ (Go.Den.bytesLess [46, 119, 104, 46, 120, 105, 110, 111] x = true ∧ Go.Den.bytesLess x [100] = true) ∨ (Go.Den.bytesLess [100] x = true ∧ Go.Den.bytesLess x [102] = true) ∨ (Go.Den.bytesLess [102] x = true ∧ Go.Den.bytesLess x [115] = true) ∨ (Go.Den.bytesLess [115] x = true) := by
  rcases tri x [46, 119, 104, 46, 46, 119, 104, 46, 120, 105, 110, 111] with h0 | h0 | h0
  · exact .inl (h0)
  · exact .inr (.inr (.inr (.inr (.inr (.inl (h0))))))
  · skip
    rcases tri x [46, 119, 104, 46, 120, 105, 110, 111] with h1 | h1 | h1
    · exact .inr (.inl (h1))
    · exact .inr (.inr (.inr (.inr (.inr (.inr (.inl (⟨h0, h1⟩)))))))
    · skip
      rcases tri x [100] with h2 | h2 | h2
      · exact .inr (.inr (.inl (h2)))
      · exact .inr (.inr (.inr (.inr (.inr (.inr (.inr (.inl (⟨h1, h2⟩))))))))
      · skip
        rcases tri x [102] with h3 | h3 | h3
        · exact .inr (.inr (.inr (.inl (h3))))
        · exact .inr (.inr (.inr (.inr (.inr (.inr (.inr (.inr (.inl (⟨h2, h3⟩)))))))))
        · skip
          rcases tri x [115] with h4 | h4 | h4
          · exact .inr (.inr (.inr (.inr (.inl (h4)))))
          · exact .inr (.inr (.inr (.inr (.inr (.inr (.inr (.inr (.inr (.inl (⟨h3, h4⟩))))))))))
          · skip
            exact .inr (.inr (.inr (.inr (.inr (.inr (.inr (.inr (.inr (.inr ((h4)))))))))))
theorem class2 (x : List Nat) : x = [103] ∨ x = [120] ∨ (Go.Den.bytesLess x [103] = true) ∨ (Go.Den.bytesLess [103] x = true ∧ Go.Den.bytesLess x [120] = true) ∨ (Go.Den.bytesLess [120] x = true) := by
  rcases tri x [103] with h0 | h0 | h0
  · exact .inl (h0)
  · exact .inr (.inr (.inl (h0)))
  · skip
    rcases tri x [120] with h1 | h1 | h1
    · exact .inr (.inl (h1))
    · exact .inr (.inr (.inr (.inl (⟨h0, h1⟩))))
    · skip
      exact .inr (.inr (.inr (.inr ((h1)))))

open Go.Den in
theorem at1 (a1 : ByteArray) (names : List (List Nat)) (hn : names.length ≤ 16) (hx : ∀ x ∈ names, 1 ≤ x.length ∧ x.length ≤ 24 ∧ ∀ b ∈ x, b < 256)
    (hp : ∀ (V : Val) (T : AV), V.τ 0 = a1 → @Le V (.tup [.sl true 1 (names.map fun x => [AV.str x]), .int .i64 0]) T → @Parsed V T) : ∃ V : Val, V.τ 0 = a1 ∧ @Gives V Tryz.prog 5 [.int .i64 1, path 0 60] (.bool true) := by
  rcases names with _ | ⟨x, rest⟩
  · letI := V2 a1 [] []
    exact ⟨V2 a1 [] [], rfl, chk0_gives k1_e (hp _ _ rfl (Le.refl _))⟩
  · have hxx := hx x (List.mem_cons_self ..)
    have hr : rest.length < 16 := by simp at hn; omega
    rcases class5 x with k | k | k | k | k | k | k | k | k | k | k
    · subst k
      rcases rest with _ | ⟨y, rest⟩
      · letI := V2 a1 [] []
        exact ⟨V2 a1 [] [], rfl, chk0_gives k1_0 (hp _ _ rfl (Le.tup2 (Le.cls (Le.refl _)) (Le.refl _)))⟩
      · letI := V2 a1 [] []
        exact ⟨V2 a1 [] [], rfl, chk_gives (allN_true cp1_0 rest.length (by simp at hr; omega)) (hp _ _ rfl (Le.tup2 (Le.cls (Le.refl _)) (Le.refl _)))⟩
    · subst k
      letI := V2 a1 [] []
      exact ⟨V2 a1 [] [], rfl, chk_gives (allN_true cp1_1 rest.length hr) (hp _ _ rfl (Le.tup2 (Le.cls (Le.refl _)) (Le.refl _)))⟩
    · subst k
      rcases rest with _ | ⟨y, rest⟩
      · letI := V2 a1 [] []
        exact ⟨V2 a1 [] [], rfl, chk0_gives k1_2 (hp _ _ rfl (Le.tup2 (Le.cls (Le.refl _)) (Le.refl _)))⟩
      · have hyy := hx y (by simp)
        have hr : rest.length < 15 := by simp at hr; omega
        rcases class2 y with k | k | k | k | k
        · subst k
          rcases rest with _ | ⟨z, rest⟩
          · letI := V2 a1 [] []
            exact ⟨V2 a1 [] [], rfl, chk0_gives k1_d0 (hp _ _ rfl (Le.tup2 (Le.cls2 (Le.refl _) (Le.refl _)) (Le.refl _)))⟩
          · letI := V2 a1 [] []
            exact ⟨V2 a1 [] [], rfl, chk_gives (allN_true cq1_0 rest.length (by simp at hr; omega)) (hp _ _ rfl (Le.tup2 (Le.cls2 (Le.refl _) (Le.refl _)) (Le.refl _)))⟩
        · subst k
          rcases rest with _ | ⟨z, rest⟩
          · letI := V2 a1 [] []
            exact ⟨V2 a1 [] [], rfl, chk0_gives k1_d1 (hp _ _ rfl (Le.tup2 (Le.cls2 (Le.refl _) (Le.refl _)) (Le.refl _)))⟩
          · letI := V2 a1 [] []
            exact ⟨V2 a1 [] [], rfl, chk_gives (allN_true cq1_1 rest.length (by simp at hr; omega)) (hp _ _ rfl (Le.tup2 (Le.cls2 (Le.refl _) (Le.refl _)) (Le.refl _)))⟩
        · letI := V2 a1 [] y
          exact ⟨V2 a1 [] y, rfl, chk_gives (allN_true cv1_0 rest.length hr) (hp _ _ rfl (Le.tup2 (Le.cls2 (Le.refl _) (leName (j := 2) rfl hyy (fun l q => by cases q) (fun l q => by cases q; exact k))) (Le.refl _)))⟩
        · letI := V2 a1 [] y
          exact ⟨V2 a1 [] y, rfl, chk_gives (allN_true cv1_1 rest.length hr) (hp _ _ rfl (Le.tup2 (Le.cls2 (Le.refl _) (leName (j := 2) rfl hyy (fun l q => by cases q; exact k.1) (fun l q => by cases q; exact k.2))) (Le.refl _)))⟩
        · letI := V2 a1 [] y
          exact ⟨V2 a1 [] y, rfl, chk_gives (allN_true cv1_2 rest.length hr) (hp _ _ rfl (Le.tup2 (Le.cls2 (Le.refl _) (leName (j := 2) rfl hyy (fun l q => by cases q; exact k) (fun l q => by cases q))) (Le.refl _)))⟩
    · subst k
      rcases rest with _ | ⟨y, rest⟩
      · letI := V2 a1 [] []
        exact ⟨V2 a1 [] [], rfl, chk0_gives k1_3 (hp _ _ rfl (Le.tup2 (Le.cls (Le.refl _)) (Le.refl _)))⟩
      · letI := V2 a1 [] []
        exact ⟨V2 a1 [] [], rfl, chk_gives (allN_true cp1_3 rest.length (by simp at hr; omega)) (hp _ _ rfl (Le.tup2 (Le.cls (Le.refl _)) (Le.refl _)))⟩
    · subst k
      rcases rest with _ | ⟨y, rest⟩
      · letI := V2 a1 [] []
        exact ⟨V2 a1 [] [], rfl, chk0_gives k1_4 (hp _ _ rfl (Le.tup2 (Le.cls (Le.refl _)) (Le.refl _)))⟩
      · letI := V2 a1 [] []
        exact ⟨V2 a1 [] [], rfl, chk_gives (allN_true cp1_4 rest.length (by simp at hr; omega)) (hp _ _ rfl (Le.tup2 (Le.cls (Le.refl _)) (Le.refl _)))⟩
    · letI := V2 a1 x []
      exact ⟨V2 a1 x [], rfl, chk_gives (allN_true cu1_0 rest.length hr) (hp _ _ rfl (Le.tup2 (Le.cls (leName (j := 1) rfl hxx (fun l q => by cases q) (fun l q => by cases q; exact k))) (Le.refl _)))⟩
    · letI := V2 a1 x []
      exact ⟨V2 a1 x [], rfl, chk_gives (allN_true cu1_1 rest.length hr) (hp _ _ rfl (Le.tup2 (Le.cls (leName (j := 1) rfl hxx (fun l q => by cases q; exact k.1) (fun l q => by cases q; exact k.2))) (Le.refl _)))⟩
    · letI := V2 a1 x []
      exact ⟨V2 a1 x [], rfl, chk_gives (allN_true cu1_2 rest.length hr) (hp _ _ rfl (Le.tup2 (Le.cls (leName (j := 1) rfl hxx (fun l q => by cases q; exact k.1) (fun l q => by cases q; exact k.2))) (Le.refl _)))⟩
    · letI := V2 a1 x []
      exact ⟨V2 a1 x [], rfl, chk_gives (allN_true cu1_3 rest.length hr) (hp _ _ rfl (Le.tup2 (Le.cls (leName (j := 1) rfl hxx (fun l q => by cases q; exact k.1) (fun l q => by cases q; exact k.2))) (Le.refl _)))⟩
    · letI := V2 a1 x []
      exact ⟨V2 a1 x [], rfl, chk_gives (allN_true cu1_4 rest.length hr) (hp _ _ rfl (Le.tup2 (Le.cls (leName (j := 1) rfl hxx (fun l q => by cases q; exact k.1) (fun l q => by cases q; exact k.2))) (Le.refl _)))⟩
    · letI := V2 a1 x []
      exact ⟨V2 a1 x [], rfl, chk_gives (allN_true cu1_5 rest.length hr) (hp _ _ rfl (Le.tup2 (Le.cls (leName (j := 1) rfl hxx (fun l q => by cases q; exact k) (fun l q => by cases q))) (Le.refl _)))⟩

open Go.Den in
theorem at2 (a1 : ByteArray) (names : List (List Nat)) (hn : names.length ≤ 16) (hx : ∀ x ∈ names, 1 ≤ x.length ∧ x.length ≤ 24 ∧ ∀ b ∈ x, b < 256)
    (hp : ∀ (V : Val) (T : AV), V.τ 0 = a1 → @Le V (.tup [.sl true 1 (names.map fun x => [AV.str x]), .int .i64 0]) T → @Parsed V T) : ∃ V : Val, V.τ 0 = a1 ∧ @Gives V Tryz.prog 5 [.int .i64 2, path 0 60] (.bool true) := by
  rcases names with _ | ⟨x, rest⟩
  · letI := V2 a1 [] []
    exact ⟨V2 a1 [] [], rfl, chk0_gives k2_e (hp _ _ rfl (Le.refl _))⟩
  · have hxx := hx x (List.mem_cons_self ..)
    have hr : rest.length < 16 := by simp at hn; omega
    rcases class5 x with k | k | k | k | k | k | k | k | k | k | k
    · subst k
      rcases rest with _ | ⟨y, rest⟩
      · letI := V2 a1 [] []
        exact ⟨V2 a1 [] [], rfl, chk0_gives k2_0 (hp _ _ rfl (Le.tup2 (Le.cls (Le.refl _)) (Le.refl _)))⟩
      · letI := V2 a1 [] []
        exact ⟨V2 a1 [] [], rfl, chk_gives (allN_true cp2_0 rest.length (by simp at hr; omega)) (hp _ _ rfl (Le.tup2 (Le.cls (Le.refl _)) (Le.refl _)))⟩
    · subst k
      letI := V2 a1 [] []
      exact ⟨V2 a1 [] [], rfl, chk_gives (allN_true cp2_1 rest.length hr) (hp _ _ rfl (Le.tup2 (Le.cls (Le.refl _)) (Le.refl _)))⟩
    · subst k
      rcases rest with _ | ⟨y, rest⟩
      · letI := V2 a1 [] []
        exact ⟨V2 a1 [] [], rfl, chk0_gives k2_2 (hp _ _ rfl (Le.tup2 (Le.cls (Le.refl _)) (Le.refl _)))⟩
      · have hyy := hx y (by simp)
        have hr : rest.length < 15 := by simp at hr; omega
        rcases class2 y with k | k | k | k | k
        · subst k
          rcases rest with _ | ⟨z, rest⟩
          · letI := V2 a1 [] []
            exact ⟨V2 a1 [] [], rfl, chk0_gives k2_d0 (hp _ _ rfl (Le.tup2 (Le.cls2 (Le.refl _) (Le.refl _)) (Le.refl _)))⟩
          · letI := V2 a1 [] []
            exact ⟨V2 a1 [] [], rfl, chk_gives (allN_true cq2_0 rest.length (by simp at hr; omega)) (hp _ _ rfl (Le.tup2 (Le.cls2 (Le.refl _) (Le.refl _)) (Le.refl _)))⟩
        · subst k
          rcases rest with _ | ⟨z, rest⟩
          · letI := V2 a1 [] []
            exact ⟨V2 a1 [] [], rfl, chk0_gives k2_d1 (hp _ _ rfl (Le.tup2 (Le.cls2 (Le.refl _) (Le.refl _)) (Le.refl _)))⟩
          · letI := V2 a1 [] []
            exact ⟨V2 a1 [] [], rfl, chk_gives (allN_true cq2_1 rest.length (by simp at hr; omega)) (hp _ _ rfl (Le.tup2 (Le.cls2 (Le.refl _) (Le.refl _)) (Le.refl _)))⟩
        · letI := V2 a1 [] y
          exact ⟨V2 a1 [] y, rfl, chk_gives (allN_true cv2_0 rest.length hr) (hp _ _ rfl (Le.tup2 (Le.cls2 (Le.refl _) (leName (j := 2) rfl hyy (fun l q => by cases q) (fun l q => by cases q; exact k))) (Le.refl _)))⟩
        · letI := V2 a1 [] y
          exact ⟨V2 a1 [] y, rfl, chk_gives (allN_true cv2_1 rest.length hr) (hp _ _ rfl (Le.tup2 (Le.cls2 (Le.refl _) (leName (j := 2) rfl hyy (fun l q => by cases q; exact k.1) (fun l q => by cases q; exact k.2))) (Le.refl _)))⟩
        · letI := V2 a1 [] y
          exact ⟨V2 a1 [] y, rfl, chk_gives (allN_true cv2_2 rest.length hr) (hp _ _ rfl (Le.tup2 (Le.cls2 (Le.refl _) (leName (j := 2) rfl hyy (fun l q => by cases q; exact k) (fun l q => by cases q))) (Le.refl _)))⟩
    · subst k
      rcases rest with _ | ⟨y, rest⟩
      · letI := V2 a1 [] []
        exact ⟨V2 a1 [] [], rfl, chk0_gives k2_3 (hp _ _ rfl (Le.tup2 (Le.cls (Le.refl _)) (Le.refl _)))⟩
      · letI := V2 a1 [] []
        exact ⟨V2 a1 [] [], rfl, chk_gives (allN_true cp2_3 rest.length (by simp at hr; omega)) (hp _ _ rfl (Le.tup2 (Le.cls (Le.refl _)) (Le.refl _)))⟩
    · subst k
      rcases rest with _ | ⟨y, rest⟩
      · letI := V2 a1 [] []
        exact ⟨V2 a1 [] [], rfl, chk0_gives k2_4 (hp _ _ rfl (Le.tup2 (Le.cls (Le.refl _)) (Le.refl _)))⟩
      · letI := V2 a1 [] []
        exact ⟨V2 a1 [] [], rfl, chk_gives (allN_true cp2_4 rest.length (by simp at hr; omega)) (hp _ _ rfl (Le.tup2 (Le.cls (Le.refl _)) (Le.refl _)))⟩
    · letI := V2 a1 x []
      exact ⟨V2 a1 x [], rfl, chk_gives (allN_true cu2_0 rest.length hr) (hp _ _ rfl (Le.tup2 (Le.cls (leName (j := 1) rfl hxx (fun l q => by cases q) (fun l q => by cases q; exact k))) (Le.refl _)))⟩
    · letI := V2 a1 x []
      exact ⟨V2 a1 x [], rfl, chk_gives (allN_true cu2_1 rest.length hr) (hp _ _ rfl (Le.tup2 (Le.cls (leName (j := 1) rfl hxx (fun l q => by cases q; exact k.1) (fun l q => by cases q; exact k.2))) (Le.refl _)))⟩
    · letI := V2 a1 x []
      exact ⟨V2 a1 x [], rfl, chk_gives (allN_true cu2_2 rest.length hr) (hp _ _ rfl (Le.tup2 (Le.cls (leName (j := 1) rfl hxx (fun l q => by cases q; exact k.1) (fun l q => by cases q; exact k.2))) (Le.refl _)))⟩
    · letI := V2 a1 x []
      exact ⟨V2 a1 x [], rfl, chk_gives (allN_true cu2_3 rest.length hr) (hp _ _ rfl (Le.tup2 (Le.cls (leName (j := 1) rfl hxx (fun l q => by cases q; exact k.1) (fun l q => by cases q; exact k.2))) (Le.refl _)))⟩
    · letI := V2 a1 x []
      exact ⟨V2 a1 x [], rfl, chk_gives (allN_true cu2_4 rest.length hr) (hp _ _ rfl (Le.tup2 (Le.cls (leName (j := 1) rfl hxx (fun l q => by cases q; exact k.1) (fun l q => by cases q; exact k.2))) (Le.refl _)))⟩
    · letI := V2 a1 x []
      exact ⟨V2 a1 x [], rfl, chk_gives (allN_true cu2_5 rest.length hr) (hp _ _ rfl (Le.tup2 (Le.cls (leName (j := 1) rfl hxx (fun l q => by cases q; exact k) (fun l q => by cases q))) (Le.refl _)))⟩

open Go.Den in
theorem at3 (a1 : ByteArray) (names : List (List Nat)) (hn : names.length ≤ 16) (hx : ∀ x ∈ names, 1 ≤ x.length ∧ x.length ≤ 24 ∧ ∀ b ∈ x, b < 256)
    (hp : ∀ (V : Val) (T : AV), V.τ 0 = a1 → @Le V (.tup [.sl true 1 (names.map fun x => [AV.str x]), .int .i64 0]) T → @Parsed V T) : ∃ V : Val, V.τ 0 = a1 ∧ @Gives V Tryz.prog 5 [.int .i64 3, path 0 60] (.bool true) := by
  rcases names with _ | ⟨x, rest⟩
  · letI := V2 a1 [] []
    exact ⟨V2 a1 [] [], rfl, chk0_gives k3_e (hp _ _ rfl (Le.refl _))⟩
  · have hxx := hx x (List.mem_cons_self ..)
    have hr : rest.length < 16 := by simp at hn; omega
    rcases class5 x with k | k | k | k | k | k | k | k | k | k | k
    · subst k
      rcases rest with _ | ⟨y, rest⟩
      · letI := V2 a1 [] []
        exact ⟨V2 a1 [] [], rfl, chk0_gives k3_0 (hp _ _ rfl (Le.tup2 (Le.cls (Le.refl _)) (Le.refl _)))⟩
      · letI := V2 a1 [] []
        exact ⟨V2 a1 [] [], rfl, chk_gives (allN_true cp3_0 rest.length (by simp at hr; omega)) (hp _ _ rfl (Le.tup2 (Le.cls (Le.refl _)) (Le.refl _)))⟩
    · subst k
      letI := V2 a1 [] []
      exact ⟨V2 a1 [] [], rfl, chk_gives (allN_true cp3_1 rest.length hr) (hp _ _ rfl (Le.tup2 (Le.cls (Le.refl _)) (Le.refl _)))⟩
    · subst k
      rcases rest with _ | ⟨y, rest⟩
      · letI := V2 a1 [] []
        exact ⟨V2 a1 [] [], rfl, chk0_gives k3_2 (hp _ _ rfl (Le.tup2 (Le.cls (Le.refl _)) (Le.refl _)))⟩
      · have hyy := hx y (by simp)
        have hr : rest.length < 15 := by simp at hr; omega
        rcases class2 y with k | k | k | k | k
        · subst k
          rcases rest with _ | ⟨z, rest⟩
          · letI := V2 a1 [] []
            exact ⟨V2 a1 [] [], rfl, chk0_gives k3_d0 (hp _ _ rfl (Le.tup2 (Le.cls2 (Le.refl _) (Le.refl _)) (Le.refl _)))⟩
          · letI := V2 a1 [] []
            exact ⟨V2 a1 [] [], rfl, chk_gives (allN_true cq3_0 rest.length (by simp at hr; omega)) (hp _ _ rfl (Le.tup2 (Le.cls2 (Le.refl _) (Le.refl _)) (Le.refl _)))⟩
        · subst k
          rcases rest with _ | ⟨z, rest⟩
          · letI := V2 a1 [] []
            exact ⟨V2 a1 [] [], rfl, chk0_gives k3_d1 (hp _ _ rfl (Le.tup2 (Le.cls2 (Le.refl _) (Le.refl _)) (Le.refl _)))⟩
          · letI := V2 a1 [] []
            exact ⟨V2 a1 [] [], rfl, chk_gives (allN_true cq3_1 rest.length (by simp at hr; omega)) (hp _ _ rfl (Le.tup2 (Le.cls2 (Le.refl _) (Le.refl _)) (Le.refl _)))⟩
        · letI := V2 a1 [] y
          exact ⟨V2 a1 [] y, rfl, chk_gives (allN_true cv3_0 rest.length hr) (hp _ _ rfl (Le.tup2 (Le.cls2 (Le.refl _) (leName (j := 2) rfl hyy (fun l q => by cases q) (fun l q => by cases q; exact k))) (Le.refl _)))⟩
        · letI := V2 a1 [] y
          exact ⟨V2 a1 [] y, rfl, chk_gives (allN_true cv3_1 rest.length hr) (hp _ _ rfl (Le.tup2 (Le.cls2 (Le.refl _) (leName (j := 2) rfl hyy (fun l q => by cases q; exact k.1) (fun l q => by cases q; exact k.2))) (Le.refl _)))⟩
        · letI := V2 a1 [] y
          exact ⟨V2 a1 [] y, rfl, chk_gives (allN_true cv3_2 rest.length hr) (hp _ _ rfl (Le.tup2 (Le.cls2 (Le.refl _) (leName (j := 2) rfl hyy (fun l q => by cases q; exact k) (fun l q => by cases q))) (Le.refl _)))⟩
    · subst k
      rcases rest with _ | ⟨y, rest⟩
      · letI := V2 a1 [] []
        exact ⟨V2 a1 [] [], rfl, chk0_gives k3_3 (hp _ _ rfl (Le.tup2 (Le.cls (Le.refl _)) (Le.refl _)))⟩
      · letI := V2 a1 [] []
        exact ⟨V2 a1 [] [], rfl, chk_gives (allN_true cp3_3 rest.length (by simp at hr; omega)) (hp _ _ rfl (Le.tup2 (Le.cls (Le.refl _)) (Le.refl _)))⟩
    · subst k
      rcases rest with _ | ⟨y, rest⟩
      · letI := V2 a1 [] []
        exact ⟨V2 a1 [] [], rfl, chk0_gives k3_4 (hp _ _ rfl (Le.tup2 (Le.cls (Le.refl _)) (Le.refl _)))⟩
      · letI := V2 a1 [] []
        exact ⟨V2 a1 [] [], rfl, chk_gives (allN_true cp3_4 rest.length (by simp at hr; omega)) (hp _ _ rfl (Le.tup2 (Le.cls (Le.refl _)) (Le.refl _)))⟩
    · letI := V2 a1 x []
      exact ⟨V2 a1 x [], rfl, chk_gives (allN_true cu3_0 rest.length hr) (hp _ _ rfl (Le.tup2 (Le.cls (leName (j := 1) rfl hxx (fun l q => by cases q) (fun l q => by cases q; exact k))) (Le.refl _)))⟩
    · letI := V2 a1 x []
      exact ⟨V2 a1 x [], rfl, chk_gives (allN_true cu3_1 rest.length hr) (hp _ _ rfl (Le.tup2 (Le.cls (leName (j := 1) rfl hxx (fun l q => by cases q; exact k.1) (fun l q => by cases q; exact k.2))) (Le.refl _)))⟩
    · letI := V2 a1 x []
      exact ⟨V2 a1 x [], rfl, chk_gives (allN_true cu3_2 rest.length hr) (hp _ _ rfl (Le.tup2 (Le.cls (leName (j := 1) rfl hxx (fun l q => by cases q; exact k.1) (fun l q => by cases q; exact k.2))) (Le.refl _)))⟩
    · letI := V2 a1 x []
      exact ⟨V2 a1 x [], rfl, chk_gives (allN_true cu3_3 rest.length hr) (hp _ _ rfl (Le.tup2 (Le.cls (leName (j := 1) rfl hxx (fun l q => by cases q; exact k.1) (fun l q => by cases q; exact k.2))) (Le.refl _)))⟩
    · letI := V2 a1 x []
      exact ⟨V2 a1 x [], rfl, chk_gives (allN_true cu3_4 rest.length hr) (hp _ _ rfl (Le.tup2 (Le.cls (leName (j := 1) rfl hxx (fun l q => by cases q; exact k.1) (fun l q => by cases q; exact k.2))) (Le.refl _)))⟩
    · letI := V2 a1 x []
      exact ⟨V2 a1 x [], rfl, chk_gives (allN_true cu3_5 rest.length hr) (hp _ _ rfl (Le.tup2 (Le.cls (leName (j := 1) rfl hxx (fun l q => by cases q; exact k) (fun l q => by cases q))) (Le.refl _)))⟩

open Go.Den in
theorem chkG {V : Val} {T : AV} {xs : List AV} (h : isV (runI (E_T T []) 100000 5 xs) (.bool true) = true) (hp : @Parsed V T) : @Gives V Tryz.prog 5 xs (.bool true) := (@runI_gives V _ _ (@okT V _ _ hp (@up_nil V)) _ _ _ _ (isV_eq h)).1

open Go.Den in
theorem fin (V : Val) (a0 : Int) (a1 : ByteArray) (w : World) (x0 x1 : AV) (hg : @Gives V Tryz.prog 5 [x0, x1] (.bool true)) (h0 : ∀ I, @RelI V w I x0 (.int .i64 a0)) (h1 : ∀ I, @RelI V w I x1 (.string a1)) :
    Calls Tryz.prog 5 #[.int .i64 a0, .string a1] w fun e w' => e = .returned (.bool true) ∧ w.keptBut w' (fun _ => False) := by
  letI := V
  refine (hg.calls w [.int .i64 a0, .string a1] rfl fun j y c hy hc => ?_).mono fun e w' ⟨⟨c, I', he, hv⟩, hk⟩ => ⟨by rw [he]; cases hv; rfl, hk⟩
  match j with
  | 0 => cases hy; cases hc; exact h0 _
  | 1 => cases hy; cases hc; exact h1 _
  | j + 2 => simp at hy

open Go.Den in
theorem relPath (V : Val) (a1 : ByteArray) (ht : V.τ 0 = a1) (a b : Nat) (h1 : a ≤ a1.size) (h2 : a1.size ≤ b) (w : World) (I : Imm) : @RelI V w I (path a b) (.string a1) := by
  subst ht
  exact .sym _ _ ⟨V.τ 0, rfl, rfl, (fun _ q => by cases q), (fun _ q => by cases q), h1, h2⟩

open Go.Den in
theorem walk (a0 : Int) (a1 : ByteArray) (w : World) (hb : -9223372036854775808 ≤ a0 ∧ a0 ≤ 9223372036854775807) (hs : a1.size ≤ maxLen) :
    Calls Tryz.prog 5 #[.int .i64 a0, .string a1] w fun e w' => e = .returned (.bool true) ∧ w.keptBut w' (fun _ => False) := by
  unfold maxLen at hs
  obtain ⟨v, fuel, hv, hrun⟩ := @parse_gives (mkVal (fun _ => 0) (fun _ => a1)) (bytesOfStr a1) (by rw [size_bytes]; omega) (by
    intro b hb
    unfold bytesOfStr at hb
    simp only [List.mem_map] at hb
    obtain ⟨u, _, rfl⟩ := hb
    exact u.toNat_lt)
  have hp : ∀ (V : Val) (T : AV), V.τ 0 = a1 → @Le V v T → @Parsed V T := fun V T ht hle => by
    letI := V
    exact ⟨v, by rw [ht]; exact (runI_gives e1_ok hrun).1, hle⟩
  rcases hv with rfl | rfl | hv
  · letI := mkVal (fun _ => a0) (fun _ => a1)
    exact fin (mkVal (fun _ => a0) (fun _ => a1)) a0 a1 w .bad (path 0 9223372036854775807) (chkG ev1 (hp _ _ rfl (Le.refl _))) (fun I => .bad _ rfl) (relPath _ a1 rfl _ _ (by omega) (by omega) w)
  · letI := mkVal (fun _ => a0) (fun _ => a1)
    exact fin (mkVal (fun _ => a0) (fun _ => a1)) a0 a1 w .bad (path 0 9223372036854775807) (chkG ev9 (hp _ _ rfl (Le.refl _))) (fun I => .bad _ rfl) (relPath _ a1 rfl _ _ (by omega) (by omega) w)
  · have hbad : ∀ V : Val, @Le V v (okl .bad) := fun V => by
      letI := V
      rcases hv with rfl | ⟨names, _, _, rfl⟩
      · exact Le.tup2 Le.bad_nil (Le.refl _)
      · exact Le.tup2 (Le.bad_sl _ _ _) (Le.refl _)
    by_cases h1 : a0 < 1
    · letI := mkVal (fun _ => a0) (fun _ => a1)
      exact fin (mkVal (fun _ => a0) (fun _ => a1)) a0 a1 w (.sym (.int 2 0 (-9223372036854775808) 0)) (path 0 9223372036854775807) (chkG eva (hp _ _ rfl (hbad _))) (fun I => sym_int (fun _ => a0) (fun _ => a1) 1 (-9223372036854775808) 0 (by omega) (by omega) w I) (relPath _ a1 rfl _ _ (by omega) (by omega) w)
    by_cases h3 : 3 < a0
    · letI := mkVal (fun _ => a0) (fun _ => a1)
      exact fin (mkVal (fun _ => a0) (fun _ => a1)) a0 a1 w (.sym (.int 2 0 4 9223372036854775807)) (path 0 9223372036854775807) (chkG evb (hp _ _ rfl (hbad _))) (fun I => sym_int (fun _ => a0) (fun _ => a1) 1 4 9223372036854775807 (by omega) (by omega) w I) (relPath _ a1 rfl _ _ (by omega) (by omega) w)
    obtain h5 | h5 | h5 : a0 = 1 ∨ a0 = 2 ∨ a0 = 3 := by omega
    · subst h5
      by_cases h6 : 60 < a1.size
      · letI := mkVal (fun _ => 0) (fun _ => a1)
        exact fin (mkVal (fun _ => 0) (fun _ => a1)) 1 a1 w (.int .i64 1) (path 61 9223372036854775807) (chkG evc1 (hp _ _ rfl (hbad _))) (fun I => .int _ _) (relPath _ a1 rfl _ _ (by omega) (by omega) w)
      · rcases hv with rfl | ⟨names, k1, k2, rfl⟩
        · letI := V2 a1 [] []
          exact fin (V2 a1 [] []) 1 a1 w (.int .i64 1) (path 0 60) (chk0_gives k1_n (hp _ _ rfl (Le.refl _))) (fun I => .int _ _) (relPath _ a1 rfl _ _ (by omega) (by omega) w)
        · obtain ⟨V, h7, h8⟩ := at1 a1 names k1 k2 hp
          exact fin V 1 a1 w (.int .i64 1) (path 0 60) h8 (fun I => .int _ _) (relPath V a1 h7 _ _ (by omega) (by omega) w)
    · subst h5
      by_cases h6 : 60 < a1.size
      · letI := mkVal (fun _ => 0) (fun _ => a1)
        exact fin (mkVal (fun _ => 0) (fun _ => a1)) 2 a1 w (.int .i64 2) (path 61 9223372036854775807) (chkG evc2 (hp _ _ rfl (hbad _))) (fun I => .int _ _) (relPath _ a1 rfl _ _ (by omega) (by omega) w)
      · rcases hv with rfl | ⟨names, k1, k2, rfl⟩
        · letI := V2 a1 [] []
          exact fin (V2 a1 [] []) 2 a1 w (.int .i64 2) (path 0 60) (chk0_gives k2_n (hp _ _ rfl (Le.refl _))) (fun I => .int _ _) (relPath _ a1 rfl _ _ (by omega) (by omega) w)
        · obtain ⟨V, h7, h8⟩ := at2 a1 names k1 k2 hp
          exact fin V 2 a1 w (.int .i64 2) (path 0 60) h8 (fun I => .int _ _) (relPath V a1 h7 _ _ (by omega) (by omega) w)
    · subst h5
      by_cases h6 : 60 < a1.size
      · letI := mkVal (fun _ => 0) (fun _ => a1)
        exact fin (mkVal (fun _ => 0) (fun _ => a1)) 3 a1 w (.int .i64 3) (path 61 9223372036854775807) (chkG evc3 (hp _ _ rfl (hbad _))) (fun I => .int _ _) (relPath _ a1 rfl _ _ (by omega) (by omega) w)
      · rcases hv with rfl | ⟨names, k1, k2, rfl⟩
        · letI := V2 a1 [] []
          exact fin (V2 a1 [] []) 3 a1 w (.int .i64 3) (path 0 60) (chk0_gives k3_n (hp _ _ rfl (Le.refl _))) (fun I => .int _ _) (relPath _ a1 rfl _ _ (by omega) (by omega) w)
        · obtain ⟨V, h7, h8⟩ := at3 a1 names k1 k2 hp
          exact fin V 3 a1 w (.int .i64 3) (path 0 60) h8 (fun I => .int _ _) (relPath V a1 h7 _ _ (by omega) (by omega) w)

theorem own : ownKnob Tryz.prog.godebug = none := by kernel_rfl

set_option maxRecDepth 100000 in
theorem lifted (os : Os) (started : os.Started) (H : Type) (enc : TypeId × Value → H) :
    ReturnsInHanded {} Tryz.checked os 5 .any (Rows.upAgainSpec.pre6 enc Tryz.prog Tryz.f5 Rows.upAgainRow.domain false) (Rows.upAgainSpec.post enc Tryz.prog Tryz.f5 false true false false) := by
  refine returnsInHanded_of_change (C := Tryz.checked) own started (by kernel_rfl) Tryz.func5
    (ChangeSpec.witness6 (enc := enc) (C := Tryz.checked) false ⟨#[], #[.int .i64 0, .string ⟨#[]⟩], []⟩ 8 (by kernel_rfl) (by kernel_rfl) (by kernel_rfl) (by kernel_rfl)) ?_
  intro W base args ds gs before hval0 hW hcnd _
  have hval : ∀ (j : Nat) t v, Tryz.f5.params[j]? = some t → args[j]? = some v → Value.okWide Tryz.prog W .any base t v := hval0
  have hW' := hW
  obtain ⟨p, q, hA0, hV, rfl, hfz, hnd⟩ := hW
  have hA : DataW.TrodAll enc Tryz.prog W 0 (fun _ => true) true Tryz.f5.params.toList args.toList ds p := hA0
  rw [Tryz.params5] at hA hval
  obtain ⟨v0, vs0, d0, ds0, p0, q0, hargs, rfl, rfl, h0, r0⟩ := trodAll_cons hA
  obtain ⟨v1, vs1, d1, ds1, p1, q1, rfl, rfl, rfl, h1, r1⟩ := trodAll_cons r0
  obtain ⟨rfl, rfl, rfl⟩ := trodAll_nil r1
  obtain rfl : args = #[v0, v1] := by cases args; simp_all
  obtain ⟨rfl, rfl⟩ := trodVars_none hV
  obtain ⟨a0, rfl, rfl, rfl, w0⟩ := open_int Tryz.underlying3 (hval 0 3 v0 rfl rfl) h0
  obtain ⟨a1, rfl, rfl, rfl, w1⟩ := open_string Tryz.underlying9 (hval 1 9 v1 rfl rfl) h1
  clear hA0 hval0
  simp only [List.append_nil] at hW'
  refine (walk a0 a1 W (Go.bounds_i64 w0) w1).mono fun e W' ⟨he, hg⟩ => ?_
  subst he
  letI := Go.Den.mkVal (fun _ => 0) (fun _ => ⟨#[]⟩)
  exact ⟨_, rfl, Go.Den.post_of_kept (pa := []) (pv := []) hW' (fun _ _ _ => (trodAll_cons_mk (shut_bool Tryz.underlying4 _) trodAll_mk0)) (fun sp _ => (trodAll_cons_mk (shut_int Tryz.underlying3 w0) (trodAll_cons_mk (shut_string Tryz.underlying9 w1) trodAll_mk0))) (fun _ _ => rfl) rfl
    hg (ok_one (by kernel_rfl) rfl (okWide_bool_mk Tryz.underlying4 _))⟩

theorem over : Rows.upAgainRow.holds Tryz.pinned (OpenSpec.ofChange Rows.upAgainSpec) :=
  OpenClaim.holds_of_wide 5 Tryz.f5 rfl rfl rfl rfl rfl rfl rfl ⟨rfl, rfl, rfl, rfl, rfl⟩ rfl rfl rfl rfl rfl (by kernel_rfl) Tryz.func5 (by kernel_rfl)
    (of_decide_eq_true (by kernel_rfl)) (by unfold Func.isWrapper; first | (rw [if_pos (by decide +kernel)]; kernel_rfl) | (rw [if_neg (by decide +kernel)]; exact ⟨rfl, rfl⟩))
    (fun os started H enc _ => lifted os started H enc)

theorem proved : Rows.UpAgainSaid :=
  over
end Go.Proofs.YtngjccjmhlhlbaaGreat.upAgain
