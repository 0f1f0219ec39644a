/- Structs compared cell by cell. -/
import Derived.Test.YtanbffihggdcaaaGreatDoorEng15
import Derived.ChangeKeysEq
import Derived.Laws.StructEq
set_option linter.unusedVariables false
set_option linter.unusedSimpArgs false
namespace Go.Eng
open Go.RowKit

def eqTy (P : Program) (c : Ce) (t : TypeId) : Bool := P.plainKey t && match c, P.underlying t with
  | .int _, some (.int _) => true
  | .bool, some .bool => true
  | .str, some .string => true
  | _, _ => false
def fieldsOk (P : Program) : List Field → Nat → List Ce → Bool
  | [], _, [] => true
  | f :: fs, o, c :: cs => (f.name != "_") && Nat.beq f.offset o && eqTy P c f.type && fieldsOk P fs (o + 1) cs
  | _, _, _ => false
theorem eqTy_run {P : Program} {c : Ce} {t : TypeId} (h : eqTy P c t = true) {x y : c.T} {r : Bool} (hr : ceEq c x y = some r) (d : Nat) (w : World) : (Op.equalIn (d + 1) t (c.val x) (c.val y)).run P w = .ok r w := by
  unfold eqTy at h
  simp only [Bool.and_eq_true] at h
  obtain ⟨_, h⟩ := h
  split at h
  · rename_i k k' hu
    simp only [ceEq, Option.some.injEq] at hr
    subst hr
    exact run_equalIn_int w d t _ _ _ _ hu
  · rename_i hu
    simp only [ceEq, Option.some.injEq] at hr
    subst hr
    exact run_equalIn_bool' w d t _ _ hu
  · rename_i hu
    simp only [ceEq, Option.some.injEq] at hr
    subst hr
    exact run_equalIn_string w d t _ _ hu
  · cases h
theorem fields_run {P : Program} {d : Nat} {xs ys : Array Value} : ∀ (l : List Ce) (fs : List Field) (o : Nat) (a b : Cs l) (r : Bool) (w : World), fieldsOk P fs o l = true →
    (∀ (j : Nat) v, (csv l a)[j]? = some v → xs[o + j]? = some v) → (∀ (j : Nat) v, (csv l b)[j]? = some v → ys[o + j]? = some v) → csEq l a b = some r → (Op.eqFields (d + 1) xs ys fs).run P w = .ok r w
  | [], [], o, a, b, r, w, _, _, _, hr => by
    simp only [csEq, Option.some.injEq] at hr
    subst hr
    simp [Op.eqFields]
  | [c], f :: fs, o, a, b, r, w, hf, hx, hy, hr => by
    simp only [fieldsOk, Bool.and_eq_true, bne_iff_ne] at hf
    obtain ⟨⟨⟨h1, h2⟩, h3⟩, h4⟩ := hf
    have h2 := Nat.eq_of_beq_eq_true h2
    have hp : P.plainKey f.type = true := by unfold eqTy at h3; simp only [Bool.and_eq_true] at h3; exact h3.1
    have p1 := run_part_plain (w := w) hp (hx 0 (c.val a) (by simp [csv, Tp.vals]))
    have p2 := run_part_plain (w := w) hp (hy 0 (c.val b) (by simp [csv, Tp.vals]))
    have p3 := eqTy_run h3 hr d w
    cases fs with
    | nil =>
      simp only [Nat.add_zero] at p1 p2
      simp only [Op.eqFields, h1, ne_eq, not_false_eq_true, if_true, Sem.run_bind, h2, p1, p2, p3, Result.andThen_ok]
      cases r <;> simp
    | cons g gs => simp [fieldsOk] at h4
  | c :: e :: l, f :: fs, o, a, b, r, w, hf, hx, hy, hr => by
    simp only [fieldsOk, Bool.and_eq_true, bne_iff_ne] at hf
    obtain ⟨⟨⟨h1, h2⟩, h3⟩, h4⟩ := hf
    have h2 := Nat.eq_of_beq_eq_true h2
    have hp : P.plainKey f.type = true := by unfold eqTy at h3; simp only [Bool.and_eq_true] at h3; exact h3.1
    have p1 := run_part_plain (w := w) hp (hx 0 (c.val a.1) (by simp [csv, Tp.vals]))
    have p2 := run_part_plain (w := w) hp (hy 0 (c.val b.1) (by simp [csv, Tp.vals]))
    simp only [csEq] at hr
    split at hr
    · rename_i u v hu hv
      simp only [Option.some.injEq] at hr
      subst hr
      have p3 := eqTy_run h3 hu d w
      have ih := fields_run (P := P) (d := d) (xs := xs) (ys := ys) (e :: l) fs (o + 1) a.2 b.2 v w h4 (fun j z hz => by have := hx (j + 1) z (by simpa [csv, Tp.vals] using hz); rwa [show o + 1 + j = o + (j + 1) by omega]) (fun j z hz => by have := hy (j + 1) z (by simpa [csv, Tp.vals] using hz); rwa [show o + 1 + j = o + (j + 1) by omega]) hv
      simp only [Nat.add_zero] at p1 p2
      simp only [Op.eqFields, h1, ne_eq, not_false_eq_true, if_true, Sem.run_bind, h2, p1, p2, p3, Result.andThen_ok]
      cases u
      · simp
      · simp only [Bool.not_true, Bool.false_eq_true, if_false, ih, Bool.true_and]
    · cases hr
  | [], f :: fs, o, _, _, _, _, hf, _, _, _ => by simp [fieldsOk] at hf
  | c :: cs, [], o, _, _, _, _, hf, _, _, _ => by simp [fieldsOk] at hf
theorem eq_mk {P : Program} {t : TypeId} {l : List Ce} (h1 : P.eqGuardType P.depth t = false) (h2 : P.underlying t = some (.struct (P.fieldsOf t))) (h3 : P.stoodInHeld t = false) (h4 : fieldsOk P (P.fieldsOf t).toList 0 l = true) : EqOk P t l := by
  refine ⟨h1, fun a b r w hr => ?_⟩
  show (Op.equalIn (9999 + 1) t _ _).run P w = _
  rw [run_equalIn_agg w 9999 t _ _ h2 h3]
  exact fields_run (d := 9998) l _ 0 a b r w h4 (fun j v h => by simpa using h) (fun j v h => by simpa using h) hr
end Go.Eng
