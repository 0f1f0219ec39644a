/- A part of the proof. -/
import Derived.Test.YtanbffihggdcaaaGreatDoorSpec0
import Derived.Test.YtanbffihggdcaaaGreatDoorWalk3
set_option linter.unusedVariables false
set_option linter.unusedSimpArgs false
set_option maxRecDepth 20000
namespace Go.Wz
open Go.Proofs Go.Eng
abbrev Prt := Int × Int × Int × Int
def fits (p : Prt) : Bool := decide (1 ≤ p.2.1 ∧ p.2.1 ≤ 64 ∧ 1 ≤ p.2.2.1 ∧ p.2.2.1 ≤ 4611686018427387904 ∧ 0 ≤ p.2.2.2 ∧ p.2.2.2 ≤ 64 - p.2.1)
theorem Fits_run {N : Nat} {x : Prt} {Q : Bool → Hp → Prop} {σ : Hp} (h : ∀ σ', Hp.Le σ σ' → Q (fits x) σ') : (body_Part_Fits N x).run Q σ := by
  unfold body_Part_Fits
  simp +contextual only [new_run, bind_run, add_at, vl, ld_at (List.length_pos_iff.2 (List.cons_ne_nil _ _)), stM_at, cnd_run, pure_run, rdAt_set, wrAt_set, set_none, reduceCtorEq, rdAt_ob, wrAt_ob, rdL, wrL, writeAt, cso, Tp.ofs, Ce.of, List.length_cons, List.length_nil, Nat.reduceAdd, Nat.reduceLeDiff, Nat.ble, List.drop, List.take, if_true, if_false, Option.some.injEq, exists_eq_left', decide_eq_true_eq, and_imp, ne_eq, not_false_eq_true, reduceIte]
  intro b hb
  have hl : ∀ v τ, v = fits x → Hp.Le σ τ → Q v τ := fun v τ e hh => e ▸ h _ hh
  have hs := fun x => le_sets (x := x) (Hp.Le.refl σ) hb
  unfold fits at hl
  (repeat' split) <;> first
    | (refine hl _ _ ?_ (hs _); symm; rw [decide_eq_false_iff_not]; intro hh; omega)
    | (rw [wi_id (by omega) (by omega)]; refine hl _ _ ?_ (hs _); rw [decide_eq_decide]; constructor <;> intro hh <;> omega)
theorem end_run {N : Nat} {x : Prt} {Q : Int → Hp → Prop} {σ : Hp} (h : ∀ σ', Hp.Le σ σ' → Q (wi (x.1 + x.2.1)) σ') : (body_Part_end N x).run Q σ := by
  unfold body_Part_end
  simp +contextual only [new_run, bind_run, add_at, vl, ld_at (List.length_pos_iff.2 (List.cons_ne_nil _ _)), stM_at, cnd_run, pure_run, rdAt_set, wrAt_set, set_none, reduceCtorEq, rdAt_ob, wrAt_ob, rdL, wrL, writeAt, cso, Tp.ofs, Ce.of, List.length_cons, List.length_nil, Nat.reduceAdd, Nat.reduceLeDiff, Nat.ble, List.drop, List.take, if_true, if_false, Option.some.injEq, exists_eq_left', decide_eq_true_eq, and_imp, ne_eq, not_false_eq_true, reduceIte]
  exact fun b hb => h _ (le_sets (Hp.Le.refl _) hb)
end Go.Wz
