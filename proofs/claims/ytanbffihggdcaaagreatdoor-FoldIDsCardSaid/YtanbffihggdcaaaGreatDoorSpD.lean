/- A part of the proof. -/
import Derived.Test.YtanbffihggdcaaaGreatDoorSpec1
import Derived.Test.YtanbffihggdcaaaGreatDoorSpA
set_option linter.unusedSimpArgs false
namespace Go.Wz
open Go.Proofs Go.Eng
def encP (p : Prt) : List Value := [.int .i64 p.1, .int .i64 p.2.1, .int .i64 p.2.2.1, .int .i64 p.2.2.2]
abbrev PartsAt := RowAt 4 encP
def longs (s : Int) : List Prt → Int
  | [] => s
  | p :: ps => longs (wi (s + p.2.1)) ps
theorem long_run {N : Nat} {s : Sl} {ps : List Prt} {Q : Int → Hp → Prop} {σ : Hp} (hs : PartsAt σ s ps) (hN : ps.length < N) (hlen : ps.length < 4611686018427387904) (h : ∀ τ, Hp.Le σ τ → Q (longs 0 ps) τ) : (fold_long N s).run Q σ := by
  unfold fold_long
  simp only [bind_run, pure_run]
  refine M.loop_run (fun st τ => Hp.Le σ τ ∧ 0 ≤ st.2 ∧ st.2 ≤ (ps.length : Int) ∧ longs 0 ps = longs st.1 (ps.drop st.2.toNat)) (fun st _ => (ps.length - st.2.toNat)) _ _ ?_ N (0, 0) σ ⟨Hp.Le.refl _, by simp, by simp, by simp⟩ (by simpa using hN)
  rintro ⟨t, i⟩ τ ⟨hl, h0, h1, h2⟩
  simp only at h0 h1 h2
  unfold fold_long_L0
  simp only [vl, cnd_run, decide_eq_true_eq, pure_run]
  have hlen' := hs.len
  split
  · rename_i hlt
    have hlt' : i.toNat < ps.length := by omega
    have hd : ps.drop i.toNat = ps[i.toNat] :: ps.drop (i.toNat + 1) := List.drop_eq_getElem_cons hlt'
    refine (hs.le hl).get h0 (List.getElem?_eq_getElem hlt') rfl (by simp [encP, cso, Tp.ofs, Ce.of]; rfl) ?_
    simp +contextual only [new_run, bind_run, add_at, vl, ld_at (List.length_pos_iff.2 (List.cons_ne_nil _ _)), cnd_run, pure_run, set_none, and_imp, ne_eq, stM_at, wrAt_set, if_true, wrAt_ob, List.length_cons, List.length_nil, Nat.reduceAdd, Nat.reduceLeDiff, Option.some.injEq, exists_eq_left', rdAt_set, rdAt_ob]
    simp only [wrL, writeAt, List.setIfInBounds_toArray, List.set]
    simp only [rdL, cso, Tp.ofs, Ce.of, List.length_cons, List.length_nil, Nat.reduceAdd, Nat.reduceLeDiff, Nat.ble, List.drop, List.take, if_true, Option.some.injEq, exists_eq_left', decide_eq_true_eq, Option.map_some]
    intro b hb
    have hw : wi (i + 1) = i + 1 := wi_id (by omega) (by omega)
    rw [hw]
    refine ⟨⟨?_, by omega, by omega, ?_⟩, ?_⟩
    · exact hl.trans (le_sets (le_sets (Hp.Le.refl _) hb) hb)
    · rw [h2, hd]; simp [longs]; congr 2; omega
    · omega
  · rename_i hge
    have : ps.drop i.toNat = [] := List.drop_eq_nil_of_le (by omega)
    rw [this] at h2
    simp only [longs] at h2
    exact h2 ▸ h _ hl
end Go.Wz
