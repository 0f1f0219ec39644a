/- Paths one under another. -/
import Derived.Test.YtanbffihggdcaaaGreatDoorSpF
set_option linter.unusedVariables false
set_option linter.unusedSimpArgs false
namespace Go.Wz
open Go.Proofs Go.Eng
theorem scmp_neq (x y : ByteArray) : scmp .neq x y = !decide (x = y) := by
  rw [← scmp_eql]; rfl
theorem Equal_run {N : Nat} {s t : Sl} {xs ys : List ByteArray} {Q : Bool → Hp → Prop} {σ : Hp} (hs : StrsAt σ s xs) (ht : StrsAt σ t ys) (hN : xs.length < N) (hlen : xs.length < 4611686018427387904)
    (h : Q (decide (xs = ys)) σ) : (slices_Equal_string_string N (s, t)).run Q σ := by
  unfold slices_Equal_string_string
  have h1 := hs.len
  have h2 := ht.len
  simp only [bind_run, pure_run, vl, cnd_run]
  split
  · rename_i he
    have : xs ≠ ys := fun e => by subst e; simp at he; omega
    rw [decide_eq_false this] at h
    exact h
  · rename_i he
    have hl : xs.length = ys.length := by simp at he; omega
    refine M.loop_run (fun i τ => τ = σ ∧ 0 ≤ i ∧ i ≤ (xs.length : Int) ∧ (xs = ys ↔ xs.drop i.toNat = ys.drop i.toNat)) (fun i _ => xs.length - i.toNat) _ _ ?_ N 0 σ ⟨rfl, by simp, by simp, by simp⟩ (by simpa using hN)
    rintro i τ ⟨rfl, h0, h3, h4⟩
    unfold slices_Equal_string_string_L0
    simp only [vl, cnd_run, decide_eq_true_eq, pure_run]
    split
    · rename_i hlt
      have hx : i.toNat < xs.length := by omega
      have hy : i.toNat < ys.length := by omega
      refine hs.get h0 (List.getElem?_eq_getElem hx) rfl (by simp [encS, cso, Tp.ofs, Ce.of]; rfl) ?_
      refine ht.get h0 (List.getElem?_eq_getElem hy) rfl (by simp [encS, cso, Tp.ofs, Ce.of]; rfl) ?_
      simp only [cnd_run, pure_run, scmp_neq]
      have hw : wi (i + 1) = i + 1 := wi_id (by omega) (by omega)
      have dx : xs.drop i.toNat = xs[i.toNat] :: xs.drop (i.toNat + 1) := List.drop_eq_getElem_cons hx
      have dy : ys.drop i.toNat = ys[i.toNat] :: ys.drop (i.toNat + 1) := List.drop_eq_getElem_cons hy
      rw [dx, dy, List.cons.injEq] at h4
      by_cases e : xs[i.toNat] = ys[i.toNat]
      · simp only [e, decide_true, Bool.not_true, Bool.false_eq_true, if_false, true_and] at h4 ⊢
        rw [hw]
        have hi : (i + 1).toNat = i.toNat + 1 := by omega
        refine ⟨⟨by omega, by omega, ?_⟩, by omega⟩
        rw [hi]; exact h4
      · simp only [e, decide_false, Bool.not_false, if_true, false_and, iff_false] at h4 ⊢
        rw [decide_eq_false h4] at h
        exact h
    · rename_i hge
      have dx : xs.drop i.toNat = [] := List.drop_eq_nil_of_le (by omega)
      have dy : ys.drop i.toNat = [] := List.drop_eq_nil_of_le (by omega)
      rw [dx, dy] at h4
      have : xs = ys := h4.2 rfl
      rw [decide_eq_true this] at h
      exact h
def punder (a b : ByteArray) : Bool := decide ((psplit a).2 = 0 ∧ (psplit b).2 = 0 ∧ (psplit b).1.length < (psplit a).1.length ∧ (psplit a).1.take (psplit b).1.length = (psplit b).1)
theorem Under_run {N : Nat} {a b : ByteArray} {Q : Bool → Hp → Prop} {σ : Hp} (hN : 100 < N) (hg : Gl σ) (h : ∀ τ, Hp.Le σ τ → Q (punder a b) τ) : (path_Under N (a, b)).run Q σ := by
  unfold path_Under
  simp only [bind_run]
  refine Split_run hN hg fun s τ hl hs => ?_
  refine Split_run hN (hg.le hl) fun t ρ hl2 ht => ?_
  have h1 := hs.len
  have h2 := ht.len
  have hn := psplit_names a
  have hc := hs.cap
  simp only [vl, cnd_run, pure_run, beq_iff_eq, decide_eq_true_eq]
  have fin : ∀ v, v = punder a b → Q v ρ := fun v e => e ▸ h _ (hl.trans hl2)
  unfold punder at fin
  split
  · rename_i e1
    split
    · rename_i e2
      split
      · rename_i hlt
        have hsub : subSl s 0 (t.len : Int) (s.cap : Int) 1 = ⟨s.a, t.len, s.cap⟩ := by
          unfold subSl
          have : s.a.map (fun x => x.add 0) = s.a := by cases s.a <;> simp [Addr.add]
          simp [this]
        refine ⟨⟨by omega, by omega, by omega, by omega⟩, ?_⟩
        rw [hsub]
        have hr := (hs.take t.len (by omega)).le hl2
        simp only [bind_run]
        refine Equal_run hr ht (by simp; omega) (by simp; omega) ?_
        refine fin _ (decide_eq_decide.2 ?_)
        rw [h2]
        constructor
        · exact fun e => ⟨e1, e2, by omega, e⟩
        · exact fun e => e.2.2.2
      · rename_i hlt
        exact fin _ (decide_eq_false (fun e => hlt (by omega))).symm
    · rename_i e2
      exact fin _ (decide_eq_false (fun e => e2 e.2.1)).symm
  · rename_i e1
    exact fin _ (decide_eq_false (fun e => e1 e.1)).symm
end Go.Wz
