/- Trees of nodes, plainly: what keeps them whole. -/
import Derived.Test.YtanbffihggdcaaaGreatDoorPlA
set_option linter.unusedVariables false
set_option linter.unusedSimpArgs false
namespace Go.Wz
open Go.Proofs Go.Eng
abbrev Nodes := List (ByteArray × Nd)
/-- A whole tree: no path twice; each node under directories; numbers below the next one, none twice. -/
structure WF (nodes : Nodes) (next : Int) : Prop where
  nd : (nodes.map Prod.fst).Nodup
  key : ∀ kn ∈ nodes, kn.1 = kn.2.1
  ok : ∀ kn ∈ nodes, (psplit kn.1).2 = 0 ∧ kn.1 ≠ slash
  few : nodes.length ≤ 64
  ids : ∀ kn ∈ nodes, 1 ≤ kn.2.2.1 ∧ kn.2.2.1 < next
  uniq : (nodes.map fun kn => kn.2.2.1).Nodup
  up : ∀ kn ∈ nodes, ∀ k, 0 < k → k < (cs kn.1).length → ∃ n, lk (pjoin ((cs kn.1).take k)) nodes = some n ∧ n.2.2 = true
theorem WF.perm {nodes nodes' : Nodes} {next : Int} (h : WF nodes next) (hp : nodes.Perm nodes') : WF nodes' next where
  nd := (hp.map _).nodup_iff.1 h.nd
  key kn hk := h.key kn (hp.mem_iff.2 hk)
  ok kn hk := h.ok kn (hp.mem_iff.2 hk)
  few := by rw [← hp.length_eq]; exact h.few
  ids kn hk := h.ids kn (hp.mem_iff.2 hk)
  uniq := (hp.map _).nodup_iff.1 h.uniq
  up kn hk k h0 h1 := by rw [← lk_perm hp h.nd]; exact h.up kn (hp.mem_iff.2 hk) k h0 h1
theorem WF.nil {next : Int} : WF [] next := ⟨by simp, by simp, by simp, by simp, by simp, by simp, by simp⟩
theorem WF.mono {nodes : Nodes} {m n : Int} (h : WF nodes m) (hl : m ≤ n) : WF nodes n := ⟨h.nd, h.key, h.ok, h.few, fun kn hk => ⟨(h.ids kn hk).1, by have := (h.ids kn hk).2; omega⟩, h.uniq, h.up⟩
theorem WF.tree {nodes : Nodes} {next : Int} (h : WF nodes next) : TreeOk ⟨nodes, next⟩ := ⟨h.few, fun kn hk => by rw [← h.key kn hk]; exact psplit_size (h.ok kn hk).1⟩
theorem lookGo_dirs {nodes : Nodes} {xs : List ByteArray} {n : Nd} (hl : lk (pjoin xs) nodes = some n) (hu : ∀ k, 0 < k → k < xs.length → ∃ n, lk (pjoin (xs.take k)) nodes = some n ∧ n.2.2 = true) :
    ∀ (r i : Nat) (id : Int), i + (r + 1) = xs.length → lookGo nodes xs (r + 1) i id true = (n.2.1, n.2.2, 0)
  | 0, i, id, hi => by
    rw [lookGo, if_neg (by simp), List.take_of_length_le (by omega), hl]
    rfl
  | r + 1, i, id, hi => by
    obtain ⟨m, h1, h2⟩ := hu (i + 1) (by omega) (by omega)
    rw [lookGo, if_neg (by simp), h1]
    simp only
    rw [h2]
    exact lookGo_dirs hl hu r (i + 1) m.2.1 (by omega)
theorem tlook_root (nodes : Nodes) : tlook nodes slash = (0, true, 0) := rfl
theorem tlook_at {nodes : Nodes} {next : Int} (h : WF nodes next) {s : ByteArray} {n : Nd} (hl : lk s nodes = some n) : tlook nodes s = (n.2.1, n.2.2, 0) := by
  have hm := lk_mem hl
  obtain ⟨h1, h2⟩ := h.ok _ hm
  have hne := cs_ne h1 h2
  unfold tlook
  rw [if_neg (by rw [h1]; simp)]
  obtain ⟨r, hr⟩ : ∃ r, (psplit s).1.length = r + 1 := ⟨_, (Nat.sub_add_cancel (List.length_pos_iff.2 hne)).symm⟩
  rw [hr]
  exact lookGo_dirs (by rw [psplit_join_id h1]; exact hl) (h.up _ hm) r 0 0 (by show 0 + (r + 1) = (psplit s).1.length; omega)
theorem kput_none {κ β : Type} [DecidableEq κ] {k : κ} {v : β} : ∀ {xs : List (κ × β)}, lk k xs = none → kput k v xs = xs ++ [(k, v)]
  | [], _ => rfl
  | p :: ps, h => by
    simp only [lk] at h
    split at h
    · cases h
    · rename_i e
      simp only [kput, if_neg e, List.cons_append]
      rw [kput_none h]
theorem lk_cons_ne {κ β : Type} [DecidableEq κ] {k : κ} {p : κ × β} {xs : List (κ × β)} (h : p.1 ≠ k) : lk k (p :: xs) = lk k xs := by
  simp only [lk, if_neg h]
theorem lk_cons_eq {κ β : Type} [DecidableEq κ] {k : κ} {v : β} {xs : List (κ × β)} : lk k ((k, v) :: xs) = some v := by simp [lk]
theorem lk_filter {κ β : Type} [DecidableEq κ] {f : κ × β → Bool} {k : κ} {v : β} {xs : List (κ × β)} (hn : (xs.map Prod.fst).Nodup) (h : lk k xs = some v) (hf : f (k, v) = true) : lk k (xs.filter f) = some v :=
  lk_of_mem ((List.filter_sublist.map _).nodup hn) (List.mem_filter.2 ⟨lk_mem h, hf⟩)
/-- What 'it may be made' says. -/
theorem tcan_ok {nodes : Nodes} {next : Int} (h : WF nodes next) {s : ByteArray} (hc : tcan ⟨nodes, next⟩ s = 0) :
    (psplit s).2 = 0 ∧ s ≠ slash ∧ lk s nodes = none ∧ nodes.length < 64 ∧ ∀ k, 0 < k → k < (cs s).length → ∃ n, lk (pjoin ((cs s).take k)) nodes = some n ∧ n.2.2 = true := by
  unfold tcan at hc
  simp only at hc
  split at hc
  · rename_i e; exact absurd hc e
  · rename_i e
    have hp : tparent nodes s = 0 := by simpa using e
    split at hc
    · cases hc
    · rename_i e2
      split at hc
      · cases hc
      · rename_i e3
        have hs : s ≠ slash := fun x => e2 (.inr x)
        have hl : lk s nodes = none := by
          cases hh : lk s nodes with
          | none => rfl
          | some v => exact absurd (.inl (by rw [hh]; rfl)) e2
        have hok : (psplit s).2 = 0 := by
          unfold tparent at hp
          split at hp
          · exact hp
          · rename_i e4
            exact Decidable.not_not.1 fun x => e4 (.inl x)
        refine ⟨hok, hs, hl, by omega, ?_⟩
        have hne := cs_ne hok hs
        unfold tparent at hp
        rw [if_neg (fun x => x.elim (fun x => x hok) hne)] at hp
        simp only at hp
        intro k h0 h1
        -- the parent
        have hpar := psplit_take hok ((psplit s).1.length - 1)
        split at hp
        · cases hp
        · rename_i e5
          have hp0 : (tlook nodes (pjoin ((psplit s).1.take ((psplit s).1.length - 1)))).2.2 = 0 := hp
          by_cases hr : pjoin ((psplit s).1.take ((psplit s).1.length - 1)) = slash
          · exfalso
            have : (psplit (pjoin ((psplit s).1.take ((psplit s).1.length - 1)))).1 = [] := by rw [hr]; rfl
            rw [hpar] at this
            have := congrArg List.length this
            simp only [List.length_take, List.length_nil] at this
            have e9 : (cs s).length = (psplit s).1.length := rfl
            omega
          · obtain ⟨n, g1, g2⟩ := tlook_lk hp0 hr
            have g3 : n.2.2 = true := by
              rw [g2] at e5
              cases hn : n.2.2
              · exact absurd ⟨rfl, hn⟩ e5
              · rfl
            by_cases hk : k = (cs s).length - 1
            · subst hk; exact ⟨n, g1, g3⟩
            · have := h.up _ (lk_mem g1) k h0 (by rw [show cs (pjoin ((psplit s).1.take ((psplit s).1.length - 1))) = (cs s).take ((cs s).length - 1) from congrArg Prod.fst hpar]; rw [List.length_take]; omega)
              rw [show cs (pjoin ((psplit s).1.take ((psplit s).1.length - 1))) = (cs s).take ((cs s).length - 1) from congrArg Prod.fst hpar, List.take_take, Nat.min_eq_left (by omega)] at this
              exact this
theorem WF.make {nodes : Nodes} {next : Int} (h : WF nodes next) (h1 : 1 ≤ next) {s : ByteArray} {d : Bool} (hc : tcan ⟨nodes, next⟩ s = 0) : WF ((s, (s, next, d)) :: nodes) (next + 1) := by
  obtain ⟨c1, c2, c3, c4, c5⟩ := tcan_ok h hc
  have hnm := lk_none.1 c3
  have hup : ∀ (A : ByteArray) n, lk A nodes = some n → lk A ((s, (s, next, d)) :: nodes) = some n := fun A n hA => by
    rw [lk_cons_ne]
    · exact hA
    · rintro rfl
      rw [c3] at hA; cases hA
  refine ⟨?_, ?_, ?_, by simp; omega, ?_, ?_, ?_⟩
  · rw [List.map_cons, List.nodup_cons]; exact ⟨hnm, h.nd⟩
  · intro kn hk
    rcases List.mem_cons.1 hk with rfl | hk
    · rfl
    · exact h.key kn hk
  · intro kn hk
    rcases List.mem_cons.1 hk with rfl | hk
    · exact ⟨c1, c2⟩
    · exact h.ok kn hk
  · intro kn hk
    rcases List.mem_cons.1 hk with rfl | hk
    · exact ⟨h1, by simp only; omega⟩
    · have := h.ids kn hk
      omega
  · rw [List.map_cons, List.nodup_cons]
    refine ⟨fun hm => ?_, h.uniq⟩
    obtain ⟨kn, hk, e⟩ := List.mem_map.1 hm
    have := h.ids kn hk
    simp only at e
    omega
  · intro kn hk k h0 hlt
    rcases List.mem_cons.1 hk with rfl | hk
    · obtain ⟨n, g1, g2⟩ := c5 k h0 hlt
      exact ⟨n, hup _ _ g1, g2⟩
    · obtain ⟨n, g1, g2⟩ := h.up kn hk k h0 hlt
      exact ⟨n, hup _ _ g1, g2⟩
/-- What 'it may go' says. -/
theorem tcandrop_ok {nodes : Nodes} {next : Int} {s : ByteArray} {d : Bool} (hc : tcandrop ⟨nodes, next⟩ s d = 0) : s ≠ slash ∧ (∃ n, lk s nodes = some n ∧ n.2.2 = d) ∧ tunder nodes s = [] := by
  unfold tcandrop at hc
  simp only at hc
  split at hc
  · rename_i e; exact absurd hc e
  · rename_i e
    split at hc
    · cases hc
    · rename_i e2
      split at hc
      · cases hc
      · rename_i e3
        split at hc
        · cases hc
        · rename_i e4
          have hs : s ≠ slash := fun x => e4 (.inl x)
          obtain ⟨n, g1, g2⟩ := tlook_lk (by simpa using e) hs
          refine ⟨hs, ⟨n, g1, ?_⟩, List.eq_nil_of_length_eq_zero (by
            have : ¬ 0 < (tunder nodes s).length := fun x => e4 (.inr x)
            omega)⟩
          rw [g2] at e2 e3
          simp only at e2 e3
          cases hn : n.2.2 <;> cases d
          · rfl
          · exact absurd ⟨hn, rfl⟩ e3
          · exact absurd ⟨hn, rfl⟩ e2
          · rfl
theorem WF.drop {nodes : Nodes} {next : Int} (h : WF nodes next) {s : ByteArray} {d : Bool} (hc : tcandrop ⟨nodes, next⟩ s d = 0) : WF (kdel s nodes) next := by
  obtain ⟨c1, ⟨m, c2, _⟩, c3⟩ := tcandrop_ok hc
  rw [kdel_filter h.nd]
  have hsub : ∀ kn ∈ nodes.filter (fun p => decide (p.1 ≠ s)), kn ∈ nodes ∧ kn.1 ≠ s := fun kn hk => by
    have := List.mem_filter.1 hk
    exact ⟨this.1, by simpa using this.2⟩
  refine ⟨(List.filter_sublist.map _).nodup h.nd, fun kn hk => h.key kn (hsub kn hk).1, fun kn hk => h.ok kn (hsub kn hk).1, ?_, fun kn hk => h.ids kn (hsub kn hk).1, (List.filter_sublist.map _).nodup h.uniq, ?_⟩
  · have := List.length_filter_le (fun p : ByteArray × Nd => decide (p.1 ≠ s)) nodes
    have := h.few
    omega
  · intro kn hk k h0 hlt
    obtain ⟨hk1, hk2⟩ := hsub kn hk
    obtain ⟨n, g1, g2⟩ := h.up kn hk1 k h0 hlt
    refine ⟨n, lk_filter h.nd g1 ?_, g2⟩
    simp only [ne_eq, decide_not, Bool.not_eq_eq_eq_not, Bool.not_true, decide_eq_false_iff_not]
    intro e
    have hok := (h.ok kn hk1).1
    have hs := (h.ok _ (lk_mem c2)).1
    have hcs : cs s = (cs kn.1).take k := by
      rw [← e]; exact congrArg Prod.fst (psplit_take hok k)
    have : kn ∈ tunder nodes s := by
      refine List.mem_filter.2 ⟨hk1, ?_⟩
      rw [← h.key kn hk1]
      refine (under_iff hs hok c1).2 ⟨(cs kn.1).drop k, fun x => ?_, by rw [hcs, List.take_append_drop]⟩
      have := congrArg List.length x
      simp only [List.length_drop, List.length_nil] at this
      omega
    rw [c3] at this
    cases this
end Go.Wz
