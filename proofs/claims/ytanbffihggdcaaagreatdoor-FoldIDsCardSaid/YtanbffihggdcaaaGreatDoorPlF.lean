/- What an event does to numbers and bodies. -/
import Derived.Test.YtanbffihggdcaaaGreatDoorLwB
set_option linter.unusedVariables false
set_option linter.unusedSimpArgs false
namespace Go.Wz
open Go.Proofs Go.Eng Go.Sort
theorem lk_kput' {κ β : Type} [DecidableEq κ] {k k' : κ} {v : β} (hne : k ≠ k') : ∀ {xs : List (κ × β)}, lk k' (kput k v xs) = lk k' xs
  | [] => by simp [kput, lk, hne]
  | p :: ps => by
    simp only [kput]
    split
    · rename_i e
      rw [lk_cons_ne (p := (k, v)) hne, lk_cons_ne (by rw [e]; exact hne)]
    · simp only [lk]
      rw [lk_kput' hne]
theorem lk_kdel' {κ β : Type} [DecidableEq κ] {k k' : κ} (hne : k ≠ k') : ∀ {xs : List (κ × β)}, lk k' (kdel k xs) = lk k' xs
  | [] => rfl
  | p :: ps => by
    simp only [kdel]
    split
    · rename_i e
      rw [lk_cons_ne (by rw [e]; exact hne)]
    · simp only [lk]
      rw [lk_kdel' hne]
theorem inj_nodup {α β : Type} {f : α → β} : ∀ {l : List α}, (l.map f).Nodup → ∀ x ∈ l, ∀ y ∈ l, f x = f y → x = y
  | [], _, x, hx, _, _, _ => by simp at hx
  | a :: l, hn, x, hx, y, hy, e => by
    rw [List.map_cons, List.nodup_cons] at hn
    rcases List.mem_cons.1 hx with h1 | h1
    · rcases List.mem_cons.1 hy with h2 | h2
      · rw [h1, h2]
      · refine absurd ?_ hn.1
        rw [← h1, e]; exact List.mem_map_of_mem h2
    · rcases List.mem_cons.1 hy with h2 | h2
      · refine absurd ?_ hn.1
        rw [← h2, ← e]; exact List.mem_map_of_mem h1
      · exact inj_nodup hn.2 x h1 y h2 e
/-- Just the files have bodies. -/
def Full (S : St) : Prop := ∀ kn ∈ S.tr.nodes, (lk kn.2.2.1 S.bodies).isSome = !kn.2.2.2
theorem Full.nil : Full S0 := fun kn hk => by simp [S0] at hk
structure Step (S T : St) (op : Int) : Prop where
  next : T.tr.next = S.tr.next ∨ T.tr.next = S.tr.next + 1
  org : ∀ kn ∈ T.tr.nodes, (∃ k0 ∈ S.tr.nodes, k0.2.2 = kn.2.2) ∨ kn.2.2.1 = S.tr.next
  bod : op ≠ 3 → op ≠ 4 → ∀ id b b', lk id S.bodies = some b → lk id T.bodies = some b' → b = b'
theorem Step.refl (S : St) (op : Int) : Step S S op := ⟨.inl rfl, fun kn hk => .inl ⟨kn, hk, rfl⟩, fun _ _ id b b' h1 h2 => by rw [h1] at h2; exact Option.some.inj h2⟩
section
variable {L : Nat} {S : St}
theorem full_put (hf : Full S) {id : Int} {b : Bd} (hs : (lk id S.bodies).isSome = true) : Full ⟨S.tr, kput id b S.bodies⟩ := fun kn hk => by
  have h := hf kn hk
  show (lk kn.2.2.1 (kput id b S.bodies)).isSome = _
  by_cases e : id = kn.2.2.1
  · subst e
    rw [lk_kput, ← h, hs]; rfl
  · rw [lk_kput' e]; exact h
theorem step_put (op : Int) (hop : op = 3 ∨ op = 4) {id : Int} {b : Bd} : Step S ⟨S.tr, kput id b S.bodies⟩ op := ⟨.inl rfl, fun kn hk => .inl ⟨kn, hk, rfl⟩, fun h1 h2 => by omega⟩
theorem file_some (h : Inv L S) (hf : Full S) {s : ByteArray} (hs : (sfile S s).2 = 0) : (lk (sfile S s).1 S.bodies).isSome = true := by
  obtain ⟨n, h1, h2, h3⟩ := sfile_ok h.wf hs
  rw [h3]
  have := hf _ (lk_mem h1)
  rw [show ((s, n) : ByteArray × Nd).2.2.1 = n.2.1 from rfl] at this
  rw [this, show ((s, n) : ByteArray × Nd).2.2.2 = n.2.2 from rfl, h2]; rfl
/-- Some nodes stay, with other names perhaps, and the body of one number goes. -/
theorem del_step (h : Inv L S) (hf : Full S) {nodes : Nodes} {g : Int} (op : Int) (ho : ∀ kn ∈ nodes, ∃ k0 ∈ S.tr.nodes, k0.2.2 = kn.2.2 ∧ k0.2.2.1 ≠ g) : Full ⟨⟨nodes, S.tr.next⟩, kdel g S.bodies⟩ ∧ Step S ⟨⟨nodes, S.tr.next⟩, kdel g S.bodies⟩ op := by
  refine ⟨fun kn hk => ?_, .inl rfl, fun kn hk => ?_, fun _ _ id b b' h1 h2 => ?_⟩
  · obtain ⟨k0, h1, h2, h3⟩ := ho kn hk
    show (lk kn.2.2.1 (kdel g S.bodies)).isSome = _
    rw [← h2, lk_kdel' (fun e => h3 e.symm)]
    exact hf k0 h1
  · obtain ⟨k0, h1, h2, h3⟩ := ho kn hk
    exact .inl ⟨k0, h1, h2⟩
  · have hm := (kdel_mem h.bnd).1 (lk_mem h2)
    rw [lk_of_mem h.bnd hm.1] at h1
    exact (Option.some.inj h1).symm
theorem step (h : Inv L S) (hf : Full S) (hL : L < 1000000) {e : EvT} {ps : List Prt} {l : Nodes} (hl : l.Perm (tunder S.tr.nodes e.2.1)) : Full (sapply S e ps l).2 ∧ Step S (sapply S e ps l).2 e.1 := by
  by_cases hc : scheck S e = 0
  · by_cases e1 : e.1 = 1 ∨ e.1 = 2
    · rw [sa_make hc e1]
      have hcan := scheck_make hc e1
      have hlk := (tcan_ok h.wf hcan).2.2.1
      have hnx : wi (S.tr.next + 1) = S.tr.next + 1 := wi_id (by have := h.lo; omega) (by have := h.hi; omega)
      have ht : tmake S.tr e.2.1 (e.1 == 2) = ⟨kput e.2.1 (e.2.1, S.tr.next, e.1 == 2) S.tr.nodes, S.tr.next + 1⟩ := by
        unfold tmake; rw [hnx]
      rw [ht]
      have hmem : ∀ kn ∈ kput e.2.1 (e.2.1, S.tr.next, e.1 == 2) S.tr.nodes, kn = (e.2.1, (e.2.1, S.tr.next, e.1 == 2)) ∨ kn ∈ S.tr.nodes := fun kn hk => by
        rw [kput_none hlk, List.mem_append, List.mem_singleton] at hk
        exact hk.symm
      refine ⟨fun kn hk => ?_, .inr rfl, fun kn hk => ?_, fun _ _ id b b' h1 h2 => ?_⟩
      · show (lk kn.2.2.1 (if e.1 = 1 then kput S.tr.next (0, []) S.bodies else S.bodies)).isSome = _
        rcases hmem kn hk with rfl | hk
        · simp only
          by_cases e2 : e.1 = 1
          · rw [if_pos e2, lk_kput, e2]; rfl
          · have e3 : e.1 = 2 := by omega
            rw [if_neg e2, lk_next h, e3]; rfl
        · have := h.wf.ids kn hk
          have h2 := hf kn hk
          by_cases e2 : e.1 = 1
          · rw [if_pos e2, lk_kput' (by omega)]; exact h2
          · rw [if_neg e2]; exact h2
      · rcases hmem kn hk with rfl | hk
        · exact .inr rfl
        · exact .inl ⟨kn, hk, rfl⟩
      · have h2 : lk id (if e.1 = 1 then kput S.tr.next (0, []) S.bodies else S.bodies) = some b' := h2
        have hne : S.tr.next ≠ id := fun x => by subst x; rw [lk_next h] at h1; cases h1
        by_cases e2 : e.1 = 1
        · rw [if_pos e2, lk_kput' hne, h1] at h2; exact Option.some.inj h2
        · rw [if_neg e2, h1] at h2; exact Option.some.inj h2
    · by_cases e3 : e.1 = 3
      · rw [sa_write hc e3]
        unfold sput
        by_cases c1 : e.2.2.2.2.2.len > 0 ∧ longs 0 ps ≠ (e.2.2.2.2.2.len : Int)
        · rw [if_pos c1]; exact ⟨hf, Step.refl _ _⟩
        · rw [if_neg c1]
          simp only
          have hfl : (sfile S e.2.1).2 = 0 := by
            unfold scheck at hc
            rw [if_neg e1, if_pos e3] at hc
            exact swrite_file hc
          by_cases c2 : (bwrite (bodyOf S (sfile S e.2.1).1) e.2.2.2.1 ps).2 = 0
          · rw [if_pos c2]
            exact ⟨full_put hf (file_some h hf hfl), step_put _ (.inl e3)⟩
          · rw [if_neg c2]; exact ⟨hf, Step.refl _ _⟩
      · by_cases e4 : e.1 = 4
        · rw [sa_trunc hc e4]
          have hfl : (sfile S e.2.1).2 = 0 := by
            unfold scheck at hc
            rw [if_neg e1, if_neg e3, if_pos e4] at hc
            exact strunc_file hc
          exact ⟨full_put hf (file_some h hf hfl), step_put _ (.inr e4)⟩
        · by_cases e5 : e.1 = 5
          · rw [sa_ren hc e5]
            have hcan := scheck_ren hc e5
            by_cases hab : e.2.1 = e.2.2.1
            · have : tren S.tr e.2.1 e.2.2.1 l = ⟨S.tr.nodes, S.tr.next⟩ := by unfold tren; rw [if_pos hab]
              rw [this, if_pos hab]
              exact del_step h hf _ fun kn hk => ⟨kn, hk, rfl, by have := h.wf.ids kn hk; omega⟩
            · rw [if_neg hab]
              have hr := ren_ok (next := S.tr.next) h.wf hcan hab
              have : tren S.tr e.2.1 e.2.2.1 l = ⟨trenGo e.2.1 e.2.2.1 S.tr.nodes (l.map Prod.snd ++ [tnode S.tr.nodes e.2.1]), S.tr.next⟩ := by unfold tren; rw [if_neg hab]
              rw [this]
              refine del_step h hf _ fun kn hk => ?_
              have hk := (h.wf.ren_perm hr hl).mem_iff.1 hk
              have ho : ∃ k0 ∈ S.tr.nodes, k0.2.2 = kn.2.2 ∧ k0.1 ≠ e.2.2.1 := by
                unfold renamed at hk
                rcases List.mem_append.1 hk with hk | hk
                · have hk := List.mem_filter.1 hk
                  simp only [Bool.and_eq_true, decide_eq_true_eq] at hk
                  exact ⟨kn, hk.1, rfl, hk.2.2⟩
                · obtain ⟨k0, hk0, rfl⟩ := List.mem_map.1 hk
                  obtain ⟨h1, h2⟩ := List.mem_filter.1 hk0
                  obtain ⟨zs, h3⟩ := (isM_cs h.wf hr h1).1 h2
                  refine ⟨k0, h1, rfl, fun x => ?_⟩
                  rw [x] at h3
                  by_cases hz : zs = []
                  · subst hz
                    rw [List.append_nil] at h3
                    refine hr.ab ?_
                    rw [← cs_join hr.pa, ← cs_join hr.pb, h3]
                  · exact hr.apart ⟨zs, hz, h3⟩
              obtain ⟨k0, h1, h2, h3⟩ := ho
              refine ⟨k0, h1, h2, fun x => ?_⟩
              unfold tgone at x
              split at x
              · rename_i n hn
                have := inj_nodup h.wf.uniq k0 h1 _ (lk_mem hn) x
                exact h3 (by rw [this])
              · have := h.wf.ids k0 h1
                omega
          · by_cases e6 : e.1 = 6 ∨ e.1 = 7
            · rw [sa_drop hc e6]
              have hcan := scheck_drop hc e6
              obtain ⟨_, ⟨n, hn, _⟩, _⟩ := tcandrop_ok hcan
              refine del_step h hf _ fun kn hk => ?_
              have hk := (kdel_mem h.wf.nd).1 hk
              refine ⟨kn, hk.1, rfl, fun x => ?_⟩
              have ht : tid S.tr.nodes e.2.1 = n.2.1 := by unfold tid; rw [hn]
              rw [ht] at x
              have := inj_nodup h.wf.uniq kn hk.1 _ (lk_mem hn) x
              exact hk.2 (by rw [this])
            · rw [sa_none hc e1 e3 e4 e5 e6]
              exact ⟨hf, Step.refl _ _⟩
  · rw [sa_err hc]; exact ⟨hf, Step.refl _ _⟩
end
end Go.Wz
