/- States, plainly: what every event keeps. -/
import Derived.Test.YtanbffihggdcaaaGreatDoorPlC
import Derived.Test.YtanbffihggdcaaaGreatDoorPlD
import Derived.Test.YtanbffihggdcaaaGreatDoorSpK
set_option linter.unusedVariables false
set_option linter.unusedSimpArgs false
namespace Go.Wz
open Go.Proofs Go.Eng Go.Sort
/-- A whole state of at most so many events. -/
structure Inv (L : Nat) (S : St) : Prop where
  wf : WF S.tr.nodes S.tr.next
  lo : 1 ≤ S.tr.next
  hi : S.tr.next ≤ L + 1
  may : ∀ b ∈ S.bodies, bmay b.2 = true
  len : ∀ b ∈ S.bodies, b.2.2.length ≤ L
  few : S.bodies.length ≤ L
  bnd : (S.bodies.map Prod.fst).Nodup
  bid : ∀ b ∈ S.bodies, 1 ≤ b.1 ∧ b.1 < S.tr.next
theorem Inv.nil : Inv 0 S0 := ⟨WF.nil, by decide, by decide, by simp, by simp, by simp, by simp, by simp⟩
theorem Inv.mono {L L' : Nat} {S : St} (h : Inv L S) (hl : L ≤ L') : Inv L' S := ⟨h.wf, h.lo, by have := h.hi; omega, h.may, fun b hb => by have := h.len b hb; omega, by have := h.few; omega, h.bnd, h.bid⟩
theorem Inv.ok {L : Nat} {S : St} (h : Inv L S) : StOk (L + 1) S := ⟨h.wf.tree, h.wf.key, fun b hb => by have := h.len b hb; omega, by omega⟩
theorem Inv.body {L : Nat} {S : St} (h : Inv L S) (id : Int) : bmay (bodyOf S id) = true ∧ (bodyOf S id).2.length ≤ L := by
  unfold bodyOf
  cases hl : lk id S.bodies with
  | none => exact ⟨by decide, by simp⟩
  | some b => exact ⟨h.may _ (lk_mem hl), h.len _ (lk_mem hl)⟩
theorem Inv.chunks {L : Nat} {S : St} (h : Inv L S) : ∀ x ∈ chunksOf S, inI x := fun x hx => by
  obtain ⟨b, hb, hx⟩ := List.mem_flatMap.1 hx
  obtain ⟨p, hp, rfl⟩ := List.mem_map.1 hx
  exact fits_in (may_fits (h.may b hb) p hp)
theorem kput_mem {κ β : Type} [DecidableEq κ] {k : κ} {v : β} {xs : List (κ × β)} (hn : (xs.map Prod.fst).Nodup) {p : κ × β} (h : p ∈ kput k v xs) : p = (k, v) ∨ (p ∈ xs ∧ p.1 ≠ k) := by
  have := (kput_perm (k := k) (v := v) xs).mem_iff.1 h
  rw [kdel_filter hn, List.mem_cons, List.mem_filter] at this
  rcases this with h | ⟨h, h2⟩
  · exact .inl h
  · exact .inr ⟨h, by simpa using h2⟩
theorem kput_length {κ β : Type} [DecidableEq κ] {k : κ} {v : β} : ∀ {xs : List (κ × β)}, (kput k v xs).length ≤ xs.length + 1
  | [] => by simp [kput]
  | p :: ps => by
    simp only [kput]
    split
    · simp
    · simp only [List.length_cons]
      have := kput_length (k := k) (v := v) (xs := ps)
      omega
theorem kput_length_in {κ β : Type} [DecidableEq κ] {k : κ} {v w : β} : ∀ {xs : List (κ × β)}, lk k xs = some w → (kput k v xs).length = xs.length
  | [], h => by simp [lk] at h
  | p :: ps, h => by
    simp only [lk] at h
    simp only [kput]
    split
    · simp
    · rename_i e
      rw [if_neg e] at h
      simp only [List.length_cons]
      rw [kput_length_in h]
theorem kdel_mem {κ β : Type} [DecidableEq κ] {k : κ} {xs : List (κ × β)} (hn : (xs.map Prod.fst).Nodup) {p : κ × β} : p ∈ kdel k xs ↔ p ∈ xs ∧ p.1 ≠ k := by
  rw [kdel_filter hn, List.mem_filter]
  simp
/-- Bodies of the same numbers, or one more. -/
theorem Inv.put {L L' : Nat} {S : St} (h : Inv L S) {id : Int} {b : Bd} (hm : bmay b = true) (hl : b.2.length ≤ L') (hll : L + 1 ≤ L') (hid : 1 ≤ id ∧ id < S.tr.next) : Inv L' ⟨S.tr, kput id b S.bodies⟩ where
  wf := h.wf
  lo := h.lo
  hi := by have := h.hi; simp only; omega
  may p hp := by
    rcases kput_mem h.bnd hp with rfl | ⟨hp, _⟩
    · exact hm
    · exact h.may p hp
  len p hp := by
    rcases kput_mem h.bnd hp with rfl | ⟨hp, _⟩
    · exact hl
    · have := h.len p hp; omega
  few := by
    have := kput_length (k := id) (v := b) (xs := S.bodies)
    have := h.few
    simp only; omega
  bnd := kput_nodup h.bnd
  bid p hp := by
    rcases kput_mem h.bnd hp with rfl | ⟨hp, _⟩
    · exact hid
    · exact h.bid p hp
theorem Inv.del {L : Nat} {S : St} (h : Inv L S) (id : Int) : Inv L ⟨S.tr, kdel id S.bodies⟩ where
  wf := h.wf
  lo := h.lo
  hi := h.hi
  may p hp := h.may p ((kdel_mem h.bnd).1 hp).1
  len p hp := h.len p ((kdel_mem h.bnd).1 hp).1
  few := by
    have : (kdel id S.bodies).length ≤ S.bodies.length := by rw [kdel_filter h.bnd]; exact List.length_filter_le _ _
    have := h.few
    simp only; omega
  bnd := kdel_nodup h.bnd
  bid p hp := h.bid p ((kdel_mem h.bnd).1 hp).1
theorem Inv.tree {L : Nat} {S : St} (h : Inv L S) {nodes : Nodes} (hw : WF nodes S.tr.next) : Inv L ⟨⟨nodes, S.tr.next⟩, S.bodies⟩ := ⟨hw, h.lo, h.hi, h.may, h.len, h.few, h.bnd, h.bid⟩
theorem sfile_ok {S : St} {next : Int} (h : WF S.tr.nodes next) {s : ByteArray} (hf : (sfile S s).2 = 0) : ∃ n, lk s S.tr.nodes = some n ∧ n.2.2 = false ∧ sfile S s = (n.2.1, 0) := by
  unfold sfile at hf ⊢
  simp only at hf ⊢
  split at hf
  · cases hf
  · rename_i e
    have hz : (tlook S.tr.nodes s).2.2 = 0 := hf
    by_cases hs : s = slash
    · subst hs
      exact absurd ⟨hz, rfl⟩ e
    · obtain ⟨n, g1, g2⟩ := tlook_lk hz hs
      rw [if_neg e]
      rw [g2] at e ⊢
      refine ⟨n, g1, ?_, rfl⟩
      cases hn : n.2.2
      · rfl
      · exact absurd ⟨rfl, hn⟩ e
theorem Inv.file {L : Nat} {S : St} (h : Inv L S) {s : ByteArray} (hf : (sfile S s).2 = 0) : 1 ≤ (sfile S s).1 ∧ (sfile S s).1 < S.tr.next := by
  obtain ⟨n, g1, _, g3⟩ := sfile_ok h.wf hf
  rw [g3]
  exact h.wf.ids _ (lk_mem g1)
theorem swrite_file {S : St} {e : EvT} (h : swrite S e = 0) : (sfile S e.2.1).2 = 0 := by
  unfold swrite at h
  split at h
  · rename_i x; exact absurd h x
  · rename_i x; simpa using x
theorem strunc_file {S : St} {e : EvT} (h : strunc S e = 0) : (sfile S e.2.1).2 = 0 := by
  unfold strunc at h
  split at h
  · cases h
  · exact h
/-- Every event keeps a state whole. -/
theorem Inv.apply {L : Nat} {S : St} (h : Inv L S) (hL : L < 1000000) {e : EvT} {ps : List Prt} (hp : ps.length ≤ 60) {l : Nodes} (hl : l.Perm (tunder S.tr.nodes e.2.1)) : Inv (L + 61) (sapply S e ps l).2 := by
  by_cases hc : scheck S e = 0
  · by_cases e1 : e.1 = 1 ∨ e.1 = 2
    · rw [sa_make hc e1]
      have hcan := scheck_make hc e1
      have hw := h.wf.make h.lo (d := e.1 == 2) hcan
      have hlk := (tcan_ok h.wf hcan).2.2.1
      have hnx : wi (S.tr.next + 1) = S.tr.next + 1 := wi_id (by have := h.lo; omega) (by have := h.hi; omega)
      have hi := h.hi
      have lo := h.lo
      have base : Inv (L + 1) ⟨⟨kput e.2.1 (e.2.1, S.tr.next, e.1 == 2) S.tr.nodes, S.tr.next + 1⟩, S.bodies⟩ := by
        refine ⟨?_, by simp only; omega, by simp only; omega, h.may, fun b hb => by have := h.len b hb; omega, by have := h.few; simp only; omega, h.bnd, fun b hb => by have := h.bid b hb; simp only; omega⟩
        refine hw.perm ?_
        rw [kput_none hlk]
        exact (List.perm_append_comm (l₁ := [_]))
      have ht : tmake S.tr e.2.1 (e.1 == 2) = ⟨kput e.2.1 (e.2.1, S.tr.next, e.1 == 2) S.tr.nodes, S.tr.next + 1⟩ := by
        unfold tmake; rw [hnx]
      rw [ht]
      by_cases e2 : e.1 = 1
      · rw [if_pos e2]
        exact base.put (b := (0, [])) (by decide) (by simp) (by omega) ⟨lo, by simp only; omega⟩
      · rw [if_neg e2]
        exact base.mono (by omega)
    · by_cases e3 : e.1 = 3
      · rw [sa_write hc e3]
        unfold sput
        by_cases c1 : e.2.2.2.2.2.len > 0 ∧ longs 0 ps ≠ (e.2.2.2.2.2.len : Int)
        · rw [if_pos c1]; exact h.mono (by omega)
        · rw [if_neg c1]
          simp only
          have hf : (sfile S e.2.1).2 = 0 := by
            unfold scheck at hc
            rw [if_neg e1, if_pos e3] at hc
            exact swrite_file hc
          by_cases c2 : (bwrite (bodyOf S (sfile S e.2.1).1) e.2.2.2.1 ps).2 = 0
          · rw [if_pos c2]
            have := bwrite_len (by omega) c2
            have := (h.body (sfile S e.2.1).1).2
            exact h.put (bwrite_may (by omega) c2) (by omega) (by omega) (h.file hf)
          · rw [if_neg c2]; exact h.mono (by omega)
      · by_cases e4 : e.1 = 4
        · rw [sa_trunc hc e4]
          have hf : (sfile S e.2.1).2 = 0 := by
            unfold scheck at hc
            rw [if_neg e1, if_neg e3, if_pos e4] at hc
            exact strunc_file hc
          have := btrunc_len (b := bodyOf S (sfile S e.2.1).1) (n := e.2.2.2.2.1)
          have := (h.body (sfile S e.2.1).1).2
          exact h.put btrunc_may (by omega) (by omega) (h.file hf)
        · by_cases e5 : e.1 = 5
          · rw [sa_ren hc e5]
            refine Inv.del (S := ⟨tren S.tr e.2.1 e.2.2.1 l, S.bodies⟩) ?_ _
            unfold tren
            have hcan := scheck_ren hc e5
            by_cases hab : e.2.1 = e.2.2.1
            · rw [if_pos hab]; exact h.mono (by omega)
            · rw [if_neg hab]
              have hr := ren_ok (next := S.tr.next) h.wf hcan hab
              exact (h.mono (by omega)).tree ((h.wf.ren hr).perm (h.wf.ren_perm hr hl).symm)
          · by_cases e6 : e.1 = 6 ∨ e.1 = 7
            · rw [sa_drop hc e6]
              have hcan := scheck_drop hc e6
              exact Inv.del (S := ⟨⟨kdel e.2.1 S.tr.nodes, S.tr.next⟩, S.bodies⟩) ((h.mono (by omega)).tree (h.wf.drop hcan)) _
            · rw [sa_none hc e1 e3 e4 e5 e6]
              exact h.mono (by omega)
  · rw [sa_err hc]; exact h.mono (by omega)
end Go.Wz
