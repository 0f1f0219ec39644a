/- A renaming, plainly: what the tree is behind it. -/
import Derived.Test.YtanbffihggdcaaaGreatDoorPlB
set_option linter.unusedVariables false
set_option linter.unusedSimpArgs false
namespace Go.Wz
open Go.Proofs Go.Eng
/-- Is it the node that is renamed, or under it? -/
def isM (a : ByteArray) (kn : ByteArray × Nd) : Bool := decide (kn.1 = a) || hasPre kn.1 (a ++ slash)
def mvk (a b : ByteArray) (kn : ByteArray × Nd) : ByteArray × Nd := ((moved a b kn.2).1, moved a b kn.2)
/-- The nodes behind a renaming. -/
def renamed (a b : ByteArray) (nodes : Nodes) : Nodes := nodes.filter (fun kn => !isM a kn && decide (kn.1 ≠ b)) ++ (nodes.filter (isM a)).map (mvk a b)
def outOf (x : ByteArray) (l : List ByteArray) : Bool := l.all fun y => decide (x ≠ y)
theorem outOf_iff {x : ByteArray} {l : List ByteArray} : outOf x l = true ↔ x ∉ l := by
  unfold outOf
  rw [List.all_eq_true]
  simp only [ne_eq, decide_not, Bool.not_eq_eq_eq_not, Bool.not_true, decide_eq_false_iff_not]
  exact ⟨fun h hm => h x hm rfl, fun h y hy e => h (e ▸ hy)⟩
theorem outOf_cons {x y : ByteArray} {l : List ByteArray} : outOf x (y :: l) = (decide (x ≠ y) && outOf x l) := rfl
/-- Moves, one after another. -/
theorem trenGo_perm {a b : ByteArray} : ∀ (xs : List Nd) (nodes : Nodes), (nodes.map Prod.fst).Nodup → (xs.map fun n => n.1).Nodup → (xs.map fun n => (moved a b n).1).Nodup → (∀ n ∈ xs, ∀ m ∈ xs, (moved a b n).1 ≠ m.1) →
    (trenGo a b nodes xs).Perm (nodes.filter (fun kn => outOf kn.1 (xs.map (fun n => n.1)) && outOf kn.1 (xs.map (fun n => (moved a b n).1))) ++ xs.map fun n => ((moved a b n).1, moved a b n))
  | [], nodes, _, _, _, _ => by
    have : nodes.filter (fun kn => outOf kn.1 [] && outOf kn.1 []) = nodes := List.filter_eq_self.2 (fun _ _ => rfl)
    simp only [List.map_nil, List.append_nil, this]
    exact List.Perm.refl _
  | n :: xs, nodes, hn, h1, h2, h3 => by
    have hn1 := kdel_nodup (k := n.1) hn
    have hn2 := kput_nodup (k := (moved a b n).1) (v := moved a b n) hn1
    simp only [List.map_cons, List.nodup_cons] at h1 h2
    have ih := trenGo_perm xs (kput (moved a b n).1 (moved a b n) (kdel n.1 nodes)) hn2 h1.2 h2.2 (fun x hx y hy => h3 x (List.mem_cons_of_mem _ hx) y (List.mem_cons_of_mem _ hy))
    have hd : trenGo a b nodes (n :: xs) = trenGo a b (kput (moved a b n).1 (moved a b n) (kdel n.1 nodes)) xs := rfl
    rw [hd]
    refine ih.trans ?_
    have hp := (kput_perm (k := (moved a b n).1) (v := moved a b n) (kdel n.1 nodes)).filter (fun kn => outOf kn.1 (xs.map (fun n => n.1)) && outOf kn.1 (xs.map (fun n => (moved a b n).1)))
    rw [List.filter_cons_of_pos] at hp
    · have e2 : kdel (moved a b n).1 (kdel n.1 nodes) = nodes.filter (fun p => decide (p.1 ≠ (moved a b n).1) && decide (p.1 ≠ n.1)) := by
        rw [kdel_filter hn1, kdel_filter hn, List.filter_filter]
      rw [e2, List.filter_filter] at hp
      refine (hp.append_right _).trans ?_
      rw [List.cons_append, List.map_cons]
      refine List.perm_middle.symm.trans ?_
      refine List.Perm.append_right _ (List.Perm.of_eq ?_)
      refine List.filter_congr fun kn hk => ?_
      simp only [List.map_cons, outOf_cons]
      by_cases e1 : kn.1 = n.1 <;> by_cases e2 : kn.1 = (moved a b n).1 <;> simp [e1, e2]
    · simp only [Bool.and_eq_true, outOf_iff]
      refine ⟨fun hm => ?_, h2.1⟩
      obtain ⟨m, hm, e⟩ := List.mem_map.1 hm
      exact h3 n List.mem_cons_self m (List.mem_cons_of_mem _ hm) e.symm
/-- What 'it may be renamed' says. -/
structure RenOk (nodes : Nodes) (a b : ByteArray) : Prop where
  pa : (psplit a).2 = 0
  pb : (psplit b).2 = 0
  na : a ≠ slash
  nb : b ≠ slash
  ab : a ≠ b
  src : ∃ n, lk a nodes = some n
  apart : ¬ ∃ zs, zs ≠ [] ∧ cs b = cs a ++ zs
  up : ∀ k, 0 < k → k < (cs b).length → ∃ n, lk (pjoin ((cs b).take k)) nodes = some n ∧ n.2.2 = true
  dst : ∀ n, lk b nodes = some n → n.2.2 = false ∧ ∀ m, lk a nodes = some m → m.2.2 = false
  deep : ∀ kn ∈ tunder nodes a, (psplit (b ++ kn.2.1.extract a.size kn.2.1.size)).2 = 0
theorem tparent_ok {nodes : Nodes} {next : Int} (h : WF nodes next) {s : ByteArray} (hok : (psplit s).2 = 0) (hs : s ≠ slash) (hp : tparent nodes s = 0) : ∀ k, 0 < k → k < (cs s).length → ∃ n, lk (pjoin ((cs s).take k)) nodes = some n ∧ n.2.2 = true := by
  have hne := cs_ne hok hs
  unfold tparent at hp
  rw [if_neg (fun x => x.elim (fun x => x hok) hne)] at hp
  simp only at hp
  intro k h0 h1
  have hpar := psplit_take hok ((psplit s).1.length - 1)
  have e9 : (cs s).length = (psplit s).1.length := rfl
  split at hp
  · cases hp
  · rename_i e5
    have hp0 : (tlook nodes (pjoin ((psplit s).1.take ((psplit s).1.length - 1)))).2.2 = 0 := hp
    by_cases hr : pjoin ((psplit s).1.take ((psplit s).1.length - 1)) = slash
    · exfalso
      have : (psplit (pjoin ((psplit s).1.take ((psplit s).1.length - 1)))).1 = [] := by rw [hr]; rfl
      rw [hpar] at this
      have := congrArg List.length this
      simp only [List.length_take, List.length_nil] at this
      omega
    · obtain ⟨n, g1, g2⟩ := tlook_lk hp0 hr
      have g3 : n.2.2 = true := by
        rw [g2] at e5
        cases hn : n.2.2
        · exact absurd ⟨rfl, hn⟩ e5
        · rfl
      by_cases hk : k = (cs s).length - 1
      · subst hk; exact ⟨n, g1, g3⟩
      · have := h.up _ (lk_mem g1) k h0 (by rw [show cs (pjoin ((psplit s).1.take ((psplit s).1.length - 1))) = (cs s).take ((cs s).length - 1) from congrArg Prod.fst hpar]; rw [List.length_take]; omega)
        rw [show cs (pjoin ((psplit s).1.take ((psplit s).1.length - 1))) = (cs s).take ((cs s).length - 1) from congrArg Prod.fst hpar, List.take_take, Nat.min_eq_left (by omega)] at this
        exact this
theorem punder_iff {a b : ByteArray} (ha : (psplit a).2 = 0) (hb : (psplit b).2 = 0) : punder b a = true ↔ ∃ zs, zs ≠ [] ∧ cs b = cs a ++ zs := by
  unfold punder
  simp only [decide_eq_true_eq, ha, hb, true_and]
  constructor
  · rintro ⟨h1, h2⟩
    refine ⟨(cs b).drop (cs a).length, fun e => ?_, ?_⟩
    · have := congrArg List.length e
      simp only [List.length_drop, List.length_nil] at this
      have e1 : (cs b).length = (psplit b).1.length := rfl
      have e2 : (cs a).length = (psplit a).1.length := rfl
      omega
    · have h2 : (cs b).take (cs a).length = cs a := h2
      conv => lhs; rw [← List.take_append_drop (cs a).length (cs b), h2]
  · rintro ⟨zs, h1, h2⟩
    have h2 : (psplit b).1 = (psplit a).1 ++ zs := h2
    rw [h2]
    have := List.length_pos_iff.2 h1
    exact ⟨by simp; omega, List.take_left⟩
theorem ren_ok {nodes : Nodes} {next : Int} (h : WF nodes next) {a b : ByteArray} (hc : tcanren ⟨nodes, next⟩ a b = 0) (hab : a ≠ b) : RenOk nodes a b := by
  unfold tcanren at hc
  simp only at hc
  split at hc
  · cases hc
  · rename_i g1
    have pa : (psplit a).2 = 0 := Decidable.not_not.1 fun x => g1 (.inl x)
    have pb : (psplit b).2 = 0 := Decidable.not_not.1 fun x => g1 (.inr x)
    split at hc
    · rename_i g2; exact absurd hc g2
    · rename_i g2
      split at hc
      · cases hc
      · rename_i g3
        split at hc
        · cases hc
        · rename_i g4
          split at hc
          · rename_i g5; exact absurd hc g5
          · rename_i g5
            by_cases g6 : b = slash ∨ tover ⟨nodes, next⟩ a b = true
            · rw [if_pos g6] at hc
              cases hc
            · rw [if_neg g6] at hc
              split at hc
              · cases hc
              · rename_i g7
                have nb : b ≠ slash := fun x => g6 (.inl x)
                obtain ⟨n, g8, g9⟩ := tlook_lk (by simpa using g2) g3
                refine ⟨pa, pb, g3, nb, hab, ⟨n, g8⟩, fun x => g4 ((punder_iff pa pb).2 x), tparent_ok h pb nb (by simpa using g5), fun m hm => ?_, fun kn hk => ?_⟩
                · have h6 : ¬ ((m.2.2 || (tlook nodes a).2.1) = true) := fun x => g6 (.inr (by unfold tover; simp only; rw [hm]; exact x))
                  rw [g9] at h6
                  simp only [Bool.or_eq_true, not_or, Bool.not_eq_true] at h6
                  refine ⟨h6.1, fun m' hm' => ?_⟩
                  rw [g8] at hm'
                  simp only [Option.some.injEq] at hm'
                  rw [← hm']; exact h6.2
                · have h7 : tdeep nodes a b = false := by simpa using g7
                  unfold tdeep at h7
                  have := List.any_eq_false.1 h7 kn hk
                  simpa using this
section
variable {nodes : Nodes} {next : Int} {a b : ByteArray}
theorem isM_cs (h : WF nodes next) (hr : RenOk nodes a b) {kn : ByteArray × Nd} (hk : kn ∈ nodes) : isM a kn = true ↔ ∃ zs, cs kn.1 = cs a ++ zs := by
  unfold isM
  rw [Bool.or_eq_true, decide_eq_true_eq, under_iff hr.pa (h.ok kn hk).1 hr.na]
  constructor
  · rintro (e | ⟨zs, _, e⟩)
    · exact ⟨[], by rw [e]; simp⟩
    · exact ⟨zs, e⟩
  · rintro ⟨zs, e⟩
    by_cases hz : zs = []
    · left
      subst hz
      exact cs_inj (h.ok kn hk).1 hr.pa (by simpa using e)
    · exact .inr ⟨zs, hz, e⟩
/-- The new path, in parts. -/
theorem moved_cs (h : WF nodes next) (hr : RenOk nodes a b) {kn : ByteArray × Nd} (hk : kn ∈ nodes) {zs : List ByteArray} (e : cs kn.1 = cs a ++ zs) : (moved a b kn.2).1 = pjoin (cs b ++ zs) ∧ psplit (pjoin (cs b ++ zs)) = (cs b ++ zs, 0) := by
  have hok := (h.ok kn hk).1
  have hkey := h.key kn hk
  have h1 : (moved a b kn.2).1 = pjoin (cs b ++ zs) := by
    unfold moved
    simp only
    rw [← hkey]
    exact moved_path hr.pa hr.pb hok hr.na hr.nb e
  refine ⟨h1, ?_⟩
  have hsp : (psplit (pjoin (cs b ++ zs))).2 = 0 := by
    by_cases hz : zs = []
    · subst hz
      rw [List.append_nil, cs_join hr.pb]
      exact hr.pb
    · have hu : kn ∈ tunder nodes a := List.mem_filter.2 ⟨hk, by rw [← hkey]; exact (under_iff hr.pa hok hr.na).2 ⟨zs, hz, e⟩⟩
      have := hr.deep kn hu
      rw [← h1]
      exact this
  -- the parts of what was joined
  have hnm : Nms (cs b ++ zs) := by
    intro x hx
    rcases List.mem_append.1 hx with hx | hx
    · exact cs_nms b x hx
    · exact cs_nms kn.1 x (by rw [e]; exact List.mem_append.2 (.inr hx))
  have hinj : cs (pjoin (cs b ++ zs)) = cs b ++ zs := by
    have hbne := cs_ne hr.pb hr.nb
    have hns : pjoin (cs b ++ zs) ≠ slash := fun x => by
      have := congrArg (fun y : ByteArray => y.data.toList) x
      simp only [slash_bytes] at this
      rw [pjoin_bytes (by simp [hbne])] at this
      cases hc : cs b with
      | nil => exact hbne hc
      | cons y ys =>
        rw [hc, List.cons_append, jb_cons] at this
        simp only [List.cons.injEq, true_and] at this
        have hp := pname_pos (cs_nms b y (by rw [hc]; exact List.mem_cons_self))
        have := congrArg List.length this
        simp only [List.length_append, List.length_nil, size_bytes] at this
        omega
    have hj := cs_join hsp
    have hb1 := congrArg (fun y : ByteArray => y.data.toList) hj
    rw [pjoin_bytes (cs_ne hsp hns), pjoin_bytes (by simp [hbne])] at hb1
    exact jb_inj (cs_nms _) hnm hb1
  exact Prod.ext hinj hsp
theorem a_not_new (h : WF nodes next) (hr : RenOk nodes a b) {zs ws : List ByteArray} : cs b ++ zs ≠ cs a ++ ws := by
  intro e
  obtain ⟨n, hn⟩ := hr.src
  rcases Nat.lt_trichotomy (cs a).length (cs b).length with hl | hl | hl
  · -- b would lie under a
    refine hr.apart ⟨(cs b).drop (cs a).length, fun x => ?_, ?_⟩
    · have := congrArg List.length x
      simp only [List.length_drop, List.length_nil] at this
      omega
    · have := congrArg (List.take (cs a).length) e
      rw [List.take_left, List.take_append_of_le_length (by omega)] at this
      conv => lhs; rw [← List.take_append_drop (cs a).length (cs b), this]
  · have := List.append_inj_left e hl.symm
    exact hr.ab (cs_inj hr.pa hr.pb this.symm)
  · -- b would be a directory above a
    have hpre : cs b = (cs a).take (cs b).length := by
      have := congrArg (List.take (cs b).length) e
      rw [List.take_left, List.take_append_of_le_length (by omega)] at this
      exact this
    obtain ⟨m, g1, g2⟩ := h.up _ (lk_mem hn) (cs b).length (List.length_pos_iff.2 (cs_ne hr.pb hr.nb)) hl
    have : pjoin ((cs a).take (cs b).length) = b := by rw [← hpre, cs_join hr.pb]
    rw [show cs (a, n).1 = cs a from rfl, this] at g1
    have := (hr.dst m g1).1
    rw [g2] at this; cases this
theorem new_not_there (h : WF nodes next) (hr : RenOk nodes a b) {kn : ByteArray × Nd} (hk : kn ∈ nodes) {zs : List ByteArray} (e : cs kn.1 = cs b ++ zs) : zs = [] := by
  by_cases hz : zs = []
  · exact hz
  exfalso
  obtain ⟨m, g1, g2⟩ := h.up _ hk (cs b).length (List.length_pos_iff.2 (cs_ne hr.pb hr.nb)) (by
    rw [e, List.length_append]
    have := List.length_pos_iff.2 hz
    omega)
  rw [e, List.take_left, cs_join hr.pb] at g1
  have := (hr.dst m g1).1
  rw [g2] at this; cases this
theorem WF.ren_perm (h : WF nodes next) (hr : RenOk nodes a b) {l : Nodes} (hl : l.Perm (tunder nodes a)) : (trenGo a b nodes (l.map Prod.snd ++ [tnode nodes a])).Perm (renamed a b nodes) := by
  obtain ⟨n0, hn0⟩ := hr.src
  have hm0 := lk_mem hn0
  have ht : tnode nodes a = n0 := by unfold tnode; rw [hn0]
  rw [ht]
  -- what moves, in some order
  have hM : (l ++ [(a, n0)]).Perm (nodes.filter (isM a)) := by
    refine (List.perm_ext_iff_of_nodup ?_ ?_).2 fun kn => ?_
    · rw [List.nodup_append]
      have hnn : nodes.Nodup := List.Pairwise.of_map (S := (· ≠ ·)) Prod.fst (fun a b hab e => hab (e ▸ rfl)) h.nd
      refine ⟨hl.nodup_iff.2 (List.filter_sublist.nodup hnn), by simp, ?_⟩
      intro x hx y hy e
      simp only [List.mem_singleton] at hy
      subst hy; subst e
      have := (List.mem_filter.1 (hl.mem_iff.1 hx)).2
      rw [← h.key _ hm0] at this
      obtain ⟨zs, h1, h2⟩ := (under_iff hr.pa hr.pa hr.na).1 this
      have := congrArg List.length h2
      simp only [List.length_append] at this
      have := List.length_pos_iff.2 h1
      omega
    · exact List.filter_sublist.nodup (List.Pairwise.of_map (S := (· ≠ ·)) Prod.fst (fun a b hab e => hab (e ▸ rfl)) h.nd)
    · rw [List.mem_append, List.mem_singleton, List.mem_filter]
      constructor
      · rintro (hx | rfl)
        · have := List.mem_filter.1 (hl.mem_iff.1 hx)
          refine ⟨this.1, ?_⟩
          unfold isM
          rw [Bool.or_eq_true, h.key kn this.1]
          exact .inr this.2
        · exact ⟨hm0, by simp [isM]⟩
      · rintro ⟨h1, h2⟩
        unfold isM at h2
        rw [Bool.or_eq_true, decide_eq_true_eq] at h2
        rcases h2 with h2 | h2
        · right
          exact key_inj h.nd h1 hm0 h2
        · left
          refine hl.mem_iff.2 (List.mem_filter.2 ⟨h1, ?_⟩)
          rw [← h.key kn h1]; exact h2
  have hxs : l.map Prod.snd ++ [n0] = (l ++ [(a, n0)]).map Prod.snd := by simp
  rw [hxs]
  have hmem : ∀ kn ∈ l ++ [(a, n0)], kn ∈ nodes ∧ ∃ zs, cs kn.1 = cs a ++ zs := fun kn hk => by
    have := List.mem_filter.1 (hM.mem_iff.1 hk)
    exact ⟨this.1, (isM_cs h hr this.1).1 this.2⟩
  have hkeys : ((l ++ [(a, n0)]).map Prod.snd).map (fun n => n.1) = (l ++ [(a, n0)]).map Prod.fst := by
    rw [List.map_map]
    exact List.map_congr_left fun kn hk => (h.key kn (hmem kn hk).1).symm
  have hkn : ((l ++ [(a, n0)]).map Prod.fst).Nodup := (hM.map _).nodup_iff.2 ((List.filter_sublist.map _).nodup h.nd)
  have hnew : (((l ++ [(a, n0)]).map Prod.snd).map (fun n => (moved a b n).1)).Nodup := by
    rw [List.map_map]
    have hpl : (l ++ [(a, n0)]).Pairwise (fun x y => x.1 ≠ y.1) := List.pairwise_map.1 hkn
    refine List.pairwise_map.2 (hpl.imp_of_mem fun {x y} hx hy hne e => hne ?_)
    obtain ⟨x1, zx, x2⟩ := hmem x hx
    obtain ⟨y1, zy, y2⟩ := hmem y hy
    obtain ⟨m1, m2⟩ := moved_cs h hr x1 x2
    obtain ⟨m3, m4⟩ := moved_cs h hr y1 y2
    simp only [Function.comp] at e
    rw [m1, m3] at e
    have : cs b ++ zx = cs b ++ zy := by
      have := congrArg psplit e
      rw [m2, m4] at this
      exact congrArg Prod.fst this
    have := List.append_cancel_left this
    exact cs_inj (h.ok x x1).1 (h.ok y y1).1 (by rw [x2, y2, this])
  refine (trenGo_perm _ nodes h.nd (by rw [hkeys]; exact hkn) hnew ?_).trans ?_
  · intro n hn m hm e
    obtain ⟨x, hx, rfl⟩ := List.mem_map.1 hn
    obtain ⟨y, hy, rfl⟩ := List.mem_map.1 hm
    obtain ⟨x1, zx, x2⟩ := hmem x hx
    obtain ⟨y1, zy, y2⟩ := hmem y hy
    obtain ⟨m1, m2⟩ := moved_cs h hr x1 x2
    rw [m1, ← h.key y y1] at e
    have := congrArg psplit e
    rw [m2] at this
    have := congrArg Prod.fst this
    exact a_not_new h hr (this.trans y2)
  · unfold renamed
    refine List.Perm.append (List.Perm.of_eq (List.filter_congr fun kn hk => ?_)) ?_
    · rw [hkeys]
      have e1 : (kn.1 ∈ (l ++ [(a, n0)]).map Prod.fst) ↔ isM a kn = true := by
        constructor
        · intro hm
          obtain ⟨x, hx, e⟩ := List.mem_map.1 hm
          have hx' := List.mem_filter.1 (hM.mem_iff.1 hx)
          have : x = kn := key_inj h.nd hx'.1 hk e
          rw [← this]; exact hx'.2
        · intro hi
          exact List.mem_map.2 ⟨kn, hM.mem_iff.2 (List.mem_filter.2 ⟨hk, hi⟩), rfl⟩
      by_cases hi : isM a kn = true
      · have : outOf kn.1 ((l ++ [(a, n0)]).map Prod.fst) = false := by
          cases ho : outOf kn.1 ((l ++ [(a, n0)]).map Prod.fst) with
          | false => rfl
          | true => exact absurd (e1.2 hi) (outOf_iff.1 ho)
        rw [this, hi]; rfl
      · have hi' : isM a kn = false := by simpa using hi
        rw [outOf_iff.2 (fun x => hi (e1.1 x)), hi']
        simp only [Bool.true_and, Bool.not_false]
        rw [Bool.eq_iff_iff, outOf_iff, decide_eq_true_eq]
        constructor
        · intro hx e
          refine hx (List.mem_map.2 ⟨n0, List.mem_map.2 ⟨(a, n0), by simp, rfl⟩, ?_⟩)
          have := moved_cs h hr hm0 (zs := []) (by simp)
          rw [e, this.1, List.append_nil, cs_join hr.pb]
        · intro hx hm
          obtain ⟨n, hn, e⟩ := List.mem_map.1 hm
          obtain ⟨x, hx2, rfl⟩ := List.mem_map.1 hn
          obtain ⟨x1, zx, x2⟩ := hmem x hx2
          obtain ⟨m1, m2⟩ := moved_cs h hr x1 x2
          rw [m1] at e
          have hcs : cs kn.1 = cs b ++ zx := by rw [← e]; exact congrArg Prod.fst m2
          have := new_not_there h hr hk hcs
          subst this
          exact hx (cs_inj (h.ok kn hk).1 hr.pb (by rw [hcs, List.append_nil]))
    · rw [List.map_map]
      exact hM.map _
theorem WF.ren (h : WF nodes next) (hr : RenOk nodes a b) : WF (renamed a b nodes) next := by
  obtain ⟨n0, hn0⟩ := hr.src
  have hm0 := lk_mem hn0
  have hL : ∀ kn ∈ nodes.filter (fun kn => !isM a kn && decide (kn.1 ≠ b)), kn ∈ nodes ∧ isM a kn = false ∧ kn.1 ≠ b := fun kn hk => by
    have := List.mem_filter.1 hk
    simp only [Bool.and_eq_true, Bool.not_eq_eq_eq_not, Bool.not_true, decide_eq_true_eq] at this
    exact ⟨this.1, this.2.1, this.2.2⟩
  have hR : ∀ x ∈ (nodes.filter (isM a)).map (mvk a b), ∃ kn ∈ nodes, ∃ zs, cs kn.1 = cs a ++ zs ∧ x = mvk a b kn ∧ x.1 = pjoin (cs b ++ zs) ∧ psplit x.1 = (cs b ++ zs, 0) := fun x hx => by
    obtain ⟨kn, hk, rfl⟩ := List.mem_map.1 hx
    have hk := List.mem_filter.1 hk
    obtain ⟨zs, hz⟩ := (isM_cs h hr hk.1).1 hk.2
    obtain ⟨m1, m2⟩ := moved_cs h hr hk.1 hz
    exact ⟨kn, hk.1, zs, hz, rfl, m1, by show psplit (moved a b kn.2).1 = _; rw [m1]; exact m2⟩
  have hnd : ((renamed a b nodes).map Prod.fst).Nodup := by
    unfold renamed
    rw [List.map_append, List.nodup_append]
    refine ⟨(List.filter_sublist.map _).nodup h.nd, ?_, ?_⟩
    · rw [List.map_map]
      have hpl : (nodes.filter (isM a)).Pairwise (fun x y => x.1 ≠ y.1) := List.pairwise_map.1 ((List.filter_sublist.map Prod.fst).nodup h.nd)
      refine List.pairwise_map.2 (hpl.imp_of_mem fun {x y} hx hy hne e => hne ?_)
      have hx := List.mem_filter.1 hx
      have hy := List.mem_filter.1 hy
      obtain ⟨zx, x2⟩ := (isM_cs h hr hx.1).1 hx.2
      obtain ⟨zy, y2⟩ := (isM_cs h hr hy.1).1 hy.2
      obtain ⟨m1, m2⟩ := moved_cs h hr hx.1 x2
      obtain ⟨m3, m4⟩ := moved_cs h hr hy.1 y2
      have e : (moved a b x.2).1 = (moved a b y.2).1 := e
      rw [m1, m3] at e
      have := congrArg psplit e
      rw [m2, m4] at this
      have := List.append_cancel_left (congrArg Prod.fst this)
      exact cs_inj (h.ok x hx.1).1 (h.ok y hy.1).1 (by rw [x2, y2, this])
    · intro x hx y hy e
      obtain ⟨kn, hk, rfl⟩ := List.mem_map.1 hx
      obtain ⟨z, hz, rfl⟩ := List.mem_map.1 hy
      obtain ⟨h1, h2, h3⟩ := hL kn hk
      obtain ⟨w, hw, zs, q1, q2, q3, q4⟩ := hR z hz
      have hcs : cs kn.1 = cs b ++ zs := by rw [e]; exact congrArg Prod.fst q4
      have := new_not_there h hr h1 hcs
      subst this
      exact h3 (cs_inj (h.ok kn h1).1 hr.pb (by rw [hcs, List.append_nil]))
  have hids : ∀ x ∈ renamed a b nodes, ∃ kn ∈ nodes, x.2.2 = kn.2.2 := fun x hx => by
    rcases List.mem_append.1 hx with hx | hx
    · exact ⟨x, (hL x hx).1, rfl⟩
    · obtain ⟨kn, hk, _, _, rfl, _⟩ := hR x hx
      exact ⟨kn, hk, rfl⟩
  refine ⟨hnd, fun kn hk => ?_, fun kn hk => ?_, ?_, fun kn hk => ?_, ?_, fun kn hk k h0 hlt => ?_⟩
  · rcases List.mem_append.1 hk with hk | hk
    · exact h.key kn (hL kn hk).1
    · obtain ⟨x, _, _, _, rfl, _⟩ := hR kn hk
      rfl
  · rcases List.mem_append.1 hk with hk | hk
    · exact h.ok kn (hL kn hk).1
    · obtain ⟨x, _, zs, _, _, q3, q4⟩ := hR kn hk
      refine ⟨by rw [q4], fun e => ?_⟩
      rw [e] at q4
      have := congrArg (fun y : List ByteArray × Int => y.1.length) q4
      have hb := List.length_pos_iff.2 (cs_ne hr.pb hr.nb)
      simp only [List.length_append] at this
      have e0 : (psplit slash).1.length = 0 := rfl
      omega
  · unfold renamed
    rw [List.length_append, List.length_map]
    have h1 : (nodes.filter (fun kn => !isM a kn && decide (kn.1 ≠ b))).length ≤ (nodes.filter (fun kn => !isM a kn)).length := by
      rw [← List.countP_eq_length_filter, ← List.countP_eq_length_filter]
      refine List.countP_mono_left fun x _ hx => ?_
      simp only [Bool.and_eq_true] at hx
      exact hx.1
    have h2 := List.length_eq_countP_add_countP (isM a) (l := nodes)
    rw [List.countP_eq_length_filter, List.countP_eq_length_filter] at h2
    have h3 := h.few
    have h4 : (nodes.filter (fun kn => !isM a kn)).length = (nodes.filter (fun a_1 => decide ¬ isM a a_1 = true)).length := by
      congr 1
      refine List.filter_congr fun x _ => ?_
      cases isM a x <;> rfl
    omega
  · obtain ⟨x, hx, e⟩ := hids kn hk
    have := h.ids x hx
    rw [← e] at this
    exact this
  · unfold renamed
    rw [List.map_append, List.map_map]
    have e1 : ((nodes.filter (isM a)).map ((fun kn : ByteArray × Nd => kn.2.2.1) ∘ mvk a b)) = (nodes.filter (isM a)).map (fun kn => kn.2.2.1) := by
      refine List.map_congr_left fun x _ => rfl
    rw [e1, ← List.map_append]
    have hsub : (nodes.filter (fun kn => !isM a kn && decide (kn.1 ≠ b)) ++ nodes.filter (isM a)).Sublist (nodes.filter (fun kn => !isM a kn) ++ nodes.filter (isM a)) := by
      refine List.Sublist.append ?_ (List.Sublist.refl _)
      have : nodes.filter (fun kn => !isM a kn && decide (kn.1 ≠ b)) = (nodes.filter (fun kn => !isM a kn)).filter (fun kn => decide (kn.1 ≠ b)) := by
        rw [List.filter_filter]
        refine List.filter_congr fun x _ => Bool.and_comm _ _
      rw [this]
      exact List.filter_sublist
    have hp : (nodes.filter (fun kn => !isM a kn) ++ nodes.filter (isM a)).Perm nodes := by
      have := List.filter_append_perm (isM a) nodes
      exact List.perm_append_comm.trans this
    exact (hsub.map _).nodup ((hp.map _).nodup_iff.2 h.uniq)
  · -- what is above
    have stay : ∀ (A : ByteArray) n, lk A nodes = some n → n.2.2 = true → isM a (A, n) = false → lk A (renamed a b nodes) = some n := by
      intro A n hA hd hi
      refine lk_of_mem hnd (List.mem_append.2 (.inl (List.mem_filter.2 ⟨lk_mem hA, ?_⟩)))
      simp only [hi, Bool.not_false, Bool.true_and, decide_eq_true_eq]
      rintro rfl
      have := (hr.dst n hA).1
      rw [hd] at this; cases this
    rcases List.mem_append.1 hk with hk | hk
    · obtain ⟨h1, h2, h3⟩ := hL kn hk
      obtain ⟨n, g1, g2⟩ := h.up kn h1 k h0 hlt
      refine ⟨n, stay _ n g1 g2 ?_, g2⟩
      cases hi : isM a (pjoin ((cs kn.1).take k), n) with
      | false => rfl
      | true =>
        obtain ⟨zs, hz⟩ := (isM_cs h hr (lk_mem g1)).1 hi
        have hz : cs (pjoin ((cs kn.1).take k)) = cs a ++ zs := hz
        rw [show cs (pjoin ((cs kn.1).take k)) = (cs kn.1).take k from congrArg Prod.fst (psplit_take (h.ok kn h1).1 k)] at hz
        have : isM a kn = true := (isM_cs h hr h1).2 ⟨zs ++ (cs kn.1).drop k, by
          rw [← List.append_assoc, ← hz, List.take_append_drop]⟩
        rw [h2] at this; cases this
    · obtain ⟨x, hx, zs, q1, q2, q3, q4⟩ := hR kn hk
      have hcs : cs kn.1 = cs b ++ zs := congrArg Prod.fst q4
      rw [hcs] at hlt ⊢
      rcases Nat.lt_trichotomy k (cs b).length with hlt2 | heq | hgt
      · rw [List.take_append_of_le_length (by omega)]
        obtain ⟨n, g1, g2⟩ := hr.up k h0 hlt2
        refine ⟨n, stay _ n g1 g2 ?_, g2⟩
        cases hi : isM a (pjoin ((cs b).take k), n) with
        | false => rfl
        | true =>
          obtain ⟨ws, hw⟩ := (isM_cs h hr (lk_mem g1)).1 hi
          have hw : cs (pjoin ((cs b).take k)) = cs a ++ ws := hw
          rw [show cs (pjoin ((cs b).take k)) = (cs b).take k from congrArg Prod.fst (psplit_take hr.pb k)] at hw
          exfalso
          refine a_not_new h hr (zs := []) (ws := ws ++ (cs b).drop k) ?_
          rw [List.append_nil, ← List.append_assoc, ← hw, List.take_append_drop]
      · rw [heq, List.take_left, cs_join hr.pb]
        have hz : zs ≠ [] := fun e => by subst e; simp at hlt; omega
        obtain ⟨n, g1, g2⟩ := h.up x hx (cs a).length (List.length_pos_iff.2 (cs_ne hr.pa hr.na)) (by
          rw [q1, List.length_append]
          have := List.length_pos_iff.2 hz
          omega)
        rw [q1, List.take_left, cs_join hr.pa] at g1
        have hmv := moved_cs h hr (lk_mem g1) (zs := []) (by simp)
        rw [List.append_nil, cs_join hr.pb] at hmv
        refine ⟨moved a b n, ?_, g2⟩
        refine lk_of_mem hnd (List.mem_append.2 (.inr (List.mem_map.2 ⟨(a, n), List.mem_filter.2 ⟨lk_mem g1, by simp [isM]⟩, ?_⟩)))
        show ((moved a b n).1, moved a b n) = _
        rw [show (moved a b n).1 = b from hmv.1]
      · obtain ⟨n, g1, g2⟩ := h.up x hx ((cs a).length + (k - (cs b).length)) (by omega) (by
          rw [q1, List.length_append]
          rw [List.length_append] at hlt
          omega)
        rw [q1, List.take_append, List.take_of_length_le (by omega), show (cs a).length + (k - (cs b).length) - (cs a).length = k - (cs b).length by omega] at g1
        rw [List.take_append, List.take_of_length_le (by omega)]
        have hmem := lk_mem g1
        have hcsA : cs (pjoin (cs a ++ zs.take (k - (cs b).length))) = cs a ++ zs.take (k - (cs b).length) := by
          have := psplit_take (h.ok x hx).1 ((cs a).length + (k - (cs b).length))
          rw [q1, List.take_append, List.take_of_length_le (by omega), show (cs a).length + (k - (cs b).length) - (cs a).length = k - (cs b).length by omega] at this
          exact congrArg Prod.fst this
        have hmv := moved_cs h hr hmem hcsA
        refine ⟨moved a b n, ?_, g2⟩
        refine lk_of_mem hnd (List.mem_append.2 (.inr (List.mem_map.2 ⟨_, List.mem_filter.2 ⟨hmem, (isM_cs h hr hmem).2 ⟨_, hcsA⟩⟩, ?_⟩)))
        show ((moved a b n).1, moved a b n) = _
        rw [show (moved a b n).1 = _ from hmv.1]
end
end Go.Wz
