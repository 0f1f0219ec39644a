/- FoldUses: a state uses just the pieces of its files. -/
import Derived.Test.YtanbffihggdcaaaGreatDoorLwA
set_option linter.unusedVariables false
set_option linter.unusedSimpArgs false
set_option maxRecDepth 20000
namespace Go.Wz
open Go.Proofs Go.Eng Go.Sort
theorem le_tr : ∀ a b c : Int, leI a b = true → leI b c = true → leI a c = true := fun a b c h1 h2 => by simp only [leI, decide_eq_true_eq] at *; omega
theorem le_to : ∀ a b : Int, (leI a b || leI b a) = true := fun a b => by simp only [leI, Bool.or_eq_true, decide_eq_true_eq]; omega
theorem rising_mem {l : List Int} {x : Int} : x ∈ rising l ↔ x ∈ l := by
  unfold rising
  rw [List.mem_mergeSort, putAll_keys]
  simp
theorem rising_sorted (l : List Int) : (rising l).Pairwise (fun a b => leI a b = true) := List.pairwise_mergeSort le_tr le_to _
theorem rising_nodup (l : List Int) : (rising l).Nodup := (List.mergeSort_perm _ _).nodup_iff.2 (putAll_nodup (by simp))
theorem sorted_eq {xs ys : List Int} (hx : xs.Pairwise (fun a b => leI a b = true)) (hy : ys.Pairwise (fun a b => leI a b = true)) (h : xs.Perm ys) : xs = ys :=
  List.Perm.eq_of_pairwise (le := fun a b => leI a b = true) (fun a b _ _ h1 h2 => by simp only [leI, decide_eq_true_eq] at h1 h2; omega) hx hy h
theorem rising_congr {l l' : List Int} (h : ∀ x, x ∈ l ↔ x ∈ l') : rising l = rising l' :=
  sorted_eq (rising_sorted _) (rising_sorted _) ((List.perm_ext_iff_of_nodup (rising_nodup _) (rising_nodup _)).2 fun x => by rw [rising_mem, rising_mem, h])
theorem rising_snoc {l l' : List Int} {c : Int} (hc : ∀ x ∈ l, x < c) (h : ∀ x, x ∈ l' ↔ x ∈ l ∨ x = c) : rising l' = rising l ++ [c] := by
  refine sorted_eq (rising_sorted _) ?_ ((List.perm_ext_iff_of_nodup (rising_nodup _) ?_).2 fun x => ?_)
  · rw [List.pairwise_append]
    refine ⟨rising_sorted _, by simp, fun a ha b hb => ?_⟩
    simp only [List.mem_singleton] at hb
    subst hb
    have := hc a (rising_mem.1 ha)
    simp only [leI, decide_eq_true_eq]; omega
  · rw [List.nodup_append]
    refine ⟨rising_nodup _, by simp, fun a ha b hb e => ?_⟩
    simp only [List.mem_singleton] at hb
    subst hb
    have := hc a (rising_mem.1 ha)
    omega
  · rw [rising_mem, h, List.mem_append, List.mem_singleton, rising_mem]
theorem last_max {xs : List Int} (h : xs.Pairwise (fun a b => leI a b = true)) {y : Int} (hy : xs[xs.length - 1]? = some y) : ∀ x ∈ xs, x ≤ y := by
  intro x hx
  obtain ⟨i, hi, rfl⟩ := List.mem_iff_getElem.1 hx
  obtain ⟨hj, rfl⟩ := List.getElem?_eq_some_iff.1 hy
  by_cases e : i = xs.length - 1
  · subst e; exact Int.le_refl _
  · have := List.pairwise_iff_getElem.1 h i (xs.length - 1) hi hj (by omega)
    simpa [leI] using this
def zz : ByteArray := ⟨#[47, 122, 122, 122, 122]⟩
theorem zz_split : psplit zz = ([⟨#[122, 122, 122, 122]⟩], 0) := by decide +kernel
theorem zz_ne : zz ≠ slash := by decide
/-- With a file /zzzz more, that has this body. -/
def withZ (S : St) (b : Bd) : St := ⟨⟨kput zz (zz, S.tr.next, false) S.tr.nodes, S.tr.next + 1⟩, kput S.tr.next b S.bodies⟩
theorem kput_kput {κ β : Type} [DecidableEq κ] {k : κ} {v w : β} : ∀ {xs : List (κ × β)}, kput k w (kput k v xs) = kput k w xs
  | [] => by simp [kput]
  | p :: ps => by
    simp only [kput]
    split
    · simp [kput]
    · rename_i e
      simp only [kput, if_neg e]
      rw [kput_kput]
theorem lk_kput {κ β : Type} [DecidableEq κ] {k : κ} {v : β} : ∀ {xs : List (κ × β)}, lk k (kput k v xs) = some v
  | [] => by simp [kput, lk]
  | p :: ps => by
    simp only [kput]
    split
    · simp [lk]
    · rename_i e
      simp only [lk, if_neg e]
      exact lk_kput
section
variable {L : Nat} {S : St}
theorem lk_next (h : Inv L S) : lk S.tr.next S.bodies = none := lk_none.2 fun hm => by
  obtain ⟨b, hb, e⟩ := List.mem_map.1 hm
  have := h.bid b hb
  omega
theorem withZ_make (h : Inv L S) (hL : L < 1000000) {l : Nodes} (hc : scheck S (ev0 1 zz 0) = 0) : sapply S (ev0 1 zz 0) [] l = (0, withZ S (0, [])) := by
  rw [sa_make hc (.inl rfl), if_pos (show (ev0 1 zz 0).1 = 1 from rfl)]
  unfold tmake withZ
  rw [wi_id (by have := h.lo; omega) (by have := h.hi; omega)]
  rfl
theorem withZ_inv (h : Inv L S) (hL : L < 1000000) (hc : scheck S (ev0 1 zz 0) = 0) {b : Bd} (hm : bmay b = true) (hb : b.2.length ≤ 60) : Inv (L + 61 + 61) (withZ S b) := by
  have h1 := h.apply hL (e := ev0 1 zz 0) (ps := []) (by simp) (List.Perm.refl _)
  rw [withZ_make h hL hc] at h1
  have := h1.put (L' := L + 61 + 61) (id := S.tr.next) (b := b) hm (by omega) (by omega) ⟨h.lo, by show S.tr.next < S.tr.next + 1; omega⟩
  have e : (⟨(withZ S (0, [])).tr, kput S.tr.next b (withZ S (0, [])).bodies⟩ : St) = withZ S b := by
    unfold withZ
    rw [kput_kput]
  rw [e] at this
  exact this
theorem withZ_lk (b : Bd) : lk zz (withZ S b).tr.nodes = some (zz, S.tr.next, false) := lk_kput
theorem withZ_file (h : Inv L S) (hL : L < 1000000) (hc : scheck S (ev0 1 zz 0) = 0) (b : Bd) : sfile (withZ S b) zz = (S.tr.next, 0) := by
  have hw : WF (withZ S b).tr.nodes (withZ S b).tr.next := (withZ_inv h hL hc (b := (0, [])) (by decide) (by simp)).wf
  unfold sfile
  rw [tlook_at hw (withZ_lk b)]
  rfl
theorem withZ_body (b : Bd) : bodyOf (withZ S b) S.tr.next = b := by
  unfold bodyOf withZ
  simp only
  rw [lk_kput]
theorem withZ_put (b b' : Bd) : (⟨(withZ S b).tr, kput S.tr.next b' (withZ S b).bodies⟩ : St) = withZ S b' := by
  unfold withZ
  simp only
  rw [kput_kput]
theorem withZ_chunks (h : Inv L S) (b : Bd) (x : Int) : x ∈ chunksOf (withZ S b) ↔ x ∈ chunksOf S ∨ x ∈ b.2.map (fun p => p.2.2.1) := by
  unfold chunksOf withZ
  simp only
  rw [kput_none (lk_next h), List.flatMap_append, List.mem_append]
  simp
theorem withZ_write (h : Inv L S) (hL : L < 1000000) (hc : scheck S (ev0 1 zz 0) = 0) {b : Bd} {ps : List Prt} {b' : Bd} (hb : bwrite b 0 ps = (b', 0)) {l : Nodes} : sapply (withZ S b) (ev0 3 zz 0) ps l = (0, withZ S b') := by
  have hf := withZ_file h hL hc b
  have hck : scheck (withZ S b) (ev0 3 zz 0) = 0 := by
    unfold scheck
    rw [if_neg (by decide), if_pos (by decide)]
    unfold swrite
    rw [show (ev0 3 zz 0).2.1 = zz from rfl, hf]
    rw [if_neg (by simp), if_neg (by decide), if_neg (by decide)]
  rw [sa_write hck rfl]
  unfold sput
  rw [if_neg (fun x => absurd x.1 (by decide)), show (ev0 3 zz 0).2.1 = zz from rfl, hf]
  simp only
  rw [withZ_body, show (ev0 3 zz 0).2.2.2.1 = 0 from rfl, hb]
  simp only [if_true]
  rw [withZ_put]
theorem withZ_trunc (h : Inv L S) (hL : L < 1000000) (hc : scheck S (ev0 1 zz 0) = 0) {b : Bd} {l : Nodes} : sapply (withZ S b) (ev0 4 zz 0) [] l = (0, withZ S (btrunc b 0).1) := by
  have hf := withZ_file h hL hc b
  have hck : scheck (withZ S b) (ev0 4 zz 0) = 0 := by
    unfold scheck
    rw [if_neg (by decide), if_neg (by decide), if_pos (by decide)]
    unfold strunc
    rw [show (ev0 4 zz 0).2.1 = zz from rfl, hf]
    rw [if_neg (fun x => absurd x.2 (by decide))]
  rw [sa_trunc hck rfl, show (ev0 4 zz 0).2.1 = zz from rfl, hf, show (ev0 4 zz 0).2.2.2.2.1 = 0 from rfl]
  simp only
  rw [withZ_body, withZ_put]
theorem withZ_under (h : Inv L S) (hL : L < 1000000) (hc : scheck S (ev0 1 zz 0) = 0) (b : Bd) : tunder (withZ S b).tr.nodes zz = [] := by
  have hw : WF (withZ S b).tr.nodes (withZ S b).tr.next := (withZ_inv h hL hc (b := (0, [])) (by decide) (by simp)).wf
  refine List.filter_eq_nil_iff.2 fun kn hk hp => ?_
  rw [← hw.key kn hk] at hp
  obtain ⟨zs, h1, h2⟩ := (under_iff (by rw [zz_split]) (hw.ok kn hk).1 zz_ne).1 hp
  obtain ⟨n, g1, g2⟩ := hw.up kn hk (cs zz).length (by rw [show cs zz = _ from congrArg Prod.fst zz_split]; decide) (by
    rw [h2, List.length_append]
    have := List.length_pos_iff.2 h1
    omega)
  rw [h2, List.take_left, cs_join (by rw [zz_split]), withZ_lk] at g1
  simp only [Option.some.injEq] at g1
  rw [← g1] at g2
  cases g2
theorem withZ_drop (h : Inv L S) (hL : L < 1000000) (hc : scheck S (ev0 1 zz 0) = 0) {b : Bd} {l : Nodes} : ∃ T, sapply (withZ S b) (ev0 6 zz 0) [] l = (0, T) ∧ chunksOf T = chunksOf S := by
  have hw : WF (withZ S b).tr.nodes (withZ S b).tr.next := (withZ_inv h hL hc (b := (0, [])) (by decide) (by simp)).wf
  have hck : scheck (withZ S b) (ev0 6 zz 0) = 0 := by
    unfold scheck
    rw [if_neg (by decide), if_neg (by decide), if_neg (by decide), if_neg (by decide), if_pos (by decide)]
    unfold tcandrop
    rw [show (ev0 6 zz 0).2.1 = zz from rfl, tlook_at hw (withZ_lk b), withZ_under h hL hc b]
    rw [if_neg (by simp), if_neg (by simp), if_neg (by simp; decide), if_neg (by rintro (x | x); exact zz_ne x; simp at x)]
  rw [sa_drop hck (.inl rfl)]
  refine ⟨_, rfl, ?_⟩
  rw [show (ev0 6 zz 0).2.1 = zz from rfl]
  have ht : tid (withZ S b).tr.nodes zz = S.tr.next := by unfold tid; rw [withZ_lk]
  rw [ht]
  unfold chunksOf
  simp only
  have : kdel S.tr.next (withZ S b).bodies = S.bodies := by
    unfold withZ
    simp only
    rw [kput_none (lk_next h)]
    have hnd : ((S.bodies ++ [(S.tr.next, b)]).map Prod.fst).Nodup := by
      rw [List.map_append, List.nodup_append]
      refine ⟨h.bnd, by simp, fun x hx y hy e => ?_⟩
      simp only [List.map_cons, List.map_nil, List.mem_singleton] at hy
      subst hy; subst e
      obtain ⟨p, hp, e⟩ := List.mem_map.1 hx
      have := h.bid p hp
      omega
    rw [kdel_filter hnd, List.filter_append]
    have e1 : S.bodies.filter (fun p => decide (p.1 ≠ S.tr.next)) = S.bodies := List.filter_eq_self.2 fun p hp => by
      have := h.bid p hp
      simp only [ne_eq, decide_not, Bool.not_eq_eq_eq_not, Bool.not_true, decide_eq_false_iff_not]
      omega
    rw [e1]
    simp
  rw [this]
end
def p1 (c : Int) (k : Int) : Prt := (0, c, k, 0)
theorem write1 {c k : Int} (h1 : 1 ≤ c) (h2 : c ≤ 64) (h3 : 1 ≤ k) (h4 : k ≤ 4611686018427387904) : bwrite (0, []) 0 [p1 c k] = ((c, [p1 c k]), 0) := by
  have hf : fits (p1 c k) = true := fits_iff.2 (by unfold p1; simp only; omega)
  have hok : (bwrite (0, []) 0 [p1 c k]).2 = 0 := by
    unfold bwrite
    rw [if_neg (by simp [hf]; decide)]
    have hw : wi c = c := wi_id (by omega) (by omega)
    have hw2 : wi (1099511627776 - c) = 1099511627776 - c := wi_id (by omega) (by omega)
    have hl : longs 0 [p1 c k] = c := by simp [longs, p1, hw]
    rw [hl, hw2, if_neg (by omega), if_neg (by simp)]
  obtain ⟨_, _, _, _, h5⟩ := bwrite_ok (by simp) hok
  refine Prod.ext ?_ hok
  rw [h5, if_neg (by simp)]
  have hl : lens [p1 c k] = c := by simp [lens, p1]
  rw [hl]
  simp only [Int.zero_add]
  rw [if_pos (by omega)]
  rfl
theorem write2 {c k : Int} (h1 : 1 ≤ c) (h2 : c ≤ 64) (h3 : 1 ≤ k) (h4 : k < 4611686018427387904) : bwrite (c, [p1 c k]) 0 [p1 64 (k + 1)] = ((64, [p1 64 (k + 1)]), 0) := by
  have hf : fits (p1 64 (k + 1)) = true := fits_iff.2 (by unfold p1; simp only; omega)
  have hf1 : fits (p1 c k) = true := fits_iff.2 (by unfold p1; simp only; omega)
  have hm : bmay (c, [p1 c k]) = true := bmay_iff.2 ⟨by simp only; omega, by simp only; omega, hf1, by unfold p1; simp, by unfold p1; simp, trivial⟩
  have hok : (bwrite (c, [p1 c k]) 0 [p1 64 (k + 1)]).2 = 0 := by
    unfold bwrite
    rw [if_neg (by simp [hf, hm])]
    have hl : longs 0 [p1 64 (k + 1)] = 64 := rfl
    rw [hl, if_neg (by decide), if_neg (by simp)]
  obtain ⟨_, _, _, _, h5⟩ := bwrite_ok (by simp) hok
  refine Prod.ext ?_ hok
  rw [h5, if_neg (by simp)]
  have hl : lens [p1 64 (k + 1)] = 64 := rfl
  rw [hl]
  simp only [Int.zero_add]
  have e1 : sel (fun p => pahead p 0) [p1 c k] = [] := sel_ahead_nil (off := 0) (size := c) (a := 0) (Int.le_refl 0) ⟨hf1, by unfold p1; simp, by unfold p1; simp, trivial⟩
  have e2 : sel (fun p => pbehind p 64) [p1 c k] = [] := by
    have : pbehind (p1 c k) 64 = ((0, 0, 0, 0), false) := by
      unfold pbehind p1
      simp only
      rw [if_pos (by rw [Int.zero_add, wi_id (by omega) (by omega)]; omega)]
    unfold sel
    simp [this]
  rw [e1, e2]
  by_cases hc : (64 : Int) > c
  · rw [if_pos hc]; rfl
  · rw [if_neg hc, show c = 64 by omega]; rfl
theorem trunc0 {c k : Int} (h1 : 1 ≤ c) (h2 : c ≤ 64) (h3 : 1 ≤ k) (h4 : k ≤ 4611686018427387904) : btrunc (c, [p1 c k]) 0 = ((0, []), 0) := by
  have hf1 : fits (p1 c k) = true := fits_iff.2 (by unfold p1; simp only; omega)
  have hm : bmay (c, [p1 c k]) = true := bmay_iff.2 ⟨by simp only; omega, by simp only; omega, hf1, by unfold p1; simp, by unfold p1; simp, trivial⟩
  unfold btrunc
  rw [if_neg (by rw [hm]; decide), if_neg (by decide)]
  have e1 : sel (fun p => pahead p 0) [p1 c k] = [] := sel_ahead_nil (off := 0) (size := c) (a := 0) (Int.le_refl 0) ⟨hf1, by unfold p1; simp, by unfold p1; simp, trivial⟩
  rw [e1]
end Go.Wz
