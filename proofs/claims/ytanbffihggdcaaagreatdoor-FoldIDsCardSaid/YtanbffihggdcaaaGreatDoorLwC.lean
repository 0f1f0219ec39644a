/- FoldUses: the call answers true. -/
import Derived.Test.YtanbffihggdcaaaGreatDoorLwB
set_option linter.unusedVariables false
set_option linter.unusedSimpArgs false
set_option maxRecDepth 20000
namespace Go.Wz
open Go.Proofs Go.Eng Go.Sort
section
variable {N : Nat} {σ : Hp} {p tp m bm : Nat}
theorem Sc.of {L : Nat} {τ : Hp} {S : St} (hg : Gl τ) (hz : gMax ∉ [tp, m, bm]) (hs : StateAt τ p tp m bm S) (hi : Inv L S) : Sc (L + 1) τ p tp m bm S := ⟨hg, hs, hi.ok, hz⟩
theorem UsesI {L : Nat} {τ : Hp} {S : St} {Q : Sl → Hp → Prop} [Up Q] (hs : Sc (L + 1) τ p tp m bm S) (hi : Inv L S) (hL : L < 20000) (hN : 20001 < N) (h : ∀ sl ρ, Hp.Le τ ρ → IntsAt (Hp.new τ ρ) sl (rising (chunksOf S)) → Q sl ρ) : (fold_State_Uses N (some ⟨p, 0, none⟩)).run Q τ := by
  have := hi.few
  refine Uses_up (K := L + 1) hs.st hi.ok (by omega) (by omega) (by omega) ?_ hi.chunks h
  have : S.bodies.length * (L + 1) ≤ 20000 * 20001 := Nat.mul_le_mul (by omega) (by omega)
  omega
theorem out_out {X : List Nat} {ρ τ : Hp} (h : Hp.Le (Hp.out X ρ) τ) : Hp.Le (Hp.out X ρ) (Hp.out X τ) := fun k x hx => by
  refine out_at (fun hk => ?_) (h k x hx)
  unfold Hp.out at hx
  rw [if_pos hk] at hx
  cases hx
theorem new_out {X : List Nat} {τ ρ : Hp} (hX : ∀ k ∈ X, ∃ y, τ k = some y) : Hp.Le (Hp.new τ ρ) (Hp.out X ρ) := fun k x hx => by
  refine out_at (fun hk => ?_) (new_le _ _ hx)
  obtain ⟨y, hy⟩ := hX k hk
  unfold Hp.new at hx
  rw [hy] at hx
  cases hx
theorem StateAt.dom {τ : Hp} {S : St} (h : StateAt τ p tp m bm S) : ∀ k ∈ [tp, m, bm], ∃ y, τ k = some y := fun k hk => by
  obtain ⟨_, ⟨y2, q2⟩, ⟨y3, q3⟩, ⟨y4, q4⟩⟩ := h.ptr (T := 0)
  simp only [List.mem_cons, List.not_mem_nil, or_false] at hk
  rcases hk with rfl | rfl | rfl
  · exact ⟨_, q2⟩
  · exact ⟨_, q3⟩
  · exact ⟨_, q4⟩
theorem FoldUses_run {s : Sl} {ds : List Deed} {n : Int} (hN : 100000 < N) (hg : Gl σ) (hs : DeedsAt σ s ds) (hn0 : 0 ≤ n) (hn1 : n ≤ 255) : (law15_FoldUses N (s, n)).run (fun r _ => r = true) σ := by
  unfold law15_FoldUses
  refine bind_go (awake_up (by omega) hg ?_)
  refine cnd_not (fun e => by cases e) (fun _ => ?_)
  refine bind_go (Small_up (most := 60) (by omega) (by omega) hs ?_ (fun hl hd => ?_))
  · exact cnd_go (fun _ => rfl) (fun e => by cases e)
  refine cnd_not (fun e => by cases e) (fun _ => ?_)
  refine bind_go (NewS (K := 1) hg (by omega) fun p tp m bm τ0 hl0 hp htp hm hbm hs0 => ?_)
  have hGs : DeedsAt (Hp.out [tp, m, bm] τ0) s ds := hs.le fun k x hx => by
    refine out_at (fun e => ?_) (hl0 k x hx)
    simp only [List.mem_cons, List.not_mem_nil, or_false] at e
    rcases e with rfl | rfl | rfl
    · rw [htp] at hx; cases hx
    · rw [hm] at hx; cases hx
    · rw [hbm] at hx; cases hx
  refine bind_go ?_
  refine loop_cnt ds.length (fun i st τ => st = (i : Int) ∧ Hp.Le (Hp.out [tp, m, bm] τ0) τ ∧ Gl τ ∧ ∃ S, StateAt τ p tp m bm S ∧ Inv (61 * i) S) _ _ ?_ ?_ N 0 τ0 ⟨rfl, out_le, hs0.gl, _, hs0.st, Inv.nil⟩ (by omega)
  · rintro i _ τ hi ⟨rfl, g1, g2, S, g3, g4⟩
    unfold law15_FoldUses_L0
    have hds := hGs.le g1
    have hlen := hds.len
    have hx : ds[i]? = some ds[i] := List.getElem?_eq_getElem hi
    obtain ⟨b, o, ha, hlt, hel⟩ := hds.el hx
    have hok := hd ds[i] (List.getElem_mem hi)
    have hps := hds.parts ds[i] (List.getElem_mem hi)
    refine cnd_dec (fun _ => ?_) (fun hc => absurd (show (i : Int) < (s.len : Int) by omega) hc)
    refine ixA_go ha hlt ?_
    simp only [add_at]
    refine ld_el (j := 0) (r := ds[i].1) hel (by simp [encDd_len]) rfl ?_
    refine ixA_go ha hlt ?_
    simp only [add_at]
    refine ld_el (j := 6) (r := ds[i].2.1) hel (by simp [encDd_len]) rfl ?_
    refine bind_go (Parts_up (by have := hok.2.2.2; omega) (by have := hok.2.2.2; omega) hps fun sl τ1 k1 k2 => ?_)
    refine ⟨(hel.le k1).rd 0 (by simp [encDd_len]) rfl, ?_⟩
    have h60 := hok.2.2.2
    refine bind_go (Apply_up (K := 61 * i + 62) (e := ds[i].1) (by omega) (g2.le k1) (g3.le k1) (StOk.up g4.ok (by omega)) (by omega) (by omega) k2 (by omega) fun l τ2 q1 q2 q3 => ?_)
    have hw : wi ((i : Int) + 1) = ((i + 1 : Nat) : Int) := by rw [wi_id (by omega) (by omega)]; omega
    dsimp only [vl]
    rw [hw, pure_run]
    refine LP.go ⟨rfl, out_keep (g1.trans k1) q2, (g2.le k1).keep q2 hs0.z, _, q3, ?_⟩
    have := g4.apply (by omega) h60 q1 (e := ds[i].1)
    rw [show 61 * (i + 1) = 61 * i + 61 by omega]
    exact this
  · rintro _ τ ⟨rfl, g1, g2, S, g3, g4⟩
    unfold law15_FoldUses_L0
    have hlen := (hGs.le g1).len
    refine cnd_dec (fun hc => absurd (show ((ds.length : Nat) : Int) < (s.len : Int) from hc) (by omega)) (fun _ => ?_)
    have hL : 61 * ds.length < 10000 := by omega
    generalize 61 * ds.length = L at g4 hL
    have hsc := Sc.of g2 hs0.z g3 g4
    rw [pure_run]
    refine bind_go (UsesI hsc g4 (by omega) (by omega) fun u τ1 k1 k2 => ?_)
    have s1 := hsc.le k1
    have hul := k2.len
    have hchl : (rising (chunksOf S)).length < 1000000000 := by
      unfold rising
      rw [List.length_mergeSort, List.length_map]
      have h1 := putAll_len (l := chunksOf S) (kvs := [])
      have h2 : (chunksOf S).length ≤ S.bodies.length * L := by
        unfold chunksOf
        have : ∀ (bs : List (Int × Bd)), (∀ b ∈ bs, b.2.2.length ≤ L) → (bs.flatMap fun b => b.2.2.map fun p => p.2.2.1).length ≤ bs.length * L := by
          intro bs
          induction bs with
          | nil => simp
          | cons b bs ih =>
            intro hb
            have h3 := ih fun x hx => hb x (List.mem_cons_of_mem _ hx)
            have h4 := hb b List.mem_cons_self
            simp only [List.flatMap_cons, List.length_append, List.length_map, List.length_cons, Nat.succ_mul]
            omega
        exact this _ g4.len
      have h3 : S.bodies.length * L ≤ 10000 * 10000 := Nat.mul_le_mul (by have := g4.few; omega) (by omega)
      simp only [List.length_nil] at h1
      omega
    -- what the first look tells
    refine bind_go (M.mono _ (fun v ρ => ρ = τ1 ∧ (v = false → ∀ x ∈ chunksOf S, x < 2305843009213693952)) _ _ (fun v ρ hv => ?_) ?_)
    rotate_left
    · refine cnd_dec (fun hc => ?_) (fun hc => ?_)
      · have hpos : 0 < u.len := by
          have hc : ((u.len : Nat) : Int) > 0 := hc
          omega
        have hwu : wi ((u.len : Int) - 1) = ((u.len - 1 : Nat) : Int) := by rw [wi_id (by omega) (by omega)]; omega
        dsimp only [vl]
        rw [hwu]
        have hi : u.len - 1 < (rising (chunksOf S)).length := by omega
        refine RowAt_nat (k2.le new_le) (List.getElem?_eq_getElem hi) rfl (by simp [encI1, cso, Tp.ofs, Ce.of]; rfl) ?_
        rw [pure_run]
        refine ⟨rfl, fun e x hx => ?_⟩
        have e : ¬ (rising (chunksOf S))[u.len - 1] ≥ 2305843009213693952 := of_decide_eq_false e
        have := last_max (rising_sorted (chunksOf S)) (y := (rising (chunksOf S))[u.len - 1]) (by rw [← hul]; exact List.getElem?_eq_getElem hi) x (rising_mem.2 hx)
        omega
      · rw [pure_run]
        refine ⟨rfl, fun _ x hx => ?_⟩
        have : 0 < (rising (chunksOf S)).length := List.length_pos_iff.2 fun e => by
          have := rising_mem.2 hx
          rw [e] at this; cases this
        have hc : ¬ ((u.len : Nat) : Int) > 0 := hc
        omega
    obtain ⟨rfl, hv⟩ := hv
    refine cnd_go (fun _ => rfl) (fun e => ?_)
    have hch := hv e
    have hwn : wi n = n := wi_id (by omega) (by omega)
    have hmod : 0 ≤ Int.tmod n 64 ∧ Int.tmod n 64 < 64 := ⟨Int.tmod_nonneg _ hn0, Int.tmod_lt_of_pos _ (by decide)⟩
    dsimp only [vl]
    rw [hwn]
    refine ⟨by decide, ?_⟩
    dsimp only
    have hwc : wi (1 + Int.tmod n 64) = 1 + Int.tmod n 64 := wi_id (by omega) (by omega)
    rw [hwc]
    have hc1 : 1 ≤ 1 + Int.tmod n 64 := by omega
    have hc2 : 1 + Int.tmod n 64 ≤ 64 := by omega
    generalize 1 + Int.tmod n 64 = c at hc1 hc2
    intro b26 h26 b27 h27
    have s2 := (s1.le (le_set (x := (true, ob (encP (p1 c 2305843009213693952)) 40)) h26)).le (le_set (x := (true, ob (encP (p1 64 2305843009213693953)) 40)) h27)
    have n67 : b26 ≠ b27 := fun e => by subst e; rw [set_same] at h27; cases h27
    have f26 := s1.st.fresh h26
    have f27 := (s1.le (le_set (x := (true, ob (encP (p1 c 2305843009213693952)) 40)) h26)).st.fresh (b := b27) h27
    have l2 := (le_set (x := (true, ob (encP (p1 c 2305843009213693952)) 40)) h26).trans (le_set (x := (true, ob (encP (p1 64 2305843009213693953)) 40)) h27)
    show M.run _ _ ((ρ.set b26 (true, ob (encP (p1 c 2305843009213693952)) 40)).set b27 (true, ob (encP (p1 64 2305843009213693953)) 40))
    have e26 : ((ρ.set b26 (true, ob (encP (p1 c 2305843009213693952)) 40)).set b27 (true, ob (encP (p1 64 2305843009213693953)) 40)) b26 = some (true, ob (encP (p1 c 2305843009213693952)) 40) := by rw [set_ne n67]; exact set_same
    have e27 : ((ρ.set b26 (true, ob (encP (p1 c 2305843009213693952)) 40)).set b27 (true, ob (encP (p1 64 2305843009213693953)) 40)) b27 = some (true, ob (encP (p1 64 2305843009213693953)) 40) := set_same
    revert s2 l2 e26 e27
    generalize ((ρ.set b26 (true, ob (encP (p1 c 2305843009213693952)) 40)).set b27 (true, ob (encP (p1 64 2305843009213693953)) 40)) = τ2
    intro s2 l2 e26 e27
    -- beside the state
    have hX := hsc.st.dom
    have G26 := out_at f26.2 e26
    have G27 := out_at f27.2 e27
    have Gu : IntsAt (Hp.out [tp, m, bm] τ2) u (rising (chunksOf S)) := (k2.le (new_out hX)).le fun k x hx => by
      refine out_at (fun hk => ?_) (l2 _ _ (out_le _ _ hx))
      unfold Hp.out at hx
      rw [if_pos hk] at hx
      cases hx
    have G0 : Hp.Le (Hp.out [tp, m, bm] τ2) τ2 := out_le
    have hLm : L < 1000000 := by omega
    -- a new file
    refine bind_go (Apply_up (K := L + 1) (e := ev0 1 zz 0) (ps := []) (by omega) s2.gl s2.st s2.ok (by omega) (by omega) (RowAt.nil none) (by simp) fun l τ3 q1 q2 q3 => ?_)
    by_cases hc : scheck S (ev0 1 zz 0) = 0
    rotate_left
    · rw [sa_err hc]
      exact cnd_ne (fun _ => rfl) (fun e => absurd e hc)
    rw [withZ_make g4 hLm hc] at q3 ⊢
    have q3 : StateAt τ3 p tp m bm (withZ S (0, [])) := q3
    have w2 : bwrite (c, [p1 c 2305843009213693952]) 0 [p1 64 2305843009213693953] = ((64, [p1 64 2305843009213693953]), 0) := write2 (k := 2305843009213693952) hc1 hc2 (by decide) (by decide)
    refine cnd_ne (fun e => absurd rfl e) (fun _ => ?_)
    have G3 := out_keep G0 q2
    have gl3 := s2.gl.keep q2 hs0.z
    have i0 := withZ_inv g4 hLm hc (b := (0, [])) (by decide) (by simp)
    have hm1 : bmay (c, [p1 c 2305843009213693952]) = true := by
      have := bwrite_may (b := (0, [])) (off := 0) (ls := [p1 c 2305843009213693952]) (by simp) (by rw [write1 hc1 hc2 (by decide) (by decide)])
      rw [write1 hc1 hc2 (by decide) (by decide)] at this
      exact this
    have i1 := withZ_inv g4 hLm hc (b := (c, [p1 c 2305843009213693952])) hm1 (by simp)
    have hm2 : bmay (64, [p1 64 2305843009213693953]) = true := by decide
    have i2 := withZ_inv g4 hLm hc (b := (64, [p1 64 2305843009213693953])) hm2 (by simp)
    -- a piece of its own
    refine bind_go (Apply_up (K := L + 61 + 61 + 1) (e := ev0 3 zz 0) (ps := [p1 c 2305843009213693952]) (by omega) gl3 q3 i0.ok (by omega) (by omega) (row_lit (xs := [p1 c 2305843009213693952]) (G3 _ _ G26) rfl encP_len (Nat.le_refl _)) (by simp) fun l τ4 q4 q5 q6 => ?_)
    rw [withZ_write g4 hLm hc (write1 hc1 hc2 (by decide) (by decide))] at q6 ⊢
    have q6 : StateAt τ4 p tp m bm (withZ S (c, [p1 c 2305843009213693952])) := q6
    have G4 := out_keep G3 q5
    have gl4 := gl3.keep q5 hs0.z
    refine bind_go (UsesI (Sc.of gl4 hs0.z q6 i1) i1 (by omega) (by omega) fun v1 τ5 k5 r5 => ?_)
    have r5 := r5.le (new_out q6.dom)
    rw [rising_snoc (l := chunksOf S) (c := 2305843009213693952) hch (fun x => by rw [withZ_chunks g4]; simp [p1])] at r5
    have G5 := out_out (G4.trans k5)
    have q6 := q6.le k5
    have gl5 := gl4.le k5
    have b5 : Hp.Le (Hp.out [tp, m, bm] τ5) τ5 := out_le
    -- written over
    refine bind_go (Apply_up (K := L + 61 + 61 + 1) (e := ev0 3 zz 0) (ps := [p1 64 2305843009213693953]) (by omega) gl5 q6 i1.ok (by omega) (by omega) (row_lit (xs := [p1 64 2305843009213693953]) (b5 _ _ (G5 _ _ G27)) rfl encP_len (Nat.le_refl _)) (by simp) fun l τ6 q7 q8 q9 => ?_)
    rw [withZ_write g4 hLm hc w2] at q9 ⊢
    have q9 : StateAt τ6 p tp m bm (withZ S (64, [p1 64 2305843009213693953])) := q9
    have G6 := out_keep b5 q8
    have gl6 := gl5.keep q8 hs0.z
    refine bind_go (UsesI (Sc.of gl6 hs0.z q9 i2) i2 (by omega) (by omega) fun v2 τ7 k7 r7 => ?_)
    have r7 := r7.le (new_out q9.dom)
    rw [rising_snoc (l := chunksOf S) (c := 2305843009213693953) (fun x hx => by have := hch x hx; omega) (fun x => by rw [withZ_chunks g4]; simp [p1])] at r7
    have G7 := out_out (G6.trans k7)
    have q9 := q9.le k7
    have gl7 := gl6.le k7
    have b7 : Hp.Le (Hp.out [tp, m, bm] τ7) τ7 := out_le
    -- cut off
    refine bind_go (Apply_up (K := L + 61 + 61 + 1) (e := ev0 4 zz 0) (ps := []) (by omega) gl7 q9 i2.ok (by omega) (by omega) (RowAt.nil none) (by simp) fun l τ8 q10 q11 q12 => ?_)
    rw [withZ_trunc g4 hLm hc, trunc0 (by decide) (by decide) (by decide) (by decide)] at q12 ⊢
    have q12 : StateAt τ8 p tp m bm (withZ S (0, [])) := q12
    have G8 := out_keep b7 q11
    have gl8 := gl7.keep q11 hs0.z
    refine bind_go (UsesI (Sc.of gl8 hs0.z q12 i0) i0 (by omega) (by omega) fun v3 τ9 k9 r9 => ?_)
    rw [rising_congr (l' := chunksOf S) (fun x => by rw [withZ_chunks g4]; simp)] at r9
    have G9 := out_out (G8.trans k9)
    have q12 := q12.le k9
    have gl9 := gl8.le k9
    have b9 : Hp.Le (Hp.out [tp, m, bm] τ9) τ9 := out_le
    -- gone
    obtain ⟨T, hT, hTc⟩ := withZ_drop g4 hLm hc (b := (0, [])) (l := [])
    have iT : Inv (L + 61 + 61 + 61) T := by
      have := i0.apply (by omega) (e := ev0 6 zz 0) (ps := []) (by simp) (List.Perm.refl _)
      rw [sapply_l (by decide) _ [], hT] at this
      exact this
    refine bind_go (Apply_up (K := L + 61 + 61 + 1) (e := ev0 6 zz 0) (ps := []) (by omega) gl9 q12 i0.ok (by omega) (by omega) (RowAt.nil none) (by simp) fun l τa qa qb qc => ?_)
    rw [sapply_l (by decide) l [], hT] at qc ⊢
    have qc : StateAt τa p tp m bm T := qc
    have Ga := out_keep b9 qb
    have gla := gl9.keep qb hs0.z
    have lu := hul
    have l1 := r5.len
    have l2' := r7.len
    have l3 := r9.len
    rw [List.length_append, List.length_cons, List.length_nil] at l1 l2'
    have hwl : wi ((u.len : Int) + 1) = ((u.len + 1 : Nat) : Int) := by rw [wi_id (by omega) (by omega)]; omega
    refine cnd_eq (fun _ => ?_) (fun e => absurd rfl e)
    refine cnd_eq (fun _ => ?_) (fun e => absurd rfl e)
    refine cnd_eq (fun _ => ?_) (fun e => absurd rfl e)
    refine cnd_eq (fun _ => ?_) (fun e => absurd rfl e)
    rw [hwl]
    refine cnd_eq (fun _ => ?_) (fun e => absurd (show (v1.len : Int) = ((u.len + 1 : Nat) : Int) by omega) e)
    have row1 := ((r5.le G7).le G9).le Ga
    refine RowAt_nat row1 (i := u.len) (x := 2305843009213693952) (by rw [lu, List.getElem?_append_right (Nat.le_refl _)]; simp) rfl (by simp [encI1, cso, Tp.ofs, Ce.of]; rfl) ?_
    refine cnd_eq (fun _ => ?_) (fun e => absurd rfl e)
    refine cnd_eq (fun _ => ?_) (fun e => absurd (show (v2.len : Int) = ((u.len + 1 : Nat) : Int) by omega) e)
    have row2 := (r7.le G9).le Ga
    refine RowAt_nat row2 (i := u.len) (x := 2305843009213693953) (by rw [lu, List.getElem?_append_right (Nat.le_refl _)]; simp) rfl (by simp [encI1, cso, Tp.ofs, Ce.of]; rfl) ?_
    refine cnd_eq (fun _ => ?_) (fun e => absurd rfl e)
    refine cnd_eq (fun _ => ?_) (fun e => absurd (show (v3.len : Int) = ((u.len : Nat) : Int) by omega) e)
    refine bind_go (UsesI (Sc.of gla hs0.z qc iT) iT (by omega) (by omega) fun v4 τb kb rb => ?_)
    rw [hTc] at rb
    have l4 := rb.len
    show ((v4.len : Int) == (u.len : Int)) = true
    rw [l4, lu]
    simp
end
end Go.Wz
