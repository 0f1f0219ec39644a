/- FoldIDs: the call answers true (the outer loops). -/
import Derived.Test.YtanbffihggdcaaaGreatDoorLwD
set_option linter.unusedVariables false
set_option linter.unusedSimpArgs false
set_option maxRecDepth 20000
namespace Go.Wz
open Go.Proofs Go.Eng Go.Sort
theorem sa_same {S : St} {e : EvT} {ps : List Prt} {l : Nodes} (h : (sapply S e ps l).1 ≠ 0) : (sapply S e ps l).2 = S := by
  by_cases hc : scheck S e = 0
  · by_cases e1 : e.1 = 1 ∨ e.1 = 2
    · rw [sa_make hc e1] at h; exact absurd rfl h
    · by_cases e3 : e.1 = 3
      · rw [sa_write hc e3] at h ⊢
        unfold sput at h ⊢
        by_cases c1 : e.2.2.2.2.2.len > 0 ∧ longs 0 ps ≠ (e.2.2.2.2.2.len : Int)
        · rw [if_pos c1]
        · rw [if_neg c1] at h ⊢
          simp only at h ⊢
          by_cases c2 : (bwrite (bodyOf S (sfile S e.2.1).1) e.2.2.2.1 ps).2 = 0
          · rw [if_pos c2] at h; exact absurd rfl h
          · rw [if_neg c2]
      · by_cases e4 : e.1 = 4
        · rw [sa_trunc hc e4] at h; exact absurd rfl h
        · by_cases e5 : e.1 = 5
          · rw [sa_ren hc e5] at h; exact absurd rfl h
          · by_cases e6 : e.1 = 6 ∨ e.1 = 7
            · rw [sa_drop hc e6] at h; exact absurd rfl h
            · rw [sa_none hc e1 e3 e4 e5 e6]
  · rw [sa_err hc]
/-- Numbers that rise by one, or stay, up to the last. -/
structure Rises (l : List Int) (y : Int) : Prop where
  st : ∀ i a b, l[i]? = some a → l[i + 1]? = some b → a ≤ b ∧ b ≤ a + 1
  last : ∀ a, l[l.length - 1]? = some a → a = y
  bnd : ∀ a ∈ l, 0 ≤ a ∧ a ≤ y
theorem Rises.push {l : List Int} {y z : Int} (h : Rises l y) (hz : z = y ∨ z = y + 1) (h0 : 0 ≤ z) : Rises (l ++ [z]) z where
  st i a b ha hb := by
    by_cases hi : i + 1 < l.length
    · rw [List.getElem?_append_left (by omega)] at ha
      rw [List.getElem?_append_left hi] at hb
      exact h.st i a b ha hb
    · have hlt := (List.getElem?_eq_some_iff.1 hb).1
      rw [List.length_append, List.length_singleton] at hlt
      have e : i + 1 = l.length := by omega
      rw [List.getElem?_append_right (by omega), e, Nat.sub_self] at hb
      rw [List.getElem?_append_left (by omega)] at ha
      have : i = l.length - 1 := by omega
      rw [this] at ha
      have := h.last a ha
      simp only [List.getElem?_cons_zero, Option.some.injEq] at hb
      omega
  last a ha := by
    rw [List.length_append, List.length_singleton, Nat.add_sub_cancel, List.getElem?_append_right (Nat.le_refl _), Nat.sub_self] at ha
    simp only [List.getElem?_cons_zero, Option.some.injEq] at ha
    exact ha.symm
  bnd a ha := by
    rcases List.mem_append.1 ha with ha | ha
    · have := h.bnd a ha; omega
    · simp only [List.mem_singleton] at ha; omega
theorem Rises.nil {y : Int} : Rises [] y := ⟨fun i a b h => by simp at h, fun a h => by simp at h, by simp⟩
abbrev IVec := Vec 1 encI1 3
theorem encI1_len (x : Int) : (encI1 x).length = 1 := rfl
theorem encI1_flat (x : Int) : (encI1 x).all flat = true := rfl
section
variable {N : Nat} {σ : Hp} {p tp m bm : Nat}
theorem IDs2_up {sl : Sl} {l : List Int} {y : Int} {Q : Unit ⊕ Bool → Hp → Prop} [Up Q] (hN : l.length < N) (hl : l.length ≤ 1000) (hy : y ≤ 1000000) (hrow : IntsAt σ sl l) (hr : Rises l y) (h : Q (.inl ()) σ) : (M.loop N (law15_FoldIDs_L2 N sl) 1).run Q σ := by
  have hlen := hrow.len
  refine loop_cnt (l.length - 1) (fun j st τ => st = ((j + 1 : Nat) : Int) ∧ τ = σ) _ _ ?_ ?_ N 1 σ ⟨rfl, rfl⟩ (by omega)
  · rintro j _ τ hj ⟨rfl, rfl⟩
    unfold law15_FoldIDs_L2
    have ha : l[j]? = some l[j] := List.getElem?_eq_getElem (by omega)
    have hb : l[j + 1]? = some l[j + 1] := List.getElem?_eq_getElem (by omega)
    obtain ⟨h1, h2⟩ := hr.st j _ _ ha hb
    have h3 := hr.bnd l[j] (List.getElem_mem _)
    have h4 := hr.bnd l[j + 1] (List.getElem_mem _)
    have hw : wi (((j + 1 : Nat) : Int) - 1) = (j : Int) := by rw [wi_id (by omega) (by omega)]; omega
    have hw2 : wi (((j + 1 : Nat) : Int) + 1) = ((j + 1 + 1 : Nat) : Int) := by rw [wi_id (by omega) (by omega)]; omega
    have hw3 : wi (l[j] + 1) = l[j] + 1 := wi_id (by omega) (by omega)
    refine cnd_dec (fun _ => ?_) (fun hc => absurd (show ((j + 1 : Nat) : Int) < (sl.len : Int) by omega) hc)
    refine bind_go (M.mono _ (fun v ρ => v = false ∧ ρ = τ) _ _ (fun v ρ hv => ?_) ?_)
    rotate_left
    · refine RowAt_nat hrow hb rfl (r := l[j + 1]) rfl ?_
      dsimp only [vl]
      rw [hw]
      refine RowAt_nat hrow ha rfl (r := l[j]) rfl ?_
      refine cnd_dec (fun c => absurd c (by omega)) (fun _ => ?_)
      refine RowAt_nat hrow hb rfl (r := l[j + 1]) rfl ?_
      refine RowAt_nat hrow ha rfl (r := l[j]) rfl ?_
      rw [hw3]
      refine ⟨?_, rfl⟩
      exact decide_eq_false (by omega)
    obtain ⟨rfl, rfl⟩ := hv
    refine cnd_go (fun e => by cases e) (fun _ => ?_)
    dsimp only [vl]
    rw [hw2, pure_run]
    exact LP.go ⟨rfl, rfl⟩
  · rintro _ τ ⟨rfl, rfl⟩
    unfold law15_FoldIDs_L2
    refine cnd_dec (fun hc => absurd (show ((l.length - 1 + 1 : Nat) : Int) < (sl.len : Int) from hc) ?_) (fun _ => h)
    omega
theorem FoldIDs_run {s : Sl} {ds : List Deed} (hN : 100000 < N) (hg : Gl σ) (hs : DeedsAt σ s ds) : (law15_FoldIDs N s).run (fun r _ => r = true) σ := by
  unfold law15_FoldIDs
  refine bind_go (awake_up (by omega) hg ?_)
  refine cnd_not (fun e => by cases e) (fun _ => ?_)
  refine bind_go (Small_up (most := 80) (by omega) (by omega) hs ?_ (fun hl hd => ?_))
  · exact cnd_go (fun _ => rfl) (fun e => by cases e)
  refine cnd_not (fun e => by cases e) (fun _ => ?_)
  refine bind_go (NewS (K := 1) hg (by omega) fun p tp m bm τ0 hl0 hp htp hm hbm hs0 => ?_)
  have hGs : DeedsAt (Hp.out [tp, m, bm] τ0) s ds := hs.le fun k x hx => by
    refine out_at (fun e => ?_) (hl0 k x hx)
    simp only [List.mem_cons, List.not_mem_nil, or_false] at e
    rcases e with rfl | rfl | rfl
    · rw [htp] at hx; cases hx
    · rw [hm] at hx; cases hx
    · rw [hbm] at hx; cases hx
  refine bind_go ?_
  refine loop_cnt (S := Sl × Int) ds.length (fun i st τ => st.2 = (i : Int) ∧ ∃ F ρ S seen, Hp.Dj F ρ ∧ τ = F.join ρ ∧ IVec Hp0 ρ st.1 seen ∧ Hp.Le (Hp.out [tp, m, bm] τ0) F ∧ Gl F ∧ StateAt F p tp m bm S ∧ Inv (61 * i) S ∧ Full S ∧ Rises seen S.tr.next ∧ seen.length ≤ i) _ _ ?_ ?_ N (⟨none, 0, 0⟩, 0) τ0
    ⟨rfl, τ0, Hp0, _, [], fun b => .inr rfl, by funext b; unfold Hp.join; cases τ0 b <;> rfl, Vec.nil none, out_le, hs0.gl, hs0.st, Inv.nil, Full.nil, Rises.nil, Nat.le_refl _⟩ (by omega)
  · rintro i ⟨sl, _⟩ _ hi ⟨rfl, F, ρ, S, seen, hd0, rfl, v0, g1, g2, g3, g4, g5, g6, g7⟩
    unfold law15_FoldIDs_L1
    have hds := hGs.le g1
    have hlen := hds.len
    have hx : ds[i]? = some ds[i] := List.getElem?_eq_getElem hi
    obtain ⟨b, o, ha, hlt, hel⟩ := hds.el hx
    have hok := hd ds[i] (List.getElem_mem hi)
    have h60 := hok.2.2.2
    have hps := hds.parts ds[i] (List.getElem_mem hi)
    have hw : wi ((i : Int) + 1) = ((i + 1 : Nat) : Int) := by rw [wi_id (by omega) (by omega)]; omega
    refine cnd_dec (fun _ => ?_) (fun hc => absurd (show (i : Int) < (s.len : Int) by omega) hc)
    refine bind_go ?_
    refine fr_go hd0 (Copy_up g3 fun p2 tp2 m2 bm2 F1 l1 n1 n2 n3 n4 st2 hd1 => ?_)
    have hel1 := hel.le l1
    refine ixA_go ha hlt ?_
    simp only [add_at]
    refine ld_el (j := 0) (r := ds[i].1) (hel1.le (Hp.le_join _ _)) (by simp [encDd_len]) rfl ?_
    refine ixA_go ha hlt ?_
    simp only [add_at]
    refine ld_el (j := 6) (r := ds[i].2.1) (hel1.le (Hp.le_join _ _)) (by simp [encDd_len]) rfl ?_
    refine fr_go hd1 (Parts_up (by omega) (by omega) (hps.le l1) fun sl2 F2 k1 k2 hd2 => ?_)
    refine again_go (((hel1.le k1).le (Hp.le_join _ _)).rd 0 (by simp [encDd_len]) rfl) ?_
    have g3' := (g3.le l1).le k1
    refine fr_go hd2 (Apply_up (K := 61 * i + 62) (e := ds[i].1) (by omega) ((g2.le l1).le k1) g3' (StOk.up g4.ok (by omega)) (by omega) (by omega) k2 (by omega) fun l F3 q1 q2 q3 hd3 => ?_)
    have inv3 := g4.apply (by omega) h60 q1 (e := ds[i].1)
    obtain ⟨full3, step3⟩ := step g4 g5 (by omega) q1 (e := ds[i].1) (ps := ds[i].2.2)
    have gl3 := ((g2.le l1).le k1).keep q2 hs0.z
    have out3 := out_keep ((g1.trans l1).trans k1) q2
    have e61 : 61 * (i + 1) = 61 * i + 61 := by omega
    have hdom := g3.dom
    have fr : ∀ k, F k = none → k ∉ [tp, m, bm] := fun k hk hm => by
      obtain ⟨y, hy⟩ := hdom k hm
      rw [hk] at hy; cases hy
    have st2 := StateAt.keep (st2.le k1) g3' q2 (fr _ n1) (fr _ n2) (fr _ n3) (fr _ n4)
    refine cnd_ne (fun he => ?_) (fun he => ?_)
    · -- refused: nothing is changed
      have hsame := sa_same he
      rw [hsame] at q3 inv3 full3
      rw [pure_run]
      dsimp only [vl]
      show (M.pure (inlS (sl, wi ((i : Int) + 1)))).run _ _
      rw [hw, pure_run]
      exact LP.go ⟨rfl, F3, ρ, S, seen, hd3, rfl, v0, out3, gl3, q3, by rw [e61]; exact inv3, full3, g6, by omega⟩
    · refine fr_go hd3 (Tree_up q3 fun tp3 m3 F4 u1 _ _ u2 hd4 => ?_)
      refine fr_go hd4 (Nodes_up (by omega) u2 inv3.wf.tree inv3.wf.key fun r17 F5 w1 w2 hd5 => ?_)
      have out5 := (out3.trans u1).trans w1
      obtain ⟨b', o', ha', hlt', hel'⟩ := (hGs.le out5).el hx
      refine fr_go hd5 (IDs0_up (L := 61 * i) (d := ds[i]) (by omega) (by omega) ((st2.le u1).le w1) ((q3.le u1).le w1) g4 inv3 g5 full3 step3 ha' hlt' hel' w2 fun hd6 => ?_)
      refine fr_go hd5 (Tree_up ((q3.le u1).le w1) fun tp4 m4 F6 x1 _ _ x2 hd6 => ?_)
      refine bind_go (Next_up (x2.le (Hp.le_join _ _)) ?_)
      intro b64 h64
      obtain ⟨f64, r64⟩ := Hp.join_none h64
      rw [← Hp.join_set]
      have hd7 := hd6.set r64 (x := (true, ob [.int .i64 (sapply S ds[i].1 ds[i].2.2 l).2.tr.next] 3))
      have v7 := vec_in v0 hd7
      refine bind_go (app_one (x := (sapply S ds[i].1 ds[i].2.2 l).2.tr.next) v7 (Hp.le_join _ _) encI1_len encI1_flat (by omega) rfl (bx := b64) (fl := true) (T := 3) (Hp.le_join _ _ _ _ set_same) (by omega) (by omega) fun s' τ' y1 y2 => ?_)
      obtain ⟨ρ', hd8, rfl⟩ := split_heap y1
      rw [pure_run]
      dsimp only [vl]
      show (M.pure (inlS (s', wi ((i : Int) + 1)))).run _ _
      rw [hw, pure_run]
      have lf := (u1.trans w1).trans (x1.trans (le_set f64 (x := (true, ob [.int .i64 (sapply S ds[i].1 ds[i].2.2 l).2.tr.next] 3))))
      refine LP.go ⟨rfl, _, ρ', _, seen ++ [(sapply S ds[i].1 ds[i].2.2 l).2.tr.next], hd8, rfl, vec_out y2, out3.trans lf, gl3.le lf, q3.le lf, by rw [e61]; exact inv3, full3, g6.push step3.next (by have := inv3.lo; omega), by rw [List.length_append, List.length_singleton]; omega⟩
  · rintro ⟨sl, _⟩ _ ⟨rfl, F, ρ, S, seen, hd0, rfl, v0, g1, g2, g3, g4, g5, g6, g7⟩
    unfold law15_FoldIDs_L1
    have hlen := (hGs.le g1).len
    refine cnd_dec (fun hc => absurd (show ((ds.length : Nat) : Int) < (s.len : Int) from hc) (by omega)) (fun _ => ?_)
    rw [pure_run]
    have row := (vec_in v0 hd0).row encI1_len
    refine bind_go (IDs2_up (y := S.tr.next) (by omega) (by omega) (by have := g4.hi; omega) row g6 ?_)
    exact rfl
end
end Go.Wz
