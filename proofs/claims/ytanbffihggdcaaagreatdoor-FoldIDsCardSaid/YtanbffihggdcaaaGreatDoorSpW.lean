/- Bodies: writing. -/
import Derived.Test.YtanbffihggdcaaaGreatDoorSpB
import Derived.Test.YtanbffihggdcaaaGreatDoorSpS
set_option linter.unusedVariables false
set_option linter.unusedSimpArgs false
namespace Go.Wz
open Go.Proofs Go.Eng
section
variable {N : Nat} {σ : Hp}
theorem WL0 {x : (Int × Sl) × Int × Sl} {ps : List Prt} {Q : Int → Hp → Prop} [Up Q] (hs : PartsAt σ x.2.2 ps) (hN : ps.length < N) (hlen : ps.length < 1000000000) (h : Q (longs 0 ps) σ) : (M.loop N (body_Write_L0 N x) (0, 0)).run Q σ := by
  have hlen' := hs.len
  refine loop_cnt (S := Int × Int) ps.length (fun i st ρ => st.2 = (i : Int) ∧ ρ = σ ∧ longs 0 ps = longs st.1 (ps.drop i)) _ _ ?_ ?_ N (0, 0) σ ⟨rfl, rfl, rfl⟩ hN
  · rintro i ⟨a, _⟩ ρ hi ⟨rfl, rfl, h3⟩
    unfold body_Write_L0
    have hd : ps.drop i = ps[i] :: ps.drop (i + 1) := List.drop_eq_getElem_cons hi
    refine cnd_dec (fun _ => ?_) (fun hc => absurd (by show (i : Int) < (x.2.2.len : Int); omega) hc)
    refine RowAt_nat hs (List.getElem?_eq_getElem hi) rfl (by simp [encP, cso, Tp.ofs, Ce.of]; rfl) ?_
    refine new_st rfl fun b h1 => ?_
    refine ld_go set_same rfl ?_
    have hw : wi ((i : Int) + 1) = ((i + 1 : Nat) : Int) := by rw [wi_id (by omega) (by omega)]; omega
    rw [hd] at h3
    dsimp only [vl]
    rw [hw, pure_run]
    exact LP.drop (le_set h1) ⟨rfl, rfl, h3⟩
  · rintro ⟨a, _⟩ ρ ⟨rfl, rfl, h3⟩
    unfold body_Write_L0
    refine cnd_dec (fun hc => absurd (show ((ps.length : Nat) : Int) < (x.2.2.len : Int) from hc) (by omega)) (fun _ => ?_)
    rw [List.drop_length] at h3
    have h3 : longs 0 ps = a := h3
    rw [h3] at h
    exact h
theorem WL1 {x : (Int × Sl) × Int × Sl} {s : Sl} {ps xs0 : List Prt} {size : Int} {sl0 : Sl} {ρ τ0 : Hp} {b24 : Nat} {Q : Unit → Hp → Prop} [Up Q] (hs : PartsAt ρ s ps) (hN : ps.length < N) (hlen : ps.length < 1000000000) (hx0 : xs0.length < 4000000000)
    (h24 : ρ b24 = none) (hl0 : Hp.Le ρ τ0) (hb0 : τ0 b24 = some (true, ob [.int .i64 size, .slice sl0.a sl0.len sl0.cap] 47)) (hv0 : PVec (ρ.set b24 (true, ob [] 0)) τ0 sl0 xs0)
    (h : ∀ τ sl, Hp.Le ρ τ → τ b24 = some (true, ob [.int .i64 size, .slice sl.a sl.len sl.cap] 47) → PVec (ρ.set b24 (true, ob [] 0)) τ sl (xs0 ++ sel (fun p => pahead p x.2.1) ps) → Q () τ) : (M.loop N (body_Write_L1 N x b24 s) 0).run Q τ0 := by
  have hlen' := hs.len
  refine loop_cnt ps.length (fun i st τ => st = (i : Int) ∧ Hp.Le ρ τ ∧ ∃ sl, τ b24 = some (true, ob [.int .i64 size, .slice sl.a sl.len sl.cap] 47) ∧ PVec (ρ.set b24 (true, ob [] 0)) τ sl (xs0 ++ sel (fun p => pahead p x.2.1) (ps.take i))) _ _ ?_ ?_ N 0 _
    ⟨rfl, hl0, sl0, hb0, by simpa [sel] using hv0⟩ hN
  · rintro i _ τ hi ⟨rfl, g1, sl, g2, g3⟩
    unfold body_Write_L1
    refine cnd_dec (fun _ => ?_) (fun hc => absurd (by omega) hc)
    refine bind_go ?_
    refine RowAt_nat (hs.le g1) (List.getElem?_eq_getElem hi) rfl (by simp [encP, cso, Tp.ofs, Ce.of]; rfl) ?_
    refine new_st rfl fun b17 h17 => ?_
    refine ld_g0 set_same rfl ?_
    refine bind_go (ahead_up ?_)
    refine new_st rfl fun b20 h20 => ?_
    obtain ⟨m1, m2, h20⟩ := set_none.1 h20
    have m3 : b24 ≠ b17 := fun e => by subst e; rw [g2] at h17; cases h17
    have m4 : b24 ≠ b20 := fun e => by subst e; rw [g2] at h20; cases h20
    have hw : wi ((i : Int) + 1) = ((i + 1 : Nat) : Int) := by rw [wi_id (by omega) (by omega)]; omega
    have gl : ∀ y z, Hp.Le τ ((τ.set b17 y).set b20 z) := fun y z => le_sets (le_sets (Hp.Le.refl _) h17) h20
    have hsucc := sel_succ (fun p => pahead p x.2.1) ps i hi
    refine cnd_go (fun hf => ?_) (fun hf => ?_)
    · rw [if_pos hf] at hsucc
      refine ld_go (by rw [set_ne m4, set_ne m3]; exact g2) rfl ?_
      refine ld_g0 set_same rfl ?_
      intro b23 h23
      have m5 : b24 ≠ b23 := fun e => by subst e; rw [set_ne m4, set_ne m3, g2] at h23; cases h23
      have hle23 := fun y z x => le_sets (x := x) (gl y z) (by
        have := set_none.1 h23
        have := set_none.1 this.2.2
        exact this.2.2)
      have := sel_len (fun p => pahead p x.2.1) (ps.take i)
      have h4 : (ps.take i).length ≤ ps.length := by simp; omega
      refine grow (σ := ρ) (b := b24) (pre := [.int .i64 size]) (suf := []) (T := 47) (x := (pahead ps[i] x.2.1).1) encP_len encP_flat (by omega) rfl (by rw [List.length_append]; omega) (by rw [List.length_append]; omega) h24 (g1.trans (hle23 _ _ _)) (by rw [set_ne m5, set_ne m4, set_ne m3]; exact g2) rfl
        (Vec.le g3 (hle23 _ _ _)) (bx := b23) set_same fun τ' sl' k1 k2 k3 => ?_
      dsimp only [vl]
      rw [hw, pure_run, pure_run]
      exact LP.go ⟨rfl, k1, sl', k2, by rw [hsucc, ← List.append_assoc]; exact k3⟩
    · rw [if_neg (by rw [hf]; decide), List.append_nil] at hsucc
      dsimp only [vl]
      rw [hw, pure_run, pure_run]
      exact LP.drop (gl _ _) ⟨rfl, g1, sl, g2, by rw [hsucc]; exact g3⟩
  · rintro _ τ ⟨rfl, g1, sl, g2, g3⟩
    unfold body_Write_L1
    refine cnd_dec (fun hc => absurd hc (by omega)) (fun _ => ?_)
    rw [List.take_length] at g3
    exact h τ sl g1 g2 g3
theorem WL3 {at_ : Int} {s : Sl} {ps xs0 : List Prt} {size : Int} {sl0 : Sl} {ρ τ0 : Hp} {b24 : Nat} {Q : Unit → Hp → Prop} [Up Q] (hs : PartsAt ρ s ps) (hN : ps.length < N) (hlen : ps.length < 1000000000) (hx0 : xs0.length < 4000000000)
    (h24 : ρ b24 = none) (hl0 : Hp.Le ρ τ0) (hb0 : τ0 b24 = some (true, ob [.int .i64 size, .slice sl0.a sl0.len sl0.cap] 47)) (hv0 : PVec (ρ.set b24 (true, ob [] 0)) τ0 sl0 xs0)
    (h : ∀ τ sl, Hp.Le ρ τ → τ b24 = some (true, ob [.int .i64 size, .slice sl.a sl.len sl.cap] 47) → PVec (ρ.set b24 (true, ob [] 0)) τ sl (xs0 ++ sel (fun p => pbehind p at_) ps) → Q () τ) : (M.loop N (body_Write_L3 N b24 at_ s) 0).run Q τ0 := by
  have hlen' := hs.len
  refine loop_cnt ps.length (fun i st τ => st = (i : Int) ∧ Hp.Le ρ τ ∧ ∃ sl, τ b24 = some (true, ob [.int .i64 size, .slice sl.a sl.len sl.cap] 47) ∧ PVec (ρ.set b24 (true, ob [] 0)) τ sl (xs0 ++ sel (fun p => pbehind p at_) (ps.take i))) _ _ ?_ ?_ N 0 _
    ⟨rfl, hl0, sl0, hb0, by simpa [sel] using hv0⟩ hN
  · rintro i _ τ hi ⟨rfl, g1, sl, g2, g3⟩
    unfold body_Write_L3
    refine cnd_dec (fun _ => ?_) (fun hc => absurd (by omega) hc)
    refine bind_go ?_
    refine RowAt_nat (hs.le g1) (List.getElem?_eq_getElem hi) rfl (by simp [encP, cso, Tp.ofs, Ce.of]; rfl) ?_
    refine new_st rfl fun b17 h17 => ?_
    refine ld_g0 set_same rfl ?_
    refine bind_go (behind_up ?_)
    refine new_st rfl fun b20 h20 => ?_
    obtain ⟨m1, m2, h20⟩ := set_none.1 h20
    have m3 : b24 ≠ b17 := fun e => by subst e; rw [g2] at h17; cases h17
    have m4 : b24 ≠ b20 := fun e => by subst e; rw [g2] at h20; cases h20
    have hw : wi ((i : Int) + 1) = ((i + 1 : Nat) : Int) := by rw [wi_id (by omega) (by omega)]; omega
    have gl : ∀ y z, Hp.Le τ ((τ.set b17 y).set b20 z) := fun y z => le_sets (le_sets (Hp.Le.refl _) h17) h20
    have hsucc := sel_succ (fun p => pbehind p at_) ps i hi
    refine cnd_go (fun hf => ?_) (fun hf => ?_)
    · rw [if_pos hf] at hsucc
      refine ld_go (by rw [set_ne m4, set_ne m3]; exact g2) rfl ?_
      refine ld_g0 set_same rfl ?_
      intro b23 h23
      have m5 : b24 ≠ b23 := fun e => by subst e; rw [set_ne m4, set_ne m3, g2] at h23; cases h23
      have hle23 := fun y z x => le_sets (x := x) (gl y z) (by
        have := set_none.1 h23
        have := set_none.1 this.2.2
        exact this.2.2)
      have := sel_len (fun p => pbehind p at_) (ps.take i)
      have h4 : (ps.take i).length ≤ ps.length := by simp; omega
      refine grow (σ := ρ) (b := b24) (pre := [.int .i64 size]) (suf := []) (T := 47) (x := (pbehind ps[i] at_).1) encP_len encP_flat (by omega) rfl (by rw [List.length_append]; omega) (by rw [List.length_append]; omega) h24 (g1.trans (hle23 _ _ _)) (by rw [set_ne m5, set_ne m4, set_ne m3]; exact g2) rfl
        (Vec.le g3 (hle23 _ _ _)) (bx := b23) set_same fun τ' sl' k1 k2 k3 => ?_
      dsimp only [vl]
      rw [hw, pure_run, pure_run]
      exact LP.go ⟨rfl, k1, sl', k2, by rw [hsucc, ← List.append_assoc]; exact k3⟩
    · rw [if_neg (by rw [hf]; decide), List.append_nil] at hsucc
      dsimp only [vl]
      rw [hw, pure_run, pure_run]
      exact LP.drop (gl _ _) ⟨rfl, g1, sl, g2, by rw [hsucc]; exact g3⟩
  · rintro _ τ ⟨rfl, g1, sl, g2, g3⟩
    unfold body_Write_L3
    refine cnd_dec (fun hc => absurd hc (by omega)) (fun _ => ?_)
    rw [List.take_length] at g3
    exact h τ sl g1 g2 g3
theorem WL2 {x : (Int × Sl) × Int × Sl} {ps xs0 : List Prt} {size off : Int} {sl0 : Sl} {ρ τ0 : Hp} {b24 : Nat} {Q : Int → Hp → Prop} [Up Q] (hs : PartsAt ρ x.2.2 ps) (hN : ps.length < N) (hlen : ps.length < 1000000000) (hx0 : xs0.length < 2000000000)
    (h24 : ρ b24 = none) (hl0 : Hp.Le ρ τ0) (hb0 : τ0 b24 = some (true, ob [.int .i64 size, .slice sl0.a sl0.len sl0.cap] 47)) (hv0 : PVec (ρ.set b24 (true, ob [] 0)) τ0 sl0 xs0)
    (h : ∀ τ sl, Hp.Le ρ τ → τ b24 = some (true, ob [.int .i64 size, .slice sl.a sl.len sl.cap] 47) → PVec (ρ.set b24 (true, ob [] 0)) τ sl (xs0 ++ place off ps) → Q (placeEnd off ps) τ) : (M.loop N (body_Write_L2 N x b24) (off, 0)).run Q τ0 := by
  have hlen' := hs.len
  refine loop_cnt (S := Int × Int) ps.length (fun i st τ => st.2 = (i : Int) ∧ Hp.Le ρ τ ∧ placeEnd off ps = placeEnd st.1 (ps.drop i) ∧ ∃ done sl, place off ps = done ++ place st.1 (ps.drop i) ∧ done.length = i ∧
      τ b24 = some (true, ob [.int .i64 size, .slice sl.a sl.len sl.cap] 47) ∧ PVec (ρ.set b24 (true, ob [] 0)) τ sl (xs0 ++ done)) _ _ ?_ ?_ N (off, 0) _
    ⟨rfl, hl0, rfl, [], sl0, rfl, rfl, hb0, by simpa using hv0⟩ hN
  · rintro i ⟨a, _⟩ τ hi ⟨rfl, g1, g4, done, sl, g5, g6, g2, g3⟩
    unfold body_Write_L2
    have hd : ps.drop i = ps[i] :: ps.drop (i + 1) := List.drop_eq_getElem_cons hi
    rw [hd] at g4 g5
    refine cnd_dec (fun _ => ?_) (fun hc => absurd (by show (i : Int) < (x.2.2.len : Int); omega) hc)
    refine RowAt_nat (hs.le g1) (List.getElem?_eq_getElem hi) rfl (by simp [encP, cso, Tp.ofs, Ce.of]; rfl) ?_
    refine new_st rfl fun b17 h17 => ?_
    have m3 : b24 ≠ b17 := fun e => by subst e; rw [g2] at h17; cases h17
    refine st_go set_same (by simp) ?_
    rw [set_set]
    refine ld_g0 set_same rfl ?_
    refine bind_go (end_up ?_)
    refine ld_go (by rw [set_ne m3]; exact g2) rfl ?_
    refine ld_g0 set_same rfl ?_
    intro b23 h23
    have m5 : b24 ≠ b23 := fun e => by subst e; rw [set_ne m3, g2] at h23; cases h23
    have hle23 := fun y x => le_sets (x := x) (le_set (x := y) h17) (set_none.1 h23).2.2
    have hw : wi ((i : Int) + 1) = ((i + 1 : Nat) : Int) := by rw [wi_id (by omega) (by omega)]; omega
    refine grow (σ := ρ) (b := b24) (pre := [.int .i64 size]) (suf := []) (T := 47) (x := (a, ps[i].2)) encP_len encP_flat (by omega) rfl (by rw [List.length_append]; omega) (by rw [List.length_append]; omega) h24 (g1.trans (hle23 _ _)) (by rw [set_ne m5, set_ne m3]; exact g2) rfl
      (Vec.le g3 (hle23 _ _)) (bx := b23) set_same fun τ' sl' k1 k2 k3 => ?_
    dsimp only [vl]
    rw [hw, pure_run]
    refine LP.go ⟨rfl, k1, g4, done ++ [(a, ps[i].2)], sl', ?_, by simp [g6], k2, by rw [← List.append_assoc]; exact k3⟩
    rw [g5, List.append_assoc]; rfl
  · rintro ⟨a, _⟩ τ ⟨rfl, g1, g4, done, sl, g5, g6, g2, g3⟩
    unfold body_Write_L2
    refine cnd_dec (fun hc => absurd (show ((ps.length : Nat) : Int) < (x.2.2.len : Int) from hc) (by omega)) (fun _ => ?_)
    rw [List.drop_length] at g4 g5
    have g4 : placeEnd off ps = a := g4
    have g5 : place off ps = done := by simpa [place] using g5
    have := h τ sl g1 g2 (by rw [g5]; exact g3)
    rw [g4] at this
    exact this
theorem CloneP_up {s : Sl} {ps : List Prt} {Q : Sl → Hp → Prop} [Up Q] (hs : PartsAt σ s ps) (hlen : ps.length < 1000000000) (h : ∀ sl τ, Hp.Le σ τ → PartsAt τ sl ps → PVec σ τ sl ps → Q sl τ) : (slices_Clone_body_Part_body_Part N s).run Q σ := by
  unfold slices_Clone_body_Part_body_Part
  refine cnd_go (fun e => ?_) (fun e => ?_)
  · have hn : s.a = none := by cases ha : s.a with
      | none => rfl
      | some x => rw [ha] at e; cases e
    have h0 : ps = [] := by
      rcases hs.at_ with h | ⟨b, o, fl, arr, T, fz, h1, _⟩
      · exact h
      · rw [hn] at h1; cases h1
    subst h0
    exact h _ _ (Hp.Le.refl _) (RowAt.nil none) (Vec.nil none)
  · intro b2 h2
    refine bind_go ?_
    refine app_all (hs.le (le_set h2)) encP_len encP_flat (by omega) rfl (by omega) (by omega) fun s' τ g1 g2 => ?_
    refine h s' τ ((le_set h2).trans g1) (g2.row encP_len) ?_
    refine ⟨g2.len, g2.cap, ?_⟩
    rcases g2.at_ with k | ⟨b, vs, k1, k2, k3⟩
    · exact .inl k
    · exact .inr ⟨b, vs, k1, (set_none.1 k2).2.2, k3⟩
theorem place_len : ∀ (a : Int) (ps : List Prt), (place a ps).length = ps.length
  | _, [] => rfl
  | a, p :: ps => by simp [place, place_len _ ps]
theorem Write_up {Q : (Int × Sl) × Int → Hp → Prop} [Up Q] {size off : Int} {s sl : Sl} {ps ls : List Prt} (hs : PartsAt σ s ps) (hsl : PartsAt σ sl ls) (hN : ps.length < N) (hN2 : ls.length < N) (hlen : ps.length < 1000000000) (hlen2 : ls.length < 1000000000)
    (h : ∀ s' τ, Hp.Le σ τ → PartsAt τ s' (bwrite (size, ps) off ls).1.2 → Q (((bwrite (size, ps) off ls).1.1, s'), (bwrite (size, ps) off ls).2) τ) : (body_Write N ((size, s), off, sl)).run Q σ := by
  unfold body_Write
  intro b1 h1 b2 h2
  obtain ⟨n1, n2, h2⟩ := set_none.1 h2
  have hl : Hp.Le σ ((σ.set b1 (true, ob [.int .i64 size, .slice s.a s.len s.cap] 47)).set b2 (true, ob [.int .i64 0, .slice none 0 0] 47)) := le_sets (le_sets (Hp.Le.refl _) h1) h2
  have e1 : ((σ.set b1 (true, ob [.int .i64 size, .slice s.a s.len s.cap] 47)).set b2 (true, ob [.int .i64 0, .slice none 0 0] 47)) b1 = some (true, ob [.int .i64 size, .slice s.a s.len s.cap] 47) := by rw [set_ne n2]; exact set_same
  have e2 : ((σ.set b1 (true, ob [.int .i64 size, .slice s.a s.len s.cap] 47)).set b2 (true, ob [.int .i64 0, .slice none 0 0] 47)) b2 = some (true, ob [.int .i64 0, .slice none 0 0] 47) := set_same
  revert hl e1 e2
  generalize ((σ.set b1 (true, ob [.int .i64 size, .slice s.a s.len s.cap] 47)).set b2 (true, ob [.int .i64 0, .slice none 0 0] 47)) = ρ
  intro hl e1 e2
  have hs' := hs.le hl
  have hsl' := hsl.le hl
  have out : ∀ er : Int, Q ((0, ⟨none, 0, 0⟩), er) ρ → (st ⟨b2, 0, none⟩ [.int .i64 0, .slice none 0 0] <| ld [.int .i64, .slice] ⟨b2, 0, none⟩ fun (r10 : Int × Sl) => M.pure ((r10.1, r10.2), er)).run Q ρ := fun er ho => by
    refine st_g0 e2 (by simp) (ld_g0 set_same rfl ?_)
    rw [pure_run]
    have : ρ.set b2 (true, ob [.int .i64 0, .slice none 0 0] 47) = ρ := by
      funext k
      unfold Hp.set
      split
      · rename_i e; subst e; exact e2.symm
      · rfl
    show Q _ (ρ.set b2 (true, ob [.int .i64 0, .slice none 0 0] 47))
    rw [this]
    exact ho
  refine bind_go (ld_g0 e1 rfl ?_)
  refine bind_go (May_up hs' hN (by omega) ?_)
  unfold bwrite at h
  have bad : (bmay (size, ps) = false ∨ (ls.any fun p => !fits p) = true) → Q ((0, ⟨none, 0, 0⟩), 1) ρ := fun hb => by
    rw [if_pos hb] at h
    exact h _ _ hl (RowAt.nil none)
  refine cnd_not (fun hm => ?_) (fun hm => ?_)
  · exact out 1 (bad (.inl hm))
  · refine bind_go (ContainsP_up hsl' hN2 (by omega) ?_)
    rw [pure_run]
    refine cnd_go (fun hf => ?_) (fun hf => ?_)
    · exact out 1 (bad (.inr hf))
    · rw [if_neg (fun e => e.elim (fun e => by rw [hm] at e; cases e) (fun e => by rw [hf] at e; cases e))] at h
      refine bind_go (WL0 hsl' hN2 hlen2 ?_)
      refine or_go (cnd_go (fun hc => ?_) (fun hc => ?_))
      · have hc : off < 0 ∨ off > wi (1099511627776 - longs 0 ls) := by simpa using hc
        rw [if_pos hc] at h
        exact out 9 (h _ _ hl (RowAt.nil none))
      · have hc : ¬ (off < 0 ∨ off > wi (1099511627776 - longs 0 ls)) := by simpa using hc
        rw [if_neg hc] at h
        refine ld_go e1 rfl ?_
        refine new_st rfl fun b24 h24 => ?_
        have n24 : b1 ≠ b24 := fun e => by subst e; rw [e1] at h24; cases h24
        have n242 : b2 ≠ b24 := fun e => by subst e; rw [e2] at h24; cases h24
        have σ24 : σ b24 = none := by
          cases e : σ b24 with
          | none => rfl
          | some y => rw [hl _ _ e] at h24; cases h24
        refine ld_go (by rw [set_ne n24]; exact e1) rfl ?_
        refine bind_go (WL1 (sl0 := ⟨none, 0, 0⟩) (xs0 := []) (ρ := ρ) hs' hN hlen (by simp) h24 (le_set h24) set_same (Vec.nil none) fun τ1 sl1 a1 a2 a3 => ?_)
        have sl1' := sel_len (fun p => pahead p off) ps
        refine bind_go (WL2 (off := off) (ρ := ρ) hsl' hN2 hlen2 (by simp only [List.nil_append]; omega) h24 a1 a2 a3 fun τ2 sl2 c1 c2 c3 => ?_)
        refine ld_go (c1 _ _ e1) rfl ?_
        refine bind_go (WL3 (ρ := ρ) hs' hN hlen (by simp only [List.nil_append, List.length_append, place_len]; omega) h24 c1 c2 c3 fun τ3 sl3 d1 d2 d3 => ?_)
        refine cnd_eq (fun h0 => ?_) (fun h0 => ?_)
        · have h0 : ls = [] := List.eq_nil_of_length_eq_zero (by have := hsl.len; have h0 : ((sl.len : Nat) : Int) = 0 := h0; omega)
          rw [if_pos h0] at h
          refine ld_go (d1 _ _ e1) rfl ?_
          refine bind_go (CloneP_up (hs'.le d1) hlen fun sl4 τ4 f1 f2 f3 => ?_)
          have g24 := f1 _ _ d2
          refine st_go g24 (by simp) ?_
          refine ld_g0 set_same rfl ?_
          refine st_g0 (by rw [set_ne n242]; exact f1 _ _ (d1 _ _ e2)) (by simp) ?_
          refine ld_g0 set_same rfl ?_
          rw [pure_run]
          refine h sl4 _ (le_sets (le_sets (hl.trans (d1.trans f1)) σ24) h2) ?_
          have := (f3.setn (true, ob [.int .i64 size, .slice sl4.a sl4.len sl4.cap] 47) d2).setn (k := b2) (true, ob [.int .i64 size, .slice sl4.a sl4.len sl4.cap] 47) (d1 _ _ e2)
          exact this.row encP_len
        · have h0 : ¬ ls = [] := fun e => h0 (by have := hsl.len; subst e; show ((sl.len : Nat) : Int) = 0; simp at this; omega)
          rw [if_neg h0] at h
          refine ld_go d2 rfl ?_
          refine st_go d2 (by simp) ?_
          refine ld_g0 set_same rfl ?_
          refine st_g0 (by rw [set_ne n242]; exact d1 _ _ e2) (by simp) ?_
          refine ld_g0 set_same rfl ?_
          rw [pure_run]
          refine h sl3 _ (le_sets (le_sets (hl.trans d1) σ24) h2) ?_
          exact Vec.row ((d3.chg (true, ob [] 0) _).setn _ (by rw [set_ne n242]; exact e2)) encP_len
end
end Go.Wz
