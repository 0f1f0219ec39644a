/- Bodies: what the program's functions of chapter 12 compute. -/
import Derived.Test.YtanbffihggdcaaaGreatDoorSpec4
import Derived.Test.YtanbffihggdcaaaGreatDoorSpD
set_option linter.unusedVariables false
set_option linter.unusedSimpArgs false
namespace Go.Wz
open Go.Proofs Go.Eng

theorem encP_len (p : Prt) : (encP p).length = 4 := rfl
theorem encP_flat (p : Prt) : (encP p).all flat = true := rfl
/-- An element of a row is read into a box of its own. -/
theorem RowAt_nat {α B : Type} {n : Nat} {enc : α → List Value} {σ : Hp} {s : Sl} {xs : List α} (h : RowAt n enc σ s xs) {i : Nat} {x : α} (hx : xs[i]? = some x) {cs : List Ce} (hcs : cs.length = n) {r : Cs cs} (hr : cso cs (enc x) = some r)
    {k : Cs cs → M B} {Q : B → Hp → Prop} (hk : (k r).run Q σ) : (ixA s.a s.len (i : Int) n fun a => ld cs a k).run Q σ :=
  h.get (by omega) (by simpa using hx) hcs hr hk
section
variable {N : Nat} {σ : Hp}
theorem Fits_up {Q : Bool → Hp → Prop} [Up Q] {x : Prt} (h : Q (fits x) σ) : (body_Part_Fits N x).run Q σ := Fits_run (Up.le h)
theorem end_up {Q : Int → Hp → Prop} [Up Q] {x : Prt} (h : Q (wi (x.1 + x.2.1)) σ) : (body_Part_end N x).run Q σ := end_run (Up.le h)
theorem long_up {Q : Int → Hp → Prop} [Up Q] {s : Sl} {ps : List Prt} (hs : PartsAt σ s ps) (hN : ps.length < N) (hlen : ps.length < 4611686018427387904) (h : Q (longs 0 ps) σ) : (fold_long N s).run Q σ := long_run hs hN hlen (Up.le h)
def pahead (x : Prt) (o : Int) : Prt × Bool := if x.1 ≥ o then ((0, 0, 0, 0), false) else ((x.1, (if wi (o - x.1) < x.2.1 then wi (o - x.1) else x.2.1), x.2.2.1, x.2.2.2), true)
theorem ahead_up {Q : Prt × Bool → Hp → Prop} [Up Q] {x : Prt} {o : Int} (h : Q (pahead x o) σ) : (body_ahead N (x, o)).run Q σ := by
  unfold body_ahead
  intro b1 h1 b2 h2
  obtain ⟨n1, n2, h2⟩ := set_none.1 h2
  have hl : ∀ y z, Hp.Le σ ((σ.set b1 y).set b2 z) := fun y z => le_sets (le_sets (Hp.Le.refl _) h1) h2
  refine ld_go (by rw [set_ne n2]; exact set_same) rfl ?_
  simp only [vl, cnd_run, decide_eq_true_eq]
  unfold pahead at h
  split
  · rename_i hc
    rw [if_pos hc] at h
    refine st_g0 set_same (by simp) ?_
    refine ld_g0 set_same rfl ?_
    rw [set_set]
    exact Up.le h _ (hl _ _)
  · rename_i hc
    rw [if_neg hc] at h
    refine ld_go (by rw [set_ne n2]; exact set_same) rfl ?_
    refine ld_go (by rw [set_ne n2]; exact set_same) rfl ?_
    refine st_go (by rw [set_ne n2]; exact set_same) (by simp) ?_
    refine ld_g0 set_same rfl ?_
    refine st_g0 (by rw [set_ne n1]; exact set_same) (by simp) ?_
    refine ld_g0 set_same rfl ?_
    refine Up.le h _ ?_
    refine le_sets (fun k y hk => ?_) h2
    rw [set_ne (fun e => by subst e; rw [h1] at hk; cases hk)]
    exact hl _ _ k y hk
def pbehind (x : Prt) (at_ : Int) : Prt × Bool := if wi (x.1 + x.2.1) ≤ at_ then ((0, 0, 0, 0), false) else
  let by_ : Int := if (0 : Int) > wi (at_ - x.1) then 0 else wi (at_ - x.1)
  if by_ > 0 then ((at_, wi (x.2.1 - by_), x.2.2.1, wi (x.2.2.2 + by_)), true) else (x, true)
theorem behind_up {Q : Prt × Bool → Hp → Prop} [Up Q] {x : Prt} {o : Int} (h : Q (pbehind x o) σ) : (body_behind N (x, o)).run Q σ := by
  unfold body_behind
  intro b1 h1 b2 h2
  obtain ⟨n1, n2, h2⟩ := set_none.1 h2
  have hl : ∀ y z, Hp.Le σ ((σ.set b1 y).set b2 z) := fun y z => le_sets (le_sets (Hp.Le.refl _) h1) h2
  refine ld_g0 (by rw [set_ne n2]; exact set_same) rfl ?_
  simp only [bind_run]
  refine end_up ?_
  simp only [vl, cnd_run, decide_eq_true_eq]
  unfold pbehind at h
  split
  · rename_i hc
    rw [if_pos hc] at h
    refine st_g0 set_same (by simp) ?_
    refine ld_g0 set_same rfl ?_
    rw [set_set]
    exact Up.le h _ (hl _ _)
  · rename_i hc
    rw [if_neg hc] at h
    refine ld_go (by rw [set_ne n2]; exact set_same) rfl ?_
    simp only [cnd_run, decide_eq_true_eq]
    simp only at h
    generalize (if (0 : Int) > wi (o - x.1) then (0 : Int) else wi (o - x.1)) = by_ at h ⊢
    split
    · rename_i hp
      rw [if_pos hp] at h
      refine ld_go (by rw [set_ne n2]; exact set_same) rfl ?_
      refine ld_go (by rw [set_ne n2]; exact set_same) rfl ?_
      refine st_go (by rw [set_ne n2]; exact set_same) (by simp) ?_
      refine st_go set_same (by simp [wrL, writeAt]) ?_
      rw [set_set]
      refine st_go set_same (by simp [wrL, writeAt]) ?_
      rw [set_set]
      refine ld_g0 set_same rfl ?_
      refine st_g0 (by rw [set_ne n1]; exact set_same) (by simp) ?_
      refine ld_g0 set_same rfl ?_
      refine Up.le h _ ?_
      refine le_sets (fun k y hk => ?_) h2
      rw [set_ne (fun e => by subst e; rw [h1] at hk; cases hk)]
      exact hl _ _ k y hk
    · rename_i hp
      rw [if_neg hp] at h
      refine ld_g0 (by rw [set_ne n2]; exact set_same) rfl ?_
      refine st_g0 set_same (by simp) ?_
      refine ld_g0 set_same rfl ?_
      rw [set_set]
      exact Up.le h _ (hl _ _)
def mayGo (size : Int) (at_ : Int) : List Prt → Bool
  | [] => true
  | p :: ps => if fits p = false ∨ p.1 < at_ ∨ p.1 > wi (size - p.2.1) then false else mayGo size (wi (p.1 + p.2.1)) ps
abbrev Bd := Int × List Prt
def bmay (b : Bd) : Bool := if b.1 < 0 ∨ b.1 > 1099511627776 then false else mayGo b.1 0 b.2
theorem May_up {Q : Bool → Hp → Prop} [Up Q] {size : Int} {s : Sl} {ps : List Prt} (hs : PartsAt σ s ps) (hN : ps.length < N) (hlen : ps.length < 4611686018427387904) (h : Q (bmay (size, ps)) σ) : (body_May N (size, s)).run Q σ := by
  unfold body_May
  intro b1 h1
  have hl : ∀ y, Hp.Le σ (σ.set b1 y) := fun y => le_set h1
  have hb1 : (σ.set b1 (true, ob [.int .i64 size, .slice s.a s.len s.cap] 47)) b1 = some (true, ob [.int .i64 size, .slice s.a s.len s.cap] 47) := set_same
  revert hb1
  generalize hτ : (σ.set b1 (true, ob [.int .i64 size, .slice s.a s.len s.cap] 47)) = τ
  intro hb1
  have hl : Hp.Le σ τ := hτ ▸ hl _
  simp only [bind_run]
  refine ld_go hb1 rfl ?_
  simp only [vl, cnd_run, decide_eq_true_eq, pure_run]
  unfold bmay at h
  simp only at h
  split
  · rename_i hc
    rw [if_pos (.inl hc)] at h
    simp only [if_true]
    exact Up.le h _ hl
  · rename_i hc
    refine ld_go hb1 rfl ?_
    simp only [cnd_run, decide_eq_true_eq, pure_run]
    split
    · rename_i hd
      rw [if_pos (.inr hd)] at h
      exact Up.le h _ hl
    · rename_i hd
      rw [if_neg (fun e => e.elim hc hd)] at h
      refine ld_go hb1 rfl ?_
      simp only [bind_run]
      have hs' := hs.le hl
      have hlen' := hs.len
      refine loop_cnt (S := Int × Int) ps.length (fun i st ρ => st.2 = (i : Int) ∧ ρ = τ ∧ mayGo size 0 ps = mayGo size st.1 (ps.drop i)) _ _ ?_ ?_ N (0, 0) τ ⟨rfl, rfl, rfl⟩ hN
      · rintro i ⟨at_, j⟩ ρ hi ⟨h2, rfl, h3⟩
        simp only at h2 h3
        subst h2
        unfold body_May_L0
        have hd : ps.drop i = ps[i] :: ps.drop (i + 1) := List.drop_eq_getElem_cons hi
        simp only [vl, cnd_run, decide_eq_true_eq]
        rw [if_pos (by rw [hlen']; omega)]
        refine RowAt_nat hs' (List.getElem?_eq_getElem hi) rfl (by simp [encP, cso, Tp.ofs, Ce.of]; rfl) ?_
        refine new_st rfl fun b12 hb12 => ?_
        have hn12 : b1 ≠ b12 := fun e => by subst e; rw [hb1] at hb12; cases hb12
        simp only [bind_run]
        refine ld_g0 set_same rfl ?_
        simp only [bind_run]
        refine Fits_up ?_
        rw [hd] at h3
        simp only [mayGo] at h3
        simp only [cnd_run, decide_eq_true_eq, pure_run, Bool.not_eq_true']
        have hw : wi ((i : Int) + 1) = ((i + 1 : Nat) : Int) := by rw [wi_id (by omega) (by omega)]; omega
        have bad : (fits ps[i] = false ∨ ps[i].1 < at_ ∨ ps[i].1 > wi (size - ps[i].2.1)) → Q false ρ := fun hb => by
          rw [if_pos hb] at h3; rw [h3] at h; exact Up.le h _ hl
        have good : ¬ (fits ps[i] = false ∨ ps[i].1 < at_ ∨ ps[i].1 > wi (size - ps[i].2.1)) → mayGo size 0 ps = mayGo size (wi (ps[i].1 + ps[i].2.1)) (ps.drop (i + 1)) := fun hb => by
          rw [if_neg hb] at h3; exact h3
        split
        · rename_i hf
          simp only [if_true]
          exact Up.le (bad (.inl hf)) _ (le_set hb12)
        · rename_i hf
          refine ld_go set_same rfl ?_
          simp only [cnd_run, decide_eq_true_eq, pure_run]
          split
          · rename_i hf2
            simp only [if_true]
            exact Up.le (bad (.inr (.inl hf2))) _ (le_set hb12)
          · rename_i hf2
            refine ld_go set_same rfl ?_
            refine ld_go (by rw [set_ne hn12]; exact hb1) rfl ?_
            refine ld_go set_same rfl ?_
            simp only [pure_run, decide_eq_true_eq]
            split
            · rename_i hf3
              exact Up.le (bad (.inr (.inr hf3))) _ (le_set hb12)
            · rename_i hf3
              refine ld_g0 set_same rfl ?_
              simp only [bind_run]
              refine end_up ?_
              rw [hw]
              rw [pure_run]
              exact LP.drop (le_set hb12) ⟨rfl, rfl, good (fun e => e.elim hf (fun e => e.elim hf2 hf3))⟩
      · rintro ⟨at_, j⟩ ρ ⟨h2, rfl, h3⟩
        simp only at h2 h3
        subst h2
        unfold body_May_L0
        simp only [vl, cnd_run, decide_eq_true_eq]
        rw [if_neg (by rw [hlen']; omega)]
        rw [List.drop_length] at h3
        simp only [mayGo] at h3
        rw [h3] at h
        exact Up.le h _ hl
theorem W1_up {Q : Bool → Hp → Prop} [Up Q] {x : Prt} (h : Q (!fits x) σ) : (body_Write_1 N x).run Q σ := by
  unfold body_Write_1
  intro b1 h1
  refine ld_g0 set_same rfl ?_
  simp only [bind_run, vl, pure_run]
  exact Fits_up (Up.le h _ (le_set h1))
theorem IndexP_up {Q : Int → Hp → Prop} [Up Q] {s : Sl} {xs : List Prt} (hs : PartsAt σ s xs) (hN : xs.length < N) (hlen : xs.length < 4611686018427387904)
    (h : ∀ r : Int, ((0 ≤ r) ↔ (xs.any fun x => !fits x) = true) → Q r σ) : (slices_IndexFunc_body_Part_body_Part N (s, ())).run Q σ := by
  unfold slices_IndexFunc_body_Part_body_Part
  simp only [bind_run, pure_run]
  have hl := hs.len
  refine loop_cnt xs.length (fun i st ρ => st = (i : Int) ∧ ρ = σ ∧ ((xs.any fun x => !fits x) = ((xs.drop i).any fun x => !fits x))) _ _ ?_ ?_ N 0 σ ⟨rfl, rfl, rfl⟩ hN
  · rintro i _ ρ hi ⟨rfl, rfl, h3⟩
    unfold slices_IndexFunc_body_Part_body_Part_L0
    have hd : xs.drop i = xs[i] :: xs.drop (i + 1) := List.drop_eq_getElem_cons hi
    rw [hd, List.any_cons] at h3
    simp only [vl, cnd_run, decide_eq_true_eq]
    rw [if_pos (by rw [hl]; omega)]
    refine RowAt_nat hs (List.getElem?_eq_getElem hi) rfl (by simp [encP, cso, Tp.ofs, Ce.of]; rfl) ?_
    simp only [bind_run]
    refine W1_up ?_
    simp only [cnd_run, pure_run]
    have hw : wi ((i : Int) + 1) = ((i + 1 : Nat) : Int) := by rw [wi_id (by omega) (by omega)]; omega
    by_cases hp : fits xs[i] = true
    · simp only [hp, Bool.not_true, Bool.false_eq_true, if_false, Bool.false_or] at h3 ⊢
      rw [hw]
      exact LP.go ⟨rfl, rfl, h3⟩
    · simp only [hp, Bool.not_false, if_true, Bool.true_or] at h3 ⊢
      exact h i (by simp [h3])
  · rintro _ ρ ⟨rfl, rfl, h3⟩
    unfold slices_IndexFunc_body_Part_body_Part_L0
    simp only [vl, cnd_run, decide_eq_true_eq]
    rw [if_neg (by rw [hl]; omega)]
    rw [List.drop_length] at h3
    exact h (-1) (by simp [h3])
theorem ContainsP_up {Q : Bool → Hp → Prop} [Up Q] {s : Sl} {xs : List Prt} (hs : PartsAt σ s xs) (hN : xs.length < N) (hlen : xs.length < 4611686018427387904)
    (h : Q (xs.any fun x => !fits x) σ) : (slices_ContainsFunc_body_Part_body_Part N (s, ())).run Q σ := by
  unfold slices_ContainsFunc_body_Part_body_Part
  simp only [bind_run, pure_run, vl]
  refine IndexP_up hs hN hlen fun r hr => ?_
  have : decide (r ≥ 0) = (xs.any fun x => !fits x) := by
    cases hx : (xs.any fun x => !fits x)
    · rw [hx] at hr; simp at hr ⊢; omega
    · rw [hx] at hr; simp at hr ⊢; omega
  rw [this]; exact h
/-- What is chosen and changed, in order. -/
def sel (f : Prt → Prt × Bool) (ps : List Prt) : List Prt := ps.filterMap fun p => if (f p).2 = true then some (f p).1 else none
theorem sel_succ (f : Prt → Prt × Bool) (ps : List Prt) (i : Nat) (hi : i < ps.length) : sel f (ps.take (i + 1)) = sel f (ps.take i) ++ (if (f ps[i]).2 = true then [(f ps[i]).1] else []) := by
  unfold sel
  rw [List.take_succ_eq_append_getElem hi, List.filterMap_append]
  congr 1
  by_cases h : (f ps[i]).2 = true <;> simp [h]
theorem sel_len (f : Prt → Prt × Bool) (ps : List Prt) : (sel f ps).length ≤ ps.length := List.length_filterMap_le _ _
def btrunc (b : Bd) (size : Int) : Bd × Int :=
  if bmay b = false then ((0, []), 1) else if size < 0 ∨ size > 1099511627776 then ((0, []), 9) else ((size, sel (fun p => pahead p size) b.2), 0)
abbrev PVec := Vec 4 encP 40
theorem Trunc_up {Q : (Int × Sl) × Int → Hp → Prop} [Up Q] {size n : Int} {s : Sl} {ps : List Prt} (hs : PartsAt σ s ps) (hN : ps.length < N) (hlen : ps.length < 1000000000)
    (h : ∀ sl τ, Hp.Le σ τ → PartsAt τ sl (btrunc (size, ps) n).1.2 → Q (((btrunc (size, ps) n).1.1, sl), (btrunc (size, ps) n).2) τ) : (body_Trunc N ((size, s), n)).run Q σ := by
  unfold body_Trunc
  intro b1 h1 b2 h2
  obtain ⟨n1, n2, h2⟩ := set_none.1 h2
  have hl : ∀ y z, Hp.Le σ ((σ.set b1 y).set b2 z) := fun y z => le_sets (le_sets (Hp.Le.refl _) h1) h2
  refine ld_g0 (by rw [set_ne n2]; exact set_same) rfl ?_
  simp only [bind_run]
  refine May_up (hs.le (hl _ _)) hN (by omega) ?_
  unfold btrunc at h
  refine cnd_not (fun hm => ?_) (fun hm => ?_)
  · rw [if_pos hm] at h
    refine st_g0 set_same (by simp) ?_
    refine ld_g0 set_same rfl ?_
    rw [set_set]
    exact h ⟨none, 0, 0⟩ _ (hl _ _) (RowAt.nil none)
  · rw [if_neg (by rw [hm]; decide)] at h
    have out : (n < 0 ∨ n > 1099511627776) → (st ⟨b2, 0, none⟩ [.int .i64 0, .slice none 0 0] <| ld [.int .i64, .slice] ⟨b2, 0, none⟩ fun (r10 : Int × Sl) => M.pure ((r10.1, r10.2), (9 : Int))).run Q ((σ.set b1 (true, ob [.int .i64 size, .slice s.a s.len s.cap] 47)).set b2 (true, ob [.int .i64 0, .slice none 0 0] 47)) := fun ho => by
      rw [if_pos ho] at h
      refine st_g0 set_same (by simp) ?_
      refine ld_g0 set_same rfl ?_
      rw [set_set]
      exact h ⟨none, 0, 0⟩ _ (hl _ _) (RowAt.nil none)
    refine or_go (cnd_go (fun hc => ?_) (fun hc => ?_))
    · exact out (by simpa using hc)
    · have hc : ¬ (n < 0 ∨ n > 1099511627776) := by simpa using hc
      · 
        rw [if_neg hc] at h
        refine new_st rfl fun b11 h11 => ?_
        obtain ⟨n3, n4, h11'⟩ := set_none.1 h11
        obtain ⟨n5, n6, h11'⟩ := set_none.1 h11'
        refine ld_go (by rw [set_ne n6, set_ne n2]; exact set_same) rfl ?_
        simp only [bind_run]
        have hl3 := hl (true, ob [.int .i64 size, .slice s.a s.len s.cap] 47) (true, ob [.int .i64 0, .slice none 0 0] 47)
        have e1 : ((σ.set b1 (true, ob [.int .i64 size, .slice s.a s.len s.cap] 47)).set b2 (true, ob [.int .i64 0, .slice none 0 0] 47)) b2 = some (true, ob [.int .i64 0, .slice none 0 0] 47) := set_same
        revert hl3 e1 h11
        generalize ((σ.set b1 (true, ob [.int .i64 size, .slice s.a s.len s.cap] 47)).set b2 (true, ob [.int .i64 0, .slice none 0 0] 47)) = ρ
        intro h11 hl3 e1
        have hs' := hs.le hl3
        have hlen' := hs.len
        refine loop_cnt ps.length (fun i st τ => st = (i : Int) ∧ Hp.Le ρ τ ∧ ∃ sl, τ b11 = some (true, ob [.int .i64 n, .slice sl.a sl.len sl.cap] 47) ∧ PVec (ρ.set b11 (true, ob [] 0)) τ sl (sel (fun p => pahead p n) (ps.take i))) _ _ ?_ ?_ N 0 _
          ⟨rfl, le_set h11, ⟨none, 0, 0⟩, set_same, Vec.nil none⟩ hN
        · rintro i _ τ hi ⟨rfl, g1, sl, g2, g3⟩
          unfold body_Trunc_L0
          simp only [vl, cnd_run, decide_eq_true_eq]
          rw [if_pos (by rw [hlen']; omega)]
          simp only [bind_run]
          refine RowAt_nat (hs'.le g1) (List.getElem?_eq_getElem hi) rfl (by simp [encP, cso, Tp.ofs, Ce.of]; rfl) ?_
          refine new_st rfl fun b17 h17 => ?_
          refine ld_g0 set_same rfl ?_
          simp only [bind_run]
          refine ahead_up ?_
          refine new_st rfl fun b20 h20 => ?_
          obtain ⟨m1, m2, h20⟩ := set_none.1 h20
          have m3 : b11 ≠ b17 := fun e => by subst e; rw [g2] at h17; cases h17
          have m4 : b11 ≠ b20 := fun e => by subst e; rw [g2] at h20; cases h20
          have hw : wi ((i : Int) + 1) = ((i + 1 : Nat) : Int) := by rw [wi_id (by omega) (by omega)]; omega
          have gl : ∀ y z, Hp.Le τ ((τ.set b17 y).set b20 z) := fun y z => le_sets (le_sets (Hp.Le.refl _) h17) h20
          simp only [cnd_run, pure_run, hw]
          have hsucc := sel_succ (fun p => pahead p n) ps i hi
          split
          · rename_i hf
            rw [if_pos hf] at hsucc
            refine ld_go (by rw [set_ne m4, set_ne m3]; exact g2) rfl ?_
            refine ld_g0 set_same rfl ?_
            intro b23 h23
            have m5 : b11 ≠ b23 := fun e => by subst e; rw [set_ne m4, set_ne m3, g2] at h23; cases h23
            have hle23 := fun y z x => le_sets (x := x) (gl y z) (by
              have := set_none.1 h23
              have := set_none.1 this.2.2
              exact this.2.2)
            have := sel_len (fun p => pahead p n) (ps.take i)
            have h4 : (ps.take i).length ≤ ps.length := by simp; omega
            refine grow (σ := ρ) (b := b11) (pre := [.int .i64 n]) (suf := []) (T := 47) (x := (pahead ps[i] n).1) encP_len encP_flat (by omega) rfl (by omega) (by omega) h11 (g1.trans (hle23 _ _ _)) (by rw [set_ne m5, set_ne m4, set_ne m3]; exact g2) rfl
              (Vec.le g3 (hle23 _ _ _)) (bx := b23) set_same fun τ' sl' k1 k2 k3 => ?_
            rw [pure_run]
            exact LP.go ⟨rfl, k1, sl', k2, by rw [hsucc]; exact k3⟩
          · rename_i hf
            rw [if_neg hf, List.append_nil] at hsucc
            refine LP.drop (gl _ _) ⟨rfl, g1, sl, g2, by rw [hsucc]; exact g3⟩
        · rintro _ τ ⟨rfl, g1, sl, g2, g3⟩
          unfold body_Trunc_L0
          simp only [vl, cnd_run, decide_eq_true_eq]
          rw [if_neg (by rw [hlen']; omega)]
          show (ld [.int .i64, .slice] ⟨b11, 0, none⟩ _).run Q τ
          refine ld_g0 g2 rfl ?_
          have e2 : τ b2 = _ := g1 _ _ e1
          refine st_g0 e2 (by simp) ?_
          refine ld_g0 set_same rfl ?_
          rw [List.take_length] at g3
          have n7 : b2 ≠ b11 := fun e => by subst e; rw [e1] at h11; cases h11
          refine h sl _ (le_sets (hl3.trans g1) h2) ((g3.setn _ (by rw [set_ne n7]; exact e1)).row encP_len)
end
end Go.Wz
