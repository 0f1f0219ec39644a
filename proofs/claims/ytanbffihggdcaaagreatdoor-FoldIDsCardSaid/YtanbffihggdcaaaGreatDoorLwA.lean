/- What the statements of the chapter share: deeds in memory, few deeds, parts as the program has them, events done one after another. -/
import Derived.Test.YtanbffihggdcaaaGreatDoorPlE
set_option linter.unusedVariables false
set_option linter.unusedSimpArgs false
namespace Go.Wz
open Go.Proofs Go.Eng Go.Sort
/-- Values at a place. -/
def ElV (σ : Hp) (b o : Nat) (vs : List Value) : Prop := ∃ fl arr T fz, σ b = some (fl, .cells arr T fz) ∧ o + vs.length ≤ arr.size ∧ (arr.toList.drop o).take vs.length = vs
theorem ElV.le {σ τ : Hp} {b o : Nat} {vs : List Value} (h : ElV σ b o vs) (hl : Hp.Le σ τ) : ElV τ b o vs := by
  obtain ⟨fl, arr, T, fz, h1, h2⟩ := h
  exact ⟨fl, arr, T, fz, hl _ _ h1, h2⟩
theorem ElV.rd {σ : Hp} {b o : Nat} {vs : List Value} (h : ElV σ b o vs) {c : Ce} {cs : List Ce} (j : Nat) (hj : j + (c :: cs).length ≤ vs.length) {r : Cs (c :: cs)} (hr : cso (c :: cs) ((vs.drop j).take (c :: cs).length) = some r) : (ldR (c :: cs) ⟨b, o + j, none⟩).get σ = some r := by
  obtain ⟨fl, arr, T, fz, h1, h2, h3⟩ := h
  rw [ldR_at, h1]
  show rdL (c :: cs) (o + j) arr.toList = some r
  unfold rdL
  rw [Nat.ble_eq_true_of_le (by have e : arr.toList.length = arr.size := Array.length_toList; omega)]
  simp only
  have : (arr.toList.drop (o + j)).take (c :: cs).length = (vs.drop j).take (c :: cs).length := by
    conv => rhs; rw [← h3]
    rw [List.drop_take, List.take_take, List.drop_drop]
    congr 1
    omega
  rw [this]
  exact hr
theorem _root_.Go.Eng.RowAt.el {α : Type} {n : Nat} {enc : α → List Value} {σ : Hp} {s : Sl} {xs : List α} (h : RowAt n enc σ s xs) (hn : ∀ x, (enc x).length = n) {i : Nat} {x : α} (hx : xs[i]? = some x) : ∃ b o, s.a = some ⟨b, o, none⟩ ∧ i < s.len ∧ ElV σ b (o + i * n) (enc x) := by
  have hlt := (List.getElem?_eq_some_iff.1 hx).1
  rcases h.at_ with e | ⟨b, o, fl, arr, T, fz, h1, h2, h3⟩
  · subst e; simp at hlt
  · obtain ⟨h4, h5⟩ := h3 i x hx
    exact ⟨b, o, h1, by rw [h.len]; exact hlt, fl, arr, T, fz, h2, by rw [hn]; exact h4, by rw [hn]; exact h5⟩
theorem ld_el {B : Type} {σ : Hp} {b o : Nat} {vs : List Value} (h : ElV σ b o vs) {c : Ce} {cs : List Ce} {j : Nat} (hj : j + (c :: cs).length ≤ vs.length) {r : Cs (c :: cs)} (hr : cso (c :: cs) ((vs.drop j).take (c :: cs).length) = some r) {k : Cs (c :: cs) → M B} {Q : B → Hp → Prop} (hk : (k r).run Q σ) :
    (ld (c :: cs) ⟨b, o + j, none⟩ k).run Q σ := ⟨r, h.rd j hj hr, hk⟩
theorem ixA_go {B : Type} {p : Option Addr} {b o len i n : Nat} {k : Addr → M B} {Q : B → Hp → Prop} {σ : Hp} (hp : p = some ⟨b, o, none⟩) (hi : i < len) (hk : (k ⟨b, o + i * n, none⟩).run Q σ) : (ixA p len (i : Int) n k).run Q σ := by
  refine ⟨_, hp, ⟨by omega, by omega⟩, ?_⟩
  rw [add_at, Int.toNat_natCast]
  exact hk
/-- A deed: an event, and the parts of its data. -/
abbrev Deed := EvT × Sl × List Prt
def encDd (d : EvT × Sl) : List Value := encEv d.1 ++ [.slice d.2.a d.2.len d.2.cap]
theorem encDd_len (d : EvT × Sl) : (encDd d).length = 7 := rfl
structure DeedsAt (σ : Hp) (s : Sl) (ds : List Deed) : Prop where
  row : RowAt 7 encDd σ s (ds.map fun d => (d.1, d.2.1))
  parts : ∀ d ∈ ds, PartsAt σ d.2.1 d.2.2
theorem DeedsAt.le {σ τ : Hp} {s : Sl} {ds : List Deed} (h : DeedsAt σ s ds) (hl : Hp.Le σ τ) : DeedsAt τ s ds := ⟨h.row.le hl, fun d hd => (h.parts d hd).le hl⟩
theorem DeedsAt.len {σ : Hp} {s : Sl} {ds : List Deed} (h : DeedsAt σ s ds) : s.len = ds.length := by rw [h.row.len, List.length_map]
theorem DeedsAt.el {σ : Hp} {s : Sl} {ds : List Deed} (h : DeedsAt σ s ds) {i : Nat} {d : Deed} (hd : ds[i]? = some d) : ∃ b o, s.a = some ⟨b, o, none⟩ ∧ i < s.len ∧ ElV σ b (o + i * 7) (encDd (d.1, d.2.1)) :=
  h.row.el encDd_len (by rw [List.getElem?_map, hd]; rfl)
def okDeed (d : Deed) : Prop := d.1.2.1.size ≤ 300 ∧ d.1.2.2.1.size ≤ 300 ∧ d.1.2.2.2.2.2.len ≤ 2000 ∧ d.2.2.length ≤ 60
section
variable {N : Nat} {σ : Hp}
theorem Small_up {s : Sl} {ds : List Deed} {most : Nat} {Q : Bool → Hp → Prop} [Up Q] (hm : most ≤ 1000) (hN : most < N) (hs : DeedsAt σ s ds) (h0 : Q false σ) (h1 : ds.length ≤ most → (∀ d ∈ ds, okDeed d) → Q true σ) : (law15_Small N (s, (most : Int))).run Q σ := by
  unfold law15_Small
  have hlen := hs.len
  refine bind_go ?_
  refine loop_cnt (min ds.length most) (fun i st ρ => st = (i : Int) ∧ ρ = σ ∧ ∀ d ∈ ds.take i, okDeed d) _ _ ?_ ?_ N 0 σ ⟨rfl, rfl, by simp⟩ (by omega)
  · rintro i _ ρ hi ⟨rfl, rfl, h3⟩
    have hi1 : i < ds.length := by omega
    have hi2 : i < most := by omega
    unfold law15_Small_L0
    have hx : ds[i]? = some ds[i] := List.getElem?_eq_getElem hi1
    obtain ⟨b, o, ha, hlt, hel⟩ := hs.el hx
    have hw : wi ((i : Int) + 1) = ((i + 1 : Nat) : Int) := by rw [wi_id (by omega) (by omega)]; omega
    have bad : (M.pure (inrS (.inr false) : Int ⊕ (Unit ⊕ Bool))).run (LP (fun st ρ_1 => st = ((i + 1 : Nat) : Int) ∧ ρ_1 = ρ ∧ ∀ d ∈ ds.take (i + 1), okDeed d) fun (a : Unit ⊕ Bool) s => (sumM a (fun (q19 : Unit) => M.pure true) fun (r20 : Bool) => M.pure r20).run Q s) ρ := h0
    have hpl := hs.parts ds[i] (List.getElem_mem hi1)
    refine cnd_dec (fun _ => ?_) (fun hc => absurd (show (i : Int) < (s.len : Int) by omega) hc)
    refine bind_go (cnd_dec (fun hc => absurd (show (i : Int) ≥ (most : Int) from hc) (by omega)) (fun _ => ?_))
    refine ixA_go ha hlt ?_
    rw [add_at, add_at]
    refine ld_el (j := 0 + 1) (r := ds[i].1.2.1) hel (by simp [encDd_len]) rfl ?_
    refine cnd_dec (fun _ => bad) (fun c1 => ?_)
    refine ixA_go ha hlt ?_
    rw [add_at, add_at]
    refine ld_el (j := 0 + 2) (r := ds[i].1.2.2.1) hel (by simp [encDd_len]) rfl ?_
    refine cnd_dec (fun _ => bad) (fun c2 => ?_)
    refine ixA_go ha hlt ?_
    rw [add_at, add_at]
    refine ld_el (j := 0 + 5) (r := ds[i].1.2.2.2.2.2) hel (by simp [encDd_len]) rfl ?_
    refine cnd_dec (fun _ => bad) (fun c3 => ?_)
    refine ixA_go ha hlt ?_
    rw [add_at]
    refine ld_el (j := 6) (r := ds[i].2.1) hel (by simp [encDd_len]) rfl ?_
    rw [pure_run]
    refine cnd_dec (fun _ => bad) (fun c4 => ?_)
    dsimp only [vl]
    rw [hw, pure_run]
    refine LP.go ⟨rfl, rfl, fun d hd => ?_⟩
    rw [List.take_succ_eq_append_getElem hi1, List.mem_append, List.mem_singleton] at hd
    rcases hd with hd | rfl
    · exact h3 d hd
    · have := hpl.len
      have c1 : ¬ ((ds[i].1.2.1.size : Nat) : Int) > 300 := c1
      have c2 : ¬ ((ds[i].1.2.2.1.size : Nat) : Int) > 300 := c2
      have c3 : ¬ ((ds[i].1.2.2.2.2.2.len : Nat) : Int) > 2000 := c3
      have c4 : ¬ ((ds[i].2.1.len : Nat) : Int) > 60 := c4
      exact ⟨by omega, by omega, by omega, by omega⟩
  · rintro _ ρ ⟨rfl, rfl, h3⟩
    unfold law15_Small_L0
    refine cnd_dec (fun hc => ?_) (fun hc => ?_)
    · have hc : ((min ds.length most : Nat) : Int) < (s.len : Int) := hc
      refine bind_go (cnd_dec (fun _ => ?_) (fun hc2 => absurd (show ((min ds.length most : Nat) : Int) ≥ (most : Int) by omega) hc2))
      exact h0
    · have hc : ¬ ((min ds.length most : Nat) : Int) < (s.len : Int) := hc
      rw [List.take_of_length_le (by omega)] at h3
      exact h1 (by omega) h3
theorem Parts_up {s : Sl} {ps : List Prt} {Q : Sl → Hp → Prop} [Up Q] (hN : ps.length < N) (hlen : ps.length < 1000000000) (hs : PartsAt σ s ps) (h : ∀ sl τ, Hp.Le σ τ → PartsAt τ sl ps → Q sl τ) : (law12_Parts N s).run Q σ := by
  unfold law12_Parts
  have hlen' := hs.len
  refine bind_go ?_
  refine loop_cnt (S := Sl × Int) ps.length (fun i st τ => st.2 = (i : Int) ∧ Hp.Le σ τ ∧ PVec σ τ st.1 (ps.take i)) _ _ ?_ ?_ N (⟨none, 0, 0⟩, 0) σ ⟨rfl, Hp.Le.refl _, Vec.nil none⟩ hN
  · rintro i ⟨sl, _⟩ τ hi ⟨rfl, g1, g2⟩
    unfold law12_Parts_L0
    obtain ⟨b, o, ha, hlt, hel⟩ := (hs.le g1).el encP_len (List.getElem?_eq_getElem hi)
    refine cnd_dec (fun _ => ?_) (fun hc => absurd (show (i : Int) < (s.len : Int) by omega) hc)
    refine ixA_go ha hlt ?_
    rw [add_at]
    refine ld_el (j := 0) (r := ps[i].1) hel (by simp [encP_len]) rfl ?_
    refine ixA_go ha hlt ?_
    rw [add_at]
    refine ld_el (j := 1) (r := ps[i].2.1) hel (by simp [encP_len]) rfl ?_
    refine ixA_go ha hlt ?_
    rw [add_at]
    refine ld_el (j := 2) (r := ps[i].2.2.1) hel (by simp [encP_len]) rfl ?_
    refine ixA_go ha hlt ?_
    rw [add_at]
    refine ld_el (j := 3) (r := ps[i].2.2.2) hel (by simp [encP_len]) rfl ?_
    intro b11 h11
    refine bind_go ?_
    have h4 : (ps.take i).length ≤ ps.length := by simp; omega
    refine app_one (x := ps[i]) (Vec.le g2 (le_set h11)) (g1.trans (le_set h11)) encP_len encP_flat (by omega) rfl (bx := b11) set_same (by omega) (by omega) fun s' τ' k1 k2 => ?_
    have hw : wi ((i : Int) + 1) = ((i + 1 : Nat) : Int) := by rw [wi_id (by omega) (by omega)]; omega
    dsimp only [vl]
    rw [hw, pure_run]
    exact LP.go ⟨rfl, k1, by rw [List.take_succ_eq_append_getElem hi]; exact k2⟩
  · rintro ⟨sl, _⟩ τ ⟨rfl, g1, g2⟩
    unfold law12_Parts_L0
    refine cnd_dec (fun hc => absurd (show ((ps.length : Nat) : Int) < (s.len : Int) from hc) (by omega)) (fun _ => ?_)
    rw [List.take_length] at g2
    exact h sl τ g1 (g2.row encP_len)
/-- Events, one after another; the order in which maps hand out is free. -/
def Runs : St → List Deed → St → Prop
  | S, [], T => T = S
  | S, d :: ds, T => ∃ l : Nodes, l.Perm (tunder S.tr.nodes d.1.2.1) ∧ Runs (sapply S d.1 d.2.2 l).2 ds T
theorem Runs.snoc : ∀ {ds : List Deed} {S T : St} {d : Deed} {l : Nodes}, Runs S ds T → l.Perm (tunder T.tr.nodes d.1.2.1) → Runs S (ds ++ [d]) (sapply T d.1 d.2.2 l).2
  | [], S, T, d, l, h, hl => by
    have h : T = S := h
    subst h
    exact ⟨l, hl, rfl⟩
  | e :: ds, S, T, d, l, ⟨k, h1, h2⟩, hl => ⟨k, h1, h2.snoc hl⟩
theorem Runs.inv : ∀ {ds : List Deed} {S T : St} {L : Nat}, Runs S ds T → Inv L S → L + 61 * ds.length < 1000000 → (∀ d ∈ ds, d.2.2.length ≤ 60) → Inv (L + 61 * ds.length) T
  | [], S, T, L, h, hi, _, _ => by
    have h : T = S := h
    subst h
    exact hi
  | d :: ds, S, T, L, ⟨l, h1, h2⟩, hi, hL, hd => by
    simp only [List.length_cons] at hL ⊢
    have := Runs.inv h2 (hi.apply (by omega) (hd d List.mem_cons_self) h1) (by omega) (fun x hx => hd x (List.mem_cons_of_mem _ hx))
    have e : L + 61 + 61 * ds.length = L + 61 * (ds.length + 1) := by omega
    rw [e] at this
    exact this
end
end Go.Wz
