/- Bodies, plainly: what is written and cut may be. -/
import Derived.Test.YtanbffihggdcaaaGreatDoorSpV
set_option linter.unusedVariables false
set_option linter.unusedSimpArgs false
namespace Go.Wz
open Go.Proofs Go.Eng Go.Sort
def Ord (size : Int) : Int → List Prt → Prop
  | _, [] => True
  | at_, p :: ps => fits p = true ∧ at_ ≤ p.1 ∧ p.1 + p.2.1 ≤ size ∧ Ord size (p.1 + p.2.1) ps
theorem fits_iff {p : Prt} : fits p = true ↔ 1 ≤ p.2.1 ∧ p.2.1 ≤ 64 ∧ 1 ≤ p.2.2.1 ∧ p.2.2.1 ≤ 4611686018427387904 ∧ 0 ≤ p.2.2.2 ∧ p.2.2.2 ≤ 64 - p.2.1 := by
  unfold fits; rw [decide_eq_true_eq]
theorem mayGo_iff {size : Int} (h0 : 0 ≤ size) (h1 : size ≤ 1099511627776) : ∀ {ps : List Prt} {at_ : Int}, 0 ≤ at_ → (mayGo size at_ ps = true ↔ Ord size at_ ps)
  | [], at_, _ => by simp [mayGo, Ord]
  | p :: ps, at_, ha => by
    simp only [mayGo, Ord]
    by_cases hf : fits p = true
    · have hf' := fits_iff.1 hf
      have hw : wi (size - p.2.1) = size - p.2.1 := wi_id (by omega) (by omega)
      by_cases h2 : p.1 < at_
      · rw [if_pos (.inr (.inl h2))]
        constructor
        · intro h; cases h
        · rintro ⟨_, h, _⟩; omega
      · by_cases h3 : p.1 > size - p.2.1
        · rw [if_pos (.inr (.inr (by rw [hw]; exact h3)))]
          constructor
          · intro h; cases h
          · rintro ⟨_, _, h, _⟩; omega
        · rw [if_neg (by rw [hw, hf]; simp only [Bool.true_eq_false, false_or, not_or]; exact ⟨h2, h3⟩)]
          have hw2 : wi (p.1 + p.2.1) = p.1 + p.2.1 := wi_id (by omega) (by omega)
          rw [hw2, mayGo_iff h0 h1 (by omega)]
          constructor
          · intro h; exact ⟨hf, by omega, by omega, h⟩
          · exact fun h => h.2.2.2
    · have hf' : fits p = false := by simpa using hf
      rw [if_pos (.inl hf')]
      constructor
      · intro h; cases h
      · intro h; exact absurd h.1 hf
theorem bmay_iff {b : Bd} : bmay b = true ↔ 0 ≤ b.1 ∧ b.1 ≤ 1099511627776 ∧ Ord b.1 0 b.2 := by
  unfold bmay
  split
  · rename_i h
    constructor
    · intro h; cases h
    · rintro ⟨h1, h2, _⟩; omega
  · rename_i h
    rw [mayGo_iff (by omega) (by omega) (by omega)]
    constructor
    · intro h; exact ⟨by omega, by omega, h⟩
    · exact fun h => h.2.2
theorem Ord.at_le {size a b : Int} {ps : List Prt} (h : Ord size b ps) (hl : a ≤ b) : Ord size a ps := by
  cases ps with
  | nil => trivial
  | cons p ps => exact ⟨h.1, by have := h.2.1; omega, h.2.2.1, h.2.2.2⟩
theorem Ord.size_le {m n : Int} (hl : m ≤ n) : ∀ {ps : List Prt} {a : Int}, Ord m a ps → Ord n a ps
  | [], _, _ => trivial
  | p :: ps, _, h => ⟨h.1, h.2.1, by have := h.2.2.1; omega, Ord.size_le hl h.2.2.2⟩
theorem Ord.app {m n : Int} (hl : m ≤ n) {ys : List Prt} (hy : Ord n m ys) : ∀ {ps : List Prt} {a : Int}, a ≤ m → Ord m a ps → Ord n a (ps ++ ys)
  | [], a, ha, _ => hy.at_le ha
  | p :: ps, a, ha, h => ⟨h.1, h.2.1, by have := h.2.2.1; omega, Ord.app hl hy h.2.2.1 h.2.2.2⟩
theorem Ord.all {size : Int} : ∀ {ps : List Prt} {a : Int}, Ord size a ps → ∀ p ∈ ps, fits p = true
  | p :: ps, a, h, q, hq => by
    rcases List.mem_cons.1 hq with rfl | hq
    · exact h.1
    · exact h.2.2.2.all q hq
  | [], _, _, _, hq => by cases hq
theorem sel_cons (f : Prt → Prt × Bool) (p : Prt) (ps : List Prt) : sel f (p :: ps) = (if (f p).2 = true then [(f p).1] else []) ++ sel f ps := by
  unfold sel
  by_cases h : (f p).2 = true <;> simp [h]
theorem ord_ahead {size off : Int} (h1 : size ≤ 1099511627776) (ho : off ≤ 1099511627776) (ho0 : 0 ≤ off) : ∀ {ps : List Prt} {a : Int}, 0 ≤ a → Ord size a ps → Ord off a (sel (fun p => pahead p off) ps)
  | [], _, _, _ => trivial
  | p :: ps, a, ha, h => by
    obtain ⟨f, g1, g2, g3⟩ := h
    have hf := fits_iff.1 f
    have ih := ord_ahead h1 ho ho0 (ps := ps) (a := p.1 + p.2.1) (by omega) g3
    rw [sel_cons]
    unfold pahead
    by_cases hc : p.1 ≥ off
    · rw [if_pos hc]
      simp only [Bool.false_eq_true, if_false, List.nil_append]
      exact ih.at_le (by omega)
    · rw [if_neg hc]
      have hw : wi (off - p.1) = off - p.1 := wi_id (by omega) (by omega)
      simp only [if_true, hw, List.singleton_append]
      by_cases hm : off - p.1 < p.2.1
      · rw [if_pos hm]
        refine ⟨fits_iff.2 (by simp only; omega), g1, by simp only; omega, ih.at_le (by simp only; omega)⟩
      · rw [if_neg hm]
        exact ⟨f, g1, by simp only; omega, ih⟩
theorem ord_behind {size e : Int} (h1 : size ≤ 1099511627776) (he : 0 ≤ e) (he1 : e ≤ 1099511627776) : ∀ {ps : List Prt} {a : Int}, 0 ≤ a → Ord size a ps → Ord size (max a e) (sel (fun p => pbehind p e) ps)
  | [], _, _, _ => trivial
  | p :: ps, a, ha, h => by
    obtain ⟨f, g1, g2, g3⟩ := h
    have hf := fits_iff.1 f
    have ih := ord_behind h1 he he1 (ps := ps) (a := p.1 + p.2.1) (by omega) g3
    have hw : wi (p.1 + p.2.1) = p.1 + p.2.1 := wi_id (by omega) (by omega)
    have hw2 : wi (e - p.1) = e - p.1 := wi_id (by omega) (by omega)
    rw [sel_cons]
    by_cases hc : p.1 + p.2.1 ≤ e
    · have hp : pbehind p e = ((0, 0, 0, 0), false) := by unfold pbehind; rw [hw, if_pos hc]
      rw [hp]
      simp only [Bool.false_eq_true, if_false, List.nil_append]
      exact ih.at_le (by omega)
    · by_cases hz : e - p.1 > 0
      · have hw3 : wi (p.2.1 - (e - p.1)) = p.2.1 - (e - p.1) := wi_id (by omega) (by omega)
        have hw4 : wi (p.2.2.2 + (e - p.1)) = p.2.2.2 + (e - p.1) := wi_id (by omega) (by omega)
        have hp : pbehind p e = ((e, p.2.1 - (e - p.1), p.2.2.1, p.2.2.2 + (e - p.1)), true) := by
          unfold pbehind
          simp only [hw, hw2]
          rw [if_neg hc, if_neg (show ¬ (0 : Int) > e - p.1 by omega), if_pos hz, hw3, hw4]
        rw [hp]
        simp only [if_true, List.singleton_append]
        exact ⟨fits_iff.2 (by simp only; omega), by simp only; omega, by simp only; omega, ih.at_le (by simp only; omega)⟩
      · have hp : pbehind p e = (p, true) := by
          unfold pbehind
          simp only [hw, hw2]
          rw [if_neg hc]
          by_cases hn : (0 : Int) > e - p.1
          · rw [if_pos hn, if_neg (by omega)]
          · rw [if_neg hn, if_neg hz]
        rw [hp]
        simp only [if_true, List.singleton_append]
        exact ⟨f, by omega, g2, ih.at_le (by omega)⟩
def lens : List Prt → Int
  | [] => 0
  | p :: ps => p.2.1 + lens ps
theorem lens_bd : ∀ {ps : List Prt}, (∀ p ∈ ps, fits p = true) → 0 ≤ lens ps ∧ lens ps ≤ 64 * (ps.length : Int)
  | [], _ => by simp [lens]
  | p :: ps, h => by
    have := lens_bd (ps := ps) fun q hq => h q (List.mem_cons_of_mem _ hq)
    have hf := fits_iff.1 (h p List.mem_cons_self)
    simp only [lens, List.length_cons]
    omega
theorem longs_lens : ∀ {ps : List Prt} {s : Int}, (∀ p ∈ ps, fits p = true) → 0 ≤ s → s + 64 * (ps.length : Int) ≤ 9223372036854775807 → longs s ps = s + lens ps
  | [], s, _, _, _ => by simp [longs, lens]
  | p :: ps, s, h, h0, h1 => by
    have hf := fits_iff.1 (h p List.mem_cons_self)
    simp only [List.length_cons] at h1
    have hw : wi (s + p.2.1) = s + p.2.1 := wi_id (by omega) (by omega)
    simp only [longs, lens, hw]
    rw [longs_lens (fun q hq => h q (List.mem_cons_of_mem _ hq)) (by omega) (by omega)]
    omega
theorem place_ok : ∀ {ps : List Prt} {s : Int}, (∀ p ∈ ps, fits p = true) → 0 ≤ s → s + lens ps ≤ 1099511627776 → placeEnd s ps = s + lens ps ∧ Ord (s + lens ps) s (place s ps)
  | [], s, _, _, _ => ⟨by simp [placeEnd, lens], trivial⟩
  | p :: ps, s, h, h0, h1 => by
    have f := h p List.mem_cons_self
    have hf := fits_iff.1 f
    have hb := (lens_bd (ps := ps) fun q hq => h q (List.mem_cons_of_mem _ hq)).1
    simp only [lens] at h1
    have hw : wi (s + p.2.1) = s + p.2.1 := wi_id (by omega) (by omega)
    obtain ⟨g1, g2⟩ := place_ok (ps := ps) (s := s + p.2.1) (fun q hq => h q (List.mem_cons_of_mem _ hq)) (by omega) (by omega)
    simp only [placeEnd, place, lens, hw]
    have e : s + p.2.1 + lens ps = s + (p.2.1 + lens ps) := by omega
    rw [e] at g1 g2
    refine ⟨g1, fits_iff.2 hf, Int.le_refl _, by simp only; omega, g2⟩
theorem any_fits {ps : List Prt} (h : ¬ (ps.any fun p => !fits p) = true) : ∀ p ∈ ps, fits p = true := fun p hp => by
  cases hf : fits p
  · exact absurd (List.any_eq_true.2 ⟨p, hp, by simp [hf]⟩) h
  · rfl
/-- What bwrite says where it says 0. -/
theorem bwrite_ok {b : Bd} {off : Int} {ls : List Prt} (hlen : ls.length < 1000000000) (h : (bwrite b off ls).2 = 0) :
    bmay b = true ∧ (∀ p ∈ ls, fits p = true) ∧ 0 ≤ off ∧ off + lens ls ≤ 1099511627776 ∧
      (bwrite b off ls).1 = if ls = [] then b else (if off + lens ls > b.1 then off + lens ls else b.1, sel (fun p => pahead p off) b.2 ++ place off ls ++ sel (fun p => pbehind p (off + lens ls)) b.2) := by
  unfold bwrite at h ⊢
  by_cases h1 : bmay b = false ∨ (ls.any fun p => !fits p) = true
  · rw [if_pos h1] at h; cases h
  · rw [if_neg h1] at h ⊢
    have hm : bmay b = true := by
      cases hh : bmay b
      · exact absurd (.inl hh) h1
      · rfl
    have hf := any_fits fun x => h1 (.inr x)
    have hb := lens_bd hf
    have hlo : longs 0 ls = lens ls := by rw [longs_lens hf (by omega) (by omega)]; omega
    have hw : wi (1099511627776 - lens ls) = 1099511627776 - lens ls := wi_id (by omega) (by omega)
    rw [hlo, hw] at h ⊢
    by_cases h2 : off < 0 ∨ off > 1099511627776 - lens ls
    · rw [if_pos h2] at h; cases h
    · rw [if_neg h2] at h ⊢
      obtain ⟨e1, _⟩ := place_ok hf (s := off) (by omega) (by omega)
      refine ⟨hm, hf, by omega, by omega, ?_⟩
      by_cases h3 : ls = []
      · rw [if_pos h3, if_pos h3]
      · rw [if_neg h3, if_neg h3, e1]
theorem bwrite_may {b : Bd} {off : Int} {ls : List Prt} (hlen : ls.length < 1000000000) (h : (bwrite b off ls).2 = 0) : bmay (bwrite b off ls).1 = true := by
  obtain ⟨h1, h2, h3, h4, h5⟩ := bwrite_ok hlen h
  rw [h5]
  by_cases hl : ls = []
  · rw [if_pos hl]; exact h1
  · rw [if_neg hl]
    obtain ⟨m1, m2, m3⟩ := bmay_iff.1 h1
    have hb := (lens_bd h2).1
    obtain ⟨_, e2⟩ := place_ok h2 (s := off) h3 h4
    have a1 := ord_ahead (off := off) m2 (by omega) h3 (Int.le_refl 0) m3
    have a3 := ord_behind (e := off + lens ls) m2 (by omega) h4 (Int.le_refl 0) m3
    rw [show max 0 (off + lens ls) = off + lens ls by omega] at a3
    refine bmay_iff.2 ⟨by simp only; split <;> omega, by simp only; split <;> omega, ?_⟩
    simp only
    have hsz : b.1 ≤ (if off + lens ls > b.1 then off + lens ls else b.1) := by split <;> omega
    have hsz2 : off + lens ls ≤ (if off + lens ls > b.1 then off + lens ls else b.1) := by split <;> omega
    rw [List.append_assoc]
    refine Ord.app (m := off) (by omega) ?_ h3 a1
    exact Ord.app (m := off + lens ls) hsz2 (a3.size_le hsz) (by omega) e2
theorem sel_ahead_nil {off size : Int} : ∀ {ps : List Prt} {a : Int}, off ≤ a → Ord size a ps → sel (fun p => pahead p off) ps = []
  | [], _, _, _ => rfl
  | p :: ps, a, ha, h => by
    have hf := fits_iff.1 h.1
    have := h.2.1
    have hp : pahead p off = ((0, 0, 0, 0), false) := by unfold pahead; rw [if_pos (by omega)]
    rw [sel_cons, sel_ahead_nil (a := p.1 + p.2.1) (by omega) h.2.2.2, hp]
    rfl
theorem sel_two {off e size : Int} (hoe : off ≤ e) (h1 : size ≤ 1099511627776) : ∀ {ps : List Prt} {a : Int}, 0 ≤ a → Ord size a ps → (sel (fun p => pahead p off) ps).length + (sel (fun p => pbehind p e) ps).length ≤ ps.length + 1
  | [], _, _, _ => by simp [sel]
  | p :: ps, a, ha, h => by
    have hf := fits_iff.1 h.1
    have g1 := h.2.1
    have g2 := h.2.2.1
    have ih := sel_two hoe h1 (ps := ps) (a := p.1 + p.2.1) (by omega) h.2.2.2
    rw [sel_cons, sel_cons, List.length_append, List.length_append, List.length_cons]
    have hw : wi (p.1 + p.2.1) = p.1 + p.2.1 := wi_id (by omega) (by omega)
    by_cases c1 : p.1 ≥ off
    · have : (if (pahead p off).2 = true then [(pahead p off).1] else []).length = 0 := by
        unfold pahead; rw [if_pos c1]; rfl
      have : (if (pbehind p e).2 = true then [(pbehind p e).1] else []).length ≤ 1 := by split <;> simp
      omega
    · by_cases c2 : p.1 + p.2.1 ≤ e
      · have : (if (pbehind p e).2 = true then [(pbehind p e).1] else []).length = 0 := by
          unfold pbehind; rw [hw, if_pos c2]; rfl
        have : (if (pahead p off).2 = true then [(pahead p off).1] else []).length ≤ 1 := by split <;> simp
        omega
      · rw [sel_ahead_nil (a := p.1 + p.2.1) (by omega) h.2.2.2]
        have h3 : (if (pbehind p e).2 = true then [(pbehind p e).1] else []).length ≤ 1 := by split <;> simp
        have h4 : (if (pahead p off).2 = true then [(pahead p off).1] else []).length ≤ 1 := by split <;> simp
        have := sel_len (fun p => pbehind p e) ps
        simp only [List.length_nil]
        omega
theorem bwrite_len {b : Bd} {off : Int} {ls : List Prt} (hlen : ls.length < 1000000000) (h : (bwrite b off ls).2 = 0) : (bwrite b off ls).1.2.length ≤ b.2.length + ls.length + 1 := by
  obtain ⟨h1, h2, h3, h4, h5⟩ := bwrite_ok hlen h
  rw [h5]
  by_cases hl : ls = []
  · rw [if_pos hl]; omega
  · rw [if_neg hl]
    obtain ⟨m1, m2, m3⟩ := bmay_iff.1 h1
    have hb := (lens_bd h2).1
    have := sel_two (off := off) (e := off + lens ls) (by omega) m2 (Int.le_refl 0) m3
    simp only [List.length_append, place_len]
    omega
theorem btrunc_may {b : Bd} {n : Int} : bmay (btrunc b n).1 = true := by
  unfold btrunc
  have h0 : bmay (0, []) = true := by decide
  split
  · exact h0
  · rename_i h1
    split
    · exact h0
    · rename_i h2
      obtain ⟨m1, m2, m3⟩ := bmay_iff.1 (by simpa using h1)
      exact bmay_iff.2 ⟨by show 0 ≤ n; omega, by show n ≤ _; omega, ord_ahead (off := n) m2 (by omega) (by omega) (Int.le_refl 0) m3⟩
theorem btrunc_len {b : Bd} {n : Int} : (btrunc b n).1.2.length ≤ b.2.length := by
  unfold btrunc
  split
  · simp
  · split
    · simp
    · exact sel_len _ _
theorem fits_in {p : Prt} (h : fits p = true) : inI p.2.2.1 := by
  have := fits_iff.1 h
  unfold inI
  simp only [Lit.wf, IntKind.min, IntKind.max, IntKind.signed, IntKind.bits, Bool.and_eq_true, decide_eq_true_eq]
  constructor <;> simp <;> omega
theorem may_fits {b : Bd} (h : bmay b = true) : ∀ p ∈ b.2, fits p = true := (bmay_iff.1 h).2.2.all
end Go.Wz
