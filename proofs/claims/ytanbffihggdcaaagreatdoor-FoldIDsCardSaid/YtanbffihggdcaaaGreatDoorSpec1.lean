/- Rows in memory: slices of strings, of numbers, of structs; how an element is read. -/
import Derived.Test.YtanbffihggdcaaaGreatDoorSpec0
set_option linter.unusedVariables false
set_option linter.unusedSimpArgs false
namespace Go.Eng

/-- A row holds xs, each element in n cells. -/
structure RowAt {α : Type} (n : Nat) (enc : α → List Value) (σ : Hp) (s : Sl) (xs : List α) : Prop where
  len : s.len = xs.length
  cap : s.len ≤ s.cap
  at_ : xs = [] ∨ ∃ b o fl arr T fz, s.a = some ⟨b, o, none⟩ ∧ σ b = some (fl, .cells arr T fz) ∧ ∀ (i : Nat) x, xs[i]? = some x → o + i * n + n ≤ arr.size ∧ (arr.toList.drop (o + i * n)).take n = enc x
theorem RowAt.le {α : Type} {n : Nat} {enc : α → List Value} {σ τ : Hp} {s : Sl} {xs : List α} (h : RowAt n enc σ s xs) (hl : Hp.Le σ τ) : RowAt n enc τ s xs := by
  refine ⟨h.len, h.cap, ?_⟩
  rcases h.at_ with e | ⟨b, o, fl, arr, T, fz, h1, h2, h3⟩
  · exact .inl e
  · exact .inr ⟨b, o, fl, arr, T, fz, h1, hl _ _ h2, h3⟩
theorem RowAt.nil {α : Type} {n : Nat} {enc : α → List Value} {σ : Hp} (c : Option Addr) : RowAt n enc σ ⟨c, 0, 0⟩ [] := ⟨rfl, Nat.le_refl _, .inl rfl⟩
/-- The first k of a row. -/
theorem RowAt.take {α : Type} {n : Nat} {enc : α → List Value} {σ : Hp} {s : Sl} {xs : List α} (h : RowAt n enc σ s xs) (k : Nat) (hk : k ≤ xs.length) : RowAt n enc σ ⟨s.a, k, s.cap⟩ (xs.take k) := by
  refine ⟨by simp; omega, by have := h.cap; have := h.len; simp only; omega, ?_⟩
  rcases h.at_ with e | ⟨b, o, fl, arr, T, fz, h1, h2, h3⟩
  · exact .inl (by simp [e])
  · refine .inr ⟨b, o, fl, arr, T, fz, h1, h2, fun i x hx => h3 i x ?_⟩
    rw [List.getElem?_take] at hx
    split at hx
    · exact hx
    · cases hx
/-- An element is read. -/
theorem RowAt.get {α B : Type} {n : Nat} {enc : α → List Value} {σ : Hp} {s : Sl} {xs : List α} (h : RowAt n enc σ s xs) {i : Int} {x : α} (hi : 0 ≤ i) (hx : xs[i.toNat]? = some x) {cs : List Ce} (hcs : cs.length = n) {r : Cs cs} (hr : cso cs (enc x) = some r)
    {k : Cs cs → M B} {Q : B → Hp → Prop} (hk : (k r).run Q σ) : (ixA s.a s.len i n fun a => ld cs a k).run Q σ := by
  have hlt : i.toNat < xs.length := (List.getElem?_eq_some_iff.1 hx).1
  rcases h.at_ with e | ⟨b, o, fl, arr, T, fz, h1, h2, h3⟩
  · subst e; simp at hlt
  · obtain ⟨h4, h5⟩ := h3 _ _ hx
    refine ⟨_, h1, ⟨hi, by have := h.len; omega⟩, ?_⟩
    rw [add_at]
    exact ld_run h2 (by omega) (by rw [hcs, h5]; exact hr) hk
end Go.Eng
