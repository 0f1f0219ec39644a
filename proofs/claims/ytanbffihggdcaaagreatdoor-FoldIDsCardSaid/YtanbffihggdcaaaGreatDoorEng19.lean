/- Arguments: what is read ahead of a call, as rows in the engine's memory. -/
import Derived.Test.YtanbffihggdcaaaGreatDoorSpec4
import Derived.DataReads
import Derived.ChangeArms
set_option linter.unusedVariables false
set_option linter.unusedSimpArgs false
namespace Go.Eng
open Go.RowKit
theorem spot_of_add {a : Addr} {n : Nat} (hs : (a.add (0 * n)).spot = none) : a.spot = none := by
  rw [Nat.zero_mul] at hs
  exact hs
/-- All of a world, to be read. -/
def worldHp (W : World) : Hp := fun b => (W.heap[b]?).map fun o => (false, o)
theorem world_sees (W : World) : Sees W.heap.size W (worldHp W) W := by
  refine ⟨Below.refl _ _, Nat.le_refl _, fun b r o h => ?_, fun b o h => ?_⟩
  · unfold worldHp at h
    cases e : W.heap[b]? with
    | none => rw [e] at h; cases h
    | some x => rw [e] at h; simp at h; rw [h.2]
  · unfold worldHp at h
    cases e : W.heap[b]? with
    | none => rw [e] at h; cases h
    | some x => rw [e] at h; simp at h
theorem world_cell {W : World} {a : Addr} {v : Value} (h : W.cell? a = some v) : a.spot = none ∧ ∃ arr T fz, worldHp W a.block = some (false, .cells arr T fz) ∧ arr[a.off]? = some v := by
  unfold World.cell? at h
  cases e : W.heap[a.block]? with
  | none => simp [e] at h
  | some o =>
    rw [e] at h
    cases o with
    | cells arr T fz =>
      simp only at h
      split at h
      · cases h
      · rename_i hs
        exact ⟨by simpa using hs, arr, T, fz, by unfold worldHp; rw [e]; rfl, h⟩
    | _ => simp at h
section
variable {W : World} {base : Nat}
/-- Cells that stand one behind another. -/
theorem world_cells {a : Addr} {n : Nat} {vs : List Value} (hn : 0 < n) (h : W.cells? base a n = some vs) : a.spot = none ∧ vs.length = n ∧ ∃ arr T fz, worldHp W a.block = some (false, .cells arr T fz) ∧ a.off + n ≤ arr.size ∧ (arr.toList.drop a.off).take n = vs := by
  obtain ⟨h1, h2, h3⟩ := World.cells?_some h
  have hadd : ∀ i, a.spot = none → a.add i = ⟨a.block, a.off + i, none⟩ := fun i hs => by
    obtain ⟨b, o, s⟩ := a
    simp only at hs
    subst hs
    rw [add_at]
  have h0 := h3 0 hn
  rw [List.getElem?_eq_getElem (by omega)] at h0
  obtain ⟨hs, arr, T, fz, hb, hv⟩ := world_cell h0
  have hs' : a.spot = none := by
    obtain ⟨b, o, s⟩ := a
    cases s with
    | none => rfl
    | some x => unfold Addr.add at hs; split at hs <;> simp_all
  have hbk : (a.add 0).block = a.block := by rw [hadd 0 hs']
  rw [hbk] at hb
  have each : ∀ i, i < n → arr[a.off + i]? = vs[i]? := by
    intro i hi
    have hi3 := h3 i hi
    rw [List.getElem?_eq_getElem (by omega)] at hi3 ⊢
    obtain ⟨_, arr2, T2, fz2, hb2, hv2⟩ := world_cell hi3
    rw [hadd i hs'] at hb2 hv2
    rw [hb] at hb2
    simp only [Option.some.injEq, Prod.mk.injEq, Obj.cells.injEq, true_and] at hb2
    obtain ⟨rfl, rfl, rfl⟩ := hb2
    exact hv2
  have hsz : a.off + n ≤ arr.size := by
    have := each (n - 1) (by omega)
    rw [List.getElem?_eq_getElem (by omega)] at this
    have := (Array.getElem?_eq_some_iff.1 this).1
    omega
  refine ⟨hs', h2, arr, T, fz, hb, hsz, ?_⟩
  apply List.ext_getElem?
  intro i
  rw [List.getElem?_take]
  split
  · rename_i hi
    rw [List.getElem?_drop, Array.getElem?_toList, each i hi]
  · rename_i hi
    rw [List.getElem?_eq_none (by omega)]
/-- Elements that are read one by one make a row. -/
theorem rows_of {α : Type} {n : Nat} {enc : α → List Value} {R : α → Prop} (hpos : 0 < n) {ad : Addr} {len cap : Nat} (hcap : len ≤ cap) (h : ∀ i, i < len → ∃ x vs, W.cells? base (ad.add (i * n)) n = some vs ∧ vs = enc x ∧ R x) : ∃ xs, RowAt n enc (worldHp W) ⟨some ad, len, cap⟩ xs ∧ ∀ x ∈ xs, R x := by
  refine ⟨(List.finRange len).map fun i => Classical.choose (h i.1 i.2), ⟨by simp, hcap, ?_⟩, fun x hx => ?_⟩
  · by_cases h0 : len = 0
    · left; subst h0; rfl
    right
    have hg : ∀ i (hi : i < len), ∃ vs, W.cells? base (ad.add (i * n)) n = some vs ∧ vs = enc (Classical.choose (h i hi)) := fun i hi => by
      obtain ⟨vs, h1, h2, _⟩ := Classical.choose_spec (h i hi)
      exact ⟨vs, h1, h2⟩
    obtain ⟨vs0, g1, _⟩ := hg 0 (by omega)
    obtain ⟨hs0, _, arr, T, fz, hb, _, _⟩ := world_cells hpos g1
    have hsp : ad.spot = none := spot_of_add hs0
    obtain ⟨b, o, s⟩ := ad
    simp only at hsp
    subst hsp
    rw [add_at] at hb
    refine ⟨b, o, false, arr, T, fz, rfl, hb, fun i x hx => ?_⟩
    obtain ⟨hi, rfl⟩ := List.getElem?_eq_some_iff.1 hx
    have hi' : i < len := by simpa using hi
    obtain ⟨vs, g3, g4⟩ := hg i hi'
    rw [add_at] at g3
    obtain ⟨_, g5, arr2, T2, fz2, hb2, g6, g7⟩ := world_cells hpos g3
    simp only at hb2 g6 g7
    rw [hb] at hb2
    simp only [Option.some.injEq, Prod.mk.injEq, Obj.cells.injEq, true_and] at hb2
    obtain ⟨rfl, rfl, rfl⟩ := hb2
    refine ⟨by omega, ?_⟩
    rw [g7, g4]
    simp
  · obtain ⟨i, _, rfl⟩ := List.mem_map.1 hx
    obtain ⟨vs, _, _, h3⟩ := Classical.choose_spec (h i.1 i.2)
    exact h3
end
section
variable {H : Type} {enc : TypeId × Value → H} {P : Program} {W : World} {base : Nat} {sp : Nat → Bool} {held : Bool}
/-- A slice whose elements read as what they are. -/
theorem slice_rows {α : Type} {n : Nat} {ec : α → List Value} {R : α → Prop} (hpos : 0 < n) {t e : TypeId} (hu : P.underlying t = some (.slice e)) (hc : P.cellsOf e = n) {fuel : Nat} {vs : List Value} {x : DataW H × List MemPlace} (h : DataW.trod enc P W base sp held fuel t vs = some x)
    (hel : ∀ fuel cs y, DataW.trod enc P W base sp held fuel e cs = some y → ∃ a, cs = ec a ∧ R a) : ∃ s : Sl, vs = [.slice s.a s.len s.cap] ∧ ∃ xs, RowAt n ec (worldHp W) s xs ∧ ∀ a ∈ xs, R a := by
  rcases DataW.trod_slice hu h with ⟨h0, _⟩ | ⟨a, len, cap, elems, rest, k, _, rfl, rfl, hb, hl, hm, hlen, hel2, _, _⟩
  · exact ⟨⟨none, 0, 0⟩, h0, [], RowAt.nil none, by simp⟩
  · refine ⟨⟨some a, len, cap⟩, rfl, ?_⟩
    refine rows_of (base := base) hpos hl fun i hi => ?_
    have := hel2 i hi
    rw [List.getElem?_eq_getElem (by omega), Option.bind_eq_some_iff] at this
    obtain ⟨cs, h1, h2⟩ := this
    obtain ⟨y, h3, h4⟩ := hel _ _ _ h2
    rw [hc] at h1
    exact ⟨y, cs, h1, h3, h4⟩
end
end Go.Eng
