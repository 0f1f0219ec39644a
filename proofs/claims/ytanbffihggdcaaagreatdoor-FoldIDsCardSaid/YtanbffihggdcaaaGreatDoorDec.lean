/- What an argument of the seat reads as: deeds. -/
import Derived.Test.YtanbffihggdcaaaGreatDoorEng19
import Derived.Test.YtanbffihggdcaaaGreatDoorLwA
import Derived.KernelRfl
import Derived.WideShapes
set_option linter.unusedVariables false
set_option linter.unusedSimpArgs false
set_option maxRecDepth 100000
namespace Go.Wz
open Go.Proofs Go.Eng Go.RowKit
section
variable {H : Type} {enc : TypeId × Value → H} {W : World} {base : Nat} {sp : Nat → Bool} {held : Bool} {fuel : Nat} {cs : List Value} {x : DataW H × List MemPlace}
theorem cells2 : Tryz.prog.cellsOf 2 = 1 := by kernel_rfl
theorem cells3 : Tryz.prog.cellsOf 3 = 1 := by kernel_rfl
theorem cells5 : Tryz.prog.cellsOf 5 = 1 := by kernel_rfl
theorem cells9 : Tryz.prog.cellsOf 9 = 1 := by kernel_rfl
theorem cells29 : Tryz.prog.cellsOf 29 = 1 := by kernel_rfl
theorem cells32 : Tryz.prog.cellsOf 32 = 1 := by kernel_rfl
theorem cells31 : Tryz.prog.cellsOf 31 = 6 := by kernel_rfl
theorem cells34 : Tryz.prog.cellsOf 34 = 7 := by kernel_rfl
theorem cells149 : Tryz.prog.cellsOf 149 = 4 := by kernel_rfl
theorem dec_slice {t e : TypeId} (hu : Tryz.prog.underlying t = some (.slice e)) (h : DataW.trod enc Tryz.prog W base sp held fuel t cs = some x) : ∃ s : Sl, cs = [.slice s.a s.len s.cap] := by
  rcases DataW.trod_slice hu h with ⟨h0, _⟩ | ⟨a, len, cap, elems, rest, k, _, rfl, _⟩
  · exact ⟨⟨none, 0, 0⟩, h0⟩
  · exact ⟨⟨some a, len, cap⟩, rfl⟩
theorem take_one {cs : List Value} {i : Nat} {v : Value} (h : (cs.drop i).take 1 = [v]) : cs[i]? = some v := by
  have := congrArg (·[0]?) h
  simpa [List.getElem?_take, List.getElem?_drop] using this
theorem list_of_get {cs : List Value} {vs : List Value} (hl : cs.length = vs.length) (h : ∀ i, i < vs.length → cs[i]? = vs[i]?) : cs = vs := by
  apply List.ext_getElem?
  intro i
  by_cases hi : i < vs.length
  · exact h i hi
  · rw [List.getElem?_eq_none (by omega), List.getElem?_eq_none (by omega)]
theorem dec_part (h : DataW.trod enc Tryz.prog W base sp held fuel 149 cs = some x) : ∃ p : Prt, cs = encP p ∧ True := by
  obtain ⟨xs, n, rfl, rfl, hl, hxs, hf⟩ := DataW.trod_struct Tryz.underlying149 h
  rw [cells149] at hl
  have h0 : DataW.trod enc Tryz.prog W base sp held n 2 ((cs.drop 0).take (Tryz.prog.cellsOf 2)) = xs[0]? := hf 0 _ rfl
  have h1 : DataW.trod enc Tryz.prog W base sp held n 3 ((cs.drop 1).take (Tryz.prog.cellsOf 3)) = xs[1]? := hf 1 _ rfl
  have h2 : DataW.trod enc Tryz.prog W base sp held n 3 ((cs.drop 2).take (Tryz.prog.cellsOf 3)) = xs[2]? := hf 2 _ rfl
  have h3 : DataW.trod enc Tryz.prog W base sp held n 3 ((cs.drop 3).take (Tryz.prog.cellsOf 3)) = xs[3]? := hf 3 _ rfl
  simp only [cells2, cells3] at h0 h1 h2 h3
  have hs : xs.length = 4 := hxs
  rw [List.getElem?_eq_getElem (by omega)] at h0 h1 h2 h3
  obtain ⟨a, e0, _, _⟩ := DataW.trod_int Tryz.underlying2 h0
  obtain ⟨b, e1, _, _⟩ := DataW.trod_int Tryz.underlying3 h1
  obtain ⟨c, e2, _, _⟩ := DataW.trod_int Tryz.underlying3 h2
  obtain ⟨d, e3, _, _⟩ := DataW.trod_int Tryz.underlying3 h3
  refine ⟨(a, b, c, d), list_of_get hl fun i hi => ?_, trivial⟩
  have hi : i < 4 := hi
  match i, hi with
  | 0, _ => exact take_one e0
  | 1, _ => exact take_one e1
  | 2, _ => exact take_one e2
  | 3, _ => exact take_one e3
theorem dec_parts (h : DataW.trod enc Tryz.prog W base sp held fuel 32 cs = some x) : ∃ s : Sl, cs = [.slice s.a s.len s.cap] ∧ ∃ ps, PartsAt (worldHp W) s ps := by
  obtain ⟨s, h1, ps, h2, _⟩ := slice_rows (by decide) Tryz.underlying32 cells149 h fun _ _ _ h => dec_part h
  exact ⟨s, h1, ps, h2⟩
theorem dec_event (h : DataW.trod enc Tryz.prog W base sp held fuel 31 cs = some x) : ∃ e : EvT, cs = encEv e := by
  obtain ⟨xs, n, rfl, rfl, hl, hxs, hf⟩ := DataW.trod_struct Tryz.underlying31 h
  rw [cells31] at hl
  have h0 : DataW.trod enc Tryz.prog W base sp held n 3 ((cs.drop 0).take (Tryz.prog.cellsOf 3)) = xs[0]? := hf 0 _ rfl
  have h1 : DataW.trod enc Tryz.prog W base sp held n 9 ((cs.drop 1).take (Tryz.prog.cellsOf 9)) = xs[1]? := hf 1 _ rfl
  have h2 : DataW.trod enc Tryz.prog W base sp held n 9 ((cs.drop 2).take (Tryz.prog.cellsOf 9)) = xs[2]? := hf 2 _ rfl
  have h3 : DataW.trod enc Tryz.prog W base sp held n 2 ((cs.drop 3).take (Tryz.prog.cellsOf 2)) = xs[3]? := hf 3 _ rfl
  have h4 : DataW.trod enc Tryz.prog W base sp held n 2 ((cs.drop 4).take (Tryz.prog.cellsOf 2)) = xs[4]? := hf 4 _ rfl
  have h5 : DataW.trod enc Tryz.prog W base sp held n 29 ((cs.drop 5).take (Tryz.prog.cellsOf 29)) = xs[5]? := hf 5 _ rfl
  simp only [cells2, cells3, cells9, cells29] at h0 h1 h2 h3 h4 h5
  have hs : xs.length = 6 := hxs
  rw [List.getElem?_eq_getElem (by omega)] at h0 h1 h2 h3 h4 h5
  obtain ⟨a, e0, _, _⟩ := DataW.trod_int Tryz.underlying3 h0
  obtain ⟨b, e1, _, _⟩ := DataW.trod_string Tryz.underlying9 h1
  obtain ⟨c, e2, _, _⟩ := DataW.trod_string Tryz.underlying9 h2
  obtain ⟨d, e3, _, _⟩ := DataW.trod_int Tryz.underlying2 h3
  obtain ⟨e, e4, _, _⟩ := DataW.trod_int Tryz.underlying2 h4
  obtain ⟨s, e5⟩ := dec_slice Tryz.underlying29 h5
  refine ⟨(a, b, c, d, e, s), list_of_get hl fun i hi => ?_⟩
  have hi : i < 6 := hi
  match i, hi with
  | 0, _ => exact take_one e0
  | 1, _ => exact take_one e1
  | 2, _ => exact take_one e2
  | 3, _ => exact take_one e3
  | 4, _ => exact take_one e4
  | 5, _ => exact take_one e5
theorem dec_deed (h : DataW.trod enc Tryz.prog W base sp held fuel 34 cs = some x) : ∃ d : EvT × Sl, cs = encDd d ∧ ∃ ps, PartsAt (worldHp W) d.2 ps := by
  obtain ⟨xs, n, rfl, rfl, hl, hxs, hf⟩ := DataW.trod_struct Tryz.underlying34 h
  rw [cells34] at hl
  have h0 : DataW.trod enc Tryz.prog W base sp held n 31 ((cs.drop 0).take (Tryz.prog.cellsOf 31)) = xs[0]? := hf 0 _ rfl
  have h1 : DataW.trod enc Tryz.prog W base sp held n 32 ((cs.drop 6).take (Tryz.prog.cellsOf 32)) = xs[1]? := hf 1 _ rfl
  simp only [cells31, cells32] at h0 h1
  have hs : xs.length = 2 := hxs
  rw [List.getElem?_eq_getElem (by omega)] at h0 h1
  obtain ⟨e, e0⟩ := dec_event h0
  obtain ⟨s, e1, ps, hp⟩ := dec_parts h1
  refine ⟨(e, s), ?_, ps, hp⟩
  unfold encDd
  rw [← e0, ← e1]
  simp only [List.drop_zero]
  conv => lhs; rw [← List.take_append_drop 6 cs]
  congr 1
  rw [List.take_of_length_le (by rw [List.length_drop]; omega)]
theorem dec_deeds (h : DataW.trod enc Tryz.prog W base sp held fuel 22 cs = some x) : ∃ s : Sl, cs = [.slice s.a s.len s.cap] ∧ ∃ ds, DeedsAt (worldHp W) s ds := by
  obtain ⟨s, h1, ds, h2, h3⟩ := slice_rows (by decide) Tryz.underlying22 cells34 h fun _ _ _ h => dec_deed h
  refine ⟨s, h1, ds.attach.map fun d => (d.1.1, d.1.2, Classical.choose (h3 d.1 d.2)), ⟨?_, fun d hd => ?_⟩⟩
  · rw [List.map_map]
    have : (ds.attach.map ((fun d : Deed => (d.1, d.2.1)) ∘ fun d => (d.1.1, d.1.2, Classical.choose (h3 d.1 d.2)))) = ds := by
      conv => rhs; rw [← List.attach_map_subtype_val ds]
      rfl
    rw [this]
    exact h2
  · obtain ⟨a, _, rfl⟩ := List.mem_map.1 hd
    exact Classical.choose_spec (h3 a.1 a.2)
theorem arg_deeds {r : Reach} {b0 : Nat} {v : Value} (hok : Value.okWide Tryz.prog W r b0 22 v) (h : DataW.trod enc Tryz.prog W base sp held fuel 22 v.cells.toList = some x) : ∃ (s : Sl) (ds : List Deed), v = .slice s.a s.len s.cap ∧ DeedsAt (worldHp W) s ds := by
  obtain ⟨a, l, c, rfl⟩ := WideShapes.okWide_slice Tryz.underlying22 hok
  obtain ⟨s, h1, ds, h2⟩ := dec_deeds h
  have h1 : [Value.slice a l c] = [Value.slice s.a s.len s.cap] := h1
  simp only [List.cons.injEq, and_true] at h1
  exact ⟨s, ds, h1, h2⟩
theorem arg_byte {r : Reach} {b0 : Nat} {v : Value} (hok : Value.okWide Tryz.prog W r b0 5 v) (h : DataW.trod enc Tryz.prog W base sp held fuel 5 v.cells.toList = some x) : ∃ n : Int, v = .int .u8 n ∧ 0 ≤ n ∧ n ≤ 255 := by
  obtain ⟨n, rfl⟩ := WideShapes.okWide_int Tryz.underlying5 hok
  obtain ⟨m, h1, _, h2⟩ := DataW.trod_int Tryz.underlying5 h
  have h1 : [Value.int .u8 n] = [Value.int .u8 m] := h1
  simp only [List.cons.injEq, and_true] at h1
  cases h1
  simp only [Lit.wf, Bool.and_eq_true, decide_eq_true_eq] at h2
  exact ⟨n, rfl, by simpa [IntKind.min, IntKind.max, IntKind.bits, IntKind.signed] using h2⟩
end
end Go.Wz
