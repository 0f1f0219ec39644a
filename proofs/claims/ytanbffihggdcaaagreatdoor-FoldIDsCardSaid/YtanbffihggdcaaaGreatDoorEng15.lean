/- Library functions that are met by the shelf's contracts: what they do in the engine's words. -/
import Derived.Test.YtanbffihggdcaaaGreatDoorEng14
import Derived.Lib.Split
import Derived.Lib.Join
set_option linter.unusedVariables false
set_option linter.unusedSimpArgs false
namespace Go.Eng
open Go.RowKit

/-- Whatever the callee left behind: what was known is known. -/
theorem Sees.below_of {B : Nat} {w0 w w' : World} {σ : Hp} (h : Sees B w0 σ w) {n : Nat} (hn : w.heap.size ≤ n) (hb : Below n w w') : Sees B w0 σ w' where
  below := h.below.trans (hb.mono (Nat.le_trans h.size hn))
  base := h.base
  obj b r o e := by
    have := h.obj b r o e
    have hlt : b < w.heap.size := (Array.getElem?_eq_some_iff.1 this).1
    rw [hb.block b (by omega)]; exact this
  own := h.own

/-! ### strings.Split -/
def splitM (g : Nat) (T : TypeId) (x : Ts [.c .str, .c .str]) : M (Ts [.c .slice]) :=
  M.chk (x.1.size < 4294967281 ∧ 1 ≤ x.2.size) (M.rd (ldR [.int .i64] ⟨g, 0, none⟩) fun _ =>
    M.new (.cells ((Lib.splitB x.2 0 (Lib.countB x.1 x.2) x.1).map Value.string).toArray T) fun b => M.pure ⟨some ⟨b, 0, none⟩, Lib.countB x.1 x.2 + 1, Lib.countB x.1 x.2 + 1⟩)
theorem split_sp {P : Program} {f : FuncId} {g : Nat} {T : TypeId}
    (h : ∀ (s sep : ByteArray) (m : Int) (w : World), s.size < 4294967281 → w.cell? ⟨g, 0, none⟩ = some (.int .i64 m) → 1 ≤ sep.size →
      Calls P f #[.string s, .string sep] w fun e w' => e = .returned (.slice (some ⟨w.heap.size, 0, none⟩) (Lib.countB s sep + 1) (Lib.countB s sep + 1)) ∧
        w' = w.alloc (.cells ((Lib.splitB sep 0 (Lib.countB s sep) s).map Value.string).toArray T)) : Sp P f [.c .str, .c .str] [.c .slice] (splitM g T) := by
  intro x B w0 σ w Q hs hq
  obtain ⟨⟨h1, h2⟩, r, e, hq⟩ := hq
  obtain ⟨hl, hc⟩ := ldVs_at (ldR_get e)
  have h0 := hs.cell (hc 0 (.int .i64 r) (by simp [csv, Tp.vals, Ce.val]))
  simp only [Nat.add_zero, Addr.add, if_true] at h0
  refine (h x.1 x.2 r w h1 h0 h2).mono ?_
  rintro e' w' ⟨rfl, rfl⟩
  exact ⟨_, _, rfl, hs.alloc _, hq _ hs.fresh⟩

/-! ### strings.Join -/
def strsOf : List Value → Option (List ByteArray)
  | [] => some []
  | .string s :: l => (strsOf l).map (s :: ·)
  | _ => none
theorem strsOf_eq : ∀ {l : List Value} {xs : List ByteArray}, strsOf l = some xs → l = xs.map Value.string
  | [], xs, h => by simp [strsOf] at h; subst h; rfl
  | v :: l, xs, h => by
    cases v <;> simp only [strsOf, Option.map_eq_some_iff, reduceCtorEq] at h
    obtain ⟨ys, h1, rfl⟩ := h
    simp [strsOf_eq h1]
theorem strsOf_map (xs : List ByteArray) : strsOf (xs.map Value.string) = some xs := by
  induction xs with
  | nil => rfl
  | cons x xs ih => simp [strsOf, ih]
/-- The cells of a row. -/
def rowVs (σ : Hp) (b o n : Nat) : Option (List Value) := match σ b with
  | some (_, .cells vs _ _) => some ((vs.toList.drop o).take n)
  | _ => none
theorem rowVs_mono {σ τ : Hp} (h : Hp.Le σ τ) {b o n : Nat} {l : List Value} (e : rowVs σ b o n = some l) : rowVs τ b o n = some l := by
  unfold rowVs at *
  cases hb : σ b with
  | none => rw [hb] at e; simp at e
  | some x => rw [h b x hb]; rw [hb] at e; exact e
def strsR (b o n : Nat) : Rd (List ByteArray) := ⟨fun σ => (rowVs σ b o n).bind strsOf, fun σ τ r h e => by
  cases hv : rowVs σ b o n with
  | none => rw [hv] at e; simp at e
  | some l => rw [rowVs_mono h hv]; rw [hv] at e; exact e⟩
theorem strsR_cells {σ : Hp} {b o n : Nat} {xs : List ByteArray} (h : (strsR b o n).get σ = some xs) : ∀ (j : Nat) x, xs[j]? = some x → σ.cell? ⟨b, o + j, none⟩ = some (.string x) := by
  intro j x hj
  have h : (rowVs σ b o n).bind strsOf = some xs := h
  unfold rowVs at h
  unfold Hp.cell?
  cases hb : σ b with
  | none => rw [hb] at h; simp at h
  | some y =>
    rw [hb] at h
    obtain ⟨r, ob⟩ := y
    cases ob with
    | cells vs T fr =>
      have h : strsOf ((vs.toList.drop o).take n) = some xs := h
      have he := strsOf_eq h
      have hx : ((vs.toList.drop o).take n)[j]? = some (.string x) := by rw [he]; simp [hj]
      rw [List.getElem?_take] at hx
      split at hx
      · simp only [List.getElem?_drop] at hx
        simpa using hx
      · simp at hx
    | _ => cases h
def joinM (x : Ts [.c .slice, .c .str]) : M (Ts [.c .str]) := if x.1.len = 0 then M.pure ⟨#[]⟩ else match x.1.a with
  | some ⟨b, o, none⟩ => M.rd (strsR b o x.1.len) fun xs => M.chk (xs.length = x.1.len ∧ x.1.len ≤ x.1.cap ∧ x.1.len ≤ 140737488355328 ∧ (Lib.join (xs.map (·.data.toList)) x.2.data.toList).length ≤ 140737488355328)
      (M.pure ⟨(Lib.join (xs.map (·.data.toList)) x.2.data.toList).toArray⟩)
  | _ => M.err
theorem join_sp {P : Program} {f : FuncId}
    (h0 : ∀ (a : Option Addr) (c : Nat) (sep : ByteArray) (w : World), Calls P f #[.slice a 0 c, .string sep] w fun e w' => e = .returned (.string ⟨#[]⟩) ∧ w' = w)
    (h : ∀ (bk o c : Nat) (xs : List ByteArray) (sep : ByteArray) (w : World), (∀ (j : Nat) x, xs[j]? = some x → w.cell? ⟨bk, o + j, none⟩ = some (.string x)) → bk < w.heap.size → xs.length ≤ 140737488355328 → xs.length ≤ c →
      (Lib.join (xs.map (·.data.toList)) sep.data.toList).length ≤ 140737488355328 →
      Calls P f #[.slice (some ⟨bk, o, none⟩) xs.length c, .string sep] w fun e w' => e = .returned (.string ⟨(Lib.join (xs.map (·.data.toList)) sep.data.toList).toArray⟩) ∧ Below w.heap.size w w') :
    Sp P f [.c .slice, .c .str] [.c .str] joinM := by
  intro x B w0 σ w Q hs hq
  unfold joinM at hq
  obtain ⟨s, sep⟩ := x
  split at hq
  · rename_i h1
    simp only at h1
    have := h0 s.a s.cap sep w
    rw [← h1] at this
    refine this.mono ?_
    rintro e' w' ⟨rfl, rfl⟩
    exact ⟨_, σ, rfl, hs, hq⟩
  split at hq
  · rename_i b o ha
    obtain ⟨xs, e, ⟨h1, h2, h3, h4⟩, hq⟩ := hq
    simp only at ha h1 h2 h3
    have hbk : b < w.heap.size := by
      have e : (rowVs σ b o s.len).bind strsOf = some xs := e
      unfold rowVs at e
      cases hb : σ b with
      | none => rw [hb] at e; simp at e
      | some y => exact (Array.getElem?_eq_some_iff.1 (hs.obj b y.1 y.2 hb)).1
    have := h b o s.cap xs sep w (fun j x hj => hs.cell (strsR_cells e j x hj)) hbk (by omega) (by omega) h4
    rw [h1, ← ha] at this
    refine this.mono ?_
    rintro e' w' ⟨rfl, hb⟩
    exact ⟨_, σ, rfl, hs.below_of (Nat.le_refl _) hb, hq⟩
  · exact hq.elim

end Go.Eng
