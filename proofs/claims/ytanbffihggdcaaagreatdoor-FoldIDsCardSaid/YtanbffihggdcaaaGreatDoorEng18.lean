/- maps.Clone; slices.Sorted(maps.Keys(m)) at string keys, in the engine's words. -/
import Derived.Test.YtanbffihggdcaaaGreatDoorEng17
import Derived.Sort.KeysCollected
set_option linter.unusedVariables false
set_option linter.unusedSimpArgs false
namespace Go.Eng
open Go.RowKit Go.Maps Go.Sort
open Go.Proofs (encStr)

/-! ### maps.Clone -/
def mapObjR (m : Nat) : Rd (Array MapEntry × Nat) where
  get σ := match σ m with
    | some (_, .map es clock) => some (es, clock)
    | _ => none
  mono σ τ r h e := by
    cases hs : σ m with
    | none => simp [hs] at e
    | some y => rw [hs] at e; simp only [h _ _ hs]; exact e
def cloneM (x : Option Nat) : M (Option Nat) := match x with
  | none => M.pure none
  | some m => M.rd (mapObjR m) fun r => M.new (.map r.1 r.2) fun b => M.pure (some b)
theorem mapObjR_get {m : Nat} {σ : Hp} {r : Array MapEntry × Nat} (e : (mapObjR m).get σ = some r) : ∃ fl, σ m = some (fl, .map r.1 r.2) := by
  simp only [mapObjR] at e
  split at e
  · rename_i fl es clock h
    simp only [Option.some.injEq] at e
    subst e
    exact ⟨fl, h⟩
  · cases e
theorem clone_sp {P : Program} {f : FuncId} (h : ∀ (b : Nat) (es : Array MapEntry) (clock : Nat) (w : World), w.heap[b]? = some (.map es clock) → Calls P f #[.map (some b)] w fun e w' => e = .returned (.map (some w.heap.size)) ∧ w' = w.alloc (.map es clock))
    (h0 : ∀ w, Calls P f #[.map none] w fun e w' => e = .returned (.map none) ∧ w' = w) : Sp P f [.c .map] [.c .map] cloneM := by
  intro x B w0 σ w Q hs hq
  cases x with
  | none =>
    refine (h0 w).mono ?_
    rintro e' w' ⟨rfl, rfl⟩
    exact ⟨none, σ, rfl, hs, hq⟩
  | some m =>
    obtain ⟨r, e, hq⟩ := hq
    obtain ⟨fl, hm⟩ := mapObjR_get e
    refine (h m r.1 r.2 w (hs.obj _ _ _ hm)).mono ?_
    rintro e' w' ⟨rfl, rfl⟩
    exact ⟨some w.heap.size, _, rfl, hs.alloc _, hq _ hs.fresh⟩

/-! ### Sorted at strings -/
def strsKOf : List MapEntry → Option (List (List UInt8))
  | [] => some []
  | e :: es => match e.key, strsKOf es with
    | .string s, some l => if s.size ≤ maxLen then some (s.data.toList :: l) else none
    | _, _ => none
open Classical in
noncomputable def keysRS (b : Nat) : Rd (List (List UInt8)) where
  get σ := match σ b with
    | some (_, .cells arr _ _) => match arr.toList with
      | [.map (some m)] => match σ m with
        | some (_, .map es clock) => if MapKept.Stamped es clock ∧ es.size ≤ maxLen then strsKOf es.toList else none
        | _ => none
      | _ => none
    | _ => none
  mono σ τ r h e := by
    simp only at e ⊢
    split at e
    · rename_i fl arr T fz hb
      rw [h _ _ hb]
      simp only
      split at e
      · rename_i m hm
        split at e
        · rename_i fl2 es clock hmb
          rw [h _ _ hmb]
          exact e
        · cases e
      · cases e
    · cases e
theorem keysRS_get {b : Nat} {σ : Hp} {ks : List (List UInt8)} (e : (keysRS b).get σ = some ks) : ∃ fl arr T fz m fl2 es clock, σ b = some (fl, .cells arr T fz) ∧ arr.toList = [.map (some m)] ∧ σ m = some (fl2, .map es clock) ∧ MapKept.Stamped es clock ∧ es.size ≤ maxLen ∧ strsKOf es.toList = some ks := by
  simp only [keysRS] at e
  split at e
  · rename_i fl arr T fz hb
    split at e
    · rename_i m hm
      split at e
      · rename_i fl2 es clock hmb
        split at e
        · rename_i hc
          exact ⟨fl, arr, T, fz, m, fl2, es, clock, hb, hm, hmb, hc.1, hc.2, e⟩
        · cases e
      · cases e
    · cases e
  · cases e
theorem keysRS_mk {b : Nat} {σ : Hp} {ks : List (List UInt8)} {fl : Bool} {arr : Array Value} {T : TypeId} {fz : Nat × Nat} {m : Nat} {fl2 : Bool} {es : Array MapEntry} {clock : Nat} (hb : σ b = some (fl, .cells arr T fz)) (hm : arr.toList = [.map (some m)]) (hmb : σ m = some (fl2, .map es clock))
    (h1 : MapKept.Stamped es clock) (h2 : es.size ≤ maxLen) (h3 : strsKOf es.toList = some ks) : (keysRS b).get σ = some ks := by
  simp only [keysRS, hb, hm, hmb, h1, h2, and_self, if_true, h3]
noncomputable def sortedMS (T : TypeId) (b : Nat) : M Sl := M.rd (keysRS b) fun ks => M.chk (ks.length * 16 ≤ 140737488355328 ∧ ks.length ≤ maxLen)
  (if ks = [] then M.pure ⟨none, 0, 0⟩ else
    M.any (fun x : Nat × List Value => ks.length ≤ x.1 ∧ x.2.length = x.1 ∧ x.2.take ks.length = (ks.mergeSort leB).map encStr)
      ⟨(ks.length, (ks.mergeSort leB).map encStr), Nat.le_refl _, by simp [List.length_mergeSort], by rw [List.take_of_length_le]; simp [List.length_mergeSort]⟩ fun x =>
      M.new (.cells x.2.toArray T) fun b => M.pure ⟨some ⟨b, 0, none⟩, ks.length, x.1⟩)
theorem strsKOf_rg {P : Program} {K : TypeId} (hK : P.underlying K = some .string) : ∀ (es : List MapEntry) (ks : List (List UInt8)), strsKOf es = some ks →
    (∀ x ∈ es, ∃ y, WideElems.rd (H := Unit) P K (fun _ => some (.nil, [])) x = some y) ∧ (es.map (WideElems.rg (H := Unit) P K (fun _ => some (.nil, [])))).map (fun p => strOf p.1) = ks
  | [], ks, h => by
    simp only [strsKOf, Option.some.injEq] at h
    subst h
    exact ⟨by simp, rfl⟩
  | e :: es, ks, h => by
    simp only [strsKOf] at h
    split at h
    · rename_i x l hk hl
      split at h
      · rename_i hw
        simp only [Option.some.injEq] at h
        subst h
        obtain ⟨h1, h2⟩ := strsKOf_rg hK es l hl
        have hkey : keyOf P K e.key = some (.string x.data.toList) := by
          rw [hk]
          simp [keyOf, hK, mapKey, hw]
        have hrd : WideElems.rd (H := Unit) P K (fun _ => some (.nil, [])) e = some (.string x.data.toList, .nil) := by
          simp [WideElems.rd, hkey]
        refine ⟨fun y hy => ?_, ?_⟩
        · rcases List.mem_cons.1 hy with rfl | hy
          · exact ⟨_, hrd⟩
          · exact h1 y hy
        · rw [List.map_cons, List.map_cons, h2]
          congr 1
          simp [WideElems.rg, hrd, strOf]
      · cases h
    · cases h
theorem sortedS_sp {P : Program} {f g : FuncId} {T K : TypeId} (hK : P.underlying K = some .string)
    (h : ∀ (Bm m nn : Nat) (D0 : DataW Unit) (w : World), Bm < w.heap.size → w.cell? ⟨Bm, 0, none⟩ = some (.map (some m)) → w.ownsMap P K (fun _ => some (.nil, [])) m nn D0 → Maps.size D0 ≤ maxLen → Maps.size D0 * 16 ≤ 140737488355328 →
      Calls P f #[.func (.func g) #[] #[.pointer (some ⟨Bm, 0, none⟩)]] w fun e w' => ∃ (v : Value) (ss : List (List UInt8)), e = .returned v ∧ ss.Perm (strKeys D0) ∧
        w'.ownsRow w.heap.size T 1 v ss.length ((ss.mergeSort fun x y => decide (x ≤ y)).map encStr) ∧ (v = .slice none 0 0 ↔ ss = []) ∧ Below w.heap.size w w') : Sp P f [.cl g] [.c .slice] (sortedMS T) := by
  intro x B w0 σ w Q hs hq
  obtain ⟨ks, e, ⟨c1, c2⟩, hq⟩ := hq
  obtain ⟨fl, arr, T', fz, m, fl2, es, clock, h1, h2, h3, h4, h5, h6⟩ := keysRS_get e
  obtain ⟨r1, r2⟩ := strsKOf_rg hK _ _ h6
  have hob := hs.obj _ _ _ h1
  have hlt : (show Nat from x) < w.heap.size := (Array.getElem?_eq_some_iff.1 hob).1
  have hcell : w.cell? ⟨x, 0, none⟩ = some (.map (some m)) := by
    unfold World.cell?
    rw [hob]
    simp only [Option.isSome_none, Bool.false_eq_true, if_false]
    rw [← Array.getElem?_toList, h2]
    rfl
  have hsz : ((es.toList.map (WideElems.rg (H := Unit) P K (fun _ => some (.nil, [])))).foldr DataW.insert []).length = ks.length := by
    rw [length_sorted, ← r2]; simp
  have hown : w.ownsMap P K (fun _ => some ((DataW.nil : DataW Unit), [])) m es.size (.map ((es.toList.map (WideElems.rg P K (fun _ => some (.nil, [])))).foldr DataW.insert [])) :=
    ⟨es, clock, hs.obj _ _ _ h3, ⟨h5, h4, r1⟩, Nat.le_refl _, rfl⟩
  refine (h x m es.size _ w hlt hcell hown (by show List.length _ ≤ _; rw [hsz]; exact c2) (by show List.length _ * 16 ≤ _; rw [hsz]; exact c1)).mono ?_
  rintro e' w' ⟨v, ss, rfl, hp, hrow, hnil, hb⟩
  have hperm : ss.Perm ks := by
    refine hp.trans ?_
    rw [← r2]
    exact (WideShapes.sorted_perm _).map _
  have hlen := hperm.length_eq
  have hs' := hs.below_of (Nat.le_refl _) hb
  by_cases hks : ks = []
  · rw [if_pos hks] at hq
    have : ss = [] := by
      apply List.eq_nil_of_length_eq_zero
      rw [hlen, hks]; rfl
    exact ⟨⟨none, 0, 0⟩, σ, by rw [hnil.2 this]; rfl, hs', hq⟩
  · rw [if_neg hks] at hq
    obtain ⟨g1, g2⟩ := hrow
    rcases g2 with ⟨g3, _⟩ | ⟨b, cap, cur, g3, g4, g5, g6, g7, g8, g9⟩
    · have := hnil.1 g3
      subst this
      exact absurd (List.eq_nil_of_length_eq_zero (by simpa using hlen.symm)) hks
    · have hfr : σ b = none := by
        cases hσ : σ b with
        | none => rfl
        | some y =>
          have := hs.obj b y.1 y.2 hσ
          have := (Array.getElem?_eq_some_iff.1 this).1
          omega
      have hq' := hq (cap, cur.toList) ⟨by simp only; omega, by simp only [Array.length_toList]; omega, by
        simp only
        rw [← hlen]
        rw [Nat.mul_one] at g9
        rw [g9]
        exact congrArg _ (mergeSort_of_perm hperm)⟩ b hfr
      refine ⟨⟨some ⟨b, 0, none⟩, ks.length, cap⟩, _, by rw [g3, hlen]; rfl, ⟨hs'.below, hs'.base, fun k r o ek => ?_, fun k o ek => ?_⟩, hq'⟩
      · unfold Hp.set at ek
        split at ek
        · rename_i hk
          subst hk
          simp only [Option.some.injEq, Prod.mk.injEq] at ek
          rw [g5, ← ek.2]
        · exact hs'.obj k r o ek
      · unfold Hp.set at ek
        split at ek
        · rename_i hk
          subst hk
          have := hs.size
          omega
        · exact hs'.own k o ek
end Go.Eng
