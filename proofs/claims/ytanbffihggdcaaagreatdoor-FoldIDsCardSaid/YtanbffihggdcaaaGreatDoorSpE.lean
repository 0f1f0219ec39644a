/- Paths: what the program's path functions compute. -/
import Derived.Test.YtanbffihggdcaaaGreatDoorSpec1
import Derived.Lib.SplitLaws
import Derived.Test.YtanbffihggdcaaaGreatDoorWalk3
set_option linter.unusedVariables false
set_option linter.unusedSimpArgs false
namespace Go.Wz
open Go.Proofs Go.Eng

theorem scmp_eql (x y : ByteArray) : scmp .eql x y = decide (x = y) := by
  show (x.toList == y.toList) = _
  rw [← beq_toListBytes]
  show (x.data == y.data) = _
  by_cases h : x = y
  · subst h; simp
  · have : x.data ≠ y.data := fun e => h (by cases x; cases y; simp_all)
    simp [h, this]
def goodC (c : UInt8) : Bool := decide (33 ≤ c.toNat ∧ c.toNat ≤ 126 ∧ c.toNat ≠ 47)
def pname (s : ByteArray) : Bool := decide (1 ≤ s.size ∧ s.size ≤ 16 ∧ s ≠ ⟨#[46]⟩ ∧ s ≠ ⟨#[46, 46]⟩) && s.data.toList.all goodC
theorem byteAt_get {s : ByteArray} {i : Int} (h0 : 0 ≤ i) (h1 : i < s.size) : ∃ c, s.data.toList[i.toNat]? = some c ∧ byteAt s i = c.toNat := by
  have hlt : i.toNat < s.size := by omega
  refine ⟨s[i.toNat], ?_, ?_⟩
  · have : i.toNat < s.data.size := hlt
    rw [Array.getElem?_toList, Array.getElem?_eq_getElem this]; rfl
  · unfold byteAt
    rw [getElem?_pos s i.toNat hlt]
theorem Name_run {N : Nat} {s : ByteArray} {Q : Bool → Hp → Prop} {σ : Hp} (hN : 16 < N) (h : Q (pname s) σ) : (path_Name N s).run Q σ := by
  unfold path_Name
  simp only [bind_run, pure_run, vl, cnd_run, decide_eq_true_eq, scmp_eql]
  by_cases hb : (1 ≤ s.size ∧ s.size ≤ 16 ∧ s ≠ ⟨#[46]⟩ ∧ s ≠ ⟨#[46, 46]⟩)
  · obtain ⟨b1, b2, b3, b4⟩ := hb
    rw [if_neg (by omega), if_neg (by omega), if_neg b3]
    simp only [b4, decide_false, Bool.false_eq_true, if_false]
    refine M.loop_run (fun i τ => τ = σ ∧ 0 ≤ i ∧ i ≤ (s.size : Int) ∧ pname s = (s.data.toList.drop i.toNat).all goodC) (fun i _ => s.size - i.toNat) _ _ ?_ N 0 σ ⟨rfl, by simp, by simp, by simp [pname, b1, b2, b3, b4]⟩ (by simp; omega)
    rintro i τ ⟨rfl, h0, h1, h2⟩
    unfold path_Name_L0
    simp only [vl, cnd_run, decide_eq_true_eq, pure_run, bind_run]
    split
    · rename_i hlt
      obtain ⟨c, hc, hv⟩ := byteAt_get h0 hlt
      have hd : s.data.toList.drop i.toNat = c :: s.data.toList.drop (i.toNat + 1) := by
        have := (List.getElem?_eq_some_iff.1 hc)
        obtain ⟨hl, rfl⟩ := this
        exact List.drop_eq_getElem_cons hl
      rw [hd, List.all_cons] at h2
      have hw : wi (i + 1) = i + 1 := wi_id (by omega) (by omega)
      have h47 : byteAt (⟨#[47]⟩ : ByteArray) 0 = 47 := by decide
      refine ⟨⟨h0, hlt⟩, ?_⟩
      simp only [hv, cnd_run, decide_eq_true_eq, pure_run, h47, hw]
      have step : goodC c = true → pname s = (s.data.toList.drop (i + 1).toNat).all goodC := fun hg => by
        rw [h2, hg, Bool.true_and]; congr 2; omega
      have bad : goodC c = false → pname s = false := fun hg => by rw [h2, hg, Bool.false_and]
      split
      · rename_i h33
        have : pname s = false := bad (by simp [goodC]; omega)
        simp only [if_true]
        exact this ▸ h
      · refine ⟨⟨h0, hlt⟩, ?_⟩
        simp only [hv, cnd_run, decide_eq_true_eq, pure_run]
        split
        · have : pname s = false := bad (by simp [goodC]; omega)
          simp only [if_true]
          exact this ▸ h
        · refine ⟨⟨h0, hlt⟩, ?_⟩
          refine ⟨⟨by decide, by decide⟩, ?_⟩
          simp only [hv, h47, pure_run, beq_iff_eq]
          split
          · have : pname s = false := bad (by simp [goodC]; omega)
            exact this ▸ h
          · refine ⟨⟨by trivial, by omega, by omega, step ?_⟩, by omega⟩
            simp [goodC]; omega
    · rename_i hge
      have : s.data.toList.drop i.toNat = [] := List.drop_eq_nil_of_le (by
        have : s.data.toList.length = s.size := by show s.data.toList.length = s.data.size; simp
        omega)
      rw [this] at h2
      simp only [List.all_nil] at h2
      exact h2 ▸ h
  · have hf : pname s = false := by simp only [pname, hb, decide_false, Bool.false_and]
    rw [hf] at h
    split
    · simpa using h
    · split
      · simpa using h
      · split
        · simpa using h
        · rename_i a1 a2 a3
          have : s = ⟨#[46, 46]⟩ := by
            by_cases e : s = ⟨#[46, 46]⟩
            · exact e
            · exact absurd ⟨by omega, by omega, a3, e⟩ hb
          simpa [this] using h

def encS (s : ByteArray) : List Value := [.string s]
abbrev StrsAt := RowAt 1 encS
theorem Index_run {N : Nat} {s : Sl} {xs : List ByteArray} {Q : Int → Hp → Prop} {σ : Hp} (hs : StrsAt σ s xs) (hN : xs.length < N) (hN' : 16 < N) (hlen : xs.length < 4611686018427387904)
    (h : ∀ r : Int, ((0 ≤ r) ↔ (xs.any fun x => !pname x) = true) → Q r σ) : (slices_IndexFunc_string_string N (s, ())).run Q σ := by
  unfold slices_IndexFunc_string_string
  simp only [bind_run, pure_run]
  have hl := hs.len
  refine M.loop_run (fun i τ => τ = σ ∧ 0 ≤ i ∧ i ≤ (xs.length : Int) ∧ ((xs.any fun x => !pname x) = ((xs.drop i.toNat).any fun x => !pname x))) (fun i _ => xs.length - i.toNat) _ _ ?_ N 0 σ ⟨rfl, by simp, by simp, by simp⟩ (by simpa using hN)
  rintro i τ ⟨rfl, h0, h1, h2⟩
  unfold slices_IndexFunc_string_string_L0
  simp only [vl, cnd_run, decide_eq_true_eq, pure_run]
  split
  · rename_i hlt
    have hlt' : i.toNat < xs.length := by omega
    have hd : xs.drop i.toNat = xs[i.toNat] :: xs.drop (i.toNat + 1) := List.drop_eq_getElem_cons hlt'
    rw [hd, List.any_cons] at h2
    refine hs.get h0 (List.getElem?_eq_getElem hlt') rfl (by simp [encS, cso, Tp.ofs, Ce.of]; rfl) ?_
    unfold path_Split_1
    simp only [bind_run, vl, pure_run]
    refine Name_run hN' ?_
    simp only [cnd_run, pure_run]
    have hw : wi (i + 1) = i + 1 := wi_id (by omega) (by omega)
    by_cases hp : pname xs[i.toNat] = true
    · simp only [hp, Bool.not_true, Bool.false_eq_true, if_false, Bool.false_or] at h2 ⊢
      rw [hw]
      refine ⟨⟨by trivial, by omega, by omega, ?_⟩, by omega⟩
      rw [h2]; congr 2; omega
    · simp only [hp, Bool.not_false, if_true, Bool.true_or] at h2 ⊢
      exact h i (by simp [h2, h0])
  · rename_i hge
    have : xs.drop i.toNat = [] := List.drop_eq_nil_of_le (by omega)
    rw [this] at h2
    refine h (-1) ?_
    simp [h2]
theorem Contains_run {N : Nat} {s : Sl} {xs : List ByteArray} {Q : Bool → Hp → Prop} {σ : Hp} (hs : StrsAt σ s xs) (hN : xs.length < N) (hN' : 16 < N) (hlen : xs.length < 4611686018427387904)
    (h : Q (xs.any fun x => !pname x) σ) : (slices_ContainsFunc_string_string N (s, ())).run Q σ := by
  unfold slices_ContainsFunc_string_string
  simp only [bind_run, pure_run, vl]
  refine Index_run hs hN hN' hlen fun r hr => ?_
  have : decide (r ≥ 0) = (xs.any fun x => !pname x) := by
    cases hx : (xs.any fun x => !pname x)
    · rw [hx] at hr; simp at hr ⊢; omega
    · rw [hx] at hr; simp at hr ⊢; omega
  rw [this]; exact h

def slash : ByteArray := ⟨#[47]⟩
def hasPre (x p : ByteArray) : Bool := decide (p.size ≤ x.size) && decide (x.extract 0 p.size = p)
theorem HasPrefix_run {N : Nat} {x p : ByteArray} {Q : Bool → Hp → Prop} {σ : Hp} (h : Q (hasPre x p) σ) : (strings_HasPrefix N (x, p)).run Q σ := by
  unfold strings_HasPrefix internal_stringslite_HasPrefix
  simp only [bind_run, pure_run, vl, cnd_run, decide_eq_true_eq, scmp_eql]
  unfold hasPre at h
  split
  · rename_i hle
    have hle' : p.size ≤ x.size := by omega
    refine ⟨⟨by omega, by omega, by omega⟩, ?_⟩
    simp only [hle', decide_true, Bool.true_and] at h
    simp only [pure_run]
    simpa using h
  · rename_i hle
    have hle' : ¬ p.size ≤ x.size := by omega
    simpa [hle'] using h
def comps (s : ByteArray) : List ByteArray := Lib.splitB slash 0 (Lib.countB (s.extract 1 s.size) slash) (s.extract 1 s.size)
theorem comps_len (s : ByteArray) : (comps s).length = Lib.countB (s.extract 1 s.size) slash + 1 := Lib.splitB_all slash (by decide) 0 _ _ rfl
def psplit (s : ByteArray) : List ByteArray × Int :=
  if s = slash then ([], 0)
  else if 64 < s.size ∨ hasPre s slash = false then ([], 3)
  else if 8 < (comps s).length ∨ ((comps s).any fun x => !pname x) = true then ([], 3)
  else (comps s, 0)
/-- The library's own variable that strings.Count reads. -/
abbrev gMax : Nat := 1
def Gl (σ : Hp) : Prop := ∃ m, (ldR [.int .i64] ⟨gMax, 0, none⟩).get σ = some m
theorem Gl.le {σ τ : Hp} (h : Gl σ) (hl : Hp.Le σ τ) : Gl τ := by obtain ⟨m, hm⟩ := h; exact ⟨m, (ldR _ _).mono _ _ _ hl hm⟩
theorem Split_run {N : Nat} {s : ByteArray} {Q : Sl × Int → Hp → Prop} {σ : Hp} (hN : 100 < N) (hg : Gl σ)
    (h : ∀ t τ, Hp.Le σ τ → StrsAt τ t (psplit s).1 → Q (t, (psplit s).2) τ) : (path_Split N s).run Q σ := by
  unfold path_Split
  simp only [bind_run, pure_run, vl, cnd_run, decide_eq_true_eq, scmp_eql]
  unfold psplit slash at h
  split
  · rename_i e
    rw [if_pos e] at h
    exact h _ _ (Hp.Le.refl _) (RowAt.nil none)
  · rename_i e
    rw [if_neg e] at h
    split
    · rename_i hb
      rw [if_pos (.inl (by omega))] at h
      exact h _ _ (Hp.Le.refl _) (RowAt.nil none)
    · rename_i hb
      refine HasPrefix_run ?_
      split
      · rename_i hp
        rw [if_pos (.inr (by simpa using hp))] at h
        exact h _ _ (Hp.Le.refl _) (RowAt.nil none)
      · rename_i hp
        have hp' : hasPre s ⟨#[47]⟩ = true := by simpa using hp
        have h1 : 1 ≤ s.size := by
          unfold hasPre at hp'
          simp only [Bool.and_eq_true, decide_eq_true_eq] at hp'
          exact hp'.1
        rw [if_neg (by rw [hp']; simp; omega)] at h
        refine ⟨⟨by omega, by omega, by omega⟩, ?_⟩
        obtain ⟨m, hm⟩ := hg
        have hsz : (s.extract 1 s.size).size = s.size - 1 := by rw [ByteArray.size_extract]; omega
        have e1 : s.extract (1 : Int).toNat (s.size : Int).toNat = s.extract 1 s.size := by simp
        rw [e1]
        refine ⟨⟨by show (s.extract 1 s.size).size < _; omega, by show 1 ≤ slash.size; decide⟩, m, hm, fun b hb2 => ?_⟩
        have hcl := comps_len s
        unfold slash at hcl
        have hle := Lib.countB_le slash (by decide) _ (s.extract 1 s.size) (Nat.le_refl _)
        unfold slash at hle
        have hrow : StrsAt (σ.set b (true, .cells ((Lib.splitB ⟨#[47]⟩ 0 (Lib.countB (s.extract 1 s.size) ⟨#[47]⟩) (s.extract 1 s.size)).map Value.string).toArray 9)) ⟨some ⟨b, 0, none⟩, Lib.countB (s.extract 1 s.size) ⟨#[47]⟩ + 1, Lib.countB (s.extract 1 s.size) ⟨#[47]⟩ + 1⟩ (comps s) := by
          refine ⟨by rw [hcl], Nat.le_refl _, .inr ⟨b, 0, true, _, 9, (0, 0), rfl, set_same, fun i x hx => ?_⟩⟩
          have hlt := (List.getElem?_eq_some_iff.1 hx).1
          have : comps s = Lib.splitB ⟨#[47]⟩ 0 (Lib.countB (s.extract 1 s.size) ⟨#[47]⟩) (s.extract 1 s.size) := rfl
          rw [← this]
          refine ⟨by simp; omega, ?_⟩
          simp only [Nat.zero_add, Nat.mul_one, encS]
          have hh : ((comps s).map Value.string)[i]? = some (.string x) := by simp [hx]
          obtain ⟨hl2, hv⟩ := List.getElem?_eq_some_iff.1 hh
          show List.take 1 (List.drop i ((comps s).map Value.string)) = _
          rw [List.drop_eq_getElem_cons hl2, hv]
          rfl
        simp only [bind_run, cnd_run, decide_eq_true_eq, pure_run]
        split
        · rename_i h8
          rw [if_pos (.inl (by omega))] at h
          exact h _ _ (le_sets (Hp.Le.refl _) hb2) (RowAt.nil none)
        · rename_i h8
          refine Contains_run hrow (by omega) (by omega) (by omega) ?_
          split
          · rename_i ha
            rw [if_pos (.inr ha)] at h
            exact h _ _ (le_sets (Hp.Le.refl _) hb2) (RowAt.nil none)
          · rename_i ha
            rw [if_neg (fun h9 => h9.elim (fun h9 => by omega) ha)] at h
            exact h _ _ (le_sets (Hp.Le.refl _) hb2) hrow

def pjoin (xs : List ByteArray) : ByteArray := slash ++ ⟨(Lib.join (xs.map (·.data.toList)) [47]).toArray⟩
def joinLen (xs : List ByteArray) : Nat := (Lib.join (xs.map (·.data.toList)) [47]).length
theorem StrsAt.read {σ : Hp} {s : Sl} {xs : List ByteArray} (h : StrsAt σ s xs) (hx : xs ≠ []) : ∃ b o, s.a = some ⟨b, o, none⟩ ∧ (strsR b o s.len).get σ = some xs := by
  rcases h.at_ with e | ⟨b, o, fl, arr, T, fz, h1, h2, h3⟩
  · exact absurd e hx
  · refine ⟨b, o, h1, ?_⟩
    have hl := h.len
    have key : (arr.toList.drop o).take s.len = xs.map Value.string := by
      apply List.ext_getElem?
      intro i
      by_cases hi : i < xs.length
      · obtain ⟨g1, g2⟩ := h3 i xs[i] (List.getElem?_eq_getElem hi)
        simp only [Nat.mul_one, encS] at g1 g2
        rw [List.getElem?_take, if_pos (by omega), List.getElem?_drop, List.getElem?_map, List.getElem?_eq_getElem hi]
        have hlt : o + i < arr.toList.length := by simp; omega
        rw [List.drop_eq_getElem_cons hlt] at g2
        simp only [List.take_succ_cons, List.cons.injEq] at g2
        rw [List.getElem?_eq_getElem hlt, g2.1]
        rfl
      · rw [List.getElem?_take, if_neg (by omega), List.getElem?_map, List.getElem?_eq_none (by omega)]
        rfl
    show (rowVs σ b o s.len).bind strsOf = some xs
    unfold rowVs
    rw [h2]
    show strsOf ((arr.toList.drop o).take s.len) = some xs
    rw [key, strsOf_map]
theorem Join_run {N : Nat} {s : Sl} {xs : List ByteArray} {Q : ByteArray → Hp → Prop} {σ : Hp} (hs : StrsAt σ s xs) (hb : joinLen xs ≤ 140737488355328) (hl : xs.length ≤ 140737488355328) (h : Q (pjoin xs) σ) : (path_Join N s).run Q σ := by
  unfold path_Join strings_Join
  simp only [bind_run]
  unfold joinM joinLen at *
  have hlen := hs.len
  have hcap := hs.cap
  have fin : ∀ r : ByteArray, r.size ≤ 140737488355328 → Q (slash ++ r) σ → (catM (⟨#[47]⟩ : ByteArray) r fun s2 => M.pure s2).run Q σ := fun r hr hq => by
    refine ⟨?_, hq⟩
    have : ByteArray.size (⟨#[47]⟩ : ByteArray) = 1 := rfl
    omega
  split
  · rename_i h0
    simp only at h0
    have : xs = [] := List.eq_nil_of_length_eq_zero (by omega)
    subst this
    exact fin _ (by decide) h
  · rename_i h0
    simp only at h0
    have hx : xs ≠ [] := fun e => h0 (by simp [hlen, e])
    obtain ⟨b, o, h1, h2⟩ := hs.read hx
    simp only [h1]
    refine ⟨xs, h2, ⟨hlen.symm, hcap, by omega, hb⟩, ?_⟩
    exact fin _ (by show (List.toArray _).size ≤ _; simpa using hb) h
end Go.Wz
