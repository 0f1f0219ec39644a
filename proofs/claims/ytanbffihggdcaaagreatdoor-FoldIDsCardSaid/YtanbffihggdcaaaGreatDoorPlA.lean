/- Paths and their parts, plainly. -/
import Derived.Test.YtanbffihggdcaaaGreatDoorSpT
set_option linter.unusedVariables false
set_option linter.unusedSimpArgs false
namespace Go.Wz
open Go.Proofs Go.Eng
abbrev cs (s : ByteArray) : List ByteArray := (psplit s).1
theorem cs_join {s : ByteArray} (h : (psplit s).2 = 0) : pjoin (cs s) = s := psplit_join_id h
theorem cs_len (s : ByteArray) : (cs s).length ≤ 8 := (psplit_names s).1
theorem cs_ne {s : ByteArray} (h : (psplit s).2 = 0) (hn : s ≠ slash) : cs s ≠ [] := psplit_nil h hn
/-- The bytes of a path of parts. -/
def jb (xs : List ByteArray) : List UInt8 := xs.flatMap fun x => 47 :: x.data.toList
theorem pjoin_bytes : ∀ {xs : List ByteArray}, xs ≠ [] → (pjoin xs).data.toList = jb xs
  | [], h => absurd rfl h
  | x :: xs, _ => by
    have key : ∀ ys : List ByteArray, Lib.joinTail [47] (ys.map (·.data.toList)) = jb ys := by
      intro ys
      induction ys with
      | nil => rfl
      | cons y ys ih =>
        simp only [Lib.joinTail, List.map_cons, List.flatten_cons] at ih ⊢
        rw [ih]
        simp [jb]
    unfold pjoin
    rw [ByteArray.data_append, Array.toList_append]
    simp only [List.map_cons]
    rw [Lib.join_cons, key]
    show [47] ++ _ = _
    simp [jb]
theorem bytes_ext {a b : ByteArray} (h : a.data.toList = b.data.toList) : a = b := by
  cases a; cases b
  simp only [ByteArray.mk.injEq]
  exact Array.toList_inj.1 h
theorem goodC_ne {c : UInt8} (h : goodC c = true) : c ≠ 47 := by
  unfold goodC at h
  simp only [decide_eq_true_eq] at h
  rintro rfl
  exact h.2.2 rfl
theorem pname_free {x : ByteArray} (h : pname x = true) : (47 : UInt8) ∉ x.data.toList := by
  unfold pname at h
  simp only [Bool.and_eq_true, List.all_eq_true] at h
  intro hm
  exact goodC_ne (h.2 _ hm) rfl
theorem pname_pos {x : ByteArray} (h : pname x = true) : 1 ≤ x.size := by
  unfold pname at h
  simp only [Bool.and_eq_true, decide_eq_true_eq] at h
  exact h.1.1
/-- Names are slash-free. -/
def Nms (xs : List ByteArray) : Prop := ∀ x ∈ xs, pname x = true
theorem cs_nms (s : ByteArray) : Nms (cs s) := (psplit_names s).2
theorem free_split {a b u v : List UInt8} (ha : (47 : UInt8) ∉ a) (hb : (47 : UInt8) ∉ b) (hu : u = [] ∨ u.head? = some 47) (hv : v = [] ∨ v.head? = some 47) : ∀ (h : a ++ u = b ++ v), a = b ∧ u = v := by
  induction a generalizing b with
  | nil =>
    intro h
    cases b with
    | nil => exact ⟨rfl, h⟩
    | cons c b =>
      simp only [List.nil_append, List.cons_append] at h
      subst h
      rcases hu with h | h
      · cases h
      · simp only [List.head?_cons, Option.some.injEq] at h
        subst h
        exact absurd List.mem_cons_self hb
  | cons c a ih =>
    intro h
    cases b with
    | nil =>
      simp only [List.nil_append, List.cons_append] at h
      subst h
      rcases hv with h | h
      · cases h
      · simp only [List.head?_cons, Option.some.injEq] at h
        subst h
        exact absurd List.mem_cons_self ha
    | cons d b =>
      simp only [List.cons_append, List.cons.injEq] at h
      obtain ⟨h1, h2⟩ := ih (fun hm => ha (List.mem_cons_of_mem _ hm)) (fun hm => hb (List.mem_cons_of_mem _ hm)) h.2
      exact ⟨by rw [h.1, h1], h2⟩
theorem jb_head (xs : List ByteArray) : jb xs = [] ∨ (jb xs).head? = some 47 := by
  cases xs with
  | nil => exact .inl rfl
  | cons x xs => exact .inr rfl
theorem jb_cons (x : ByteArray) (xs : List ByteArray) : jb (x :: xs) = 47 :: (x.data.toList ++ jb xs) := by simp [jb]
theorem jb_app (xs ys : List ByteArray) : jb (xs ++ ys) = jb xs ++ jb ys := by simp [jb]
theorem jb_inj : ∀ {xs ys : List ByteArray}, Nms xs → Nms ys → jb xs = jb ys → xs = ys
  | [], [], _, _, _ => rfl
  | [], y :: ys, _, _, h => by rw [jb_cons] at h; simp [jb] at h
  | x :: xs, [], _, _, h => by rw [jb_cons] at h; simp [jb] at h
  | x :: xs, y :: ys, hx, hy, h => by
    rw [jb_cons, jb_cons] at h
    simp only [List.cons.injEq, true_and] at h
    obtain ⟨h1, h2⟩ := free_split (pname_free (hx x List.mem_cons_self)) (pname_free (hy y List.mem_cons_self)) (jb_head xs) (jb_head ys) h
    rw [bytes_ext h1, jb_inj (fun z hz => hx z (List.mem_cons_of_mem _ hz)) (fun z hz => hy z (List.mem_cons_of_mem _ hz)) h2]
/-- A path that begins with another one and a slash has more parts, the other's first. -/
theorem jb_pre : ∀ {xs ys : List ByteArray}, Nms xs → Nms ys → ((jb xs ++ [47]) <+: jb ys ↔ ∃ zs, zs ≠ [] ∧ ys = xs ++ zs)
  | [], ys, _, _ => by
    cases ys with
    | nil => simp [jb]
    | cons y ys =>
      rw [jb_cons]
      simp [jb]
  | x :: xs, [], _, _ => by simp [jb]
  | x :: xs, y :: ys, hx, hy => by
    have ih := jb_pre (xs := xs) (ys := ys) (fun z hz => hx z (List.mem_cons_of_mem _ hz)) (fun z hz => hy z (List.mem_cons_of_mem _ hz))
    rw [jb_cons, jb_cons]
    constructor
    · rintro ⟨t, ht⟩
      simp only [List.cons_append, List.append_assoc, List.cons.injEq, true_and] at ht
      have hh : (jb xs ++ ([47] ++ t)) = [] ∨ (jb xs ++ ([47] ++ t)).head? = some 47 := by
        rcases jb_head xs with h | h
        · rw [h]; exact .inr rfl
        · right
          cases hj : jb xs with
          | nil => rfl
          | cons c l => rw [hj] at h; simpa using h
      obtain ⟨h1, h2⟩ := free_split (pname_free (hx x List.mem_cons_self)) (pname_free (hy y List.mem_cons_self)) hh (jb_head ys) ht
      obtain ⟨zs, h3, h4⟩ := ih.1 ⟨t, by rw [List.append_assoc]; exact h2⟩
      exact ⟨zs, h3, by rw [bytes_ext h1, h4]; rfl⟩
    · rintro ⟨zs, h3, h4⟩
      simp only [List.cons_append, List.cons.injEq] at h4
      obtain ⟨rfl, h4⟩ := h4
      obtain ⟨t, ht⟩ := ih.2 ⟨zs, h3, h4⟩
      exact ⟨t, by rw [← ht]; simp⟩
theorem slash_bytes : slash.data.toList = [47] := rfl
theorem hasPre_iff {x p : ByteArray} : hasPre x p = true ↔ p.data.toList <+: x.data.toList := by
  unfold hasPre
  simp only [Bool.and_eq_true, decide_eq_true_eq]
  have hs : ∀ y : ByteArray, y.data.toList.length = y.size := fun y => by rw [Array.length_toList]; rfl
  have he : (x.extract 0 p.size).data.toList = x.data.toList.take p.size := Lib.extract_from_zero x p.size
  constructor
  · rintro ⟨h1, h2⟩
    rw [List.prefix_iff_eq_take, hs]
    rw [← he, h2]
  · intro h
    have h1 := h.length_le
    rw [hs, hs] at h1
    refine ⟨h1, bytes_ext ?_⟩
    rw [he]
    rw [List.prefix_iff_eq_take, hs] at h
    exact h.symm
theorem pjoin_nil : pjoin [] = slash := rfl
/-- Under: in parts. -/
theorem under_iff {a n : ByteArray} (ha : (psplit a).2 = 0) (hn : (psplit n).2 = 0) (hr : a ≠ slash) : hasPre n (a ++ slash) = true ↔ ∃ zs, zs ≠ [] ∧ cs n = cs a ++ zs := by
  have hane := cs_ne ha hr
  rw [hasPre_iff, ByteArray.data_append, Array.toList_append, slash_bytes, ← cs_join ha, pjoin_bytes hane]
  by_cases hnr : n = slash
  · subst hnr
    have : cs slash = [] := rfl
    rw [slash_bytes, cs_join ha]
    constructor
    · intro h
      have := h.length_le
      have hp : 0 < (jb (cs a)).length := by
        cases hc : cs a with
        | nil => exact absurd hc hane
        | cons x xs => rw [jb_cons]; simp
      simp only [List.length_append, List.length_cons, List.length_nil] at this
      omega
    · rintro ⟨zs, h1, h2⟩
      have h2 : ([] : List ByteArray) = cs a ++ zs := h2
      have := congrArg List.length h2
      simp only [List.length_nil, List.length_append] at this
      have := List.length_pos_iff.2 h1
      omega
  · have hnne := cs_ne hn hnr
    conv => lhs; rw [← cs_join hn]
    rw [pjoin_bytes hnne]
    rw [cs_join ha]
    exact jb_pre (cs_nms a) (cs_nms n)
theorem spl_jb : ∀ (xs : List ByteArray), Nms xs → ∀ x, (47 : UInt8) ∉ x → spl 47 (x ++ jb xs) = x :: xs.map (·.data.toList)
  | [], _, x, hx => by
    simp only [jb, List.flatMap_nil, List.append_nil, List.map_nil]
    induction x with
    | nil => rfl
    | cons c x ih =>
      have hc : c ≠ 47 := fun e => hx (by subst e; exact List.mem_cons_self)
      simp only [spl, if_neg hc]
      rw [ih (fun h => hx (List.mem_cons_of_mem _ h))]
  | y :: ys, hn, x, hx => by
    have ih := spl_jb ys (fun z hz => hn z (List.mem_cons_of_mem _ hz)) y.data.toList (pname_free (hn y List.mem_cons_self))
    rw [jb_cons]
    induction x with
    | nil =>
      simp only [List.nil_append, spl, if_true]
      rw [ih]; rfl
    | cons c x ih2 =>
      have hc : c ≠ 47 := fun e => hx (by subst e; exact List.mem_cons_self)
      simp only [List.cons_append, spl, if_neg hc]
      rw [ih2 (fun h => hx (List.mem_cons_of_mem _ h))]
theorem map_bytes_inj : ∀ {xs ys : List ByteArray}, xs.map (·.data.toList) = ys.map (·.data.toList) → xs = ys
  | [], [], _ => rfl
  | x :: xs, y :: ys, h => by
    simp only [List.map_cons, List.cons.injEq] at h
    rw [bytes_ext h.1, map_bytes_inj h.2]
  | [], _ :: _, h => by simp at h
  | _ :: _, [], h => by simp at h
/-- Parts joined are split again. -/
theorem psplit_pjoin {xs : List ByteArray} (hn : Nms xs) (hl : xs.length ≤ 8) (hs : (pjoin xs).size ≤ 64) : psplit (pjoin xs) = (xs, 0) := by
  cases xs with
  | nil => rfl
  | cons x xs =>
    have hb := pjoin_bytes (xs := x :: xs) (by simp)
    have hx := pname_pos (hn x List.mem_cons_self)
    have hb1 : (pjoin (x :: xs)).data.toList = 47 :: (x.data.toList ++ jb xs) := by rw [hb, jb_cons]
    have hne : pjoin (x :: xs) ≠ slash := fun e => by
      rw [e, slash_bytes] at hb1
      simp only [List.cons.injEq, true_and] at hb1
      have := congrArg List.length hb1
      simp only [List.length_nil, List.length_append, Array.length_toList] at this
      have : x.size = x.data.size := rfl
      omega
    have hpre : hasPre (pjoin (x :: xs)) slash = true := by
      rw [hasPre_iff, slash_bytes, hb1]
      exact ⟨_, rfl⟩
    have hcomps : comps (pjoin (x :: xs)) = x :: xs := by
      apply map_bytes_inj
      rw [comps_spl]
      have : ((pjoin (x :: xs)).extract 1 (pjoin (x :: xs)).size).data.toList = x.data.toList ++ jb xs := by
        rw [Lib.extract_to_end, hb1]; rfl
      rw [this, spl_jb xs (fun z hz => hn z (List.mem_cons_of_mem _ hz)) _ (pname_free (hn x List.mem_cons_self))]
      rfl
    unfold psplit
    rw [if_neg hne, if_neg (by rw [hpre]; simp; omega), hcomps, if_neg]
    rintro (h | h)
    · omega
    · obtain ⟨y, hy, h2⟩ := List.any_eq_true.1 h
      rw [hn y hy] at h2
      cases h2
theorem cs_inj {a b : ByteArray} (ha : (psplit a).2 = 0) (hb : (psplit b).2 = 0) (h : cs a = cs b) : a = b := by
  rw [← cs_join ha, ← cs_join hb, h]
theorem size_bytes (y : ByteArray) : y.data.toList.length = y.size := by rw [Array.length_toList]; rfl
/-- An ancestor of a path is a path. -/
theorem psplit_take {s : ByteArray} (hs : (psplit s).2 = 0) (k : Nat) : psplit (pjoin ((cs s).take k)) = ((cs s).take k, 0) := by
  refine psplit_pjoin (fun x hx => cs_nms s x (List.mem_of_mem_take hx)) ?_ ?_
  · have := cs_len s
    simp only [List.length_take]
    omega
  · by_cases h0 : (cs s).take k = []
    · rw [h0]; decide
    · rw [← size_bytes, pjoin_bytes h0]
      have hne : cs s ≠ [] := fun e => h0 (by rw [e]; simp)
      have h1 : (jb (cs s)).length ≤ 64 := by
        rw [← pjoin_bytes hne, size_bytes, cs_join hs]
        exact psplit_size hs
      have h2 : jb (cs s) = jb ((cs s).take k) ++ jb ((cs s).drop k) := by rw [← jb_app, List.take_append_drop]
      rw [h2, List.length_append] at h1
      omega
/-- The path that a node has behind a renaming. -/
theorem moved_path {a b n : ByteArray} (ha : (psplit a).2 = 0) (hb : (psplit b).2 = 0) (hn : (psplit n).2 = 0) (har : a ≠ slash) (hbr : b ≠ slash) {zs : List ByteArray} (hz : cs n = cs a ++ zs) : b ++ n.extract a.size n.size = pjoin (cs b ++ zs) := by
  have hane := cs_ne ha har
  have hbne := cs_ne hb hbr
  apply bytes_ext
  rw [ByteArray.data_append, Array.toList_append, pjoin_bytes (by simp [hbne]), jb_app, ← pjoin_bytes hbne, cs_join hb]
  congr 1
  rw [Lib.extract_to_end, ← cs_join hn, pjoin_bytes (by rw [hz]; simp [hane]), hz, jb_app]
  have : a.size = (jb (cs a)).length := by rw [← pjoin_bytes hane, cs_join ha, size_bytes]
  rw [this, List.drop_left]
end Go.Wz
