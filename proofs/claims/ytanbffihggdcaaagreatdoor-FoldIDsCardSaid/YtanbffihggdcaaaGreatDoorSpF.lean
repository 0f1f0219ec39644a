/- The tree: looking up a path. -/
import Derived.Test.YtanbffihggdcaaaGreatDoorSpec4
import Derived.Test.YtanbffihggdcaaaGreatDoorSpE
set_option linter.unusedVariables false
set_option linter.unusedSimpArgs false
namespace Go.Wz
open Go.Proofs Go.Eng

abbrev Nd := ByteArray × Int × Bool
def encK (s : ByteArray) : Value := .string s
def encN (n : Nd) : Value := .agg #[.string n.1, .int .i64 n.2.1, .bool n.2.2]
structure Tr where
  nodes : List (ByteArray × Nd)
  next : Int
structure TreeAt (σ : Hp) (p m : Nat) (t : Tr) : Prop where
  at_ : ∃ T, σ p = some (true, ob [.map (some m), .int .i64 t.next] T) ∧ MapP encK encN σ m t.nodes
theorem TreeAt.le {σ τ : Hp} {p m : Nat} {t : Tr} (h : TreeAt σ p m t) (hl : Hp.Le σ τ) : TreeAt τ p m t := by
  obtain ⟨T, h1, h2⟩ := h.at_
  exact ⟨T, hl _ _ h1, h2.le hl⟩
theorem joinTail_len (sep : List UInt8) (n : Nat) : ∀ (r : List (List UInt8)), (∀ x ∈ r, x.length ≤ n) → (Lib.joinTail sep r).length ≤ r.length * (sep.length + n)
  | [], _ => by simp [Lib.joinTail]
  | x :: r, h => by
    have ih := joinTail_len sep n r fun y hy => h y (by simp [hy])
    have hx := h x (by simp)
    unfold Lib.joinTail at ih ⊢
    simp only [List.map_cons, List.flatten_cons, List.length_append, List.length_cons, Nat.succ_mul]
    omega
theorem joinLen_le (xs : List ByteArray) (n : Nat) (h : ∀ x ∈ xs, x.size ≤ n) : joinLen xs ≤ xs.length * (1 + n) := by
  unfold joinLen
  cases xs with
  | nil => simp [Lib.join]
  | cons x r =>
    rw [List.map_cons, Lib.join_cons]
    have hx : x.data.toList.length ≤ n := by have := h x (by simp); simpa using this
    have := joinTail_len [47] n (r.map (·.data.toList)) (by
      intro y hy
      obtain ⟨z, hz, rfl⟩ := List.mem_map.1 hy
      have := h z (by simp [hz])
      simpa using this)
    simp only [List.length_append, List.length_cons, List.length_map, List.length_nil, Nat.succ_mul, Nat.zero_add] at this ⊢
    omega
theorem psplit_names (s : ByteArray) : (psplit s).1.length ≤ 8 ∧ ∀ x ∈ (psplit s).1, pname x = true := by
  unfold psplit
  split
  · simp
  · split
    · simp
    · split
      · simp
      · rename_i h
        have h1 : ¬ 8 < (comps s).length := fun e => h (.inl e)
        have h2 : ¬ ((comps s).any fun x => !pname x) = true := fun e => h (.inr e)
        refine ⟨by show (comps s).length ≤ 8; omega, fun x hx => ?_⟩
        cases hp : pname x
        · exact absurd (List.any_eq_true.2 ⟨x, hx, by simp [hp]⟩) h2
        · rfl
theorem pname_size {x : ByteArray} (h : pname x = true) : x.size ≤ 16 := by
  unfold pname at h
  simp only [Bool.and_eq_true, decide_eq_true_eq] at h
  exact h.1.2.1
theorem psplit_join (s : ByteArray) (k : Nat) : joinLen ((psplit s).1.take k) ≤ 140737488355328 := by
  obtain ⟨h1, h2⟩ := psplit_names s
  have := joinLen_le ((psplit s).1.take k) 16 fun x hx => pname_size (h2 x (List.mem_of_mem_take hx))
  have : ((psplit s).1.take k).length ≤ 8 := by simp; omega
  omega
def lookGo (nodes : List (ByteArray × Nd)) (cs : List ByteArray) : Nat → Nat → Int → Bool → Int × Bool × Int
  | 0, _, id, dir => (id, dir, 0)
  | r + 1, i, id, dir => if dir = false then (0, false, 7) else match lk (pjoin (cs.take (i + 1))) nodes with
    | none => (0, false, 4)
    | some n => lookGo nodes cs r (i + 1) n.2.1 n.2.2
def tlook (nodes : List (ByteArray × Nd)) (s : ByteArray) : Int × Bool × Int :=
  if (psplit s).2 ≠ 0 then (0, false, (psplit s).2) else lookGo nodes (psplit s).1 (psplit s).1.length 0 0 true

theorem Look_run {N : Nat} {p m : Nat} {t : Tr} {s : ByteArray} {Q : Int × Bool × Int → Hp → Prop} {σ : Hp} (hN : 100 < N) (hg : Gl σ) (ht : TreeAt σ p m t)
    (h : ∀ τ, Hp.Le σ τ → Q (tlook t.nodes s) τ) : (tree_Tree_Look N (some ⟨p, 0, none⟩, s)).run Q σ := by
  unfold tree_Tree_Look
  simp only [bind_run, pure_run, vl, cnd_run, Option.isNone_some, Bool.false_eq_true, if_false]
  refine Split_run hN hg fun sl τ hl hrow => ?_
  unfold tlook at h
  simp only
  split
  · rename_i he
    rw [if_pos (by simpa using he)] at h
    exact h _ hl
  · rename_i he
    rw [if_neg (by simpa using he)] at h
    simp only [new_run, stM_at, set_same, wrAt_ob, List.length_cons, List.length_nil, Nat.reduceAdd, Nat.reduceLeDiff, if_true, Option.some.injEq, exists_eq_left', set_set, wrL, writeAt, List.setIfInBounds_toArray, List.set, bind_run]
    intro b hb
    have hb0 : σ b = none := by
      cases e : σ b with
      | none => rfl
      | some y => rw [hl _ _ e] at hb; cases hb
    have hlen := hrow.len
    have hn := psplit_names s
    refine M.loop_run (fun i ρ => Hp.Le τ ρ ∧ 0 ≤ i ∧ i ≤ ((psplit s).1.length : Int) ∧ ∃ nm id dir, ρ b = some (true, ob [.string nm, .int .i64 id, .bool dir] 51) ∧
        lookGo t.nodes (psplit s).1 (psplit s).1.length 0 0 true = lookGo t.nodes (psplit s).1 ((psplit s).1.length - i.toNat) i.toNat id dir) (fun i _ => (psplit s).1.length - i.toNat) _ _ ?_ N 0 _
      ⟨le_sets (Hp.Le.refl _) hb, by simp, by simp, _, 0, true, set_same, by simp⟩ (by simp; omega)
    rintro i ρ ⟨hl2, h0, h1, nm, id, dir, hbx, heq⟩
    unfold tree_Tree_Look_L0
    simp only [vl, cnd_run, decide_eq_true_eq, pure_run]
    split
    · rename_i hlt
      rw [add_at, ld_at (by simp)]
      refine ⟨dir, by rw [hbx]; rfl, ?_⟩
      simp only [cnd_run, pure_run]
      have er : (psplit s).1.length - i.toNat = ((psplit s).1.length - (i + 1).toNat) + 1 := by omega
      rw [er] at heq
      simp only [lookGo] at heq
      cases dir with
      | false =>
        simp only [Bool.not_false, if_true] at heq ⊢
        rw [heq] at h
        exact h _ (hl.trans hl2)
      | true =>
        simp only [Bool.not_true, Bool.false_eq_true, if_false, reduceCtorEq] at heq ⊢
        have ht' := (ht.le hl).le hl2
        obtain ⟨T, hp, hm⟩ := ht'.at_
        have hw : wi (i + 1) = i + 1 := wi_id (by omega) (by omega)
        refine ⟨_, rfl, trivial, ?_⟩
        simp only [add_at, ld_at (List.length_pos_iff.2 (List.cons_ne_nil _ _))]
        refine ⟨some m, by rw [hp]; rfl, ?_⟩
        simp only [hw]
        have hcap := hrow.cap
        have hsub : subSl sl 0 (i + 1) (sl.cap : Int) 1 = ⟨sl.a, (i + 1).toNat, sl.cap⟩ := by
          unfold subSl
          have : sl.a.map (fun x => x.add 0) = sl.a := by cases sl.a <;> simp [Addr.add]
          simp [this]
        refine ⟨⟨by omega, by omega, by omega, by omega⟩, ?_⟩
        rw [hsub]
        have hrow' := (hrow.take (i + 1).toNat (by omega)).le hl2
        simp only [bind_run]
        refine Join_run hrow' (psplit_join s _) (by simp; omega) ?_
        have hlk := hm.look sameStr (pjoin ((psplit s).1.take (i + 1).toNat)) (ty := .agg [.str, .int .i64, .bool]) (z := ((⟨#[]⟩ : ByteArray), 0, false)) (dec := fun n => n) (fun v => rfl)
        refine ⟨by rw [ldR_at, hp]; rfl, _, hlk, ?_⟩
        simp only [bind_run, stM_at, hbx, wrAt_ob, List.length_cons, List.length_nil, Nat.reduceAdd, Nat.reduceLeDiff, if_true, Option.some.injEq, exists_eq_left', wrL, writeAt, List.setIfInBounds_toArray, List.set]
        simp only [cnd_run, pure_run]
        have hi : (i + 1).toNat = i.toNat + 1 := by omega
        have hb1 : ∀ x, Hp.Le τ (ρ.set b x) := fun x => le_sets hl2 hb
        rw [hi] at heq ⊢
        cases hlk2 : lk (pjoin ((psplit s).1.take (i.toNat + 1))) t.nodes with
        | none =>
          rw [hlk2] at heq
          simp only [Bool.not_false, if_true] at heq ⊢
          rw [heq] at h
          exact h _ (hl.trans (hb1 _))
        | some n =>
          rw [hlk2] at heq
          simp only [Bool.not_true, Bool.false_eq_true, if_false] at heq ⊢
          refine ⟨⟨hb1 _, by omega, by omega, n.1, n.2.1, n.2.2, set_same, ?_⟩, by omega⟩
          rw [heq, hi]
    · rename_i hge
      have e0 : (psplit s).1.length - i.toNat = 0 := by omega
      rw [e0] at heq
      simp only [lookGo] at heq
      rw [heq] at h
      show (ld [.int .i64] ⟨b, 0 + 1, none⟩ fun (r20 : Int) => ld [.bool] ⟨b, 0 + 2, none⟩ fun (r21 : Bool) => M.pure (r20, r21, (0 : Int))).run Q ρ
      rw [ld_at (by simp)]
      refine ⟨id, by rw [hbx]; rfl, ?_⟩
      rw [ld_at (by simp)]
      exact ⟨dir, by rw [hbx]; rfl, h _ (hl.trans hl2)⟩

/-! ### The parent, and whether a name may be made -/
def tparent (nodes : List (ByteArray × Nd)) (s : ByteArray) : Int :=
  if (psplit s).2 ≠ 0 ∨ (psplit s).1 = [] then (psplit s).2
  else let r := tlook nodes (pjoin ((psplit s).1.take ((psplit s).1.length - 1))); if r.2.2 = 0 ∧ r.2.1 = false then 7 else r.2.2
theorem parent_run {N : Nat} {p m : Nat} {t : Tr} {s : ByteArray} {Q : Int → Hp → Prop} {σ : Hp} (hN : 100 < N) (hg : Gl σ) (ht : TreeAt σ p m t)
    (h : ∀ τ, Hp.Le σ τ → Q (tparent t.nodes s) τ) : (tree_Tree_parent N (some ⟨p, 0, none⟩, s)).run Q σ := by
  unfold tree_Tree_parent
  simp only [bind_run, pure_run, vl, cnd_run]
  refine Split_run hN hg fun sl τ hl hrow => ?_
  unfold tparent at h
  have hlen := hrow.len
  have hn := psplit_names s
  split
  · rename_i he
    rw [if_pos (.inl (by simpa using he))] at h
    simp only [if_true]
    exact h _ hl
  · rename_i he
    have he' : (psplit s).2 = 0 := by simpa using he
    split
    · rename_i h0
      have : (psplit s).1 = [] := List.eq_nil_of_length_eq_zero (by simp at h0; omega)
      rw [if_pos (.inr this)] at h
      exact h _ hl
    · rename_i h0
      have hne : (psplit s).1 ≠ [] := fun e => h0 (by simp [hlen, e])
      rw [if_neg (by rintro (h1 | h1); exact h1 he'; exact hne h1)] at h
      have hpos : 0 < (psplit s).1.length := List.length_pos_iff.2 hne
      have hw : wi ((sl.len : Int) - 1) = (sl.len : Int) - 1 := wi_id (by omega) (by omega)
      have hcap := hrow.cap
      have hsub : subSl sl 0 ((sl.len : Int) - 1) (sl.cap : Int) 1 = ⟨sl.a, sl.len - 1, sl.cap⟩ := by
        unfold subSl
        have : sl.a.map (fun x => x.add 0) = sl.a := by cases sl.a <;> simp [Addr.add]
        simp [this]
      simp only [hw]
      refine ⟨⟨by omega, by omega, by omega, by omega⟩, ?_⟩
      rw [hsub]
      have hrow' := hrow.take (sl.len - 1) (by omega)
      simp only [bind_run]
      refine Join_run hrow' (psplit_join s _) (by simp; omega) ?_
      rw [hlen]
      refine Look_run hN (hg.le hl) (ht.le hl) fun τ2 hl2 => ?_
      have hf := h τ2 (hl.trans hl2)
      simp only at hf
      simp only [cnd_run, pure_run]
      split
      · rename_i hz
        have hz : (tlook t.nodes (pjoin ((psplit s).1.take ((psplit s).1.length - 1)))).2.2 = 0 := by simpa using hz
        simp only [hz, true_and, if_true] at hf ⊢
        cases hd : (tlook t.nodes (pjoin ((psplit s).1.take ((psplit s).1.length - 1)))).2.1
        · rw [hd] at hf; simpa using hf
        · rw [hd] at hf; simpa using hf
      · rename_i hz
        have hz : ¬ (tlook t.nodes (pjoin ((psplit s).1.take ((psplit s).1.length - 1)))).2.2 = 0 := by simpa using hz
        rw [if_neg (fun e => hz e.1)] at hf
        simpa using hf

def tcan (t : Tr) (s : ByteArray) : Int :=
  if tparent t.nodes s ≠ 0 then tparent t.nodes s
  else if (lk s t.nodes).isSome = true ∨ s = slash then 5
  else if 64 ≤ t.nodes.length then 12 else 0
theorem Can_run {N : Nat} {p m : Nat} {t : Tr} {s : ByteArray} {Q : Int → Hp → Prop} {σ : Hp} (hN : 100 < N) (hg : Gl σ) (ht : TreeAt σ p m t)
    (h : ∀ τ, Hp.Le σ τ → Q (tcan t s) τ) : (tree_Tree_Can N (some ⟨p, 0, none⟩, s)).run Q σ := by
  unfold tree_Tree_Can
  simp only [bind_run, pure_run, vl, cnd_run, Option.isNone_some, Bool.false_eq_true, if_false]
  refine parent_run hN hg ht fun τ hl => ?_
  unfold tcan at h
  split
  · rename_i he
    rw [if_pos (by simpa using he)] at h
    exact h _ hl
  · rename_i he
    rw [if_neg (by simpa using he)] at h
    obtain ⟨T, hp, hm⟩ := (ht.le hl).at_
    refine ⟨_, rfl, trivial, ?_⟩
    simp only [add_at, ld_at (List.length_pos_iff.2 (List.cons_ne_nil _ _))]
    refine ⟨some m, by rw [hp]; rfl, ?_⟩
    have hlk := hm.look sameStr s (ty := .agg [.str, .int .i64, .bool]) (z := ((⟨#[]⟩ : ByteArray), 0, false)) (dec := fun n => n) (fun v => rfl)
    refine ⟨_, hlk, fun b hb => ?_⟩
    simp only [bind_run, stM_at, set_same, wrAt_ob, List.length_cons, List.length_nil, Nat.reduceAdd, Nat.reduceLeDiff, if_true, Option.some.injEq, exists_eq_left', set_set, cnd_run, pure_run, scmp_eql]
    have hl2 := fun x => le_sets (x := x) (Hp.Le.refl τ) hb
    have fin : ∀ x, (∀ τ2, Hp.Le τ τ2 → (64 ≤ t.nodes.length → Q 12 τ2) ∧ (¬ 64 ≤ t.nodes.length → Q 0 τ2)) → (nz (some (⟨p, 0, none⟩ : Addr)) fun a10 => ld [.map] (Addr.add a10 0) fun (r11 : Option Nat) => M.rd (mapLenR r11) fun n12 => vl (decide ((n12 : Int) ≥ (64 : Int))) fun t13 => cnd t13 (M.pure (12 : Int)) (M.pure 0)).run Q (τ.set b x) := fun x hh => by
      refine ⟨_, rfl, trivial, ?_⟩
      simp only [add_at, ld_at (List.length_pos_iff.2 (List.cons_ne_nil _ _))]
      refine ⟨some m, by rw [hl2 x _ _ hp]; rfl, _, (hm.le (hl2 x)).len, ?_⟩
      simp only [vl, cnd_run, pure_run, decide_eq_true_eq]
      split
      · exact (hh _ (hl2 x)).1 (by omega)
      · exact (hh _ (hl2 x)).2 (by omega)
    cases hk : lk s t.nodes with
    | some n =>
      rw [hk] at h
      simp only [if_true, Option.isSome_some, true_or] at h ⊢
      exact h _ (hl.trans (hl2 _))
    | none =>
      rw [hk] at h
      simp only [Bool.false_eq_true, if_false, Option.isSome_none, false_or] at h ⊢
      by_cases hs : s = slash
      · have : s = (⟨#[47]⟩ : ByteArray) := hs
        rw [if_pos hs] at h
        simp only [this, decide_true, if_true]
        exact h _ (hl.trans (hl2 _))
      · have : ¬ s = (⟨#[47]⟩ : ByteArray) := hs
        rw [if_neg hs] at h
        simp only [this, decide_false, Bool.false_eq_true, if_false]
        refine fin _ fun τ2 h2 => ⟨fun h6 => ?_, fun h6 => ?_⟩
        · have := h τ2 (hl.trans h2); rwa [if_pos h6] at this
        · have := h τ2 (hl.trans h2); rwa [if_neg h6] at this
end Go.Wz
