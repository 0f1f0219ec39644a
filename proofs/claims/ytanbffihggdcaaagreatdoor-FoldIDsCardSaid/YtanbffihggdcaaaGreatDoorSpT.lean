/- The tree: what lies under a path, renaming, dropping, making. -/
import Derived.Test.YtanbffihggdcaaaGreatDoorSpec4
import Derived.Test.YtanbffihggdcaaaGreatDoorSpH
set_option linter.unusedVariables false
set_option linter.unusedSimpArgs false
namespace Go.Wz
open Go.Proofs Go.Eng
/-- All blocks but some few are as they were. -/
def Keep (X : List Nat) (σ τ : Hp) : Prop := ∀ k x, k ∉ X → σ k = some x → τ k = some x
theorem Keep.refl (X : List Nat) (σ : Hp) : Keep X σ σ := fun _ _ _ h => h
theorem Keep.trans {X : List Nat} {a b c : Hp} (h : Keep X a b) (k : Keep X b c) : Keep X a c := fun i x hi e => k i x hi (h i x hi e)
theorem Keep.of_le {X : List Nat} {σ τ : Hp} (h : Hp.Le σ τ) : Keep X σ τ := fun k x _ e => h k x e
theorem Keep.set {X : List Nat} {σ : Hp} {k : Nat} (x : Bool × Obj) (hk : k ∈ X) : Keep X σ (σ.set k x) := fun i y hi e => by
  rw [set_ne (fun e' => by subst e'; exact hi hk)]; exact e
theorem Keep.sub {X Y : List Nat} {σ τ : Hp} (h : Keep X σ τ) (hs : ∀ k ∈ X, k ∈ Y) : Keep Y σ τ := fun k x hk e => h k x (fun hx => hk (hs k hx)) e
theorem _root_.Go.Eng.RowAt.keep {α : Type} {n : Nat} {enc : α → List Value} {σ τ : Hp} {s : Sl} {xs : List α} {X : List Nat} (h : RowAt n enc σ s xs) (hk : Keep X σ τ) (hX : ∀ k ∈ X, ∀ fl arr T fz, σ k = some (fl, .cells arr T fz) → arr.size < n) : RowAt n enc τ s xs := by
  refine ⟨h.len, h.cap, ?_⟩
  by_cases hx : xs = []
  · exact .inl hx
  rcases h.at_ with e | ⟨b, o, fl, arr, T, fz, h1, h2, h3⟩
  · exact .inl e
  · refine .inr ⟨b, o, fl, arr, T, fz, h1, hk _ _ (fun hb => ?_) h2, h3⟩
    have h4 := hX b hb fl arr T fz h2
    have hp := List.length_pos_iff.2 hx
    have h5 := (h3 0 xs[0] (List.getElem?_eq_getElem hp)).1
    omega
theorem Gl.keep {σ τ : Hp} {X : List Nat} (h : Gl σ) (hk : Keep X σ τ) (h0 : gMax ∉ X) : Gl τ := by
  obtain ⟨m, hm⟩ := h
  refine ⟨m, ?_⟩
  rw [ldR_at] at hm ⊢
  cases e : σ gMax with
  | none => rw [e] at hm; cases hm
  | some x => rw [hk gMax x h0 e]; rw [e] at hm; exact hm

def encNd (n : Nd) : List Value := [.string n.1, .int .i64 n.2.1, .bool n.2.2]
theorem encNd_len (p : Nd) : (encNd p).length = 3 := rfl
theorem encNd_flat (p : Nd) : (encNd p).all flat = true := rfl
abbrev NodesAt := RowAt 3 encNd
abbrev NVec := Vec 3 encNd 51
theorem RowAt_nat {α B : Type} {n : Nat} {enc : α → List Value} {σ : Hp} {s : Sl} {xs : List α} (h : RowAt n enc σ s xs) {i : Nat} {x : α} (hx : xs[i]? = some x) {cs : List Ce} (hcs : cs.length = n) {r : Cs cs} (hr : cso cs (enc x) = some r)
    {k : Cs cs → M B} {Q : B → Hp → Prop} (hk : (k r).run Q σ) : (ixA s.a s.len (i : Int) n fun a => ld cs a k).run Q σ :=
  h.get (by omega) (by simpa using hx) hcs hr hk
/-- Nodes are small. -/
structure TreeOk (t : Tr) : Prop where
  few : t.nodes.length ≤ 64
  path : ∀ kn ∈ t.nodes, kn.2.1.size ≤ 64
section
variable {N : Nat} {σ : Hp}
theorem Split_e {s : ByteArray} {Q : Sl × Int → Hp → Prop} [Up Q] (hN : 100 < N) (hg : Gl σ) (h : ∀ t, Q (t, (psplit s).2) σ) : (path_Split N s).run Q σ := Split_run hN hg fun t τ hl _ => Up.le (h t) _ hl
theorem Look_up {p m : Nat} {t : Tr} {s : ByteArray} {Q : Int × Bool × Int → Hp → Prop} [Up Q] (hN : 100 < N) (hg : Gl σ) (ht : TreeAt σ p m t) (h : Q (tlook t.nodes s) σ) : (tree_Tree_Look N (some ⟨p, 0, none⟩, s)).run Q σ := Look_run hN hg ht (Up.le h)
theorem parent_up {p m : Nat} {t : Tr} {s : ByteArray} {Q : Int → Hp → Prop} [Up Q] (hN : 100 < N) (hg : Gl σ) (ht : TreeAt σ p m t) (h : Q (tparent t.nodes s) σ) : (tree_Tree_parent N (some ⟨p, 0, none⟩, s)).run Q σ := parent_run hN hg ht (Up.le h)
theorem Can_up {p m : Nat} {t : Tr} {s : ByteArray} {Q : Int → Hp → Prop} [Up Q] (hN : 100 < N) (hg : Gl σ) (ht : TreeAt σ p m t) (h : Q (tcan t s) σ) : (tree_Tree_Can N (some ⟨p, 0, none⟩, s)).run Q σ := Can_run hN hg ht (Up.le h)
theorem Under_up {a b : ByteArray} {Q : Bool → Hp → Prop} [Up Q] (hN : 100 < N) (hg : Gl σ) (h : Q (punder a b) σ) : (path_Under N (a, b)).run Q σ := Under_run hN hg (Up.le h)
def tunder (nodes : List (ByteArray × Nd)) (s : ByteArray) : List (ByteArray × Nd) := nodes.filter fun kn => hasPre kn.2.1 (s ++ slash)
theorem del_le {τ : Hp} {b : Nat} {x : Bool × Obj} (hb : τ b = some x) : Hp.Le (Hp.set (fun k => if k = b then none else τ k) b x) τ := fun k y hk => by
  by_cases e : k = b
  · subst e; rw [set_same] at hk; rw [hb]; exact hk
  · rw [set_ne e] at hk; simp only [if_neg e] at hk; exact hk
theorem le_del {σ τ : Hp} {b : Nat} (hl : Hp.Le σ τ) (hb : σ b = none) : Hp.Le σ (fun k => if k = b then none else τ k) := fun k y hk => by
  have : k ≠ b := fun e => by subst e; rw [hb] at hk; cases hk
  simp only [if_neg this]
  exact hl _ _ hk
theorem vec_del {α : Type} {n : Nat} {enc : α → List Value} {e : TypeId} {F τ : Hp} {s : Sl} {xs : List α} {b : Nat} {x : Bool × Obj} (h : Vec n enc e (F.set b x) τ s xs) : Vec n enc e F (fun k => if k = b then none else τ k) s xs := by
  refine ⟨h.len, h.cap, ?_⟩
  rcases h.at_ with h1 | ⟨b', vs, h1, h2, h3, h4⟩
  · exact .inl h1
  · obtain ⟨g1, g2, g3⟩ := set_none.1 h2
    exact .inr ⟨b', vs, h1, g3, by simp only [if_neg g1]; exact h3, h4⟩
theorem vec_ins {α : Type} {n : Nat} {enc : α → List Value} {e : TypeId} {F τ : Hp} {s : Sl} {xs : List α} {b : Nat} {x : Bool × Obj} (h : Vec n enc e F τ s xs) (hb : τ b = none) : Vec n enc e (F.set b x) (τ.set b x) s xs := by
  refine ⟨h.len, h.cap, ?_⟩
  rcases h.at_ with h1 | ⟨b', vs, h1, h2, h3, h4⟩
  · exact .inl h1
  · have : b' ≠ b := fun e => by subst e; rw [hb] at h3; cases h3
    exact .inr ⟨b', vs, h1, by rw [set_ne this]; exact h2, by rw [set_ne this]; exact h3, h4⟩
theorem set_le {σ τ : Hp} {b : Nat} {x : Bool × Obj} (h : Hp.Le σ τ) : Hp.Le (σ.set b x) (τ.set b x) := fun k y hk => by
  by_cases e : k = b
  · subst e; rw [set_same] at hk ⊢; exact hk
  · rw [set_ne e] at hk ⊢; exact h _ _ hk
theorem slash_size : slash.size = 1 := rfl
theorem size_app (a b : ByteArray) : (a ++ b).size = a.size + b.size := ByteArray.size_append
theorem under_up {p m : Nat} {t : Tr} {s : ByteArray} {Q : Sl → Hp → Prop} [Up Q] (hN : 100 < N) (ht : TreeAt σ p m t) (hk : t.nodes.length ≤ 64) (hs : s.size ≤ 4611686018427387904)
    (h : ∀ sl τ (l : List (ByteArray × Nd)), Hp.Le σ τ → l.Perm (tunder t.nodes s) → NVec σ τ sl (l.map Prod.snd) → Q sl τ) : (tree_Tree_under N (some ⟨p, 0, none⟩, s)).run Q σ := by
  unfold tree_Tree_under
  obtain ⟨T, hp, hm⟩ := ht.at_
  refine nz_go (ld_go hp rfl ?_)
  simp only [bind_run, pure_run]
  refine range_loop sameStr hm (kt := .c .str) (et := .agg [.str, .int .i64, .bool]) (dk := fun k => k) (dv := fun v => v) (fun _ => rfl) (fun _ => rfl)
    (fun ps sl F => NVec σ F sl ((ps.filter fun kn => hasPre kn.2.1 (s ++ slash)).map Prod.snd)) (fun b s => rfl) (Hp.Le.refl _) (Vec.nil none) ?_ ?_ (by omega)
  · intro ps kn sl F b x hJ hl hb hlt hmem hsub
    have hσb : σ b = none := by
      cases e : σ b with
      | none => rfl
      | some y => rw [hl _ _ e] at hb; cases hb
    have hv := vec_ins (x := x) hJ hb
    refine new_st rfl fun b8 h8 => ?_
    refine ld_go set_same rfl ?_
    refine ⟨by have : (⟨#[47]⟩ : ByteArray).size = 1 := rfl; simp only; omega, ?_⟩
    simp only [bind_run]
    refine HasPrefix_run ?_
    simp only [cnd_run]
    have hfil : (ps ++ [kn]).filter (fun kn => hasPre kn.2.1 (s ++ slash)) = ps.filter (fun kn => hasPre kn.2.1 (s ++ slash)) ++ (if hasPre kn.2.1 (s ++ slash) = true then [kn] else []) := by
      rw [List.filter_append]
      congr 1
      by_cases e : hasPre kn.2.1 (s ++ slash) = true <;> simp [e]
    have hsl : (⟨#[47]⟩ : ByteArray) = slash := rfl
    rw [hsl]
    split
    · rename_i hf
      rw [if_pos hf] at hfil
      refine ld_g0 set_same rfl ?_
      intro b13 h13
      obtain ⟨q1, q2, h13'⟩ := set_none.1 h13
      simp only [bind_run]
      have hflen : ((ps.filter fun kn => hasPre kn.2.1 (s ++ slash)).map Prod.snd).length ≤ 64 := by
        rw [List.length_map]
        have := List.length_filter_le (fun kn : ByteArray × Nd => hasPre kn.2.1 (s ++ slash)) ps
        omega
      refine app_one (x := kn.2) (Vec.le hv (le_sets (le_set h8) h13')) ((set_le hl).trans (le_sets (le_set h8) h13')) encNd_len encNd_flat (by omega) rfl (bx := b13) set_same (by omega) (by omega) fun s' τ' g1 g2 => ?_
      simp only [pure_run]
      have hτb := g1 b x set_same
      refine RP.go (F := fun k => if k = b then none else τ' k) (by simp) (le_del ((le_set hσb).trans g1) hσb) (del_le hτb) ?_
      rw [hfil, List.map_append]
      exact vec_del g2
    · rename_i hf
      rw [if_neg hf, List.append_nil] at hfil
      simp only [pure_run]
      exact RP.go hb hl (le_set h8) (by rw [hfil]; exact hJ)
  · intro ps sl F hp hJ hl
    exact h sl F _ hl (hp.filter _) hJ
def tdeep (nodes : List (ByteArray × Nd)) (from_ to : ByteArray) : Bool := (tunder nodes from_).any fun kn => decide ((psplit (to ++ kn.2.1.extract from_.size kn.2.1.size)).2 ≠ 0)
theorem hasPre_size {x p : ByteArray} (h : hasPre x p = true) : p.size ≤ x.size := by
  unfold hasPre at h
  simp only [Bool.and_eq_true, decide_eq_true_eq] at h
  exact h.1
theorem any_perm {α : Type} {l l' : List α} (h : l.Perm l') (f : α → Bool) : l.any f = l'.any f := by
  rw [Bool.eq_iff_iff, List.any_eq_true, List.any_eq_true]
  constructor
  · rintro ⟨x, h1, h2⟩; exact ⟨x, h.mem_iff.1 h1, h2⟩
  · rintro ⟨x, h1, h2⟩; exact ⟨x, h.mem_iff.2 h1, h2⟩
theorem deep_up {p m : Nat} {t : Tr} {a b : ByteArray} {Q : Bool → Hp → Prop} [Up Q] (hN : 100 < N) (hg : Gl σ) (ht : TreeAt σ p m t) (hok : TreeOk t) (ha : a.size ≤ 4611686018427387904) (hb : b.size ≤ 4611686018427387904)
    (h : Q (tdeep t.nodes a b) σ) : (tree_Tree_deep N (some ⟨p, 0, none⟩, a, b)).run Q σ := by
  unfold tree_Tree_deep
  simp only [bind_run]
  refine under_up hN ht hok.few ha fun sl τ l hl hperm hvec => ?_
  have hrow := hvec.row encNd_len
  have hlen := hrow.len
  rw [List.length_map] at hlen
  have hll : l.length ≤ 64 := by
    rw [hperm.length_eq]
    have := List.length_filter_le (fun kn : ByteArray × Nd => hasPre kn.2.1 (a ++ slash)) t.nodes
    have := hok.few
    show (List.filter _ _).length ≤ 64
    omega
  have h' : Q (l.any fun kn => decide ((psplit (b ++ kn.2.1.extract a.size kn.2.1.size)).2 ≠ 0)) τ := by
    rw [any_perm hperm]
    exact Up.le h _ hl
  clear h
  refine loop_cnt l.length (fun i st ρ => st = (i : Int) ∧ ρ = τ ∧ ((l.any fun kn => decide ((psplit (b ++ kn.2.1.extract a.size kn.2.1.size)).2 ≠ 0)) = ((l.drop i).any fun kn => decide ((psplit (b ++ kn.2.1.extract a.size kn.2.1.size)).2 ≠ 0)))) _ _ ?_ ?_ N 0 τ ⟨rfl, rfl, rfl⟩ (by omega)
  · rintro i _ ρ hi ⟨rfl, rfl, h3⟩
    unfold tree_Tree_deep_L0
    have hd : l.drop i = l[i] :: l.drop (i + 1) := List.drop_eq_getElem_cons hi
    rw [hd, List.any_cons] at h3
    simp only [vl, cnd_run, decide_eq_true_eq]
    rw [if_pos (by rw [hlen]; omega)]
    refine RowAt_nat hrow (x := l[i].2) (by rw [List.getElem?_map, List.getElem?_eq_getElem hi]; rfl) rfl (by simp [encNd, cso, Tp.ofs, Ce.of]; rfl) ?_
    refine new_st rfl fun b6 h6 => ?_
    refine ld_go set_same rfl ?_
    have hmem : l[i] ∈ tunder t.nodes a := hperm.mem_iff.1 (List.getElem_mem hi)
    have hmem := List.mem_filter.1 hmem
    have hpre := hasPre_size hmem.2
    have hsz := hok.path _ hmem.1
    rw [size_app, slash_size] at hpre
    refine ⟨⟨by omega, by show ((a.size : Nat) : Int) ≤ (l[i].2.1.size : Nat); omega, by exact Int.le_refl _⟩, ?_⟩
    simp only [Int.toNat_natCast]
    have hex : (l[i].2.1.extract a.size l[i].2.1.size).size ≤ 64 := by rw [ByteArray.size_extract]; omega
    refine ⟨by omega, ?_⟩
    simp only [bind_run]
    refine Split_e hN ((hg.le hl).le (le_set h6)) fun sl2 => ?_
    simp only [cnd_run, pure_run]
    have hw : wi ((i : Int) + 1) = ((i + 1 : Nat) : Int) := by rw [wi_id (by omega) (by omega)]; omega
    rw [hw]
    split
    · rename_i hf
      have hf' : (psplit (b ++ l[i].2.1.extract a.size l[i].2.1.size)).2 ≠ 0 := by simpa using hf
      rw [decide_eq_true hf', Bool.true_or] at h3
      rw [h3] at h'
      exact Up.le h' _ (le_set h6)
    · rename_i hf
      have hf' : ¬ (psplit (b ++ l[i].2.1.extract a.size l[i].2.1.size)).2 ≠ 0 := by simpa using hf
      rw [decide_eq_false hf', Bool.false_or] at h3
      exact LP.drop (le_set h6) ⟨rfl, rfl, h3⟩
  · rintro _ ρ ⟨rfl, rfl, h3⟩
    unfold tree_Tree_deep_L0
    simp only [vl, cnd_run, decide_eq_true_eq]
    rw [if_neg (by rw [hlen]; omega)]
    rw [List.drop_length] at h3
    simp only [List.any_nil] at h3
    rw [h3] at h'
    exact h'
theorem psplit_size {s : ByteArray} (h : (psplit s).2 = 0) : s.size ≤ 64 := by
  unfold psplit at h
  split at h
  · rename_i e; subst e; decide
  · split at h
    · cases h
    · rename_i e; omega
def tover (t : Tr) (a b : ByteArray) : Bool := match lk b t.nodes with
  | some n => n.2.2 || (tlook t.nodes a).2.1
  | none => false
def tcanren (t : Tr) (a b : ByteArray) : Int :=
  if (psplit a).2 ≠ 0 ∨ (psplit b).2 ≠ 0 then 3
  else if (tlook t.nodes a).2.2 ≠ 0 then (tlook t.nodes a).2.2
  else if a = slash then 8
  else if punder b a = true then 10
  else if tparent t.nodes b ≠ 0 then tparent t.nodes b
  else if a = b then 0
  else if b = slash ∨ tover t a b = true then 5
  else if tdeep t.nodes a b = true then 3 else 0
theorem CanRename_up {p m : Nat} {t : Tr} {a b : ByteArray} {Q : Int → Hp → Prop} [Up Q] (hN : 100 < N) (hg : Gl σ) (ht : TreeAt σ p m t) (hok : TreeOk t)
    (h : Q (tcanren t a b) σ) : (tree_Tree_CanRename N (some ⟨p, 0, none⟩, a, b)).run Q σ := by
  unfold tree_Tree_CanRename
  refine cnd_go (fun e => by cases e) (fun _ => ?_)
  refine bind_go (Split_e hN hg fun s1 => ?_)
  refine bind_go (Split_e hN hg fun s2 => ?_)
  unfold tcanren at h
  refine or_go (cnd_go (fun h1 => ?_) (fun h1 => ?_))
  · rw [if_pos (by simpa using h1)] at h
    exact h
  · have h1 : ¬ ((psplit a).2 ≠ 0 ∨ (psplit b).2 ≠ 0) := by simpa using h1
    rw [if_neg h1] at h
    have sa : a.size ≤ 64 := psplit_size (Decidable.not_not.1 fun e => h1 (.inl e))
    have sb : b.size ≤ 64 := psplit_size (Decidable.not_not.1 fun e => h1 (.inr e))
    refine bind_go (Look_up hN hg ht ?_)
    refine cnd_ne (fun h3 => ?_) (fun h3 => ?_)
    · rw [if_pos h3] at h
      exact h
    · rw [if_neg (by simpa using h3)] at h
      dsimp only [vl]
      rw [scmp_eql]
      refine cnd_dec (fun h4 => ?_) (fun h4 => ?_)
      · have h4 : a = slash := h4
        rw [if_pos h4] at h
        exact h
      · have h4 : ¬ a = slash := h4
        rw [if_neg h4] at h
        refine bind_go (Under_up hN hg ?_)
        refine cnd_go (fun h5 => ?_) (fun h5 => ?_)
        · rw [if_pos h5] at h
          exact h
        · rw [if_neg (by rw [h5]; decide)] at h
          refine bind_go (parent_up hN hg ht ?_)
          refine cnd_ne (fun h6 => ?_) (fun h6 => ?_)
          · rw [if_pos h6] at h
            exact h
          · rw [if_neg (by simpa using h6)] at h
            obtain ⟨T, hp, hm⟩ := ht.at_
            refine nz_go (ld_go hp rfl ?_)
            refine ⟨_, hm.look sameStr b (ty := .agg [.str, .int .i64, .bool]) (z := ((⟨#[]⟩ : ByteArray), 0, false)) (dec := fun n => n) (fun v => rfl), ?_⟩
            refine new_st rfl fun b16 h16 => ?_
            have hl := fun x => le_set (x := x) h16
            rw [scmp_eql]
            refine cnd_dec (fun h7 => ?_) (fun h7 => ?_)
            · rw [if_pos h7] at h
              exact Up.le h _ (hl _)
            · rw [if_neg h7] at h
              have fin : ∀ v, v = decide (b = slash ∨ tover t a b = true) → ∀ τ, Hp.Le σ τ → (cnd v (M.pure (5 : Int)) (
                  M.bind (tree_Tree_deep N (some ⟨p, 0, none⟩, a, b)) fun (r21 : Bool) => cnd r21 (M.pure 3) (M.pure 0))).run Q τ := by
                intro v hv τ hl
                subst hv
                refine cnd_dec (fun h8 => ?_) (fun h8 => ?_)
                · rw [if_pos h8] at h
                  exact Up.le h _ hl
                · rw [if_neg h8] at h
                  refine bind_go (deep_up hN (hg.le hl) (ht.le hl) hok (by omega) (by omega) ?_)
                  refine cnd_go (fun h9 => ?_) (fun h9 => ?_)
                  · rw [if_pos h9] at h
                    exact Up.le h _ hl
                  · rw [if_neg (by rw [h9]; decide)] at h
                    exact Up.le h _ hl
              refine bind_go ?_
              rw [scmp_eql]
              refine cnd_dec (fun h8 => ?_) (fun h8 => ?_)
              · exact fin true (by have : b = slash := h8; simp [this]) _ (hl _)
              · have h8 : ¬ b = slash := h8
                cases hlk : lk b t.nodes with
                | none =>
                  have hto : tover t a b = false := by unfold tover; rw [hlk]
                  rw [hto] at fin
                  exact fin false (by simp [h8]) _ (hl _)
                | some n =>
                  have hto : tover t a b = (n.2.2 || (tlook t.nodes a).2.1) := by unfold tover; rw [hlk]
                  rw [hto] at fin
                  refine ld_go set_same rfl ?_
                  refine cnd_go (fun hn => ?_) (fun hn => ?_)
                  · have hn : n.2.2 = true := hn
                    exact fin true (by simp [hn]) _ (hl _)
                  · have hn : n.2.2 = false := hn
                    exact fin _ (by simp [h8, hn]) _ (hl _)
def tcandrop (t : Tr) (s : ByteArray) (d : Bool) : Int :=
  if (tlook t.nodes s).2.2 ≠ 0 then (tlook t.nodes s).2.2
  else if (tlook t.nodes s).2.1 = true ∧ d = false then 6
  else if (tlook t.nodes s).2.1 = false ∧ d = true then 7
  else if s = slash ∨ 0 < (tunder t.nodes s).length then 8 else 0
theorem tlook_size {nodes : List (ByteArray × Nd)} {s : ByteArray} (h : (tlook nodes s).2.2 = 0) : s.size ≤ 64 := by
  unfold tlook at h
  split at h
  · rename_i e; exact absurd h e
  · rename_i e; exact psplit_size (by simpa using e)
theorem CanDrop_up {p m : Nat} {t : Tr} {s : ByteArray} {d : Bool} {Q : Int → Hp → Prop} [Up Q] (hN : 100 < N) (hg : Gl σ) (ht : TreeAt σ p m t) (hok : TreeOk t)
    (h : Q (tcandrop t s d) σ) : (tree_Tree_CanDrop N (some ⟨p, 0, none⟩, s, d)).run Q σ := by
  unfold tree_Tree_CanDrop
  refine bind_go (Look_up hN hg ht ?_)
  unfold tcandrop at h
  refine cnd_ne (fun h1 => ?_) (fun h1 => ?_)
  · rw [if_pos h1] at h
    exact h
  · rw [if_neg (by simpa using h1)] at h
    have hs : s.size ≤ 64 := tlook_size h1
    refine and_go (cnd_go (fun h2 => ?_) (fun h2 => ?_))
    · rw [if_pos (by simpa using h2)] at h
      exact h
    · have h2 : ¬ ((tlook t.nodes s).2.1 = true ∧ d = false) := by simpa using h2
      rw [if_neg h2] at h
      refine and_go (cnd_go (fun h3 => ?_) (fun h3 => ?_))
      · rw [if_pos (by simpa using h3)] at h
        exact h
      · have h3 : ¬ ((tlook t.nodes s).2.1 = false ∧ d = true) := by simpa using h3
        rw [if_neg h3] at h
        refine bind_go ?_
        dsimp only [vl]
        rw [scmp_eql]
        refine cnd_dec (fun e => ?_) (fun e => ?_)
        · have e : s = slash := e
          rw [if_pos (.inl e)] at h
          exact h
        · have e : ¬ s = slash := e
          refine bind_go (under_up hN ht hok.few (by omega) fun sl τ l hl hp hv => ?_)
          have hlen := hv.len
          rw [List.length_map, hp.length_eq] at hlen
          refine cnd_dec (fun e2 => ?_) (fun e2 => ?_)
          · rw [if_pos (.inr (by omega))] at h
            exact Up.le h _ hl
          · rw [if_neg (fun e3 => e3.elim e (fun e3 => e2 (by omega)))] at h
            exact Up.le h _ hl
/-! ### Joined again, a path is itself -/
def spl (c : UInt8) : List UInt8 → List (List UInt8)
  | [] => [[]]
  | x :: xs => if x = c then [] :: spl c xs else match spl c xs with
    | [] => [[x]]
    | y :: ys => (x :: y) :: ys
theorem spl_ne (c : UInt8) : ∀ l, spl c l ≠ []
  | [] => by simp [spl]
  | x :: xs => by
    simp only [spl]
    split
    · simp
    · split <;> simp
theorem splitK_spl (c : UInt8) : ∀ (s : List UInt8), Lib.splitK [c] 0 (s.count c) s = spl c s
  | [] => rfl
  | x :: s => by
    have ih := splitK_spl c s
    by_cases hx : x = c
    · subst hx
      rw [List.count_cons_self, Lib.splitK]
      have hi : Lib.index (x :: s) [x] = 0 := by rw [Lib.index_one]; simp [Lib.indexByte]
      rw [hi]
      simp only [spl, if_true]
      rw [if_neg (by decide)]
      simp only [Int.toNat_zero, Nat.zero_add, Nat.add_zero, List.take_zero, List.length_cons, List.length_nil, List.drop_succ_cons, List.drop_zero]
      rw [ih]
    · have hc : (x :: s).count c = s.count c := List.count_cons_of_ne (by simpa using hx)
      rw [hc]
      simp only [spl, if_neg hx]
      rw [← ih]
      cases hk : s.count c with
      | zero => simp [Lib.splitK]
      | succ k =>
        have hi : Lib.index (x :: s) [c] = if Lib.index s [c] == -1 then -1 else Lib.index s [c] + 1 := by
          rw [Lib.index_one, Lib.index_one]
          simp [Lib.indexByte, hx]
        have hge := Lib.index_ge s [c]
        simp only [Lib.splitK]
        rw [hi]
        by_cases hm : Lib.index s [c] = -1
        · simp [hm]
        · have h1 : ¬ (Lib.index s [c] == -1) = true := by simpa using hm
          have h2 : ¬ ((if (Lib.index s [c] == -1) = true then -1 else Lib.index s [c] + 1) == -1) = true := by
            rw [if_neg h1]; simp; omega
          rw [if_neg h2, if_neg h1, if_neg h1]
          simp only
          have h3 : (Lib.index s [c] + 1).toNat = (Lib.index s [c]).toNat + 1 := by omega
          rw [h3]
          simp only [Nat.add_zero, List.take_succ_cons, List.length_cons, List.length_nil, Nat.zero_add]
          congr 1
theorem join_spl (c : UInt8) : ∀ (s : List UInt8), Lib.join (spl c s) [c] = s
  | [] => by simp [spl, Lib.join]
  | x :: s => by
    have ih := join_spl c s
    simp only [spl]
    split
    · rename_i e
      subst e
      cases h : spl x s with
      | nil => exact absurd h (spl_ne x s)
      | cons y ys =>
        rw [h] at ih
        rw [Lib.join_cons] at ih ⊢
        simp only [Lib.joinTail, List.map_cons, List.flatten_cons, List.nil_append, List.cons_append] at ih ⊢
        rw [ih]
    · cases h : spl c s with
      | nil => exact absurd h (spl_ne c s)
      | cons y ys =>
        rw [h] at ih
        rw [Lib.join_cons] at ih ⊢
        simp only [List.cons_append, ih]
theorem comps_spl (s : ByteArray) : (comps s).map (·.data.toList) = spl 47 (s.extract 1 s.size).data.toList := by
  unfold comps
  rw [Lib.splitB_data]
  have : slash.data.toList = [47] := rfl
  rw [this, ← splitK_spl]
  congr 1
  show Lib.count (s.extract 1 s.size).data.toList slash.data.toList = _
  rw [this, Lib.count_one]
theorem psplit_join_id {s : ByteArray} (h : (psplit s).2 = 0) : pjoin (psplit s).1 = s := by
  unfold psplit at h ⊢
  split at h
  · rename_i e
    rw [if_pos e, e]
    rfl
  · rename_i e
    rw [if_neg e]
    split at h
    · cases h
    · rename_i e2
      rw [if_neg e2]
      split at h
      · cases h
      · rename_i e3
        rw [if_neg e3]
        unfold pjoin
        simp only
        rw [comps_spl, join_spl]
        have hp : hasPre s slash = true := by
          cases hh : hasPre s slash
          · exact absurd (.inr hh) e2
          · rfl
        unfold hasPre at hp
        simp only [Bool.and_eq_true, decide_eq_true_eq] at hp
        have h2 := hp.2
        have h1 : 1 ≤ s.size := hp.1
        have : s = s.extract 0 1 ++ s.extract 1 s.size := by
          rw [ByteArray.extract_append_extract]
          simp
        rw [slash_size] at h2
        conv => rhs; rw [this, h2]
theorem lookGo_last {nodes : List (ByteArray × Nd)} {cs : List ByteArray} : ∀ (r i : Nat) (id : Int) (dir : Bool), i + (r + 1) = cs.length → (lookGo nodes cs (r + 1) i id dir).2.2 = 0 →
    ∃ n, lk (pjoin cs) nodes = some n ∧ lookGo nodes cs (r + 1) i id dir = (n.2.1, n.2.2, 0)
  | 0, i, id, dir, hi, h => by
    simp only [lookGo] at h ⊢
    split at h
    · cases h
    · rename_i hd
      rw [if_neg hd]
      have : cs.take (i + 1) = cs := List.take_of_length_le (by omega)
      rw [this] at h ⊢
      cases hl : lk (pjoin cs) nodes with
      | none => rw [hl] at h; cases h
      | some n => exact ⟨n, rfl, rfl⟩
  | r + 1, i, id, dir, hi, h => by
    rw [lookGo] at h ⊢
    split at h
    · cases h
    · rename_i hd
      rw [if_neg hd]
      cases hl : lk (pjoin (cs.take (i + 1))) nodes with
      | none => rw [hl] at h; cases h
      | some n =>
        rw [hl] at h
        exact lookGo_last r (i + 1) n.2.1 n.2.2 (by omega) h
theorem psplit_nil {s : ByteArray} (h : (psplit s).2 = 0) (hn : s ≠ slash) : (psplit s).1 ≠ [] := by
  intro e
  have := psplit_join_id h
  rw [e] at this
  exact hn (this.symm.trans rfl)
/-- A path that names something other than the root lies in the tree. -/
theorem tlook_lk {nodes : List (ByteArray × Nd)} {s : ByteArray} (h : (tlook nodes s).2.2 = 0) (hs : s ≠ slash) : ∃ n, lk s nodes = some n ∧ tlook nodes s = (n.2.1, n.2.2, 0) := by
  unfold tlook at h ⊢
  split at h
  · rename_i e; exact absurd h e
  · rename_i e
    rw [if_neg e]
    have he : (psplit s).2 = 0 := by simpa using e
    have hne := psplit_nil he hs
    have hp := List.length_pos_iff.2 hne
    obtain ⟨r, hr⟩ : ∃ r, (psplit s).1.length = r + 1 := ⟨_, (Nat.sub_add_cancel hp).symm⟩
    rw [hr] at h ⊢
    have := lookGo_last r 0 0 true (by omega) h
    rw [psplit_join_id he] at this
    exact this
/-! ### What changes a tree -/
def tmake (t : Tr) (s : ByteArray) (d : Bool) : Tr := ⟨kput s (s, t.next, d) t.nodes, wi (t.next + 1)⟩
theorem TreeAt.ne {p m : Nat} {t : Tr} (h : TreeAt σ p m t) : p ≠ m := by
  obtain ⟨T, hp, hm⟩ := h.at_
  obtain ⟨raw, h1, _⟩ := hm.at_
  obtain ⟨es, c, h2, _⟩ := h1.at_
  intro e
  subst e
  rw [hp] at h2
  cases h2
theorem Make_up {p m : Nat} {t : Tr} {s : ByteArray} {d : Bool} {Q : Int × Int → Hp → Prop} [Up Q] (hN : 100 < N) (hg : Gl σ) (ht : TreeAt σ p m t)
    (h0 : tcan t s ≠ 0 → Q (0, tcan t s) σ) (h1 : tcan t s = 0 → ∀ τ, Keep [p, m] σ τ → TreeAt τ p m (tmake t s d) → Q (t.next, 0) τ) : (tree_Tree_Make N (some ⟨p, 0, none⟩, s, d)).run Q σ := by
  unfold tree_Tree_Make
  simp only [bind_run]
  refine Can_up hN hg ht ?_
  simp only [vl, cnd_run, pure_run, bne_iff_ne, ne_eq]
  split
  · rename_i e
    exact h0 e
  · rename_i e
    have hpm := ht.ne
    obtain ⟨T, hp, hm⟩ := ht.at_
    refine nz_go (ld_go hp rfl ?_)
    refine new_st rfl fun b5 h5 => ?_
    have n1 : p ≠ b5 := fun e => by subst e; rw [hp] at h5; cases h5
    refine nz_go (ld_go (by rw [set_ne n1]; exact hp) rfl ?_)
    refine ld_g0 set_same rfl ?_
    simp only [bind_run]
    refine (hm.le (le_set h5)).put sameStr s (s, t.next, d) fun o ho => ?_
    have n2 : b5 ≠ m := fun e => by
      subst e
      obtain ⟨raw, g1, _⟩ := hm.at_
      obtain ⟨es, c, g2, _⟩ := g1.at_
      rw [g2] at h5; cases h5
    refine nz_go (ld_go (by rw [set_ne hpm, set_ne n1]; exact hp) rfl ?_)
    refine nz_go (st_go (by rw [set_ne hpm, set_ne n1]; exact hp) (by simp) ?_)
    refine ld_go (by rw [set_ne n1.symm, set_ne n2]; exact set_same) rfl ?_
    refine h1 (by simpa using e) _ ?_ ⟨T, by rw [set_same]; rfl, ho.keep (set_ne hpm.symm)⟩
    exact (Keep.of_le (le_set h5)).trans ((Keep.set _ (by simp)).trans (Keep.set _ (by simp)))
def tid (nodes : List (ByteArray × Nd)) (s : ByteArray) : Int := match lk s nodes with
  | some n => n.2.1
  | none => 0
theorem Drop_up {p m : Nat} {t : Tr} {s : ByteArray} {d : Bool} {Q : Int × Int → Hp → Prop} [Up Q] (hN : 100 < N) (hg : Gl σ) (ht : TreeAt σ p m t) (hok : TreeOk t)
    (h0 : tcandrop t s d ≠ 0 → Q (0, tcandrop t s d) σ) (h1 : tcandrop t s d = 0 → ∀ τ, Keep [m] σ τ → TreeAt τ p m ⟨kdel s t.nodes, t.next⟩ → Q (tid t.nodes s, 0) τ) : (tree_Tree_Drop N (some ⟨p, 0, none⟩, s, d)).run Q σ := by
  unfold tree_Tree_Drop
  simp only [bind_run]
  refine CanDrop_up hN hg ht hok ?_
  simp only [vl, cnd_run, pure_run, bne_iff_ne, ne_eq]
  split
  · rename_i e
    exact h0 e
  · rename_i e
    have hpm := ht.ne
    obtain ⟨T, hp, hm⟩ := ht.at_
    refine nz_go (ld_go hp rfl ?_)
    refine ⟨_, hm.look sameStr s (ty := .agg [.str, .int .i64, .bool]) (z := ((⟨#[]⟩ : ByteArray), 0, false)) (dec := fun n => n) (fun v => rfl), ?_⟩
    refine nz_go (ld_go hp rfl ?_)
    simp only [bind_run]
    refine hm.del sameStr s fun o ho => ?_
    have := h1 (by simpa using e) _ (Keep.set (k := m) (true, o) (by simp)) ⟨T, by rw [set_ne hpm]; exact hp, ho⟩
    unfold tid at this
    simp only [pure_run]
    cases hl : lk s t.nodes with
    | none => rw [hl] at this; exact this
    | some n => rw [hl] at this; exact this
def tnode (nodes : List (ByteArray × Nd)) (a : ByteArray) : Nd := match lk a nodes with
  | some n => n
  | none => (⟨#[]⟩, 0, false)
def moved (a b : ByteArray) (n : Nd) : Nd := (b ++ n.1.extract a.size n.1.size, n.2.1, n.2.2)
def trenGo (a b : ByteArray) (nodes : List (ByteArray × Nd)) (xs : List Nd) : List (ByteArray × Nd) := xs.foldl (fun nodes n => kput (moved a b n).1 (moved a b n) (kdel n.1 nodes)) nodes
def tgone (t : Tr) (b : ByteArray) : Int := match lk b t.nodes with
  | some n => n.2.1
  | none => -1
theorem Rename_up {p m : Nat} {t : Tr} {a b : ByteArray} {Q : Int × Int → Hp → Prop} [Up Q] (hN : 100 < N) (hg : Gl σ) (ht : TreeAt σ p m t) (hok : TreeOk t) (hkey : ∀ kn ∈ t.nodes, kn.1 = kn.2.1)
    (h0 : tcanren t a b ≠ 0 → Q (0, tcanren t a b) σ) (h1 : tcanren t a b = 0 → a = b → Q (-1, 0) σ)
    (h2 : tcanren t a b = 0 → a ≠ b → ∀ (l : List (ByteArray × Nd)) τ, l.Perm (tunder t.nodes a) → Keep [m] σ τ → TreeAt τ p m ⟨trenGo a b t.nodes (l.map Prod.snd ++ [tnode t.nodes a]), t.next⟩ → Q (tgone t b, 0) τ) : (tree_Tree_Rename N (some ⟨p, 0, none⟩, a, b)).run Q σ := by
  unfold tree_Tree_Rename
  simp only [bind_run]
  refine CanRename_up hN hg ht hok ?_
  simp only [vl, cnd_run, pure_run, bne_iff_ne, ne_eq, scmp_eql, decide_eq_true_eq]
  split
  · rename_i e
    exact h0 e
  · rename_i e
    have e0 : tcanren t a b = 0 := by simpa using e
    split
    · rename_i e1
      exact h1 e0 e1
    · rename_i e1
      have h2 := h2 e0 e1
      have hpm := ht.ne
      -- what the refusals say
      have hcan : (psplit a).2 = 0 ∧ (psplit b).2 = 0 ∧ (tlook t.nodes a).2.2 = 0 ∧ a ≠ slash := by
        unfold tcanren at e0
        split at e0
        · cases e0
        · rename_i g1
          split at e0
          · rename_i g2; exact absurd e0 g2
          · rename_i g2
            split at e0
            · cases e0
            · rename_i g3
              refine ⟨?_, ?_, by simpa using g2, g3⟩
              · exact Decidable.not_not.1 fun h => g1 (.inl h)
              · exact Decidable.not_not.1 fun h => g1 (.inr h)
      obtain ⟨pa, pb, la, na⟩ := hcan
      have sa := psplit_size pa
      have sb := psplit_size pb
      obtain ⟨n0, hn0, _⟩ := tlook_lk la na
      have hn0k : n0.1 = a := (hkey _ (lk_mem hn0)).symm
      obtain ⟨T, hp, hm⟩ := ht.at_
      -- the rest, from a memory that holds the tree
      have rest : ∀ ρ, Hp.Le σ ρ → (nz (some (⟨p, 0, none⟩ : Addr)) fun a10 =>
          ld [.map] (Addr.add a10 0) fun (r11 : Option Nat) =>
          M.rd (lookR .string (.string a) r11 (.agg [.str, .int .i64, .bool]) ((⟨#[]⟩ : ByteArray), 0, false)) fun (r12 : (ByteArray × Int × Bool) × Bool) =>
          M.bind (tree_Tree_under N (some ⟨p, 0, none⟩, a)) fun (r13 : Sl) =>
          M.again (lookR .string (.string a) r11 (.agg [.str, .int .i64, .bool]) ((⟨#[]⟩ : ByteArray), 0, false)) r12 <|
          M.again (ldR [.map] (Addr.add a10 0)) r11 <|
          M.new (ob [.string r12.1.1, .int .i64 r12.1.2.1, .bool r12.1.2.2] 51) fun b14 =>
          M.bind (appM 51 3 32 [.string (⟨#[]⟩ : ByteArray), .int .i64 0, .bool false] r13 (.sl (some ⟨b14, 0, none⟩) 1)) fun s15 =>
          M.bind (M.loop N (tree_Tree_Rename_L0 N (some ⟨p, 0, none⟩, a, b) s15) 0) fun (r32 : Unit) =>
          M.pure (tgone t b, (0 : Int))).run Q ρ := by
        intro ρ hl
        have hpρ := hl _ _ hp
        have hmρ := hm.le hl
        refine nz_go (ld_go hpρ rfl ?_)
        have hlook := hmρ.look sameStr a (ty := .agg [.str, .int .i64, .bool]) (z := ((⟨#[]⟩ : ByteArray), 0, false)) (dec := fun n => n) (fun v => rfl)
        rw [hn0] at hlook
        refine ⟨_, hlook, ?_⟩
        simp only [bind_run]
        refine under_up hN (ht.le hl) hok.few (by omega) fun sl τ l hl2 hperm hvec => ?_
        refine ⟨(lookR _ _ _ _ _).mono _ _ _ hl2 hlook, ?_⟩
        refine ⟨by rw [add_at, ldR_at, hl2 _ _ hpρ]; rfl, ?_⟩
        intro b14 h14
        simp only [bind_run]
        have hll : l.length ≤ 64 := by
          rw [hperm.length_eq]
          have := List.length_filter_le (fun kn : ByteArray × Nd => hasPre kn.2.1 (a ++ slash)) t.nodes
          have := hok.few
          show (List.filter _ _).length ≤ 64
          omega
        refine app_one (x := n0) (Vec.le hvec (le_set h14)) (hl2.trans (le_set h14)) encNd_len encNd_flat (by omega) rfl (bx := b14) set_same (by simp; omega) (by simp; omega) fun s15 τ1 g1 g2 => ?_
        have hrow := g2.row encNd_len
        have hlen := hrow.len
        have hp1 := g1 _ _ hpρ
        have hm1 := hmρ.le g1
        have hmob : ∃ es c, τ1 m = some (true, .map es c) := by
          obtain ⟨raw, q1, _⟩ := hm1.at_
          obtain ⟨es, c, q2, _⟩ := q1.at_
          exact ⟨es, c, q2⟩
        have hxs : ∀ n ∈ l.map Prod.snd ++ [n0], a.size ≤ n.1.size ∧ n.1.size ≤ 64 := by
          intro n hn
          rcases List.mem_append.1 hn with hn | hn
          · obtain ⟨kn, hkn, rfl⟩ := List.mem_map.1 hn
            have hmem := List.mem_filter.1 (hperm.mem_iff.1 hkn)
            have := hasPre_size hmem.2
            rw [size_app, slash_size] at this
            exact ⟨by omega, hok.path _ hmem.1⟩
          · simp only [List.mem_singleton] at hn
            subst hn
            rw [hn0k]
            exact ⟨Nat.le_refl _, by omega⟩
        refine loop_cnt (l.map Prod.snd ++ [n0]).length (fun i st τ => st = (i : Int) ∧ Keep [m] τ1 τ ∧ MapP encK encN τ m (trenGo a b t.nodes ((l.map Prod.snd ++ [n0]).take i))) _ _ ?_ ?_ N 0 τ1 ⟨rfl, Keep.refl _ _, hm1⟩ (by simp; omega)
        · rintro i _ τ hi ⟨rfl, k1, k2⟩
          unfold tree_Tree_Rename_L0
          simp only [vl, cnd_run, decide_eq_true_eq]
          rw [if_pos (by rw [hlen]; omega)]
          have hrow' := hrow.keep k1 (fun k hk fl arr T fz e => by
            simp only [List.mem_singleton] at hk
            subst hk
            obtain ⟨es, c, q⟩ := hmob
            rw [q] at e; cases e)
          have hp2 : τ p = _ := k1 _ _ (by simpa using hpm) hp1
          refine RowAt_nat hrow' (List.getElem?_eq_getElem hi) rfl (by simp [encNd, cso, Tp.ofs, Ce.of]; rfl) ?_
          obtain ⟨q1, q2⟩ := hxs _ (List.getElem_mem hi)
          refine new_st rfl fun b20 h20 => ?_
          have n1 : p ≠ b20 := fun e => by subst e; rw [hp2] at h20; cases h20
          have n2 : b20 ≠ m := fun e => by
            subst e
            obtain ⟨raw, g1, _⟩ := k2.at_
            obtain ⟨es, c, g2, _⟩ := g1.at_
            rw [g2] at h20; cases h20
          refine nz_go (ld_go (by rw [set_ne n1]; exact hp2) rfl ?_)
          refine ld_go set_same rfl ?_
          simp only [bind_run]
          refine (k2.le (le_set h20)).del sameStr _ fun o ho => ?_
          refine ld_go (by rw [set_ne n2]; exact set_same) rfl ?_
          refine ⟨⟨by omega, by omega, by omega⟩, ?_⟩
          simp only [Int.toNat_natCast]
          have hex : ((l.map Prod.snd ++ [n0])[i].1.extract a.size (l.map Prod.snd ++ [n0])[i].1.size).size ≤ 64 := by rw [ByteArray.size_extract]; omega
          refine ⟨by omega, ?_⟩
          refine st_go (by rw [set_ne n2]; exact set_same) (by simp) ?_
          refine nz_go (ld_go (by rw [set_ne n1, set_ne hpm, set_ne n1]; exact hp2) rfl ?_)
          refine ld_go set_same rfl ?_
          refine ld_g0 set_same rfl ?_
          simp only [bind_run]
          refine (ho.keep (set_ne n2.symm)).put sameStr (moved a b (l.map Prod.snd ++ [n0])[i]).1 (moved a b (l.map Prod.snd ++ [n0])[i]) fun o2 ho2 => ?_
          have hw : wi ((i : Int) + 1) = ((i + 1 : Nat) : Int) := by
            simp only [List.length_append, List.length_map, List.length_cons, List.length_nil] at hi
            rw [wi_id (by omega) (by omega)]; omega
          simp only [pure_run, hw]
          refine LP.go ⟨rfl, ?_, ?_⟩
          · intro k x hk hx
            simp only [List.mem_singleton] at hk
            have hx := k1 k x (by simpa using hk) hx
            have hkb : k ≠ b20 := fun e => by subst e; rw [h20] at hx; cases hx
            rw [set_ne hk, set_ne hkb, set_ne hk, set_ne hkb]
            exact hx
          · rw [List.take_succ_eq_append_getElem hi]
            unfold trenGo
            rw [List.foldl_append]
            exact ho2
        · rintro _ τ ⟨rfl, k1, k2⟩
          unfold tree_Tree_Rename_L0
          simp only [vl, cnd_run, decide_eq_true_eq]
          rw [if_neg (by rw [hlen]; omega)]
          rw [List.take_length] at k2
          have hn0' : tnode t.nodes a = n0 := by unfold tnode; rw [hn0]
          refine h2 l τ hperm ?_ ⟨T, k1 _ _ (by simpa using hpm) hp1, by rw [hn0']; exact k2⟩
          exact (Keep.of_le (hl.trans g1)).trans k1
      refine nz_go (ld_go hp rfl ?_)
      refine ⟨_, hm.look sameStr b (ty := .agg [.str, .int .i64, .bool]) (z := ((⟨#[]⟩ : ByteArray), 0, false)) (dec := fun n => n) (fun v => rfl), ?_⟩
      refine new_st rfl fun b7 h7 => ?_
      simp only [cnd_run]
      unfold tgone at rest
      cases hlk : lk b t.nodes with
      | none =>
        rw [hlk] at rest
        simp only [Bool.false_eq_true, if_false, pure_run]
        exact rest _ (le_set h7)
      | some n =>
        rw [hlk] at rest
        simp only [if_true]
        refine ld_go set_same rfl ?_
        simp only [pure_run]
        exact rest _ (le_set h7)
end
end Go.Wz
