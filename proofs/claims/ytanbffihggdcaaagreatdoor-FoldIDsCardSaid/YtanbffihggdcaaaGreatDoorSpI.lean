/- Copies of states; all nodes by path; bodies handed out. -/
import Derived.Test.YtanbffihggdcaaaGreatDoorLwC
import Derived.Test.YtanbffihggdcaaaGreatDoorEng18
set_option linter.unusedVariables false
set_option linter.unusedSimpArgs false
set_option maxRecDepth 20000
namespace Go.Wz
open Go.Proofs Go.Eng Go.Sort
section
variable {N : Nat} {σ : Hp} {p tp m bm : Nat} {S : St}
theorem again_go {B R : Type} {f : Eng.Rd R} {r : R} {k : M B} {Q : B → Hp → Prop} (h1 : f.get σ = some r) (h2 : k.run Q σ) : (M.again f r k).run Q σ := ⟨h1, h2⟩
theorem none_le {τ : Hp} {k : Nat} (h : Hp.Le σ τ) (hk : τ k = none) : σ k = none := by
  cases e : σ k with
  | none => rfl
  | some y => rw [h _ _ e] at hk; cases hk
theorem clone_up {κ β : Type} [DecidableEq κ] {ek : κ → Value} {ev : β → Value} {kvs : List (κ × β)} {Q : Option Nat → Hp → Prop} [Up Q] (hm : MapP ek ev σ m kvs)
    (h : ∀ b τ, Hp.Le σ τ → σ b = none → MapP ek ev τ b kvs → Q (some b) τ) : (cloneM (some m)).run Q σ := by
  obtain ⟨raw, ⟨es, clock, h1, h2⟩, hp⟩ := hm.at_
  refine ⟨(es, clock), ?_, fun b hb => ?_⟩
  · show (match σ m with | some (_, .map es clock) => some (es, clock) | _ => none) = _
    rw [h1]
  · exact h b _ (le_set hb) hb ⟨⟨raw, ⟨es, clock, set_same, h2⟩, hp⟩, hm.nd⟩
theorem ldb {c : Ce} {cs : List Ce} {b o : Nat} {vs : List Value} {fl : Bool} {T : TypeId} {r : Cs (c :: cs)} (hb : σ b = some (fl, ob vs T)) (hr : rdL (c :: cs) o vs = some r) : (ldR (c :: cs) ⟨b, o, none⟩).get σ = some r := by
  have := (ld_ob (B := Unit) (k := fun _ => M.pure ()) (Q := fun _ _ => True) hb (cs := c :: cs) (o := o) (by simp)).2 ⟨r, hr, trivial⟩
  obtain ⟨r', h1, _⟩ := this
  rw [ldR_at, hb] at h1 ⊢
  unfold ob at *
  show rdL _ _ _ = _
  simpa using hr
theorem TCopy_up {t : Tr} {Q : Option Addr → Hp → Prop} [Up Q] (ht : TreeAt σ tp m t) (h : ∀ tp2 m2 τ, Hp.Le σ τ → σ tp2 = none → σ m2 = none → TreeAt τ tp2 m2 t → Q (some ⟨tp2, 0, none⟩) τ) : (tree_Tree_Copy N (some ⟨tp, 0, none⟩)).run Q σ := by
  unfold tree_Tree_Copy
  obtain ⟨T, hp, hm⟩ := ht.at_
  refine cnd_go (fun e => by cases e) (fun _ => ?_)
  refine nz_go (ld_go hp rfl ?_)
  refine nz_go (ld_go hp rfl ?_)
  refine bind_go (clone_up hm fun b τ h1 h2 h3 => ?_)
  refine again_go ?_ ?_
  · rw [add_at]; exact ldb (h1 _ _ hp) rfl
  · intro b7 h7
    exact h b7 b _ (h1.trans (le_set h7)) (none_le h1 h7) h2 ⟨161, set_same, h3.le (le_set h7)⟩
theorem Tree_up {Q : Option Addr → Hp → Prop} [Up Q] (hs : StateAt σ p tp m bm S) (h : ∀ tp2 m2 τ, Hp.Le σ τ → σ tp2 = none → σ m2 = none → TreeAt τ tp2 m2 S.tr → Q (some ⟨tp2, 0, none⟩) τ) : (fold_State_Tree N (some ⟨p, 0, none⟩)).run Q σ := by
  unfold fold_State_Tree
  obtain ⟨T, hp⟩ := hs.st
  refine cnd_go (fun e => by cases e) (fun _ => ?_)
  refine nz_go (ld_go hp rfl ?_)
  exact bind_go (TCopy_up hs.tr h)
theorem Copy_up {Q : Option Addr → Hp → Prop} [Up Q] (hs : StateAt σ p tp m bm S) (h : ∀ p2 tp2 m2 bm2 τ, Hp.Le σ τ → σ p2 = none → σ tp2 = none → σ m2 = none → σ bm2 = none → StateAt τ p2 tp2 m2 bm2 S → Q (some ⟨p2, 0, none⟩) τ) : (fold_State_Copy N (some ⟨p, 0, none⟩)).run Q σ := by
  unfold fold_State_Copy
  obtain ⟨T, hp⟩ := hs.st
  obtain ⟨raw, hb, hr⟩ := hs.bods
  refine cnd_go (fun e => by cases e) (fun _ => ?_)
  refine nz_go (ld_go hp rfl ?_)
  refine nz_go (ld_go hp rfl ?_)
  refine bind_go (TCopy_up hs.tr fun tp2 m2 τ h1 h2 h3 h4 => ?_)
  refine again_go ?_ ?_
  · rw [add_at]; exact ldb (h1 _ _ hp) rfl
  · refine bind_go (clone_up (hb.le h1) fun bm2 τ2 g1 g2 g3 => ?_)
    intro b8 h8
    have l8 := le_set (x := (true, ob [.pointer (some ⟨tp2, 0, none⟩), .map (some bm2)] 142)) h8
    refine h b8 tp2 m2 bm2 _ ((h1.trans g1).trans l8) (none_le (h1.trans g1) h8) h2 h3 (none_le h1 g2) ⟨⟨142, set_same⟩, (h4.le g1).le l8, ⟨raw, g3.le l8, hr.le ((h1.trans g1).trans l8)⟩, fun e => ?_⟩
    obtain ⟨_, hm2⟩ := h4.at_
    obtain ⟨es, c, q⟩ := hm2.2.obj
    rw [e, g2] at q
    cases q
theorem Next_up {t : Tr} {Q : Int → Hp → Prop} (ht : TreeAt σ tp m t) (h : Q t.next σ) : (tree_Tree_Next N (some ⟨tp, 0, none⟩)).run Q σ := by
  unfold tree_Tree_Next
  obtain ⟨T, hp, hm⟩ := ht.at_
  refine cnd_go (fun e => by cases e) (fun _ => ?_)
  exact nz_go (ld_go hp rfl h)
/-- All paths, rising. -/
def pathsOf (nodes : Nodes) : List ByteArray := ((nodes.map fun kn => kn.1.data.toList).mergeSort leB).map fun l => ⟨l.toArray⟩
theorem bytes_back (b : ByteArray) : (⟨b.data.toList.toArray⟩ : ByteArray) = b := by simp
theorem pathsOf_perm (nodes : Nodes) : (pathsOf nodes).Perm (nodes.map Prod.fst) := by
  unfold pathsOf
  refine ((List.mergeSort_perm _ _).map _).trans ?_
  rw [List.map_map]
  exact List.Perm.of_eq (List.map_congr_left fun kn _ => bytes_back kn.1)
theorem strsKOf_ents {β : Type} {ev : β → Value} : ∀ {es : List MapEntry} {kvs : List (ByteArray × β)}, Ents encK ev es kvs → (∀ p ∈ kvs, p.1.size ≤ maxLen) → strsKOf es = some (kvs.map fun p => p.1.data.toList)
  | [], [], _, _ => rfl
  | e :: es, p :: ps, ⟨h1, _, h3⟩, hw => by
    have ih := strsKOf_ents h3 fun q hq => hw q (List.mem_cons_of_mem _ hq)
    have h0 := hw p List.mem_cons_self
    have h1 : e.key = .string p.1 := h1
    simp only [strsKOf, h1, ih, if_pos h0, List.map_cons]
  | [], _ :: _, h, _ => h.elim
  | _ :: _, [], h, _ => h.elim
theorem sortedS_up {b : Nat} {fl : Bool} {T T2 : TypeId} {t : Nodes} {Q : Sl → Hp → Prop} [Up Q] (hb : σ b = some (fl, ob [.map (some m)] T)) (hm : MapP encK encN σ m t) (hw : ∀ kn ∈ t, kn.1.size ≤ 64) (hlen : t.length ≤ 4000000000)
    (h : ∀ sl τ, Hp.Le σ τ → StrsAt τ sl (pathsOf t) → Q sl τ) : (sortedMS T2 b).run Q σ := by
  obtain ⟨raw, ⟨es, clock, h1, h2, h3, h4⟩, hp⟩ := hm.at_
  have hlr : raw.length = t.length := hp.length_eq
  have hle : es.toList.length = raw.length := h2.length
  have hks : (keysRS b).get σ = some (raw.map fun p => p.1.data.toList) := by
    refine keysRS_mk hb rfl h1 ?_ ?_ ?_
    rotate_left 2
    · exact strsKOf_ents h2 fun p hp' => by
        have := hw p (hp.mem_iff.1 hp')
        show _ ≤ (9223372036854775807 : Nat)
        omega
    · refine ⟨h4, h3, ?_⟩
      · rw [ents_keys h2]
        have hn : (raw.map Prod.fst).Nodup := ((hp.map Prod.fst).nodup_iff).2 hm.nd
        have : (raw.map fun p => encK p.1) = (raw.map Prod.fst).map encK := by simp
        rw [this]
        refine List.Pairwise.map _ (fun a b hab e => hab ?_) hn
        have e : Value.string a = .string b := e
        injection e
    · have : es.size = es.toList.length := by simp
      rw [this]
      show _ ≤ (9223372036854775807 : Nat)
      omega
  have hpm : (raw.map fun p => p.1.data.toList).mergeSort leB = (t.map fun p => p.1.data.toList).mergeSort leB := mergeSort_of_perm (hp.map _)
  refine ⟨_, hks, ⟨by rw [List.length_map]; omega, by rw [List.length_map]; show _ ≤ (9223372036854775807 : Nat); omega⟩, ?_⟩
  split
  · rename_i e
    have h0 : t.map (fun p => p.1.data.toList) = [] := by
      apply List.eq_nil_of_length_eq_zero
      have := congrArg List.length e; rw [List.length_map] at this ⊢; rw [← hlr]; exact this
    refine h _ _ (Hp.Le.refl _) ?_
    unfold pathsOf
    rw [h0, List.mergeSort_nil]
    exact RowAt.nil none
  · rename_i e
    rintro ⟨c, vs⟩ ⟨g1, g2, g3⟩ b' hb'
    simp only at g1 g2 g3
    refine h _ _ (le_set hb') ⟨?_, ?_, .inr ⟨b', 0, true, _, _, (0, 0), rfl, set_same, fun i x hx => ?_⟩⟩
    · simp only [pathsOf, List.length_map, List.length_mergeSort]; exact hlr
    · exact g1
    · have hi := (List.getElem?_eq_some_iff.1 hx).1
      simp only [pathsOf, List.length_map, List.length_mergeSort] at hi g1 g3
      refine ⟨by simp only [List.size_toArray]; omega, ?_⟩
      show List.take 1 (List.drop (0 + i * 1) vs) = encS x
      have hlt : i < vs.length := by omega
      rw [Nat.zero_add, Nat.mul_one, List.drop_eq_getElem_cons hlt]
      have h5 : vs[i]? = some (Value.string x) := by
        have : (vs.take raw.length)[i]? = some (Value.string x) := by
          rw [g3, hpm]
          unfold pathsOf at hx
          rw [List.getElem?_map, Option.map_eq_some_iff] at hx ⊢
          obtain ⟨y, hy, rfl⟩ := hx
          exact ⟨y, hy, rfl⟩
        rw [List.getElem?_take, if_pos (by omega)] at this
        exact this
      rw [List.getElem?_eq_getElem hlt] at h5
      simp only [Option.some.injEq] at h5
      rw [h5]; rfl
theorem Paths_up {t : Tr} {Q : Sl → Hp → Prop} [Up Q] (ht : TreeAt σ tp m t) (hok : TreeOk t) (hkey : ∀ kn ∈ t.nodes, kn.1 = kn.2.1) (h : ∀ sl τ, Hp.Le σ τ → StrsAt τ sl (pathsOf t.nodes) → Q sl τ) : (tree_Tree_Paths N (some ⟨tp, 0, none⟩)).run Q σ := by
  unfold tree_Tree_Paths
  obtain ⟨T, hp, hm⟩ := ht.at_
  refine cnd_go (fun e => by cases e) (fun _ => ?_)
  refine nz_go (ld_go hp rfl ?_)
  intro b hb
  refine bind_go (sortedS_up set_same (hm.le (le_set hb)) (fun kn hk => by rw [hkey kn hk]; exact hok.path _ hk) (by have := hok.few; omega) fun sl τ h1 h2 => ?_)
  exact h sl τ ((le_set hb).trans h1) h2
/-- All nodes, by path. -/
def nodesOf (nodes : Nodes) : List Nd := (pathsOf nodes).map (tnode nodes)
theorem Nodes_up {t : Tr} {Q : Sl → Hp → Prop} [Up Q] (hN : 100 < N) (ht : TreeAt σ tp m t) (hok : TreeOk t) (hkey : ∀ kn ∈ t.nodes, kn.1 = kn.2.1) (h : ∀ sl τ, Hp.Le σ τ → NodesAt τ sl (nodesOf t.nodes) → Q sl τ) : (tree_Tree_Nodes N (some ⟨tp, 0, none⟩)).run Q σ := by
  unfold tree_Tree_Nodes
  refine bind_go (Paths_up ht hok hkey fun ps τ1 h1 h2 => ?_)
  refine bind_go ?_
  have hlen := h2.len
  have hfew : (pathsOf t.nodes).length ≤ 64 := by
    have := (pathsOf_perm t.nodes).length_eq
    rw [List.length_map] at this
    have := hok.few
    omega
  refine loop_cnt (S := Sl × Int) (pathsOf t.nodes).length (fun i st τ => st.2 = (i : Int) ∧ Hp.Le τ1 τ ∧ NVec τ1 τ st.1 (((pathsOf t.nodes).take i).map (tnode t.nodes))) _ _ ?_ ?_ N (⟨none, 0, 0⟩, 0) τ1 ⟨rfl, Hp.Le.refl _, Vec.nil none⟩ (by omega)
  · rintro i ⟨sl, _⟩ τ hi ⟨rfl, g1, g2⟩
    unfold tree_Tree_Nodes_L0
    have hx : (pathsOf t.nodes)[i]? = some (pathsOf t.nodes)[i] := List.getElem?_eq_getElem hi
    refine cnd_dec (fun _ => ?_) (fun hc => absurd (show (i : Int) < (ps.len : Int) by omega) hc)
    refine RowAt_nat (h2.le g1) hx rfl (r := (pathsOf t.nodes)[i]) rfl ?_
    obtain ⟨T, hp, hm⟩ := ((ht.le h1).le g1).at_
    refine nz_go (ld_go hp rfl ?_)
    have hin : (pathsOf t.nodes)[i] ∈ t.nodes.map Prod.fst := (pathsOf_perm _).mem_iff.1 (List.getElem_mem hi)
    have hlk : lk (pathsOf t.nodes)[i] t.nodes = some (tnode t.nodes (pathsOf t.nodes)[i]) := by
      unfold tnode
      cases e : lk (pathsOf t.nodes)[i] t.nodes with
      | none => exact absurd hin (lk_none.1 e)
      | some n => rfl
    have hk := hm.look sameStr (pathsOf t.nodes)[i] (ty := .agg [.str, .int .i64, .bool]) (z := ((⟨#[]⟩ : ByteArray), 0, false)) (dec := fun n => n) (fun _ => rfl)
    rw [hlk] at hk
    refine ⟨_, hk, ?_⟩
    intro b9 h9
    have h4 : (((pathsOf t.nodes).take i).map (tnode t.nodes)).length ≤ 64 := by rw [List.length_map, List.length_take]; omega
    refine bind_go (app_one (x := tnode t.nodes (pathsOf t.nodes)[i]) (Vec.le g2 (le_set h9)) (g1.trans (le_set h9)) encNd_len encNd_flat (by omega) rfl (bx := b9) set_same (by omega) (by omega) fun s' τ' k1 k2 => ?_)
    have hw : wi ((i : Int) + 1) = ((i + 1 : Nat) : Int) := by rw [wi_id (by omega) (by omega)]; omega
    dsimp only [vl]
    rw [hw, pure_run]
    exact LP.go ⟨rfl, k1, by rw [List.take_succ_eq_append_getElem hi, List.map_append]; exact k2⟩
  · rintro ⟨sl, _⟩ τ ⟨rfl, g1, g2⟩
    unfold tree_Tree_Nodes_L0
    refine cnd_dec (fun hc => absurd (show ((_ : Nat) : Int) < (ps.len : Int) from hc) (by omega)) (fun _ => ?_)
    rw [List.take_length] at g2
    exact h sl τ (h1.trans g1) (g2.row encNd_len)
theorem Body_up {id : Int} {Q : (Int × Sl) × Bool → Hp → Prop} [Up Q] (hs : StateAt σ p tp m bm S) (hlen : (bodyOf S id).2.length < 1000000000)
    (h : ∀ sl τ, Hp.Le σ τ → PartsAt τ sl (bodyOf S id).2 → Q (((bodyOf S id).1, sl), (lk id S.bodies).isSome) τ) : (fold_State_Body N (some ⟨p, 0, none⟩, id)).run Q σ := by
  unfold fold_State_Body
  intro b1 h1
  have l1 := le_set (x := (true, ob [.int .i64 0, .slice none 0 0] 47)) h1
  have hs1 := hs.le l1
  obtain ⟨T, hp⟩ := hs1.st
  refine cnd_go (fun e => by cases e) (fun _ => ?_)
  refine nz_go (ld_go hp rfl ?_)
  obtain ⟨r, g1, g2, g3⟩ := hs1.look id
  refine ⟨_, g1, ?_⟩
  refine new_st rfl fun b7 h7 => ?_
  refine ld_go set_same rfl ?_
  refine bind_go (CloneP_up (g3.le (le_set h7)) hlen fun sl τ k1 k2 k3 => ?_)
  have hb7 := k1 _ _ set_same
  have hb1 := k1 _ _ (le_set h7 _ _ set_same)
  have hne : b1 ≠ b7 := fun e => by subst e; rw [set_same] at h7; cases h7
  refine st_go hb7 (by simp) ?_
  refine ld_g0 set_same rfl ?_
  refine st_g0 (vs := [.int .i64 0, .slice none 0 0]) (T := 47) (by unfold Hp.set; rw [if_neg hne]; exact hb1) (by simp) ?_
  refine ld_g0 set_same rfl ?_
  have hv := (k3.setn (k := b7) (true, ob (wrL [.int .i64 r.1, .slice r.2.a r.2.len r.2.cap] (0 + 1) [.slice sl.a sl.len sl.cap]) 47) set_same).setn (k := b1) (true, ob (wrL [.int .i64 0, .slice none 0 0] 0 [.int .i64 r.1, .slice sl.a sl.len sl.cap]) 47) (le_set h7 _ _ set_same)
  have := h sl _ ?_ (hv.row encP_len)
  · rw [← g2] at this; exact this
  · intro k x hk
    have h71 : k ≠ b7 := fun e => by subst e; rw [none_le l1 h7] at hk; cases hk
    have h11 : k ≠ b1 := fun e => by subst e; rw [h1] at hk; cases hk
    unfold Hp.set
    rw [if_neg h11, if_neg h71]
    exact k1 _ _ (le_set h7 _ _ (l1 _ _ hk))
end
end Go.Wz
