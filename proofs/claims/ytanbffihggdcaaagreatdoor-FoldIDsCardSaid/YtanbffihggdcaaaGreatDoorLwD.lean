/- FoldIDs: the call answers true. -/
import Derived.Test.YtanbffihggdcaaaGreatDoorSpI
import Derived.Test.YtanbffihggdcaaaGreatDoorPlF
set_option linter.unusedVariables false
set_option linter.unusedSimpArgs false
set_option maxRecDepth 20000
namespace Go.Wz
open Go.Proofs Go.Eng Go.Sort
/-! ### Running beside memory that stays -/
theorem join_mono {σ τ ρ : Hp} (h : Hp.Le σ τ) (hd : Hp.Dj τ ρ) : Hp.Le (σ.join ρ) (τ.join ρ) := fun k x hk => by
  unfold Hp.join at hk ⊢
  cases e : σ k with
  | some y => rw [e] at hk; rw [h _ _ e]; exact hk
  | none =>
    rw [e] at hk
    have hk : ρ k = some x := hk
    rcases hd k with h1 | h1
    · rw [h1]; exact hk
    · rw [h1] at hk; cases hk
theorem dj_le {σ τ ρ : Hp} (h : Hp.Le σ τ) (hd : Hp.Dj τ ρ) : Hp.Dj σ ρ := fun k => by
  rcases hd k with h1 | h1
  · exact .inl (none_le h h1)
  · exact .inr h1
instance upFr {A B : Type} (k : A → M B) (Q : B → Hp → Prop) [Up Q] (ρ : Hp) : Up (fun a s => Hp.Dj s ρ → (k a).run Q (s.join ρ)) := ⟨fun a σ τ hl h hd => run_le (k a) (join_mono hl hd) (h (dj_le hl hd))⟩
theorem fr_go {A B : Type} {m : M A} {k : A → M B} {Q : B → Hp → Prop} {F ρ : Hp} (hd : Hp.Dj F ρ) (h : m.run (fun a s => Hp.Dj s ρ → (k a).run Q (s.join ρ)) F) : (M.bind m k).run Q (F.join ρ) := by
  refine bind_go (m.mono _ _ _ (fun a s hs => ?_) (m.frame _ F ρ hd h))
  obtain ⟨σ1, h1, rfl, h2⟩ := hs
  exact h2 h1
theorem split_heap {F τ : Hp} (h : Hp.Le F τ) : ∃ ρ, Hp.Dj F ρ ∧ τ = F.join ρ := by
  refine ⟨fun b => match F b with | some _ => none | none => τ b, fun b => ?_, ?_⟩
  · show F b = none ∨ (match F b with | some _ => none | none => τ b) = none
    cases e : F b <;> simp
  · funext b
    show τ b = (match F b with | some x => some x | none => (match F b with | some _ => none | none => τ b))
    cases e : F b with
    | none => simp
    | some x => simp [h b x e]
abbrev Hp0 : Hp := fun _ => none
theorem vec_out {α : Type} {n : Nat} {enc : α → List Value} {e : TypeId} {F ρ : Hp} {s : Sl} {xs : List α} (h : Vec n enc e F (F.join ρ) s xs) : Vec n enc e Hp0 ρ s xs := by
  refine ⟨h.len, h.cap, ?_⟩
  rcases h.at_ with k | ⟨b, vs, k1, k2, k3, k4⟩
  · exact .inl k
  · refine .inr ⟨b, vs, k1, rfl, ?_, k4⟩
    unfold Hp.join at k3
    rw [k2] at k3
    exact k3
theorem vec_in {α : Type} {n : Nat} {enc : α → List Value} {e : TypeId} {F ρ : Hp} {s : Sl} {xs : List α} (h : Vec n enc e Hp0 ρ s xs) (hd : Hp.Dj F ρ) : Vec n enc e F (F.join ρ) s xs := by
  refine ⟨h.len, h.cap, ?_⟩
  rcases h.at_ with k | ⟨b, vs, k1, k2, k3, k4⟩
  · exact .inl k
  · have : F b = none := by
      rcases hd b with h1 | h1
      · exact h1
      · rw [h1] at k3; cases k3
    refine .inr ⟨b, vs, k1, this, ?_, k4⟩
    unfold Hp.join
    rw [this]
    exact k3
section
variable {N : Nat} {σ : Hp} {p tp m bm p2 tp2 m2 bm2 L : Nat} {S T : St}
theorem mapP_keep {κ β : Type} [DecidableEq κ] {ek : κ → Value} {ev : β → Value} {τ : Hp} {b : Nat} {kvs : List (κ × β)} {X : List Nat} (h : MapP ek ev σ b kvs) (hk : Keep X σ τ) (hb : b ∉ X) : MapP ek ev τ b kvs := by
  obtain ⟨raw, ⟨es, c, h1, h2⟩, hp⟩ := h.at_
  exact ⟨⟨raw, ⟨es, c, hk _ _ hb h1, h2⟩, hp⟩, h.nd⟩
theorem StateAt.keep {τ : Hp} (h : StateAt σ p2 tp2 m2 bm2 S) (hst : StateAt σ p tp m bm T) (hk : Keep [tp, m, bm] σ τ) (h1 : p2 ∉ [tp, m, bm]) (h2 : tp2 ∉ [tp, m, bm]) (h3 : m2 ∉ [tp, m, bm]) (h4 : bm2 ∉ [tp, m, bm]) : StateAt τ p2 tp2 m2 bm2 S := by
  obtain ⟨T1, g1⟩ := h.st
  obtain ⟨T2, g2, g3⟩ := h.tr.at_
  obtain ⟨raw, g4, g5⟩ := h.bods
  exact ⟨⟨T1, hk _ _ h1 g1⟩, ⟨T2, hk _ _ h2 g2, mapP_keep g3 hk h3⟩, ⟨raw, mapP_keep g4 hk h4, g5.imp fun s ps hp => hst.parts hk hp⟩, h.ne⟩
theorem mem_nodesOf {nodes : Nodes} {n : Nd} (h : n ∈ nodesOf nodes) : ∃ kn ∈ nodes, kn.2 = n := by
  obtain ⟨s, h1, rfl⟩ := List.mem_map.1 h
  have hin := (pathsOf_perm nodes).mem_iff.1 h1
  cases e : lk s nodes with
  | none => exact absurd hin (lk_none.1 e)
  | some n => exact ⟨(s, n), lk_mem e, by unfold tnode; rw [e]⟩
/-- What is asked of one node. -/
theorem ids_plain (hi : Inv L S) (hf : Full S) (hft : Full T) {op : Int} (hst : Step S T op) {n : Nd} (hn : n ∈ nodesOf T.tr.nodes) :
    (lk n.2.1 T.bodies).isSome = !n.2.2 ∧ (n.2.1 < S.tr.next → n.2.2 = false → (lk n.2.1 S.bodies).isSome = true) ∧ ((lk n.2.1 S.bodies).isSome = true → op ≠ 3 → op ≠ 4 → bodyOf S n.2.1 = bodyOf T n.2.1) := by
  obtain ⟨kn, h1, rfl⟩ := mem_nodesOf hn
  refine ⟨hft kn h1, fun h2 h3 => ?_, fun h2 h3 h4 => ?_⟩
  · rcases hst.org kn h1 with ⟨k0, g1, g2⟩ | g
    · have := hf k0 g1
      rw [g2, h3] at this
      exact this
    · omega
  · rcases hst.org kn h1 with ⟨k0, g1, g2⟩ | g
    · have h5 := hf k0 g1
      rw [g2, h2] at h5
      have h6 := hft kn h1
      rw [← h5] at h6
      obtain ⟨b, hb⟩ := Option.isSome_iff_exists.1 h2
      obtain ⟨b', hb'⟩ := Option.isSome_iff_exists.1 h6
      have := hst.bod h3 h4 _ _ _ hb hb'
      subst this
      unfold bodyOf
      rw [hb, hb']
    · rw [g, lk_next hi] at h2
      cases h2
theorem IDs0_up {x : Sl} {r17 : Sl} {seen : Sl} {i : Nat} {d : Deed} {Q : Unit ⊕ Bool → Hp → Prop} [Up Q] (hN : 100 < N) (hL : L < 1000000) (hs : StateAt σ p2 tp2 m2 bm2 S) (ht : StateAt σ p tp m bm T) (hi : Inv L S) (hit : Inv (L + 61) T) (hf : Full S) (hft : Full T) (hst : Step S T d.1.1)
    {b o : Nat} (ha : x.a = some ⟨b, o, none⟩) (hlt : i < x.len) (hel : ElV σ b (o + i * 7) (encDd (d.1, d.2.1))) (hrow : NodesAt σ r17 (nodesOf T.tr.nodes)) (h : Q (.inl ()) σ) :
    (M.loop N (law15_FoldIDs_L0 N x r17 (some ⟨p, 0, none⟩) (some ⟨p2, 0, none⟩) (seen, (i : Int))) 0).run Q σ := by
  have hlen := hrow.len
  have hfew : (nodesOf T.tr.nodes).length ≤ 64 := by
    have := (pathsOf_perm T.tr.nodes).length_eq
    unfold nodesOf
    rw [List.length_map] at this ⊢
    have := hit.wf.few
    omega
  refine loop_cnt (nodesOf T.tr.nodes).length (fun j st τ => st = (j : Int) ∧ Hp.Le σ τ) _ _ ?_ ?_ N 0 σ ⟨rfl, Hp.Le.refl _⟩ (by omega)
  · rintro j _ τ hj ⟨rfl, g⟩
    unfold law15_FoldIDs_L0
    have hn : (nodesOf T.tr.nodes)[j]? = some (nodesOf T.tr.nodes)[j] := List.getElem?_eq_getElem hj
    generalize hnd : (nodesOf T.tr.nodes)[j] = n at hn
    have hmem : n ∈ nodesOf T.tr.nodes := by rw [← hnd]; exact List.getElem_mem hj
    obtain ⟨f1, f2, f3⟩ := ids_plain hi hf hft hst hmem
    obtain ⟨nb, no, na, nlt, nel⟩ := hrow.el encNd_len hn
    have nel := nel.le g
    have hbs := (hi.body n.2.1).2
    have hbt := (hit.body n.2.1).2
    refine cnd_dec (fun _ => ?_) (fun hc => absurd (show (j : Int) < (r17.len : Int) by omega) hc)
    refine ixA_go na nlt ?_
    rw [add_at]
    refine ld_el (j := 1) (r := n.2.1) nel (by simp [encNd_len]) rfl ?_
    refine bind_go (Body_up (hs.le g) (by omega) fun s1 τ1 k1 k2 => ?_)
    refine new_st rfl fun b23 h23 => ?_
    have k1 := k1.trans (le_set h23 (x := (true, ob [.int .i64 (bodyOf S n.2.1).1, .slice s1.a s1.len s1.cap] 47)))
    refine ixA_go na nlt ?_
    rw [add_at]
    refine ld_el (j := 1) (r := n.2.1) (nel.le k1) (by simp [encNd_len]) rfl ?_
    refine bind_go (Body_up ((ht.le g).le k1) (by omega) fun s2 τ2 l1 l2 => ?_)
    refine new_st rfl fun b27 h27 => ?_
    have e27 : Hp.set τ2 b27 (true, ob [.int .i64 (bodyOf T n.2.1).1, .slice s2.a s2.len s2.cap] 47) b27 = some (true, ob [.int .i64 (bodyOf T n.2.1).1, .slice s2.a s2.len s2.cap] 47) := set_same
    have l1 := k1.trans (l1.trans (le_set h27 (x := (true, ob [.int .i64 (bodyOf T n.2.1).1, .slice s2.a s2.len s2.cap] 47))))
    refine ixA_go na nlt ?_
    rw [add_at]
    refine ld_el (j := 1) (r := n.2.1) (nel.le l1) (by simp [encNd_len]) rfl ?_
    refine bind_go (Body_up ((hs.le g).le l1) (by omega) fun s3 τ3 q1 q2 => ?_)
    have e27 := q1 _ _ e27
    refine new_st rfl fun b31 h31 => ?_
    have e27 := le_set h31 (x := (true, ob [.int .i64 (bodyOf S n.2.1).1, .slice s3.a s3.len s3.cap] 47)) _ _ e27
    have e31 : Hp.set τ3 b31 (true, ob [.int .i64 (bodyOf S n.2.1).1, .slice s3.a s3.len s3.cap] 47) b31 = some (true, ob [.int .i64 (bodyOf S n.2.1).1, .slice s3.a s3.len s3.cap] 47) := set_same
    have q1 := l1.trans (q1.trans (le_set h31 (x := (true, ob [.int .i64 (bodyOf S n.2.1).1, .slice s3.a s3.len s3.cap] 47))))
    refine ixA_go na nlt ?_
    rw [add_at]
    refine ld_el (j := 1) (r := n.2.1) (nel.le q1) (by simp [encNd_len]) rfl ?_
    refine bind_go (Tree_up ((hs.le g).le q1) fun tp3 m3 τ4 u1 _ _ u2 => ?_)
    have e27 := u1 _ _ e27
    have e31 := u1 _ _ e31
    have u1 := q1.trans u1
    refine again_go ((nel.le u1).rd 1 (by simp [encNd_len]) rfl) ?_
    refine bind_go (Next_up u2 ?_)
    refine again_go ((nel.le u1).rd 1 (by simp [encNd_len]) rfl) ?_
    refine bind_go (M.mono _ (fun v ρ => v = false ∧ ρ = τ4) _ _ (fun v ρ hv => ?_) ?_)
    rotate_left
    · refine ixA_go na nlt ?_
      rw [add_at]
      refine ld_el (j := 2) (r := n.2.2) (nel.le u1) (by simp [encNd_len]) rfl ?_
      refine cnd_go (fun e => ?_) (fun _ => ?_)
      · have e : ((lk n.2.1 T.bodies).isSome == n.2.2) = true := e
        rw [f1] at e
        cases hh : n.2.2 <;> rw [hh] at e <;> cases e
      · refine cnd_dec (fun c1 => ?_) (fun _ => ⟨rfl, rfl⟩)
        refine ixA_go na nlt ?_
        rw [add_at]
        refine ld_el (j := 2) (r := n.2.2) (nel.le u1) (by simp [encNd_len]) rfl ?_
        refine cnd_not (fun c2 => ?_) (fun _ => ⟨rfl, rfl⟩)
        refine ⟨?_, rfl⟩
        show (!(lk n.2.1 S.bodies).isSome) = false
        rw [f2 c1 c2]; rfl
    obtain ⟨rfl, rfl⟩ := hv
    refine cnd_go (fun e => by cases e) (fun _ => ?_)
    have del := (hel.le g).le u1
    refine bind_go (M.mono _ (fun v ρ' => v = false ∧ ρ' = ρ) _ _ (fun v ρ' hv => ?_) ?_)
    rotate_left
    · refine cnd_go (fun c1 => ?_) (fun _ => ⟨rfl, rfl⟩)
      refine ixA_go ha hlt ?_
      simp only [add_at]
      refine ld_el (j := 0) (r := d.1.1) del (by simp [encDd_len]) rfl ?_
      refine cnd_ne (fun c3 => ?_) (fun _ => ⟨rfl, rfl⟩)
      refine ixA_go ha hlt ?_
      simp only [add_at]
      refine ld_el (j := 0) (r := d.1.1) del (by simp [encDd_len]) rfl ?_
      refine cnd_ne (fun c4 => ?_) (fun _ => ⟨rfl, rfl⟩)
      have hbb := f3 c1 c3 c4
      refine ld_g0 e31 rfl ?_
      refine ld_g0 e27 rfl ?_
      refine cnd_ne (fun x => absurd (congrArg Prod.fst hbb) x) (fun _ => ?_)
      refine ld_g0 e31 rfl ?_
      refine ld_g0 e27 rfl ?_
      refine ⟨?_, rfl⟩
      show ((s3.len : Int) != (s2.len : Int)) = false
      have := q2.len
      have := l2.len
      rw [hbb] at *
      simp
      omega
    obtain ⟨rfl, rfl⟩ := hv
    refine cnd_go (fun e => by cases e) (fun _ => ?_)
    have hw : wi ((j : Int) + 1) = ((j + 1 : Nat) : Int) := by rw [wi_id (by omega) (by omega)]; omega
    dsimp only [vl]
    rw [hw, pure_run]
    exact LP.go ⟨rfl, g.trans u1⟩
  · rintro _ τ ⟨rfl, g⟩
    unfold law15_FoldIDs_L0
    refine cnd_dec (fun hc => absurd (show ((_ : Nat) : Int) < (r17.len : Int) from hc) (by omega)) (fun _ => ?_)
    exact Up.le h _ g
end
end Go.Wz
