/- What chunks a body, a state uses. -/
import Derived.Test.YtanbffihggdcaaaGreatDoorSpP
import Derived.Test.YtanbffihggdcaaaGreatDoorEng17
set_option linter.unusedVariables false
set_option linter.unusedSimpArgs false
namespace Go.Eng
open Go.Sort
def encI1 (i : Int) : List Value := [.int .i64 i]
abbrev IntsAt := RowAt 1 encI1
theorem intsOf_ents {β : Type} {ev : β → Value} : ∀ {es : List MapEntry} {kvs : List (Int × β)}, Ents (Value.int .i64) ev es kvs → (∀ p ∈ kvs, (Lit.int .i64 p.1).wf = true) → intsOf es = some (kvs.map Prod.fst)
  | [], [], _, _ => rfl
  | e :: es, p :: ps, h, hw => by
    have ih := intsOf_ents h.2.2 fun q hq => hw q (List.mem_cons_of_mem _ hq)
    simp only [intsOf, h.1, ih, hw p List.mem_cons_self, if_true, List.map_cons]
  | [], _ :: _, h, _ => h.elim
  | _ :: _, [], h, _ => h.elim
theorem ents_keys {κ β : Type} {ek : κ → Value} {ev : β → Value} : ∀ {es : List MapEntry} {kvs : List (κ × β)}, Ents ek ev es kvs → es.map (·.key) = kvs.map fun p => ek p.1
  | [], [], _ => rfl
  | e :: es, p :: ps, h => by simp only [List.map_cons, h.1, ents_keys h.2.2]
  | [], _ :: _, h => h.elim
  | _ :: _, [], h => h.elim
/-- What is known now and was not. -/
def Hp.new (σ τ : Hp) : Hp := fun k => match σ k with
  | some _ => none
  | none => τ k
theorem new_le {σ τ : Hp} : Hp.Le (Hp.new σ τ) τ := fun k x h => by
  unfold Hp.new at h
  split at h
  · cases h
  · exact h
theorem new_anti {σ σ' τ : Hp} (hl : Hp.Le σ σ') : Hp.Le (Hp.new σ' τ) (Hp.new σ τ) := fun k x h => by
  unfold Hp.new at h ⊢
  split at h
  · cases h
  · rename_i e
    have : σ k = none := by
      cases e2 : σ k with
      | none => rfl
      | some y => rw [hl _ _ e2] at e; cases e
    rw [this]
    exact h
theorem new_at {σ τ : Hp} {k : Nat} {x : Bool × Obj} (h : σ k = none) (h2 : τ k = some x) : Hp.new σ τ k = some x := by
  unfold Hp.new
  rw [h]; exact h2
theorem sorted_up {β : Type} {ev : β → Value} {σ : Hp} {b m : Nat} {fl : Bool} {T T2 : TypeId} {kvs : List (Int × β)} {Q : Sl → Hp → Prop} [Up Q] (hb : σ b = some (fl, ob [.map (some m)] T)) (hm : MapP (Value.int .i64) ev σ m kvs)
    (hw : ∀ p ∈ kvs, (Lit.int .i64 p.1).wf = true) (hlen : kvs.length ≤ 4000000000) (h : ∀ sl τ, Hp.Le σ τ → IntsAt (Hp.new σ τ) sl ((kvs.map Prod.fst).mergeSort leI) → Q sl τ) : (sortedM T2 b).run Q σ := by
  obtain ⟨raw, ⟨es, clock, h1, h2, h3, h4⟩, hp⟩ := hm.at_
  have hlr : raw.length = kvs.length := hp.length_eq
  have hle : es.toList.length = raw.length := h2.length
  have hks : (keysR b).get σ = some (raw.map Prod.fst) := by
    refine keysR_mk hb rfl h1 ?_ ?_ ?_
    rotate_left 2
    · exact intsOf_ents h2 fun p hp' => hw p (hp.mem_iff.1 hp')
    · refine ⟨h4, h3, ?_⟩
      · rw [ents_keys h2]
        have hn : (raw.map Prod.fst).Nodup := ((hp.map Prod.fst).nodup_iff).2 hm.nd
        have : (raw.map fun p => Value.int .i64 p.1) = (raw.map Prod.fst).map (Value.int .i64) := by simp
        rw [this]
        refine List.Pairwise.map _ (fun a b hab e => hab ?_) hn
        injection e
    · · have : es.size = es.toList.length := by simp
        rw [this]
        show _ ≤ (9223372036854775807 : Nat)
        omega
  have hpm : (raw.map Prod.fst).mergeSort leI = (kvs.map Prod.fst).mergeSort leI := mergeSort_of_perm_i (hp.map _)
  refine ⟨_, hks, ⟨by rw [List.length_map]; omega, by rw [List.length_map]; show _ ≤ (9223372036854775807 : Nat); omega⟩, ?_⟩
  split
  · rename_i e
    have h0 : kvs.map Prod.fst = [] := by
      apply List.eq_nil_of_length_eq_zero
      have := congrArg List.length e; rw [List.length_map] at this ⊢; rw [← hlr]; exact this
    refine h _ _ (Hp.Le.refl _) ?_
    rw [h0, List.mergeSort_nil]
    exact RowAt.nil none
  · rename_i e
    rintro ⟨c, vs⟩ ⟨g1, g2, g3⟩ b' hb'
    simp only at g1 g2 g3
    refine h _ _ (le_set hb') ⟨?_, ?_, .inr ⟨b', 0, true, _, _, (0, 0), rfl, new_at hb' set_same, fun i x hx => ?_⟩⟩
    · simp only [List.length_map, List.length_mergeSort]; exact hlr
    · exact g1
    · have hi := (List.getElem?_eq_some_iff.1 hx).1
      simp only [List.length_map, List.length_mergeSort] at hi g1 g3
      refine ⟨by simp only [List.size_toArray]; omega, ?_⟩
      show List.take 1 (List.drop (0 + i * 1) vs) = encI1 x
      have hlt : i < vs.length := by omega
      rw [Nat.zero_add, Nat.mul_one, List.drop_eq_getElem_cons hlt]
      have h5 : vs[i]? = some (Value.int .i64 x) := by
        have : (vs.take raw.length)[i]? = some (Value.int .i64 x) := by
          rw [g3, hpm, List.getElem?_map, hx]; rfl
        rw [List.getElem?_take, if_pos (by omega)] at this
        exact this
      rw [List.getElem?_eq_getElem hlt] at h5
      simp only [Option.some.injEq] at h5
      rw [h5]; rfl
end Go.Eng

namespace Go.Wz
open Go.Proofs Go.Eng Go.Sort
def encBl (b : Bool) : Value := .bool b
/-- Numbers set down in a map, one after another. -/
def putAll (kvs : List (Int × Bool)) (l : List Int) : List (Int × Bool) := l.foldl (fun m k => kput k true m) kvs
theorem kput_keys {k x : Int} {v : Bool} {kvs : List (Int × Bool)} : x ∈ (kput k v kvs).map Prod.fst ↔ x = k ∨ x ∈ kvs.map Prod.fst := by
  rw [((kput_perm (k := k) (v := v) kvs).map Prod.fst).mem_iff, List.map_cons, List.mem_cons]
  constructor
  · rintro (h | h)
    · exact .inl h
    · right
      have : ∀ (kvs : List (Int × Bool)), x ∈ (kdel k kvs).map Prod.fst → x ∈ kvs.map Prod.fst := by
        intro kvs
        induction kvs with
        | nil => simp [kdel]
        | cons p ps ih =>
          simp only [kdel]
          split
          · intro h; exact List.mem_cons_of_mem _ h
          · intro h
            simp only [List.map_cons, List.mem_cons] at h ⊢
            exact h.imp_right ih
      exact this _ h
  · rintro (h | h)
    · exact .inl h
    · by_cases e : x = k
      · exact .inl e
      · right
        have : ∀ (kvs : List (Int × Bool)), x ∈ kvs.map Prod.fst → x ∈ (kdel k kvs).map Prod.fst := by
          intro kvs
          induction kvs with
          | nil => simp [kdel]
          | cons p ps ih =>
            simp only [kdel]
            split
            · rename_i e'
              intro h
              simp only [List.map_cons, List.mem_cons] at h
              rcases h with h | h
              · exact absurd (h.trans e') e
              · exact h
            · intro h
              simp only [List.map_cons, List.mem_cons] at h ⊢
              exact h.imp_right ih
        exact this _ h
theorem kput_len {k : Int} {v : Bool} : ∀ {kvs : List (Int × Bool)}, (kput k v kvs).length ≤ kvs.length + 1
  | [] => by simp [kput]
  | p :: ps => by
    simp only [kput]
    split
    · simp
    · simp only [List.length_cons]
      have := kput_len (k := k) (v := v) (kvs := ps)
      omega
theorem putAll_keys {x : Int} : ∀ {l : List Int} {kvs : List (Int × Bool)}, x ∈ (putAll kvs l).map Prod.fst ↔ x ∈ l ∨ x ∈ kvs.map Prod.fst
  | [], kvs => by simp [putAll]
  | k :: l, kvs => by
    show x ∈ (putAll (kput k true kvs) l).map Prod.fst ↔ _
    rw [putAll_keys, kput_keys, List.mem_cons]
    constructor
    · rintro (h | h | h)
      · exact .inl (.inr h)
      · exact .inl (.inl h)
      · exact .inr h
    · rintro ((h | h) | h)
      · exact .inr (.inl h)
      · exact .inl h
      · exact .inr (.inr h)
theorem putAll_len : ∀ {l : List Int} {kvs : List (Int × Bool)}, (putAll kvs l).length ≤ kvs.length + l.length
  | [], _ => by simp [putAll]
  | k :: l, kvs => by
    show (putAll (kput k true kvs) l).length ≤ _
    have h1 := putAll_len (l := l) (kvs := kput k true kvs)
    have h2 := kput_len (k := k) (v := true) (kvs := kvs)
    simp only [List.length_cons]
    omega
/-- The numbers of a row, each once, rising. -/
def rising (l : List Int) : List Int := ((putAll [] l).map Prod.fst).mergeSort leI
theorem putAll_nodup : ∀ {l : List Int} {kvs : List (Int × Bool)}, (kvs.map Prod.fst).Nodup → ((putAll kvs l).map Prod.fst).Nodup
  | [], _, h => h
  | k :: l, kvs, h => putAll_nodup (l := l) (kput_nodup h)
/-- Whatever map has just these keys. -/
theorem rising_of {l : List Int} {kvs : List (Int × Bool)} (hn : (kvs.map Prod.fst).Nodup) (h : ∀ x, x ∈ kvs.map Prod.fst ↔ x ∈ l) : (kvs.map Prod.fst).mergeSort leI = rising l := by
  refine mergeSort_of_perm_i ((List.perm_ext_iff_of_nodup hn (putAll_nodup (by simp))).2 fun x => ?_)
  rw [h, putAll_keys]
  simp
theorem BodRel.keys {σ : Hp} : ∀ {xs : List (Int × (Int × Sl))} {ys : List (Int × Bd)}, BodRel σ xs ys → xs.map Prod.fst = ys.map Prod.fst
  | [], [], _ => rfl
  | x :: xs, y :: ys, h => by simp only [List.map_cons, h.1.1, BodRel.keys h.2]
  | [], _ :: _, h => h.elim
  | _ :: _, [], h => h.elim
def inI (x : Int) : Prop := (Lit.int .i64 x).wf = true
section
variable {N : Nat} {σ : Hp}
theorem UsesB_up {size : Int} {s : Sl} {ps : List Prt} {Q : Sl → Hp → Prop} [Up Q] (hs : PartsAt σ s ps) (hN : ps.length < N) (hlen : ps.length < 1000000000) (hin : ∀ p ∈ ps, inI p.2.2.1)
    (h : ∀ sl τ, Hp.Le σ τ → IntsAt τ sl (rising (ps.map fun p => p.2.2.1)) → Q sl τ) : (body_Uses N (size, s)).run Q σ := by
  unfold body_Uses
  intro b1 h1 b2 h2
  obtain ⟨n1, n2, h2'⟩ := set_none.1 h2
  refine ld_go (by rw [set_ne n2]; exact set_same) rfl ?_
  have hl := le_set (x := (true, ob [.int .i64 size, .slice s.a s.len s.cap] 47)) h1
  have hm0 := MapP.new (ek := Value.int .i64) (ev := encBl) (σ := σ.set b1 (true, ob [.int .i64 size, .slice s.a s.len s.cap] 47)) (b := b2) 0
  have hlen' := hs.len
  refine bind_go ?_
  refine loop_cnt ps.length (fun i st τ => st = (i : Int) ∧ Hp.Le σ τ ∧ ∃ kvs, MapP (Value.int .i64) encBl τ b2 kvs ∧ kvs = putAll [] ((ps.take i).map fun p => p.2.2.1)) _ _ ?_ ?_ N 0 _
    ⟨rfl, le_sets hl h2', [], hm0, rfl⟩ hN
  · rintro i _ τ hi ⟨rfl, g1, kvs, g2, g3⟩
    unfold body_Uses_L0
    refine cnd_dec (fun _ => ?_) (fun hc => absurd (show (i : Int) < (s.len : Int) by omega) hc)
    refine RowAt_nat (hs.le g1) (List.getElem?_eq_getElem hi) rfl (by simp [encP, cso, Tp.ofs, Ce.of]; rfl) ?_
    refine new_st rfl fun b8 h8 => ?_
    refine ld_go set_same rfl ?_
    refine bind_go ((g2.le (le_set h8)).put (sameInt .i64) ps[i].2.2.1 true fun o ho => ?_)
    have hw : wi ((i : Int) + 1) = ((i + 1 : Nat) : Int) := by rw [wi_id (by omega) (by omega)]; omega
    dsimp only [vl]
    rw [hw, pure_run]
    have hb2 : σ b2 = none := h2'
    refine LP.go ⟨rfl, le_sets (le_sets g1 (by
      cases e : σ b8 with
      | none => rfl
      | some y => rw [g1 _ _ e] at h8; cases h8)) hb2, _, ho, ?_⟩
    rw [g3, List.take_succ_eq_append_getElem hi, List.map_append]
    unfold putAll
    rw [List.foldl_append]
    rfl
  · rintro _ τ ⟨rfl, g1, kvs, g2, g3⟩
    unfold body_Uses_L0
    refine cnd_dec (fun hc => absurd (show ((ps.length : Nat) : Int) < (s.len : Int) from hc) (by omega)) (fun _ => ?_)
    rw [List.take_length] at g3
    show (M.bind (maps_Keys_map_int_bool_int_bool N (some b2)) _).run Q τ
    refine bind_go ?_
    unfold maps_Keys_map_int_bool_int_bool
    intro bk hk
    show (M.bind (slices_Sorted_int N bk) _).run Q _
    refine bind_go ?_
    have hb2s : ∃ y, τ b2 = some y := by obtain ⟨es, c, q⟩ := g2.obj; exact ⟨_, q⟩
    have hll : (putAll [] (ps.map fun p => p.2.2.1)).length ≤ ps.length := by
      have := putAll_len (l := ps.map fun p => p.2.2.1) (kvs := [])
      simpa using this
    refine sorted_up (T2 := 3) set_same (g2.le (le_set hk)) (fun p hp => ?_) (by rw [g3]; omega) fun sl τ2 q1 q2 => ?_
    · have : p.1 ∈ kvs.map Prod.fst := List.mem_map.2 ⟨p, hp, rfl⟩
      rw [g3, putAll_keys] at this
      rcases this with h | h
      · obtain ⟨q, hq, e⟩ := List.mem_map.1 h
        rw [← e]; exact hin q hq
      · simp at h
    · refine h sl τ2 (g1.trans ((le_set hk).trans q1)) ?_
      rw [g3] at q2
      exact q2.le new_le
variable {p tp m bm : Nat} {S : St}
def chunksOf (S : St) : List Int := S.bodies.flatMap fun b => b.2.2.map fun p => p.2.2.1
theorem Uses_up {K : Nat} {Q : Sl → Hp → Prop} [Up Q] (hs : StateAt σ p tp m bm S) (hok : StOk K S) (hK : K ≤ N) (hK2 : K ≤ 1000000000) (hbN : S.bodies.length < N) (hbK : S.bodies.length * K ≤ 1000000000) (hin : ∀ x ∈ chunksOf S, inI x)
    (h : ∀ sl τ, Hp.Le σ τ → IntsAt (Hp.new σ τ) sl (rising (chunksOf S)) → Q sl τ) : (fold_State_Uses N (some ⟨p, 0, none⟩)).run Q σ := by
  unfold fold_State_Uses
  refine cnd_go (fun e => by cases e) (fun _ => ?_)
  intro b2 h2
  obtain ⟨T, hp⟩ := hs.st
  obtain ⟨raw, hraw, hrel⟩ := hs.bods
  refine nz_go (ld_go (le_set h2 _ _ hp) rfl ?_)
  refine bind_go ?_
  have hm0 := MapP.new (ek := Value.int .i64) (ev := encBl) (σ := σ) (b := b2) 0
  have hlr : raw.length = S.bodies.length := by
    have := congrArg List.length (BodRel.keys hrel)
    simpa using this
  -- what a raw entry stands for
  have hent : ∀ kv ∈ raw, ∃ b, lk kv.1 S.bodies = some b ∧ bodyOf S kv.1 = b ∧ PartsAt σ kv.2.2 b.2 := by
    intro kv hkv
    have hl := lk_of_mem hraw.nd (k := kv.1) (v := kv.2) hkv
    rcases hrel.look (k := kv.1) with ⟨g1, _⟩ | ⟨a, b, g1, g2, _, g4⟩
    · rw [hl] at g1; cases g1
    · rw [hl] at g1
      simp only [Option.some.injEq] at g1
      subst g1
      exact ⟨b, g2, by unfold bodyOf; rw [g2], g4⟩
  have hmem : ∀ (k : Int) b, lk k S.bodies = some b → ∀ q ∈ b.2, q.2.2.1 ∈ chunksOf S := fun k b hk q hq => by
    exact List.mem_flatMap.2 ⟨_, lk_mem hk, List.mem_map.2 ⟨q, hq, rfl⟩⟩
  refine range_loop (sameInt .i64) hraw (kt := .c (.int .i64)) (et := .agg [.int .i64, .slice]) (dk := fun k => k) (dv := fun v => v) (fun _ => rfl) encB_of
    (fun ps _ F => ∃ kvs, MapP (Value.int .i64) encBl F b2 kvs ∧ kvs.length ≤ ps.length * K ∧ ∀ x, x ∈ kvs.map Prod.fst ↔ ∃ kv ∈ ps, ∃ q ∈ (bodyOf S kv.1).2, q.2.2.1 = x) (fun b s => rfl) (le_set h2) ⟨[], hm0, by simp, by simp⟩ ?_ ?_ (by omega)
  · rintro ps kv _ F b x ⟨kvs, g1, g2, g3⟩ hl hb hlt hmem' hsub
    obtain ⟨bd, hb1, hb2, hb3⟩ := hent kv hmem'
    refine new_st rfl fun b10 h10 => ?_
    have h10' := (set_none.1 h10).2.2
    refine ld_g0 set_same rfl ?_
    have hbl : bd.2.length < K := by rw [← hb2]; exact hok.body kv.1
    have hle10 := le_sets (x := (true, ob [.int .i64 kv.2.1, .slice kv.2.2.a kv.2.2.len kv.2.2.cap] 47)) (le_set (x := x) hb) h10'
    refine bind_go (UsesB_up (ps := bd.2) (hb3.le (hl.trans hle10)) (by omega) (by omega) (fun q hq => hin _ (hmem _ _ hb1 q hq)) fun sl τ q1 q2 => ?_)
    have hlen := q2.len
    refine bind_go ?_
    have hbb2 : b2 ≠ b := fun e => by
      obtain ⟨es, c, q⟩ := g1.obj
      subst e; rw [hb] at q; cases q
    have hx : τ b = some x := q1 _ _ (by rw [set_ne (set_none.1 h10).2.1]; exact set_same)
    have hτσ := hl.trans (hle10.trans q1)
    have hσb : σ b = none := by
      cases e : σ b with
      | none => rfl
      | some y => rw [hl _ _ e] at hb; cases hb
    have hrl : (rising (bd.2.map fun p => p.2.2.1)).length ≤ bd.2.length := by
      unfold rising
      rw [List.length_mergeSort, List.length_map]
      have := putAll_len (l := bd.2.map fun p => p.2.2.1) (kvs := [])
      simpa using this
    have hrm : ∀ x, x ∈ rising (bd.2.map fun p => p.2.2.1) ↔ ∃ q ∈ bd.2, q.2.2.1 = x := fun x => by
      unfold rising
      rw [List.mem_mergeSort, putAll_keys]
      simp
    refine loop_cnt (rising (bd.2.map fun p => p.2.2.1)).length (fun i st ρ => st = (i : Int) ∧ Hp.Le σ ρ ∧ ρ b = some x ∧ IntsAt ρ sl (rising (bd.2.map fun p => p.2.2.1)) ∧ ∃ kvs', MapP (Value.int .i64) encBl ρ b2 kvs' ∧ kvs'.length ≤ kvs.length + i ∧
        ∀ y, y ∈ kvs'.map Prod.fst ↔ y ∈ (rising (bd.2.map fun p => p.2.2.1)).take i ∨ y ∈ kvs.map Prod.fst) _ _ ?_ ?_ N 0 _
      ⟨rfl, hτσ, hx, q2, kvs, (g1.le (hle10.trans q1)), by simp, by simp⟩ (by omega)
    · rintro i _ ρ hi ⟨rfl, k1, k2, k3, kvs', k4, k5, k6⟩
      unfold fold_State_Uses_L0
      refine cnd_dec (fun _ => ?_) (fun hc => absurd (by omega) hc)
      refine RowAt_nat k3 (List.getElem?_eq_getElem hi) rfl (by simp [encI1, cso, Tp.ofs, Ce.of]; rfl) ?_
      refine bind_go (k4.put (sameInt .i64) _ true fun o ho => ?_)
      have hw : wi ((i : Int) + 1) = ((i + 1 : Nat) : Int) := by rw [wi_id (by omega) (by omega)]; omega
      dsimp only [vl]
      rw [hw, pure_run]
      obtain ⟨es4, c4, k4o⟩ := k4.obj
      refine LP.go ⟨rfl, le_sets k1 h2, by rw [set_ne hbb2.symm]; exact k2, k3.keep (Keep.set (X := [b2]) _ (by simp)) ?_, _, ho, ?_, fun y => ?_⟩
      · intro k hk fl arr T fz e
        simp only [List.mem_singleton] at hk
        subst hk
        rw [k4o] at e; cases e
      · have := kput_len (k := (rising (bd.2.map fun p => p.2.2.1))[i]) (v := true) (kvs := kvs')
        omega
      · rw [kput_keys, k6, List.take_succ_eq_append_getElem hi, List.mem_append, List.mem_singleton]
        constructor
        · rintro (h | h | h)
          · exact .inl (.inr h)
          · exact .inl (.inl h)
          · exact .inr h
        · rintro ((h | h) | h)
          · exact .inr (.inl h)
          · exact .inl h
          · exact .inr (.inr h)
    · rintro _ ρ ⟨rfl, k1, k2, k3, kvs', k4, k5, k6⟩
      unfold fold_State_Uses_L0
      refine cnd_dec (fun hc => absurd hc (by omega)) (fun _ => ?_)
      rw [List.take_length] at k6
      rw [pure_run]
      show (M.pure (inlS ())).run _ ρ
      rw [pure_run]
      refine RP.go (F := fun k => if k = b then none else ρ k) (by simp) (le_del k1 hσb) (del_le k2) ⟨kvs', k4.keep (by simp only [if_neg hbb2]), ?_, fun y => ?_⟩
      · rw [List.length_append, List.length_cons, List.length_nil, Nat.add_mul]
        omega
      · rw [k6, hrm, g3]
        constructor
        · rintro (⟨q, hq, e⟩ | ⟨kv', hkv', e⟩)
          · exact ⟨kv, by simp, q, by rw [hb2]; exact hq, e⟩
          · exact ⟨kv', by simp [hkv'], e⟩
        · rintro ⟨kv', hkv', e⟩
          rcases List.mem_append.1 hkv' with hkv' | hkv'
          · exact .inr ⟨kv', hkv', e⟩
          · simp only [List.mem_singleton] at hkv'
            subst hkv'
            rw [hb2] at e
            exact .inl e
  · rintro ps _ F hperm ⟨kvs, g1, g2, g3⟩ hl
    show (M.bind (maps_Keys_map_int_bool_int_bool N (some b2)) _).run Q F
    refine bind_go ?_
    unfold maps_Keys_map_int_bool_int_bool
    intro bk hk
    show (M.bind (slices_Sorted_int N bk) _).run Q _
    refine bind_go ?_
    have hkeys : ∀ x, x ∈ kvs.map Prod.fst ↔ x ∈ chunksOf S := fun x => by
      rw [g3]
      constructor
      · rintro ⟨kv, hkv, q, hq, rfl⟩
        obtain ⟨bd, hb1, hb2, _⟩ := hent kv (hperm.mem_iff.1 hkv)
        rw [hb2] at hq
        exact hmem _ _ hb1 q hq
      · intro hx
        obtain ⟨b, hb, hx⟩ := List.mem_flatMap.1 hx
        obtain ⟨q, hq, e⟩ := List.mem_map.1 hx
        have hnb : (S.bodies.map Prod.fst).Nodup := BodRel.keys hrel ▸ hraw.nd
        have hl := lk_of_mem hnb (k := b.1) (v := b.2) hb
        rcases hrel.look (k := b.1) with ⟨_, g2⟩ | ⟨a, b', g1, g2, _, g4⟩
        · rw [hl] at g2; cases g2
        · refine ⟨(b.1, a), hperm.mem_iff.2 (lk_mem g1), q, ?_, e⟩
          unfold bodyOf
          rw [hl]
          exact hq
    have hpl := hperm.length_eq
    have hkl : kvs.length ≤ 1000000000 := by
      refine Nat.le_trans g2 ?_
      rw [hpl, hlr]; exact hbK
    refine sorted_up (T2 := 3) set_same (g1.le (le_set hk)) (fun p hp => ?_) (by omega) fun sl τ2 q1 q2 => ?_
    · exact hin _ ((hkeys _).1 (List.mem_map.2 ⟨p, hp, rfl⟩))
    · refine h sl τ2 (hl.trans ((le_set hk).trans q1)) ?_
      rw [rising_of g1.nd hkeys] at q2
      exact q2.le (new_anti (hl.trans (le_set hk)))
end
end Go.Wz
