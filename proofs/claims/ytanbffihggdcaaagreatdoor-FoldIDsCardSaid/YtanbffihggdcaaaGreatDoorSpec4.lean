/- Maps in any order; ranging over one; rows that grow. -/
import Derived.Test.YtanbffihggdcaaaGreatDoorSpecU
set_option linter.unusedVariables false
set_option linter.unusedSimpArgs false
set_option linter.unusedSectionVars false
namespace Go.Eng
section
variable {κ β : Type} [DecidableEq κ]
theorem lk_mem {k : κ} {v : β} : ∀ {xs : List (κ × β)}, lk k xs = some v → (k, v) ∈ xs
  | [], h => by simp [lk] at h
  | p :: ps, h => by
    simp only [lk] at h
    split at h
    · rename_i e
      simp only [Option.some.injEq] at h
      subst h; subst e
      exact List.mem_cons_self
    · exact List.mem_cons_of_mem _ (lk_mem h)
theorem lk_of_mem {k : κ} {v : β} : ∀ {xs : List (κ × β)}, (xs.map Prod.fst).Nodup → (k, v) ∈ xs → lk k xs = some v
  | [], _, h => by simp at h
  | p :: ps, hn, h => by
    simp only [List.map_cons, List.nodup_cons] at hn
    simp only [lk]
    rcases List.mem_cons.1 h with h1 | h1
    · subst h1; simp
    · rw [if_neg]
      · exact lk_of_mem hn.2 h1
      · intro e
        exact hn.1 (e ▸ List.mem_map.2 ⟨_, h1, rfl⟩)
theorem lk_none {k : κ} : ∀ {xs : List (κ × β)}, lk k xs = none ↔ k ∉ xs.map Prod.fst
  | [] => by simp [lk]
  | p :: ps => by
    simp only [lk, List.map_cons, List.mem_cons, not_or]
    split
    · rename_i e; simp [e]
    · rename_i e; rw [lk_none]; exact ⟨fun h => ⟨fun e' => e e'.symm, h⟩, fun h => h.2⟩
theorem lk_perm {k : κ} {xs ys : List (κ × β)} (h : xs.Perm ys) (hn : (xs.map Prod.fst).Nodup) : lk k xs = lk k ys := by
  cases e : lk k ys with
  | none =>
    rw [lk_none] at e ⊢
    exact fun hm => e ((h.map Prod.fst).mem_iff.1 hm)
  | some v => exact lk_of_mem hn (h.mem_iff.2 (lk_mem e))
theorem kdel_filter {k : κ} : ∀ {xs : List (κ × β)}, (xs.map Prod.fst).Nodup → kdel k xs = xs.filter fun p => decide (p.1 ≠ k)
  | [], _ => rfl
  | p :: ps, hn => by
    simp only [List.map_cons, List.nodup_cons] at hn
    simp only [kdel]
    split
    · rename_i e
      rw [List.filter_cons_of_neg (by simp [e])]
      refine (List.filter_eq_self.2 fun q hq => ?_).symm
      simp only [ne_eq, decide_not, Bool.not_eq_eq_eq_not, Bool.not_true, decide_eq_false_iff_not]
      intro e'
      exact hn.1 (e ▸ e' ▸ List.mem_map.2 ⟨_, hq, rfl⟩)
    · rename_i e
      rw [List.filter_cons_of_pos (by simpa using e), kdel_filter hn.2]
theorem kput_perm {k : κ} {v : β} : ∀ (xs : List (κ × β)), (kput k v xs).Perm ((k, v) :: kdel k xs)
  | [] => by simp [kput, kdel]
  | p :: ps => by
    simp only [kput, kdel]
    split
    · exact List.Perm.refl _
    · exact ((kput_perm ps).cons p).trans (List.Perm.swap _ _ _)
theorem kdel_nodup {k : κ} {xs : List (κ × β)} (hn : (xs.map Prod.fst).Nodup) : ((kdel k xs).map Prod.fst).Nodup := by
  rw [kdel_filter hn]
  exact (List.filter_sublist.map _).nodup hn
theorem kdel_notmem {k : κ} {xs : List (κ × β)} (hn : (xs.map Prod.fst).Nodup) : k ∉ (kdel k xs).map Prod.fst := by
  rw [kdel_filter hn]
  intro h
  obtain ⟨p, hp, e⟩ := List.mem_map.1 h
  have := (List.mem_filter.1 hp).2
  simp [e] at this
theorem kput_nodup {k : κ} {v : β} {xs : List (κ × β)} (hn : (xs.map Prod.fst).Nodup) : ((kput k v xs).map Prod.fst).Nodup := by
  rw [((kput_perm (k := k) (v := v) xs).map Prod.fst).nodup_iff, List.map_cons, List.nodup_cons]
  exact ⟨kdel_notmem hn, kdel_nodup hn⟩
theorem kdel_congr {k : κ} {xs ys : List (κ × β)} (h : xs.Perm ys) (hn : (xs.map Prod.fst).Nodup) : (kdel k xs).Perm (kdel k ys) := by
  rw [kdel_filter hn, kdel_filter ((h.map Prod.fst).nodup_iff.1 hn)]
  exact h.filter _
theorem kput_congr {k : κ} {v : β} {xs ys : List (κ × β)} (h : xs.Perm ys) (hn : (xs.map Prod.fst).Nodup) : (kput k v xs).Perm (kput k v ys) :=
  (kput_perm xs).trans (((kdel_congr h hn).cons _).trans (kput_perm ys).symm)
/-- A map holds just these pairs, in whatever order. -/
structure MapP (ek : κ → Value) (ev : β → Value) (σ : Hp) (b : Nat) (kvs : List (κ × β)) : Prop where
  at_ : ∃ raw, MapAt ek ev σ b raw ∧ raw.Perm kvs
  nd : (kvs.map Prod.fst).Nodup
variable {ek : κ → Value} {ev : β → Value} {σ : Hp} {b : Nat} {kvs : List (κ × β)}
theorem MapP.le {τ : Hp} (h : MapP ek ev σ b kvs) (hl : Hp.Le σ τ) : MapP ek ev τ b kvs := by
  obtain ⟨raw, h1, h2⟩ := h.at_
  exact ⟨⟨raw, h1.le hl, h2⟩, h.nd⟩
theorem MapP.perm {kvs' : List (κ × β)} (h : MapP ek ev σ b kvs) (hp : kvs.Perm kvs') : MapP ek ev σ b kvs' := by
  obtain ⟨raw, h1, h2⟩ := h.at_
  exact ⟨⟨raw, h1, h2.trans hp⟩, (hp.map Prod.fst).nodup_iff.1 h.nd⟩
theorem MapP.new (T : Nat) : MapP ek ev (σ.set b (true, .map #[] T)) b [] := ⟨⟨[], ⟨#[], T, set_same, trivial, by simp, by simp⟩, List.Perm.refl _⟩, by simp⟩
theorem MapP.look {d : TypeDesc} (hk : ∀ a b, Instr.sameNow d (ek a) (ek b) = some (decide (a = b))) (h : MapP ek ev σ b kvs) (k : κ) {ty : Ty} {z : ty.T}
    {dec : β → ty.T} (hd : ∀ v, ty.of (ev v) = some (dec v)) : (lookR d (ek k) (some b) ty z).get σ = some (match lk k kvs with | some v => (dec v, true) | none => (z, false)) := by
  obtain ⟨raw, h1, h2⟩ := h.at_
  rw [← lk_perm h2 ((h2.map Prod.fst).nodup_iff.2 h.nd)]
  exact h1.look hk k hd
theorem MapP.len (h : MapP ek ev σ b kvs) : (mapLenR (some b)).get σ = some kvs.length := by
  obtain ⟨raw, h1, h2⟩ := h.at_
  rw [← h2.length_eq]
  exact h1.len
theorem MapP.put {d : TypeDesc} (hk : ∀ a b, Instr.sameNow d (ek a) (ek b) = some (decide (a = b))) (h : MapP ek ev σ b kvs) (k : κ) (v : β) {Q : Unit → Hp → Prop}
    (hQ : ∀ o, MapP ek ev (σ.set b (true, o)) b (kput k v kvs) → Q () (σ.set b (true, o))) : (mapPutM d (ek k) (ev v) (some b)).run Q σ := by
  obtain ⟨raw, h1, h2⟩ := h.at_
  exact h1.put hk k v fun o ho => hQ o ⟨⟨_, ho, kput_congr h2 ((h2.map Prod.fst).nodup_iff.2 h.nd)⟩, kput_nodup h.nd⟩
theorem MapP.del {d : TypeDesc} (hk : ∀ a b, Instr.sameNow d (ek a) (ek b) = some (decide (a = b))) (h : MapP ek ev σ b kvs) (k : κ) {Q : Unit → Hp → Prop}
    (hQ : ∀ o, MapP ek ev (σ.set b (true, o)) b (kdel k kvs) → Q () (σ.set b (true, o))) : (mapDelM d (ek k) (some b)).run Q σ := by
  obtain ⟨raw, h1, h2⟩ := h.at_
  exact h1.del hk k fun o ho => hQ o ⟨⟨_, ho, kdel_congr h2 ((h2.map Prod.fst).nodup_iff.2 h.nd)⟩, kdel_nodup h.nd⟩
theorem MapP.keep {τ : Hp} (h : MapP ek ev σ b kvs) (hb : τ b = σ b) : MapP ek ev τ b kvs := by
  obtain ⟨raw, h1, h2⟩ := h.at_
  obtain ⟨es, c, h3, h4⟩ := h1.at_
  exact ⟨⟨raw, ⟨es, c, hb ▸ h3, h4⟩, h2⟩, h.nd⟩
/-- What the body of a range over a map hands on. -/
def RP {S R : Type} (J : S → Hp → Prop) (Q : R → Hp → Prop) (σ : Hp) (b : Nat) (x : Bool × Obj) : S ⊕ R → Hp → Prop
  | .inl s, τ => ∃ F, F b = none ∧ Hp.Le σ F ∧ Hp.Le (F.set b x) τ ∧ J s F
  | .inr r, τ => Q r τ
instance upRP {S R : Type} (J : S → Hp → Prop) (Q : R → Hp → Prop) [Up Q] (σ : Hp) (b : Nat) (x : Bool × Obj) : Up (RP J Q σ b x) := ⟨fun a s t hl h => by
  cases a with
  | inl s => obtain ⟨F, h1, h2, h3, h4⟩ := h; exact ⟨F, h1, h2, h3.trans hl, h4⟩
  | inr r => exact Up.up (Q := Q) _ _ _ hl h⟩
theorem RP.go {S R : Type} {J : S → Hp → Prop} {Q : R → Hp → Prop} {σ F τ : Hp} {b : Nat} {x : Bool × Obj} {s : S} (h1 : F b = none) (h2 : Hp.Le σ F) (h3 : Hp.Le (F.set b x) τ) (h4 : J s F) : RP J Q σ b x (inlS s) τ := ⟨F, h1, h2, h3, h4⟩
theorem ents_dec : ∀ {es : List MapEntry} {kvs : List (κ × β)}, Ents ek ev es kvs → ∀ e ∈ es, ∃ p ∈ kvs, e.key = ek p.1 ∧ e.val = ev p.2
  | [], [], _, e, he => by simp at he
  | e0 :: es, p :: ps, h, e, he => by
    rcases List.mem_cons.1 he with rfl | he
    · exact ⟨p, List.mem_cons_self, h.1, h.2.1⟩
    · obtain ⟨q, hq, h1⟩ := ents_dec h.2.2 e he
      exact ⟨q, List.mem_cons_of_mem _ hq, h1⟩
  | [], _ :: _, h, _, _ => h.elim
  | _ :: _, [], h, _, _ => h.elim
theorem ents_perm {es es' : List MapEntry} (hp : es'.Perm es) : ∀ {kvs : List (κ × β)}, Ents ek ev es kvs → ∃ ps, ps.Perm kvs ∧ Ents ek ev es' ps := by
  induction hp with
  | nil => exact fun {kvs} h => ⟨kvs, List.Perm.refl _, h⟩
  | cons e _ ih =>
    intro kvs h
    cases kvs with
    | nil => exact h.elim
    | cons p kvs =>
      obtain ⟨ps, h1, h2⟩ := ih h.2.2
      exact ⟨p :: ps, h1.cons p, h.1, h.2.1, h2⟩
  | swap a b l =>
    intro kvs h
    match kvs, h with
    | p :: q :: kvs, h => exact ⟨q :: p :: kvs, List.Perm.swap _ _ _, h.2.2.1, h.2.2.2.1, h.1, h.2.1, h.2.2.2.2⟩
    | [_], h => exact h.2.2.elim
    | [], h => exact h.elim
  | trans _ _ ih1 ih2 =>
    intro kvs h
    obtain ⟨ps, h1, h2⟩ := ih2 h
    obtain ⟨qs, h3, h4⟩ := ih1 h2
    exact ⟨qs, h3.trans h1, h4⟩
theorem ents_snoc {e : MapEntry} {p : κ × β} (h1 : e.key = ek p.1) (h2 : e.val = ev p.2) : ∀ {es : List MapEntry} {kvs : List (κ × β)}, Ents ek ev es kvs → Ents ek ev (es ++ [e]) (kvs ++ [p])
  | [], [], _ => ⟨h1, h2, trivial⟩
  | _ :: _, _ :: _, h => ⟨h.1, h.2.1, ents_snoc h1 h2 h.2.2⟩
  | [], _ :: _, h => h.elim
  | _ :: _, [], h => h.elim
theorem key_inj {l : List (κ × β)} (hn : (l.map Prod.fst).Nodup) {p q : κ × β} (hp : p ∈ l) (hq : q ∈ l) (e : p.1 = q.1) : p = q := by
  have h1 := lk_of_mem hn (k := p.1) (v := p.2) hp
  have h2 := lk_of_mem hn (k := q.1) (v := q.2) hq
  rw [e, h2] at h1
  simp only [Option.some.injEq] at h1
  exact Prod.ext e h1.symm
theorem ents_det (hinj : ∀ a b, ek a = ek b → a = b) {l : List (κ × β)} (hn : (l.map Prod.fst).Nodup) : ∀ {es : List MapEntry} {ps qs : List (κ × β)}, Ents ek ev es ps → Ents ek ev es qs → (∀ p ∈ ps, p ∈ l) → (∀ p ∈ qs, p ∈ l) → ps = qs
  | [], [], [], _, _, _, _ => rfl
  | e :: es, p :: ps, q :: qs, h, k, hp, hq => by
    have : p = q := key_inj hn (hp _ List.mem_cons_self) (hq _ List.mem_cons_self) (hinj _ _ (h.1.symm.trans k.1))
    rw [this, ents_det hinj hn h.2.2 k.2.2 (fun x hx => hp x (List.mem_cons_of_mem _ hx)) (fun x hx => hq x (List.mem_cons_of_mem _ hx))]
  | [], [], _ :: _, _, h, _, _ => h.elim
  | [], _ :: _, _, h, _, _, _ => h.elim
  | _ :: _, [], _, h, _, _, _ => h.elim
  | _ :: _, _ :: _, [], _, h, _, _ => h.elim
theorem ek_inj {d : TypeDesc} (hk : ∀ a b, Instr.sameNow d (ek a) (ek b) = some (decide (a = b))) (a b : κ) (h : ek a = ek b) : a = b := by
  have h1 := hk a b
  have h2 := hk b b
  rw [h, h2] at h1
  simpa using h1
theorem nodup_len {α : Type} : ∀ {xs ys : List α}, xs.Nodup → (∀ a ∈ xs, a ∈ ys) → xs.length ≤ ys.length
  | [], _, _, _ => by simp
  | x :: xs, ys, hn, hs => by
    obtain ⟨a, b, rfl⟩ := List.append_of_mem (hs x List.mem_cons_self)
    have hn := List.nodup_cons.1 hn
    have := nodup_len (ys := a ++ b) hn.2 fun y hy => by
      have := hs y (List.mem_cons_of_mem _ hy)
      simp only [List.mem_append, List.mem_cons] at this ⊢
      rcases this with h | rfl | h
      · exact .inl h
      · exact absurd hy hn.1
      · exact .inr h
    simp only [List.length_cons, List.length_append] at this ⊢
    omega
/-- A range over a map that its body leaves alone. -/
theorem range_loop {S R : Type} {d : TypeDesc} (hk : ∀ a b, Instr.sameNow d (ek a) (ek b) = some (decide (a = b))) {m : Nat} (hm : MapP ek ev σ m kvs) {kt et : Ty} {dk : κ → kt.T} {dv : β → et.T}
    (hkt : ∀ k, kt.of (ek k) = some (dk k)) (het : ∀ v, et.of (ev v) = some (dv v))
    (J : List (κ × β) → S → Hp → Prop) {body : Nat → S → M (S ⊕ R)} {done : S → M (S ⊕ R)} {step : Nat → S → kt.T × et.T → M (S ⊕ R)}
    (hbody : ∀ b s, body b s = M.bind (nextM b) fun o => optM o (done s) fun _ => M.rd (entryR kt et b) (step b s))
    {Q : R → Hp → Prop} [Up Q] {N : Nat} {s0 : S} {σ' : Hp} (hl0 : Hp.Le σ σ') (h0 : J [] s0 σ')
    (hstep : ∀ ps p s F b x, J ps s F → Hp.Le σ F → F b = none → ps.length < kvs.length → p ∈ kvs → (∀ q ∈ ps, q ∈ kvs) → (step b s (dk p.1, dv p.2)).run (RP (J (ps ++ [p])) Q σ b x) (F.set b x))
    (hend : ∀ ps s F, ps.Perm kvs → J ps s F → Hp.Le σ F → (done s).run (LP (fun _ _ => False) Q) F)
    (hN : kvs.length < N) : (rangeM (some m)).run (fun b s => (M.loop N (body b) s0).run Q s) σ' := by
  obtain ⟨raw, ⟨es, clock, hσm, hents, hnd, hold⟩, hperm⟩ := hm.at_
  have hold' : ∀ e ∈ es, e.born < clock := fun e he => hold e (by simpa using he)
  have hkey := ek_inj hk
  refine ⟨clock, by simp only [hl0 _ _ hσm], fun b hb' => ?_⟩
  have hb : σ b = none := by
    cases e : σ b with
    | none => rfl
    | some y => rw [hl0 _ _ e] at hb'; cases hb'
  have hbm : b ≠ m := fun e => by subst e; rw [hb] at hσm; cases hσm
  have hlen : es.toList.length = kvs.length := by rw [Ents.length hents, hperm.length_eq]
  show (M.loop N (body b) s0).run Q _
  have key : ∀ (n N : Nat) (s : S) (τ F : Hp) (vs : List MapEntry) (ps : List (κ × β)) (x : Bool × Obj) (seen : Array Nat), vs.length + n = kvs.length → n < N → F b = none → Hp.Le σ F → Hp.Le (F.set b x) τ → IterAt τ b m es clock seen →
      Seen es seen vs → Ents ek ev vs ps → (∀ p ∈ ps, p ∈ kvs) → J ps s F → (M.loop N (body b) s).run Q τ := by
    intro n
    induction n with
    | zero =>
      intro N s τ F vs ps x seen hn hN hF hl hx hit hseen hps hsub hJ
      cases N with
      | zero => omega
      | succ N =>
        show (M.bind _ _).run Q τ
        rw [M.run_bind, hbody]
        show (nextM b).run _ τ
        refine next_run hit hbm hold' (fun hall => ?_) (fun e he hs y hit' => ?_)
        · have hp1 := hseen.all hnd hall
          obtain ⟨qs, hq1, hq2⟩ := ents_perm hp1 hents
          have : ps = qs := ents_det hkey hm.nd hps hq2 hsub (fun p hp => hperm.mem_iff.1 (hq1.mem_iff.1 hp))
          subst this
          have hd := hend ps s F (hq1.trans hperm) hJ hl
          have hd := run_le _ ((le_set hF).trans hx) hd
          refine (done s).mono _ _ _ (fun z ρ hz => ?_) hd
          cases z with
          | inl s' => obtain ⟨_, _, h⟩ := hz; exact h.elim
          | inr r => exact hz
        · exfalso
          have h1 := (hseen.push he hs)
          have n1 : (vs ++ [e]).Nodup := List.Pairwise.of_map (S := (· ≠ ·)) (fun x : MapEntry => x.born) (fun a b hab e => hab (e ▸ rfl)) h1.nodup
          have n2 : (vs ++ [e]).length ≤ es.toList.length := by
            exact nodup_len n1 (fun a ha => by simpa using h1.mem a ha)
          simp only [List.length_append, List.length_cons, List.length_nil] at n2
          omega
    | succ n ih =>
      intro N s τ F vs ps x seen hn hN hF hl hx hit hseen hps hsub hJ
      cases N with
      | zero => omega
      | succ N =>
        show (M.bind _ _).run Q τ
        rw [M.run_bind, hbody]
        show (nextM b).run _ τ
        refine next_run hit hbm hold' (fun hall => ?_) (fun e he hs y hit' => ?_)
        · exfalso
          have h1 := (hseen.all hnd hall).length_eq
          omega
        · obtain ⟨p, hp, hp1, hp2⟩ := ents_dec hents e (by simpa using he)
          have hp : p ∈ kvs := hperm.mem_iff.1 hp
          have hpl : ps.length = vs.length := (Ents.length hps).symm
          refine ⟨(dk p.1, dv p.2), entry_get hit' he hnd (by rw [hp1]; exact hkt _) (by rw [hp2]; exact het _), ?_⟩
          have hle : Hp.Le (F.set b y) (τ.set b y) := fun k z hz => by
            by_cases hk : k = b
            · subst hk; rw [set_same] at hz ⊢; exact hz
            · rw [set_ne hk] at hz ⊢
              exact hx k z (by rw [set_ne hk]; exact hz)
          have hrun := run_le _ hle (hstep ps p s F b y hJ hl hF (by omega) hp hsub)
          refine (step b s _).mono _ _ _ (fun z ρ hz => ?_) hrun
          cases z with
          | inr r => exact hz
          | inl s' =>
            obtain ⟨F', g1, g2, g3, g4⟩ := hz
            refine ih N s' ρ F' (vs ++ [e]) (ps ++ [p]) y (seen.push e.born) (by simp; omega) (by omega) g1 g2 g3 ?_ (hseen.push he hs) (ents_snoc hp1 hp2 hps) ?_ g4
            · obtain ⟨last, i1, i2⟩ := hit'.it
              rw [set_same] at i1
              refine ⟨⟨last, ?_, i2⟩, ⟨true, ?_⟩⟩
              · rw [← i1]; exact g3 b y set_same
              · exact g3 m _ (by rw [set_ne hbm.symm]; exact g2 _ _ hσm)
            · intro q hq
              rcases List.mem_append.1 hq with hq | hq
              · exact hsub q hq
              · simp only [List.mem_singleton] at hq; subst hq; exact hp
  exact key kvs.length N s0 _ σ' [] [] _ #[] (by simp) hN hb' hl0 (Hp.Le.refl _) ⟨⟨clock, set_same, .inl rfl⟩, ⟨true, by rw [set_ne hbm.symm]; exact hl0 _ _ hσm⟩⟩ (Seen.start _) trivial (by simp) h0
end
/-! ### Rows that grow -/
/-- A row of our own; F: what else is known. -/
structure Vec {α : Type} (n : Nat) (enc : α → List Value) (e : TypeId) (F τ : Hp) (s : Sl) (xs : List α) : Prop where
  len : s.len = xs.length
  cap : s.len ≤ s.cap
  at_ : (xs = [] ∧ s.cap = 0) ∨ ∃ b vs, s.a = some ⟨b, 0, none⟩ ∧ F b = none ∧ τ b = some (true, .cells (List.toArray vs) e) ∧ vs.length = s.cap * n ∧ vs.take (xs.length * n) = xs.flatMap enc
theorem flatMap_len {α : Type} {n : Nat} {enc : α → List Value} (hn : ∀ x, (enc x).length = n) : ∀ xs : List α, (xs.flatMap enc).length = xs.length * n
  | [] => by simp
  | x :: xs => by simp [flatMap_len hn xs, hn, Nat.succ_mul]; omega
theorem flatMap_at {α : Type} {n : Nat} {enc : α → List Value} (hn : ∀ x, (enc x).length = n) : ∀ (xs : List α) (i : Nat) (x : α), xs[i]? = some x → ((xs.flatMap enc).drop (i * n)).take n = enc x
  | [], i, x, h => by simp at h
  | y :: xs, 0, x, h => by
    simp only [List.getElem?_cons_zero, Option.some.injEq] at h
    subst h
    simp [← hn y]
  | y :: xs, i + 1, x, h => by
    simp only [List.getElem?_cons_succ] at h
    rw [List.flatMap_cons, List.drop_append, hn]
    have h1 : (i + 1) * n = i * n + n := by rw [Nat.succ_mul]
    have h2 : (enc y).drop ((i + 1) * n) = [] := List.drop_eq_nil_of_le (by rw [hn]; omega)
    rw [h2, List.nil_append, show (i + 1) * n - n = i * n by omega]
    exact flatMap_at hn xs i x h
theorem Vec.row {α : Type} {n : Nat} {enc : α → List Value} {e : TypeId} {F τ : Hp} {s : Sl} {xs : List α} (h : Vec n enc e F τ s xs) (hn : ∀ x, (enc x).length = n) : RowAt n enc τ s xs := by
  refine ⟨h.len, h.cap, ?_⟩
  rcases h.at_ with ⟨h1, _⟩ | ⟨b, vs, h1, h2, h3, h4, h5⟩
  · exact .inl h1
  · refine .inr ⟨b, 0, true, _, e, (0, 0), h1, h3, fun i x hx => ?_⟩
    have hlt := (List.getElem?_eq_some_iff.1 hx).1
    have hl := h.len
    have hc := h.cap
    have hm : (i + 1) * n ≤ xs.length * n := Nat.mul_le_mul_right _ hlt
    have hm2 : xs.length * n ≤ s.cap * n := Nat.mul_le_mul_right _ (by omega)
    rw [Nat.succ_mul] at hm
    refine ⟨by simp only [List.size_toArray]; omega, ?_⟩
    rw [← flatMap_at hn xs i x hx, ← h5]
    show List.take n (List.drop (0 + i * n) vs) = _
    rw [Nat.zero_add, List.drop_take, List.take_take]
    congr 1
    omega
theorem Vec.nil {α : Type} {n : Nat} {enc : α → List Value} {e : TypeId} {F τ : Hp} (a : Option Addr) : Vec (α := α) n enc e F τ ⟨a, 0, 0⟩ [] := ⟨rfl, Nat.le_refl _, .inl ⟨rfl, rfl⟩⟩
theorem rep_len {n k : Nat} {z : List Value} (hz : z.length = n) : (rep k z).length = k * n := by
  unfold rep
  rw [List.length_flatten]
  simp [hz]
theorem srcR_cells {σ : Hp} {b n : Nat} {fl : Bool} {vs : List Value} {T : TypeId} {fz : Nat × Nat} (hb : σ b = some (fl, .cells (List.toArray vs) T fz)) (hn : n ≤ vs.length) (hf : (vs.take n).all flat = true) : (srcR (some ⟨b, 0, none⟩) n).get σ = some (vs.take n) := by
  have h1 := ldVs_cells (o := 0) hb n 0 (by simpa using hn)
  simp only [Nat.zero_add, List.drop_zero] at h1
  show (match ldVs σ ⟨b, 0, none⟩ 0 n with | some vs => if vs.all flat = true then some vs else none | none => none) = _
  rw [h1]
  simp only [hf, if_true]
theorem Vec.le {α : Type} {n : Nat} {enc : α → List Value} {e : TypeId} {F τ τ' : Hp} {s : Sl} {xs : List α} (h : Vec n enc e F τ s xs) (hl : Hp.Le τ τ') : Vec n enc e F τ' s xs := by
  refine ⟨h.len, h.cap, ?_⟩
  rcases h.at_ with h1 | ⟨b, vs, h1, h2, h3, h4⟩
  · exact .inl h1
  · exact .inr ⟨b, vs, h1, h2, hl _ _ h3, h4⟩
/-- One more at the end. -/
theorem app_one {α : Type} {n bytes : Nat} {enc : α → List Value} {e : TypeId} {F τ : Hp} {s : Sl} {xs : List α} {z : List Value} (h : Vec n enc e F τ s xs) (hl : Hp.Le F τ) (hn : ∀ x, (enc x).length = n) (hfl : ∀ x, (enc x).all flat = true) (hpos : 0 < n) (hz : z.length = n)
    {bx : Nat} {fl : Bool} {T : TypeId} {x : α} (hx : τ bx = some (fl, ob (enc x) T)) (hsz : (xs.length + 1) * bytes ≤ 140737488355328) (hsz' : xs.length + 1 ≤ 9223372036854775807) {Q : Sl → Hp → Prop}
    (hQ : ∀ s' τ', Hp.Le F τ' → Vec n enc e F τ' s' (xs ++ [x]) → Q s' τ') : (appM e n bytes z s (.sl (some ⟨bx, 0, none⟩) 1)).run Q τ := by
  have hlen := h.len
  have hcap := h.cap
  have hsrc := srcR_cells (n := 1 * n) hx (by rw [hn, Nat.one_mul]; exact Nat.le_refl _) (by rw [Nat.one_mul, List.take_of_length_le (by rw [hn]; exact Nat.le_refl _)]; exact hfl x)
  rw [Nat.one_mul, List.take_of_length_le (Nat.le_of_eq (hn x))] at hsrc
  have hnew : ∀ (old : List Value), old = xs.flatMap enc → ∀ c, s.len + 1 ≤ c → ∀ b, τ b = none →
      Q ⟨some ⟨b, 0, none⟩, s.len + 1, c⟩ (τ.set b (true, .cells (old ++ enc x ++ rep (c - (s.len + 1)) z).toArray e)) := by
    intro old ho c hc b hb
    have hFb : F b = none := by
      cases hF : F b with
      | none => rfl
      | some y => rw [hl _ _ hF] at hb; cases hb
    refine hQ _ _ (le_sets hl hFb) ⟨by simp [hlen], hc, .inr ⟨b, _, rfl, hFb, set_same, ?_, ?_⟩⟩
    · rw [List.length_append, List.length_append, ho, flatMap_len hn, hn, rep_len hz]
      have : c * n = (xs.length + 1 + (c - (s.len + 1))) * n := by congr 1; omega
      rw [this, Nat.add_mul, Nat.add_mul, Nat.one_mul]
    · rw [ho, List.flatMap_append, List.length_append]
      have : (xs.flatMap enc ++ enc x).length = (xs.length + [x].length) * n := by
        rw [List.length_append, flatMap_len hn, hn]; simp [Nat.succ_mul]
      rw [← this, List.take_left]
      simp
  refine ⟨enc x, by simp only [Src.rd]; exact (by rw [Nat.one_mul]; exact hsrc), ?_⟩
  show (if s.len + 1 ≤ s.cap then _ else _ : M Sl).run Q τ
  by_cases hle : s.len + 1 ≤ s.cap
  · rw [if_pos hle]
    rcases h.at_ with ⟨h1, h2⟩ | ⟨b, vs, h1, h2, h3, h4, h5⟩
    · omega
    · rw [h1]
      cases he : enc x with
      | nil => have := hn x; rw [he] at this; simp at this; omega
      | cons v us =>
        simp only
        have hmul : xs.length * n + n ≤ s.cap * n := by
          have : (xs.length + 1) * n ≤ s.cap * n := Nat.mul_le_mul_right _ (by omega)
          rwa [Nat.succ_mul] at this
        have hus : (v :: us).length = n := by rw [← he]; exact hn x
        refine ⟨_, .cells (writeAt vs.toArray (xs.length * n) (v :: us)) e, h3, ?_, ?_⟩
        · rw [add_at, hlen, Nat.zero_add]
          exact if_pos ⟨rfl, by simp only [List.size_toArray]; omega, .inl (Nat.le_refl _)⟩
        · have hlist : (writeAt vs.toArray (xs.length * n) (v :: us)) = (vs.take (xs.length * n) ++ (v :: us) ++ vs.drop (xs.length * n + (v :: us).length)).toArray := by
            apply Array.toList_inj.1
            rw [toList_writeAt, setL_app _ _ _ (by show _ ≤ vs.length; omega)]
          rw [hlist]
          refine hQ _ _ (le_sets hl h2) ⟨by show s.len + 1 = _; simp [hlen], hle, .inr ⟨b, _, rfl, h2, set_same, ?_, ?_⟩⟩
          · simp only [List.length_append, List.length_take, List.length_drop]; omega
          · rw [h5, List.flatMap_append, List.length_append]
            have : (xs.flatMap enc ++ (v :: us)).length = (xs.length + [x].length) * n := by
              rw [List.length_append, flatMap_len hn, hus]; simp [Nat.succ_mul]
            rw [← this, List.take_left]
            simp [he]
  · rw [if_neg hle]
    refine ⟨⟨by rw [hlen]; exact hsz, by rw [hlen]; exact hsz'⟩, ?_⟩
    rcases h.at_ with ⟨h1, h2⟩ | ⟨b, vs, h1, h2, h3, h4, h5⟩
    · subst h1
      have h0 : s.len = 0 := by simpa using hlen
      refine ⟨[], ?_, fun c hc b hb => hnew [] (by simp) c hc.1 b hb⟩
      rw [h0, Nat.zero_mul]
      cases s.a with
      | none => rfl
      | some ad => rfl
    · refine ⟨xs.flatMap enc, ?_, fun c hc b hb => hnew _ rfl c hc.1 b hb⟩
      rw [h1, hlen]
      have hm2 : xs.length * n ≤ s.cap * n := Nat.mul_le_mul_right _ (by omega)
      have hall : ((vs.take (xs.length * n)).all flat) = true := by
        rw [h5, List.all_flatMap]
        exact List.all_eq_true.2 fun y _ => hfl y
      have := srcR_cells h3 (by omega) hall
      rw [this, h5]
/-! ### Appending a whole row to nothing -/
theorem row_cells {α : Type} {n : Nat} {enc : α → List Value} (hn : ∀ x, (enc x).length = n) {L : List Value} : ∀ (xs : List α) (o : Nat), (∀ (i : Nat) x, xs[i]? = some x → o + i * n + n ≤ L.length ∧ (L.drop (o + i * n)).take n = enc x) →
    (L.drop o).take (xs.length * n) = xs.flatMap enc
  | [], o, _ => by simp
  | x :: xs, o, h => by
    obtain ⟨h1, h2⟩ := h 0 x rfl
    simp only [Nat.zero_mul, Nat.add_zero] at h1 h2
    have ih := row_cells hn xs (o + n) fun i y hy => by
      have := h (i + 1) y (by simpa using hy)
      rw [Nat.succ_mul] at this
      rw [show o + n + i * n = o + (i * n + n) by omega]
      exact this
    rw [List.length_cons, Nat.succ_mul, Nat.add_comm, List.take_add, h2, List.drop_drop, ih, List.flatMap_cons]
theorem row_end {α : Type} {n : Nat} {enc : α → List Value} {L : List Value} {xs : List α} {o : Nat} (hx : xs ≠ []) (h : ∀ (i : Nat) x, xs[i]? = some x → o + i * n + n ≤ L.length ∧ (L.drop (o + i * n)).take n = enc x) : o + xs.length * n ≤ L.length := by
  have hp := List.length_pos_iff.2 hx
  have := (h (xs.length - 1) xs[xs.length - 1] (List.getElem?_eq_getElem (by omega))).1
  have e : xs.length * n = (xs.length - 1) * n + n := by
    rw [← Nat.succ_mul]; congr 1; omega
  omega
theorem RowAt.src {α : Type} {n : Nat} {enc : α → List Value} {σ : Hp} {s : Sl} {xs : List α} (h : RowAt n enc σ s xs) (hn : ∀ x, (enc x).length = n) (hfl : ∀ x, (enc x).all flat = true) : (srcR s.a (s.len * n)).get σ = some (xs.flatMap enc) := by
  have hl := h.len
  rcases h.at_ with e | ⟨b, o, fl, arr, T, fz, h1, h2, h3⟩
  · subst e
    have : s.len = 0 := by simpa using hl
    rw [this, Nat.zero_mul]
    cases s.a with
    | none => rfl
    | some ad => rfl
  · by_cases hx : xs = []
    · subst hx
      have : s.len = 0 := by simpa using hl
      rw [this, Nat.zero_mul]
      cases s.a with
      | none => rfl
      | some ad => rfl
    · have h3' : ∀ (i : Nat) x, xs[i]? = some x → o + i * n + n ≤ arr.toList.length ∧ (arr.toList.drop (o + i * n)).take n = enc x := fun i x hx => by
        have := h3 i x hx
        simpa using this
      have h4 := row_cells hn xs o h3'
      have h5 := row_end hx h3'
      have h6 := ldVs_cells (o := o) h2 (xs.length * n) 0 (by simpa using h5)
      rw [Nat.add_zero, h4] at h6
      rw [h1, hl]
      show (match ldVs σ ⟨b, o, none⟩ 0 (xs.length * n) with | some vs => if vs.all flat = true then some vs else none | none => none) = _
      rw [h6]
      have : (xs.flatMap enc).all flat = true := by
        rw [List.all_flatMap]
        exact List.all_eq_true.2 fun y _ => hfl y
      simp only [this, if_true]
theorem app_all {α : Type} {n bytes : Nat} {enc : α → List Value} {e : TypeId} {σ : Hp} {s : Sl} {xs : List α} {z : List Value} (h : RowAt n enc σ s xs) (hn : ∀ x, (enc x).length = n) (hfl : ∀ x, (enc x).all flat = true) (hpos : 0 < n) (hz : z.length = n)
    (hsz : xs.length * bytes ≤ 140737488355328) (hsz' : xs.length ≤ 9223372036854775807) {a0 : Option Addr} {Q : Sl → Hp → Prop}
    (hQ : ∀ s' τ, Hp.Le σ τ → Vec n enc e σ τ s' xs → Q s' τ) : (appM e n bytes z ⟨a0, 0, 0⟩ (.sl s.a s.len)).run Q σ := by
  have hlen := h.len
  refine ⟨_, h.src hn hfl, ?_⟩
  show (if 0 + s.len ≤ 0 then _ else _ : M Sl).run Q σ
  by_cases hle : 0 + s.len ≤ 0
  · rw [if_pos hle]
    have h0 : xs = [] := List.eq_nil_of_length_eq_zero (by omega)
    subst h0
    have : s.len = 0 := by omega
    rw [this]
    have hq : Q ⟨a0, 0, 0⟩ σ := hQ _ _ (Hp.Le.refl _) (Vec.nil a0)
    cases a0 <;> exact hq
  · rw [if_neg hle]
    refine ⟨⟨by show (0 + s.len) * bytes ≤ _; rw [Nat.zero_add, hlen]; exact hsz, by show 0 + s.len ≤ _; rw [Nat.zero_add, hlen]; exact hsz'⟩, [], ?_, fun c hc b hb => ?_⟩
    · rw [Nat.zero_mul]
      cases a0 <;> rfl
    · have hc1 : 0 + s.len ≤ c := hc.1
      refine hQ _ _ (le_set hb) ⟨by show 0 + s.len = _; omega, hc1, .inr ⟨b, _, rfl, hb, set_same, ?_, ?_⟩⟩
      · rw [List.nil_append, List.length_append, flatMap_len hn, rep_len hz, ← Nat.add_mul]
        congr 1
        show xs.length + (c - (0 + s.len)) = c
        omega
      · rw [List.nil_append, ← flatMap_len hn, List.take_left]
theorem Vec.chg {α : Type} {n : Nat} {enc : α → List Value} {e : TypeId} {F τ : Hp} {s : Sl} {xs : List α} {b : Nat} {x : Bool × Obj} (y z : Bool × Obj) (h : Vec n enc e (F.set b x) τ s xs) : Vec n enc e (F.set b y) (τ.set b z) s xs := by
  refine ⟨h.len, h.cap, ?_⟩
  rcases h.at_ with h1 | ⟨b', vs, h1, h2, h3, h4⟩
  · exact .inl h1
  · obtain ⟨g1, g2, g3⟩ := set_none.1 h2
    exact .inr ⟨b', vs, h1, by rw [set_ne g1]; exact g3, by rw [set_ne g1]; exact h3, h4⟩
theorem Vec.chg' {α : Type} {n : Nat} {enc : α → List Value} {e : TypeId} {F τ : Hp} {s : Sl} {xs : List α} {b : Nat} {x : Bool × Obj} (y : Bool × Obj) (h : Vec n enc e (F.set b x) τ s xs) : Vec n enc e (F.set b y) τ s xs := by
  refine ⟨h.len, h.cap, ?_⟩
  rcases h.at_ with h1 | ⟨b', vs, h1, h2, h3, h4⟩
  · exact .inl h1
  · obtain ⟨g1, g2, g3⟩ := set_none.1 h2
    exact .inr ⟨b', vs, h1, by rw [set_ne g1]; exact g3, h3, h4⟩
theorem Vec.setn {α : Type} {n : Nat} {enc : α → List Value} {e : TypeId} {F τ : Hp} {s : Sl} {xs : List α} {k : Nat} {y : Bool × Obj} (z : Bool × Obj) (h : Vec n enc e F τ s xs) (hk : F k = some y) : Vec n enc e F (τ.set k z) s xs := by
  refine ⟨h.len, h.cap, ?_⟩
  rcases h.at_ with h1 | ⟨b', vs, h1, h2, h3, h4⟩
  · exact .inl h1
  · exact .inr ⟨b', vs, h1, h2, by rw [set_ne (fun e => by subst e; rw [h2] at hk; cases hk)]; exact h3, h4⟩
/-- The vector that lies in a box of its own. -/
theorem grow {α : Type} {n bytes : Nat} {enc : α → List Value} {e T : TypeId} {σ τ : Hp} {b j : Nat} {pre suf : List Value} {sl : Sl} {xs : List α} {z : List Value} {x : α} {B : Type} {k : M B} {Q : B → Hp → Prop} {x0 : Bool × Obj}
    (hn : ∀ x, (enc x).length = n) (hfl : ∀ x, (enc x).all flat = true) (hpos : 0 < n) (hz : z.length = n) (hsz : (xs.length + 1) * bytes ≤ 140737488355328) (hsz' : xs.length + 1 ≤ 9223372036854775807)
    (hb : σ b = none) (hl : Hp.Le σ τ) (hbx : τ b = some (true, ob (pre ++ [.slice sl.a sl.len sl.cap] ++ suf) T)) (hj : pre.length = j) (hv : Vec n enc e (σ.set b x0) τ sl xs) {bx : Nat} {fl : Bool} {T' : TypeId} (hx : τ bx = some (fl, ob (enc x) T'))
    (hQ : ∀ τ' sl', Hp.Le σ τ' → τ' b = some (true, ob (pre ++ [.slice sl'.a sl'.len sl'.cap] ++ suf) T) → Vec n enc e (σ.set b x0) τ' sl' (xs ++ [x]) → k.run Q τ') :
    (M.bind (appM e n bytes z sl (.sl (some ⟨bx, 0, none⟩) 1)) fun s => st (Addr.add ⟨b, 0, none⟩ j) [.slice s.a s.len s.cap] k).run Q τ := by
  have hle : Hp.Le (σ.set b (true, ob (pre ++ [.slice sl.a sl.len sl.cap] ++ suf) T)) τ := fun k y hk => by
    by_cases hkb : k = b
    · subst hkb; rw [set_same] at hk; rw [hbx]; exact hk
    · rw [set_ne hkb] at hk; exact hl _ _ hk
  refine app_one (hv.chg' _) hle hn hfl hpos hz hx hsz hsz' fun s' τ' hl' hv' => ?_
  have hb' := hl' b _ set_same
  refine st_go hb' (by simp; omega) ?_
  refine hQ _ s' ?_ ?_ (hv'.chg _ _)
  · intro k y hk
    rw [set_ne (fun e => by subst e; rw [hb] at hk; cases hk)]
    refine hl' k y ?_
    rw [set_ne (fun e => by subst e; rw [hb] at hk; cases hk)]
    exact hk
  · rw [set_same]
    congr 3
    unfold wrL
    rw [toList_writeAt, setL_app _ _ _ (by simp; omega)]
    simp only [Nat.zero_add, List.length_cons, List.length_nil, ← hj]
    simp
end Go.Eng
