/- Operations in an open order: the lemmas by which neighbours change places, and that every order the edges allow is done. -/
import Derived.Test.YtanbffihggdcaaaGreatDoorEng10
set_option linter.unusedVariables false
set_option linter.unusedSimpArgs false
namespace Go.Eng
open Go.RowKit

def gtmp (ops : Array Oper) (j : Nat) : Option Tmp := match ops[j]? with
  | some o => o.dst
  | none => none
/-- What an operation does under its guard. -/
def actG (cx : Cx) (ops : Array Oper) (env : Env) (o : Oper) : Act1 := match o.guard with
  | none => opAct cx env o.op
  | some (j, want) => match gtmp ops j with
    | none => .no
    | some t => match env t with
      | some (.bool b) => if b = want then opAct cx env o.op else .val undef
      | some (.tuple _) => .val undef
      | _ => .no
def looksG (ops : Array Oper) (o : Oper) : List Tmp := looks o.op ++ (match o.guard with
  | some (j, _) => (gtmp ops j).toList
  | none => [])
theorem actG_congr {cx : Cx} {ops : Array Oper} {env env' : Env} {o : Oper} (h : ∀ t, t ∈ looksG ops o → env t = env' t) : actG cx ops env o = actG cx ops env' o := by
  have h1 : opAct cx env o.op = opAct cx env' o.op := opAct_congr fun t ht => h t (by simp [looksG, ht])
  unfold actG
  rw [h1]
  cases hg : o.guard with
  | none => rfl
  | some jw =>
    obtain ⟨j, want⟩ := jw
    simp only
    cases ht : gtmp ops j with
    | none => rfl
    | some t => simp only; rw [h t (by simp [looksG, hg, ht])]
def Act1.qval : Act1 → Hp → Value → Prop
  | .val v, _, u => u = v
  | .chk c v, _, u => c ∧ u = v
  | .nn c p f, _, u => ∃ a, p = some a ∧ c ∧ u = f a
  | .rd f g, σ, u => ∃ r, f.get σ = some r ∧ u = g r
  | _, _, _ => False
theorem Act1.qval_le {A : Act1} {σ τ : Hp} {u : Value} (h : Hp.Le σ τ) (k : A.qval σ u) : A.qval τ u := by
  cases A <;> simp only [Act1.qval] at k ⊢ <;> first
    | exact k
    | (obtain ⟨r, e, hu⟩ := k; exact ⟨r, (Rd.mono _ _ _ _ h e), hu⟩)
/-- What is to be found again. -/
structure Mp where
  p : Hp → Prop
  mono : ∀ σ τ, Hp.Le σ τ → p σ → p τ
def Act1.mp (A : Act1) (u : Value) : Mp := ⟨fun σ => A.qval σ u, fun σ τ h k => A.qval_le h k⟩
abbrev Pre := List (Nat × Mp)
def stepA (un : Nat → Nat → Bool) (pre : Pre) (i : Nat) (dst : Option Tmp) (A : Act1) (env : Env) (C : Pre → Env → Hp → Prop) (σ : Hp) : Prop := match A with
  | .new ob f => ∀ b, σ b = none → C pre (env.put dst (f b)) (σ.set b (true, ob))
  | .gen m g => m.run (fun r σ' => (∀ c ∈ pre, un c.1 i = true → c.2.p σ') ∧ C pre (env.put dst (g r)) σ') σ
  | .br _ _ _ => False
  | A => ∃ v, A.qval σ v ∧ C ((i, A.mp v) :: pre) (env.put dst v) σ
theorem stepA_mono {un : Nat → Nat → Bool} {pre : Pre} {i : Nat} {dst : Option Tmp} {A : Act1} {env : Env} {C C' : Pre → Env → Hp → Prop} {σ : Hp} (hf : Fin σ) (h : ∀ p e s, Fin s → C p e s → C' p e s)
    (k : stepA un pre i dst A env C σ) : stepA un pre i dst A env C' σ := by
  cases A <;> simp only [stepA] at k ⊢ <;> first
    | exact k
    | (obtain ⟨v, hv, hc⟩ := k; exact ⟨v, hv, h _ _ _ hf hc⟩)
    | exact fun b hb => h _ _ _ (hf.set _ _) (k b hb)
    | exact M.mono _ _ _ σ (fun r σ' hr => ⟨hr.2.1, h _ _ _ hr.1 hr.2.2⟩) (M.fin _ _ σ hf k)
/-- Less is to be found again. -/
theorem stepA_pre {un : Nat → Nat → Bool} {pre pre' : Pre} {i : Nat} {dst : Option Tmp} {A : Act1} {env : Env} {C : Pre → Env → Hp → Prop} {σ : Hp} (hp : ∀ c ∈ pre', c ∈ pre)
    (hC : ∀ (p p' : Pre) e s, (∀ c ∈ p', c ∈ p) → C p e s → C p' e s) (k : stepA un pre i dst A env C σ) : stepA un pre' i dst A env C σ := by
  have hcons : ∀ (x : Nat × Mp), ∀ c ∈ x :: pre', c ∈ x :: pre := by
    intro x c hc
    rcases List.mem_cons.1 hc with rfl | h
    · simp
    · exact List.mem_cons_of_mem _ (hp _ h)
  cases A <;> simp only [stepA] at k ⊢ <;> first
    | exact k
    | (obtain ⟨v, hv, hc⟩ := k; exact ⟨v, hv, hC _ _ _ _ (hcons _) hc⟩)
    | exact fun b hb => hC _ _ _ _ hp (k b hb)
    | exact M.mono _ _ _ σ (fun r σ' hr => ⟨fun c hc => hr.1 c (hp c hc), hC _ _ _ _ hp hr.2⟩) k
def evS (cx : Cx) (ops : Array Oper) (un : Nat → Nat → Bool) (K : Env → Hp → Prop) : List Nat → Pre → Env → Hp → Prop
  | [], _, env, σ => K env σ
  | i :: l, pre, env, σ => match ops[i]? with
    | none => False
    | some o => stepA un pre i o.dst (actG cx ops env o) env (evS cx ops un K l) σ
theorem evS_pre {cx : Cx} {ops : Array Oper} {un : Nat → Nat → Bool} {K : Env → Hp → Prop} : ∀ (l : List Nat) (p p' : Pre) (e : Env) (s : Hp), (∀ c ∈ p', c ∈ p) → evS cx ops un K l p e s → evS cx ops un K l p' e s
  | [], _, _, _, _, _, h => h
  | i :: l, p, p', e, s, hp, h => by
    simp only [evS] at h ⊢
    split
    · rename_i hi; simp [hi] at h
    · rename_i o ho
      simp only [ho] at h
      exact stepA_pre hp (evS_pre l) h

/-! ### Neighbours -/
theorem Env.put_comm (env : Env) {x y : Option Tmp} (v u : Value) (h : ∀ d, x = some d → y ≠ some d) : (env.put x v).put y u = (env.put y u).put x v := by
  cases x with
  | none => rfl
  | some d => cases y with
    | none => rfl
    | some e =>
      have : d ≠ e := fun hh => h d rfl (by rw [hh])
      funext k
      simp only [Env.put]
      by_cases h1 : k = d
      · subst h1; simp [this]
      · by_cases h2 : k = e
        · subst h2; simp [h1]
        · simp [h1, h2]
theorem Env.put_other (env : Env) {x : Option Tmp} {v : Value} {t : Tmp} (h : x ≠ some t) : env.put x v t = env t := by
  cases x with
  | none => rfl
  | some d =>
    simp only [Env.put]
    rw [if_neg (fun e => h (by rw [e]))]
/-- Two operations of which neither touches what the other looks at or lays down. -/
def apart (ops : Array Oper) (x y : Oper) : Bool :=
  (match x.dst with
   | some d => !(looksG ops y).contains d && (match y.dst with | some e => !Nat.beq d e | none => true)
   | none => true) &&
  (match y.dst with
   | some d => !(looksG ops x).contains d
   | none => true)
theorem apart_spec {ops : Array Oper} {x y : Oper} (h : apart ops x y = true) : (∀ t ∈ looksG ops y, x.dst ≠ some t) ∧ (∀ t ∈ looksG ops x, y.dst ≠ some t) ∧ (∀ d, x.dst = some d → y.dst ≠ some d) := by
  unfold apart at h
  simp only [Bool.and_eq_true] at h
  obtain ⟨h1, h2⟩ := h
  refine ⟨fun t ht e => ?_, fun t ht e => ?_, fun d e e' => ?_⟩
  · rw [e] at h1; simp [ht] at h1
  · rw [e] at h2; simp [ht] at h2
  · rw [e, e'] at h1; simp at h1
/-- Which may change places: the first changes nothing, or the second lays a block. -/
def swapOk (ops : Array Oper) (x y : Oper) : Bool := apart ops x y && (quietOp x.op || allocOp y.op)
theorem swap {cx : Cx} {ops : Array Oper} {un : Nat → Nat → Bool} {pre : Pre} {ix iy : Nat} {x y : Oper} {env : Env} {σ : Hp} {C : Pre → Env → Hp → Prop}
    (hC : ∀ (p p' : Pre) e s, (∀ c ∈ p', c ∈ p) → C p e s → C p' e s) (hs : swapOk ops x y = true) (hun : un ix iy = true) (hfin : Fin σ)
    (k : stepA un pre ix x.dst (actG cx ops env x) env (fun p e s => stepA un p iy y.dst (actG cx ops e y) e C s) σ) :
    stepA un pre iy y.dst (actG cx ops env y) env (fun p e s => stepA un p ix x.dst (actG cx ops e x) e C s) σ := by
  unfold swapOk at hs
  simp only [Bool.and_eq_true] at hs
  obtain ⟨hap, hcl⟩ := hs
  obtain ⟨a1, a2, a3⟩ := apart_spec hap
  have ey : ∀ v, actG cx ops (env.put x.dst v) y = actG cx ops env y := fun v => actG_congr fun t ht => Env.put_other env (a1 t ht)
  have ex : ∀ v, actG cx ops (env.put y.dst v) x = actG cx ops env x := fun v => actG_congr fun t ht => Env.put_other env (a2 t ht)
  have ec : ∀ v u, (env.put x.dst v).put y.dst u = (env.put y.dst u).put x.dst v := fun v u => Env.put_comm env v u a3
  -- the first changes nothing
  have quietly : ∀ (A : Act1), A.quiet → stepA un pre ix x.dst A env (fun p e s => stepA un p iy y.dst (actG cx ops e y) e C s) σ → actG cx ops env x = A →
      stepA un pre iy y.dst (actG cx ops env y) env (fun p e s => stepA un p ix x.dst (actG cx ops e x) e C s) σ := by
    intro A hA k hxA
    have hk : ∃ v, A.qval σ v ∧ stepA un ((ix, A.mp v) :: pre) iy y.dst (actG cx ops env y) (env.put x.dst v) C σ := by
      cases A <;> simp only [Act1.quiet] at hA <;> simp only [stepA] at k <;> (obtain ⟨v, hv, hk⟩ := k; rw [ey] at hk; exact ⟨v, hv, hk⟩)
    have back : ∀ (p : Pre) (e : Env) (s : Hp), (∃ v, A.qval s v ∧ C ((ix, A.mp v) :: p) (e.put x.dst v) s) → stepA un p ix x.dst A e C s := by
      intro p e s h
      cases A <;> simp only [Act1.quiet] at hA <;> simp only [stepA] <;> exact h
    obtain ⟨v, hv, hk⟩ := hk
    generalize hB : actG cx ops env y = B at hk
    have fin : ∀ (p : Pre) (u : Value) (s : Hp), A.qval s v → C ((ix, A.mp v) :: p) ((env.put y.dst u).put x.dst v) s → stepA un p ix x.dst (actG cx ops (env.put y.dst u) x) (env.put y.dst u) C s := by
      intro p u s hq hc
      rw [ex, hxA]
      exact back _ _ _ ⟨v, hq, hc⟩
    cases B with
    | new ob f =>
      simp only [stepA] at hk ⊢
      intro b hb
      have := hk b hb
      rw [ec] at this
      exact fin _ _ _ (A.qval_le (Hp.le_set hb) hv) this
    | gen m g =>
      simp only [stepA] at hk ⊢
      refine m.mono _ _ σ (fun r σ' hr => ?_) hk
      obtain ⟨h1, h2⟩ := hr
      refine ⟨fun c hc => h1 c (List.mem_cons_of_mem _ hc), ?_⟩
      rw [ec] at h2
      exact fin _ _ _ (h1 (ix, A.mp v) (by simp) hun) h2
    | br m v g => simp only [stepA] at hk
    | _ =>
      simp only [stepA] at hk ⊢
      obtain ⟨u, hu, hc⟩ := hk
      refine ⟨u, hu, ?_⟩
      rw [ec] at hc
      refine fin _ _ _ hv (hC _ _ _ _ ?_ hc)
      intro c hc
      simp only [List.mem_cons] at hc ⊢
      rcases hc with h | h | h <;> simp [h]
  generalize hA : actG cx ops env x = A at k
  have hquiet : A.quiet → stepA un pre iy y.dst (actG cx ops env y) env (fun p e s => stepA un p ix x.dst (actG cx ops e x) e C s) σ := fun h => quietly A h k hA
  cases A with
  | no => exact hquiet trivial
  | val v => exact hquiet trivial
  | chk c v => exact hquiet trivial
  | nn c p f => exact hquiet trivial
  | rd f g => exact hquiet trivial
  | br m v g => simp only [stepA] at k
  | new ob f =>
    -- the second lays a block, or is passed by
    have hy : (actG cx ops env y).lays := by
      have hnq : quietOp x.op = false := by
        cases hq : quietOp x.op with
        | false => rfl
        | true =>
          exfalso
          have h1 := quiet_act (cx := cx) (env := env) hq
          unfold actG at hA
          split at hA
          · rw [hA] at h1; exact h1
          · split at hA
            · simp at hA
            · split at hA
              · split at hA
                · rw [hA] at h1; exact h1
                · simp at hA
              · simp at hA
              · simp at hA
      have hal : allocOp y.op = true := by simpa [hnq] using hcl
      have h1 := alloc_act (cx := cx) (env := env) hal
      unfold actG
      (repeat' split) <;> first | exact h1 | trivial
    simp only [stepA] at k
    have k' : ∀ b, σ b = none → stepA un pre iy y.dst (actG cx ops env y) (env.put x.dst (f b)) C (σ.set b (true, ob)) := fun b hb => by have := k b hb; rwa [ey] at this
    have fin : ∀ (p : Pre) (u : Value) (s : Hp), (∀ b, s b = none → C p ((env.put y.dst u).put x.dst (f b)) (s.set b (true, ob))) → stepA un p ix x.dst (actG cx ops (env.put y.dst u) x) (env.put y.dst u) C s := by
      intro p u s h
      rw [ex, hA]
      exact h
    generalize hB : actG cx ops env y = B at hy k'
    cases B <;> simp only [Act1.lays] at hy
    · simp only [stepA] at k' ⊢
      obtain ⟨b, hb⟩ := hfin.fresh
      obtain ⟨v, hv, _⟩ := k' b hb
      exact hv.elim
    · rename_i u
      simp only [stepA] at k' ⊢
      refine ⟨u, rfl, fin _ _ _ fun b hb => ?_⟩
      obtain ⟨v, hv, hc⟩ := k' b hb
      simp only [Act1.qval] at hv
      subst hv
      rwa [ec] at hc
    · rename_i ob2 f2
      simp only [stepA] at k' ⊢
      intro b2 hb2
      refine fin _ _ _ fun b1 hb1 => ?_
      have hne : b1 ≠ b2 := by
        intro e
        subst e
        simp [Hp.set] at hb1
      rw [Hp.set_other _ _ hne] at hb1
      have := k' b1 hb1 b2 (by rw [Hp.set_other _ _ (Ne.symm hne)]; exact hb2)
      rw [ec, Hp.set_comm _ _ _ hne] at this
      exact this
  | gen m g =>
    have hy : (actG cx ops env y).lays := by
      have hnq : quietOp x.op = false := by
        cases hq : quietOp x.op with
        | false => rfl
        | true =>
          exfalso
          have h1 := quiet_act (cx := cx) (env := env) hq
          unfold actG at hA
          split at hA
          · rw [hA] at h1; exact h1
          · split at hA
            · simp at hA
            · split at hA
              · split at hA
                · rw [hA] at h1; exact h1
                · simp at hA
              · simp at hA
              · simp at hA
      have hal : allocOp y.op = true := by simpa [hnq] using hcl
      have h1 := alloc_act (cx := cx) (env := env) hal
      unfold actG
      (repeat' split) <;> first | exact h1 | trivial
    simp only [stepA] at k
    have k' : m.run (fun r σ' => (∀ c ∈ pre, un c.1 ix = true → c.2.p σ') ∧ stepA un pre iy y.dst (actG cx ops env y) (env.put x.dst (g r)) C σ') σ :=
      m.mono _ _ σ (fun r σ' h => ⟨h.1, by have := h.2; rwa [ey] at this⟩) k
    have fin : ∀ (p : Pre) (u : Value) (s : Hp), m.run (fun r σ' => (∀ c ∈ p, un c.1 ix = true → c.2.p σ') ∧ C p ((env.put y.dst u).put x.dst (g r)) σ') s →
        stepA un p ix x.dst (actG cx ops (env.put y.dst u) x) (env.put y.dst u) C s := by
      intro p u s h
      rw [ex, hA]
      exact h
    generalize hB : actG cx ops env y = B at hy k'
    cases B <;> simp only [Act1.lays] at hy
    · refine (m.strict σ hfin (m.mono _ _ σ (fun r σ' h => ?_) k')).elim
      simp only [stepA, Act1.qval] at h
      obtain ⟨_, v, hv, _⟩ := h
      exact hv
    · rename_i u
      simp only [stepA] at k' ⊢
      refine ⟨u, rfl, fin _ _ _ (m.mono _ _ σ (fun r σ' h => ?_) k')⟩
      obtain ⟨h1, v, hv, hc⟩ := h
      simp only [Act1.qval] at hv
      subst hv
      rw [ec] at hc
      refine ⟨fun c hc' hu => ?_, hc⟩
      rcases List.mem_cons.1 hc' with rfl | h
      · rfl
      · exact h1 c h hu
    · rename_i ob2 f2
      simp only [stepA] at k' ⊢
      intro b hb
      let τ : Hp := fun q => if q = b then some (true, ob2) else none
      have hτ : ∀ (s : Hp), s b = none → s.join τ = s.set b (true, ob2) := by
        intro s hsb
        funext q
        by_cases hq : q = b
        · subst hq; simp [Hp.join, Hp.set, τ, hsb]
        · simp only [Hp.join, Hp.set, τ, hq, if_false]; cases s q <;> rfl
      have hdj : Hp.Dj σ τ := by
        intro q
        by_cases hq : q = b
        · subst hq; exact .inl hb
        · exact .inr (by simp [τ, hq])
      have hf := m.frame _ σ τ hdj k'
      rw [hτ σ hb] at hf
      refine fin _ _ _ (m.mono _ _ _ (fun r σ' h => ?_) hf)
      obtain ⟨σ1, d1, rfl, h1, h2⟩ := h
      have hb1 : σ1 b = none := by
        rcases d1 b with h | h
        · exact h
        · simp [τ] at h
      refine ⟨fun c hc hu => c.2.mono _ _ (Hp.le_join σ1 τ) (h1 c hc hu), ?_⟩
      rw [hτ σ1 hb1]
      have := h2 b hb1
      rwa [ec] at this

end Go.Eng
