/- The evaluator: what a function's code does, by a plan; and that the code does it. -/
import Derived.Test.YtanbffihggdcaaaGreatDoorEng12
set_option linter.unusedVariables false
set_option linter.unusedSimpArgs false
namespace Go.Eng
open Go.RowKit

/-! ### A row of operations, one behind the other -/
/-- Nothing but a name that stands above the effects, so that a choice is opened ahead of them. -/
def hi : Unit :=
  let _ := (@M.err, @M.pure, @M.bind, @M.chk, @M.nn, @M.rd, @M.new, @M.upd, @M.again, @M.loop, @M.map, @stM)
  ()
def cnd {B : Type} (b : Bool) (x y : M B) : M B :=
  let _ := hi
  match b with
  | true => x
  | false => y
theorem cnd_true {B : Type} (x y : M B) : cnd true x y = x := rfl
theorem cnd_false {B : Type} (x y : M B) : cnd false x y = y := rfl
/-- A value worked out to its head before it is handed on. -/
abbrev force {B : Type} (v : Value) (k : Value → M B) : M B := k v
theorem force_eq {B : Type} (v : Value) (k : Value → M B) : force v k = k v := by
  rfl
/-- Under a guard: the operation, or nothing in its place. -/
abbrev guardK {B : Type} (n : Nat) (ops : Array Oper) (o : Oper) (env : Env) (go : Env → M B) (skip : Env → M B) : M B := match dstOk n o.dst with
  | false => M.err
  | true => match o.guard with
    | none => go env
    | some (j, want) => match gtmp ops j with
      | none => M.err
      | some t => match env t with
        | some (.bool b) => match want with
          | true => cnd b (go (env.put (some t) (.bool true))) (skip ((env.put (some t) (.bool false)).put o.dst undef))
          | false => cnd b (skip ((env.put (some t) (.bool true)).put o.dst undef)) (go (env.put (some t) (.bool false)))
        | some (.tuple _) => skip (env.put o.dst undef)
        | _ => M.err
abbrev opsK {B : Type} (cx : Cx) (n : Nat) (ops : Array Oper) : List Oper → Env → (Env → M B) → M B
  | [], env, K => K env
  | o :: l, env, K => guardK n ops o env (fun e => (opAct cx e o.op).run fun v => force v fun v => opsK cx n ops l (e.put o.dst v) K) fun e => opsK cx n ops l e K
theorem Env.put_same {env : Env} {t : Tmp} {v : Value} (h : env t = some v) : env.put (some t) v = env := by
  funext k
  simp only [Env.put]
  split
  · rename_i e; subst e; exact h.symm
  · rfl
theorem guardK_run {B : Type} {n : Nat} {ops : Array Oper} {o : Oper} {env : Env} {go skip : Env → M B} {Q : B → Hp → Prop} {σ : Hp} (h : (guardK n ops o env go skip).run Q σ) :
    dstOk n o.dst = true ∧ ((o.guard = none ∧ (go env).run Q σ) ∨ (∃ j want t b, o.guard = some (j, want) ∧ gtmp ops j = some t ∧ env t = some (.bool b) ∧
      ((b = want ∧ (go env).run Q σ) ∨ (b ≠ want ∧ (skip (env.put o.dst undef)).run Q σ))) ∨
      ∃ j want t vs, o.guard = some (j, want) ∧ gtmp ops j = some t ∧ env t = some (.tuple vs) ∧ (skip (env.put o.dst undef)).run Q σ) := by
  unfold guardK at h
  split at h
  · exact h.elim
  · rename_i hd
    refine ⟨hd, ?_⟩
    split at h
    · rename_i hg; exact .inl ⟨hg, h⟩
    · rename_i j want hg
      split at h
      · exact h.elim
      · rename_i t ht
        split at h
        · rename_i b hb
          refine .inr (.inl ⟨j, want, t, b, hg, ht, hb, ?_⟩)
          cases want <;> cases b <;> simp only [cnd_true, cnd_false] at h <;> rw [Env.put_same hb] at h
          · exact .inl ⟨rfl, h⟩
          · exact .inr ⟨by simp, h⟩
          · exact .inr ⟨by simp, h⟩
          · exact .inl ⟨rfl, h⟩
        · rename_i vs hb
          exact .inr (.inr ⟨j, want, t, vs, hg, ht, hb, h⟩)
        · exact h.elim

/-- Off these slots the frame is as it was. -/
def Off (w : List Nat) (env env' : Env) : Prop := ∀ k, k ∉ w → env' k = env k
def dsts (ops : List Oper) : List Nat := ops.filterMap (·.dst)
theorem Off.refl (w : List Nat) (env : Env) : Off w env env := fun _ _ => rfl
theorem Off.put {w : List Nat} {env env' : Env} (h : Off w env env') {d : Option Tmp} (hd : ∀ t, d = some t → t ∈ w) (v : Value) : Off w env (env'.put d v) := by
  intro k hk
  cases d with
  | none => exact h k hk
  | some t =>
    have : k ≠ t := fun e => hk (e ▸ hd t rfl)
    simp only [Env.put, if_neg this]
    exact h k hk

section
variable {cx : Cx} {n : Nat}
theorem put_defers (a : Act) (d : Option Tmp) (v : Value) : (a.put d v).defers = a.defers := by cases d <;> rfl
theorem opsK_sound (hcx : cx.Ok) {B : Type} {ops : Array Oper} {K : Env → M B} {Q : B → Hp → Prop} {Qx : Exit → Act → World → Prop} {Bs : Nat} {w0 : World} {d : List Deferred} {wl : List Nat} {env0 : Env}
    (hK : ∀ e a s w, (K e).run Q s → Sees Bs w0 s w → EnvOk n e a → a.defers = d → Off wl env0 e → Qx .normal a w) :
    ∀ (l : List Oper) (env : Env) (a : Act) (σ : Hp) (w : World), (opsK cx n ops l env K).run Q σ → Sees Bs w0 σ w → EnvOk n env a → a.defers = d → (∀ o ∈ l, ∀ t, o.dst = some t → t ∈ wl) → Off wl env0 env → wpList cx.P ops Qx l a w
  | [], env, a, σ, w, h, hs, he, hd, _, hof => hK _ _ _ _ h hs he hd hof
  | o :: l, env, a, σ, w, h, hs, he, hd, hl, hof => by
    simp only [opsK, force_eq] at h
    obtain ⟨hdst, hg⟩ := guardK_run h
    have hl' : ∀ o ∈ l, ∀ t, o.dst = some t → t ∈ wl := fun o ho => hl o (List.mem_cons_of_mem _ ho)
    have hgo : ∀ e, Off wl env0 e → ((opAct cx e o.op).run fun v => opsK cx n ops l (e.put o.dst v) K).run Q σ → EnvOk n e a → o.wp cx.P a w (wpList cx.P ops Qx l) Qx := by
      intro e hofe hr he'
      rw [Act1.run_m] at hr
      exact oper_wp hcx hs he' hr (fun v σ' w' hs' hq => opsK_sound hcx hK l _ _ _ _ hq hs' (he'.put hdst v) ((put_defers _ _ _).trans hd) hl' (hofe.put (hl o (by simp)) v))
    unfold wpList
    rcases hg with ⟨hn, hr⟩ | ⟨j, want, t, b, hg, ht, hb, hr⟩ | ⟨j, want, t, vs, hg, ht, hb, hr⟩
    · simp only [Region.wanted, hn, if_true]
      exact .inl (hgo _ hof hr he)
    · have hy := yielded_of he ht hb
      rcases hr with ⟨rfl, hr⟩ | ⟨hne, hr⟩
      · simp only [Region.wanted, hg, hy, beq_self_eq_true, if_true]
        exact .inl (hgo _ hof hr he)
      · have : (some b == some want) = false := by cases b <;> cases want <;> simp_all
        simp only [Region.wanted, hg, hy, this, Bool.false_eq_true, if_false]
        exact opsK_sound hcx hK l _ _ _ _ hr hs (he.put hdst _) ((put_defers _ _ _).trans hd) hl' (hof.put (hl o (by simp)) _)
    · have hy := yielded_not he ht hb
      have : ((none : Option Bool) == some want) = false := rfl
      simp only [Region.wanted, hg, hy, this, Bool.false_eq_true, if_false]
      exact opsK_sound hcx hK l _ _ _ _ hr hs (he.put hdst _) ((put_defers _ _ _).trans hd) hl' (hof.put (hl o (by simp)) _)
end

/-! ### A row of operations in an open order -/
structure Wt where
  R : Type
  f : Rd R
  r : R
abbrev againAll {B : Type} (t : Tab) (i : Nat) : List (Nat × Wt) → M B → M B
  | [], k => k
  | (x, wt) :: l, k => match unT t x i with
    | true => M.again wt.f wt.r (againAll t i l k)
    | false => againAll t i l k
abbrev actD {B : Type} (t : Tab) (i : Nat) (pre : List (Nat × Wt)) (A : Act1) (k : List (Nat × Wt) → Value → M B) : M B := match A with
  | .no => M.err
  | .val v => k pre v
  | .chk c v => M.chk c (k pre v)
  | .nn c p f => M.nn p fun a => M.chk c (k pre (f a))
  | .rd f g => M.rd f fun r => k ((i, ⟨_, f, r⟩) :: pre) (g r)
  | .new o f => M.new o fun b => k pre (f b)
  | .gen m g => M.bind m fun r => againAll t i pre (k pre (g r))
  | .br _ _ _ => M.err
abbrev opsD {B : Type} (cx : Cx) (n : Nat) (ops : Array Oper) (t : Tab) : List Nat → List (Nat × Wt) → Env → (Env → M B) → M B
  | [], _, env, K => K env
  | i :: l, pre, env, K => match ops[i]? with
    | none => M.err
    | some o => guardK n ops o env (fun e => actD t i pre (opAct cx e o.op) fun p v => force v fun v => opsD cx n ops t l p (e.put o.dst v) K) fun e => opsD cx n ops t l pre e K
/-- What is to be found again is looked for. -/
def Cov (ws : List (Nat × Wt)) (pre : Pre) : Prop := ∀ c ∈ pre, (∀ σ, c.2.p σ) ∨ ∃ wt, (c.1, wt) ∈ ws ∧ ∀ σ, wt.f.get σ = some wt.r → c.2.p σ
theorem againAll_run {B : Type} {t : Tab} {i : Nat} {Q : B → Hp → Prop} {σ : Hp} {k : M B} : ∀ {ws : List (Nat × Wt)}, (againAll t i ws k).run Q σ → k.run Q σ ∧ ∀ x wt, (x, wt) ∈ ws → unT t x i = true → wt.f.get σ = some wt.r
  | [], h => ⟨h, by simp⟩
  | (x, wt) :: l, h => by
    simp only [againAll] at h
    split at h
    · obtain ⟨h1, h2⟩ := h
      obtain ⟨g1, g2⟩ := againAll_run h2
      refine ⟨g1, fun y wy hy hu => ?_⟩
      rcases List.mem_cons.1 hy with e | e
      · simp only [Prod.mk.injEq] at e; obtain ⟨rfl, rfl⟩ := e; exact h1
      · exact g2 y wy e hu
    · rename_i hf
      obtain ⟨g1, g2⟩ := againAll_run h
      refine ⟨g1, fun y wy hy hu => ?_⟩
      rcases List.mem_cons.1 hy with e | e
      · simp only [Prod.mk.injEq] at e; obtain ⟨rfl, rfl⟩ := e; rw [hu] at hf; simp at hf
      · exact g2 y wy e hu
theorem Cov.rechecked {ws : List (Nat × Wt)} {pre : Pre} (h : Cov ws pre) {t : Tab} {i : Nat} {σ : Hp} (g : ∀ x wt, (x, wt) ∈ ws → unT t x i = true → wt.f.get σ = some wt.r) : ∀ c ∈ pre, unT t c.1 i = true → c.2.p σ := by
  intro c hc hu
  rcases h c hc with h1 | ⟨wt, h1, h2⟩
  · exact h1 σ
  · exact h2 σ (g _ _ h1 hu)
theorem actD_step {B : Type} {t : Tab} {i : Nat} {ws : List (Nat × Wt)} {A : Act1} {k : List (Nat × Wt) → Value → M B} {Q : B → Hp → Prop} {σ : Hp} {pre : Pre} {dst : Option Tmp} {env : Env} {C : Pre → Env → Hp → Prop}
    (h : (actD t i ws A k).run Q σ) (hc : Cov ws pre) (hk : ∀ ws' p v s, Cov ws' p → (k ws' v).run Q s → C p (env.put dst v) s) : stepA (unT t) pre i dst A env C σ := by
  have hcons : ∀ (ws' : List (Nat × Wt)) (x : Nat × Mp), (∀ c ∈ ws, c ∈ ws') → ((∀ σ, x.2.p σ) ∨ ∃ wt, (x.1, wt) ∈ ws' ∧ ∀ σ, wt.f.get σ = some wt.r → x.2.p σ) → Cov ws' (x :: pre) := by
    intro ws' x hsub hx c hcm
    rcases List.mem_cons.1 hcm with rfl | hcm
    · exact hx
    · rcases hc c hcm with h1 | ⟨wt, h1, h2⟩
      · exact .inl h1
      · exact .inr ⟨wt, hsub _ h1, h2⟩
  cases A with
  | no => exact h.elim
  | val v => exact ⟨v, rfl, hk ws _ v σ (hcons ws _ (fun _ h => h) (.inl fun _ => rfl)) h⟩
  | chk c v => exact ⟨v, ⟨h.1, rfl⟩, hk ws _ v σ (hcons ws _ (fun _ h => h) (.inl fun _ => ⟨h.1, rfl⟩)) h.2⟩
  | nn c p f =>
    obtain ⟨a, e, hcc, hr⟩ := h
    exact ⟨f a, ⟨a, e, hcc, rfl⟩, hk ws _ _ σ (hcons ws _ (fun _ h => h) (.inl fun _ => ⟨a, e, hcc, rfl⟩)) hr⟩
  | rd f g =>
    obtain ⟨r, e, hr⟩ := h
    exact ⟨g r, ⟨r, e, rfl⟩, hk _ _ _ σ (hcons _ _ (fun _ h => List.mem_cons_of_mem _ h) (.inr ⟨⟨_, f, r⟩, by simp, fun s hs => ⟨r, hs, rfl⟩⟩)) hr⟩
  | new ob f => exact fun b hb => hk ws _ _ _ hc (h b hb)
  | gen m g =>
    refine m.mono _ _ σ (fun r s hr => ?_) h
    obtain ⟨h1, h2⟩ := againAll_run hr
    exact ⟨hc.rechecked h2, hk ws _ _ _ hc h1⟩
  | br m v g => exact h.elim
theorem opsD_evS {B : Type} {cx : Cx} {n : Nat} {ops : Array Oper} {t : Tab} {K : Env → M B} {Q : B → Hp → Prop} : ∀ (l : List Nat) (ws : List (Nat × Wt)) (pre : Pre) (env : Env) (σ : Hp), Cov ws pre →
    (opsD cx n ops t l ws env K).run Q σ → evS cx ops (unT t) (fun e s => (K e).run Q s) l pre env σ
  | [], _, _, _, _, _, h => h
  | i :: l, ws, pre, env, σ, hc, h => by
    simp only [opsD, force_eq] at h
    simp only [evS]
    split at h
    · exact h.elim
    · rename_i o ho
      simp only [ho]
      obtain ⟨hdst, hg⟩ := guardK_run h
      rcases hg with ⟨hn, hr⟩ | ⟨j, want, tt, b, hg, ht, hb, hr⟩ | ⟨j, want, tt, vs, hg, ht, hb, hr⟩
      · have : actG cx ops env o = opAct cx env o.op := by simp [actG, hn]
        rw [this]
        exact actD_step hr hc (fun ws' p v s hc' hk => opsD_evS l ws' p _ s hc' hk)
      · rcases hr with ⟨rfl, hr⟩ | ⟨hne, hr⟩
        · have : actG cx ops env o = opAct cx env o.op := by simp [actG, hg, ht, hb]
          rw [this]
          exact actD_step hr hc (fun ws' p v s hc' hk => opsD_evS l ws' p _ s hc' hk)
        · have : actG cx ops env o = .val undef := by simp [actG, hg, ht, hb, hne]
          rw [this]
          refine ⟨undef, rfl, opsD_evS l ws _ _ σ ?_ hr⟩
          intro c hcm
          rcases List.mem_cons.1 hcm with rfl | hcm
          · exact .inl fun _ => rfl
          · exact hc c hcm
      · have : actG cx ops env o = .val undef := by simp [actG, hg, ht, hb]
        rw [this]
        refine ⟨undef, rfl, opsD_evS l ws _ _ σ ?_ hr⟩
        intro c hcm
        rcases List.mem_cons.1 hcm with rfl | hcm
        · exact .inl fun _ => rfl
        · exact hc c hcm
theorem stepA_env {un : Nat → Nat → Bool} {pre : Pre} {i : Nat} {dst : Option Tmp} {A : Act1} {env : Env} {C C' : Pre → Env → Hp → Prop} {σ : Hp} (h : ∀ p v s, C p (env.put dst v) s → C' p (env.put dst v) s)
    (k : stepA un pre i dst A env C σ) : stepA un pre i dst A env C' σ := by
  cases A <;> simp only [stepA] at k ⊢ <;> first
    | exact k
    | (obtain ⟨v, hv, hc⟩ := k; exact ⟨v, hv, h _ _ _ hc⟩)
    | exact fun b hb => h _ _ _ (k b hb)
    | exact M.mono _ _ _ σ (fun r σ' hr => ⟨hr.1, h _ _ _ hr.2⟩) k
theorem evS_off {cx : Cx} {ops : Array Oper} {un : Nat → Nat → Bool} {K : Env → Hp → Prop} {env0 : Env} : ∀ (l : List Nat) (pre : Pre) (env : Env) (σ : Hp), Off (dsts ops.toList) env0 env → evS cx ops un K l pre env σ →
    evS cx ops un (fun e s => Off (dsts ops.toList) env0 e ∧ K e s) l pre env σ
  | [], _, _, _, ho, h => ⟨ho, h⟩
  | i :: l, pre, env, σ, ho, h => by
    simp only [evS] at h ⊢
    split at h
    · exact h.elim
    · rename_i o hi
      refine stepA_env (fun p v s hc => evS_off l p _ s (ho.put (fun t ht => ?_) v) hc) h
      unfold dsts
      rw [List.mem_filterMap]
      exact ⟨o, List.mem_of_getElem? (l := ops.toList) (i := i) (by simpa using hi), ht⟩
theorem opsD_sound {cx : Cx} {n : Nat} (hcx : cx.Ok) {B : Type} {ops : Array Oper} {K : Env → M B} {Q : B → Hp → Prop} {Qx : Exit → Act → World → Prop} {Bs : Nat} {w0 : World} {d : List Deferred} {id : Nat} {l : List Nat} {t : Tab} (ht : ∀ y x, x ∈ tabAt t y → Anc ops x y)
    (hok : orderOk n ops t l = true) {env : Env} (hK : ∀ e a s w, (K e).run Q s → Sees Bs w0 s w → EnvOk n e a → a.defers = d → Off (dsts ops.toList) env e → Qx .normal a w)
    {a : Act} {σ : Hp} {w : World} (h : (opsD cx n ops t l [] env K).run Q σ) (hs : Sees Bs w0 σ w) (he : EnvOk n env a) (hd : a.defers = d) : (Code.region id ops true).wp cx.P Qx a w := by
  have hT := todo_of ht hok
  have hlen : l.length = ops.size := by
    simp only [orderOk, Bool.and_eq_true] at hok
    exact Nat.eq_of_beq_eq_true hok.2.2.1.1
  refine wp_region_any hcx.mixed ?_
  have := draw_any hcx (B := Bs) (w0 := w0) (Qx := Qx) (d := d) (K := fun e s => Off (dsts ops.toList) env e ∧ (K e).run Q s) (fun e s a' w' hk h1 h2 h3 => hK e a' s w' hk.2 h1 h2 h3 hk.1) l _ [] env σ a w.drew hT hs.drew he hd
    (evS_off l _ _ _ (Off.refl _ _) (opsD_evS l [] [] env σ (by intro c hc; simp at hc) h))
  rw [hlen] at this
  exact this

/-! ### Code -/
inductive Ex where
  | normal | ret | exit (id : Nat)
def Ex.toExit : Ex → Exit
  | .normal => .normal
  | .ret => .ret
  | .exit i => .exit i
def Ex.beq : Ex → Ex → Bool
  | .normal, .normal => true
  | .ret, .ret => true
  | .exit i, .exit j => Nat.beq i j
  | _, _ => false
theorem Ex.eq_of_beq {a b : Ex} (h : Ex.beq a b = true) : a = b := by
  cases a <;> cases b <;> simp [Ex.beq] at h <;> first | rfl | (rw [h])
/-- Slots with their kinds: what is carried on. -/
abbrev Sig := List (Nat × Ty)
@[reducible] def SigT (sg : Sig) : Type := Tp (fun p : Nat × Ty => p.2.T) sg
def pack : (sg : Sig) → Env → Option (SigT sg)
  | [], _ => some ()
  | [x], env => match env x.1 with
    | some v => x.2.of v
    | none => none
  | x :: y :: l, env => match env x.1 with
    | some v => match x.2.of v, pack (y :: l) env with
      | some a, some t => some (a, t)
      | _, _ => none
    | none => none
/-- The slots that a code may write. -/
def wrs : Code → List Nat
  | .region _ ops _ => dsts ops.toList
  | .seq a b => wrs a ++ wrs b
  | .cond _ a b => wrs a ++ wrs b
  | .block _ a => wrs a
  | .loop a => wrs a
  | _ => []
def base (w : List Nat) (env : Env) : Env := fun k => match elem k w with
  | true => none
  | false => env k
def ovl : (sg : Sig) → SigT sg → Env → Env
  | [], _, e => e
  | [x], t, e => fun k => if k = x.1 then some (x.2.val t) else e k
  | x :: y :: l, t, e => fun k => if k = x.1 then some (x.2.val t.1) else ovl (y :: l) t.2 e k
theorem ovl_at {env' : Env} {e : Env} : ∀ (sg : Sig) (t : SigT sg), pack sg env' = some t → ∀ k, ovl sg t e k = env' k ∨ ovl sg t e k = e k
  | [], t, h, k => .inr rfl
  | [x], t, h, k => by
    simp only [pack] at h
    split at h
    · rename_i u hu
      simp only [ovl]
      split
      · rename_i hk; subst hk; left; rw [Ty.of_val h, hu]
      · exact .inr rfl
    · simp at h
  | x :: y :: l, t, h, k => by
    simp only [pack] at h
    split at h
    · rename_i u hu
      split at h
      · rename_i a' t' ha' ht'
        simp only [Option.some.injEq] at h
        subst h
        simp only [ovl]
        split
        · rename_i hk; subst hk; left; rw [Ty.of_val ha', hu]
        · exact ovl_at (y :: l) t' ht' k
      · simp at h
    · simp at h
theorem base_off {w : List Nat} {env env' : Env} (ho : Off w env env') {k : Nat} : base w env k = none ∨ (base w env k = env' k ∧ base w env k = env k) := by
  unfold base
  split
  · exact .inl rfl
  · rename_i h
    right
    refine ⟨(ho k (fun hm => ?_)).symm, rfl⟩
    rw [elem_iff.2 hm] at h
    simp at h
theorem ovl_ok {n : Nat} {env env' : Env} {a : Act} {w : List Nat} (he : EnvOk n env' a) (ho : Off w env env') (sg : Sig) (t : SigT sg) (h : pack sg env' = some t) : EnvOk n (ovl sg t (base w env)) a := by
  refine ⟨he.size, fun i v e => ?_⟩
  rcases ovl_at (e := base w env) sg t h i with h1 | h1
  · rw [h1] at e; exact he.at_ i v e
  · rw [h1] at e
    rcases base_off ho (k := i) with h2 | ⟨h2, _⟩
    · rw [h2] at e; simp at e
    · rw [h2] at e; exact he.at_ i v e
theorem ovl_off {env env' : Env} {w : List Nat} (ho : Off w env env') (sg : Sig) (t : SigT sg) (h : pack sg env' = some t) : Off w env (ovl sg t (base w env)) := by
  intro k hk
  rcases ovl_at (e := base w env) sg t h k with h1 | h1
  · rw [h1]; exact ho k hk
  · rw [h1]
    unfold base
    split
    · rename_i h2; exact absurd (elem_iff.1 h2) hk
    · rfl
/-- The ways out, each with what it carries. -/
abbrev Outs := List (Ex × Sig)
@[reducible] def OutT : Outs → Type
  | [] => Empty
  | [x] => SigT x.2
  | x :: y :: l => SigT x.2 ⊕ OutT (y :: l)
def packO : (os : Outs) → Ex → Env → Option (OutT os)
  | [], _, _ => none
  | [x], e, env => match Ex.beq x.1 e with
    | true => pack x.2 env
    | false => none
  | x :: y :: l, e, env => match Ex.beq x.1 e with
    | true => match pack x.2 env with
      | some t => some (.inl t)
      | none => none
    | false => match packO (y :: l) e env with
      | some r => some (.inr r)
      | none => none
abbrev sumM {A B C : Type} (r : A ⊕ B) (f : A → M C) (g : B → M C) : M C := match r with
  | .inl a => f a
  | .inr b => g b
abbrev unO {C : Type} : (os : Outs) → OutT os → Env → (Ex → Env → M C) → M C
  | [], _, _, _ => M.err
  | [x], t, b, K => K x.1 (ovl x.2 t b)
  | x :: y :: l, r, b, K => sumM r (fun t => K x.1 (ovl x.2 t b)) fun r' => unO (y :: l) r' b K
theorem unO_of {n : Nat} {C : Type} {e : Ex} {env env' : Env} {w : List Nat} {a : Act} (he : EnvOk n env' a) (ho : Off w env env') {K : Ex → Env → M C} {Q : C → Hp → Prop} {σ : Hp} : ∀ (os : Outs) (r : OutT os), packO os e env' = some r → (unO os r (base w env) K).run Q σ →
    ∃ env2, EnvOk n env2 a ∧ Off w env env2 ∧ (K e env2).run Q σ
  | [], r, h, _ => r.elim
  | [x], r, h, hr => by
    simp only [packO] at h
    split at h
    · rename_i hb
      rw [← Ex.eq_of_beq hb]
      exact ⟨_, ovl_ok he ho _ _ h, ovl_off ho _ _ h, hr⟩
    · simp at h
  | x :: y :: l, r, h, hr => by
    simp only [packO] at h
    split at h
    · rename_i hb
      split at h
      · rename_i t ht
        simp only [Option.some.injEq] at h
        subst h
        rw [← Ex.eq_of_beq hb]
        exact ⟨_, ovl_ok he ho _ _ ht, ovl_off ho _ _ ht, hr⟩
      · simp at h
    · split at h
      · rename_i r' hr'
        simp only [Option.some.injEq] at h
        subst h
        exact unO_of he ho (y :: l) r' hr' hr
      · simp at h
/-- How a function's code is gone through: where ways meet, what a loop carries, in which order an open statement is done. -/
inductive Plan where
  | leaf
  | ord (l : List Nat)
  | kids (p q : Plan)
  | join (os : Outs) (p q : Plan)
  | loop (sg : Sig) (os : Outs) (p : Plan)
def kidL : Plan → Plan
  | .kids p _ => p
  | _ => .leaf
def kidR : Plan → Plan
  | .kids _ q => q
  | _ => .leaf
abbrev packM {B : Type} (os : Outs) (e : Ex) (env : Env) (k : OutT os → M B) : M B := match packO os e env with
  | some r => k r
  | none => M.err
def inlS {S R : Type} (s : S) : S ⊕ R := .inl s
def inrS {S R : Type} (r : R) : S ⊕ R := .inr r
abbrev evC (cx : Cx) (n N : Nat) : Code → Plan → Env → {B : Type} → (Ex → Env → M B) → M B
  | .skip, _, env, _, K => K .normal env
  | .ret, _, env, _, K => K .ret env
  | .exit i, _, env, _, K => K (.exit i) env
  | .region _ ops draw, p, env, _, K => match draw, p with
    | false, _ => opsK cx n ops ops.toList env (K .normal)
    | true, .ord l => match orderOk n ops (ancs ops l []) l with
      | true => opsD cx n ops (ancs ops l []) l [] env (K .normal)
      | false => M.err
    | true, _ => M.err
  | .seq x y, .join os p q, env, _, K => M.bind (evC cx n N x p env fun e env' => packM os e env' M.pure) fun r => unO os r (base (wrs x) env) fun e env' => match e with
    | .normal => evC cx n N y q env' K
    | e => K e env'
  | .seq x y, p, env, _, K => evC cx n N x (kidL p) env fun e env' => match e with
    | .normal => evC cx n N y (kidR p) env' K
    | e => K e env'
  | .cond c x y, p, env, _, K => match ev env c with
    | some (.bool b) => cnd b (evC cx n N x (kidL p) env K) (evC cx n N y (kidR p) env K)
    | _ => M.err
  | .block id x, p, env, _, K => evC cx n N x (kidL p) env fun e env' => match e with
    | .exit i => match Nat.beq i id with
      | true => K .normal env'
      | false => K (.exit i) env'
    | e => K e env'
  | .loop x, .loop sg os p, env, _, K => match pack sg env with
    | some s0 => M.bind (M.loop N (fun s => evC cx n N x p (ovl sg s (base (wrs x) env)) fun e env' => match e with
        | .normal => match pack sg env' with
          | some s' => M.pure (inlS s')
          | none => M.err
        | e => packM os e env' fun r => M.pure (inrS r)) s0) fun r => unO os r (base (wrs x) env) K
    | none => M.err
  | _, _, _, _, _ => M.err

theorem Off.left {a b : List Nat} {e e' : Env} (h : Off a e e') : Off (a ++ b) e e' := fun k hk => h k (fun hm => hk (by simp [hm]))
theorem Off.right {a b : List Nat} {e e' : Env} (h : Off b e e') : Off (a ++ b) e e' := fun k hk => h k (fun hm => hk (by simp [hm]))
theorem Off.trans {a : List Nat} {e e' e'' : Env} (h : Off a e e') (k : Off a e' e'') : Off a e e'' := fun i hi => (k i hi).trans (h i hi)
theorem evC_sound {cx : Cx} (hcx : cx.Ok) {n N : Nat} {Bs : Nat} {w0 : World} {d : List Deferred} : ∀ (c : Code) (p : Plan) {B : Type} (K : Ex → Env → M B) (Q : B → Hp → Prop) (Qx : Exit → Act → World → Prop)
    (env : Env) (hK : ∀ e env' a s w, (K e env').run Q s → Sees Bs w0 s w → EnvOk n env' a → a.defers = d → Off (wrs c) env env' → Qx e.toExit a w)
    (a : Act) (σ : Hp) (w : World), (evC cx n N c p env K).run Q σ → Sees Bs w0 σ w → EnvOk n env a → a.defers = d → c.wp cx.P Qx a w := by
  intro c
  induction c with
  | skip => intro p B K Q Qx env hK a σ w h hs he hd; exact wp_skip (hK _ _ _ _ _ h hs he hd (Off.refl _ _))
  | ret => intro p B K Q Qx env hK a σ w h hs he hd; exact wp_ret (hK _ _ _ _ _ h hs he hd (Off.refl _ _))
  | exit i => intro p B K Q Qx env hK a σ w h hs he hd; exact wp_exit (hK _ _ _ _ _ h hs he hd (Off.refl _ _))
  | region id ops draw =>
    intro p B K Q Qx env hK a σ w h hs he hd
    cases draw with
    | false =>
      have h' : (opsK cx n ops ops.toList env (K .normal)).run Q σ := by cases p <;> exact h
      refine wp_region_list (opsK_sound hcx (wl := dsts ops.toList) (env0 := env) (fun e a s w hk h1 h2 h3 h4 => hK .normal e a s w hk h1 h2 h3 h4) ops.toList env a σ w h' hs he hd (fun o ho t ht => ?_) (Off.refl _ _))
      unfold dsts
      rw [List.mem_filterMap]
      exact ⟨o, ho, ht⟩
    | true =>
      cases p <;> simp only [evC] at h <;> try (exact h.elim)
      rename_i l
      split at h
      · rename_i hok
        exact opsD_sound hcx (ancs_ok l [] (by intro y x hx; simp [tabAt] at hx)) hok (fun e a s w hk h1 h2 h3 h4 => hK .normal e a s w hk h1 h2 h3 h4) h hs he hd
      · exact h.elim
  | seq x y ihx ihy =>
    intro p B K Q Qx env hK a σ w h hs he hd
    have plain : (evC cx n N x (kidL p) env fun e env' => match e with
        | .normal => evC cx n N y (kidR p) env' K
        | e => K e env').run Q σ → (Code.seq x y).wp cx.P Qx a w := fun h =>
      wp_seq (ihx _ _ Q _ env (fun e env' a' s w' hk h1 h2 h3 h4 => by
        cases e with
        | normal => exact ihy _ K Q Qx env' (fun e env2 a2 s2 w2 g g1 g2 g3 g4 => hK e env2 a2 s2 w2 g g1 g2 g3 (h4.left.trans g4.right)) a' s w' hk h1 h2 h3
        | ret => exact hK _ _ _ _ _ hk h1 h2 h3 h4.left
        | exit i => exact hK _ _ _ _ _ hk h1 h2 h3 h4.left) a σ w h hs he hd)
    cases p with
    | join os p q =>
      simp only [evC] at h
      refine wp_seq (ihx p _ _ _ env (fun e env' a' s w' hk h1 h2 h3 h4 => ?_) a σ w h hs he hd)
      unfold packM at hk
      split at hk
      · rename_i r hr
        obtain ⟨env2, he2, ho2, hk2⟩ := unO_of h2 h4 os r hr hk
        cases e with
        | normal => exact ihy q K Q Qx env2 (fun e env3 a2 s2 w2 g g1 g2 g3 g4 => hK e env3 a2 s2 w2 g g1 g2 g3 (ho2.left.trans g4.right)) a' s w' hk2 h1 he2 h3
        | ret => exact hK _ _ _ _ _ hk2 h1 he2 h3 ho2.left
        | exit i => exact hK _ _ _ _ _ hk2 h1 he2 h3 ho2.left
      · exact hk.elim
    | leaf => exact plain h
    | ord l => exact plain h
    | kids p q => exact plain h
    | loop sg os p => exact plain h
  | cond c x y ihx ihy =>
    intro p B K Q Qx env hK a σ w h hs he hd
    simp only [evC] at h
    split at h
    · rename_i b hb
      refine wp_cond (he.ev hb) ?_
      cases b with
      | true => exact ihx _ K Q Qx env (fun e env2 a2 s2 w2 g g1 g2 g3 g4 => hK e env2 a2 s2 w2 g g1 g2 g3 g4.left) a σ w h hs he hd
      | false => exact ihy _ K Q Qx env (fun e env2 a2 s2 w2 g g1 g2 g3 g4 => hK e env2 a2 s2 w2 g g1 g2 g3 g4.right) a σ w h hs he hd
    · exact h.elim
  | block id x ih =>
    intro p B K Q Qx env hK a σ w h hs he hd
    simp only [evC] at h
    refine wp_block (ih _ _ Q _ env (fun e env' a' s w' hk h1 h2 h3 h4 => ?_) a σ w h hs he hd)
    cases e with
    | normal => exact hK _ _ _ _ _ hk h1 h2 h3 h4
    | ret => exact hK _ _ _ _ _ hk h1 h2 h3 h4
    | exit i =>
      simp only [Ex.toExit, Exit.inBlock]
      simp only at hk
      split at hk
      · rename_i hb
        rw [if_pos (Nat.eq_of_beq_eq_true hb)]
        exact hK _ _ _ _ _ hk h1 h2 h3 h4
      · rename_i hb
        rw [if_neg (fun e => by subst e; simp at hb)]
        exact hK _ _ _ _ _ hk h1 h2 h3 h4
  | loop x ih =>
    intro p B K Q Qx env hK a σ w h hs he hd
    cases p <;> simp only [evC] at h <;> try (exact h.elim)
    rename_i sg os p
    split at h
    · rename_i s0 hs0
      have key : ∀ (m : Nat) (s : SigT sg) (a : Act) (σ : Hp) (w : World), (M.bind (M.loop m (fun s => evC cx n N x p (ovl sg s (base (wrs x) env)) fun e env' => match e with
        | .normal => match pack sg env' with
          | some s' => M.pure (inlS s')
          | none => M.err
        | e => packM os e env' fun r => M.pure (inrS r)) s) fun r => unO os r (base (wrs x) env) K).run Q σ → Sees Bs w0 σ w → EnvOk n (ovl sg s (base (wrs x) env)) a → Off (wrs x) env (ovl sg s (base (wrs x) env)) → a.defers = d → Code.rounds cx.P x Qx m a w := by
        intro m
        induction m with
        | zero => intro s a σ w h; exact h.elim
        | succ m ihm =>
          intro s a σ w h hs he hof hd
          rw [rounds_succ]
          refine ih p _ _ _ _ (fun e env' a' s' w' hk h1 h2 h3 h4 => ?_) a σ w h hs he hd
          have h5 := hof.trans h4
          cases e with
          | normal =>
            simp only at hk
            split at hk
            · rename_i s2 hs2
              exact ihm s2 a' s' w' hk h1 (ovl_ok h2 h5 _ _ hs2) (ovl_off h5 _ _ hs2) h3
            · exact hk.elim
          | ret =>
            simp only [packM] at hk
            split at hk
            · rename_i r hr
              obtain ⟨env2, he2, ho2, hk2⟩ := unO_of h2 h5 os r hr hk
              exact hK _ _ _ _ _ hk2 h1 he2 h3 ho2
            · exact hk.elim
          | exit i =>
            simp only [packM] at hk
            split at hk
            · rename_i r hr
              obtain ⟨env2, he2, ho2, hk2⟩ := unO_of h2 h5 os r hr hk
              exact hK _ _ _ _ _ hk2 h1 he2 h3 ho2
            · exact hk.elim
      exact wp_loop_rounds N (key N s0 a σ w h hs (ovl_ok he (Off.refl _ _) _ _ hs0) (ovl_off (Off.refl _ _) _ _ hs0) hd)
    · exact h.elim
  | _ => intro p B K Q Qx env hK a σ w h; exact (by cases p <;> exact h.elim)

end Go.Eng
