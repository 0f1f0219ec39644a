/- What is known may grow: posts that more memory keeps; loops over rows; rows that grow. -/
import Derived.Test.YtanbffihggdcaaaGreatDoorSpec3
set_option linter.unusedVariables false
set_option linter.unusedSimpArgs false
namespace Go.Eng
/-- More memory keeps it. -/
class Up {A : Type} (Q : A → Hp → Prop) : Prop where
  up : ∀ a σ τ, Hp.Le σ τ → Q a σ → Q a τ
theorem run_le {A : Type} (m : M A) {Q : A → Hp → Prop} [hu : Up Q] {σ τ : Hp} (hl : Hp.Le σ τ) (h : m.run Q σ) : m.run Q τ := by
  let ρ : Hp := fun b => match σ b with | some _ => none | none => τ b
  have hd : Hp.Dj σ ρ := fun b => by
    show σ b = none ∨ (match σ b with | some _ => none | none => τ b) = none
    cases e : σ b <;> simp
  have hj : Hp.join σ ρ = τ := by
    funext b
    show (match σ b with | some x => some x | none => (match σ b with | some _ => none | none => τ b)) = τ b
    cases e : σ b with
    | none => simp
    | some x => simp [hl b x e]
  have := m.frame Q σ ρ hd h
  rw [hj] at this
  refine m.mono _ _ _ (fun a s h => ?_) this
  obtain ⟨σ1, _, rfl, h1⟩ := h
  exact hu.up _ _ _ (Hp.le_join _ _) h1
instance upK {A B : Type} (k : A → M B) (Q : B → Hp → Prop) [Up Q] : Up (fun a s => (k a).run Q s) := ⟨fun a σ τ hl h => run_le (k a) hl h⟩
instance upD {A B : Type} (k : A → M B) (Q : A → B → Hp → Prop) [∀ a, Up (Q a)] : Up (fun a s => (k a).run (Q a) s) := ⟨fun a σ τ hl h => run_le (k a) hl h⟩
instance upIf {A : Type} (c : A → Prop) [∀ a, Decidable (c a)] (P R : A → Hp → Prop) [hp : Up P] [hr : Up R] : Up (fun a s => if c a then P a s else R a s) := ⟨fun a σ τ hl h => by
  by_cases hc : c a
  · rw [if_pos hc] at h ⊢; exact hp.up _ _ _ hl h
  · rw [if_neg hc] at h ⊢; exact hr.up _ _ _ hl h⟩
instance (priority := low) upMap {A B : Type} (f : A → B) (Q : B → Hp → Prop) [hq : Up Q] : Up (fun a s => Q (f a) s) := ⟨fun a σ τ hl h => hq.up _ _ _ hl h⟩
instance upTrue : Up (fun (r : Bool) (_ : Hp) => r = true) := ⟨fun _ _ _ _ h => h⟩
theorem Up.le {A : Type} {Q : A → Hp → Prop} [hu : Up Q] {a : A} {σ : Hp} (h : Q a σ) : ∀ τ, Hp.Le σ τ → Q a τ := fun τ hl => hu.up a σ τ hl h
/-- What a body of a loop hands on: the next state where the invariant holds of a part of memory, or the result. -/
def LP {S R : Type} (J : S → Hp → Prop) (Q : R → Hp → Prop) : S ⊕ R → Hp → Prop
  | .inl s, τ => ∃ σ, Hp.Le σ τ ∧ J s σ
  | .inr r, τ => Q r τ
instance upLP {S R : Type} (J : S → Hp → Prop) (Q : R → Hp → Prop) [Up Q] : Up (LP J Q) := ⟨fun a σ τ hl h => by
  cases a with
  | inl s => obtain ⟨ρ, h1, h2⟩ := h; exact ⟨ρ, h1.trans hl, h2⟩
  | inr r => exact Up.up (Q := Q) _ _ _ hl h⟩
theorem LP.go {S R : Type} {J : S → Hp → Prop} {Q : R → Hp → Prop} {s : S} {σ : Hp} (h : J s σ) : LP J Q (inlS s) σ := ⟨σ, Hp.Le.refl _, h⟩
theorem LP.drop {S R : Type} {J : S → Hp → Prop} {Q : R → Hp → Prop} {s : S} {σ τ : Hp} (hl : Hp.Le σ τ) (h : J s σ) : LP J Q (inlS s) τ := ⟨σ, hl, h⟩
/-- A loop by a count: n steps, then out. -/
theorem loop_cnt {S R : Type} (n : Nat) (J : Nat → S → Hp → Prop) (body : S → M (S ⊕ R)) (Q : R → Hp → Prop) [Up Q]
    (hs : ∀ i s σ, i < n → J i s σ → (body s).run (LP (J (i + 1)) Q) σ)
    (he : ∀ s σ, J n s σ → (body s).run (LP (fun _ _ => False) Q) σ) : ∀ (N : Nat) (s : S) (σ : Hp), J 0 s σ → n < N → (M.loop N body s).run Q σ := by
  have key : ∀ (d i : Nat) (N : Nat) (s : S) (σ : Hp), i + d = n → J i s σ → d < N → (M.loop N body s).run Q σ := by
    intro d
    induction d with
    | zero =>
      intro i N s σ hi hj hN
      cases N with
      | zero => omega
      | succ N =>
        have : i = n := by omega
        subst this
        show (M.bind _ _).run Q σ
        rw [M.run_bind]
        refine (body s).mono _ _ σ (fun x τ hx => ?_) (he s σ hj)
        cases x with
        | inl s' => obtain ⟨_, _, h⟩ := hx; exact h.elim
        | inr r => exact hx
    | succ d ih =>
      intro i N s σ hi hj hN
      cases N with
      | zero => omega
      | succ N =>
        show (M.bind _ _).run Q σ
        rw [M.run_bind]
        refine (body s).mono _ _ σ (fun x τ hx => ?_) (hs i s σ (by omega) hj)
        cases x with
        | inl s' =>
          obtain ⟨ρ, h1, h2⟩ := hx
          exact run_le _ h1 (ih (i + 1) N s' ρ (by omega) h2 (by omega))
        | inr r => exact hx
  intro N s σ h0 hN
  exact key n 0 N s σ (by omega) h0 hN
/-- A load out of a block that is known. -/
theorem ld_go {B : Type} {cs : List Ce} {b o o' : Nat} {k : Cs cs → M B} {Q : B → Hp → Prop} {σ : Hp} {fl : Bool} {vs : List Value} {T : TypeId} {r : Cs cs} (hb : σ b = some (fl, ob vs T))
    (hr : rdL cs (o + o') vs = some r) (hk : (k r).run Q σ) : (ld cs (Addr.add ⟨b, o, none⟩ o') k).run Q σ := by
  rw [add_at]
  cases cs with
  | nil =>
    refine ⟨r, ?_, hk⟩
    cases r
    rfl
  | cons c cs => exact (ld_ob hb (by simp)).2 ⟨r, hr, hk⟩
theorem ld_g0 {B : Type} {cs : List Ce} {b o : Nat} {k : Cs cs → M B} {Q : B → Hp → Prop} {σ : Hp} {fl : Bool} {vs : List Value} {T : TypeId} {r : Cs cs} (hb : σ b = some (fl, ob vs T))
    (hr : rdL cs o vs = some r) (hk : (k r).run Q σ) : (ld cs ⟨b, o, none⟩ k).run Q σ := by
  cases cs with
  | nil =>
    refine ⟨r, ?_, hk⟩
    cases r
    rfl
  | cons c cs => exact (ld_ob hb (by simp)).2 ⟨r, hr, hk⟩
/-- A store into a block that is known. -/
theorem st_go {B : Type} {b o o' : Nat} {k : M B} {Q : B → Hp → Prop} {σ : Hp} {vs ws : List Value} {T : TypeId} (hb : σ b = some (true, ob vs T)) (hn : o + o' + ws.length ≤ vs.length)
    (hk : k.run Q (σ.set b (true, ob (wrL vs (o + o') ws) T))) : (st (Addr.add ⟨b, o, none⟩ o') ws k).run Q σ := by
  rw [add_at]
  exact (st_ob hb).2 ⟨hn, hk⟩
theorem st_g0 {B : Type} {b o : Nat} {k : M B} {Q : B → Hp → Prop} {σ : Hp} {vs ws : List Value} {T : TypeId} (hb : σ b = some (true, ob vs T)) (hn : o + ws.length ≤ vs.length)
    (hk : k.run Q (σ.set b (true, ob (wrL vs o ws) T))) : (st ⟨b, o, none⟩ ws k).run Q σ := (st_ob hb).2 ⟨hn, hk⟩
theorem setL_app : ∀ (ws l : List Value) (i : Nat), i + ws.length ≤ l.length → setL l i ws = l.take i ++ ws ++ l.drop (i + ws.length)
  | [], l, i, _ => by simp [setL]
  | w :: ws, l, i, h => by
    simp only [List.length_cons] at h
    have hi : i < l.length := by omega
    rw [setL, setL_app ws (l.set i w) (i + 1) (by simp; omega)]
    have h1 : (l.set i w).take (i + 1) = l.take i ++ [w] := by
      rw [List.take_succ_eq_append_getElem (by simpa using hi)]
      simp [List.take_set_of_le]
    have h2 : (l.set i w).drop (i + 1 + ws.length) = l.drop (i + (ws.length + 1)) := by
      rw [List.drop_set_of_lt (by omega)]
      congr 1; omega
    rw [h1, h2]
    simp
theorem setL_all (vs ws : List Value) (h : ws.length = vs.length) : setL vs 0 ws = ws := by
  rw [setL_app ws vs 0 (by omega)]
  simp [h]
/-- A new block that is filled at once. -/
theorem new_st {B : Type} {k : Nat → M B} {Q : B → Hp → Prop} {σ : Hp} {vs ws : List Value} {T : TypeId} (hn : ws.length = vs.length)
    (hk : ∀ b, σ b = none → (k b).run Q (σ.set b (true, ob ws T))) : (M.new (ob vs T) fun b => st ⟨b, 0, none⟩ ws (k b)).run Q σ := by
  intro b hb
  refine (st_ob set_same).2 ⟨by omega, ?_⟩
  rw [set_set]
  have : wrL vs 0 ws = ws := by
    unfold wrL
    rw [toList_writeAt]
    exact setL_all vs ws hn
  rw [this]
  exact hk b hb
theorem bind_go {A B : Type} {m : M A} {k : A → M B} {Q : B → Hp → Prop} {σ : Hp} (h : m.run (fun a s => (k a).run Q s) σ) : (M.bind m k).run Q σ := h
theorem cnd_go {B : Type} {t : Bool} {x y : M B} {Q : B → Hp → Prop} {σ : Hp} (h1 : t = true → x.run Q σ) (h2 : t = false → y.run Q σ) : (cnd t x y).run Q σ := by
  rw [cnd_run]
  cases t
  · exact h2 rfl
  · exact h1 rfl
theorem cnd_dec {B : Type} {c : Prop} [Decidable c] {x y : M B} {Q : B → Hp → Prop} {σ : Hp} (h1 : c → x.run Q σ) (h2 : ¬ c → y.run Q σ) : (cnd (decide c) x y).run Q σ :=
  cnd_go (fun e => h1 (of_decide_eq_true e)) (fun e => h2 (of_decide_eq_false e))
theorem cnd_ne {B : Type} {a b : Int} {x y : M B} {Q : B → Hp → Prop} {σ : Hp} (h1 : a ≠ b → x.run Q σ) (h2 : a = b → y.run Q σ) : (cnd (a != b) x y).run Q σ :=
  cnd_go (fun e => h1 (by simpa using e)) (fun e => h2 (by simpa using e))
theorem cnd_eq {B : Type} {a b : Int} {x y : M B} {Q : B → Hp → Prop} {σ : Hp} (h1 : a = b → x.run Q σ) (h2 : a ≠ b → y.run Q σ) : (cnd (a == b) x y).run Q σ :=
  cnd_go (fun e => h1 (by simpa using e)) (fun e => h2 (by simpa using e))
theorem cnd_not {B : Type} {a : Bool} {x y : M B} {Q : B → Hp → Prop} {σ : Hp} (h1 : a = false → x.run Q σ) (h2 : a = true → y.run Q σ) : (cnd (!a) x y).run Q σ :=
  cnd_go (fun e => h1 (by simpa using e)) (fun e => h2 (by simpa using e))
theorem or_go {B : Type} {a b : Bool} {k : Bool → M B} {Q : B → Hp → Prop} {σ : Hp} (h : (k (a || b)).run Q σ) : (M.bind (cnd a (M.pure true) (M.pure b)) k).run Q σ :=
  bind_go (cnd_go (fun e => by subst e; exact h) (fun e => by subst e; exact h))
theorem and_go {B : Type} {a b : Bool} {k : Bool → M B} {Q : B → Hp → Prop} {σ : Hp} (h : (k (a && b)).run Q σ) : (M.bind (cnd a (M.pure b) (M.pure false)) k).run Q σ :=
  bind_go (cnd_go (fun e => by subst e; exact h) (fun e => by subst e; exact h))
theorem orr_go {B : Type} {a b : Bool} {k : Bool → M B} {Q : B → Hp → Prop} {σ : Hp} (h : (k (a || b)).run Q σ) : (M.bind (cnd a (M.pure a) (M.pure b)) k).run Q σ :=
  bind_go (cnd_go (fun e => by subst e; exact h) (fun e => by subst e; exact h))
theorem nz_go {B : Type} {a : Addr} {k : Addr → M B} {Q : B → Hp → Prop} {σ : Hp} (hk : (k a).run Q σ) : (nz (some a) k).run Q σ := ⟨a, rfl, trivial, hk⟩
end Go.Eng
