/- A part of memory as a function, and predicate transformers over it: what a Go function does, without world, tape and order. -/
import Derived.WalkKit
import Derived.KernelRfl
set_option linter.unusedVariables false
namespace Go.Eng
open Go.RowKit

/-- What is known of memory: block by block; true: the block is the call's own and may be written. -/
abbrev Hp := Nat → Option (Bool × Obj)

namespace Hp
def join (σ τ : Hp) : Hp := fun b => match σ b with
  | some x => some x
  | none => τ b
def Dj (σ τ : Hp) : Prop := ∀ b, σ b = none ∨ τ b = none
def set (σ : Hp) (b : Nat) (x : Bool × Obj) : Hp := fun k => if k = b then some x else σ k
def cell? (σ : Hp) (a : Addr) : Option Value := match σ a.block with
  | some (_, .cells c _ _) => if a.spot.isSome then none else c[a.off]?
  | _ => none
/-- All that was known is known still. -/
def Le (σ τ : Hp) : Prop := ∀ b x, σ b = some x → τ b = some x

theorem Le.refl (σ : Hp) : Le σ σ := fun _ _ h => h
theorem Le.trans {a b c : Hp} (h : Le a b) (k : Le b c) : Le a c := fun x y e => k x y (h x y e)
theorem le_join (σ τ : Hp) : Le σ (σ.join τ) := fun b x h => by simp [join, h]
theorem le_set {σ : Hp} {b : Nat} {x : Bool × Obj} (h : σ b = none) : Le σ (σ.set b x) := fun k y e => by
  unfold set; split
  · subst_vars; simp [h] at e
  · exact e
theorem cell?_le {σ τ : Hp} (h : Le σ τ) {a : Addr} {v : Value} (e : σ.cell? a = some v) : τ.cell? a = some v := by
  unfold cell? at *
  cases hs : σ a.block with
  | none => simp [hs] at e
  | some x => rw [hs] at e; rw [h _ _ hs]; exact e
theorem set_same (σ : Hp) (b : Nat) (x : Bool × Obj) : σ.set b x b = some x := by simp [set]
theorem set_other (σ : Hp) {b k : Nat} (x : Bool × Obj) (h : k ≠ b) : σ.set b x k = σ k := by simp [set, h]
theorem join_none {σ τ : Hp} {b : Nat} (h : σ.join τ b = none) : σ b = none ∧ τ b = none := by
  unfold join at h
  cases hs : σ b <;> simp [hs] at h
  exact ⟨rfl, h⟩
theorem join_set {σ τ : Hp} (b : Nat) (x : Bool × Obj) : (σ.set b x).join τ = (σ.join τ).set b x := by
  funext k
  by_cases hk : k = b <;> simp [join, set, hk]
theorem Dj.set {σ τ : Hp} (h : Dj σ τ) {b : Nat} {x : Bool × Obj} (hb : τ b = none) : Dj (σ.set b x) τ := fun k => by
  by_cases hk : k = b
  · subst hk; exact .inr hb
  · simp [Hp.set, hk]; exact h k
theorem Dj.right {σ τ : Hp} (h : Dj σ τ) {b : Nat} {x : Bool × Obj} (hb : σ b = some x) : τ b = none := by
  rcases h b with h | h
  · simp [hb] at h
  · exact h
theorem set_comm (σ : Hp) {b c : Nat} (x y : Bool × Obj) (h : b ≠ c) : (σ.set b x).set c y = (σ.set c y).set b x := by
  funext k
  by_cases hb : k = b <;> by_cases hc : k = c <;> simp [set, hb, hc] <;> intro e <;> omega
theorem set_set (σ : Hp) (b : Nat) (x y : Bool × Obj) : (σ.set b x).set b y = σ.set b y := by
  funext k
  by_cases hb : k = b <;> simp [set, hb]
theorem cell?_set_other (σ : Hp) {b : Nat} (x : Bool × Obj) {a : Addr} (h : a.block ≠ b) : (σ.set b x).cell? a = σ.cell? a := by
  unfold cell?; rw [set_other _ _ h]
end Hp

/-- A reader: what it finds it finds in more memory, too. -/
structure Rd (R : Type) where
  get : Hp → Option R
  mono : ∀ σ τ r, Hp.Le σ τ → get σ = some r → get τ = some r

/-- Finitely many blocks are known. -/
def Fin (σ : Hp) : Prop := ∃ n, ∀ b, n ≤ b → σ b = none
theorem Fin.set {σ : Hp} (h : Fin σ) (b : Nat) (x : Bool × Obj) : Fin (σ.set b x) := by
  obtain ⟨n, h⟩ := h
  exact ⟨n + b + 1, fun k hk => by rw [Hp.set_other _ _ (by omega)]; exact h k (by omega)⟩
theorem Fin.fresh {σ : Hp} (h : Fin σ) : ∃ b, σ b = none := let ⟨n, h⟩ := h; ⟨n, h n (Nat.le_refl _)⟩

/-- A predicate transformer over what is known of memory: it asks no more of more memory, and works no miracles. -/
structure M (A : Type) where
  run : (A → Hp → Prop) → Hp → Prop
  mono : ∀ (Q Q' : A → Hp → Prop) (σ : Hp), (∀ a σ', Q a σ' → Q' a σ') → run Q σ → run Q' σ
  frame : ∀ (Q : A → Hp → Prop) (σ τ : Hp), Hp.Dj σ τ → run Q σ → run (fun a σ' => ∃ σ1, Hp.Dj σ1 τ ∧ σ' = Hp.join σ1 τ ∧ Q a σ1) (Hp.join σ τ)
  fin : ∀ (Q : A → Hp → Prop) (σ : Hp), Fin σ → run Q σ → run (fun a σ' => Fin σ' ∧ Q a σ') σ
  strict : ∀ (σ : Hp), Fin σ → ¬ run (fun _ _ => False) σ

namespace M
variable {A B R S : Type}

def err : M A := ⟨fun _ _ => False, fun _ _ _ _ h => h, fun _ _ _ _ h => h, fun _ _ _ h => h, fun _ _ h => h⟩
def pure (a : A) : M A := ⟨fun Q σ => Q a σ, fun _ _ _ h k => h _ _ k, fun _ σ _ hd h => ⟨σ, hd, rfl, h⟩, fun _ _ hf h => ⟨hf, h⟩, fun _ _ h => h⟩
def bind (m : M A) (k : A → M B) : M B :=
  ⟨fun Q σ => m.run (fun a σ' => (k a).run Q σ') σ,
   fun _ _ σ h hm => m.mono _ _ σ (fun a σ' => (k a).mono _ _ σ' h) hm,
   fun Q σ τ hd hm => m.mono _ _ _ (fun a σ' h => by
     obtain ⟨σ1, d1, rfl, hk⟩ := h
     exact (k a).frame Q σ1 τ d1 hk) (m.frame _ σ τ hd hm),
   fun Q σ hf hm => m.mono _ _ σ (fun a σ' h => (k a).fin Q σ' h.1 h.2) (m.fin _ σ hf hm),
   fun σ hf hm => m.strict σ hf (m.mono _ _ σ (fun a σ' h => (k a).strict σ' h.1 h.2) (m.fin _ σ hf hm))⟩
def chk (c : Prop) (k : M B) : M B :=
  ⟨fun Q σ => c ∧ k.run Q σ, fun _ _ σ h hm => ⟨hm.1, k.mono _ _ σ h hm.2⟩, fun Q σ τ hd hm => ⟨hm.1, k.frame Q σ τ hd hm.2⟩,
   fun Q σ hf hm => ⟨hm.1, k.fin Q σ hf hm.2⟩, fun σ hf hm => k.strict σ hf hm.2⟩
def nn {X : Type} (p : Option X) (k : X → M B) : M B :=
  ⟨fun Q σ => ∃ a, p = some a ∧ (k a).run Q σ, fun _ _ σ h ⟨a, e, hm⟩ => ⟨a, e, (k a).mono _ _ σ h hm⟩,
   fun Q σ τ hd ⟨a, e, hm⟩ => ⟨a, e, (k a).frame Q σ τ hd hm⟩, fun Q σ hf ⟨a, e, hm⟩ => ⟨a, e, (k a).fin Q σ hf hm⟩, fun σ hf ⟨a, e, hm⟩ => (k a).strict σ hf hm⟩
def rd (f : Rd R) (k : R → M B) : M B :=
  ⟨fun Q σ => ∃ r, f.get σ = some r ∧ (k r).run Q σ, fun _ _ σ h ⟨a, e, hm⟩ => ⟨a, e, (k a).mono _ _ σ h hm⟩,
   fun Q σ τ hd ⟨a, e, hm⟩ => ⟨a, f.mono _ _ _ (Hp.le_join σ τ) e, (k a).frame Q σ τ hd hm⟩, fun Q σ hf ⟨a, e, hm⟩ => ⟨a, e, (k a).fin Q σ hf hm⟩, fun σ hf ⟨a, e, hm⟩ => (k a).strict σ hf hm⟩
/-- A new block. -/
def new (o : Obj) (k : Nat → M B) : M B :=
  ⟨fun Q σ => ∀ b, σ b = none → (k b).run Q (σ.set b (true, o)), fun _ _ σ h hm b hb => (k b).mono _ _ _ h (hm b hb),
   fun Q σ τ hd hm b hb => by
     obtain ⟨h1, h2⟩ := Hp.join_none hb
     rw [← Hp.join_set]
     exact (k b).frame Q _ τ (hd.set h2) (hm b h1),
   fun Q σ hf hm b hb => (k b).fin Q _ (hf.set _ _) (hm b hb),
   fun σ hf hm => let ⟨b, hb⟩ := hf.fresh; (k b).strict _ (hf.set _ _) (hm b hb)⟩
/-- A block of the call's own is changed. -/
def upd (b : Nat) (f : Obj → Option Obj) (k : M B) : M B :=
  ⟨fun Q σ => ∃ o o', σ b = some (true, o) ∧ f o = some o' ∧ k.run Q (σ.set b (true, o')),
   fun _ _ σ h ⟨o, o', e, e', hm⟩ => ⟨o, o', e, e', k.mono _ _ _ h hm⟩,
   fun Q σ τ hd ⟨o, o', e, e', hm⟩ => ⟨o, o', Hp.le_join σ τ _ _ e, e', by
     rw [← Hp.join_set]
     exact k.frame Q _ τ (hd.set (hd.right e)) hm⟩,
   fun Q σ hf ⟨o, o', e, e', hm⟩ => ⟨o, o', e, e', k.fin Q _ (hf.set _ _) hm⟩,
   fun σ hf ⟨o, o', e, e', hm⟩ => k.strict _ (hf.set _ _) hm⟩
/-- Whatever it is. -/
def any (p : R → Prop) (hp : ∃ r, p r) (k : R → M B) : M B :=
  ⟨fun Q σ => ∀ r, p r → (k r).run Q σ, fun _ _ σ h hm r hr => (k r).mono _ _ _ h (hm r hr), fun Q σ τ hd hm r hr => (k r).frame Q σ τ hd (hm r hr),
   fun Q σ hf hm r hr => (k r).fin Q σ hf (hm r hr), fun σ hf hm => let ⟨r, hr⟩ := hp; (k r).strict σ hf (hm r hr)⟩
/-- What a reader found it finds again. -/
def again (f : Rd R) (r : R) (k : M B) : M B :=
  ⟨fun Q σ => f.get σ = some r ∧ k.run Q σ, fun _ _ σ h hm => ⟨hm.1, k.mono _ _ σ h hm.2⟩,
   fun Q σ τ hd hm => ⟨f.mono _ _ _ (Hp.le_join σ τ) hm.1, k.frame Q σ τ hd hm.2⟩,
   fun Q σ hf hm => ⟨hm.1, k.fin Q σ hf hm.2⟩, fun σ hf hm => k.strict σ hf hm.2⟩
def loop : Nat → (S → M (S ⊕ R)) → S → M R
  | 0, _, _ => err
  | n + 1, body, s => bind (body s) fun x => match x with
    | .inl s' => loop n body s'
    | .inr r => pure r
def map (m : M A) (f : A → B) : M B := bind m fun a => pure (f a)

theorem ext {m m' : M A} (h : m.run = m'.run) : m = m' := by cases m; cases m'; simp at h; subst h; rfl
theorem run_pure (a : A) (Q : A → Hp → Prop) (σ : Hp) : (pure a).run Q σ = Q a σ := rfl
theorem run_bind (m : M A) (k : A → M B) (Q : B → Hp → Prop) (σ : Hp) : (bind m k).run Q σ = m.run (fun a σ' => (k a).run Q σ') σ := rfl

/-- A loop by what holds at its head and a measure. -/
theorem loop_run (I : S → Hp → Prop) (μ : S → Hp → Nat) (body : S → M (S ⊕ R)) (Q : R → Hp → Prop)
    (h : ∀ s σ, I s σ → (body s).run (fun x σ' => match x with
      | .inl s' => I s' σ' ∧ μ s' σ' < μ s σ
      | .inr r => Q r σ') σ) : ∀ (n : Nat) (s : S) (σ : Hp), I s σ → μ s σ < n → (loop n body s).run Q σ := by
  intro n
  induction n with
  | zero => intro s σ _ hm; omega
  | succ n ih =>
    intro s σ hI hm
    show (bind _ _).run Q σ
    rw [run_bind]
    refine (body s).mono _ _ σ (fun x σ' hx => ?_) (h s σ hI)
    cases x with
    | inl s' => exact ih s' σ' hx.1 (by have := hx.2; omega)
    | inr r => exact hx
end M

/-- The world is as the call found it below block B, and what is known of memory is true. -/
structure Sees (B : Nat) (w0 : World) (σ : Hp) (w : World) : Prop where
  below : Below B w0 w
  base : B ≤ w0.heap.size
  obj : ∀ b r o, σ b = some (r, o) → w.heap[b]? = some o
  own : ∀ b o, σ b = some (true, o) → B ≤ b

namespace Sees
variable {B : Nat} {w0 w : World} {σ : Hp}
theorem size (h : Sees B w0 σ w) : B ≤ w.heap.size := Nat.le_trans h.base h.below.size
theorem fresh (h : Sees B w0 σ w) : σ w.heap.size = none := by
  cases e : σ w.heap.size with
  | none => rfl
  | some x => have := h.obj _ x.1 x.2 e; simp at this
theorem fin (h : Sees B w0 σ w) : Fin σ := ⟨w.heap.size, fun b hb => by
  cases e : σ b with
  | none => rfl
  | some x =>
    have := h.obj b x.1 x.2 e
    rw [Array.getElem?_eq_none hb] at this
    simp at this⟩
theorem alloc (h : Sees B w0 σ w) (o : Obj) : Sees B w0 (σ.set w.heap.size (true, o)) (w.alloc o) where
  below := h.below.alloc h.size o
  base := h.base
  obj b r x e := by
    unfold Hp.set at e
    split at e
    · rename_i hb
      simp only [Option.some.injEq, Prod.mk.injEq] at e
      obtain ⟨_, rfl⟩ := e
      subst hb
      show (w.heap.push _)[w.heap.size]? = _
      simp
    · have hx := h.obj b r x e
      have hlt : b < w.heap.size := (Array.getElem?_eq_some_iff.1 hx).1
      rw [← hx]
      exact Below.heap_alloc _ _ _ hlt
  own b x e := by
    unfold Hp.set at e
    split at e
    · rename_i hb; subst hb; exact h.size
    · exact h.own b x e
theorem drew (h : Sees B w0 σ w) : Sees B w0 σ w.drew := ⟨h.below.drew, h.base, h.obj, h.own⟩
/-- A block of the call's own is another one now. -/
theorem put (h : Sees B w0 σ w) {b : Nat} {o o' : Obj} (e : σ b = some (true, o)) {w' : World} (hos : w'.os = w.os) (htape : w'.tape = w.tape)
    (hout : w'.output = w.output) (hheap : w'.heap = w.heap.setIfInBounds b o') : Sees B w0 (σ.set b (true, o')) w' where
  below := h.below.trans ⟨hos, htape, hout, by simp [hheap], fun k hk => by
    have := h.own b o e
    rw [hheap, Array.getElem?_setIfInBounds_ne (by omega)]⟩
  base := h.base
  obj k r x ek := by
    unfold Hp.set at ek
    have hb := h.obj b true o e
    have hlt : b < w.heap.size := (Array.getElem?_eq_some_iff.1 hb).1
    split at ek
    · rename_i hk
      simp only [Option.some.injEq, Prod.mk.injEq] at ek
      obtain ⟨_, rfl⟩ := ek
      subst hk
      rw [hheap]; simp [hlt]
    · rename_i hk
      rw [hheap, Array.getElem?_setIfInBounds_ne (by omega)]
      exact h.obj k r x ek
  own k x ek := by
    unfold Hp.set at ek
    split at ek
    · rename_i hk; subst hk; exact h.own _ _ e
    · exact h.own k x ek
theorem cell (h : Sees B w0 σ w) {a : Addr} {v : Value} (e : σ.cell? a = some v) : w.cell? a = some v := by
  unfold Hp.cell? at e
  unfold World.cell?
  cases hs : σ a.block with
  | none => simp [hs] at e
  | some x =>
    obtain ⟨r, o⟩ := x
    rw [hs] at e
    rw [h.obj _ _ _ hs]
    cases o <;> simp_all
/-- Of less memory. -/
theorem weaken (h : Sees B w0 σ w) {τ : Hp} (hl : Hp.Le τ σ) : Sees B w0 τ w := ⟨h.below, h.base, fun b r o e => h.obj b r o (hl _ _ e), fun b o e => h.own b o (hl _ _ e)⟩
end Sees

end Go.Eng
