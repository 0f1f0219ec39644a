/- A part of memory as a function, and predicate transformers over it: what a Go function does, without world, tape and order. -/
import Derived.WalkKit
import Derived.KernelRfl
set_option linter.unusedVariables false
namespace Go.Eng
open Go.RowKit

/-- What is known of memory: block by block; true: the block is the call's own and may be written. -/
abbrev Hp := Nat → Option (Bool × Obj)

namespace Hp
def join (σ τ : Hp) : Hp := fun b => match σ b with
  | some x => some x
  | none => τ b
def Dj (σ τ : Hp) : Prop := ∀ b, σ b = none ∨ τ b = none
def set (σ : Hp) (b : Nat) (x : Bool × Obj) : Hp := fun k => if k = b then some x else σ k
def cell? (σ : Hp) (a : Addr) : Option Value := match σ a.block with
  | some (_, .cells c _ _) => if a.spot.isSome then none else c[a.off]?
  | _ => none
/-- All that was known is known still. -/
def Le (σ τ : Hp) : Prop := ∀ b x, σ b = some x → τ b = some x

theorem Le.refl (σ : Hp) : Le σ σ := fun _ _ h => h
theorem Le.trans {a b c : Hp} (h : Le a b) (k : Le b c) : Le a c := fun x y e => k x y (h x y e)
theorem le_join (σ τ : Hp) : Le σ (σ.join τ) := fun b x h => by simp [join, h]
theorem le_set {σ : Hp} {b : Nat} {x : Bool × Obj} (h : σ b = none) : Le σ (σ.set b x) := fun k y e => by
  unfold set; split
  · subst_vars; simp [h] at e
  · exact e
theorem cell?_le {σ τ : Hp} (h : Le σ τ) {a : Addr} {v : Value} (e : σ.cell? a = some v) : τ.cell? a = some v := by
  unfold cell? at *
  cases hs : σ a.block with
  | none => simp [hs] at e
  | some x => rw [hs] at e; rw [h _ _ hs]; exact e
theorem set_same (σ : Hp) (b : Nat) (x : Bool × Obj) : σ.set b x b = some x := by simp [set]
theorem set_other (σ : Hp) {b k : Nat} (x : Bool × Obj) (h : k ≠ b) : σ.set b x k = σ k := by simp [set, h]
theorem join_none {σ τ : Hp} {b : Nat} (h : σ.join τ b = none) : σ b = none ∧ τ b = none := by
  unfold join at h
  cases hs : σ b <;> simp [hs] at h
  exact ⟨rfl, h⟩
theorem join_set {σ τ : Hp} (b : Nat) (x : Bool × Obj) : (σ.set b x).join τ = (σ.join τ).set b x := by
  funext k
  by_cases hk : k = b <;> simp [join, set, hk]
theorem Dj.set {σ τ : Hp} (h : Dj σ τ) {b : Nat} {x : Bool × Obj} (hb : τ b = none) : Dj (σ.set b x) τ := fun k => by
  by_cases hk : k = b
  · subst hk; exact .inr hb
  · simp [Hp.set, hk]; exact h k
theorem Dj.right {σ τ : Hp} (h : Dj σ τ) {b : Nat} {x : Bool × Obj} (hb : σ b = some x) : τ b = none := by
  rcases h b with h | h
  · simp [hb] at h
  · exact h
theorem set_comm (σ : Hp) {b c : Nat} (x y : Bool × Obj) (h : b ≠ c) : (σ.set b x).set c y = (σ.set c y).set b x := by
  funext k
  by_cases hb : k = b <;> by_cases hc : k = c <;> simp [set, hb, hc] <;> intro e <;> omega
theorem set_set (σ : Hp) (b : Nat) (x y : Bool × Obj) : (σ.set b x).set b y = σ.set b y := by
  funext k
  by_cases hb : k = b <;> simp [set, hb]
theorem cell?_set_other (σ : Hp) {b : Nat} (x : Bool × Obj) {a : Addr} (h : a.block ≠ b) : (σ.set b x).cell? a = σ.cell? a := by
  unfold cell?; rw [set_other _ _ h]
end Hp

/-- A reader: what it finds it finds in more memory, too. -/
structure Rd (R : Type) where
  get : Hp → Option R
  mono : ∀ σ τ r, Hp.Le σ τ → get σ = some r → get τ = some r

/-- Finitely many blocks are known. -/
def Fin (σ : Hp) : Prop := ∃ n, ∀ b, n ≤ b → σ b = none
theorem Fin.set {σ : Hp} (h : Fin σ) (b : Nat) (x : Bool × Obj) : Fin (σ.set b x) := by
  obtain ⟨n, h⟩ := h
  exact ⟨n + b + 1, fun k hk => by rw [Hp.set_other _ _ (by omega)]; exact h k (by omega)⟩
theorem Fin.fresh {σ : Hp} (h : Fin σ) : ∃ b, σ b = none := let ⟨n, h⟩ := h; ⟨n, h n (Nat.le_refl _)⟩

/-- A predicate transformer over what is known of memory: it asks no more of more memory, and works no miracles. -/
structure M (A : Type) where
  run : (A → Hp → Prop) → Hp → Prop
  mono : ∀ (Q Q' : A → Hp → Prop) (σ : Hp), (∀ a σ', Q a σ' → Q' a σ') → run Q σ → run Q' σ
  frame : ∀ (Q : A → Hp → Prop) (σ τ : Hp), Hp.Dj σ τ → run Q σ → run (fun a σ' => ∃ σ1, Hp.Dj σ1 τ ∧ σ' = Hp.join σ1 τ ∧ Q a σ1) (Hp.join σ τ)
  fin : ∀ (Q : A → Hp → Prop) (σ : Hp), Fin σ → run Q σ → run (fun a σ' => Fin σ' ∧ Q a σ') σ
  strict : ∀ (σ : Hp), Fin σ → ¬ run (fun _ _ => False) σ

namespace M
variable {A B R S : Type}

def err : M A := ⟨fun _ _ => False, fun _ _ _ _ h => h, fun _ _ _ _ h => h, fun _ _ _ h => h, fun _ _ h => h⟩
def pure (a : A) : M A := ⟨fun Q σ => Q a σ, fun _ _ _ h k => h _ _ k, fun _ σ _ hd h => ⟨σ, hd, rfl, h⟩, fun _ _ hf h => ⟨hf, h⟩, fun _ _ h => h⟩
def bind (m : M A) (k : A → M B) : M B :=
  ⟨fun Q σ => m.run (fun a σ' => (k a).run Q σ') σ,
   fun _ _ σ h hm => m.mono _ _ σ (fun a σ' => (k a).mono _ _ σ' h) hm,
   fun Q σ τ hd hm => m.mono _ _ _ (fun a σ' h => by
     obtain ⟨σ1, d1, rfl, hk⟩ := h
     exact (k a).frame Q σ1 τ d1 hk) (m.frame _ σ τ hd hm),
   fun Q σ hf hm => m.mono _ _ σ (fun a σ' h => (k a).fin Q σ' h.1 h.2) (m.fin _ σ hf hm),
   fun σ hf hm => m.strict σ hf (m.mono _ _ σ (fun a σ' h => (k a).strict σ' h.1 h.2) (m.fin _ σ hf hm))⟩
def chk (c : Prop) (k : M B) : M B :=
  ⟨fun Q σ => c ∧ k.run Q σ, fun _ _ σ h hm => ⟨hm.1, k.mono _ _ σ h hm.2⟩, fun Q σ τ hd hm => ⟨hm.1, k.frame Q σ τ hd hm.2⟩,
   fun Q σ hf hm => ⟨hm.1, k.fin Q σ hf hm.2⟩, fun σ hf hm => k.strict σ hf hm.2⟩
def nn {X : Type} (p : Option X) (k : X → M B) : M B :=
  ⟨fun Q σ => ∃ a, p = some a ∧ (k a).run Q σ, fun _ _ σ h ⟨a, e, hm⟩ => ⟨a, e, (k a).mono _ _ σ h hm⟩,
   fun Q σ τ hd ⟨a, e, hm⟩ => ⟨a, e, (k a).frame Q σ τ hd hm⟩, fun Q σ hf ⟨a, e, hm⟩ => ⟨a, e, (k a).fin Q σ hf hm⟩, fun σ hf ⟨a, e, hm⟩ => (k a).strict σ hf hm⟩
def rd (f : Rd R) (k : R → M B) : M B :=
  ⟨fun Q σ => ∃ r, f.get σ = some r ∧ (k r).run Q σ, fun _ _ σ h ⟨a, e, hm⟩ => ⟨a, e, (k a).mono _ _ σ h hm⟩,
   fun Q σ τ hd ⟨a, e, hm⟩ => ⟨a, f.mono _ _ _ (Hp.le_join σ τ) e, (k a).frame Q σ τ hd hm⟩, fun Q σ hf ⟨a, e, hm⟩ => ⟨a, e, (k a).fin Q σ hf hm⟩, fun σ hf ⟨a, e, hm⟩ => (k a).strict σ hf hm⟩
/-- A new block. -/
def new (o : Obj) (k : Nat → M B) : M B :=
  ⟨fun Q σ => ∀ b, σ b = none → (k b).run Q (σ.set b (true, o)), fun _ _ σ h hm b hb => (k b).mono _ _ _ h (hm b hb),
   fun Q σ τ hd hm b hb => by
     obtain ⟨h1, h2⟩ := Hp.join_none hb
     rw [← Hp.join_set]
     exact (k b).frame Q _ τ (hd.set h2) (hm b h1),
   fun Q σ hf hm b hb => (k b).fin Q _ (hf.set _ _) (hm b hb),
   fun σ hf hm => let ⟨b, hb⟩ := hf.fresh; (k b).strict _ (hf.set _ _) (hm b hb)⟩
/-- A block of the call's own is changed. -/
def upd (b : Nat) (f : Obj → Option Obj) (k : M B) : M B :=
  ⟨fun Q σ => ∃ o o', σ b = some (true, o) ∧ f o = some o' ∧ k.run Q (σ.set b (true, o')),
   fun _ _ σ h ⟨o, o', e, e', hm⟩ => ⟨o, o', e, e', k.mono _ _ _ h hm⟩,
   fun Q σ τ hd ⟨o, o', e, e', hm⟩ => ⟨o, o', Hp.le_join σ τ _ _ e, e', by
     rw [← Hp.join_set]
     exact k.frame Q _ τ (hd.set (hd.right e)) hm⟩,
   fun Q σ hf ⟨o, o', e, e', hm⟩ => ⟨o, o', e, e', k.fin Q _ (hf.set _ _) hm⟩,
   fun σ hf ⟨o, o', e, e', hm⟩ => k.strict _ (hf.set _ _) hm⟩
/-- Whatever it is. -/
def any (p : R → Prop) (hp : ∃ r, p r) (k : R → M B) : M B :=
  ⟨fun Q σ => ∀ r, p r → (k r).run Q σ, fun _ _ σ h hm r hr => (k r).mono _ _ _ h (hm r hr), fun Q σ τ hd hm r hr => (k r).frame Q σ τ hd (hm r hr),
   fun Q σ hf hm r hr => (k r).fin Q σ hf (hm r hr), fun σ hf hm => let ⟨r, hr⟩ := hp; (k r).strict σ hf (hm r hr)⟩
/-- What a reader found it finds again. -/
def again (f : Rd R) (r : R) (k : M B) : M B :=
  ⟨fun Q σ => f.get σ = some r ∧ k.run Q σ, fun _ _ σ h hm => ⟨hm.1, k.mono _ _ σ h hm.2⟩,
   fun Q σ τ hd hm => ⟨f.mono _ _ _ (Hp.le_join σ τ) hm.1, k.frame Q σ τ hd hm.2⟩,
   fun Q σ hf hm => ⟨hm.1, k.fin Q σ hf hm.2⟩, fun σ hf hm => k.strict σ hf hm.2⟩
def loop : Nat → (S → M (S ⊕ R)) → S → M R
  | 0, _, _ => err
  | n + 1, body, s => bind (body s) fun x => match x with
    | .inl s' => loop n body s'
    | .inr r => pure r
def map (m : M A) (f : A → B) : M B := bind m fun a => pure (f a)

theorem ext {m m' : M A} (h : m.run = m'.run) : m = m' := by cases m; cases m'; simp at h; subst h; rfl
theorem run_pure (a : A) (Q : A → Hp → Prop) (σ : Hp) : (pure a).run Q σ = Q a σ := rfl
theorem run_bind (m : M A) (k : A → M B) (Q : B → Hp → Prop) (σ : Hp) : (bind m k).run Q σ = m.run (fun a σ' => (k a).run Q σ') σ := rfl

/-- A loop by what holds at its head and a measure. -/
theorem loop_run (I : S → Hp → Prop) (μ : S → Hp → Nat) (body : S → M (S ⊕ R)) (Q : R → Hp → Prop)
    (h : ∀ s σ, I s σ → (body s).run (fun x σ' => match x with
      | .inl s' => I s' σ' ∧ μ s' σ' < μ s σ
      | .inr r => Q r σ') σ) : ∀ (n : Nat) (s : S) (σ : Hp), I s σ → μ s σ < n → (loop n body s).run Q σ := by
  intro n
  induction n with
  | zero => intro s σ _ hm; omega
  | succ n ih =>
    intro s σ hI hm
    show (bind _ _).run Q σ
    rw [run_bind]
    refine (body s).mono _ _ σ (fun x σ' hx => ?_) (h s σ hI)
    cases x with
    | inl s' => exact ih s' σ' hx.1 (by have := hx.2; omega)
    | inr r => exact hx
end M

/-- The world is as the call found it below block B, and what is known of memory is true. -/
structure Sees (B : Nat) (w0 : World) (σ : Hp) (w : World) : Prop where
  below : Below B w0 w
  base : B ≤ w0.heap.size
  obj : ∀ b r o, σ b = some (r, o) → w.heap[b]? = some o
  own : ∀ b o, σ b = some (true, o) → B ≤ b

namespace Sees
variable {B : Nat} {w0 w : World} {σ : Hp}
theorem size (h : Sees B w0 σ w) : B ≤ w.heap.size := Nat.le_trans h.base h.below.size
theorem fresh (h : Sees B w0 σ w) : σ w.heap.size = none := by
  cases e : σ w.heap.size with
  | none => rfl
  | some x => have := h.obj _ x.1 x.2 e; simp at this
theorem fin (h : Sees B w0 σ w) : Fin σ := ⟨w.heap.size, fun b hb => by
  cases e : σ b with
  | none => rfl
  | some x =>
    have := h.obj b x.1 x.2 e
    rw [Array.getElem?_eq_none hb] at this
    simp at this⟩
theorem alloc (h : Sees B w0 σ w) (o : Obj) : Sees B w0 (σ.set w.heap.size (true, o)) (w.alloc o) where
  below := h.below.alloc h.size o
  base := h.base
  obj b r x e := by
    unfold Hp.set at e
    split at e
    · rename_i hb
      simp only [Option.some.injEq, Prod.mk.injEq] at e
      obtain ⟨_, rfl⟩ := e
      subst hb
      show (w.heap.push _)[w.heap.size]? = _
      simp
    · have hx := h.obj b r x e
      have hlt : b < w.heap.size := (Array.getElem?_eq_some_iff.1 hx).1
      rw [← hx]
      exact Below.heap_alloc _ _ _ hlt
  own b x e := by
    unfold Hp.set at e
    split at e
    · rename_i hb; subst hb; exact h.size
    · exact h.own b x e
theorem drew (h : Sees B w0 σ w) : Sees B w0 σ w.drew := ⟨h.below.drew, h.base, h.obj, h.own⟩
/-- A block of the call's own is another one now. -/
theorem put (h : Sees B w0 σ w) {b : Nat} {o o' : Obj} (e : σ b = some (true, o)) {w' : World} (hos : w'.os = w.os) (htape : w'.tape = w.tape)
    (hout : w'.output = w.output) (hheap : w'.heap = w.heap.setIfInBounds b o') : Sees B w0 (σ.set b (true, o')) w' where
  below := h.below.trans ⟨hos, htape, hout, by simp [hheap], fun k hk => by
    have := h.own b o e
    rw [hheap, Array.getElem?_setIfInBounds_ne (by omega)]⟩
  base := h.base
  obj k r x ek := by
    unfold Hp.set at ek
    have hb := h.obj b true o e
    have hlt : b < w.heap.size := (Array.getElem?_eq_some_iff.1 hb).1
    split at ek
    · rename_i hk
      simp only [Option.some.injEq, Prod.mk.injEq] at ek
      obtain ⟨_, rfl⟩ := ek
      subst hk
      rw [hheap]; simp [hlt]
    · rename_i hk
      rw [hheap, Array.getElem?_setIfInBounds_ne (by omega)]
      exact h.obj k r x ek
  own k x ek := by
    unfold Hp.set at ek
    split at ek
    · rename_i hk; subst hk; exact h.own _ _ e
    · exact h.own k x ek
theorem cell (h : Sees B w0 σ w) {a : Addr} {v : Value} (e : σ.cell? a = some v) : w.cell? a = some v := by
  unfold Hp.cell? at e
  unfold World.cell?
  cases hs : σ a.block with
  | none => simp [hs] at e
  | some x =>
    obtain ⟨r, o⟩ := x
    rw [hs] at e
    rw [h.obj _ _ _ hs]
    cases o <;> simp_all
/-- Of less memory. -/
theorem weaken (h : Sees B w0 σ w) {τ : Hp} (hl : Hp.Le τ σ) : Sees B w0 τ w := ⟨h.below, h.base, fun b r o e => h.obj b r o (hl _ _ e), fun b o e => h.own b o (hl _ _ e)⟩
end Sees

end Go.Eng

/- Typed cells and values; what an operation does to what is known (Act1); when that is right (Good). -/
set_option linter.unusedVariables false
namespace Go.Eng
open Go.RowKit

/-! ### Cells, values -/
structure Sl where
  a : Option Addr
  len : Nat
  cap : Nat
def Sl.v (s : Sl) : Value := .slice s.a s.len s.cap
def nilSl : Sl := ⟨none, 0, 0⟩

inductive Ce where
  | int (k : IntKind) | bool | str | ptr | slice | map | flt (k : FloatKind) | any

@[reducible] def Ce.T : Ce → Type
  | .int _ => Int
  | .bool => Bool
  | .str => ByteArray
  | .ptr => Option Addr
  | .slice => Sl
  | .map => Option Nat
  | .flt _ => Nat
  | .any => Value
def Ce.val : (c : Ce) → c.T → Value
  | .int k, n => .int k n
  | .bool, b => .bool b
  | .str, s => .string s
  | .ptr, p => .pointer p
  | .slice, s => .slice s.a s.len s.cap
  | .map, r => .map r
  | .flt k, n => .float k n
  | .any, v => v
def Ce.of : (c : Ce) → Value → Option c.T
  | .int k, .int k' n => if k = k' then some n else none
  | .bool, .bool b => some b
  | .str, .string s => some s
  | .ptr, .pointer p => some p
  | .slice, .slice a n c => some ⟨a, n, c⟩
  | .map, .map r => some r
  | .flt k, .float k' n => if k = k' then some n else none
  | .any, v => some v
  | _, _ => none
theorem Ce.of_val {c : Ce} {v : Value} {x : c.T} (h : c.of v = some x) : c.val x = v := by
  cases c <;> cases v <;> simp [Ce.of] at h <;> simp [Ce.val] <;> first | (obtain ⟨rfl, rfl⟩ := h; simp) | (subst h; simp) | exact h.symm | exact h
theorem Ce.val_of {c : Ce} (x : c.T) : c.of (c.val x) = some x := by
  cases c <;> simp [Ce.of, Ce.val]
/-- One cell: not an aggregate, not a tuple. -/
def flat : Value → Bool
  | .agg _ | .tuple _ => false
  | _ => true

section tuples
variable {α : Type} (f : α → Type)
@[reducible] def Tp : List α → Type
  | [] => Unit
  | [x] => f x
  | x :: y :: l => f x × Tp (y :: l)
variable {f} (val : (x : α) → f x → Value) (of : (x : α) → Value → Option (f x))
def Tp.vals : (l : List α) → Tp f l → List Value
  | [], _ => []
  | [x], t => [val x t]
  | x :: y :: l, t => val x t.1 :: Tp.vals (y :: l) t.2
def Tp.ofs : (l : List α) → List Value → Option (Tp f l)
  | [], [] => some ()
  | [x], [v] => of x v
  | x :: y :: l, v :: vs => match of x v with
    | some a => match Tp.ofs (y :: l) vs with
      | some t => some (a, t)
      | none => none
    | none => none
  | _, _ => none
theorem Tp.ofs_vals (h : ∀ x v a, of x v = some a → val x a = v) : ∀ (l : List α) (vs : List Value) (t : Tp f l), Tp.ofs of l vs = some t → Tp.vals val l t = vs
  | [], [], t, e => rfl
  | [], _ :: _, t, e => by simp [Tp.ofs] at e
  | [x], [], t, e => by simp [Tp.ofs] at e
  | [x], [v], t, e => by simp only [Tp.ofs] at e; simp [Tp.vals, h x v t e]
  | [x], _ :: _ :: _, t, e => by simp [Tp.ofs] at e
  | x :: y :: l, [], t, e => by simp [Tp.ofs] at e
  | x :: y :: l, v :: vs, t, e => by
    simp only [Tp.ofs] at e
    split at e
    · rename_i a ha
      split at e
      · rename_i u hu
        simp only [Option.some.injEq] at e
        subst e
        simp only [Tp.vals, h x v a ha]
        rw [Tp.ofs_vals h (y :: l) vs u hu]
      · simp at e
    · simp at e
theorem Tp.vals_ofs (h : ∀ x a, of x (val x a) = some a) : ∀ (l : List α) (t : Tp f l), Tp.ofs of l (Tp.vals val l t) = some t
  | [], t => rfl
  | [x], t => by simp [Tp.vals, Tp.ofs, h]
  | x :: y :: l, t => by simp only [Tp.vals, Tp.ofs, h]; rw [Tp.vals_ofs h (y :: l) t.2]
theorem Tp.vals_length : ∀ (l : List α) (t : Tp f l), (Tp.vals val l t).length = l.length
  | [], t => rfl
  | [x], t => rfl
  | x :: y :: l, t => by simp [Tp.vals, Tp.vals_length (y :: l) t.2]
end tuples

@[reducible] def Cs (l : List Ce) : Type := Tp Ce.T l
def csv (l : List Ce) (t : Cs l) : List Value := Tp.vals Ce.val l t
def cso (l : List Ce) (vs : List Value) : Option (Cs l) := Tp.ofs Ce.of l vs
theorem cso_csv {l : List Ce} {vs : List Value} {t : Cs l} (h : cso l vs = some t) : csv l t = vs := Tp.ofs_vals (f := Ce.T) Ce.val Ce.of (fun _ _ _ e => Ce.of_val e) l vs t h
theorem csv_cso {l : List Ce} (t : Cs l) : cso l (csv l t) = some t := Tp.vals_ofs (f := Ce.T) Ce.val Ce.of (fun _ a => Ce.val_of a) l t

inductive Ty where
  | c (x : Ce) | box | agg (cs : List Ce) | fn (f : FuncId) | cl (f : FuncId)
@[reducible] def Ty.T : Ty → Type
  | .c x => x.T
  | .box => Nat
  | .agg cs => Cs cs
  | .fn _ => Unit
  | .cl _ => Nat
def Ty.val : (t : Ty) → t.T → Value
  | .c x, v => x.val v
  | .box, b => .pointer (some ⟨b, 0, none⟩)
  | .agg cs, t => .agg (csv cs t).toArray
  | .fn f, _ => .func (.func f) #[] #[]
  | .cl f, b => .func (.func f) #[] #[.pointer (some ⟨b, 0, none⟩)]
def boxOf : Value → Option Nat
  | .pointer (some ⟨b, 0, none⟩) => some b
  | _ => none
theorem boxOf_eq {v : Value} {b : Nat} (h : boxOf v = some b) : v = .pointer (some ⟨b, 0, none⟩) := by
  unfold boxOf at h
  split at h <;> simp_all
def fnOf (f : FuncId) : Value → Option Unit
  | .func (.func g) ⟨[]⟩ ⟨[]⟩ => if f = g then some () else none
  | _ => none
theorem fnOf_eq {f : FuncId} {v : Value} {x : Unit} (h : fnOf f v = some x) : v = .func (.func f) #[] #[] := by
  unfold fnOf at h
  split at h <;> simp_all
def clOf (f : FuncId) : Value → Option Nat
  | .func (.func g) ⟨[]⟩ ⟨[.pointer (some ⟨b, 0, none⟩)]⟩ => if f = g then some b else none
  | _ => none
theorem clOf_eq {f : FuncId} {v : Value} {b : Nat} (h : clOf f v = some b) : v = .func (.func f) #[] #[.pointer (some ⟨b, 0, none⟩)] := by
  unfold clOf at h
  split at h <;> simp_all
def aggOf (cs : List Ce) : Value → Option (Cs cs)
  | .agg vs => cso cs vs.toList
  | _ => none
theorem aggOf_eq {cs : List Ce} {v : Value} {t : Cs cs} (h : aggOf cs v = some t) : v = .agg (csv cs t).toArray := by
  cases v <;> simp [aggOf] at h
  simp [cso_csv h]
def Ty.of : (t : Ty) → Value → Option t.T
  | .c x => x.of
  | .box => boxOf
  | .agg cs => aggOf cs
  | .fn f => fnOf f
  | .cl f => clOf f
theorem Ty.of_val {t : Ty} {v : Value} {x : t.T} (h : t.of v = some x) : t.val x = v := by
  cases t with
  | c y => exact Ce.of_val h
  | box => exact (boxOf_eq h).symm
  | agg cs => exact (aggOf_eq h).symm
  | fn f => exact (fnOf_eq h).symm
  | cl f => exact (clOf_eq h).symm
@[reducible] def Ts (l : List Ty) : Type := Tp Ty.T l
def tsv (l : List Ty) (t : Ts l) : List Value := Tp.vals Ty.val l t
def tso (l : List Ty) (vs : List Value) : Option (Ts l) := Tp.ofs Ty.of l vs
theorem tso_tsv {l : List Ty} {vs : List Value} {t : Ts l} (h : tso l vs = some t) : tsv l t = vs := Tp.ofs_vals (f := Ty.T) Ty.val Ty.of (fun _ _ _ e => Ty.of_val e) l vs t h
/-- A result: one value, or a tuple of values. -/
def resv (l : List Ty) (t : Ts l) : Value := match tsv l t with
  | [v] => v
  | vs => .tuple vs.toArray

/-! ### The frame -/
abbrev Env := Nat → Option Value
def Env.put (env : Env) (dst : Option Tmp) (v : Value) : Env := match dst with
  | some d => fun i => if i = d then some v else env i
  | none => env
def ev (env : Env) : Operand → Option Value
  | .tmp t => env t
  | .const v => some v
  | .func f => some (.func (.func f) #[] #[])
  | .global _ => none
structure EnvOk (n : Nat) (env : Env) (a : Act) : Prop where
  size : a.tmps.size = n
  at_ : ∀ i v, env i = some v → a.tmps[i]? = some v
theorem EnvOk.ev {n : Nat} {env : Env} {a : Act} (h : EnvOk n env a) {x : Operand} {v : Value} (e : Eng.ev env x = some v) : a.eval x = v := by
  cases x with
  | tmp t => simp only [Eng.ev] at e; simp [Act.eval, h.at_ t v e]
  | const u => simp only [Eng.ev, Option.some.injEq] at e; simp [Act.eval, e]
  | func f => simp only [Eng.ev, Option.some.injEq] at e; simp [Act.eval, e]
  | global g => simp [Eng.ev] at e
/-- Is a destination one of the frame's? -/
def dstOk (n : Nat) (dst : Option Tmp) : Bool := match dst with
  | some d => decide (d < n)
  | none => true
theorem EnvOk.put {n : Nat} {env : Env} {a : Act} (h : EnvOk n env a) {dst : Option Tmp} (hd : dstOk n dst = true) (v : Value) : EnvOk n (env.put dst v) (a.put dst v) := by
  cases dst with
  | none => exact h
  | some d =>
    have hd' : d < n := by simpa [dstOk] using hd
    refine ⟨by simp [Act.put, h.size], fun i u e => ?_⟩
    simp only [Env.put] at e
    simp only [Act.put]
    split at e
    · rename_i hi; subst hi; simp at e; subst e; simp [h.size, hd']
    · rename_i hi; rw [Array.getElem?_setIfInBounds_ne (by omega)]; exact h.at_ i u e

/-! ### What an operation does -/
inductive Act1 : Type 1 where
  | no
  | val (v : Value)
  | chk (c : Prop) (v : Value)
  | nn (c : Prop) (p : Option Addr) (f : Addr → Value)
  | rd {R : Type} (f : Rd R) (g : R → Value)
  | new (o : Obj) (f : Nat → Value)
  | gen {R : Type} (m : M R) (g : R → Value)
  | br {R : Type} (m : M (Option R)) (v : Value) (g : R → Value)
/-- Nothing, or something. -/
abbrev optM {R B : Type} (r : Option R) (a : M B) (f : R → M B) : M B := match r with
  | none => a
  | some x => f x
abbrev Act1.run {B : Type} (x : Act1) (k : Value → M B) : M B := match x with
  | .no => M.err
  | .val v => k v
  | .chk c v => M.chk c (k v)
  | .nn c p f => M.nn p fun a => M.chk c (k (f a))
  | .rd f g => M.rd f fun r => k (g r)
  | .new o f => M.new o fun b => k (f b)
  | .gen m g => M.bind m fun r => k (g r)
  | .br m v g => M.bind m fun r => optM r (k v) fun x => k (g x)
def Act1.m (x : Act1) : M Value := x.run M.pure
theorem Act1.run_m {B : Type} (x : Act1) (k : Value → M B) : x.run k = M.bind x.m k := by
  cases x <;> first
    | rfl
    | (simp only [Act1.run, Act1.m]; apply M.ext; funext Q σ; simp only [M.run_bind]
       congr 1; funext r σ'; cases r <;> rfl)

/-- What an operation that comes out as r leads to. -/
def Leads (P : Program) (S : Value → World → Prop) : Result Next → Prop
  | .ok (.value v) w => S v w
  | .ok .skip w => S undef w
  | .ok (.enter f args) w => Calls P f args w fun e w' => ∃ v, e = .returned v ∧ S v w'
  | _ => False
theorem Leads.mono {P : Program} {S S' : Value → World → Prop} (h : ∀ v w, S v w → S' v w) {r : Result Next} (k : Leads P S r) : Leads P S' r := by
  cases r with
  | ok n w => cases n <;> simp only [Leads] at k ⊢ <;> first | exact h _ _ k | exact Calls.mono k (fun e w' ⟨v, he, hs⟩ => ⟨v, he, h _ _ hs⟩)
  | halt x w => simp [Leads] at k
theorem Leads.upon {P : Program} {S : Value → World → Prop} {r : Result Next} (k : Leads P S r) (o : Oper) (a : Act) (next : Act → World → Prop) (Q : Exit → Act → World → Prop)
    (h : ∀ v w, S v w → next (a.put o.dst v) w) : o.upon P a next Q r := by
  cases r with
  | ok n w =>
    cases n <;> simp only [Leads] at k <;> simp only [Oper.upon] <;> first
      | exact h _ _ k
      | exact Calls.mono k (fun e w' ⟨v, he, hs⟩ => by subst he; exact h _ _ hs)
  | halt x w => simp [Leads] at k

def Good (P : Program) (s : Sem Next) (x : Act1) : Prop :=
  ∀ (B : Nat) (w0 : World) (σ : Hp) (w : World) (Q : Value → Hp → Prop), Sees B w0 σ w → x.m.run Q σ → Leads P (fun v w' => ∃ σ', Sees B w0 σ' w' ∧ Q v σ') (s.run P w)

section good
variable {P : Program} {s : Sem Next}
theorem Good.no : Good P s .no := fun _ _ _ _ _ _ h => h.elim
theorem Good.val {v : Value} (h : ∀ w, s.run P w = .ok (.value v) w) : Good P s (.val v) := fun _ _ σ w Q hs hq => by rw [h]; exact ⟨σ, hs, hq⟩
theorem Good.chk {c : Prop} {v : Value} (h : c → ∀ w, s.run P w = .ok (.value v) w) : Good P s (.chk c v) := fun _ _ σ w Q hs hq => by rw [h hq.1]; exact ⟨σ, hs, hq.2⟩
theorem Good.nn {c : Prop} {p : Option Addr} {f : Addr → Value} (h : ∀ a, p = some a → c → ∀ w, s.run P w = .ok (.value (f a)) w) : Good P s (.nn c p f) :=
  fun _ _ σ w Q hs ⟨a, e, hc, hq⟩ => by rw [h a e hc]; exact ⟨σ, hs, hq⟩
theorem Good.rd {R : Type} {f : Rd R} {g : R → Value} (h : ∀ B w0 σ w r, Sees B w0 σ w → f.get σ = some r → s.run P w = .ok (.value (g r)) w) : Good P s (.rd f g) :=
  fun B w0 σ w Q hs ⟨r, e, hq⟩ => by rw [h B w0 σ w r hs e]; exact ⟨σ, hs, hq⟩
theorem Good.new {o : Obj} {f : Nat → Value} (h : ∀ w, s.run P w = .ok (.value (f w.heap.size)) (w.alloc o)) : Good P s (.new o f) :=
  fun B w0 σ w Q hs hq => by rw [h]; exact ⟨_, hs.alloc o, hq _ hs.fresh⟩
end good

end Go.Eng

/- Operations on memory cells: loads, stores, new blocks; and the plain ones. Each with the proof that it is what the model does. -/
set_option linter.unusedVariables false
set_option linter.unusedSimpArgs false
namespace Go.Eng
open Go.RowKit

/-! ### Types by the table -/
def cellsOfT (P : Program) : Nat → TypeId → Option (List Ce)
  | 0, _ => none
  | d + 1, t => match P.underlying t with
    | some .bool => some [.bool]
    | some (.int k) => some [.int k]
    | some (.float k) => some [.flt k]
    | some .string => some [.str]
    | some (.pointer _) => some [.ptr]
    | some .unsafePointer => some [.ptr]
    | some (.slice _) => some [.slice]
    | some (.map _ _) => some [.map]
    | some (.func _ _ _) => some [.any]
    | some (.interface _) => some [.any]
    | some (.struct fs) => fs.toList.foldr (fun f acc => match cellsOfT P d f.type, acc with
      | some x, some y => some (x ++ y)
      | _, _ => none) (some [])
    | some (.array n e) => (cellsOfT P d e).map fun l => (List.replicate n l).flatten
    | _ => none
def isAggT (P : Program) (t : TypeId) : Bool := match P.underlying t with
  | some (.struct _) | some (.array _ _) => true
  | _ => false
theorem run_isAgg {P : Program} {t : TypeId} {d : TypeDesc} (h : P.underlying t = some d) (w : World) : (isAgg t).run P w = .ok (isAggT P t) w := by
  unfold isAgg isAggT
  simp only [Sem.run_bind, run_underlying h, Result.andThen_ok, h]
  cases d <;> rfl
theorem info_of_underlying {P : Program} {t : TypeId} {d : TypeDesc} (h : P.underlying t = some d) : ∃ i, P.info? t = some i := by
  unfold Program.underlying at h
  cases e : P.info? t with
  | none => simp [e] at h
  | some i => exact ⟨i, rfl⟩
theorem run_sizeOf' {P : Program} {t : TypeId} {d : TypeDesc} (h : P.underlying t = some d) (w : World) : (sizeOf t).run P w = .ok (P.cellsOf t) w := by
  obtain ⟨i, hi⟩ := info_of_underlying h
  exact run_sizeOf w hi
theorem underlying_of_cells {P : Program} {n : Nat} {t : TypeId} {cs : List Ce} (h : cellsOfT P n t = some cs) : ∃ d, P.underlying t = some d := by
  cases n with
  | zero => simp [cellsOfT] at h
  | succ n =>
    cases e : P.underlying t with
    | none => simp [cellsOfT, e] at h
    | some d => exact ⟨d, rfl⟩

/-! ### Loads -/
def ldVs (σ : Hp) (a : Addr) : Nat → Nat → Option (List Value)
  | _, 0 => some []
  | i, n + 1 => match σ.cell? (a.add i), ldVs σ a (i + 1) n with
    | some v, some vs => some (v :: vs)
    | _, _ => none
theorem ldVs_le {σ τ : Hp} (h : Hp.Le σ τ) (a : Addr) : ∀ n i vs, ldVs σ a i n = some vs → ldVs τ a i n = some vs
  | 0, _, _, e => e
  | n + 1, i, vs, e => by
    simp only [ldVs] at e ⊢
    split at e
    · rename_i v us hv hus
      rw [Hp.cell?_le h hv, ldVs_le h a n (i + 1) us hus]; exact e
    · simp at e
theorem ldVs_at {σ : Hp} {a : Addr} : ∀ {n i vs}, ldVs σ a i n = some vs → vs.length = n ∧ ∀ j v, vs[j]? = some v → σ.cell? (a.add (i + j)) = some v
  | 0, i, vs, e => by simp only [ldVs, Option.some.injEq] at e; subst e; simp
  | n + 1, i, vs, e => by
    simp only [ldVs] at e
    split at e
    · rename_i v us hv hus
      simp only [Option.some.injEq] at e
      subst e
      obtain ⟨hl, h⟩ := ldVs_at hus
      refine ⟨by simp [hl], fun j u hu => ?_⟩
      cases j with
      | zero => simp at hu; subst hu; simpa using hv
      | succ j => simp at hu; have := h j u hu; rwa [show i + (j + 1) = i + 1 + j by omega]
    · simp at e
def ldR (cs : List Ce) (a : Addr) : Rd (Cs cs) where
  get σ := match ldVs σ a 0 cs.length with
    | some vs => cso cs vs
    | none => none
  mono σ τ r h e := by
    split at e
    · rename_i vs hvs
      rw [ldVs_le h a _ _ _ hvs]; exact e
    · simp at e
theorem ldR_get {cs : List Ce} {a : Addr} {σ : Hp} {r : Cs cs} (e : (ldR cs a).get σ = some r) : ldVs σ a 0 cs.length = some (csv cs r) := by
  simp only [ldR] at e
  split at e
  · rename_i vs hvs
    rw [hvs, cso_csv e]
  · simp at e
def loadAct (P : Program) (t : TypeId) (a : Option Value) : Act1 := match a with
  | some (.pointer (some ad)) => match cellsOfT P 9 t with
    | some cs => match isAggT P t with
      | true => match Nat.beq cs.length (P.cellsOf t) with
        | true => .rd (ldR cs ad) fun r => .agg (csv cs r).toArray
        | false => .no
      | false => match cs with
        | [c] => .rd (ldR [c] ad) fun r => c.val r
        | _ => .no
    | none => .no
  | _ => .no
theorem load_good {P : Program} {t : TypeId} {a : Option Value} {v : Value} (hv : ∀ u, a = some u → u = v) :
    Good P (do pure (.value (← Instr.loadAt t v))) (loadAct P t a) := by
  unfold loadAct
  split
  · rename_i ad
    have hv' := hv _ rfl
    subst hv'
    split
    · rename_i cs hcs
      obtain ⟨d, hd⟩ := underlying_of_cells hcs
      split
      · rename_i hagg
        split
        · rename_i hlen
          have hlen := Nat.eq_of_beq_eq_true hlen
          refine Good.rd fun B w0 σ w r hs e => ?_
          obtain ⟨hl, hc⟩ := ldVs_at (ldR_get e)
          have hrun := run_loadCells_list (P := P) w ad (csv cs r) (fun j u hu => hs.cell (by have := hc j u hu; simpa using this))
          rw [hl] at hrun
          simp [Instr.loadAt, Instr.sureAddr, loadVar, run_isAgg hd, hagg, run_sizeOf' hd, ← hlen, hrun]
        · exact Good.no
      · rename_i hagg
        split
        · rename_i c
          refine Good.rd fun B w0 σ w r hs e => ?_
          obtain ⟨hl, hc⟩ := ldVs_at (ldR_get e)
          have h0 := hs.cell (hc 0 (c.val r) (by simp [csv, Tp.vals]))
          simp only [Nat.add_zero, Addr.add, if_true] at h0
          simp [Instr.loadAt, Instr.sureAddr, loadVar, run_isAgg hd, hagg, h0]
        · exact Good.no
    · exact Good.no
  · exact Good.no

/-! ### Stores -/
def writeAt (c : Array Value) : Nat → List Value → Array Value
  | _, [] => c
  | i, v :: vs => writeAt (c.setIfInBounds i v) (i + 1) vs
theorem size_writeAt : ∀ (vs : List Value) (i : Nat) (c : Array Value), (writeAt c i vs).size = c.size
  | [], _, _ => rfl
  | v :: vs, i, c => by simp [writeAt, size_writeAt vs]
def stObj (a : Addr) (vs : List Value) : Obj → Option Obj
  | .cells c e fr => if a.spot = none ∧ a.off + vs.length ≤ c.size ∧ (fr.2 ≤ fr.1 ∨ a.off + vs.length ≤ fr.1 ∨ fr.2 ≤ a.off) then some (.cells (writeAt c a.off vs) e fr) else none
  | _ => none
theorem heap_setCells (b : Nat) (e : TypeId) (fr : Nat × Nat) : ∀ (vs : List Value) (i : Nat) (c : Array Value) (w : World), w.heap[b]? = some (.cells c e fr) →
    (w.setCells b i vs).heap = w.heap.setIfInBounds b (.cells (writeAt c i vs) e fr) ∧ (w.setCells b i vs).os = w.os ∧ (w.setCells b i vs).tape = w.tape ∧ (w.setCells b i vs).output = w.output
  | [], i, c, w, h => by
    refine ⟨?_, rfl, rfl, rfl⟩
    have hlt : b < w.heap.size := (Array.getElem?_eq_some_iff.1 h).1
    have hv : w.heap[b] = .cells c e fr := (Array.getElem?_eq_some_iff.1 h).2
    apply Array.ext_getElem?
    intro k
    by_cases hk : b = k
    · subst hk; simp [World.setCells, writeAt, h, hlt, hv]
    · simp [World.setCells, Array.getElem?_setIfInBounds_ne hk]
  | v :: vs, i, c, w, h => by
    have hlt : b < w.heap.size := (Array.getElem?_eq_some_iff.1 h).1
    have hset : (w.setCell ⟨b, i, none⟩ v).heap[b]? = some (.cells (c.setIfInBounds i v) e fr) := by
      simp [World.setCell, Array.getElem?_modify, h]
    have ih := heap_setCells b e fr vs (i + 1) (c.setIfInBounds i v) _ hset
    simp only [World.setCells, writeAt]
    refine ⟨?_, ih.2.1, ih.2.2.1, ih.2.2.2⟩
    rw [ih.1]
    apply Array.ext_getElem?
    intro k
    by_cases hk : b = k
    · subst hk; simp [hlt]
    · rw [Array.getElem?_setIfInBounds_ne hk, Array.getElem?_setIfInBounds_ne hk]
      simp [World.setCell, Array.getElem?_modify, hk]
/-- Storing one-cell values in a row: the world behind it. -/
theorem run_storeCells_obj {P : Program} {w : World} {a : Addr} {vs : List Value} {o o' : Obj} (ho : w.heap[a.block]? = some o) (hst : stObj a vs o = some o') (h1 : vs.all flat = true) :
    ∃ w', (storeCells a vs).run P w = .ok () w' ∧ w'.os = w.os ∧ w'.tape = w.tape ∧ w'.output = w.output ∧ w'.heap = w.heap.setIfInBounds a.block o' := by
  obtain ⟨b, off, spot⟩ := a
  cases o with
  | cells c e fr =>
    simp only [stObj] at hst
    split at hst
    · rename_i hc
      obtain ⟨hsp, hsz, hfr⟩ := hc
      simp only at hsp hsz hfr ho
      subst hsp
      simp only [Option.some.injEq] at hst
      subst hst
      have hr := run_storeCells_cells (P := P) b off vs 0 w
        (fun j hj => by simp [World.cell?, ho]; omega)
        (fun j hj => by
          simp only [World.frozen?, ho, Nat.add_zero]
          obtain ⟨lo, hi⟩ := fr
          simp only at hfr ⊢
          simp; omega)
        (fun v hv => by
          have := List.all_eq_true.1 h1 v hv
          cases v <;> simp_all [flat, Value.oneCell'])
      simp only [Nat.add_zero] at hr
      obtain ⟨g1, g2, g3, g4⟩ := heap_setCells b e fr vs off c w ho
      exact ⟨_, hr, g2, g3, g4, g1⟩
    · simp at hst
  | _ => simp [stObj] at hst
def stM (a : Addr) (vs : List Value) : M Unit := M.upd a.block (stObj a vs) (M.pure ())
def storeAct (P : Program) (t : TypeId) (a x : Option Value) : Act1 := match a, x with
  | some (.pointer (some ad)), some v => match P.info? t with
    | some i => match Nat.beq v.cells.size i.size && v.cells.toList.all flat with
      | true => .gen (stM ad v.cells.toList) fun _ => undef
      | false => .no
    | none => .no
  | _, _ => .no
theorem store_good {P : Program} {t : TypeId} {a x : Option Value} {u v : Value} (hu : ∀ y, a = some y → y = u) (hv : ∀ y, x = some y → y = v) :
    Good P (do Instr.storeAt t u v; pure .skip) (storeAct P t a x) := by
  unfold storeAct
  split
  · rename_i ad v'
    have h1 := hu _ rfl
    have h2 := hv _ rfl
    subst h1; subst h2
    split
    · rename_i i hi
      split
      · rename_i hc
        simp only [Bool.and_eq_true] at hc
        have hsz := Nat.eq_of_beq_eq_true hc.1
        intro B w0 σ w Q hs hq
        obtain ⟨o, o', e1, e2, hQ⟩ := hq
        obtain ⟨w', hrun, g1, g2, g3, g4⟩ := run_storeCells_obj (P := P) (hs.obj _ _ _ e1) e2 hc.2
        have : (Instr.storeAt t (.pointer (some ad)) v').run P w = .ok () w' := by
          simp [Instr.storeAt, Instr.sureAddr, storeVar, run_sizeOf w hi, Program.cellsOf, hi, hsz, hrun]
        simp only [Sem.run_bind, this, Result.andThen_ok, Sem.run_pure, Leads]
        exact ⟨_, hs.put e1 g1 g2 g3 g4, hQ⟩
      · exact Good.no
    · exact Good.no
  · exact Good.no

/-! ### New variables -/
def allocAct (P : Program) (t : TypeId) : Act1 := match P.info? t with
  | some i => match i.zero with
    | some z => .new (.cells z.cells t) fun b => .pointer (some ⟨b, 0, none⟩)
    | none => .no
  | none => .no
theorem alloc_good {P : Program} {t : TypeId} : Good P (do pure (.value (← Instr.alloc t true (.tuple #[])))) (allocAct P t) := by
  unfold allocAct
  split
  · rename_i i hi
    split
    · rename_i z hz
      refine Good.new fun w => ?_
      simp [Instr.alloc, zeroValue, run_typeInfo w hi, hz, newVar, newRow]
    · exact Good.no
  · exact Good.no
def boxAct (t : TypeId) (x : Option Value) : Act1 := match x with
  | some v => .new (.cells v.cells t) fun b => .pointer (some ⟨b, 0, none⟩)
  | none => .no
theorem box_good {P : Program} {t : TypeId} {x : Option Value} {v : Value} (hv : ∀ y, x = some y → y = v) :
    Good P (do pure (.value (← Instr.box t v))) (boxAct t x) := by
  unfold boxAct
  split
  · rename_i v'
    have h2 := hv _ rfl
    subst h2
    refine Good.new fun w => ?_
    simp [Instr.box, newVar, newRow]
  · exact Good.no

end Go.Eng

/- Operations that do not look at memory, and lengths. -/
set_option linter.unusedVariables false
set_option linter.unusedSimpArgs false
namespace Go.Eng
open Go.RowKit

/-! ### Two operands -/
def bitsV (op : BinOp) (k : IntKind) (a b : Int) : Int :=
  let x := BitVec.ofInt k.bits a
  let y := BitVec.ofInt k.bits b
  match op with
  | .and => k.wrap (x &&& y).toNat
  | .or => k.wrap (x ||| y).toNat
  | .xor => k.wrap (x ^^^ y).toNat
  | _ => k.wrap (x &&& ~~~y).toNat
def fcmp (op : BinOp) (k : FloatKind) (x y : Nat) : Bool := match op with
  | .eql => k.format.order x y == some .eq
  | .neq => k.format.order x y != some .eq
  | .lss => k.format.order x y == some .lt
  | .leq => k.format.order x y == some .lt || k.format.order x y == some .eq
  | .gtr => k.format.order x y == some .gt
  | _ => k.format.order x y == some .gt || k.format.order x y == some .eq
def scmp (op : BinOp) (x y : ByteArray) : Bool := match op with
  | .eql => x.toList == y.toList
  | .neq => !(x.toList == y.toList)
  | .lss => Op.bytesLess x.toList y.toList
  | .leq => Op.bytesLess x.toList y.toList || x.toList == y.toList
  | .gtr => !(Op.bytesLess x.toList y.toList || x.toList == y.toList)
  | _ => !Op.bytesLess x.toList y.toList
def isPtrT (P : Program) (t : TypeId) : Bool := match P.underlying t with
  | some (.pointer _) => true
  | _ => false
def isSliceT (P : Program) (t : TypeId) : Bool := match P.underlying t with
  | some (.slice _) => true
  | _ => false
def isMapT (P : Program) (t : TypeId) : Bool := match P.underlying t with
  | some (.map _ _) => true
  | _ => false
def isBoolT (P : Program) (t : TypeId) : Bool := match P.underlying t with
  | some .bool => true
  | _ => false
def intAct (op : BinOp) (k : IntKind) (a b : Int) : Act1 := match op with
  | .add => .val (.int k (k.wrap (a + b)))
  | .sub => .val (.int k (k.wrap (a - b)))
  | .mul => .val (.int k (k.wrap (a * b)))
  | .quo => .chk (b ≠ 0) (.int k (k.wrap (a.tdiv b)))
  | .rem => .chk (b ≠ 0) (.int k (a.tmod b))
  | .and => .val (.int k (bitsV .and k a b))
  | .or => .val (.int k (bitsV .or k a b))
  | .xor => .val (.int k (bitsV .xor k a b))
  | .andNot => .val (.int k (bitsV .andNot k a b))
  | .eql => .val (.bool (a == b))
  | .neq => .val (.bool (a != b))
  | .lss => .val (.bool (decide (a < b)))
  | .leq => .val (.bool (decide (a ≤ b)))
  | .gtr => .val (.bool (decide (a > b)))
  | .geq => .val (.bool (decide (a ≥ b)))
  | _ => .no
def fltAct (op : BinOp) (k : FloatKind) (a b : Nat) : Act1 := match op with
  | .eql => .val (.bool (fcmp .eql k a b))
  | .neq => .val (.bool (fcmp .neq k a b))
  | .lss => .val (.bool (fcmp .lss k a b))
  | .leq => .val (.bool (fcmp .leq k a b))
  | .gtr => .val (.bool (fcmp .gtr k a b))
  | .geq => .val (.bool (fcmp .geq k a b))
  | _ => .no
def strAct (op : BinOp) (a b : ByteArray) : Act1 := match op with
  | .add => .chk (a.size + b.size ≤ 9223372036854775807) (.string (a ++ b))
  | .eql => .val (.bool (scmp .eql a b))
  | .neq => .val (.bool (scmp .neq a b))
  | .lss => .val (.bool (scmp .lss a b))
  | .leq => .val (.bool (scmp .leq a b))
  | .gtr => .val (.bool (scmp .gtr a b))
  | .geq => .val (.bool (scmp .geq a b))
  | _ => .no
def eqlAct (op : BinOp) (b : Bool) : Act1 := match op with
  | .eql => .val (.bool b)
  | .neq => .val (.bool (!b))
  | _ => .no
def binAct (P : Program) (op : BinOp) (t : TypeId) (x y : Option Value) : Act1 := match x, y with
  | some (.int k a), some (.int k' b) => match op with
    | .shl => .chk (0 ≤ b) (.int k (k.wrap (a * 2 ^ (min b.toNat k.bits))))
    | .shr => .chk (0 ≤ b) (.int k (a.fdiv (2 ^ (min b.toNat k.bits))))
    | op => if k = k' then intAct op k a b else .no
  | some (.float k a), some (.float k' b) => if k = k' then fltAct op k a b else .no
  | some (.string a), some (.string b) => strAct op a b
  | some (.bool a), some (.bool b) => match isBoolT P t with
    | true => eqlAct op (a == b)
    | false => .no
  | some (.pointer p), some (.pointer none) => match isPtrT P t with
    | true => eqlAct op p.isNone
    | false => .no
  | some (.slice a _ _), some (.slice none _ _) => match isSliceT P t with
    | true => eqlAct op a.isNone
    | false => .no
  | some (.map r), some (.map none) => match isMapT P t with
    | true => eqlAct op r.isNone
    | false => .no
  | _, _ => .no

theorem run_binOp_int {P : Program} {op : BinOp} {t : TypeId} {k : IntKind} {a b : Int} (h1 : op ≠ .shl) (h2 : op ≠ .shr) (w : World) :
    (binOp op t (.int k a) (.int k b)).run P w = (match op with
      | .add | .sub | .mul => Op.intArith op k a b
      | .quo | .rem => Op.intDiv op k a b
      | .and | .or | .xor | .andNot => Op.intBits op k a b
      | _ => Op.intCmp op a b).run P w := by
  cases op <;> first | rfl | (simp [binOp]; done) | (exact absurd rfl h1) | (exact absurd rfl h2)

theorem int_good {P : Program} {op : BinOp} {t : TypeId} {k : IntKind} {a b : Int} (h1 : op ≠ .shl) (h2 : op ≠ .shr) :
    Good P (do pure (.value (← binOp op t (.int k a) (.int k b)))) (intAct op k a b) := by
  cases op <;> simp only [intAct] <;> first
    | exact Good.no
    | exact absurd rfl h1
    | exact absurd rfl h2
    | (refine Good.val fun w => ?_; rw [Sem.run_bind, run_binOp_int (by simp) (by simp)]; simp [Op.intArith, Op.intBits, Op.intCmp, bitsV]; done)
    | (refine Good.chk fun hc w => ?_; rw [Sem.run_bind, run_binOp_int (by simp) (by simp)]; simp [Op.intDiv, hc]; done)
theorem flt_good {P : Program} {op : BinOp} {t : TypeId} {k : FloatKind} {a b : Nat} :
    Good P (do pure (.value (← binOp op t (.float k a) (.float k b)))) (fltAct op k a b) := by
  cases op <;> simp only [fltAct] <;> first
    | exact Good.no
    | (refine Good.val fun w => ?_; simp [binOp, Op.floatCmp, fcmp]; done)
theorem str_good {P : Program} {op : BinOp} {t : TypeId} {a b : ByteArray} :
    Good P (do pure (.value (← binOp op t (.string a) (.string b)))) (strAct op a b) := by
  cases op <;> simp only [strAct] <;> first
    | exact Good.no
    | (refine Good.val fun w => ?_; simp [binOp, Op.stringOp, scmp]; done)
    | (refine Good.chk fun hc w => ?_; simp [binOp, Op.stringOp, IntKind.max, IntKind.signed, IntKind.bits]; omega)
theorem eql_good {P : Program} {op : BinOp} {s : Sem Next} {b : Bool} (h1 : op = .eql → ∀ w, s.run P w = .ok (.value (.bool b)) w) (h2 : op = .neq → ∀ w, s.run P w = .ok (.value (.bool (!b))) w) :
    Good P s (eqlAct op b) := by
  cases op <;> simp only [eqlAct] <;> first
    | exact Good.no
    | exact Good.val (h1 rfl)
    | exact Good.val (h2 rfl)
theorem run_equalIn_ptr {P : Program} {t : TypeId} (h : isPtrT P t = true) (d : Nat) (p : Option Addr) (w : World) : (Op.equalIn (d + 1) t (.pointer p) (.pointer none)).run P w = .ok p.isNone w := by
  unfold isPtrT at h
  split at h
  · rename_i e he
    cases p <;> simp [Op.equalIn, run_underlying he]
  · simp at h
theorem run_equal_ptr {P : Program} {t : TypeId} (h : isPtrT P t = true) (p : Option Addr) (w : World) : (Op.equal t (.pointer p) (.pointer none)).run P w = .ok p.isNone w := run_equalIn_ptr h 9999 p w
theorem run_equalIn_slice {P : Program} {t : TypeId} (h : isSliceT P t = true) (d : Nat) (a : Option Addr) (n c n' c' : Nat) (w : World) : (Op.equalIn (d + 1) t (.slice a n c) (.slice none n' c')).run P w = .ok a.isNone w := by
  unfold isSliceT at h
  split at h
  · rename_i e he
    cases a <;> simp [Op.equalIn, run_underlying he]
  · simp at h
theorem run_equal_slice {P : Program} {t : TypeId} (h : isSliceT P t = true) (a : Option Addr) (n c n' c' : Nat) (w : World) : (Op.equal t (.slice a n c) (.slice none n' c')).run P w = .ok a.isNone w := run_equalIn_slice h 9999 a n c n' c' w
theorem run_equalIn_map {P : Program} {t : TypeId} (h : isMapT P t = true) (d : Nat) (r : Option Nat) (w : World) : (Op.equalIn (d + 1) t (.map r) (.map none)).run P w = .ok r.isNone w := by
  unfold isMapT at h
  split at h
  · rename_i e e' he
    cases r <;> simp [Op.equalIn, run_underlying he]
  · simp at h
theorem run_equal_map {P : Program} {t : TypeId} (h : isMapT P t = true) (r : Option Nat) (w : World) : (Op.equal t (.map r) (.map none)).run P w = .ok r.isNone w := run_equalIn_map h 9999 r w
theorem run_equalIn_bool {P : Program} {t : TypeId} (h : isBoolT P t = true) (d : Nat) (a b : Bool) (w : World) : (Op.equalIn (d + 1) t (.bool a) (.bool b)).run P w = .ok (a == b) w := by
  unfold isBoolT at h
  split at h
  · rename_i he
    simp [Op.equalIn, run_underlying he]
  · simp at h
theorem run_equal_bool {P : Program} {t : TypeId} (h : isBoolT P t = true) (a b : Bool) (w : World) : (Op.equal t (.bool a) (.bool b)).run P w = .ok (a == b) w := run_equalIn_bool h 9999 a b w
theorem run_eqGuard {P : Program} {op : BinOp} {t : TypeId} {x y : Operand} {a b : Value} (ha : ∀ v, a ≠ .agg v) (hn : a ≠ .nilIface) (w : World) : (eqGuard op t x y a b).run P w = .ok () w := by
  unfold eqGuard
  cases a <;> cases op <;> first | rfl | (simp at ha; done) | (simp at hn; done)
theorem bin_good {P : Program} {op : BinOp} {t : TypeId} {x y : Operand} {a b : Option Value} {u v : Value} (hu : ∀ z, a = some z → z = u) (hv : ∀ z, b = some z → z = v) :
    Good P (do pure (.value (← (do eqGuard op t x y u v; binOp op t u v)))) (binAct P op t a b) := by
  have key : ∀ (s : Sem Value) (A : Act1), (∀ w, (eqGuard op t x y u v).run P w = .ok () w) → Good P (do pure (.value (← binOp op t u v))) A →
      Good P (do pure (.value (← (do eqGuard op t x y u v; binOp op t u v)))) A := by
    intro s A hg hA B w0 σ w Q hs hq
    have := hA B w0 σ w Q hs hq
    simp only [Sem.run_bind, hg, Result.andThen_ok] at this ⊢
    exact this
  unfold binAct
  split
  · rename_i k a' k' b'
    obtain rfl := hu _ rfl
    obtain rfl := hv _ rfl
    refine key (pure undef) _ (run_eqGuard (by simp) (by simp)) ?_
    split
    · exact Good.chk fun hc w => by simp [binOp, Op.shift, show ¬ b' < 0 by omega]
    · exact Good.chk fun hc w => by simp [binOp, Op.shift, show ¬ b' < 0 by omega]
    · rename_i h1 h2
      split
      · rename_i hk; subst hk; exact int_good (fun e => h1 e) (fun e => h2 e)
      · exact Good.no
  · obtain rfl := hu _ rfl
    obtain rfl := hv _ rfl
    refine key (pure undef) _ (run_eqGuard (by simp) (by simp)) ?_
    split
    · rename_i hk; subst hk; exact flt_good
    · exact Good.no
  · obtain rfl := hu _ rfl
    obtain rfl := hv _ rfl
    exact key (pure undef) _ (run_eqGuard (by simp) (by simp)) str_good
  · obtain rfl := hu _ rfl
    obtain rfl := hv _ rfl
    refine key (pure undef) _ (run_eqGuard (by simp) (by simp)) ?_
    split
    · rename_i ht
      exact eql_good (fun e w => by subst e; simp [binOp, run_equal_bool ht]) (fun e w => by subst e; simp [binOp, run_equal_bool ht])
    · exact Good.no
  · obtain rfl := hu _ rfl
    obtain rfl := hv _ rfl
    refine key (pure undef) _ (run_eqGuard (by simp) (by simp)) ?_
    split
    · rename_i ht
      exact eql_good (fun e w => by subst e; simp [binOp, run_equal_ptr ht]) (fun e w => by subst e; simp [binOp, run_equal_ptr ht])
    · exact Good.no
  · obtain rfl := hu _ rfl
    obtain rfl := hv _ rfl
    refine key (pure undef) _ (run_eqGuard (by simp) (by simp)) ?_
    split
    · rename_i ht
      exact eql_good (fun e w => by subst e; simp [binOp, run_equal_slice ht]) (fun e w => by subst e; simp [binOp, run_equal_slice ht])
    · exact Good.no
  · obtain rfl := hu _ rfl
    obtain rfl := hv _ rfl
    refine key (pure undef) _ (run_eqGuard (by simp) (by simp)) ?_
    split
    · rename_i ht
      exact eql_good (fun e w => by subst e; simp [binOp, run_equal_map ht]) (fun e w => by subst e; simp [binOp, run_equal_map ht])
    · exact Good.no
  · exact Good.no

/-! ### One operand -/
def unAct (op : UnOp) (x : Option Value) : Act1 := match op, x with
  | .neg, some (.int k n) => .val (.int k (k.wrap (0 - n)))
  | .xor, some (.int k n) => .val (.int k (bitsV .xor k (if k.signed then -1 else k.max) n))
  | .not, some (.bool b) => .val (.bool (!b))
  | _, _ => .no
theorem un_good {P : Program} {op : UnOp} {a : Option Value} {u : Value} (hu : ∀ z, a = some z → z = u) : Good P (do pure (.value (← Op.unary op u))) (unAct op a) := by
  unfold unAct
  split
  · obtain rfl := hu _ rfl; exact Good.val fun w => by simp [Op.unary, Op.intArith]
  · obtain rfl := hu _ rfl; exact Good.val fun w => by simp [Op.unary, Op.intBits, bitsV]
  · obtain rfl := hu _ rfl; exact Good.val fun w => by simp [Op.unary]
  · exact Good.no

end Go.Eng

/- Aggregates, addresses, slices, conversions, lengths, function values. -/
set_option linter.unusedVariables false
set_option linter.unusedSimpArgs false
namespace Go.Eng
open Go.RowKit

/-! ### Aggregates -/
def setL : List Value → Nat → List Value → List Value
  | l, _, [] => l
  | l, i, v :: vs => setL (l.set i v) (i + 1) vs
theorem toList_writeAt : ∀ (vs : List Value) (i : Nat) (c : Array Value), (writeAt c i vs).toList = setL c.toList i vs
  | [], _, _ => rfl
  | v :: vs, i, c => by simp [writeAt, setL, toList_writeAt vs]
theorem foldl_writeAt (off : Nat) : ∀ (vs : List Value) (k : Nat) (c : Array Value), (vs.zipIdx k).foldl (fun cs (x : Value × Nat) => cs.setIfInBounds (off + x.2) x.1) c = writeAt c (off + k) vs
  | [], _, _ => rfl
  | v :: vs, k, c => by
    simp only [List.zipIdx_cons, List.foldl_cons, writeAt]
    rw [foldl_writeAt off vs (k + 1)]
    rfl
def fillL (place : Nat → Option (Nat × Nat)) : List Value → List (Nat × Value) → Option (List Value)
  | l, [] => some l
  | l, (i, v) :: rest => match place i with
    | some (off, size) => match Nat.beq v.cells.toList.length size && Nat.ble (off + size) l.length with
      | true => fillL place (setL l off v.cells.toList) rest
      | false => none
    | none => none
theorem fillL_fill (place : Nat → Option (Nat × Nat)) : ∀ (parts : List (Nat × Value)) (c : Array Value) (l : List Value), fillL place c.toList parts = some l → Instr.fill place c parts = some l.toArray
  | [], c, l, h => by simp only [fillL, Option.some.injEq] at h; subst h; simp [Instr.fill]
  | (i, v) :: rest, c, l, h => by
    simp only [fillL] at h
    split at h
    · rename_i off size hp
      split at h
      · rename_i hb
        simp only [Bool.and_eq_true] at hb
        have h1 := Nat.eq_of_beq_eq_true hb.1
        have h2 : off + size ≤ c.size := by have := Nat.le_of_ble_eq_true hb.2; simpa using this
        rw [← toList_writeAt] at h
        have ih := fillL_fill place rest _ l h
        simp only [Instr.fill, hp]
        have hsz : v.cells.size = size := by simpa using h1
        rw [if_neg (by rw [hsz]; simp; omega)]
        have hf := foldl_writeAt off v.cells.toList 0 c
        rw [← Array.foldl_toList, Array.toList_zipIdx, hf]
        exact ih
      · simp at h
    · simp at h
def placesL (P : Program) : List Field → Option (List (Nat × Nat))
  | [] => some []
  | f :: fs => match P.info? f.type, placesL P fs with
    | some i, some l => some ((f.offset, i.size) :: l)
    | _, _ => none
theorem placesL_eq {P : Program} : ∀ (fs : List Field) (l : List (Nat × Nat)), placesL P fs = some l → fs.mapM (fun f => (P.info? f.type).map fun i => (f.offset, i.size)) = some l
  | [], l, h => by simp only [placesL, Option.some.injEq] at h; subst h; simp
  | f :: fs, l, h => by
    simp only [placesL] at h
    split at h
    · rename_i i l' hi hl
      simp only [Option.some.injEq] at h
      subst h
      simp [List.mapM_cons, hi, placesL_eq fs l' hl]
    · simp at h
def builtL (P : Program) (t : TypeId) (parts : List (Nat × Value)) : Option (List Value) := match P.info? t, P.underlying t with
  | some it, some (.array _ e) => match it.zero, P.info? e with
    | some z, some ie => fillL (fun i => some (i * ie.size, ie.size)) z.cells.toList parts
    | _, _ => none
  | some it, some (.struct fields) => match it.zero, placesL P fields.toList with
    | some z, some places => fillL (fun i => places[i]?) z.cells.toList parts
    | _, _ => none
  | _, _ => none
theorem builtL_eq {P : Program} {t : TypeId} {parts : List (Nat × Value)} {l : List Value} (h : builtL P t parts = some l) : P.built t parts = some l.toArray := by
  unfold builtL at h
  unfold Program.built
  split at h
  · rename_i it d e h1 h2
    rw [h1, h2]
    split at h
    · rename_i z ie hz hie
      simp only [hz, hie]
      exact fillL_fill _ _ _ _ h
    · simp at h
  · rename_i it fields h1 h2
    rw [h1, h2]
    split at h
    · rename_i z places hz hp
      simp only [hz, placesL_eq _ _ hp]
      have := fillL_fill _ _ _ _ h
      simpa using this
    · simp at h
  · simp at h
def evs (env : Env) : List Operand → Option (List Value)
  | [] => some []
  | x :: xs => match ev env x, evs env xs with
    | some v, some vs => some (v :: vs)
    | _, _ => none
def evp (env : Env) : List (Nat × Operand) → Option (List (Nat × Value))
  | [] => some []
  | (i, x) :: xs => match ev env x, evp env xs with
    | some v, some vs => some ((i, v) :: vs)
    | _, _ => none
theorem evs_eq {env : Env} {ρ : Operand → Value} (h : ∀ x v, ev env x = some v → ρ x = v) : ∀ (xs : List Operand) (vs : List Value), evs env xs = some vs → xs.map ρ = vs
  | [], vs, e => by simp only [evs, Option.some.injEq] at e; subst e; rfl
  | x :: xs, vs, e => by
    simp only [evs] at e
    split at e
    · rename_i v us hv hus
      simp only [Option.some.injEq] at e
      subst e
      simp [h x v hv, evs_eq h xs us hus]
    · simp at e
theorem evp_eq {env : Env} {ρ : Operand → Value} (h : ∀ x v, ev env x = some v → ρ x = v) : ∀ (xs : List (Nat × Operand)) (vs : List (Nat × Value)), evp env xs = some vs → xs.map (fun p => (p.1, ρ p.2)) = vs
  | [], vs, e => by simp only [evp, Option.some.injEq] at e; subst e; rfl
  | (i, x) :: xs, vs, e => by
    simp only [evp] at e
    split at e
    · rename_i v us hv hus
      simp only [Option.some.injEq] at e
      subst e
      simp [h x v hv, evp_eq h xs us hus]
    · simp at e
def buildAct (P : Program) (t : TypeId) (parts : Option (List (Nat × Value))) : Act1 := match parts with
  | some ps => match builtL P t ps with
    | some l => .val (.agg l.toArray)
    | none => .no
  | none => .no
theorem build_good {P : Program} {t : TypeId} {ps : Option (List (Nat × Value))} {parts : Array (Nat × Value)} (hp : ∀ l, ps = some l → parts.toList = l) :
    Good P (do pure (.value (← Instr.build t parts))) (buildAct P t ps) := by
  unfold buildAct
  split
  · rename_i l
    have := hp _ rfl
    split
    · rename_i cs hcs
      refine Good.val fun w => ?_
      rw [← this] at hcs
      simp [run_build w t parts _ (builtL_eq hcs)]
    · exact Good.no
  · exact Good.no
def rep (n : Nat) (l : List Value) : List Value := (List.replicate n l).flatten
theorem toList_made (z : Array Value) (n : Nat) : ((Array.range (n * z.size)).map (z[· % z.size]!)).toList = rep n z.toList := by
  induction n with
  | zero => simp [rep]
  | succ n ih =>
    have hz : z.toList.length = z.size := by simp
    rw [Nat.succ_mul, Array.toList_map, Array.toList_range, List.range_add]
    rw [Array.toList_map, Array.toList_range] at ih
    rw [List.map_append, ih]
    unfold rep
    rw [List.replicate_succ', List.flatten_append]
    simp only [List.flatten_cons, List.flatten_nil, List.append_nil]
    congr 1
    rw [List.map_map]
    apply List.ext_getElem
    · simp
    · intro i h1 h2
      simp only [List.length_map, List.length_range] at h1
      simp [Nat.mul_add_mod_self_right, Nat.mod_eq_of_lt h1, h1, Nat.add_mod]
def buildSliceAct (P : Program) (t : TypeId) (len : Nat) (parts : Option (List (Nat × Value))) : Act1 := match P.underlying t, parts with
  | some (.slice e), some ps => match P.info? e with
    | some i => match i.zero with
      | some z => match Nat.beq z.cells.size i.size && (Nat.ble (len * i.size) 16777216 && Nat.ble 1 (len * i.size)) with
        | true => match fillL (fun k => some (k * i.size, i.size)) (rep len z.cells.toList) ps with
          | some l => .new (.cells l.toArray e) fun b => .slice (some ⟨b, 0, none⟩) len len
          | none => .no
        | false => match ps with
          | [] => match Nat.beq (len * i.size) 0 with
            | true => .new (.cells #[] e) fun b => .slice (some ⟨b, 0, none⟩) len len
            | false => .no
          | _ => .no
      | none => .no
    | none => .no
  | _, _ => .no
theorem buildSlice_good {P : Program} {t : TypeId} {len : Nat} {ps : Option (List (Nat × Value))} {parts : Array (Nat × Value)} (hp : ∀ l, ps = some l → parts.toList = l) :
    Good P (do pure (.value (← Instr.buildSlice t len parts))) (buildSliceAct P t len ps) := by
  unfold buildSliceAct
  split
  · rename_i e l ht
    have hl := hp _ rfl
    split
    · rename_i i hi
      split
      · rename_i z hz
        split
        · rename_i hc
          simp only [Bool.and_eq_true] at hc
          have h1 := Nat.eq_of_beq_eq_true hc.1
          have h2 := Nat.le_of_ble_eq_true hc.2.1
          have h3 := Nat.le_of_ble_eq_true hc.2.2
          split
          · rename_i cs hcs
            refine Good.new fun w => ?_
            have hm := toList_made z.cells len
            rw [← hm] at hcs
            have hf := fillL_fill _ _ _ _ hcs
            rw [h1] at hf
            have hl' : parts = l.toArray := by rw [← hl]
            subst hl'
            have n0 : ¬ (len * i.size = 0) := by omega
            have n1 : ¬ (16777216 < len * i.size) := by omega
            have n2 : ¬ (len = 0 ∨ i.size = 0) := by rw [← Nat.mul_eq_zero]; exact n0
            simp [Instr.buildSlice, run_underlying ht, sizeOf, run_typeInfo w hi, zeroValue, hz, n0, n1, n2, h1, hf, newRow]
          · exact Good.no
        · split
          · split
            · rename_i hb
              have hb := Nat.eq_of_beq_eq_true hb
              refine Good.new fun w => ?_
              have hl' : parts = #[] := by rw [← Array.toArray_toList (xs := parts), hl]
              subst hl'
              simp [Instr.buildSlice, run_underlying ht, sizeOf, run_typeInfo w hi, hb, newRow, Instr.fill, show Array.range 0 = #[] from rfl]
            · exact Good.no
          · exact Good.no
      · exact Good.no
    · exact Good.no
  · exact Good.no
def fieldAct (P : Program) (t : TypeId) (x : Option Value) (f : Nat) : Act1 := match x, P.underlying t with
  | some (.agg arr), some (.struct fs) => match fs[f]? with
    | some fl => match P.underlying fl.type with
      | some _ => match isAggT P fl.type with
        | true => .val (.agg ((arr.toList.drop fl.offset).take (P.cellsOf fl.type)).toArray)
        | false => match arr.toList[fl.offset]? with
          | some v => .val v
          | none => .no
      | none => .no
    | none => .no
  | _, _ => .no
theorem field_good {P : Program} {t : TypeId} {x : Option Value} {f : Nat} {u : Value} (hu : ∀ z, x = some z → z = u) :
    Good P (do pure (.value (← Instr.field t u f))) (fieldAct P t x f) := by
  unfold fieldAct
  split
  · rename_i arr fs ht
    obtain rfl := hu _ rfl
    split
    · rename_i fl hf
      split
      · rename_i d hd
        split
        · rename_i hagg
          refine Good.val fun w => ?_
          simp [Instr.field, run_underlying ht, hf, asAgg, part, run_isAgg hd, hagg, run_sizeOf' hd]
          apply Array.ext'
          simp [Array.toList_extract, List.extract_eq_take_drop]
        · rename_i hagg
          split
          · rename_i v hv
            refine Good.val fun w => ?_
            have hv' : arr[fl.offset]? = some v := by simpa using hv
            simp [Instr.field, run_underlying ht, hf, asAgg, part, run_isAgg hd, hagg, hv']
          · exact Good.no
      · exact Good.no
    · exact Good.no
  · exact Good.no

/-! ### Addresses -/
def fieldAddrAct (P : Program) (t : TypeId) (x : Option Value) (f : Nat) : Act1 := match x, P.underlying t with
  | some (.pointer (some a)), some (.struct fs) => match fs[f]? with
    | some fl => match P.info? fl.type with
      | some i => match Nat.beq i.size 0 with
        | false => .val (.pointer (some (a.add fl.offset)))
        | true => .no
      | none => .no
    | none => .no
  | _, _ => .no
theorem fieldAddr_good {P : Program} {t : TypeId} {x : Option Value} {f : Nat} {u : Value} (hu : ∀ z, x = some z → z = u) :
    Good P (do pure (.value (← Instr.fieldAt t u f))) (fieldAddrAct P t x f) := by
  unfold fieldAddrAct
  split
  · rename_i a fs ht
    obtain rfl := hu _ rfl
    split
    · rename_i fl hf
      split
      · rename_i i hi
        split
        · rename_i hz
          have hz' : i.size ≠ 0 := by intro h; rw [h] at hz; simp at hz
          refine Good.val fun w => ?_
          simp [Instr.fieldAt, run_underlying ht, hf, Instr.sureAddr, fieldPlace, sizeOf, run_typeInfo w hi, hz']
        · exact Good.no
      · exact Good.no
    · exact Good.no
  · exact Good.no
def indexAddrAct (P : Program) (t : TypeId) (x ix : Option Value) : Act1 := match x, ix, P.underlying t with
  | some (.slice p len _), some (.int k i), some (.slice e) => match P.info? e with
    | some inf => .nn (0 ≤ i ∧ i < len) p fun a => .pointer (some (a.add (i.toNat * inf.size)))
    | none => .no
  | some (.pointer (some a)), some (.int k i), some (.array n e) => match P.info? e with
    | some inf => .chk (0 ≤ i ∧ i < n) (.pointer (some (a.add (i.toNat * inf.size))))
    | none => .no
  | _, _, _ => .no
theorem indexAddr_good {P : Program} {t : TypeId} {x ix : Option Value} {u v : Value} (hu : ∀ z, x = some z → z = u) (hv : ∀ z, ix = some z → z = v) :
    Good P (do pure (.value (← Instr.indexAt t u v))) (indexAddrAct P t x ix) := by
  unfold indexAddrAct
  split
  · rename_i p len cap k i e ht
    obtain rfl := hu _ rfl
    obtain rfl := hv _ rfl
    split
    · rename_i inf hi
      refine Good.nn fun a ha hc w => ?_
      subst ha
      simp [Instr.indexAt, asIntOf, run_underlying ht, sizeOf, run_typeInfo w hi, hc]
    · exact Good.no
  · rename_i a k i n e ht
    obtain rfl := hu _ rfl
    obtain rfl := hv _ rfl
    split
    · rename_i inf hi
      refine Good.chk fun hc w => ?_
      simp [Instr.indexAt, asIntOf, run_underlying ht, Instr.sureAddr, sizeOf, run_typeInfo w hi, hc]
    · exact Good.no
  · exact Good.no
def byteAt (s : ByteArray) (i : Int) : Int := match s[i.toNat]? with
  | some b => b.toNat
  | none => 0
def indexAct (P : Program) (t : TypeId) (x ix : Option Value) : Act1 := match x, ix, P.underlying t with
  | some (.string s), some (.int k i), some .string => .chk (0 ≤ i ∧ i < s.size) (.int .u8 (byteAt s i))
  | _, _, _ => .no
theorem index_good {P : Program} {t : TypeId} {x ix : Option Value} {u v : Value} (hu : ∀ z, x = some z → z = u) (hv : ∀ z, ix = some z → z = v) :
    Good P (do pure (.value (← Instr.index t u v))) (indexAct P t x ix) := by
  unfold indexAct
  split
  · rename_i s k i ht
    obtain rfl := hu _ rfl
    obtain rfl := hv _ rfl
    refine Good.chk fun hc w => ?_
    have hlt : i.toNat < s.size := by omega
    have hb : s[i.toNat]? = some (s[i.toNat]'hlt) := by simp [getElem?_pos, hlt]
    simp [Instr.index, asIntOf, run_underlying ht, hc.1, byteAt, hb]
  · exact Good.no
def nilCheckAct (x : Option Value) : Act1 := match x with
  | some (.pointer p) => .nn True p fun a => .pointer (some a)
  | _ => .no
def extractAct (x : Option Value) (i : Nat) : Act1 := match x with
  | some (.tuple vs) => match vs.toList[i]? with
    | some v => .val v
    | none => .no
  | _ => .no
theorem extract_good {P : Program} {x : Option Value} {i : Nat} {u : Value} (hu : ∀ z, x = some z → z = u) : Good P (do pure (.value (← Instr.extract u i))) (extractAct x i) := by
  unfold extractAct
  split
  · obtain rfl := hu _ rfl
    split
    · rename_i v hv
      refine Good.val fun w => ?_
      have hv' := hv
      simp only [Array.getElem?_toList] at hv'
      simp [Instr.extract, hv']
    · exact Good.no
  · exact Good.no

/-! ### Slicing -/
def optInt (x : Option Operand) (env : Env) : Option (Option Int) := match x with
  | none => some none
  | some o => match ev env o with
    | some (.int _ n) => some (some n)
    | _ => none
def sliceAct (P : Program) (t : TypeId) (x : Option Value) (lo hi mx : Option (Option Int)) : Act1 := match x, P.underlying t, lo, hi, mx with
  | some (.string s), some .string, some l, some h, some none =>
    let l' := l.getD 0
    let h' := h.getD s.size
    .chk (0 ≤ l' ∧ l' ≤ h' ∧ h' ≤ s.size) (.string (s.extract l'.toNat h'.toNat))
  | some (.slice a len cap), some (.slice e), some l, some h, some m => match P.info? e with
    | some i => match (m.isSome && h.isNone) with
      | true => .no
      | false =>
        let l' := l.getD 0
        let h' := h.getD len
        let m' := m.getD cap
        .chk (0 ≤ l' ∧ l' ≤ h' ∧ h' ≤ m' ∧ m' ≤ cap) (.slice (if m'.toNat = l'.toNat then a else a.map (·.add (l'.toNat * i.size))) (h'.toNat - l'.toNat) (m'.toNat - l'.toNat))
    | none => .no
  | _, _, _, _, _ => .no
theorem run_sliceAt_any {P : Program} {t : TypeId} {x : Value} {lo hi mx : Option Value} (h : ∀ n e, P.underlying t ≠ some (.array n e)) {d : TypeDesc} (hd : P.underlying t = some d) (w : World) :
    (Instr.sliceAt t x lo hi mx).run P w = (Instr.slice t x lo hi mx).run P w := by
  unfold Instr.sliceAt
  simp only [Sem.run_bind, run_underlying hd, Result.andThen_ok]
  cases d <;> first | rfl | (exact absurd hd (h _ _))
theorem optInt_eq {o : Option Operand} {env : Env} {ρ : Operand → Value} (h : ∀ x v, ev env x = some v → ρ x = v) {l : Option Int} (e : optInt o env = some l) :
    (l = none ∧ o.map ρ = none) ∨ ∃ k n, l = some n ∧ o.map ρ = some (.int k n) := by
  unfold optInt at e
  split at e
  · simp only [Option.some.injEq] at e; subst e; exact .inl ⟨rfl, rfl⟩
  · split at e
    · rename_i k n hk
      simp only [Option.some.injEq] at e; subst e
      exact .inr ⟨k, n, rfl, by simp [h _ _ hk]⟩
    · simp at e
theorem slice_good {P : Program} {t : TypeId} {x : Option Value} {lo hi mx : Option Operand} {env : Env} {ρ : Operand → Value} (h : ∀ x v, ev env x = some v → ρ x = v) {u : Value} (hu : ∀ z, x = some z → z = u) :
    Good P (do pure (.value (← Instr.sliceAt t u (lo.map ρ) (hi.map ρ) (mx.map ρ)))) (sliceAct P t x (optInt lo env) (optInt hi env) (optInt mx env)) := by
  unfold sliceAct
  split
  · rename_i s l hh ht hl hhi hmx
    obtain rfl := hu _ rfl
    refine Good.chk fun hc w => ?_
    rw [Sem.run_bind, run_sliceAt_any (by simp [ht]) ht]
    have hl2 := optInt_eq h hl
    have hh2 := optInt_eq h hhi
    have hm2 := optInt_eq h hmx
    rcases hm2 with ⟨_, em⟩ | ⟨k, n, e, _⟩
    · rcases hl2 with ⟨rfl, el⟩ | ⟨k, n, rfl, el⟩ <;> rcases hh2 with ⟨rfl, eh⟩ | ⟨k', n', rfl, eh⟩ <;>
        simp only [Option.getD_some, Option.getD_none] at hc <;> obtain ⟨c1, c2, c3⟩ := hc <;>
        simp (disch := omega) [em, el, eh, Instr.slice, run_underlying ht, Instr.sliceBounds, run_sliceBound]
    · simp at e
  · rename_i a len cap e l hh m ht hl hhi hmx
    obtain rfl := hu _ rfl
    split
    · rename_i i hi'
      split
      · exact Good.no
      · rename_i hb
        refine Good.chk fun hc w => ?_
        rw [Sem.run_bind, run_sliceAt_any (by simp [ht]) ht]
        have hl2 := optInt_eq h hl
        have hh2 := optInt_eq h hhi
        have hm2 := optInt_eq h hmx
        rcases hm2 with ⟨rfl, em⟩ | ⟨k2, n2, rfl, em⟩ <;> rcases hl2 with ⟨rfl, el⟩ | ⟨k, n, rfl, el⟩ <;> rcases hh2 with ⟨rfl, eh⟩ | ⟨k', n', rfl, eh⟩ <;>
          simp only [Option.getD_some, Option.getD_none] at hc <;> try (simp at hb; done)
        all_goals
          obtain ⟨c1, c2, c3, c4⟩ := hc
          simp (disch := omega) [em, el, eh, Instr.slice, run_underlying ht, Instr.sliceBounds, run_sliceBound, sizeOf, run_typeInfo w hi']
    · exact Good.no
  · exact Good.no

end Go.Eng

/- Maps, appends, conversions to and from bytes, made slices, lengths. -/
set_option linter.unusedVariables false
set_option linter.unusedSimpArgs false
namespace Go.Eng
open Go.RowKit

def tyOfT (P : Program) (t : TypeId) : Option Ty := match cellsOfT P 9 t with
  | some cs => match isAggT P t with
    | true => some (.agg cs)
    | false => match cs with
      | [c] => some (.c c)
      | _ => none
  | none => none

/-! ### Maps -/
def keyOk (P : Program) (t : TypeId) (k : Value) : Bool := match P.underlying t, k with
  | some (.int _), .int _ _ => true
  | some .string, .string _ => true
  | some .bool, .bool _ => true
  | _, _ => false
def descOf (P : Program) (t : TypeId) : TypeDesc := (P.underlying t).getD .bool
theorem keyOk_desc {P : Program} {t : TypeId} {k : Value} (h : keyOk P t k = true) : P.underlying t = some (descOf P t) := by
  unfold keyOk at h
  unfold descOf
  cases e : P.underlying t with
  | none => simp [e] at h
  | some d => rfl
theorem run_checkKey {P : Program} {t : TypeId} {k : Value} (h : keyOk P t k = true) (empty : Bool) (n : Nat) (w : World) : (Instr.checkKey empty (n + 1) t k).run P w = .ok () w := by
  have hd := keyOk_desc h
  unfold keyOk at h
  simp only [Instr.checkKey, Sem.run_bind, run_underlying hd, Result.andThen_ok]
  rw [hd] at h
  generalize descOf P t = d at h
  cases d <;> cases k <;> simp_all
theorem run_findKey {P : Program} {t : TypeId} {k : Value} (h : keyOk P t k = true) {es : List MapEntry} {r : Option (Nat × Value)} (hf : Instr.findNow (descOf P t) k es 0 = some r) (w : World) :
    (Instr.findKey t k es).run P w = .ok r w := by
  simp [Instr.findKey, run_underlying (keyOk_desc h), hf]
theorem findNow_at {d : TypeDesc} {k : Value} : ∀ {es : List MapEntry} {j i : Nat} {v : Value}, Instr.findNow d k es j = some (some (i, v)) →
    j ≤ i ∧ ∃ e, es[i - j]? = some e ∧ Instr.sameNow d k e.key = some true ∧ e.val = v
  | [], j, i, v, h => by simp [Instr.findNow] at h
  | e :: es, j, i, v, h => by
    simp only [Instr.findNow] at h
    split at h
    · rename_i hs
      simp only [Option.some.injEq, Prod.mk.injEq] at h
      obtain ⟨rfl, rfl⟩ := h
      exact ⟨Nat.le_refl _, e, by simp, hs, rfl⟩
    · obtain ⟨hj, e', he, h2, h3⟩ := findNow_at h
      refine ⟨by omega, e', ?_, h2, h3⟩
      rw [show i - j = (i - (j + 1)) + 1 by omega]
      simpa using he
    · simp at h
theorem bytes_of_beq {a b : ByteArray} (h : (a == b) = true) : a = b := by
  obtain ⟨a⟩ := a
  obtain ⟨b⟩ := b
  have : (a == b) = true := h
  rw [eq_of_beq this]
theorem sameBits_of_sameNow {d : TypeDesc} {k u : Value} (h : Instr.sameNow d k u = some true) (n : Nat) : Instr.sameBits n u k = true := by
  unfold Instr.sameNow at h
  split at h
  · split at h <;> simp at h
    subst h; rename_i hk; subst hk; cases n <;> simp [Instr.sameBits]
  · rename_i a b
    simp only [Option.some.injEq] at h
    have h' : a = b := bytes_of_beq h
    subst h'; cases n <;> simp [Instr.sameBits, h]
  · simp at h; subst h; cases n <;> simp [Instr.sameBits]
  · simp at h
def lookR (d : TypeDesc) (k : Value) (r : Option Nat) (ty : Ty) (z : ty.T) : Rd (ty.T × Bool) where
  get σ := match r with
    | none => some (z, false)
    | some b => match σ b with
      | some (_, .map es _) => match Instr.findNow d k es.toList 0 with
        | some (some (_, v)) => match ty.of v with
          | some t => some (t, true)
          | none => none
        | some none => some (z, false)
        | none => none
      | _ => none
  mono σ τ x h e := by
    cases r with
    | none => exact e
    | some b =>
      simp only at e ⊢
      cases hs : σ b with
      | none => simp [hs] at e
      | some y => rw [hs] at e; rw [h _ _ hs]; exact e
def lookupAct (P : Program) (t : TypeId) (x k : Option Value) (ok : Bool) : Act1 := match x, k, P.underlying t with
  | some (.map r), some kv, some (.map kt et) => match keyOk P kt kv, tyOfT P et, P.info? et with
    | true, some ty, some inf => match inf.zero with
      | some z => match ty.of z with
        | some zt => match ok with
          | true => .rd (lookR (descOf P kt) kv r ty zt) fun p => .tuple #[ty.val p.1, .bool p.2]
          | false => .rd (lookR (descOf P kt) kv r ty zt) fun p => ty.val p.1
        | none => .no
      | none => .no
    | _, _, _ => .no
  | _, _, _ => .no
theorem lookup_run {P : Program} {t kt et : TypeId} {r : Option Nat} {kv z : Value} {ty : Ty} {zt : ty.T} {inf : TypeInfo} (ht : P.underlying t = some (.map kt et)) (hk : keyOk P kt kv = true)
    (hi : P.info? et = some inf) (hz : inf.zero = some z) (hzt : ty.of z = some zt) (ok : Bool) {B : Nat} {w0 : World} {σ : Hp} {w : World} {p : ty.T × Bool} (hs : Sees B w0 σ w)
    (e : (lookR (descOf P kt) kv r ty zt).get σ = some p) : (Instr.lookup t (.map r) kv ok).run P w = .ok (if ok then .tuple #[ty.val p.1, .bool p.2] else ty.val p.1) w := by
  have hzv : ty.val zt = z := Ty.of_val hzt
  simp only [lookR] at e
  cases r with
  | none =>
    simp only [Option.some.injEq] at e
    subst e
    have hf : (Instr.findKey kt kv []).run P w = .ok none w := run_findKey hk (by simp [Instr.findNow]) w
    simp [Instr.lookup, run_underlying ht, run_checkKey hk, hf, zeroValue, run_typeInfo w hi, hz, hzv]
  | some b =>
    simp only at e
    cases hb : σ b with
    | none => simp [hb] at e
    | some y =>
      obtain ⟨rw, o⟩ := y
      rw [hb] at e
      cases o <;> simp only at e <;> try (simp at e; done)
      rename_i es clock
      have hg : (getObj b).run P w = .ok (.map es clock) w := by simp [getObj, Sem.run, hs.obj _ _ _ hb]
      cases hfn : Instr.findNow (descOf P kt) kv es.toList 0 with
      | none => simp [hfn] at e
      | some q =>
        have hf := run_findKey hk hfn w
        rw [hfn] at e
        cases q with
        | none =>
          simp only [Option.some.injEq] at e
          subst e
          simp [Instr.lookup, run_underlying ht, hg, run_checkKey hk, hf, zeroValue, run_typeInfo w hi, hz, hzv]
        | some iv =>
          obtain ⟨i, v⟩ := iv
          simp only at e
          cases hv : ty.of v with
          | none => simp [hv] at e
          | some tv =>
            simp only [hv, Option.some.injEq] at e
            subst e
            simp [Instr.lookup, run_underlying ht, hg, run_checkKey hk, hf, Ty.of_val hv]
theorem lookup_good {P : Program} {t : TypeId} {x k : Option Value} {ok : Bool} {u v : Value} (hu : ∀ z, x = some z → z = u) (hv : ∀ z, k = some z → z = v) :
    Good P (do pure (.value (← Instr.lookup t u v ok))) (lookupAct P t x k ok) := by
  unfold lookupAct
  split
  · rename_i r kv kt et ht
    obtain rfl := hu _ rfl
    obtain rfl := hv _ rfl
    split
    · rename_i ty inf hk hty hi
      split
      · rename_i z hz
        split
        · rename_i zt hzt
          split
          · exact Good.rd fun B w0 σ w p hs e => by simp [lookup_run ht hk hi hz hzt true hs e]
          · exact Good.rd fun B w0 σ w p hs e => by simp [lookup_run ht hk hi hz hzt false hs e]
        · exact Good.no
      · exact Good.no
    · exact Good.no
  · exact Good.no
def updMap (d : TypeDesc) (k v : Value) : Obj → Option Obj
  | .map es clock => match Instr.findNow d k es.toList 0 with
    | some (some (i, _)) => some (.map (es.modify i fun e => { e with key := k, val := v }) clock)
    | some none => some (.map (es.push { key := k, val := v, born := clock }) (clock + 1))
    | none => none
  | _ => none
def mapPutM (d : TypeDesc) (k v : Value) (r : Option Nat) : M Unit := M.nn r fun b => M.upd b (updMap d k v) (M.pure ())
def mapUpdateAct (P : Program) (t : TypeId) (m k v : Option Value) : Act1 := match m, k, v, P.underlying t with
  | some (.map r), some kv, some vv, some (.map kt et) => match keyOk P kt kv with
    | true => .gen (mapPutM (descOf P kt) kv vv r) fun _ => undef
    | false => .no
  | _, _, _, _ => .no
theorem run_setObj {P : Program} {w : World} {b : Nat} {o o' : Obj} (h : w.heap[b]? = some o) (hc : ∀ c e f, o ≠ .cells c e f) :
    (setObj b o').run P w = .ok () { w with heap := w.heap.setIfInBounds b o' } := by
  simp only [setObj, Sem.run, h]
theorem run_getMap {P : Program} {w : World} {b : Nat} {es : Array MapEntry} {clock : Nat} (h : w.heap[b]? = some (.map es clock)) : (getObj b).run P w = .ok (.map es clock) w := by
  simp [getObj, Sem.run, h]
theorem mapUpdate_good {P : Program} {t : TypeId} {m k v : Option Value} {a b c : Value} (ha : ∀ z, m = some z → z = a) (hb : ∀ z, k = some z → z = b) (hc : ∀ z, v = some z → z = c) :
    Good P (do Instr.mapUpdate t a b c; pure .skip) (mapUpdateAct P t m k v) := by
  unfold mapUpdateAct
  split
  · rename_i r kv vv kt et ht
    obtain rfl := ha _ rfl
    obtain rfl := hb _ rfl
    obtain rfl := hc _ rfl
    split
    · rename_i hk
      intro B w0 σ w Q hs hq
      obtain ⟨bl, rfl, o, o', e1, e2, hQ⟩ := hq
      cases o <;> simp only [updMap] at e2 <;> try (simp at e2; done)
      rename_i es clock
      have hob := hs.obj _ _ _ e1
      have hg := run_getMap (P := P) hob
      have hset := fun (o' : Obj) => run_setObj (P := P) (o' := o') hob (by simp)
      cases hfn : Instr.findNow (descOf P kt) kv es.toList 0 with
      | none => simp [hfn] at e2
      | some q =>
        have hf := run_findKey hk hfn w
        rw [hfn] at e2
        cases q with
        | none =>
          simp only [Option.some.injEq] at e2
          subst e2
          simp only [Instr.mapUpdate, Sem.run_bind, run_underlying ht, Result.andThen_ok, hg, run_checkKey hk, hf, hset, Leads, Sem.run_pure]
          exact ⟨_, hs.put e1 rfl rfl rfl rfl, hQ⟩
        | some iv =>
          obtain ⟨i, v⟩ := iv
          simp only [Option.some.injEq] at e2
          subst e2
          obtain ⟨_, e, he, hsn, _⟩ := findNow_at hfn
          have he' : es[i]? = some e := by simpa using he
          have hst : (Instr.keyThatStays (((es[i]?).map (·.key)).getD kv) kv).run P w = .ok kv w := by
            simp [Instr.keyThatStays, he', sameBits_of_sameNow hsn]
          simp only [Instr.mapUpdate, Sem.run_bind, run_underlying ht, Result.andThen_ok, hg, run_checkKey hk, hf, hst, hset, Leads, Sem.run_pure]
          exact ⟨_, hs.put e1 rfl rfl rfl rfl, hQ⟩
    · exact Good.no
  · exact Good.no
def delMap (d : TypeDesc) (k : Value) : Obj → Option Obj
  | .map es clock => match Instr.findNow d k es.toList 0 with
    | some (some (i, _)) => some (.map (es.eraseIdxIfInBounds i) clock)
    | some none => some (.map es clock)
    | none => none
  | _ => none
def mapDelM (d : TypeDesc) (k : Value) (r : Option Nat) : M Unit := M.nn r fun b => M.upd b (delMap d k) (M.pure ())
def mapLenR (r : Option Nat) : Rd Nat where
  get σ := match r with
    | none => some 0
    | some b => match σ b with
      | some (_, .map es _) => some es.size
      | _ => none
  mono σ τ x h e := by
    cases r with
    | none => exact e
    | some b =>
      simp only at e ⊢
      cases hs : σ b with
      | none => simp [hs] at e
      | some y => rw [hs] at e; rw [h _ _ hs]; exact e
def delAct (P : Program) (argTypes : Array TypeId) (args : Option (List Value)) : Act1 := match args, argTypes[0]? with
  | some [.map r, kv], some t => match P.underlying t with
    | some (.map kt et) => match keyOk P kt kv with
      | true => .gen (mapDelM (descOf P kt) kv r) fun _ => .tuple #[]
      | false => .no
    | _ => .no
  | _, _ => .no
theorem del_good {P : Program} {at_ : Array TypeId} {ty : TypeId} {xs : Option (List Value)} {args : Array Value} (hx : ∀ l, xs = some l → args = l.toArray) :
    Good P (do pure (.value (← Builtin.delete_ at_ ty args))) (delAct P at_ xs) := by
  unfold delAct
  split
  · rename_i r kv t hat
    obtain rfl := hx _ rfl
    split
    · rename_i kt et ht
      split
      · rename_i hk
        intro B w0 σ w Q hs hq
        obtain ⟨bl, rfl, o, o', e1, e2, hQ⟩ := hq
        cases o <;> simp only [delMap] at e2 <;> try (simp at e2; done)
        rename_i es clock
        have hob := hs.obj _ _ _ e1
        have hg := run_getMap (P := P) hob
        have hset := fun (o' : Obj) => run_setObj (P := P) (o' := o') hob (by simp)
        cases hfn : Instr.findNow (descOf P kt) kv es.toList 0 with
        | none => simp [hfn] at e2
        | some q =>
          have hf := run_findKey hk hfn w
          rw [hfn] at e2
          cases q with
          | none =>
            simp only [Option.some.injEq] at e2
            subst e2
            simp [Builtin.delete_, hat, run_underlying ht, hg, run_checkKey hk, hf, hset, Leads]
            exact ⟨_, hs.put e1 rfl rfl rfl rfl, hQ⟩
          | some iv =>
            obtain ⟨i, v⟩ := iv
            simp only [Option.some.injEq] at e2
            subst e2
            simp [Builtin.delete_, hat, run_underlying ht, hg, run_checkKey hk, hf, hset, Leads]
            exact ⟨_, hs.put e1 rfl rfl rfl rfl, hQ⟩
      · exact Good.no
    · exact Good.no
  · exact Good.no

/-! ### Lengths -/
def lenAct (P : Program) (argTypes : Array TypeId) (args : Option (List Value)) : Act1 := match args, argTypes[0]? with
  | some [x], some t => match P.underlying t, x with
    | some .string, .string s => .val (.int .i64 s.size)
    | some (.slice _), .slice _ n _ => .val (.int .i64 n)
    | some (.array n _), _ => .val (.int .i64 n)
    | some (.map _ _), .map r => .rd (mapLenR r) fun n => .int .i64 n
    | _, _ => .no
  | _, _ => .no
theorem len_good {P : Program} {at_ : Array TypeId} {ty : TypeId} {xs : Option (List Value)} {args : Array Value} (hx : ∀ l, xs = some l → args = l.toArray) :
    Good P (do pure (.value (← Builtin.len_ at_ ty args))) (lenAct P at_ xs) := by
  unfold lenAct
  split
  · rename_i x t hat
    obtain rfl := hx _ rfl
    split
    · rename_i s ht
      exact Good.val fun w => by simp [Builtin.len_, hat, run_underlying ht, goInt]
    · rename_i e a n c ht
      exact Good.val fun w => by simp [Builtin.len_, hat, run_underlying ht, goInt]
    · rename_i n e ht
      exact Good.val fun w => by simp [Builtin.len_, hat, run_underlying ht, goInt]
    · rename_i kt et r ht
      refine Good.rd fun B w0 σ w m hs e => ?_
      cases r with
      | none =>
        simp only [mapLenR, Option.some.injEq] at e
        subst e
        simp [Builtin.len_, hat, run_underlying ht, goInt]
      | some b =>
        simp only [mapLenR] at e
        cases hb : σ b with
        | none => simp [hb] at e
        | some y =>
          obtain ⟨q, o⟩ := y
          rw [hb] at e
          cases o <;> simp only at e <;> try (simp at e; done)
          rename_i es clock
          simp only [Option.some.injEq] at e
          subst e
          simp [Builtin.len_, hat, run_underlying ht, run_getMap (P := P) (hs.obj _ _ _ hb), goInt]
    · exact Good.no
  · exact Good.no
def capAct (P : Program) (argTypes : Array TypeId) (args : Option (List Value)) : Act1 := match args, argTypes[0]? with
  | some [x], some t => match P.underlying t, x with
    | some (.slice _), .slice _ _ c => .val (.int .i64 c)
    | _, _ => .no
  | _, _ => .no
theorem cap_good {P : Program} {at_ : Array TypeId} {ty : TypeId} {xs : Option (List Value)} {args : Array Value} (hx : ∀ l, xs = some l → args = l.toArray) :
    Good P (do pure (.value (← Builtin.cap_ at_ ty args))) (capAct P at_ xs) := by
  unfold capAct
  split
  · rename_i x t hat
    obtain rfl := hx _ rfl
    split
    · rename_i e a n c ht
      exact Good.val fun w => by simp [Builtin.cap_, hat, run_underlying ht, goInt]
    · exact Good.no
  · exact Good.no
def maxAct (args : Option (List Value)) : Act1 := match args with
  | some [.int k a, .int _ b] => .val (.int k (if b > a then b else a))
  | _ => .no
theorem max_good {P : Program} {at_ : Array TypeId} {ty : TypeId} {xs : Option (List Value)} {args : Array Value} (hx : ∀ l, xs = some l → args = l.toArray) :
    Good P (do pure (.value (← Builtin.max_ at_ ty args))) (maxAct xs) := by
  unfold maxAct
  split
  · obtain rfl := hx _ rfl
    exact Good.val fun w => by simp [Builtin.max_, Builtin.max2]
  · exact Good.no
def minAct (args : Option (List Value)) : Act1 := match args with
  | some [.int k a, .int _ b] => .val (.int k (if b < a then b else a))
  | _ => .no
theorem min_good {P : Program} {at_ : Array TypeId} {ty : TypeId} {xs : Option (List Value)} {args : Array Value} (hx : ∀ l, xs = some l → args = l.toArray) :
    Good P (do pure (.value (← Builtin.min_ at_ ty args))) (minAct xs) := by
  unfold minAct
  split
  · obtain rfl := hx _ rfl
    exact Good.val fun w => by simp [Builtin.min_, Builtin.min2]
  · exact Good.no

end Go.Eng

/- Appends, copies, conversions to and from bytes, made slices and maps, ranging over maps, structs compared. -/
set_option linter.unusedVariables false
set_option linter.unusedSimpArgs false
namespace Go.Eng
open Go.RowKit

/-! ### What an append or a copy takes -/
def bytesV (s : ByteArray) : List Value := s.data.toList.map fun b => .int .u8 b.toNat
def srcR (a : Option Addr) (n : Nat) : Rd (List Value) where
  get σ := match a with
    | none => some []
    | some ad => match ldVs σ ad 0 n with
      | some vs => if vs.all flat = true then some vs else none
      | none => none
  mono σ τ r h e := by
    cases a with
    | none => exact e
    | some ad =>
      simp only at e ⊢
      split at e
      · rename_i vs hv; rw [ldVs_le h _ _ _ _ hv]; exact e
      · simp at e
theorem srcR_some {ad : Addr} {n : Nat} {σ : Hp} {vs : List Value} (e : (srcR (some ad) n).get σ = some vs) : ldVs σ ad 0 n = some vs ∧ vs.all flat = true := by
  simp only [srcR] at e
  split at e
  · rename_i us hv
    split at e
    · rename_i hf; simp only [Option.some.injEq] at e; subst e; exact ⟨hv, hf⟩
    · simp at e
  · simp at e
theorem srcR_flat {a : Option Addr} {n : Nat} {σ : Hp} {vs : List Value} (e : (srcR a n).get σ = some vs) : vs.all flat = true := by
  cases a with
  | none => simp only [srcR, Option.some.injEq] at e; subst e; rfl
  | some ad => exact (srcR_some e).2
def constR {R : Type} (r : R) : Rd R := ⟨fun _ => some r, fun _ _ _ _ e => e⟩
theorem run_firstCells {P : Program} {B : Nat} {w0 : World} {σ : Hp} {w : World} (hs : Sees B w0 σ w) {a : Option Addr} {size n len cap : Nat} {vs : List Value} (e : (srcR a (n * size)).get σ = some vs) :
    (Builtin.firstCells size n (.slice a len cap)).run P w = .ok vs.toArray w := by
  cases a with
  | none =>
    simp only [srcR, Option.some.injEq] at e
    subst e
    simp [Builtin.firstCells]
  | some ad =>
    obtain ⟨hl, hc⟩ := ldVs_at (srcR_some e).1
    have hrun := run_loadCells_list (P := P) w ad vs (fun j u hu => hs.cell (by have := hc j u hu; simpa using this))
    rw [hl] at hrun
    simp [Builtin.firstCells, hrun]
/-- What is appended: the cells, how many elements. -/
inductive Src where
  | sl (a : Option Addr) (n : Nat)
  | st (s : ByteArray)
def Src.n : Src → Nat
  | .sl _ n => n
  | .st s => s.size
def Src.rd (size : Nat) : Src → Rd (List Value)
  | .sl a n => srcR a (n * size)
  | .st s => constR (bytesV s)
def appM (e : TypeId) (size bytes : Nat) (z : List Value) (s : Sl) (x : Src) : M Sl :=
  M.rd (x.rd size) fun new =>
    if s.len + x.n ≤ s.cap then
      match s.a, new with
      | some a, v :: vs => M.upd a.block (stObj (a.add (s.len * size)) (v :: vs)) (M.pure ⟨s.a, s.len + x.n, s.cap⟩)
      | _, _ => M.pure ⟨s.a, s.len + x.n, s.cap⟩
    else M.chk ((s.len + x.n) * bytes ≤ 140737488355328 ∧ s.len + x.n ≤ 9223372036854775807) (M.rd (srcR s.a (s.len * size)) fun old =>
      M.any (fun c => s.len + x.n ≤ c ∧ (s.len + x.n ≤ 9223372036854775807 → c ≤ 9223372036854775807)) ⟨s.len + x.n, Nat.le_refl _, id⟩ fun c =>
        M.new (.cells (old ++ new ++ rep (c - (s.len + x.n)) z).toArray e) fun b => M.pure ⟨some ⟨b, 0, none⟩, s.len + x.n, c⟩)
def srcOf (v : Value) : Option Src := match v with
  | .slice a n _ => some (.sl a n)
  | .string s => some (.st s)
  | _ => none
def isIntT (P : Program) (t : TypeId) : Bool := match P.underlying t with
  | some (.int _) => true
  | _ => false
def appAct (P : Program) (argTypes : Array TypeId) (args : Option (List Value)) : Act1 := match args, argTypes[0]?, argTypes[1]? with
  | some [.slice a n c, x], some t, some u => match P.underlying t, P.underlying u, srcOf x with
    | some (.slice e), some _, some src => match P.info? e with
      | some i => match i.zero with
        | some z => match Nat.beq z.cells.size i.size && (!isIntT P u && z.cells.toList.all flat) with
          | true => match P.underlying u with
            | some .string => .gen (appM e i.size i.bytes z.cells.toList ⟨a, n, c⟩ src) Sl.v
            | some (.slice _) => .gen (appM e i.size i.bytes z.cells.toList ⟨a, n, c⟩ src) Sl.v
            | _ => .no
          | false => .no
        | none => .no
      | none => .no
    | _, _, _ => .no
  | _, _, _ => .no
theorem src_flat {size : Nat} {src : Src} {σ : Hp} {vs : List Value} (e : (src.rd size).get σ = some vs) : vs.all flat = true := by
  cases src with
  | sl a n => exact srcR_flat e
  | st s =>
    simp only [Src.rd, constR, Option.some.injEq] at e
    subst e
    simp only [bytesV, List.all_map, List.all_eq_true]
    intro b _
    rfl
theorem zeroCells_toList (z : Array Value) (n : Nat) : (Builtin.zeroCells z n).toList = rep n z.toList := toList_made z n
theorem run_src {P : Program} {B : Nat} {w0 : World} {σ : Hp} {w : World} (hs : Sees B w0 σ w) {x : Value} {src : Src} (hx : srcOf x = some src) {size : Nat} {vs : List Value} (e : (src.rd size).get σ = some vs) :
    (Builtin.lenOf x).run P w = .ok src.n w ∧ (Builtin.firstCells size src.n x).run P w = .ok vs.toArray w := by
  unfold srcOf at hx
  split at hx
  · rename_i a n c
    simp only [Option.some.injEq] at hx
    subst hx
    exact ⟨by simp [Builtin.lenOf, Src.n], run_firstCells hs e⟩
  · rename_i s
    simp only [Option.some.injEq] at hx
    subst hx
    simp only [Src.rd, constR, Option.some.injEq] at e
    subst e
    refine ⟨by simp [Builtin.lenOf, Src.n], ?_⟩
    have : s.extract 0 s.size = s := by
      obtain ⟨d⟩ := s
      simp only [ByteArray.extract, ByteArray.copySlice, ByteArray.size]
      congr 1
      simp
    simp only [Builtin.firstCells, Src.n, this, Sem.run_pure, bytesV]
    congr 1
    apply Array.ext'
    simp
  · simp at hx
theorem add_sub_self (n m : Nat) : n + m - (n + m) = 0 := by omega
/-- An append, wherever what is appended is one-cell values. -/
theorem app_run {P : Program} {t u e ty : TypeId} {i : TypeInfo} {z : Value} {d : TypeDesc} (ht : P.underlying t = some (.slice e)) (hu : P.underlying u = some d) (hui : d = .string ∨ ∃ e', d = .slice e')
    (hi : P.info? e = some i) (hz : i.zero = some z) (hsz : z.cells.size = i.size) {at_ : Array TypeId} (h0 : at_[0]? = some t) (h1 : at_[1]? = some u)
    {a : Option Addr} {n c : Nat} {x : Value} {src : Src} (hx : srcOf x = some src) :
    Good P (do pure (.value (← Builtin.append_ at_ ty #[.slice a n c, x]))) (.gen (appM e i.size i.bytes z.cells.toList ⟨a, n, c⟩ src) Sl.v) := by
  intro B w0 σ w Q hs hq
  obtain ⟨new, enew, hq⟩ := hq
  obtain ⟨hlen, hnew⟩ := run_src (P := P) hs hx enew
  have hfl := src_flat enew
  have hun : (underlying u).run P w = .ok d w := run_underlying hu w
  split at hq
  · rename_i hfit
    simp only at hfit
    have hrun : ∀ (w' : World), (match a with | some a => storeCells (a.add (n * i.size)) new | none => pure ()).run P w = .ok () w' →
        (Builtin.append_ at_ ty #[.slice a n c, x]).run P w = .ok (.slice a (n + src.n) c) w' := by
      intro w' hw'
      cases a with
      | none =>
        have hww : w = w' := by simpa using hw'
        subst hww
        rcases hui with rfl | ⟨e', rfl⟩ <;> simp [Builtin.append_, h0, h1, run_underlying ht, hun, sizeOf, typeInfo, hi, hlen, hfit, hnew]
      | some a' =>
        simp only at hw'
        rcases hui with rfl | ⟨e', rfl⟩ <;> simp [Builtin.append_, h0, h1, run_underlying ht, hun, sizeOf, typeInfo, hi, hlen, hfit, hnew, hw']
    cases a with
    | none =>
      simp only [Sem.run_bind, hrun w rfl, Result.andThen_ok, Sem.run_pure, Leads]
      exact ⟨σ, hs, hq⟩
    | some a' => cases new with
      | nil =>
        simp only [Sem.run_bind, hrun w rfl, Result.andThen_ok, Sem.run_pure, Leads]
        exact ⟨σ, hs, hq⟩
      | cons v vs =>
        obtain ⟨o, o', e1, e2, hQ⟩ := hq
        have hbl : (a'.add (n * i.size)).block = a'.block := by unfold Addr.add; split <;> rfl
        obtain ⟨w', hst, g1, g2, g3, g4⟩ := run_storeCells_obj (P := P) (a := a'.add (n * i.size)) (by rw [hbl]; exact hs.obj _ _ _ e1) e2 hfl
        rw [hbl] at g4
        simp only [Sem.run_bind, hrun w' hst, Result.andThen_ok, Sem.run_pure, Leads]
        exact ⟨_, hs.put e1 g1 g2 g3 g4, hQ⟩
  · rename_i hfit
    simp only at hfit
    obtain ⟨⟨hb1, hb2⟩, old, eold, hq⟩ := hq
    simp only at hb1 hb2
    have hold' : (Builtin.firstCells i.size n (.slice a n c)).run P w.drew = .ok old.toArray w.drew := run_firstCells (P := P) hs.drew (len := n) (cap := c) eold
    have hnew' := (run_src (P := P) hs.drew hx enew).2
    have hgr := growslice_fits (old := c) (need := n + src.n) (bytes := i.bytes) (by omega) hb1
    have hge := grownCap_ge w (n + src.n) c e
    have hle := grownCap_le_maxLen w (n + src.n) c e (by unfold maxLen; omega)
    have n1 : ¬ (9223372036854775807 < (n : Int) + (src.n : Int)) := by omega
    have n2 : ¬ (281474976710656 < Builtin.nextslicecap (n + src.n) c * i.bytes) := by omega
    have hf := hq (grownCap w (n + src.n) c e) ⟨hge, fun _ => by unfold maxLen at hle; omega⟩ w.drew.heap.size hs.drew.fresh
    have hcells : old.toArray ++ new.toArray ++ Builtin.zeroCells z.cells (grownCap w (n + src.n) c e - (n + src.n)) = (old ++ new ++ rep (grownCap w (n + src.n) c e - (n + src.n)) z.cells.toList).toArray := by
      apply Array.ext'
      simp [zeroCells_toList]
    have hrun : (Builtin.append_ at_ ty #[.slice a n c, x]).run P w = .ok (.slice (some ⟨w.drew.heap.size, 0, none⟩) (n + src.n) (grownCap w (n + src.n) c e))
        (w.drew.alloc (.cells (old ++ new ++ rep (grownCap w (n + src.n) c e - (n + src.n)) z.cells.toList).toArray e)) := by
      rw [← hcells]
      rcases hui with rfl | ⟨e', rfl⟩ <;>
        simp [Builtin.append_, h0, h1, run_underlying ht, hun, sizeOf, typeInfo, hi, hlen, hfit, n1, n2, hold', hnew', Question.forced, zeroValue, hz, newRow, grownCap, IntKind.max, IntKind.signed, IntKind.bits] <;>
        (congr 2; apply Array.ext'; simp)
    simp only [Sem.run_bind, hrun, Result.andThen_ok, Sem.run_pure, Leads]
    exact ⟨_, hs.drew.alloc _, hf⟩
theorem app_good {P : Program} {at_ : Array TypeId} {ty : TypeId} {xs : Option (List Value)} {args : Array Value} (hx : ∀ l, xs = some l → args = l.toArray) :
    Good P (do pure (.value (← Builtin.append_ at_ ty args))) (appAct P at_ xs) := by
  unfold appAct
  split
  · rename_i a n c x t u h0 h1
    obtain rfl := hx _ rfl
    split
    · rename_i e d src ht hu hsrc
      split
      · rename_i i hi
        split
        · rename_i z hz
          split
          · rename_i hc
            simp only [Bool.and_eq_true] at hc
            have hsz := Nat.eq_of_beq_eq_true hc.1
            split
            · rename_i hu'
              exact app_run ht hu' (.inl rfl) hi hz hsz h0 h1 hsrc
            · rename_i e' hu'
              exact app_run ht hu' (.inr ⟨_, rfl⟩) hi hz hsz h0 h1 hsrc
            · exact Good.no
          · exact Good.no
        · exact Good.no
      · exact Good.no
    · exact Good.no
  · exact Good.no

end Go.Eng

/- The other operations, calls, and all of them together. -/
set_option linter.unusedVariables false
set_option linter.unusedSimpArgs false
namespace Go.Eng
open Go.RowKit

/-! ### Conversions -/
def u8s : List Value → Option (List UInt8)
  | [] => some []
  | .int .u8 n :: vs => (u8s vs).map fun l => UInt8.ofNat n.toNat :: l
  | _ => none
def bytesR (a : Option Addr) (n : Nat) : Rd ByteArray where
  get σ := match a with
    | none => some .empty
    | some ad => match ldVs σ ad 0 n with
      | some vs => (u8s vs).map fun l => ⟨l.toArray⟩
      | none => none
  mono σ τ r h e := by
    cases a with
    | none => exact e
    | some ad =>
      simp only at e ⊢
      split at e
      · rename_i vs hv; rw [ldVs_le h _ _ _ _ hv]; exact e
      · simp at e
theorem u8s_eq : ∀ (vs : List Value) (l : List UInt8), u8s vs = some l → ∃ ns : List Int, vs = ns.map (Value.int .u8) ∧ l = ns.map fun n => UInt8.ofNat n.toNat
  | [], l, h => by simp only [u8s, Option.some.injEq] at h; subst h; exact ⟨[], rfl, rfl⟩
  | v :: vs, l, h => by
    unfold u8s at h
    split at h
    · rename_i h'; simp at h'
    · rename_i n vs' h'
      simp only [List.cons.injEq] at h'
      obtain ⟨rfl, rfl⟩ := h'
      cases e : u8s vs with
      | none => simp [e] at h
      | some l' =>
        simp only [e, Option.map_some, Option.some.injEq] at h
        subst h
        obtain ⟨ns, h1, h2⟩ := u8s_eq vs l' e
        exact ⟨n :: ns, by simp [h1], by simp [h2]⟩
    · simp at h
theorem foldl_push : ∀ (ns : List Int) (acc : ByteArray), ns.foldl (fun r n => r.push (UInt8.ofNat n.toNat)) acc = ⟨acc.data ++ (ns.map fun n => UInt8.ofNat n.toNat).toArray⟩
  | [], acc => by simp
  | n :: ns, acc => by
    simp only [List.foldl_cons, foldl_push ns, List.map_cons]
    congr 1
    simp [ByteArray.push]
def bytesM (e : TypeId) (s : ByteArray) : M Sl :=
  M.any (fun c => s.size ≤ c ∧ (s.size ≤ 9223372036854775807 → c ≤ 9223372036854775807)) ⟨s.size, Nat.le_refl _, id⟩ fun c => M.new (.cells (bytesRow s c) e ((bytesRow s c).size, (bytesRow s c).size + 1)) fun b => M.pure ⟨some ⟨b, 0, none⟩, s.size, c⟩
def convAct (P : Program) (src dst : TypeId) (x : Option Value) : Act1 := match P.underlying src, P.underlying dst, x with
  | some _, some (.int k), some (.int _ n) => .val (.int k (k.wrap n))
  | some _, some .string, some (.string s) => .val (.string s)
  | some (.slice e), some .string, some (.slice a n c) => match P.underlying e with
    | some (.int .u8) => .rd (bytesR a n) fun s => .string s
    | _ => .no
  | some .string, some (.slice e), some (.string s) => match P.underlying e with
    | some (.int .u8) => .gen (M.chk (s.size ≤ 9223372036854775807) (bytesM e s)) Sl.v
    | _ => .no
  | _, _, _ => .no
theorem conv_good {P : Program} {src dst : TypeId} {x : Option Value} {u : Value} (hu : ∀ z, x = some z → z = u) : Good P (do pure (.value (← convert src dst u))) (convAct P src dst x) := by
  unfold convAct
  split
  · rename_i d k k' n h1 h2
    obtain rfl := hu _ rfl
    exact Good.val fun w => by simp [convert, run_underlying h1, run_underlying h2, Conv.intToInt]
  · rename_i d s h1 h2
    obtain rfl := hu _ rfl
    exact Good.val fun w => by simp [convert, run_underlying h1, run_underlying h2]
  · rename_i e a n c h1 h2
    obtain rfl := hu _ rfl
    split
    · rename_i he
      refine Good.rd fun B w0 σ w r hs er => ?_
      cases a with
      | none =>
        simp only [bytesR, Option.some.injEq] at er
        subst er
        simp [convert, run_underlying h1, run_underlying h2, run_underlying he, Conv.bytesToString]
      | some ad =>
        simp only [bytesR] at er
        split at er
        · rename_i vs hvs
          cases hb : u8s vs with
          | none => simp [hb] at er
          | some l =>
            simp only [hb, Option.map_some, Option.some.injEq] at er
            subst er
            obtain ⟨ns, rfl, rfl⟩ := u8s_eq vs l hb
            obtain ⟨hl, hc⟩ := ldVs_at hvs
            have hrun := run_loadCells_list (P := P) w ad _ (fun j u hu => hs.cell (by have := hc j u hu; simpa using this))
            rw [hl] at hrun
            have hb2 := run_bytesToString (P := P) w ad n c ns hrun
            rw [foldl_push] at hb2
            simp [convert, run_underlying h1, run_underlying h2, run_underlying he, hb2]
        · simp at er
    · exact Good.no
  · rename_i e s h1 h2
    obtain rfl := hu _ rfl
    split
    · rename_i he
      intro B w0 σ w Q hs hq
      obtain ⟨hsz, hq⟩ := hq
      have hr := run_bytes_of_string (P := P) w src dst e s h1 h2 he
      have hge := grownCap_ge w s.size 0 e
      have hle := grownCap_le_maxLen w s.size 0 e (by unfold maxLen; omega)
      have := hq (grownCap w s.size 0 e) ⟨hge, fun _ => by unfold maxLen at hle; omega⟩ w.drew.heap.size hs.drew.fresh
      simp only [Sem.run_bind, hr, Result.andThen_ok, Sem.run_pure, Leads]
      exact ⟨_, hs.drew.alloc _, this⟩
    · exact Good.no
  · exact Good.no

/-! ### Made slices, made maps -/
def makeSliceAct (P : Program) (t : TypeId) (l c : Option Value) : Act1 := match P.underlying t, l, c with
  | some (.slice e), some (.int _ n), some (.int _ k) => match P.info? e with
    | some i => match i.zero with
      | some z => match Nat.beq z.cells.size i.size with
        | true => .gen (M.chk (0 ≤ n ∧ n ≤ k ∧ (i.bytes : Int) * k ≤ 281474976710656 ∧ k ≤ 9223372036854775807) (M.new (.cells (rep k.toNat z.cells.toList).toArray e) M.pure)) fun b => .slice (some ⟨b, 0, none⟩) n.toNat k.toNat
        | false => .no
      | none => .no
    | none => .no
  | _, _, _ => .no
theorem makeSlice_good {P : Program} {t : TypeId} {l c : Option Value} {u v : Value} (hu : ∀ z, l = some z → z = u) (hv : ∀ z, c = some z → z = v) :
    Good P (do pure (.value (← Instr.makeSlice t u v))) (makeSliceAct P t l c) := by
  unfold makeSliceAct
  split
  · rename_i e k1 n k2 k ht
    obtain rfl := hu _ rfl
    obtain rfl := hv _ rfl
    split
    · rename_i i hi
      split
      · rename_i z hz
        split
        · rename_i hsz
          have hsz := Nat.eq_of_beq_eq_true hsz
          intro B w0 σ w Q hs hq
          obtain ⟨⟨c1, c2, c3, c4⟩, hq⟩ := hq
          have hr := run_make (P := P) w t e i z ht hi hz k1 k2 n k c1 c2 c3 c4
          have hm : madeCells z.cells (k.toNat * i.size) = (rep k.toNat z.cells.toList).toArray := by
            apply Array.ext'
            rw [← hsz]
            exact toList_made z.cells k.toNat
          rw [hm] at hr
          simp only [Sem.run_bind, hr, Result.andThen_ok, Sem.run_pure, Leads]
          exact ⟨_, hs.alloc _, hq _ hs.fresh⟩
        · exact Good.no
      · exact Good.no
    · exact Good.no
  · exact Good.no
def makeMapAct (r : Option Operand) : Act1 := match r with
  | none => .new (.map #[] 0) fun b => .map (some b)
  | some _ => .no
theorem makeMap_good {P : Program} {t : TypeId} {r : Option Operand} {ρ : Operand → Value} : Good P (do pure (.value (← Instr.makeMap t (r.map ρ)))) (makeMapAct r) := by
  unfold makeMapAct
  split
  · exact Good.new fun w => by simp [Instr.makeMap]
  · exact Good.no

/-! ### Copying -/
def copyM (size : Nat) (d : Sl) (x : Src) : M Nat :=
  M.rd (match x with | .sl a n => srcR a (min n d.len * size) | .st s => constR ((bytesV s).take (min s.size d.len * size))) fun new =>
    match d.a, new with
    | some a, v :: vs => M.upd a.block (stObj a (v :: vs)) (M.pure (min x.n d.len))
    | _, _ => M.pure (min x.n d.len)
def copyAct (P : Program) (argTypes : Array TypeId) (args : Option (List Value)) : Act1 := match args, argTypes[0]? with
  | some [.slice a n c, .slice b m k], some t => match P.underlying t with
    | some (.slice e) => match P.info? e with
      | some i => .gen (copyM i.size ⟨a, n, c⟩ (.sl b m)) fun r => .int .i64 r
      | none => .no
    | _ => .no
  | _, _ => .no
theorem copy_good {P : Program} {at_ : Array TypeId} {ty : TypeId} {xs : Option (List Value)} {args : Array Value} (hx : ∀ l, xs = some l → args = l.toArray) :
    Good P (do pure (.value (← Builtin.copy_ at_ ty args))) (copyAct P at_ xs) := by
  unfold copyAct
  split
  · rename_i a n c b m k t hat
    obtain rfl := hx _ rfl
    split
    · rename_i e ht
      split
      · rename_i i hi
        intro B w0 σ w Q hs hq
        obtain ⟨new, enew, hq⟩ := hq
        simp only at enew
        have hfl := srcR_flat enew
        have hfc : (Builtin.firstCells i.size (Nat.min m n) (.slice b m k)).run P w = .ok new.toArray w := run_firstCells (P := P) hs enew
        have hrun : ∀ w', (match a with | some a => storeCells a new | none => pure ()).run P w = .ok () w' →
            (Builtin.copy_ at_ ty #[.slice a n c, .slice b m k]).run P w = .ok (.int .i64 ((min m n : Nat) : Int)) w' := by
          intro w' hw'
          cases a with
          | none =>
            have hww : w = w' := by simpa using hw'
            subst hww
            simp [Builtin.copy_, hat, run_underlying ht, sizeOf, typeInfo, hi, Builtin.lenOf, hfc, goInt]
          | some a' =>
            simp only at hw'
            simp [Builtin.copy_, hat, run_underlying ht, sizeOf, typeInfo, hi, Builtin.lenOf, hfc, hw', goInt]
        cases a with
        | none =>
          simp only [Sem.run_bind, hrun w rfl, Result.andThen_ok, Sem.run_pure, Leads]
          exact ⟨σ, hs, hq⟩
        | some a' => cases new with
          | nil =>
            simp only [Sem.run_bind, hrun w rfl, Result.andThen_ok, Sem.run_pure, Leads]
            exact ⟨σ, hs, hq⟩
          | cons v vs =>
            obtain ⟨o, o', e1, e2, hQ⟩ := hq
            obtain ⟨w', hst, g1, g2, g3, g4⟩ := run_storeCells_obj (P := P) (hs.obj _ _ _ e1) e2 hfl
            simp only [Sem.run_bind, hrun w' hst, Result.andThen_ok, Sem.run_pure, Leads]
            exact ⟨_, hs.put e1 g1 g2 g3 g4, hQ⟩
      · exact Good.no
    · exact Good.no
  · exact Good.no

/-! ### Ranging over a map -/
structure ItSt where
  m : Nat
  since : Nat
  seen : Array Nat
  last : Nat
  es : Array MapEntry
  clock : Nat
def itR (b : Nat) : Rd (Option ItSt) where
  get σ := match σ b with
    | some (_, .mapIter none _ _ _) => some none
    | some (_, .mapIter (some m) since seen last) => match σ m with
      | some (_, .map es clock) => some (some ⟨m, since, seen, last, es, clock⟩)
      | _ => none
    | _ => none
  mono σ τ x h e := by
    cases hs : σ b with
    | none => simp [hs] at e
    | some y =>
      rw [hs] at e
      rw [h _ _ hs]
      obtain ⟨q, o⟩ := y
      cases o <;> simp only at e ⊢ <;> try (simp at e; done)
      rename_i m since seen last
      cases m with
      | none => exact e
      | some m =>
        simp only at e ⊢
        cases hm : σ m with
        | none => simp [hm] at e
        | some z => rw [hm] at e; rw [h _ _ hm]; exact e
def cands (st : ItSt) : Array (Option MapEntry) :=
  let left := st.es.filter fun e => !st.seen.contains e.born
  let old := left.filter (·.born < st.since)
  let new := left.filter (·.born ≥ st.since)
  (if old.isEmpty then #[none] else #[]) ++ (old ++ new).map some
theorem cands_pos (old new : Array MapEntry) : 0 < ((if old.isEmpty then #[none] else #[]) ++ (old ++ new).map some : Array (Option MapEntry)).size := by
  by_cases h : old.isEmpty = true
  · simp only [h, if_true, Array.size_append, List.size_toArray, List.length_cons]; omega
  · simp only [h, Array.size_append, Array.size_map]
    have : old.size ≠ 0 := by simpa [Array.isEmpty] using h
    omega
theorem cands_ex (st : ItSt) : ∃ c, c ∈ cands st := by
  have h : 0 < (cands st).size := cands_pos _ _
  exact ⟨(cands st)[0], Array.getElem_mem h⟩
def nextM (b : Nat) : M (Option (Value × Value)) := M.rd (itR b) fun st => match st with
  | none => M.pure none
  | some st => M.chk (st.seen.isEmpty = true ∨ st.es.isEmpty = true ∨ (st.es.all fun e => decide (e.born ≥ st.last)) = false)
    (M.any (fun c => c ∈ cands st) (cands_ex st) fun c => match c with
      | none => M.pure none
      | some e => M.upd b (fun _ => some (.mapIter (some st.m) st.since (st.seen.push e.born) st.clock)) (M.pure (some (e.key, e.val))))
def entryR (kt et : Ty) (b : Nat) : Rd (kt.T × et.T) where
  get σ := match (itR b).get σ with
    | some (some st) => match st.clock == st.last, st.seen.back? with
      | true, some stamp => match st.es.find? (·.born == stamp) with
        | some e => match kt.of e.key, et.of e.val with
          | some k, some v => some (k, v)
          | _, _ => none
        | none => none
      | _, _ => none
    | _ => none
  mono σ τ x h e := by
    cases hs : (itR b).get σ with
    | none => simp [hs] at e
    | some y => rw [hs] at e; rw [(itR b).mono σ τ y h hs]; exact e
def rangeM (r : Option Nat) : M Nat := match r with
  | none => M.new (.mapIter none 0 #[] 0) M.pure
  | some m => M.rd ⟨fun σ => match σ m with | some (_, .map _ clock) => some clock | _ => none, fun σ τ x h e => by
      cases hs : σ m with
      | none => simp [hs] at e
      | some y => rw [hs] at e; simp only [h _ _ hs]; exact e⟩ fun clock => M.new (.mapIter (some m) clock #[] clock) M.pure
def rangeAct (P : Program) (t : TypeId) (x : Option Value) : Act1 := match P.underlying t, x with
  | some (.map _ _), some (.map r) => .gen (rangeM r) fun b => .pointer (some ⟨b, 0, none⟩)
  | _, _ => .no
theorem range_good {P : Program} {t : TypeId} {x : Option Value} {u : Value} (hu : ∀ z, x = some z → z = u) : Good P (do pure (.value (← Instr.range t u))) (rangeAct P t x) := by
  unfold rangeAct
  split
  · rename_i kt et r ht
    obtain rfl := hu _ rfl
    intro B w0 σ w Q hs hq
    cases r with
    | none =>
      have := hq w.heap.size hs.fresh
      have hr : (Instr.range t (.map none)).run P w = .ok (.pointer (some ⟨w.heap.size, 0, none⟩)) (w.alloc (.mapIter none 0 #[] 0)) := by
        simp [Instr.range, run_underlying ht]
      simp only [Sem.run_bind, hr, Result.andThen_ok, Sem.run_pure, Leads]
      exact ⟨_, hs.alloc _, this⟩
    | some m =>
      obtain ⟨clock, ec, hq⟩ := hq
      simp only at ec
      cases hm : σ m with
      | none => simp [hm] at ec
      | some y =>
        obtain ⟨q, o⟩ := y
        rw [hm] at ec
        cases o <;> simp only at ec <;> try (simp at ec; done)
        rename_i es cl
        simp only [Option.some.injEq] at ec
        subst ec
        have := hq w.heap.size hs.fresh
        have hr : (Instr.range t (.map (some m))).run P w = .ok (.pointer (some ⟨w.heap.size, 0, none⟩)) (w.alloc (.mapIter (some m) cl #[] cl)) := by
          simp [Instr.range, run_underlying ht, run_getMap (P := P) (hs.obj _ _ _ hm)]
        simp only [Sem.run_bind, hr, Result.andThen_ok, Sem.run_pure, Leads]
        exact ⟨_, hs.alloc _, this⟩
  · exact Good.no
theorem itR_get {b : Nat} {σ : Hp} {st : Option ItSt} (e : (itR b).get σ = some st) : match st with
    | none => ∃ q s1 s2 s3, σ b = some (q, .mapIter none s1 s2 s3)
    | some st => (∃ q, σ b = some (q, .mapIter (some st.m) st.since st.seen st.last)) ∧ ∃ q, σ st.m = some (q, .map st.es st.clock) := by
  simp only [itR] at e
  split at e
  · rename_i q s1 s2 s3 hb
    simp only [Option.some.injEq] at e
    subst e
    exact ⟨_, _, _, _, hb⟩
  · rename_i q m s1 s2 s3 hb
    split at e
    · rename_i q2 es cl hm
      simp only [Option.some.injEq] at e
      subst e
      exact ⟨⟨_, hb⟩, ⟨_, hm⟩⟩
    · simp at e
  · simp at e
def nextAct (x : Option Value) (isStr : Bool) : Act1 := match x, isStr with
  | some (.pointer (some ⟨b, 0, none⟩)), false => .br (nextM b) (.tuple #[.bool false]) fun p => .tuple #[.bool true, p.1, p.2]
  | _, _ => .no
theorem next_good {P : Program} {x : Option Value} {isStr : Bool} {ty : TypeId} {u : Value} (hu : ∀ z, x = some z → z = u) : Good P (do pure (.value (← Instr.next u isStr ty))) (nextAct x isStr) := by
  unfold nextAct
  split
  · rename_i b
    obtain rfl := hu _ rfl
    intro B w0 σ w Q hs hq
    obtain ⟨st, est, hq⟩ := hq
    have hget := itR_get est
    cases st with
    | none =>
      obtain ⟨q, s1, s2, s3, hb⟩ := hget
      have hr : (Instr.next (.pointer (some ⟨b, 0, none⟩)) false ty).run P w = .ok (.tuple #[.bool false]) w := by
        have hg : (getObj b).run P w = .ok (.mapIter none s1 s2 s3) w := by simp [getObj, Sem.run, hs.obj _ _ _ hb]
        simp [Instr.next, hg]
      simp only [Sem.run_bind, hr, Result.andThen_ok, Sem.run_pure, Leads]
      exact ⟨σ, hs, hq⟩
    | some st =>
      obtain ⟨⟨q, hb⟩, q2, hm⟩ := hget
      obtain ⟨hc, hq⟩ := hq
      have hg : (getObj b).run P w = .ok (.mapIter (some st.m) st.since st.seen st.last) w := by simp [getObj, Sem.run, hs.obj _ _ _ hb]
      have hgm := run_getMap (P := P) (hs.obj _ _ _ hm)
      have hcnd : (!st.seen.isEmpty && !st.es.isEmpty && st.es.all (·.born ≥ st.last)) = false := by
        rcases hc with h | h | h <;> simp [h]
      have hpos : 0 < (cands st).size := cands_pos _ _
      have key : ∀ (i : Nat) (w1 : World), i < (cands st).size → Sees B w0 σ w1 → (choose (.mapNext (cands st).size)).run P w = .ok i w1 →
          Leads P (fun v w' => ∃ σ', Sees B w0 σ' w' ∧ Q v σ') ((do pure (.value (← Instr.next (.pointer (some ⟨b, 0, none⟩)) false ty)) : Sem Next).run P w) := by
        intro i w1 hi hs1 hch
        have hmem : (cands st)[i]? = some (cands st)[i] := by simp [hi]
        have hq' := hq ((cands st)[i]) (by simp)
        have hset := fun (o' : Obj) => run_setObj (P := P) (o' := o') (hs1.obj _ _ _ hb) (by simp)
        have hcands : ∀ (A : Type) (f : Array (Option MapEntry) → A), f ((if ((st.es.filter fun e => !st.seen.contains e.born).filter (·.born < st.since)).isEmpty then #[none] else #[]) ++
            ((((st.es.filter fun e => !st.seen.contains e.born).filter (·.born < st.since)) ++ ((st.es.filter fun e => !st.seen.contains e.born).filter (·.born ≥ st.since))).map some)) = f (cands st) := fun _ _ => rfl
        cases hci : (cands st)[i] with
        | none =>
          rw [hci] at hq' hmem
          have hr : (Instr.next (.pointer (some ⟨b, 0, none⟩)) false ty).run P w = .ok (.tuple #[.bool false]) w1 := by
            simp only [Instr.next, Sem.run_bind, hg, Result.andThen_ok, hgm, hcnd, Bool.false_eq_true, if_false]
            show ((choose (.mapNext (cands st).size)).run P w).andThen _ = _
            rw [hch]
            show (Sem.run P (match (cands st)[i]? with | some (some e) => _ | some none => _ | none => _) w1) = _
            rw [hmem]
            rfl
          simp only [Sem.run_bind, hr, Result.andThen_ok, Sem.run_pure, Leads]
          exact ⟨σ, hs1, hq'⟩
        | some e =>
          rw [hci] at hq' hmem
          obtain ⟨o, o', e1, e2, hQ⟩ := hq'
          simp only [Option.some.injEq] at e2
          subst e2
          have hr : (Instr.next (.pointer (some ⟨b, 0, none⟩)) false ty).run P w = .ok (.tuple #[.bool true, e.key, e.val]) { w1 with heap := w1.heap.setIfInBounds b (.mapIter (some st.m) st.since (st.seen.push e.born) st.clock) } := by
            simp only [Instr.next, Sem.run_bind, hg, Result.andThen_ok, hgm, hcnd, Bool.false_eq_true, if_false]
            show ((choose (.mapNext (cands st).size)).run P w).andThen _ = _
            rw [hch]
            show (Sem.run P (match (cands st)[i]? with | some (some e) => _ | some none => _ | none => _) w1) = _
            rw [hmem]
            simp only [Sem.run_bind, hset, Result.andThen_ok, Sem.run_pure]
          simp only [Sem.run_bind, hr, Result.andThen_ok, Sem.run_pure, Leads]
          exact ⟨_, hs1.put e1 rfl rfl rfl rfl, hQ⟩
      by_cases hf : (Question.mapNext (cands st).size).forced = true
      · exact key 0 w hpos hs (by rw [run_choose, if_pos hf])
      · refine key _ _ ?_ hs.drew (by rw [run_choose, if_neg hf]; rfl)
        exact Nat.mod_lt _ hpos
  · exact Good.no
def entryAct (its : List (Nat × (Ty × Ty))) (o : Operand) (x : Option Value) : Act1 := match x, o with
  | some (.pointer (some ⟨b, 0, none⟩)), .tmp t => match its.lookup t with
    | some (kt, et) => .rd (entryR kt et b) fun p => .tuple #[kt.val p.1, et.val p.2]
    | none => .no
  | _, _ => .no
theorem entry_good {P : Program} {its : List (Nat × (Ty × Ty))} {o : Operand} {x : Option Value} {u : Value} (hu : ∀ z, x = some z → z = u) : Good P (do pure (.value (← Instr.entry u))) (entryAct its o x) := by
  unfold entryAct
  split
  · rename_i b t
    obtain rfl := hu _ rfl
    split
    · rename_i kt et hl
      refine Good.rd fun B w0 σ w p hs e => ?_
      simp only [entryR] at e
      split at e
      · rename_i st hst
        obtain ⟨⟨q, hb⟩, q2, hm⟩ := itR_get hst
        split at e
        · rename_i stamp hcl hbk
          split at e
          · rename_i en hen
            split at e
            · rename_i k v hk hv
              simp only [Option.some.injEq] at e
              subst e
              have hg : (getObj b).run P w = .ok (.mapIter (some st.m) st.since st.seen st.last) w := by simp [getObj, Sem.run, hs.obj _ _ _ hb]
              have hgm := run_getMap (P := P) (hs.obj _ _ _ hm)
              have hcl' : st.clock = st.last := by simpa using hcl
              simp [Instr.entry, hg, hbk, hgm, hcl', hen, Ty.of_val hk, Ty.of_val hv]
            · simp at e
          · simp at e
        · simp at e
      · simp at e
    · exact Good.no
  · exact Good.no

end Go.Eng

/- Calls by rows, structs compared, all operations together. -/
set_option linter.unusedVariables false
set_option linter.unusedSimpArgs false
namespace Go.Eng
open Go.RowKit

/-- A function that may be called: its number, the kinds of its arguments and results, what it does. -/
structure Row where
  f : FuncId
  A : List Ty
  R : List Ty
  F : Ts A → M (Ts R)
/-- What a function's code is walked with. -/
structure Cx where
  P : Program
  rows : List Row
  eqs : List (TypeId × List Ce)
  its : List (Nat × (Ty × Ty))
def findRow : List Row → FuncId → Option Row
  | [], _ => none
  | r :: rs, f => match Nat.beq r.f f with
    | true => some r
    | false => findRow rs f
theorem findRow_mem : ∀ {rs : List Row} {f : FuncId} {r : Row}, findRow rs f = some r → r ∈ rs ∧ r.f = f
  | [], f, r, h => by simp [findRow] at h
  | q :: rs, f, r, h => by
    simp only [findRow] at h
    split at h
    · rename_i hb
      simp only [Option.some.injEq] at h
      subst h
      exact ⟨by simp, Nat.eq_of_beq_eq_true hb⟩
    · obtain ⟨h1, h2⟩ := findRow_mem h
      exact ⟨by simp [h1], h2⟩
def RowOk (P : Program) (r : Row) : Prop := ∀ (x : Ts r.A) (B : Nat) (w0 : World) (σ : Hp) (w : World) (Q : Ts r.R → Hp → Prop), Sees B w0 σ w → (r.F x).run Q σ →
  Leads P (fun v w' => ∃ t σ', v = resv r.R t ∧ Sees B w0 σ' w' ∧ Q t σ') ((callFunc r.f (tsv r.A x).toArray).run P w)

/-! ### Structs compared -/
def ceEq : (c : Ce) → c.T → c.T → Option Bool
  | .int _, a, b => some (a == b)
  | .bool, a, b => some (a == b)
  | .str, a, b => some (a.toList == b.toList)
  | .flt k, a, b => some (Op.floatEq k a b)
  | _, _, _ => none
def csEq : (l : List Ce) → Cs l → Cs l → Option Bool
  | [], _, _ => some true
  | [c], a, b => ceEq c a b
  | c :: d :: l, a, b => match ceEq c a.1 b.1, csEq (d :: l) a.2 b.2 with
    | some x, some y => some (x && y)
    | _, _ => none
/-- The struct type's '==' is cell by cell. -/
def EqOk (P : Program) (t : TypeId) (l : List Ce) : Prop := P.eqGuardType P.depth t = false ∧ ∀ (a b : Cs l) (r : Bool) (w : World), csEq l a b = some r →
  (Op.equal t (.agg (csv l a).toArray) (.agg (csv l b).toArray)).run P w = .ok r w
def eqsAct (eqs : List (TypeId × List Ce)) (op : BinOp) (t : TypeId) (x y : Option Value) : Act1 := match x, y, eqs.lookup t with
  | some x, some y, some l => match aggOf l x, aggOf l y with
    | some a, some b => match csEq l a b with
      | some r => eqlAct op r
      | none => .no
    | _, _ => .no
  | _, _, _ => .no
theorem eqs_good {P : Program} {eqs : List (TypeId × List Ce)} (he : ∀ p ∈ eqs, EqOk P p.1 p.2) {op : BinOp} {t : TypeId} {x y : Operand} {a b : Option Value} {u v : Value} (hu : ∀ z, a = some z → z = u) (hv : ∀ z, b = some z → z = v) :
    Good P (do pure (.value (← (do eqGuard op t x y u v; binOp op t u v)))) (eqsAct eqs op t a b) := by
  unfold eqsAct
  split
  · rename_i x' y' l hl
    obtain rfl := hu _ rfl
    obtain rfl := hv _ rfl
    have hmem : (t, l) ∈ eqs := by
      clear he
      induction eqs with
      | nil => simp at hl
      | cons p ps ih =>
        obtain ⟨p1, p2⟩ := p
        simp only [List.lookup_cons] at hl
        by_cases hp : t = p1
        · subst hp; simp at hl; subst hl; simp
        · have : (t == p1) = false := by simpa using hp
          rw [this] at hl
          simp [ih hl]
    obtain ⟨hg, hq⟩ := he _ hmem
    split
    · rename_i a b ha hb
      obtain rfl := aggOf_eq ha
      obtain rfl := aggOf_eq hb
      split
      · rename_i r hr
        have he := fun w => hq a b r w hr
        refine eql_good (fun e w => ?_) (fun e w => ?_)
        · subst e
          simp only [Sem.run_bind, run_eqGuard_agg w .eql t x y _ _ hg, Result.andThen_ok]
          simp [binOp, he]
        · subst e
          simp only [Sem.run_bind, run_eqGuard_agg w .neq t x y _ _ hg, Result.andThen_ok]
          simp [binOp, he]
      · exact Good.no
    · exact Good.no
  · exact Good.no

/-! ### Calls -/
def callAct (rows : List Row) (f : FuncId) (args : List Value) : Act1 := match findRow rows f with
  | some r => match tso r.A args with
    | some x => .gen (r.F x) (resv r.R)
    | none => .no
  | none => .no
theorem call_good {P : Program} {rows : List Row} (hr : ∀ r ∈ rows, RowOk P r) {f : FuncId} {args : List Value} : Good P (callFunc f args.toArray) (callAct rows f args) := by
  unfold callAct
  split
  · rename_i r hf
    obtain ⟨hm, rfl⟩ := findRow_mem hf
    split
    · rename_i x hx
      intro B w0 σ w Q hs hq
      rw [← tso_tsv hx]
      refine Leads.mono ?_ (hr r hm x B w0 σ w _ hs hq)
      rintro v w' ⟨t, σ', rfl, h1, h2⟩
      exact ⟨σ', h1, h2⟩
    · exact Good.no
  · exact Good.no
def callValAct (rows : List Row) (fv : Option Value) (args : Option (List Value)) : Act1 := match fv, args with
  | some (.func (.func f) first captured), some as => callAct rows f (first.toList ++ as ++ captured.toList)
  | _, _ => .no

def opAct (cx : Cx) (env : Env) : Op → Act1
  | .move x => match ev env x with
    | some v => .val v
    | none => .no
  | .assign x => match ev env x with
    | some v => .val v
    | none => .no
  | .pick c a b => match ev env c, ev env a, ev env b with
    | some (.bool t), some x, some y => .val (match t with | true => x | false => y)
    | _, _, _ => .no
  | .alloc e => allocAct cx.P e
  | .box e x => boxAct e (ev env x)
  | .build t ps => buildAct cx.P t (evp env ps.toList)
  | .buildSlice t n ps => buildSliceAct cx.P t n (evp env ps.toList)
  | .load t a => loadAct cx.P t (ev env a)
  | .store t a x => storeAct cx.P t (ev env a) (ev env x)
  | .nilCheck x => nilCheckAct (ev env x)
  | .binOp op t x y _ => match ev env x with
    | some (.agg vs) => eqsAct cx.eqs op t (some (.agg vs)) (ev env y)
    | vx => binAct cx.P op t vx (ev env y)
  | .unOp op _ x => unAct op (ev env x)
  | .convert s d x => convAct cx.P s d (ev env x)
  | .makeFunc fn first captured => match evs env first.toList, evs env captured.toList with
    | some a, some b => .val (.func fn a.toArray b.toArray)
    | _, _ => .no
  | .makeMap t r => makeMapAct r
  | .makeSlice t l c => makeSliceAct cx.P t (ev env l) (ev env c)
  | .slice t x lo hi mx => sliceAct cx.P t (ev env x) (optInt lo env) (optInt hi env) (optInt mx env)
  | .fieldAddr t x f => fieldAddrAct cx.P t (ev env x) f
  | .field t x f => fieldAct cx.P t (ev env x) f
  | .indexAddr t x i => indexAddrAct cx.P t (ev env x) (ev env i)
  | .index t x i => indexAct cx.P t (ev env x) (ev env i)
  | .lookup t x k ok => lookupAct cx.P t (ev env x) (ev env k) ok
  | .mapUpdate t m k v => mapUpdateAct cx.P t (ev env m) (ev env k) (ev env v)
  | .insert t m k v => mapUpdateAct cx.P t (ev env m) (ev env k) (ev env v)
  | .range t x => rangeAct cx.P t (ev env x)
  | .next it s => nextAct (ev env it) s
  | .entry it => entryAct cx.its it (ev env it)
  | .extract t i => extractAct (ev env t) i
  | .call c => match c.callee with
    | .value f => callValAct cx.rows (ev env f) (evs env c.args.toList)
    | .builtin .len => lenAct cx.P c.argTypes (evs env c.args.toList)
    | .builtin .cap => capAct cx.P c.argTypes (evs env c.args.toList)
    | .builtin .append => appAct cx.P c.argTypes (evs env c.args.toList)
    | .builtin .copy => copyAct cx.P c.argTypes (evs env c.args.toList)
    | .builtin .delete => delAct cx.P c.argTypes (evs env c.args.toList)
    | .builtin .max => maxAct (evs env c.args.toList)
    | .builtin .min => minAct (evs env c.args.toList)
    | _ => .no
  | _ => .no

structure Cx.Ok (cx : Cx) : Prop where
  rows : ∀ r ∈ cx.rows, RowOk cx.P r
  eqs : ∀ p ∈ cx.eqs, EqOk cx.P p.1 p.2
  mixed : cx.P.follows .mixedOrders = true

theorem Good.congr {P : Program} {s s' : Sem Next} {x : Act1} (h : ∀ w, s.run P w = s'.run P w) (g : Good P s' x) : Good P s x := fun B w0 σ w Q hs hq => by
  rw [h]; exact g B w0 σ w Q hs hq

theorem opAct_good {cx : Cx} (hcx : cx.Ok) {env : Env} {ρ : Operand → Value} (hρ : ∀ x v, ev env x = some v → ρ x = v) (o : Oper) : Good cx.P (execOp ρ o) (opAct cx env o.op) := by
  have h1 : ∀ x z, ev env x = some z → z = ρ x := fun x z e => (hρ x z e).symm
  have hargs : ∀ (xs : Array Operand) (l : List Value), evs env xs.toList = some l → xs.map ρ = l.toArray := by
    intro xs l e
    apply Array.ext'
    simp [evs_eq hρ _ _ e]
  have hparts : ∀ (ps : Array (Nat × Operand)) (l : List (Nat × Value)), evp env ps.toList = some l → (ps.map fun x => (x.1, ρ x.2)).toList = l := by
    intro ps l e
    simp [evp_eq hρ _ _ e]
  unfold execOp
  cases hop : o.op with
  | move x =>
    simp only [opAct]
    split
    · rename_i v hv; exact Good.val fun w => by simp [hρ _ _ hv]
    · exact Good.no
  | assign x =>
    simp only [opAct]
    split
    · rename_i v hv; exact Good.val fun w => by simp [hρ _ _ hv]
    · exact Good.no
  | pick c a b =>
    simp only [opAct]
    split
    · rename_i t x y hc ha hb
      refine Good.val fun w => ?_
      cases t <;> simp [hρ _ _ hc, hρ _ _ ha, hρ _ _ hb, asBool]
    · exact Good.no
  | alloc e => exact alloc_good
  | box e x => exact box_good (h1 x)
  | build t ps => exact build_good (fun l e => hparts ps l e)
  | buildSlice t n ps => exact buildSlice_good (fun l e => hparts ps l e)
  | load t a => exact load_good (h1 a)
  | store t a x => exact store_good (h1 a) (h1 x)
  | nilCheck x =>
    simp only [opAct, nilCheckAct]
    cases hx : ev env x with
    | none => exact Good.no
    | some v => cases v with
      | pointer p =>
        refine Good.nn fun a ha _ w => ?_
        subst ha
        simp [hρ _ _ hx]
      | _ => exact Good.no
  | binOp op t x y yt =>
    simp only [opAct]
    split
    · rename_i vs hx
      exact eqs_good hcx.eqs (fun z e => by rw [← hx] at e; exact h1 x z e) (h1 y)
    · exact bin_good (h1 x) (h1 y)
  | unOp op t x => exact un_good (h1 x)
  | convert s d x => exact conv_good (h1 x)
  | makeFunc fn first captured =>
    simp only [opAct]
    split
    · rename_i a b ha hb
      exact Good.val fun w => by simp [Instr.makeFunc, hargs _ _ ha, hargs _ _ hb]
    · exact Good.no
  | makeMap t r => exact makeMap_good
  | makeSlice t l c => exact makeSlice_good (h1 l) (h1 c)
  | slice t x lo hi mx => exact slice_good hρ (h1 x)
  | fieldAddr t x f => exact fieldAddr_good (h1 x)
  | field t x f => exact field_good (h1 x)
  | indexAddr t x i => exact indexAddr_good (h1 x) (h1 i)
  | index t x i => exact index_good (h1 x) (h1 i)
  | lookup t x k ok => exact lookup_good (h1 x) (h1 k)
  | mapUpdate t m k v => exact mapUpdate_good (h1 m) (h1 k) (h1 v)
  | insert t m k v => exact mapUpdate_good (h1 m) (h1 k) (h1 v)
  | range t x => exact range_good (h1 x)
  | next it s => exact next_good (h1 it)
  | entry it => exact entry_good (h1 it)
  | extract t i => exact extract_good (h1 t)
  | call c =>
    simp only [opAct]
    split
    · rename_i f hf
      unfold callValAct
      split
      · rename_i g first captured as hfv has
        refine Good.congr (fun w => ?_) (call_good hcx.rows)
        have e1 := hargs _ _ has
        simp only [resolve, hf, hρ _ _ hfv, Deferred.ofValue, Sem.run_bind, Sem.run_pure, Result.andThen_ok, invoke, e1]
        congr 2
        apply Array.ext'
        simp
      · exact Good.no
    · rename_i hf
      exact Good.congr (fun w => by simp [resolve, hf, invoke, builtin]) (len_good (ty := o.type) (hargs c.args))
    · rename_i hf
      exact Good.congr (fun w => by simp [resolve, hf, invoke, builtin]) (cap_good (ty := o.type) (hargs c.args))
    · rename_i hf
      exact Good.congr (fun w => by simp [resolve, hf, invoke, builtin]) (app_good (ty := o.type) (hargs c.args))
    · rename_i hf
      exact Good.congr (fun w => by simp [resolve, hf, invoke, builtin]) (copy_good (ty := o.type) (hargs c.args))
    · rename_i hf
      exact Good.congr (fun w => by simp [resolve, hf, invoke, builtin]) (del_good (ty := o.type) (hargs c.args))
    · rename_i hf
      exact Good.congr (fun w => by simp [resolve, hf, invoke, builtin]) (max_good (at_ := c.argTypes) (ty := o.type) (hargs c.args))
    · rename_i hf
      exact Good.congr (fun w => by simp [resolve, hf, invoke, builtin]) (min_good (at_ := c.argTypes) (ty := o.type) (hargs c.args))
    · exact Good.no
  | _ => exact Good.no

end Go.Eng
