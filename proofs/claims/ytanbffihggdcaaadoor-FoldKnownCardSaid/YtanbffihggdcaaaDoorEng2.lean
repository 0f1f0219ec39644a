/- Typed cells and values; what an operation does to what is known (Act1); when that is right (Good). -/
import Derived.Test.YtanbffihggdcaaaDoorEng1
set_option linter.unusedVariables false
namespace Go.Eng
open Go.RowKit

/-! ### Cells, values -/
structure Sl where
  a : Option Addr
  len : Nat
  cap : Nat
def Sl.v (s : Sl) : Value := .slice s.a s.len s.cap
def nilSl : Sl := ⟨none, 0, 0⟩

inductive Ce where
  | int (k : IntKind) | bool | str | ptr | slice | map | flt (k : FloatKind) | any

@[reducible] def Ce.T : Ce → Type
  | .int _ => Int
  | .bool => Bool
  | .str => ByteArray
  | .ptr => Option Addr
  | .slice => Sl
  | .map => Option Nat
  | .flt _ => Nat
  | .any => Value
def Ce.val : (c : Ce) → c.T → Value
  | .int k, n => .int k n
  | .bool, b => .bool b
  | .str, s => .string s
  | .ptr, p => .pointer p
  | .slice, s => .slice s.a s.len s.cap
  | .map, r => .map r
  | .flt k, n => .float k n
  | .any, v => v
def Ce.of : (c : Ce) → Value → Option c.T
  | .int k, .int k' n => if k = k' then some n else none
  | .bool, .bool b => some b
  | .str, .string s => some s
  | .ptr, .pointer p => some p
  | .slice, .slice a n c => some ⟨a, n, c⟩
  | .map, .map r => some r
  | .flt k, .float k' n => if k = k' then some n else none
  | .any, v => some v
  | _, _ => none
theorem Ce.of_val {c : Ce} {v : Value} {x : c.T} (h : c.of v = some x) : c.val x = v := by
  cases c <;> cases v <;> simp [Ce.of] at h <;> simp [Ce.val] <;> first | (obtain ⟨rfl, rfl⟩ := h; simp) | (subst h; simp) | exact h.symm | exact h
theorem Ce.val_of {c : Ce} (x : c.T) : c.of (c.val x) = some x := by
  cases c <;> simp [Ce.of, Ce.val]
/-- One cell: not an aggregate, not a tuple. -/
def flat : Value → Bool
  | .agg _ | .tuple _ => false
  | _ => true

section tuples
variable {α : Type} (f : α → Type)
@[reducible] def Tp : List α → Type
  | [] => Unit
  | [x] => f x
  | x :: y :: l => f x × Tp (y :: l)
variable {f} (val : (x : α) → f x → Value) (of : (x : α) → Value → Option (f x))
def Tp.vals : (l : List α) → Tp f l → List Value
  | [], _ => []
  | [x], t => [val x t]
  | x :: y :: l, t => val x t.1 :: Tp.vals (y :: l) t.2
def Tp.ofs : (l : List α) → List Value → Option (Tp f l)
  | [], [] => some ()
  | [x], [v] => of x v
  | x :: y :: l, v :: vs => match of x v with
    | some a => match Tp.ofs (y :: l) vs with
      | some t => some (a, t)
      | none => none
    | none => none
  | _, _ => none
theorem Tp.ofs_vals (h : ∀ x v a, of x v = some a → val x a = v) : ∀ (l : List α) (vs : List Value) (t : Tp f l), Tp.ofs of l vs = some t → Tp.vals val l t = vs
  | [], [], t, e => rfl
  | [], _ :: _, t, e => by simp [Tp.ofs] at e
  | [x], [], t, e => by simp [Tp.ofs] at e
  | [x], [v], t, e => by simp only [Tp.ofs] at e; simp [Tp.vals, h x v t e]
  | [x], _ :: _ :: _, t, e => by simp [Tp.ofs] at e
  | x :: y :: l, [], t, e => by simp [Tp.ofs] at e
  | x :: y :: l, v :: vs, t, e => by
    simp only [Tp.ofs] at e
    split at e
    · rename_i a ha
      split at e
      · rename_i u hu
        simp only [Option.some.injEq] at e
        subst e
        simp only [Tp.vals, h x v a ha]
        rw [Tp.ofs_vals h (y :: l) vs u hu]
      · simp at e
    · simp at e
theorem Tp.vals_ofs (h : ∀ x a, of x (val x a) = some a) : ∀ (l : List α) (t : Tp f l), Tp.ofs of l (Tp.vals val l t) = some t
  | [], t => rfl
  | [x], t => by simp [Tp.vals, Tp.ofs, h]
  | x :: y :: l, t => by simp only [Tp.vals, Tp.ofs, h]; rw [Tp.vals_ofs h (y :: l) t.2]
theorem Tp.vals_length : ∀ (l : List α) (t : Tp f l), (Tp.vals val l t).length = l.length
  | [], t => rfl
  | [x], t => rfl
  | x :: y :: l, t => by simp [Tp.vals, Tp.vals_length (y :: l) t.2]
end tuples

@[reducible] def Cs (l : List Ce) : Type := Tp Ce.T l
def csv (l : List Ce) (t : Cs l) : List Value := Tp.vals Ce.val l t
def cso (l : List Ce) (vs : List Value) : Option (Cs l) := Tp.ofs Ce.of l vs
theorem cso_csv {l : List Ce} {vs : List Value} {t : Cs l} (h : cso l vs = some t) : csv l t = vs := Tp.ofs_vals (f := Ce.T) Ce.val Ce.of (fun _ _ _ e => Ce.of_val e) l vs t h
theorem csv_cso {l : List Ce} (t : Cs l) : cso l (csv l t) = some t := Tp.vals_ofs (f := Ce.T) Ce.val Ce.of (fun _ a => Ce.val_of a) l t

inductive Ty where
  | c (x : Ce) | box | agg (cs : List Ce) | fn (f : FuncId) | cl (f : FuncId)
@[reducible] def Ty.T : Ty → Type
  | .c x => x.T
  | .box => Nat
  | .agg cs => Cs cs
  | .fn _ => Unit
  | .cl _ => Nat
def Ty.val : (t : Ty) → t.T → Value
  | .c x, v => x.val v
  | .box, b => .pointer (some ⟨b, 0, none⟩)
  | .agg cs, t => .agg (csv cs t).toArray
  | .fn f, _ => .func (.func f) #[] #[]
  | .cl f, b => .func (.func f) #[] #[.pointer (some ⟨b, 0, none⟩)]
def boxOf : Value → Option Nat
  | .pointer (some ⟨b, 0, none⟩) => some b
  | _ => none
theorem boxOf_eq {v : Value} {b : Nat} (h : boxOf v = some b) : v = .pointer (some ⟨b, 0, none⟩) := by
  unfold boxOf at h
  split at h <;> simp_all
def fnOf (f : FuncId) : Value → Option Unit
  | .func (.func g) ⟨[]⟩ ⟨[]⟩ => if f = g then some () else none
  | _ => none
theorem fnOf_eq {f : FuncId} {v : Value} {x : Unit} (h : fnOf f v = some x) : v = .func (.func f) #[] #[] := by
  unfold fnOf at h
  split at h <;> simp_all
def clOf (f : FuncId) : Value → Option Nat
  | .func (.func g) ⟨[]⟩ ⟨[.pointer (some ⟨b, 0, none⟩)]⟩ => if f = g then some b else none
  | _ => none
theorem clOf_eq {f : FuncId} {v : Value} {b : Nat} (h : clOf f v = some b) : v = .func (.func f) #[] #[.pointer (some ⟨b, 0, none⟩)] := by
  unfold clOf at h
  split at h <;> simp_all
def aggOf (cs : List Ce) : Value → Option (Cs cs)
  | .agg vs => cso cs vs.toList
  | _ => none
theorem aggOf_eq {cs : List Ce} {v : Value} {t : Cs cs} (h : aggOf cs v = some t) : v = .agg (csv cs t).toArray := by
  cases v <;> simp [aggOf] at h
  simp [cso_csv h]
def Ty.of : (t : Ty) → Value → Option t.T
  | .c x => x.of
  | .box => boxOf
  | .agg cs => aggOf cs
  | .fn f => fnOf f
  | .cl f => clOf f
theorem Ty.of_val {t : Ty} {v : Value} {x : t.T} (h : t.of v = some x) : t.val x = v := by
  cases t with
  | c y => exact Ce.of_val h
  | box => exact (boxOf_eq h).symm
  | agg cs => exact (aggOf_eq h).symm
  | fn f => exact (fnOf_eq h).symm
  | cl f => exact (clOf_eq h).symm
@[reducible] def Ts (l : List Ty) : Type := Tp Ty.T l
def tsv (l : List Ty) (t : Ts l) : List Value := Tp.vals Ty.val l t
def tso (l : List Ty) (vs : List Value) : Option (Ts l) := Tp.ofs Ty.of l vs
theorem tso_tsv {l : List Ty} {vs : List Value} {t : Ts l} (h : tso l vs = some t) : tsv l t = vs := Tp.ofs_vals (f := Ty.T) Ty.val Ty.of (fun _ _ _ e => Ty.of_val e) l vs t h
/-- A result: one value, or a tuple of values. -/
def resv (l : List Ty) (t : Ts l) : Value := match tsv l t with
  | [v] => v
  | vs => .tuple vs.toArray

/-! ### The frame -/
abbrev Env := Nat → Option Value
def Env.put (env : Env) (dst : Option Tmp) (v : Value) : Env := match dst with
  | some d => fun i => if i = d then some v else env i
  | none => env
def ev (env : Env) : Operand → Option Value
  | .tmp t => env t
  | .const v => some v
  | .func f => some (.func (.func f) #[] #[])
  | .global _ => none
structure EnvOk (n : Nat) (env : Env) (a : Act) : Prop where
  size : a.tmps.size = n
  at_ : ∀ i v, env i = some v → a.tmps[i]? = some v
theorem EnvOk.ev {n : Nat} {env : Env} {a : Act} (h : EnvOk n env a) {x : Operand} {v : Value} (e : Eng.ev env x = some v) : a.eval x = v := by
  cases x with
  | tmp t => simp only [Eng.ev] at e; simp [Act.eval, h.at_ t v e]
  | const u => simp only [Eng.ev, Option.some.injEq] at e; simp [Act.eval, e]
  | func f => simp only [Eng.ev, Option.some.injEq] at e; simp [Act.eval, e]
  | global g => simp [Eng.ev] at e
/-- Is a destination one of the frame's? -/
def dstOk (n : Nat) (dst : Option Tmp) : Bool := match dst with
  | some d => decide (d < n)
  | none => true
theorem EnvOk.put {n : Nat} {env : Env} {a : Act} (h : EnvOk n env a) {dst : Option Tmp} (hd : dstOk n dst = true) (v : Value) : EnvOk n (env.put dst v) (a.put dst v) := by
  cases dst with
  | none => exact h
  | some d =>
    have hd' : d < n := by simpa [dstOk] using hd
    refine ⟨by simp [Act.put, h.size], fun i u e => ?_⟩
    simp only [Env.put] at e
    simp only [Act.put]
    split at e
    · rename_i hi; subst hi; simp at e; subst e; simp [h.size, hd']
    · rename_i hi; rw [Array.getElem?_setIfInBounds_ne (by omega)]; exact h.at_ i u e

/-! ### What an operation does -/
inductive Act1 : Type 1 where
  | no
  | val (v : Value)
  | chk (c : Prop) (v : Value)
  | nn (c : Prop) (p : Option Addr) (f : Addr → Value)
  | rd {R : Type} (f : Rd R) (g : R → Value)
  | new (o : Obj) (f : Nat → Value)
  | gen {R : Type} (m : M R) (g : R → Value)
  | br {R : Type} (m : M (Option R)) (v : Value) (g : R → Value)
/-- Nothing, or something. -/
abbrev optM {R B : Type} (r : Option R) (a : M B) (f : R → M B) : M B := match r with
  | none => a
  | some x => f x
abbrev Act1.run {B : Type} (x : Act1) (k : Value → M B) : M B := match x with
  | .no => M.err
  | .val v => k v
  | .chk c v => M.chk c (k v)
  | .nn c p f => M.nn p fun a => M.chk c (k (f a))
  | .rd f g => M.rd f fun r => k (g r)
  | .new o f => M.new o fun b => k (f b)
  | .gen m g => M.bind m fun r => k (g r)
  | .br m v g => M.bind m fun r => optM r (k v) fun x => k (g x)
def Act1.m (x : Act1) : M Value := x.run M.pure
theorem Act1.run_m {B : Type} (x : Act1) (k : Value → M B) : x.run k = M.bind x.m k := by
  cases x <;> first
    | rfl
    | (simp only [Act1.run, Act1.m]; apply M.ext; funext Q σ; simp only [M.run_bind]
       congr 1; funext r σ'; cases r <;> rfl)

/-- What an operation that comes out as r leads to. -/
def Leads (P : Program) (S : Value → World → Prop) : Result Next → Prop
  | .ok (.value v) w => S v w
  | .ok .skip w => S undef w
  | .ok (.enter f args) w => Calls P f args w fun e w' => ∃ v, e = .returned v ∧ S v w'
  | _ => False
theorem Leads.mono {P : Program} {S S' : Value → World → Prop} (h : ∀ v w, S v w → S' v w) {r : Result Next} (k : Leads P S r) : Leads P S' r := by
  cases r with
  | ok n w => cases n <;> simp only [Leads] at k ⊢ <;> first | exact h _ _ k | exact Calls.mono k (fun e w' ⟨v, he, hs⟩ => ⟨v, he, h _ _ hs⟩)
  | halt x w => simp [Leads] at k
theorem Leads.upon {P : Program} {S : Value → World → Prop} {r : Result Next} (k : Leads P S r) (o : Oper) (a : Act) (next : Act → World → Prop) (Q : Exit → Act → World → Prop)
    (h : ∀ v w, S v w → next (a.put o.dst v) w) : o.upon P a next Q r := by
  cases r with
  | ok n w =>
    cases n <;> simp only [Leads] at k <;> simp only [Oper.upon] <;> first
      | exact h _ _ k
      | exact Calls.mono k (fun e w' ⟨v, he, hs⟩ => by subst he; exact h _ _ hs)
  | halt x w => simp [Leads] at k

def Good (P : Program) (s : Sem Next) (x : Act1) : Prop :=
  ∀ (B : Nat) (w0 : World) (σ : Hp) (w : World) (Q : Value → Hp → Prop), Sees B w0 σ w → x.m.run Q σ → Leads P (fun v w' => ∃ σ', Sees B w0 σ' w' ∧ Q v σ') (s.run P w)

section good
variable {P : Program} {s : Sem Next}
theorem Good.no : Good P s .no := fun _ _ _ _ _ _ h => h.elim
theorem Good.val {v : Value} (h : ∀ w, s.run P w = .ok (.value v) w) : Good P s (.val v) := fun _ _ σ w Q hs hq => by rw [h]; exact ⟨σ, hs, hq⟩
theorem Good.chk {c : Prop} {v : Value} (h : c → ∀ w, s.run P w = .ok (.value v) w) : Good P s (.chk c v) := fun _ _ σ w Q hs hq => by rw [h hq.1]; exact ⟨σ, hs, hq.2⟩
theorem Good.nn {c : Prop} {p : Option Addr} {f : Addr → Value} (h : ∀ a, p = some a → c → ∀ w, s.run P w = .ok (.value (f a)) w) : Good P s (.nn c p f) :=
  fun _ _ σ w Q hs ⟨a, e, hc, hq⟩ => by rw [h a e hc]; exact ⟨σ, hs, hq⟩
theorem Good.rd {R : Type} {f : Rd R} {g : R → Value} (h : ∀ B w0 σ w r, Sees B w0 σ w → f.get σ = some r → s.run P w = .ok (.value (g r)) w) : Good P s (.rd f g) :=
  fun B w0 σ w Q hs ⟨r, e, hq⟩ => by rw [h B w0 σ w r hs e]; exact ⟨σ, hs, hq⟩
theorem Good.new {o : Obj} {f : Nat → Value} (h : ∀ w, s.run P w = .ok (.value (f w.heap.size)) (w.alloc o)) : Good P s (.new o f) :=
  fun B w0 σ w Q hs hq => by rw [h]; exact ⟨_, hs.alloc o, hq _ hs.fresh⟩
end good

end Go.Eng
