/- Calls by rows, structs compared, all operations together. -/
import Derived.Test.YtanbffihggdcaaaDoorEng8
set_option linter.unusedVariables false
set_option linter.unusedSimpArgs false
namespace Go.Eng
open Go.RowKit

/-- A function that may be called: its number, the kinds of its arguments and results, what it does. -/
structure Row where
  f : FuncId
  A : List Ty
  R : List Ty
  F : Ts A → M (Ts R)
/-- What a function's code is walked with. -/
structure Cx where
  P : Program
  rows : List Row
  eqs : List (TypeId × List Ce)
  its : List (Nat × (Ty × Ty))
def findRow : List Row → FuncId → Option Row
  | [], _ => none
  | r :: rs, f => match Nat.beq r.f f with
    | true => some r
    | false => findRow rs f
theorem findRow_mem : ∀ {rs : List Row} {f : FuncId} {r : Row}, findRow rs f = some r → r ∈ rs ∧ r.f = f
  | [], f, r, h => by simp [findRow] at h
  | q :: rs, f, r, h => by
    simp only [findRow] at h
    split at h
    · rename_i hb
      simp only [Option.some.injEq] at h
      subst h
      exact ⟨by simp, Nat.eq_of_beq_eq_true hb⟩
    · obtain ⟨h1, h2⟩ := findRow_mem h
      exact ⟨by simp [h1], h2⟩
def RowOk (P : Program) (r : Row) : Prop := ∀ (x : Ts r.A) (B : Nat) (w0 : World) (σ : Hp) (w : World) (Q : Ts r.R → Hp → Prop), Sees B w0 σ w → (r.F x).run Q σ →
  Leads P (fun v w' => ∃ t σ', v = resv r.R t ∧ Sees B w0 σ' w' ∧ Q t σ') ((callFunc r.f (tsv r.A x).toArray).run P w)

/-! ### Structs compared -/
def ceEq : (c : Ce) → c.T → c.T → Option Bool
  | .int _, a, b => some (a == b)
  | .bool, a, b => some (a == b)
  | .str, a, b => some (a.toList == b.toList)
  | .flt k, a, b => some (Op.floatEq k a b)
  | _, _, _ => none
def csEq : (l : List Ce) → Cs l → Cs l → Option Bool
  | [], _, _ => some true
  | [c], a, b => ceEq c a b
  | c :: d :: l, a, b => match ceEq c a.1 b.1, csEq (d :: l) a.2 b.2 with
    | some x, some y => some (x && y)
    | _, _ => none
/-- The struct type's '==' is cell by cell. -/
def EqOk (P : Program) (t : TypeId) (l : List Ce) : Prop := P.eqGuardType P.depth t = false ∧ ∀ (a b : Cs l) (r : Bool) (w : World), csEq l a b = some r →
  (Op.equal t (.agg (csv l a).toArray) (.agg (csv l b).toArray)).run P w = .ok r w
def eqsAct (eqs : List (TypeId × List Ce)) (op : BinOp) (t : TypeId) (x y : Option Value) : Act1 := match x, y, eqs.lookup t with
  | some x, some y, some l => match aggOf l x, aggOf l y with
    | some a, some b => match csEq l a b with
      | some r => eqlAct op r
      | none => .no
    | _, _ => .no
  | _, _, _ => .no
theorem eqs_good {P : Program} {eqs : List (TypeId × List Ce)} (he : ∀ p ∈ eqs, EqOk P p.1 p.2) {op : BinOp} {t : TypeId} {x y : Operand} {a b : Option Value} {u v : Value} (hu : ∀ z, a = some z → z = u) (hv : ∀ z, b = some z → z = v) :
    Good P (do pure (.value (← (do eqGuard op t x y u v; binOp op t u v)))) (eqsAct eqs op t a b) := by
  unfold eqsAct
  split
  · rename_i x' y' l hl
    obtain rfl := hu _ rfl
    obtain rfl := hv _ rfl
    have hmem : (t, l) ∈ eqs := by
      clear he
      induction eqs with
      | nil => simp at hl
      | cons p ps ih =>
        obtain ⟨p1, p2⟩ := p
        simp only [List.lookup_cons] at hl
        by_cases hp : t = p1
        · subst hp; simp at hl; subst hl; simp
        · have : (t == p1) = false := by simpa using hp
          rw [this] at hl
          simp [ih hl]
    obtain ⟨hg, hq⟩ := he _ hmem
    split
    · rename_i a b ha hb
      obtain rfl := aggOf_eq ha
      obtain rfl := aggOf_eq hb
      split
      · rename_i r hr
        have he := fun w => hq a b r w hr
        refine eql_good (fun e w => ?_) (fun e w => ?_)
        · subst e
          simp only [Sem.run_bind, run_eqGuard_agg w .eql t x y _ _ hg, Result.andThen_ok]
          simp [binOp, he]
        · subst e
          simp only [Sem.run_bind, run_eqGuard_agg w .neq t x y _ _ hg, Result.andThen_ok]
          simp [binOp, he]
      · exact Good.no
    · exact Good.no
  · exact Good.no

/-! ### Calls -/
def callAct (rows : List Row) (f : FuncId) (args : List Value) : Act1 := match findRow rows f with
  | some r => match tso r.A args with
    | some x => .gen (r.F x) (resv r.R)
    | none => .no
  | none => .no
theorem call_good {P : Program} {rows : List Row} (hr : ∀ r ∈ rows, RowOk P r) {f : FuncId} {args : List Value} : Good P (callFunc f args.toArray) (callAct rows f args) := by
  unfold callAct
  split
  · rename_i r hf
    obtain ⟨hm, rfl⟩ := findRow_mem hf
    split
    · rename_i x hx
      intro B w0 σ w Q hs hq
      rw [← tso_tsv hx]
      refine Leads.mono ?_ (hr r hm x B w0 σ w _ hs hq)
      rintro v w' ⟨t, σ', rfl, h1, h2⟩
      exact ⟨σ', h1, h2⟩
    · exact Good.no
  · exact Good.no
def callValAct (rows : List Row) (fv : Option Value) (args : Option (List Value)) : Act1 := match fv, args with
  | some (.func (.func f) first captured), some as => callAct rows f (first.toList ++ as ++ captured.toList)
  | _, _ => .no

def opAct (cx : Cx) (env : Env) : Op → Act1
  | .move x => match ev env x with
    | some v => .val v
    | none => .no
  | .assign x => match ev env x with
    | some v => .val v
    | none => .no
  | .pick c a b => match ev env c, ev env a, ev env b with
    | some (.bool t), some x, some y => .val (match t with | true => x | false => y)
    | _, _, _ => .no
  | .alloc e => allocAct cx.P e
  | .box e x => boxAct e (ev env x)
  | .build t ps => buildAct cx.P t (evp env ps.toList)
  | .buildSlice t n ps => buildSliceAct cx.P t n (evp env ps.toList)
  | .load t a => loadAct cx.P t (ev env a)
  | .store t a x => storeAct cx.P t (ev env a) (ev env x)
  | .nilCheck x => nilCheckAct (ev env x)
  | .binOp op t x y _ => match ev env x with
    | some (.agg vs) => eqsAct cx.eqs op t (some (.agg vs)) (ev env y)
    | vx => binAct cx.P op t vx (ev env y)
  | .unOp op _ x => unAct op (ev env x)
  | .convert s d x => convAct cx.P s d (ev env x)
  | .makeFunc fn first captured => match evs env first.toList, evs env captured.toList with
    | some a, some b => .val (.func fn a.toArray b.toArray)
    | _, _ => .no
  | .makeMap t r => makeMapAct r
  | .makeSlice t l c => makeSliceAct cx.P t (ev env l) (ev env c)
  | .slice t x lo hi mx => sliceAct cx.P t (ev env x) (optInt lo env) (optInt hi env) (optInt mx env)
  | .fieldAddr t x f => fieldAddrAct cx.P t (ev env x) f
  | .field t x f => fieldAct cx.P t (ev env x) f
  | .indexAddr t x i => indexAddrAct cx.P t (ev env x) (ev env i)
  | .index t x i => indexAct cx.P t (ev env x) (ev env i)
  | .lookup t x k ok => lookupAct cx.P t (ev env x) (ev env k) ok
  | .mapUpdate t m k v => mapUpdateAct cx.P t (ev env m) (ev env k) (ev env v)
  | .insert t m k v => mapUpdateAct cx.P t (ev env m) (ev env k) (ev env v)
  | .range t x => rangeAct cx.P t (ev env x)
  | .next it s => nextAct (ev env it) s
  | .entry it => entryAct cx.its it (ev env it)
  | .extract t i => extractAct (ev env t) i
  | .call c => match c.callee with
    | .value f => callValAct cx.rows (ev env f) (evs env c.args.toList)
    | .builtin .len => lenAct cx.P c.argTypes (evs env c.args.toList)
    | .builtin .cap => capAct cx.P c.argTypes (evs env c.args.toList)
    | .builtin .append => appAct cx.P c.argTypes (evs env c.args.toList)
    | .builtin .copy => copyAct cx.P c.argTypes (evs env c.args.toList)
    | .builtin .delete => delAct cx.P c.argTypes (evs env c.args.toList)
    | .builtin .max => maxAct (evs env c.args.toList)
    | .builtin .min => minAct (evs env c.args.toList)
    | _ => .no
  | _ => .no

structure Cx.Ok (cx : Cx) : Prop where
  rows : ∀ r ∈ cx.rows, RowOk cx.P r
  eqs : ∀ p ∈ cx.eqs, EqOk cx.P p.1 p.2
  mixed : cx.P.follows .mixedOrders = true

theorem Good.congr {P : Program} {s s' : Sem Next} {x : Act1} (h : ∀ w, s.run P w = s'.run P w) (g : Good P s' x) : Good P s x := fun B w0 σ w Q hs hq => by
  rw [h]; exact g B w0 σ w Q hs hq

theorem opAct_good {cx : Cx} (hcx : cx.Ok) {env : Env} {ρ : Operand → Value} (hρ : ∀ x v, ev env x = some v → ρ x = v) (o : Oper) : Good cx.P (execOp ρ o) (opAct cx env o.op) := by
  have h1 : ∀ x z, ev env x = some z → z = ρ x := fun x z e => (hρ x z e).symm
  have hargs : ∀ (xs : Array Operand) (l : List Value), evs env xs.toList = some l → xs.map ρ = l.toArray := by
    intro xs l e
    apply Array.ext'
    simp [evs_eq hρ _ _ e]
  have hparts : ∀ (ps : Array (Nat × Operand)) (l : List (Nat × Value)), evp env ps.toList = some l → (ps.map fun x => (x.1, ρ x.2)).toList = l := by
    intro ps l e
    simp [evp_eq hρ _ _ e]
  unfold execOp
  cases hop : o.op with
  | move x =>
    simp only [opAct]
    split
    · rename_i v hv; exact Good.val fun w => by simp [hρ _ _ hv]
    · exact Good.no
  | assign x =>
    simp only [opAct]
    split
    · rename_i v hv; exact Good.val fun w => by simp [hρ _ _ hv]
    · exact Good.no
  | pick c a b =>
    simp only [opAct]
    split
    · rename_i t x y hc ha hb
      refine Good.val fun w => ?_
      cases t <;> simp [hρ _ _ hc, hρ _ _ ha, hρ _ _ hb, asBool]
    · exact Good.no
  | alloc e => exact alloc_good
  | box e x => exact box_good (h1 x)
  | build t ps => exact build_good (fun l e => hparts ps l e)
  | buildSlice t n ps => exact buildSlice_good (fun l e => hparts ps l e)
  | load t a => exact load_good (h1 a)
  | store t a x => exact store_good (h1 a) (h1 x)
  | nilCheck x =>
    simp only [opAct, nilCheckAct]
    cases hx : ev env x with
    | none => exact Good.no
    | some v => cases v with
      | pointer p =>
        refine Good.nn fun a ha _ w => ?_
        subst ha
        simp [hρ _ _ hx]
      | _ => exact Good.no
  | binOp op t x y yt =>
    simp only [opAct]
    split
    · rename_i vs hx
      exact eqs_good hcx.eqs (fun z e => by rw [← hx] at e; exact h1 x z e) (h1 y)
    · exact bin_good (h1 x) (h1 y)
  | unOp op t x => exact un_good (h1 x)
  | convert s d x => exact conv_good (h1 x)
  | makeFunc fn first captured =>
    simp only [opAct]
    split
    · rename_i a b ha hb
      exact Good.val fun w => by simp [Instr.makeFunc, hargs _ _ ha, hargs _ _ hb]
    · exact Good.no
  | makeMap t r => exact makeMap_good
  | makeSlice t l c => exact makeSlice_good (h1 l) (h1 c)
  | slice t x lo hi mx => exact slice_good hρ (h1 x)
  | fieldAddr t x f => exact fieldAddr_good (h1 x)
  | field t x f => exact field_good (h1 x)
  | indexAddr t x i => exact indexAddr_good (h1 x) (h1 i)
  | index t x i => exact index_good (h1 x) (h1 i)
  | lookup t x k ok => exact lookup_good (h1 x) (h1 k)
  | mapUpdate t m k v => exact mapUpdate_good (h1 m) (h1 k) (h1 v)
  | insert t m k v => exact mapUpdate_good (h1 m) (h1 k) (h1 v)
  | range t x => exact range_good (h1 x)
  | next it s => exact next_good (h1 it)
  | entry it => exact entry_good (h1 it)
  | extract t i => exact extract_good (h1 t)
  | call c =>
    simp only [opAct]
    split
    · rename_i f hf
      unfold callValAct
      split
      · rename_i g first captured as hfv has
        refine Good.congr (fun w => ?_) (call_good hcx.rows)
        have e1 := hargs _ _ has
        simp only [resolve, hf, hρ _ _ hfv, Deferred.ofValue, Sem.run_bind, Sem.run_pure, Result.andThen_ok, invoke, e1]
        congr 2
        apply Array.ext'
        simp
      · exact Good.no
    · rename_i hf
      exact Good.congr (fun w => by simp [resolve, hf, invoke, builtin]) (len_good (ty := o.type) (hargs c.args))
    · rename_i hf
      exact Good.congr (fun w => by simp [resolve, hf, invoke, builtin]) (cap_good (ty := o.type) (hargs c.args))
    · rename_i hf
      exact Good.congr (fun w => by simp [resolve, hf, invoke, builtin]) (app_good (ty := o.type) (hargs c.args))
    · rename_i hf
      exact Good.congr (fun w => by simp [resolve, hf, invoke, builtin]) (copy_good (ty := o.type) (hargs c.args))
    · rename_i hf
      exact Good.congr (fun w => by simp [resolve, hf, invoke, builtin]) (del_good (ty := o.type) (hargs c.args))
    · rename_i hf
      exact Good.congr (fun w => by simp [resolve, hf, invoke, builtin]) (max_good (at_ := c.argTypes) (ty := o.type) (hargs c.args))
    · rename_i hf
      exact Good.congr (fun w => by simp [resolve, hf, invoke, builtin]) (min_good (at_ := c.argTypes) (ty := o.type) (hargs c.args))
    · exact Good.no
  | _ => exact Good.no

end Go.Eng
