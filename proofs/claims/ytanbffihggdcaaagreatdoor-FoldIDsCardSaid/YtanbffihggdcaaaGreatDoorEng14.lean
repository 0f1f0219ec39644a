/- Functions: what a call does, by the evaluator; rows out of contracts; the words that the printed texts use. -/
import Derived.Test.YtanbffihggdcaaaGreatDoorEng13
set_option linter.unusedVariables false
set_option linter.unusedSimpArgs false
namespace Go.Eng
open Go.RowKit

theorem loadVar_run {P : Program} {t : TypeId} {ad : Addr} {B : Nat} {w0 : World} {σ : Hp} {w : World} {v : Value} (hs : Sees B w0 σ w) (h : (loadAct P t (some (.pointer (some ad)))).qval σ v) :
    (loadVar t ad).run P w = .ok v w := by
  have hg := load_good (P := P) (t := t) (a := some (.pointer (some ad))) (v := .pointer (some ad)) (fun u e => by simpa using e.symm)
  unfold loadAct at h
  simp only at h
  split at h
  · rename_i cs hcs
    obtain ⟨d, hd⟩ := underlying_of_cells hcs
    split at h
    · rename_i hagg
      split at h
      · rename_i hlen
        have hlen := Nat.eq_of_beq_eq_true hlen
        obtain ⟨r, e, rfl⟩ := h
        obtain ⟨hl, hc⟩ := ldVs_at (ldR_get e)
        have hrun := run_loadCells_list (P := P) w ad (csv cs r) (fun j u hu => hs.cell (by have := hc j u hu; simpa using this))
        rw [hl] at hrun
        simp [loadVar, run_isAgg hd, hagg, run_sizeOf' hd, ← hlen, hrun]
      · exact h.elim
    · rename_i hagg
      split at h
      · rename_i c
        obtain ⟨r, e, rfl⟩ := h
        obtain ⟨hl, hc⟩ := ldVs_at (ldR_get e)
        have h0 := hs.cell (hc 0 (c.val r) (by simp [csv, Tp.vals]))
        simp only [Nat.add_zero, Addr.add, if_true] at h0
        simp [loadVar, run_isAgg hd, hagg, h0]
      · exact h.elim
  · exact h.elim

abbrev resM {B : Type} (P : Program) : List ResultVar → Env → (List Value → M B) → M B
  | [], _, k => k []
  | .tmp t :: rs, env, k => match env t with
    | some v => resM P rs env fun vs => k (v :: vs)
    | none => M.err
  | .cell a t :: rs, env, k => match env a with
    | some (.pointer (some ad)) => (loadAct P t (some (.pointer (some ad)))).run fun v => resM P rs env fun vs => k (v :: vs)
    | _ => M.err
theorem load_qrun {B : Type} {P : Program} {t : TypeId} {a : Option Value} {k : Value → M B} {Q : B → Hp → Prop} {σ : Hp} (h : ((loadAct P t a).run k).run Q σ) : ∃ v, (loadAct P t a).qval σ v ∧ (k v).run Q σ := by
  unfold loadAct at h ⊢
  (repeat' split at h) <;> simp only [Act1.run] at h <;> first
    | exact h.elim
    | (obtain ⟨r, e, hk⟩ := h; exact ⟨_, ⟨r, e, rfl⟩, hk⟩)
def resVar (tmps : Array Value) : ResultVar → Sem Value
  | .tmp t => pure (tmps.getD t undef)
  | .cell p t => do loadVar t (← asAddr (tmps.getD p undef))
theorem results_eq (fn : Func) (tmps : Array Value) : results fn tmps = (do let vs ← fn.results.mapM (resVar tmps); pure (if h : vs.size = 1 then vs[0] else .tuple vs)) := by
  rfl
theorem resM_run {B : Type} {P : Program} {n : Nat} {Bs : Nat} {w0 : World} {w : World} {a : Act} {env : Env} (he : EnvOk n env a) {Q : B → Hp → Prop} {σ : Hp} (hs : Sees Bs w0 σ w) : ∀ (rs : List ResultVar) (k : List Value → M B), (resM P rs env k).run Q σ →
    ∃ vs, (rs.mapM (resVar a.tmps)).run P w = .ok vs w ∧ (k vs).run Q σ
  | [], k, h => ⟨[], by simp, h⟩
  | .tmp t :: rs, k, h => by
    simp only [resM] at h
    split at h
    · rename_i v hv
      obtain ⟨vs, h1, h2⟩ := resM_run he hs rs _ h
      refine ⟨v :: vs, ?_, h2⟩
      have : a.tmps.getD t undef = v := by simp [he.at_ _ _ hv]
      simp only [List.mapM_cons, Sem.run_bind, Sem.run_pure, Result.andThen_ok, h1, this, resVar]
    · exact h.elim
  | .cell p t :: rs, k, h => by
    simp only [resM] at h
    split at h
    · rename_i ad hv
      obtain ⟨v, hq, hk⟩ := load_qrun h
      obtain ⟨vs, h1, h2⟩ := resM_run he hs rs _ hk
      refine ⟨v :: vs, ?_, h2⟩
      have : a.tmps.getD p undef = .pointer (some ad) := by simp [he.at_ _ _ hv]
      simp only [List.mapM_cons, Sem.run_bind, Sem.run_pure, Result.andThen_ok, h1, this, asAddr, loadVar_run hs hq, resVar]
    · exact h.elim

def nth : List Value → Nat → Option Value
  | [], _ => none
  | v :: _, 0 => some v
  | _ :: vs, i + 1 => nth vs i
theorem nth_eq : ∀ (vs : List Value) (i : Nat), nth vs i = vs[i]?
  | [], i => by simp [nth]
  | v :: vs, 0 => by simp [nth]
  | v :: vs, i + 1 => by simp [nth, nth_eq vs i]
abbrev retM (R : List Ty) (vs : List Value) : M (Ts R) := match tso R vs with
  | some t => M.pure t
  | none => M.err
/-- What a function does. -/
abbrev evF (cx : Cx) (n N : Nat) (rs : List ResultVar) (c : Code) (p : Plan) (A R : List Ty) (x : Ts A) : M (Ts R) :=
  evC cx n N c p (nth (tsv A x)) fun e env => match e with
    | .normal => resM cx.P rs env (retM R)
    | .ret => resM cx.P rs env (retM R)
    | .exit _ => M.err
def Sp (P : Program) (f : FuncId) (A R : List Ty) (F : Ts A → M (Ts R)) : Prop := ∀ (x : Ts A) (B : Nat) (w0 : World) (σ : Hp) (w : World) (Q : Ts R → Hp → Prop), Sees B w0 σ w → (F x).run Q σ →
  Calls P f (tsv A x).toArray w fun e w' => ∃ t σ', e = .returned (resv R t) ∧ Sees B w0 σ' w' ∧ Q t σ'
theorem sp_of {cx : Cx} (hcx : cx.Ok) {f : FuncId} {fn : Func} {c : Code} {n N : Nat} {p : Plan} {A R : List Ty} {F : Ts A → M (Ts R)} (hf : cx.P.funcs[f]? = some fn) (hb : fn.body = some c) (hn : fn.ntmps = n)
    (hA : Nat.ble A.length n = true) (hF : ∀ x, evF cx n N fn.results.toList c p A R x = F x) : Sp cx.P f A R F := by
  intro x B w0 σ w Q hs hq
  rw [← hF x] at hq
  refine calls_of_wp hf hb ?_
  have hlen : (tsv A x).length = A.length := Tp.vals_length _ A x
  have hle := Nat.le_of_ble_eq_true hA
  let a0 : Act := { tmps := (tsv A x).toArray ++ Array.replicate (fn.ntmps - (tsv A x).toArray.size) undef, defers := [] }
  have he : EnvOk n (nth (tsv A x)) a0 := by
    refine ⟨by simp [a0, hlen, hn]; omega, fun i v e => ?_⟩
    rw [nth_eq] at e
    have hlt : i < (tsv A x).length := (List.getElem?_eq_some_iff.1 e).1
    simp only [a0]
    rw [Array.getElem?_append_left (by simpa using hlt)]
    simpa using e
  have hret : ∀ (env : Env) (a : Act) (s : Hp) (w : World), (resM cx.P fn.results.toList env (retM R)).run Q s → Sees B w0 s w → EnvOk n env a → a.defers = [] →
      a.defers = [] ∧ ∃ v, (results fn a.tmps).run cx.P w = .ok v w ∧ ∃ t σ', (Ending.returned v) = .returned (resv R t) ∧ Sees B w0 σ' w ∧ Q t σ' := by
    intro env a s w hr hs he hd
    obtain ⟨vs, h1, h2⟩ := resM_run (P := cx.P) he hs _ _ hr
    unfold retM at h2
    split at h2
    · rename_i t ht
      refine ⟨hd, resv R t, ?_, t, s, rfl, hs, h2⟩
      have hm : (fn.results.mapM (resVar a.tmps)).run cx.P w = .ok vs.toArray w := by
        rw [Array.mapM_eq_mapM_toList, Sem.run_map, h1]
        rfl
      rw [results_eq, Sem.run_bind, hm]
      simp only [Result.andThen_ok, Sem.run_pure]
      congr 1
      unfold resv
      rw [tso_tsv ht]
      match vs with
      | [] => simp
      | [v] => simp
      | v :: u :: l => simp
    · exact h2.elim
  refine evC_sound hcx (N := N) (d := []) c p _ Q _ _ (fun e env a s w hr hs he hd _ => ?_) a0 σ w hq hs he rfl
  cases e with
  | normal => exact hret env a s w hr hs he hd
  | ret => exact hret env a s w hr hs he hd
  | exit i => exact hr.elim
theorem rowOk_of {P : Program} {f : FuncId} {A R : List Ty} {F : Ts A → M (Ts R)} {fn : Func} (h : Sp P f A R F) (hf : P.funcs[f]? = some fn) (hb : fn.body.isNone = false) (hn : (fn.name == "runtime.NumGoroutine") = false) : RowOk P ⟨f, A, R, F⟩ := by
  intro x B w0 σ w Q hs hq
  have hc := h x B w0 σ w Q hs hq
  have hr : (callFunc f (tsv A x).toArray).run P w = .ok (.enter f (tsv A x).toArray) w := by
    have hn' : fn.name ≠ "runtime.NumGoroutine" := by simpa using hn
    have hb' : fn.body ≠ none := by intro e; rw [e] at hb; simp at hb
    simp [callFunc, hf, hb', hn']
  rw [hr]
  refine hc.mono fun e w' => ?_
  rintro ⟨t, σ', rfl, h1, h2⟩
  exact ⟨_, rfl, t, σ', rfl, h1, h2⟩

/-! ### The printed texts' words -/
abbrev vl {A B : Type} (x : A) (k : A → M B) : M B := k x
abbrev ld {B : Type} (cs : List Ce) (a : Addr) (k : Cs cs → M B) : M B := M.rd (ldR cs a) k
abbrev st {B : Type} (a : Addr) (vs : List Value) (k : M B) : M B := M.bind (stM a vs) fun _ => k
def ob (vs : List Value) (T : TypeId) : Obj := .cells vs.toArray T
abbrev ixA {B : Type} (p : Option Addr) (len : Nat) (i : Int) (sz : Nat) (k : Addr → M B) : M B := M.nn p fun a => M.chk (0 ≤ i ∧ i < len) (k (a.add (i.toNat * sz)))
abbrev nz {B : Type} (p : Option Addr) (k : Addr → M B) : M B := M.nn p fun a => M.chk True (k a)
def subSl (s : Sl) (l h m : Int) (sz : Nat) : Sl := ⟨if m.toNat = l.toNat then s.a else s.a.map (·.add (l.toNat * sz)), h.toNat - l.toNat, m.toNat - l.toNat⟩
abbrev subM {B : Type} (s : Sl) (l h m : Int) (sz : Nat) (k : Sl → M B) : M B := M.chk (0 ≤ l ∧ l ≤ h ∧ h ≤ m ∧ m ≤ s.cap) (k (subSl s l h m sz))
abbrev subSt {B : Type} (s : ByteArray) (l h : Int) (k : ByteArray → M B) : M B := M.chk (0 ≤ l ∧ l ≤ h ∧ h ≤ s.size) (k (s.extract l.toNat h.toNat))
abbrev byM {B : Type} (s : ByteArray) (i : Int) (k : Int → M B) : M B := M.chk (0 ≤ i ∧ i < s.size) (k (byteAt s i))
abbrev catM {B : Type} (a b : ByteArray) (k : ByteArray → M B) : M B := M.chk (a.size + b.size ≤ 9223372036854775807) (k (a ++ b))
abbrev divM {B : Type} (b : Int) (v : Int) (k : Int → M B) : M B := M.chk (b ≠ 0) (k v)
abbrev shM {B : Type} (b : Int) (v : Int) (k : Int → M B) : M B := M.chk (0 ≤ b) (k v)
def wi (x : Int) : Int := IntKind.i64.wrap x
def mkM (bytes : Nat) (z : List Value) (e : TypeId) (n k : Int) : M Nat := M.chk (0 ≤ n ∧ n ≤ k ∧ (bytes : Int) * k ≤ 281474976710656 ∧ k ≤ 9223372036854775807) (M.new (.cells (rep k.toNat z).toArray e) M.pure)
def toBy (e : TypeId) (s : ByteArray) : M Sl := M.chk (s.size ≤ 9223372036854775807) (bytesM e s)
theorem row_mk {P : Program} (f : FuncId) (fn : Func) (A R : List Ty) (F : Ts A → M (Ts R)) (rows : List Row) (eqs : List (TypeId × List Ce)) (its : List (Nat × (Ty × Ty))) (n N : Nat) (p : Plan)
    (hr : ∀ r ∈ rows, RowOk P r) (he : ∀ q ∈ eqs, EqOk P q.1 q.2) (hm : P.follows .mixedOrders = true) (hf : P.funcs[f]? = some fn) (hb : fn.body = some (fn.body.getD .skip)) (hn : fn.ntmps = n) (hA : Nat.ble A.length n = true)
    (hF : ∀ x, evF ⟨P, rows, eqs, its⟩ n N fn.results.toList (fn.body.getD .skip) p A R x = F x) (hnm : (fn.name == "runtime.NumGoroutine") = false) : RowOk P ⟨f, A, R, F⟩ :=
  rowOk_of (sp_of (cx := ⟨P, rows, eqs, its⟩) ⟨hr, he, hm⟩ hf hb hn hA hF) hf (by rw [hb]; rfl) hnm
theorem rows_nil {P : Program} : ∀ r ∈ ([] : List Row), RowOk P r := fun _ h => by simp at h
theorem rows_cons {P : Program} {r : Row} {l : List Row} (h : RowOk P r) (k : ∀ r ∈ l, RowOk P r) : ∀ q ∈ r :: l, RowOk P q := fun q hq => by
  rcases List.mem_cons.1 hq with rfl | hq
  · exact h
  · exact k q hq
theorem eqs_nil {P : Program} : ∀ p ∈ ([] : List (TypeId × List Ce)), EqOk P p.1 p.2 := fun _ h => by simp at h
theorem eqs_cons {P : Program} {t : TypeId} {cs : List Ce} {l : List (TypeId × List Ce)} (h : EqOk P t cs) (k : ∀ p ∈ l, EqOk P p.1 p.2) : ∀ p ∈ (t, cs) :: l, EqOk P p.1 p.2 := fun q hq => by
  rcases List.mem_cons.1 hq with rfl | hq
  · exact h
  · exact k q hq

end Go.Eng
