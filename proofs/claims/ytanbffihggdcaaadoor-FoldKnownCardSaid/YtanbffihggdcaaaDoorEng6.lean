/- Maps, appends, conversions to and from bytes, made slices, lengths. -/
import Derived.Test.YtanbffihggdcaaaDoorEng5
set_option linter.unusedVariables false
set_option linter.unusedSimpArgs false
namespace Go.Eng
open Go.RowKit

def tyOfT (P : Program) (t : TypeId) : Option Ty := match cellsOfT P 9 t with
  | some cs => match isAggT P t with
    | true => some (.agg cs)
    | false => match cs with
      | [c] => some (.c c)
      | _ => none
  | none => none

/-! ### Maps -/
def keyOk (P : Program) (t : TypeId) (k : Value) : Bool := match P.underlying t, k with
  | some (.int _), .int _ _ => true
  | some .string, .string _ => true
  | some .bool, .bool _ => true
  | _, _ => false
def descOf (P : Program) (t : TypeId) : TypeDesc := (P.underlying t).getD .bool
theorem keyOk_desc {P : Program} {t : TypeId} {k : Value} (h : keyOk P t k = true) : P.underlying t = some (descOf P t) := by
  unfold keyOk at h
  unfold descOf
  cases e : P.underlying t with
  | none => simp [e] at h
  | some d => rfl
theorem run_checkKey {P : Program} {t : TypeId} {k : Value} (h : keyOk P t k = true) (empty : Bool) (n : Nat) (w : World) : (Instr.checkKey empty (n + 1) t k).run P w = .ok () w := by
  have hd := keyOk_desc h
  unfold keyOk at h
  simp only [Instr.checkKey, Sem.run_bind, run_underlying hd, Result.andThen_ok]
  rw [hd] at h
  generalize descOf P t = d at h
  cases d <;> cases k <;> simp_all
theorem run_findKey {P : Program} {t : TypeId} {k : Value} (h : keyOk P t k = true) {es : List MapEntry} {r : Option (Nat × Value)} (hf : Instr.findNow (descOf P t) k es 0 = some r) (w : World) :
    (Instr.findKey t k es).run P w = .ok r w := by
  simp [Instr.findKey, run_underlying (keyOk_desc h), hf]
theorem findNow_at {d : TypeDesc} {k : Value} : ∀ {es : List MapEntry} {j i : Nat} {v : Value}, Instr.findNow d k es j = some (some (i, v)) →
    j ≤ i ∧ ∃ e, es[i - j]? = some e ∧ Instr.sameNow d k e.key = some true ∧ e.val = v
  | [], j, i, v, h => by simp [Instr.findNow] at h
  | e :: es, j, i, v, h => by
    simp only [Instr.findNow] at h
    split at h
    · rename_i hs
      simp only [Option.some.injEq, Prod.mk.injEq] at h
      obtain ⟨rfl, rfl⟩ := h
      exact ⟨Nat.le_refl _, e, by simp, hs, rfl⟩
    · obtain ⟨hj, e', he, h2, h3⟩ := findNow_at h
      refine ⟨by omega, e', ?_, h2, h3⟩
      rw [show i - j = (i - (j + 1)) + 1 by omega]
      simpa using he
    · simp at h
theorem bytes_of_beq {a b : ByteArray} (h : (a == b) = true) : a = b := by
  obtain ⟨a⟩ := a
  obtain ⟨b⟩ := b
  have : (a == b) = true := h
  rw [eq_of_beq this]
theorem sameBits_of_sameNow {d : TypeDesc} {k u : Value} (h : Instr.sameNow d k u = some true) (n : Nat) : Instr.sameBits n u k = true := by
  unfold Instr.sameNow at h
  split at h
  · split at h <;> simp at h
    subst h; rename_i hk; subst hk; cases n <;> simp [Instr.sameBits]
  · rename_i a b
    simp only [Option.some.injEq] at h
    have h' : a = b := bytes_of_beq h
    subst h'; cases n <;> simp [Instr.sameBits, h]
  · simp at h; subst h; cases n <;> simp [Instr.sameBits]
  · simp at h
def lookR (d : TypeDesc) (k : Value) (r : Option Nat) (ty : Ty) (z : ty.T) : Rd (ty.T × Bool) where
  get σ := match r with
    | none => some (z, false)
    | some b => match σ b with
      | some (_, .map es _) => match Instr.findNow d k es.toList 0 with
        | some (some (_, v)) => match ty.of v with
          | some t => some (t, true)
          | none => none
        | some none => some (z, false)
        | none => none
      | _ => none
  mono σ τ x h e := by
    cases r with
    | none => exact e
    | some b =>
      simp only at e ⊢
      cases hs : σ b with
      | none => simp [hs] at e
      | some y => rw [hs] at e; rw [h _ _ hs]; exact e
def lookupAct (P : Program) (t : TypeId) (x k : Option Value) (ok : Bool) : Act1 := match x, k, P.underlying t with
  | some (.map r), some kv, some (.map kt et) => match keyOk P kt kv, tyOfT P et, P.info? et with
    | true, some ty, some inf => match inf.zero with
      | some z => match ty.of z with
        | some zt => match ok with
          | true => .rd (lookR (descOf P kt) kv r ty zt) fun p => .tuple #[ty.val p.1, .bool p.2]
          | false => .rd (lookR (descOf P kt) kv r ty zt) fun p => ty.val p.1
        | none => .no
      | none => .no
    | _, _, _ => .no
  | _, _, _ => .no
theorem lookup_run {P : Program} {t kt et : TypeId} {r : Option Nat} {kv z : Value} {ty : Ty} {zt : ty.T} {inf : TypeInfo} (ht : P.underlying t = some (.map kt et)) (hk : keyOk P kt kv = true)
    (hi : P.info? et = some inf) (hz : inf.zero = some z) (hzt : ty.of z = some zt) (ok : Bool) {B : Nat} {w0 : World} {σ : Hp} {w : World} {p : ty.T × Bool} (hs : Sees B w0 σ w)
    (e : (lookR (descOf P kt) kv r ty zt).get σ = some p) : (Instr.lookup t (.map r) kv ok).run P w = .ok (if ok then .tuple #[ty.val p.1, .bool p.2] else ty.val p.1) w := by
  have hzv : ty.val zt = z := Ty.of_val hzt
  simp only [lookR] at e
  cases r with
  | none =>
    simp only [Option.some.injEq] at e
    subst e
    have hf : (Instr.findKey kt kv []).run P w = .ok none w := run_findKey hk (by simp [Instr.findNow]) w
    simp [Instr.lookup, run_underlying ht, run_checkKey hk, hf, zeroValue, run_typeInfo w hi, hz, hzv]
  | some b =>
    simp only at e
    cases hb : σ b with
    | none => simp [hb] at e
    | some y =>
      obtain ⟨rw, o⟩ := y
      rw [hb] at e
      cases o <;> simp only at e <;> try (simp at e; done)
      rename_i es clock
      have hg : (getObj b).run P w = .ok (.map es clock) w := by simp [getObj, Sem.run, hs.obj _ _ _ hb]
      cases hfn : Instr.findNow (descOf P kt) kv es.toList 0 with
      | none => simp [hfn] at e
      | some q =>
        have hf := run_findKey hk hfn w
        rw [hfn] at e
        cases q with
        | none =>
          simp only [Option.some.injEq] at e
          subst e
          simp [Instr.lookup, run_underlying ht, hg, run_checkKey hk, hf, zeroValue, run_typeInfo w hi, hz, hzv]
        | some iv =>
          obtain ⟨i, v⟩ := iv
          simp only at e
          cases hv : ty.of v with
          | none => simp [hv] at e
          | some tv =>
            simp only [hv, Option.some.injEq] at e
            subst e
            simp [Instr.lookup, run_underlying ht, hg, run_checkKey hk, hf, Ty.of_val hv]
theorem lookup_good {P : Program} {t : TypeId} {x k : Option Value} {ok : Bool} {u v : Value} (hu : ∀ z, x = some z → z = u) (hv : ∀ z, k = some z → z = v) :
    Good P (do pure (.value (← Instr.lookup t u v ok))) (lookupAct P t x k ok) := by
  unfold lookupAct
  split
  · rename_i r kv kt et ht
    obtain rfl := hu _ rfl
    obtain rfl := hv _ rfl
    split
    · rename_i ty inf hk hty hi
      split
      · rename_i z hz
        split
        · rename_i zt hzt
          split
          · exact Good.rd fun B w0 σ w p hs e => by simp [lookup_run ht hk hi hz hzt true hs e]
          · exact Good.rd fun B w0 σ w p hs e => by simp [lookup_run ht hk hi hz hzt false hs e]
        · exact Good.no
      · exact Good.no
    · exact Good.no
  · exact Good.no
def updMap (d : TypeDesc) (k v : Value) : Obj → Option Obj
  | .map es clock => match Instr.findNow d k es.toList 0 with
    | some (some (i, _)) => some (.map (es.modify i fun e => { e with key := k, val := v }) clock)
    | some none => some (.map (es.push { key := k, val := v, born := clock }) (clock + 1))
    | none => none
  | _ => none
def mapPutM (d : TypeDesc) (k v : Value) (r : Option Nat) : M Unit := M.nn r fun b => M.upd b (updMap d k v) (M.pure ())
def mapUpdateAct (P : Program) (t : TypeId) (m k v : Option Value) : Act1 := match m, k, v, P.underlying t with
  | some (.map r), some kv, some vv, some (.map kt et) => match keyOk P kt kv with
    | true => .gen (mapPutM (descOf P kt) kv vv r) fun _ => undef
    | false => .no
  | _, _, _, _ => .no
theorem run_setObj {P : Program} {w : World} {b : Nat} {o o' : Obj} (h : w.heap[b]? = some o) (hc : ∀ c e f, o ≠ .cells c e f) :
    (setObj b o').run P w = .ok () { w with heap := w.heap.setIfInBounds b o' } := by
  simp only [setObj, Sem.run, h]
theorem run_getMap {P : Program} {w : World} {b : Nat} {es : Array MapEntry} {clock : Nat} (h : w.heap[b]? = some (.map es clock)) : (getObj b).run P w = .ok (.map es clock) w := by
  simp [getObj, Sem.run, h]
theorem mapUpdate_good {P : Program} {t : TypeId} {m k v : Option Value} {a b c : Value} (ha : ∀ z, m = some z → z = a) (hb : ∀ z, k = some z → z = b) (hc : ∀ z, v = some z → z = c) :
    Good P (do Instr.mapUpdate t a b c; pure .skip) (mapUpdateAct P t m k v) := by
  unfold mapUpdateAct
  split
  · rename_i r kv vv kt et ht
    obtain rfl := ha _ rfl
    obtain rfl := hb _ rfl
    obtain rfl := hc _ rfl
    split
    · rename_i hk
      intro B w0 σ w Q hs hq
      obtain ⟨bl, rfl, o, o', e1, e2, hQ⟩ := hq
      cases o <;> simp only [updMap] at e2 <;> try (simp at e2; done)
      rename_i es clock
      have hob := hs.obj _ _ _ e1
      have hg := run_getMap (P := P) hob
      have hset := fun (o' : Obj) => run_setObj (P := P) (o' := o') hob (by simp)
      cases hfn : Instr.findNow (descOf P kt) kv es.toList 0 with
      | none => simp [hfn] at e2
      | some q =>
        have hf := run_findKey hk hfn w
        rw [hfn] at e2
        cases q with
        | none =>
          simp only [Option.some.injEq] at e2
          subst e2
          simp only [Instr.mapUpdate, Sem.run_bind, run_underlying ht, Result.andThen_ok, hg, run_checkKey hk, hf, hset, Leads, Sem.run_pure]
          exact ⟨_, hs.put e1 rfl rfl rfl rfl, hQ⟩
        | some iv =>
          obtain ⟨i, v⟩ := iv
          simp only [Option.some.injEq] at e2
          subst e2
          obtain ⟨_, e, he, hsn, _⟩ := findNow_at hfn
          have he' : es[i]? = some e := by simpa using he
          have hst : (Instr.keyThatStays (((es[i]?).map (·.key)).getD kv) kv).run P w = .ok kv w := by
            simp [Instr.keyThatStays, he', sameBits_of_sameNow hsn]
          simp only [Instr.mapUpdate, Sem.run_bind, run_underlying ht, Result.andThen_ok, hg, run_checkKey hk, hf, hst, hset, Leads, Sem.run_pure]
          exact ⟨_, hs.put e1 rfl rfl rfl rfl, hQ⟩
    · exact Good.no
  · exact Good.no
def delMap (d : TypeDesc) (k : Value) : Obj → Option Obj
  | .map es clock => match Instr.findNow d k es.toList 0 with
    | some (some (i, _)) => some (.map (es.eraseIdxIfInBounds i) clock)
    | some none => some (.map es clock)
    | none => none
  | _ => none
def mapDelM (d : TypeDesc) (k : Value) (r : Option Nat) : M Unit := M.nn r fun b => M.upd b (delMap d k) (M.pure ())
def mapLenR (r : Option Nat) : Rd Nat where
  get σ := match r with
    | none => some 0
    | some b => match σ b with
      | some (_, .map es _) => some es.size
      | _ => none
  mono σ τ x h e := by
    cases r with
    | none => exact e
    | some b =>
      simp only at e ⊢
      cases hs : σ b with
      | none => simp [hs] at e
      | some y => rw [hs] at e; rw [h _ _ hs]; exact e
def delAct (P : Program) (argTypes : Array TypeId) (args : Option (List Value)) : Act1 := match args, argTypes[0]? with
  | some [.map r, kv], some t => match P.underlying t with
    | some (.map kt et) => match keyOk P kt kv with
      | true => .gen (mapDelM (descOf P kt) kv r) fun _ => .tuple #[]
      | false => .no
    | _ => .no
  | _, _ => .no
theorem del_good {P : Program} {at_ : Array TypeId} {ty : TypeId} {xs : Option (List Value)} {args : Array Value} (hx : ∀ l, xs = some l → args = l.toArray) :
    Good P (do pure (.value (← Builtin.delete_ at_ ty args))) (delAct P at_ xs) := by
  unfold delAct
  split
  · rename_i r kv t hat
    obtain rfl := hx _ rfl
    split
    · rename_i kt et ht
      split
      · rename_i hk
        intro B w0 σ w Q hs hq
        obtain ⟨bl, rfl, o, o', e1, e2, hQ⟩ := hq
        cases o <;> simp only [delMap] at e2 <;> try (simp at e2; done)
        rename_i es clock
        have hob := hs.obj _ _ _ e1
        have hg := run_getMap (P := P) hob
        have hset := fun (o' : Obj) => run_setObj (P := P) (o' := o') hob (by simp)
        cases hfn : Instr.findNow (descOf P kt) kv es.toList 0 with
        | none => simp [hfn] at e2
        | some q =>
          have hf := run_findKey hk hfn w
          rw [hfn] at e2
          cases q with
          | none =>
            simp only [Option.some.injEq] at e2
            subst e2
            simp [Builtin.delete_, hat, run_underlying ht, hg, run_checkKey hk, hf, hset, Leads]
            exact ⟨_, hs.put e1 rfl rfl rfl rfl, hQ⟩
          | some iv =>
            obtain ⟨i, v⟩ := iv
            simp only [Option.some.injEq] at e2
            subst e2
            simp [Builtin.delete_, hat, run_underlying ht, hg, run_checkKey hk, hf, hset, Leads]
            exact ⟨_, hs.put e1 rfl rfl rfl rfl, hQ⟩
      · exact Good.no
    · exact Good.no
  · exact Good.no

/-! ### Lengths -/
def lenAct (P : Program) (argTypes : Array TypeId) (args : Option (List Value)) : Act1 := match args, argTypes[0]? with
  | some [x], some t => match P.underlying t, x with
    | some .string, .string s => .val (.int .i64 s.size)
    | some (.slice _), .slice _ n _ => .val (.int .i64 n)
    | some (.array n _), _ => .val (.int .i64 n)
    | some (.map _ _), .map r => .rd (mapLenR r) fun n => .int .i64 n
    | _, _ => .no
  | _, _ => .no
theorem len_good {P : Program} {at_ : Array TypeId} {ty : TypeId} {xs : Option (List Value)} {args : Array Value} (hx : ∀ l, xs = some l → args = l.toArray) :
    Good P (do pure (.value (← Builtin.len_ at_ ty args))) (lenAct P at_ xs) := by
  unfold lenAct
  split
  · rename_i x t hat
    obtain rfl := hx _ rfl
    split
    · rename_i s ht
      exact Good.val fun w => by simp [Builtin.len_, hat, run_underlying ht, goInt]
    · rename_i e a n c ht
      exact Good.val fun w => by simp [Builtin.len_, hat, run_underlying ht, goInt]
    · rename_i n e ht
      exact Good.val fun w => by simp [Builtin.len_, hat, run_underlying ht, goInt]
    · rename_i kt et r ht
      refine Good.rd fun B w0 σ w m hs e => ?_
      cases r with
      | none =>
        simp only [mapLenR, Option.some.injEq] at e
        subst e
        simp [Builtin.len_, hat, run_underlying ht, goInt]
      | some b =>
        simp only [mapLenR] at e
        cases hb : σ b with
        | none => simp [hb] at e
        | some y =>
          obtain ⟨q, o⟩ := y
          rw [hb] at e
          cases o <;> simp only at e <;> try (simp at e; done)
          rename_i es clock
          simp only [Option.some.injEq] at e
          subst e
          simp [Builtin.len_, hat, run_underlying ht, run_getMap (P := P) (hs.obj _ _ _ hb), goInt]
    · exact Good.no
  · exact Good.no
def capAct (P : Program) (argTypes : Array TypeId) (args : Option (List Value)) : Act1 := match args, argTypes[0]? with
  | some [x], some t => match P.underlying t, x with
    | some (.slice _), .slice _ _ c => .val (.int .i64 c)
    | _, _ => .no
  | _, _ => .no
theorem cap_good {P : Program} {at_ : Array TypeId} {ty : TypeId} {xs : Option (List Value)} {args : Array Value} (hx : ∀ l, xs = some l → args = l.toArray) :
    Good P (do pure (.value (← Builtin.cap_ at_ ty args))) (capAct P at_ xs) := by
  unfold capAct
  split
  · rename_i x t hat
    obtain rfl := hx _ rfl
    split
    · rename_i e a n c ht
      exact Good.val fun w => by simp [Builtin.cap_, hat, run_underlying ht, goInt]
    · exact Good.no
  · exact Good.no
def maxAct (args : Option (List Value)) : Act1 := match args with
  | some [.int k a, .int _ b] => .val (.int k (if b > a then b else a))
  | _ => .no
theorem max_good {P : Program} {at_ : Array TypeId} {ty : TypeId} {xs : Option (List Value)} {args : Array Value} (hx : ∀ l, xs = some l → args = l.toArray) :
    Good P (do pure (.value (← Builtin.max_ at_ ty args))) (maxAct xs) := by
  unfold maxAct
  split
  · obtain rfl := hx _ rfl
    exact Good.val fun w => by simp [Builtin.max_, Builtin.max2]
  · exact Good.no
def minAct (args : Option (List Value)) : Act1 := match args with
  | some [.int k a, .int _ b] => .val (.int k (if b < a then b else a))
  | _ => .no
theorem min_good {P : Program} {at_ : Array TypeId} {ty : TypeId} {xs : Option (List Value)} {args : Array Value} (hx : ∀ l, xs = some l → args = l.toArray) :
    Good P (do pure (.value (← Builtin.min_ at_ ty args))) (minAct xs) := by
  unfold minAct
  split
  · obtain rfl := hx _ rfl
    exact Good.val fun w => by simp [Builtin.min_, Builtin.min2]
  · exact Good.no

end Go.Eng
