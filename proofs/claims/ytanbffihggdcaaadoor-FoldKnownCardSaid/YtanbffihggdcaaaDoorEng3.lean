/- Operations on memory cells: loads, stores, new blocks; and the plain ones. Each with the proof that it is what the model does. -/
import Derived.Test.YtanbffihggdcaaaDoorEng2
set_option linter.unusedVariables false
set_option linter.unusedSimpArgs false
namespace Go.Eng
open Go.RowKit

/-! ### Types by the table -/
def cellsOfT (P : Program) : Nat → TypeId → Option (List Ce)
  | 0, _ => none
  | d + 1, t => match P.underlying t with
    | some .bool => some [.bool]
    | some (.int k) => some [.int k]
    | some (.float k) => some [.flt k]
    | some .string => some [.str]
    | some (.pointer _) => some [.ptr]
    | some .unsafePointer => some [.ptr]
    | some (.slice _) => some [.slice]
    | some (.map _ _) => some [.map]
    | some (.func _ _ _) => some [.any]
    | some (.interface _) => some [.any]
    | some (.struct fs) => fs.toList.foldr (fun f acc => match cellsOfT P d f.type, acc with
      | some x, some y => some (x ++ y)
      | _, _ => none) (some [])
    | some (.array n e) => (cellsOfT P d e).map fun l => (List.replicate n l).flatten
    | _ => none
def isAggT (P : Program) (t : TypeId) : Bool := match P.underlying t with
  | some (.struct _) | some (.array _ _) => true
  | _ => false
theorem run_isAgg {P : Program} {t : TypeId} {d : TypeDesc} (h : P.underlying t = some d) (w : World) : (isAgg t).run P w = .ok (isAggT P t) w := by
  unfold isAgg isAggT
  simp only [Sem.run_bind, run_underlying h, Result.andThen_ok, h]
  cases d <;> rfl
theorem info_of_underlying {P : Program} {t : TypeId} {d : TypeDesc} (h : P.underlying t = some d) : ∃ i, P.info? t = some i := by
  unfold Program.underlying at h
  cases e : P.info? t with
  | none => simp [e] at h
  | some i => exact ⟨i, rfl⟩
theorem run_sizeOf' {P : Program} {t : TypeId} {d : TypeDesc} (h : P.underlying t = some d) (w : World) : (sizeOf t).run P w = .ok (P.cellsOf t) w := by
  obtain ⟨i, hi⟩ := info_of_underlying h
  exact run_sizeOf w hi
theorem underlying_of_cells {P : Program} {n : Nat} {t : TypeId} {cs : List Ce} (h : cellsOfT P n t = some cs) : ∃ d, P.underlying t = some d := by
  cases n with
  | zero => simp [cellsOfT] at h
  | succ n =>
    cases e : P.underlying t with
    | none => simp [cellsOfT, e] at h
    | some d => exact ⟨d, rfl⟩

/-! ### Loads -/
def ldVs (σ : Hp) (a : Addr) : Nat → Nat → Option (List Value)
  | _, 0 => some []
  | i, n + 1 => match σ.cell? (a.add i), ldVs σ a (i + 1) n with
    | some v, some vs => some (v :: vs)
    | _, _ => none
theorem ldVs_le {σ τ : Hp} (h : Hp.Le σ τ) (a : Addr) : ∀ n i vs, ldVs σ a i n = some vs → ldVs τ a i n = some vs
  | 0, _, _, e => e
  | n + 1, i, vs, e => by
    simp only [ldVs] at e ⊢
    split at e
    · rename_i v us hv hus
      rw [Hp.cell?_le h hv, ldVs_le h a n (i + 1) us hus]; exact e
    · simp at e
theorem ldVs_at {σ : Hp} {a : Addr} : ∀ {n i vs}, ldVs σ a i n = some vs → vs.length = n ∧ ∀ j v, vs[j]? = some v → σ.cell? (a.add (i + j)) = some v
  | 0, i, vs, e => by simp only [ldVs, Option.some.injEq] at e; subst e; simp
  | n + 1, i, vs, e => by
    simp only [ldVs] at e
    split at e
    · rename_i v us hv hus
      simp only [Option.some.injEq] at e
      subst e
      obtain ⟨hl, h⟩ := ldVs_at hus
      refine ⟨by simp [hl], fun j u hu => ?_⟩
      cases j with
      | zero => simp at hu; subst hu; simpa using hv
      | succ j => simp at hu; have := h j u hu; rwa [show i + (j + 1) = i + 1 + j by omega]
    · simp at e
def ldR (cs : List Ce) (a : Addr) : Rd (Cs cs) where
  get σ := match ldVs σ a 0 cs.length with
    | some vs => cso cs vs
    | none => none
  mono σ τ r h e := by
    split at e
    · rename_i vs hvs
      rw [ldVs_le h a _ _ _ hvs]; exact e
    · simp at e
theorem ldR_get {cs : List Ce} {a : Addr} {σ : Hp} {r : Cs cs} (e : (ldR cs a).get σ = some r) : ldVs σ a 0 cs.length = some (csv cs r) := by
  simp only [ldR] at e
  split at e
  · rename_i vs hvs
    rw [hvs, cso_csv e]
  · simp at e
def loadAct (P : Program) (t : TypeId) (a : Option Value) : Act1 := match a with
  | some (.pointer (some ad)) => match cellsOfT P 9 t with
    | some cs => match isAggT P t with
      | true => match Nat.beq cs.length (P.cellsOf t) with
        | true => .rd (ldR cs ad) fun r => .agg (csv cs r).toArray
        | false => .no
      | false => match cs with
        | [c] => .rd (ldR [c] ad) fun r => c.val r
        | _ => .no
    | none => .no
  | _ => .no
theorem load_good {P : Program} {t : TypeId} {a : Option Value} {v : Value} (hv : ∀ u, a = some u → u = v) :
    Good P (do pure (.value (← Instr.loadAt t v))) (loadAct P t a) := by
  unfold loadAct
  split
  · rename_i ad
    have hv' := hv _ rfl
    subst hv'
    split
    · rename_i cs hcs
      obtain ⟨d, hd⟩ := underlying_of_cells hcs
      split
      · rename_i hagg
        split
        · rename_i hlen
          have hlen := Nat.eq_of_beq_eq_true hlen
          refine Good.rd fun B w0 σ w r hs e => ?_
          obtain ⟨hl, hc⟩ := ldVs_at (ldR_get e)
          have hrun := run_loadCells_list (P := P) w ad (csv cs r) (fun j u hu => hs.cell (by have := hc j u hu; simpa using this))
          rw [hl] at hrun
          simp [Instr.loadAt, Instr.sureAddr, loadVar, run_isAgg hd, hagg, run_sizeOf' hd, ← hlen, hrun]
        · exact Good.no
      · rename_i hagg
        split
        · rename_i c
          refine Good.rd fun B w0 σ w r hs e => ?_
          obtain ⟨hl, hc⟩ := ldVs_at (ldR_get e)
          have h0 := hs.cell (hc 0 (c.val r) (by simp [csv, Tp.vals]))
          simp only [Nat.add_zero, Addr.add, if_true] at h0
          simp [Instr.loadAt, Instr.sureAddr, loadVar, run_isAgg hd, hagg, h0]
        · exact Good.no
    · exact Good.no
  · exact Good.no

/-! ### Stores -/
def writeAt (c : Array Value) : Nat → List Value → Array Value
  | _, [] => c
  | i, v :: vs => writeAt (c.setIfInBounds i v) (i + 1) vs
theorem size_writeAt : ∀ (vs : List Value) (i : Nat) (c : Array Value), (writeAt c i vs).size = c.size
  | [], _, _ => rfl
  | v :: vs, i, c => by simp [writeAt, size_writeAt vs]
def stObj (a : Addr) (vs : List Value) : Obj → Option Obj
  | .cells c e fr => if a.spot = none ∧ a.off + vs.length ≤ c.size ∧ (fr.2 ≤ fr.1 ∨ a.off + vs.length ≤ fr.1 ∨ fr.2 ≤ a.off) then some (.cells (writeAt c a.off vs) e fr) else none
  | _ => none
theorem heap_setCells (b : Nat) (e : TypeId) (fr : Nat × Nat) : ∀ (vs : List Value) (i : Nat) (c : Array Value) (w : World), w.heap[b]? = some (.cells c e fr) →
    (w.setCells b i vs).heap = w.heap.setIfInBounds b (.cells (writeAt c i vs) e fr) ∧ (w.setCells b i vs).os = w.os ∧ (w.setCells b i vs).tape = w.tape ∧ (w.setCells b i vs).output = w.output
  | [], i, c, w, h => by
    refine ⟨?_, rfl, rfl, rfl⟩
    have hlt : b < w.heap.size := (Array.getElem?_eq_some_iff.1 h).1
    have hv : w.heap[b] = .cells c e fr := (Array.getElem?_eq_some_iff.1 h).2
    apply Array.ext_getElem?
    intro k
    by_cases hk : b = k
    · subst hk; simp [World.setCells, writeAt, h, hlt, hv]
    · simp [World.setCells, Array.getElem?_setIfInBounds_ne hk]
  | v :: vs, i, c, w, h => by
    have hlt : b < w.heap.size := (Array.getElem?_eq_some_iff.1 h).1
    have hset : (w.setCell ⟨b, i, none⟩ v).heap[b]? = some (.cells (c.setIfInBounds i v) e fr) := by
      simp [World.setCell, Array.getElem?_modify, h]
    have ih := heap_setCells b e fr vs (i + 1) (c.setIfInBounds i v) _ hset
    simp only [World.setCells, writeAt]
    refine ⟨?_, ih.2.1, ih.2.2.1, ih.2.2.2⟩
    rw [ih.1]
    apply Array.ext_getElem?
    intro k
    by_cases hk : b = k
    · subst hk; simp [hlt]
    · rw [Array.getElem?_setIfInBounds_ne hk, Array.getElem?_setIfInBounds_ne hk]
      simp [World.setCell, Array.getElem?_modify, hk]
/-- Storing one-cell values in a row: the world behind it. -/
theorem run_storeCells_obj {P : Program} {w : World} {a : Addr} {vs : List Value} {o o' : Obj} (ho : w.heap[a.block]? = some o) (hst : stObj a vs o = some o') (h1 : vs.all flat = true) :
    ∃ w', (storeCells a vs).run P w = .ok () w' ∧ w'.os = w.os ∧ w'.tape = w.tape ∧ w'.output = w.output ∧ w'.heap = w.heap.setIfInBounds a.block o' := by
  obtain ⟨b, off, spot⟩ := a
  cases o with
  | cells c e fr =>
    simp only [stObj] at hst
    split at hst
    · rename_i hc
      obtain ⟨hsp, hsz, hfr⟩ := hc
      simp only at hsp hsz hfr ho
      subst hsp
      simp only [Option.some.injEq] at hst
      subst hst
      have hr := run_storeCells_cells (P := P) b off vs 0 w
        (fun j hj => by simp [World.cell?, ho]; omega)
        (fun j hj => by
          simp only [World.frozen?, ho, Nat.add_zero]
          obtain ⟨lo, hi⟩ := fr
          simp only at hfr ⊢
          simp; omega)
        (fun v hv => by
          have := List.all_eq_true.1 h1 v hv
          cases v <;> simp_all [flat, Value.oneCell'])
      simp only [Nat.add_zero] at hr
      obtain ⟨g1, g2, g3, g4⟩ := heap_setCells b e fr vs off c w ho
      exact ⟨_, hr, g2, g3, g4, g1⟩
    · simp at hst
  | _ => simp [stObj] at hst
def stM (a : Addr) (vs : List Value) : M Unit := M.upd a.block (stObj a vs) (M.pure ())
def storeAct (P : Program) (t : TypeId) (a x : Option Value) : Act1 := match a, x with
  | some (.pointer (some ad)), some v => match P.info? t with
    | some i => match Nat.beq v.cells.size i.size && v.cells.toList.all flat with
      | true => .gen (stM ad v.cells.toList) fun _ => undef
      | false => .no
    | none => .no
  | _, _ => .no
theorem store_good {P : Program} {t : TypeId} {a x : Option Value} {u v : Value} (hu : ∀ y, a = some y → y = u) (hv : ∀ y, x = some y → y = v) :
    Good P (do Instr.storeAt t u v; pure .skip) (storeAct P t a x) := by
  unfold storeAct
  split
  · rename_i ad v'
    have h1 := hu _ rfl
    have h2 := hv _ rfl
    subst h1; subst h2
    split
    · rename_i i hi
      split
      · rename_i hc
        simp only [Bool.and_eq_true] at hc
        have hsz := Nat.eq_of_beq_eq_true hc.1
        intro B w0 σ w Q hs hq
        obtain ⟨o, o', e1, e2, hQ⟩ := hq
        obtain ⟨w', hrun, g1, g2, g3, g4⟩ := run_storeCells_obj (P := P) (hs.obj _ _ _ e1) e2 hc.2
        have : (Instr.storeAt t (.pointer (some ad)) v').run P w = .ok () w' := by
          simp [Instr.storeAt, Instr.sureAddr, storeVar, run_sizeOf w hi, Program.cellsOf, hi, hsz, hrun]
        simp only [Sem.run_bind, this, Result.andThen_ok, Sem.run_pure, Leads]
        exact ⟨_, hs.put e1 g1 g2 g3 g4, hQ⟩
      · exact Good.no
    · exact Good.no
  · exact Good.no

/-! ### New variables -/
def allocAct (P : Program) (t : TypeId) : Act1 := match P.info? t with
  | some i => match i.zero with
    | some z => .new (.cells z.cells t) fun b => .pointer (some ⟨b, 0, none⟩)
    | none => .no
  | none => .no
theorem alloc_good {P : Program} {t : TypeId} : Good P (do pure (.value (← Instr.alloc t true (.tuple #[])))) (allocAct P t) := by
  unfold allocAct
  split
  · rename_i i hi
    split
    · rename_i z hz
      refine Good.new fun w => ?_
      simp [Instr.alloc, zeroValue, run_typeInfo w hi, hz, newVar, newRow]
    · exact Good.no
  · exact Good.no
def boxAct (t : TypeId) (x : Option Value) : Act1 := match x with
  | some v => .new (.cells v.cells t) fun b => .pointer (some ⟨b, 0, none⟩)
  | none => .no
theorem box_good {P : Program} {t : TypeId} {x : Option Value} {v : Value} (hv : ∀ y, x = some y → y = v) :
    Good P (do pure (.value (← Instr.box t v))) (boxAct t x) := by
  unfold boxAct
  split
  · rename_i v'
    have h2 := hv _ rfl
    subst h2
    refine Good.new fun w => ?_
    simp [Instr.box, newVar, newRow]
  · exact Good.no

end Go.Eng
