/- Appends, copies, conversions to and from bytes, made slices and maps, ranging over maps, structs compared. -/
import Derived.Test.YtanbffihggdcaaaDoorEng6
set_option linter.unusedVariables false
set_option linter.unusedSimpArgs false
namespace Go.Eng
open Go.RowKit

/-! ### What an append or a copy takes -/
def bytesV (s : ByteArray) : List Value := s.data.toList.map fun b => .int .u8 b.toNat
def srcR (a : Option Addr) (n : Nat) : Rd (List Value) where
  get σ := match a with
    | none => some []
    | some ad => match ldVs σ ad 0 n with
      | some vs => if vs.all flat = true then some vs else none
      | none => none
  mono σ τ r h e := by
    cases a with
    | none => exact e
    | some ad =>
      simp only at e ⊢
      split at e
      · rename_i vs hv; rw [ldVs_le h _ _ _ _ hv]; exact e
      · simp at e
theorem srcR_some {ad : Addr} {n : Nat} {σ : Hp} {vs : List Value} (e : (srcR (some ad) n).get σ = some vs) : ldVs σ ad 0 n = some vs ∧ vs.all flat = true := by
  simp only [srcR] at e
  split at e
  · rename_i us hv
    split at e
    · rename_i hf; simp only [Option.some.injEq] at e; subst e; exact ⟨hv, hf⟩
    · simp at e
  · simp at e
theorem srcR_flat {a : Option Addr} {n : Nat} {σ : Hp} {vs : List Value} (e : (srcR a n).get σ = some vs) : vs.all flat = true := by
  cases a with
  | none => simp only [srcR, Option.some.injEq] at e; subst e; rfl
  | some ad => exact (srcR_some e).2
def constR {R : Type} (r : R) : Rd R := ⟨fun _ => some r, fun _ _ _ _ e => e⟩
theorem run_firstCells {P : Program} {B : Nat} {w0 : World} {σ : Hp} {w : World} (hs : Sees B w0 σ w) {a : Option Addr} {size n len cap : Nat} {vs : List Value} (e : (srcR a (n * size)).get σ = some vs) :
    (Builtin.firstCells size n (.slice a len cap)).run P w = .ok vs.toArray w := by
  cases a with
  | none =>
    simp only [srcR, Option.some.injEq] at e
    subst e
    simp [Builtin.firstCells]
  | some ad =>
    obtain ⟨hl, hc⟩ := ldVs_at (srcR_some e).1
    have hrun := run_loadCells_list (P := P) w ad vs (fun j u hu => hs.cell (by have := hc j u hu; simpa using this))
    rw [hl] at hrun
    simp [Builtin.firstCells, hrun]
/-- What is appended: the cells, how many elements. -/
inductive Src where
  | sl (a : Option Addr) (n : Nat)
  | st (s : ByteArray)
def Src.n : Src → Nat
  | .sl _ n => n
  | .st s => s.size
def Src.rd (size : Nat) : Src → Rd (List Value)
  | .sl a n => srcR a (n * size)
  | .st s => constR (bytesV s)
def appM (e : TypeId) (size bytes : Nat) (z : List Value) (s : Sl) (x : Src) : M Sl :=
  M.rd (x.rd size) fun new =>
    if s.len + x.n ≤ s.cap then
      match s.a, new with
      | some a, v :: vs => M.upd a.block (stObj (a.add (s.len * size)) (v :: vs)) (M.pure ⟨s.a, s.len + x.n, s.cap⟩)
      | _, _ => M.pure ⟨s.a, s.len + x.n, s.cap⟩
    else M.chk ((s.len + x.n) * bytes ≤ 140737488355328 ∧ s.len + x.n ≤ 9223372036854775807) (M.rd (srcR s.a (s.len * size)) fun old =>
      M.any (fun c => s.len + x.n ≤ c ∧ (s.len + x.n ≤ 9223372036854775807 → c ≤ 9223372036854775807)) ⟨s.len + x.n, Nat.le_refl _, id⟩ fun c =>
        M.new (.cells (old ++ new ++ rep (c - (s.len + x.n)) z).toArray e) fun b => M.pure ⟨some ⟨b, 0, none⟩, s.len + x.n, c⟩)
def srcOf (v : Value) : Option Src := match v with
  | .slice a n _ => some (.sl a n)
  | .string s => some (.st s)
  | _ => none
def isIntT (P : Program) (t : TypeId) : Bool := match P.underlying t with
  | some (.int _) => true
  | _ => false
def appAct (P : Program) (argTypes : Array TypeId) (args : Option (List Value)) : Act1 := match args, argTypes[0]?, argTypes[1]? with
  | some [.slice a n c, x], some t, some u => match P.underlying t, P.underlying u, srcOf x with
    | some (.slice e), some _, some src => match P.info? e with
      | some i => match i.zero with
        | some z => match Nat.beq z.cells.size i.size && (!isIntT P u && z.cells.toList.all flat) with
          | true => match P.underlying u with
            | some .string => .gen (appM e i.size i.bytes z.cells.toList ⟨a, n, c⟩ src) Sl.v
            | some (.slice _) => .gen (appM e i.size i.bytes z.cells.toList ⟨a, n, c⟩ src) Sl.v
            | _ => .no
          | false => .no
        | none => .no
      | none => .no
    | _, _, _ => .no
  | _, _, _ => .no
theorem src_flat {size : Nat} {src : Src} {σ : Hp} {vs : List Value} (e : (src.rd size).get σ = some vs) : vs.all flat = true := by
  cases src with
  | sl a n => exact srcR_flat e
  | st s =>
    simp only [Src.rd, constR, Option.some.injEq] at e
    subst e
    simp only [bytesV, List.all_map, List.all_eq_true]
    intro b _
    rfl
theorem zeroCells_toList (z : Array Value) (n : Nat) : (Builtin.zeroCells z n).toList = rep n z.toList := toList_made z n
theorem run_src {P : Program} {B : Nat} {w0 : World} {σ : Hp} {w : World} (hs : Sees B w0 σ w) {x : Value} {src : Src} (hx : srcOf x = some src) {size : Nat} {vs : List Value} (e : (src.rd size).get σ = some vs) :
    (Builtin.lenOf x).run P w = .ok src.n w ∧ (Builtin.firstCells size src.n x).run P w = .ok vs.toArray w := by
  unfold srcOf at hx
  split at hx
  · rename_i a n c
    simp only [Option.some.injEq] at hx
    subst hx
    exact ⟨by simp [Builtin.lenOf, Src.n], run_firstCells hs e⟩
  · rename_i s
    simp only [Option.some.injEq] at hx
    subst hx
    simp only [Src.rd, constR, Option.some.injEq] at e
    subst e
    refine ⟨by simp [Builtin.lenOf, Src.n], ?_⟩
    have : s.extract 0 s.size = s := by
      obtain ⟨d⟩ := s
      simp only [ByteArray.extract, ByteArray.copySlice, ByteArray.size]
      congr 1
      simp
    simp only [Builtin.firstCells, Src.n, this, Sem.run_pure, bytesV]
    congr 1
    apply Array.ext'
    simp
  · simp at hx
theorem add_sub_self (n m : Nat) : n + m - (n + m) = 0 := by omega
/-- An append, wherever what is appended is one-cell values. -/
theorem app_run {P : Program} {t u e ty : TypeId} {i : TypeInfo} {z : Value} {d : TypeDesc} (ht : P.underlying t = some (.slice e)) (hu : P.underlying u = some d) (hui : d = .string ∨ ∃ e', d = .slice e')
    (hi : P.info? e = some i) (hz : i.zero = some z) (hsz : z.cells.size = i.size) {at_ : Array TypeId} (h0 : at_[0]? = some t) (h1 : at_[1]? = some u)
    {a : Option Addr} {n c : Nat} {x : Value} {src : Src} (hx : srcOf x = some src) :
    Good P (do pure (.value (← Builtin.append_ at_ ty #[.slice a n c, x]))) (.gen (appM e i.size i.bytes z.cells.toList ⟨a, n, c⟩ src) Sl.v) := by
  intro B w0 σ w Q hs hq
  obtain ⟨new, enew, hq⟩ := hq
  obtain ⟨hlen, hnew⟩ := run_src (P := P) hs hx enew
  have hfl := src_flat enew
  have hun : (underlying u).run P w = .ok d w := run_underlying hu w
  split at hq
  · rename_i hfit
    simp only at hfit
    have hrun : ∀ (w' : World), (match a with | some a => storeCells (a.add (n * i.size)) new | none => pure ()).run P w = .ok () w' →
        (Builtin.append_ at_ ty #[.slice a n c, x]).run P w = .ok (.slice a (n + src.n) c) w' := by
      intro w' hw'
      cases a with
      | none =>
        have hww : w = w' := by simpa using hw'
        subst hww
        rcases hui with rfl | ⟨e', rfl⟩ <;> simp [Builtin.append_, h0, h1, run_underlying ht, hun, sizeOf, typeInfo, hi, hlen, hfit, hnew]
      | some a' =>
        simp only at hw'
        rcases hui with rfl | ⟨e', rfl⟩ <;> simp [Builtin.append_, h0, h1, run_underlying ht, hun, sizeOf, typeInfo, hi, hlen, hfit, hnew, hw']
    cases a with
    | none =>
      simp only [Sem.run_bind, hrun w rfl, Result.andThen_ok, Sem.run_pure, Leads]
      exact ⟨σ, hs, hq⟩
    | some a' => cases new with
      | nil =>
        simp only [Sem.run_bind, hrun w rfl, Result.andThen_ok, Sem.run_pure, Leads]
        exact ⟨σ, hs, hq⟩
      | cons v vs =>
        obtain ⟨o, o', e1, e2, hQ⟩ := hq
        have hbl : (a'.add (n * i.size)).block = a'.block := by unfold Addr.add; split <;> rfl
        obtain ⟨w', hst, g1, g2, g3, g4⟩ := run_storeCells_obj (P := P) (a := a'.add (n * i.size)) (by rw [hbl]; exact hs.obj _ _ _ e1) e2 hfl
        rw [hbl] at g4
        simp only [Sem.run_bind, hrun w' hst, Result.andThen_ok, Sem.run_pure, Leads]
        exact ⟨_, hs.put e1 g1 g2 g3 g4, hQ⟩
  · rename_i hfit
    simp only at hfit
    obtain ⟨⟨hb1, hb2⟩, old, eold, hq⟩ := hq
    simp only at hb1 hb2
    have hold' : (Builtin.firstCells i.size n (.slice a n c)).run P w.drew = .ok old.toArray w.drew := run_firstCells (P := P) hs.drew (len := n) (cap := c) eold
    have hnew' := (run_src (P := P) hs.drew hx enew).2
    have hgr := growslice_fits (old := c) (need := n + src.n) (bytes := i.bytes) (by omega) hb1
    have hge := grownCap_ge w (n + src.n) c e
    have hle := grownCap_le_maxLen w (n + src.n) c e (by unfold maxLen; omega)
    have n1 : ¬ (9223372036854775807 < (n : Int) + (src.n : Int)) := by omega
    have n2 : ¬ (281474976710656 < Builtin.nextslicecap (n + src.n) c * i.bytes) := by omega
    have hf := hq (grownCap w (n + src.n) c e) ⟨hge, fun _ => by unfold maxLen at hle; omega⟩ w.drew.heap.size hs.drew.fresh
    have hcells : old.toArray ++ new.toArray ++ Builtin.zeroCells z.cells (grownCap w (n + src.n) c e - (n + src.n)) = (old ++ new ++ rep (grownCap w (n + src.n) c e - (n + src.n)) z.cells.toList).toArray := by
      apply Array.ext'
      simp [zeroCells_toList]
    have hrun : (Builtin.append_ at_ ty #[.slice a n c, x]).run P w = .ok (.slice (some ⟨w.drew.heap.size, 0, none⟩) (n + src.n) (grownCap w (n + src.n) c e))
        (w.drew.alloc (.cells (old ++ new ++ rep (grownCap w (n + src.n) c e - (n + src.n)) z.cells.toList).toArray e)) := by
      rw [← hcells]
      rcases hui with rfl | ⟨e', rfl⟩ <;>
        simp [Builtin.append_, h0, h1, run_underlying ht, hun, sizeOf, typeInfo, hi, hlen, hfit, n1, n2, hold', hnew', Question.forced, zeroValue, hz, newRow, grownCap, IntKind.max, IntKind.signed, IntKind.bits] <;>
        (congr 2; apply Array.ext'; simp)
    simp only [Sem.run_bind, hrun, Result.andThen_ok, Sem.run_pure, Leads]
    exact ⟨_, hs.drew.alloc _, hf⟩
theorem app_good {P : Program} {at_ : Array TypeId} {ty : TypeId} {xs : Option (List Value)} {args : Array Value} (hx : ∀ l, xs = some l → args = l.toArray) :
    Good P (do pure (.value (← Builtin.append_ at_ ty args))) (appAct P at_ xs) := by
  unfold appAct
  split
  · rename_i a n c x t u h0 h1
    obtain rfl := hx _ rfl
    split
    · rename_i e d src ht hu hsrc
      split
      · rename_i i hi
        split
        · rename_i z hz
          split
          · rename_i hc
            simp only [Bool.and_eq_true] at hc
            have hsz := Nat.eq_of_beq_eq_true hc.1
            split
            · rename_i hu'
              exact app_run ht hu' (.inl rfl) hi hz hsz h0 h1 hsrc
            · rename_i e' hu'
              exact app_run ht hu' (.inr ⟨_, rfl⟩) hi hz hsz h0 h1 hsrc
            · exact Good.no
          · exact Good.no
        · exact Good.no
      · exact Good.no
    · exact Good.no
  · exact Good.no

end Go.Eng
