/- The other operations, calls, and all of them together. -/
import Derived.Test.YtanbffihggdcaaaDoorEng7
set_option linter.unusedVariables false
set_option linter.unusedSimpArgs false
namespace Go.Eng
open Go.RowKit

/-! ### Conversions -/
def u8s : List Value → Option (List UInt8)
  | [] => some []
  | .int .u8 n :: vs => (u8s vs).map fun l => UInt8.ofNat n.toNat :: l
  | _ => none
def bytesR (a : Option Addr) (n : Nat) : Rd ByteArray where
  get σ := match a with
    | none => some .empty
    | some ad => match ldVs σ ad 0 n with
      | some vs => (u8s vs).map fun l => ⟨l.toArray⟩
      | none => none
  mono σ τ r h e := by
    cases a with
    | none => exact e
    | some ad =>
      simp only at e ⊢
      split at e
      · rename_i vs hv; rw [ldVs_le h _ _ _ _ hv]; exact e
      · simp at e
theorem u8s_eq : ∀ (vs : List Value) (l : List UInt8), u8s vs = some l → ∃ ns : List Int, vs = ns.map (Value.int .u8) ∧ l = ns.map fun n => UInt8.ofNat n.toNat
  | [], l, h => by simp only [u8s, Option.some.injEq] at h; subst h; exact ⟨[], rfl, rfl⟩
  | v :: vs, l, h => by
    unfold u8s at h
    split at h
    · rename_i h'; simp at h'
    · rename_i n vs' h'
      simp only [List.cons.injEq] at h'
      obtain ⟨rfl, rfl⟩ := h'
      cases e : u8s vs with
      | none => simp [e] at h
      | some l' =>
        simp only [e, Option.map_some, Option.some.injEq] at h
        subst h
        obtain ⟨ns, h1, h2⟩ := u8s_eq vs l' e
        exact ⟨n :: ns, by simp [h1], by simp [h2]⟩
    · simp at h
theorem foldl_push : ∀ (ns : List Int) (acc : ByteArray), ns.foldl (fun r n => r.push (UInt8.ofNat n.toNat)) acc = ⟨acc.data ++ (ns.map fun n => UInt8.ofNat n.toNat).toArray⟩
  | [], acc => by simp
  | n :: ns, acc => by
    simp only [List.foldl_cons, foldl_push ns, List.map_cons]
    congr 1
    simp [ByteArray.push]
def bytesM (e : TypeId) (s : ByteArray) : M Sl :=
  M.any (fun c => s.size ≤ c ∧ (s.size ≤ 9223372036854775807 → c ≤ 9223372036854775807)) ⟨s.size, Nat.le_refl _, id⟩ fun c => M.new (.cells (bytesRow s c) e ((bytesRow s c).size, (bytesRow s c).size + 1)) fun b => M.pure ⟨some ⟨b, 0, none⟩, s.size, c⟩
def convAct (P : Program) (src dst : TypeId) (x : Option Value) : Act1 := match P.underlying src, P.underlying dst, x with
  | some _, some (.int k), some (.int _ n) => .val (.int k (k.wrap n))
  | some _, some .string, some (.string s) => .val (.string s)
  | some (.slice e), some .string, some (.slice a n c) => match P.underlying e with
    | some (.int .u8) => .rd (bytesR a n) fun s => .string s
    | _ => .no
  | some .string, some (.slice e), some (.string s) => match P.underlying e with
    | some (.int .u8) => .gen (M.chk (s.size ≤ 9223372036854775807) (bytesM e s)) Sl.v
    | _ => .no
  | _, _, _ => .no
theorem conv_good {P : Program} {src dst : TypeId} {x : Option Value} {u : Value} (hu : ∀ z, x = some z → z = u) : Good P (do pure (.value (← convert src dst u))) (convAct P src dst x) := by
  unfold convAct
  split
  · rename_i d k k' n h1 h2
    obtain rfl := hu _ rfl
    exact Good.val fun w => by simp [convert, run_underlying h1, run_underlying h2, Conv.intToInt]
  · rename_i d s h1 h2
    obtain rfl := hu _ rfl
    exact Good.val fun w => by simp [convert, run_underlying h1, run_underlying h2]
  · rename_i e a n c h1 h2
    obtain rfl := hu _ rfl
    split
    · rename_i he
      refine Good.rd fun B w0 σ w r hs er => ?_
      cases a with
      | none =>
        simp only [bytesR, Option.some.injEq] at er
        subst er
        simp [convert, run_underlying h1, run_underlying h2, run_underlying he, Conv.bytesToString]
      | some ad =>
        simp only [bytesR] at er
        split at er
        · rename_i vs hvs
          cases hb : u8s vs with
          | none => simp [hb] at er
          | some l =>
            simp only [hb, Option.map_some, Option.some.injEq] at er
            subst er
            obtain ⟨ns, rfl, rfl⟩ := u8s_eq vs l hb
            obtain ⟨hl, hc⟩ := ldVs_at hvs
            have hrun := run_loadCells_list (P := P) w ad _ (fun j u hu => hs.cell (by have := hc j u hu; simpa using this))
            rw [hl] at hrun
            have hb2 := run_bytesToString (P := P) w ad n c ns hrun
            rw [foldl_push] at hb2
            simp [convert, run_underlying h1, run_underlying h2, run_underlying he, hb2]
        · simp at er
    · exact Good.no
  · rename_i e s h1 h2
    obtain rfl := hu _ rfl
    split
    · rename_i he
      intro B w0 σ w Q hs hq
      obtain ⟨hsz, hq⟩ := hq
      have hr := run_bytes_of_string (P := P) w src dst e s h1 h2 he
      have hge := grownCap_ge w s.size 0 e
      have hle := grownCap_le_maxLen w s.size 0 e (by unfold maxLen; omega)
      have := hq (grownCap w s.size 0 e) ⟨hge, fun _ => by unfold maxLen at hle; omega⟩ w.drew.heap.size hs.drew.fresh
      simp only [Sem.run_bind, hr, Result.andThen_ok, Sem.run_pure, Leads]
      exact ⟨_, hs.drew.alloc _, this⟩
    · exact Good.no
  · exact Good.no

/-! ### Made slices, made maps -/
def makeSliceAct (P : Program) (t : TypeId) (l c : Option Value) : Act1 := match P.underlying t, l, c with
  | some (.slice e), some (.int _ n), some (.int _ k) => match P.info? e with
    | some i => match i.zero with
      | some z => match Nat.beq z.cells.size i.size with
        | true => .gen (M.chk (0 ≤ n ∧ n ≤ k ∧ (i.bytes : Int) * k ≤ 281474976710656 ∧ k ≤ 9223372036854775807) (M.new (.cells (rep k.toNat z.cells.toList).toArray e) M.pure)) fun b => .slice (some ⟨b, 0, none⟩) n.toNat k.toNat
        | false => .no
      | none => .no
    | none => .no
  | _, _, _ => .no
theorem makeSlice_good {P : Program} {t : TypeId} {l c : Option Value} {u v : Value} (hu : ∀ z, l = some z → z = u) (hv : ∀ z, c = some z → z = v) :
    Good P (do pure (.value (← Instr.makeSlice t u v))) (makeSliceAct P t l c) := by
  unfold makeSliceAct
  split
  · rename_i e k1 n k2 k ht
    obtain rfl := hu _ rfl
    obtain rfl := hv _ rfl
    split
    · rename_i i hi
      split
      · rename_i z hz
        split
        · rename_i hsz
          have hsz := Nat.eq_of_beq_eq_true hsz
          intro B w0 σ w Q hs hq
          obtain ⟨⟨c1, c2, c3, c4⟩, hq⟩ := hq
          have hr := run_make (P := P) w t e i z ht hi hz k1 k2 n k c1 c2 c3 c4
          have hm : madeCells z.cells (k.toNat * i.size) = (rep k.toNat z.cells.toList).toArray := by
            apply Array.ext'
            rw [← hsz]
            exact toList_made z.cells k.toNat
          rw [hm] at hr
          simp only [Sem.run_bind, hr, Result.andThen_ok, Sem.run_pure, Leads]
          exact ⟨_, hs.alloc _, hq _ hs.fresh⟩
        · exact Good.no
      · exact Good.no
    · exact Good.no
  · exact Good.no
def makeMapAct (r : Option Operand) : Act1 := match r with
  | none => .new (.map #[] 0) fun b => .map (some b)
  | some _ => .no
theorem makeMap_good {P : Program} {t : TypeId} {r : Option Operand} {ρ : Operand → Value} : Good P (do pure (.value (← Instr.makeMap t (r.map ρ)))) (makeMapAct r) := by
  unfold makeMapAct
  split
  · exact Good.new fun w => by simp [Instr.makeMap]
  · exact Good.no

/-! ### Copying -/
def copyM (size : Nat) (d : Sl) (x : Src) : M Nat :=
  M.rd (match x with | .sl a n => srcR a (min n d.len * size) | .st s => constR ((bytesV s).take (min s.size d.len * size))) fun new =>
    match d.a, new with
    | some a, v :: vs => M.upd a.block (stObj a (v :: vs)) (M.pure (min x.n d.len))
    | _, _ => M.pure (min x.n d.len)
def copyAct (P : Program) (argTypes : Array TypeId) (args : Option (List Value)) : Act1 := match args, argTypes[0]? with
  | some [.slice a n c, .slice b m k], some t => match P.underlying t with
    | some (.slice e) => match P.info? e with
      | some i => .gen (copyM i.size ⟨a, n, c⟩ (.sl b m)) fun r => .int .i64 r
      | none => .no
    | _ => .no
  | _, _ => .no
theorem copy_good {P : Program} {at_ : Array TypeId} {ty : TypeId} {xs : Option (List Value)} {args : Array Value} (hx : ∀ l, xs = some l → args = l.toArray) :
    Good P (do pure (.value (← Builtin.copy_ at_ ty args))) (copyAct P at_ xs) := by
  unfold copyAct
  split
  · rename_i a n c b m k t hat
    obtain rfl := hx _ rfl
    split
    · rename_i e ht
      split
      · rename_i i hi
        intro B w0 σ w Q hs hq
        obtain ⟨new, enew, hq⟩ := hq
        simp only at enew
        have hfl := srcR_flat enew
        have hfc : (Builtin.firstCells i.size (Nat.min m n) (.slice b m k)).run P w = .ok new.toArray w := run_firstCells (P := P) hs enew
        have hrun : ∀ w', (match a with | some a => storeCells a new | none => pure ()).run P w = .ok () w' →
            (Builtin.copy_ at_ ty #[.slice a n c, .slice b m k]).run P w = .ok (.int .i64 ((min m n : Nat) : Int)) w' := by
          intro w' hw'
          cases a with
          | none =>
            have hww : w = w' := by simpa using hw'
            subst hww
            simp [Builtin.copy_, hat, run_underlying ht, sizeOf, typeInfo, hi, Builtin.lenOf, hfc, goInt]
          | some a' =>
            simp only at hw'
            simp [Builtin.copy_, hat, run_underlying ht, sizeOf, typeInfo, hi, Builtin.lenOf, hfc, hw', goInt]
        cases a with
        | none =>
          simp only [Sem.run_bind, hrun w rfl, Result.andThen_ok, Sem.run_pure, Leads]
          exact ⟨σ, hs, hq⟩
        | some a' => cases new with
          | nil =>
            simp only [Sem.run_bind, hrun w rfl, Result.andThen_ok, Sem.run_pure, Leads]
            exact ⟨σ, hs, hq⟩
          | cons v vs =>
            obtain ⟨o, o', e1, e2, hQ⟩ := hq
            obtain ⟨w', hst, g1, g2, g3, g4⟩ := run_storeCells_obj (P := P) (hs.obj _ _ _ e1) e2 hfl
            simp only [Sem.run_bind, hrun w' hst, Result.andThen_ok, Sem.run_pure, Leads]
            exact ⟨_, hs.put e1 g1 g2 g3 g4, hQ⟩
      · exact Good.no
    · exact Good.no
  · exact Good.no

/-! ### Ranging over a map -/
structure ItSt where
  m : Nat
  since : Nat
  seen : Array Nat
  last : Nat
  es : Array MapEntry
  clock : Nat
def itR (b : Nat) : Rd (Option ItSt) where
  get σ := match σ b with
    | some (_, .mapIter none _ _ _) => some none
    | some (_, .mapIter (some m) since seen last) => match σ m with
      | some (_, .map es clock) => some (some ⟨m, since, seen, last, es, clock⟩)
      | _ => none
    | _ => none
  mono σ τ x h e := by
    cases hs : σ b with
    | none => simp [hs] at e
    | some y =>
      rw [hs] at e
      rw [h _ _ hs]
      obtain ⟨q, o⟩ := y
      cases o <;> simp only at e ⊢ <;> try (simp at e; done)
      rename_i m since seen last
      cases m with
      | none => exact e
      | some m =>
        simp only at e ⊢
        cases hm : σ m with
        | none => simp [hm] at e
        | some z => rw [hm] at e; rw [h _ _ hm]; exact e
def cands (st : ItSt) : Array (Option MapEntry) :=
  let left := st.es.filter fun e => !st.seen.contains e.born
  let old := left.filter (·.born < st.since)
  let new := left.filter (·.born ≥ st.since)
  (if old.isEmpty then #[none] else #[]) ++ (old ++ new).map some
theorem cands_pos (old new : Array MapEntry) : 0 < ((if old.isEmpty then #[none] else #[]) ++ (old ++ new).map some : Array (Option MapEntry)).size := by
  by_cases h : old.isEmpty = true
  · simp only [h, if_true, Array.size_append, List.size_toArray, List.length_cons]; omega
  · simp only [h, Array.size_append, Array.size_map]
    have : old.size ≠ 0 := by simpa [Array.isEmpty] using h
    omega
theorem cands_ex (st : ItSt) : ∃ c, c ∈ cands st := by
  have h : 0 < (cands st).size := cands_pos _ _
  exact ⟨(cands st)[0], Array.getElem_mem h⟩
def nextM (b : Nat) : M (Option (Value × Value)) := M.rd (itR b) fun st => match st with
  | none => M.pure none
  | some st => M.chk (st.seen.isEmpty = true ∨ st.es.isEmpty = true ∨ (st.es.all fun e => decide (e.born ≥ st.last)) = false)
    (M.any (fun c => c ∈ cands st) (cands_ex st) fun c => match c with
      | none => M.pure none
      | some e => M.upd b (fun _ => some (.mapIter (some st.m) st.since (st.seen.push e.born) st.clock)) (M.pure (some (e.key, e.val))))
def entryR (kt et : Ty) (b : Nat) : Rd (kt.T × et.T) where
  get σ := match (itR b).get σ with
    | some (some st) => match st.clock == st.last, st.seen.back? with
      | true, some stamp => match st.es.find? (·.born == stamp) with
        | some e => match kt.of e.key, et.of e.val with
          | some k, some v => some (k, v)
          | _, _ => none
        | none => none
      | _, _ => none
    | _ => none
  mono σ τ x h e := by
    cases hs : (itR b).get σ with
    | none => simp [hs] at e
    | some y => rw [hs] at e; rw [(itR b).mono σ τ y h hs]; exact e
def rangeM (r : Option Nat) : M Nat := match r with
  | none => M.new (.mapIter none 0 #[] 0) M.pure
  | some m => M.rd ⟨fun σ => match σ m with | some (_, .map _ clock) => some clock | _ => none, fun σ τ x h e => by
      cases hs : σ m with
      | none => simp [hs] at e
      | some y => rw [hs] at e; simp only [h _ _ hs]; exact e⟩ fun clock => M.new (.mapIter (some m) clock #[] clock) M.pure
def rangeAct (P : Program) (t : TypeId) (x : Option Value) : Act1 := match P.underlying t, x with
  | some (.map _ _), some (.map r) => .gen (rangeM r) fun b => .pointer (some ⟨b, 0, none⟩)
  | _, _ => .no
theorem range_good {P : Program} {t : TypeId} {x : Option Value} {u : Value} (hu : ∀ z, x = some z → z = u) : Good P (do pure (.value (← Instr.range t u))) (rangeAct P t x) := by
  unfold rangeAct
  split
  · rename_i kt et r ht
    obtain rfl := hu _ rfl
    intro B w0 σ w Q hs hq
    cases r with
    | none =>
      have := hq w.heap.size hs.fresh
      have hr : (Instr.range t (.map none)).run P w = .ok (.pointer (some ⟨w.heap.size, 0, none⟩)) (w.alloc (.mapIter none 0 #[] 0)) := by
        simp [Instr.range, run_underlying ht]
      simp only [Sem.run_bind, hr, Result.andThen_ok, Sem.run_pure, Leads]
      exact ⟨_, hs.alloc _, this⟩
    | some m =>
      obtain ⟨clock, ec, hq⟩ := hq
      simp only at ec
      cases hm : σ m with
      | none => simp [hm] at ec
      | some y =>
        obtain ⟨q, o⟩ := y
        rw [hm] at ec
        cases o <;> simp only at ec <;> try (simp at ec; done)
        rename_i es cl
        simp only [Option.some.injEq] at ec
        subst ec
        have := hq w.heap.size hs.fresh
        have hr : (Instr.range t (.map (some m))).run P w = .ok (.pointer (some ⟨w.heap.size, 0, none⟩)) (w.alloc (.mapIter (some m) cl #[] cl)) := by
          simp [Instr.range, run_underlying ht, run_getMap (P := P) (hs.obj _ _ _ hm)]
        simp only [Sem.run_bind, hr, Result.andThen_ok, Sem.run_pure, Leads]
        exact ⟨_, hs.alloc _, this⟩
  · exact Good.no
theorem itR_get {b : Nat} {σ : Hp} {st : Option ItSt} (e : (itR b).get σ = some st) : match st with
    | none => ∃ q s1 s2 s3, σ b = some (q, .mapIter none s1 s2 s3)
    | some st => (∃ q, σ b = some (q, .mapIter (some st.m) st.since st.seen st.last)) ∧ ∃ q, σ st.m = some (q, .map st.es st.clock) := by
  simp only [itR] at e
  split at e
  · rename_i q s1 s2 s3 hb
    simp only [Option.some.injEq] at e
    subst e
    exact ⟨_, _, _, _, hb⟩
  · rename_i q m s1 s2 s3 hb
    split at e
    · rename_i q2 es cl hm
      simp only [Option.some.injEq] at e
      subst e
      exact ⟨⟨_, hb⟩, ⟨_, hm⟩⟩
    · simp at e
  · simp at e
def nextAct (x : Option Value) (isStr : Bool) : Act1 := match x, isStr with
  | some (.pointer (some ⟨b, 0, none⟩)), false => .br (nextM b) (.tuple #[.bool false]) fun p => .tuple #[.bool true, p.1, p.2]
  | _, _ => .no
theorem next_good {P : Program} {x : Option Value} {isStr : Bool} {ty : TypeId} {u : Value} (hu : ∀ z, x = some z → z = u) : Good P (do pure (.value (← Instr.next u isStr ty))) (nextAct x isStr) := by
  unfold nextAct
  split
  · rename_i b
    obtain rfl := hu _ rfl
    intro B w0 σ w Q hs hq
    obtain ⟨st, est, hq⟩ := hq
    have hget := itR_get est
    cases st with
    | none =>
      obtain ⟨q, s1, s2, s3, hb⟩ := hget
      have hr : (Instr.next (.pointer (some ⟨b, 0, none⟩)) false ty).run P w = .ok (.tuple #[.bool false]) w := by
        have hg : (getObj b).run P w = .ok (.mapIter none s1 s2 s3) w := by simp [getObj, Sem.run, hs.obj _ _ _ hb]
        simp [Instr.next, hg]
      simp only [Sem.run_bind, hr, Result.andThen_ok, Sem.run_pure, Leads]
      exact ⟨σ, hs, hq⟩
    | some st =>
      obtain ⟨⟨q, hb⟩, q2, hm⟩ := hget
      obtain ⟨hc, hq⟩ := hq
      have hg : (getObj b).run P w = .ok (.mapIter (some st.m) st.since st.seen st.last) w := by simp [getObj, Sem.run, hs.obj _ _ _ hb]
      have hgm := run_getMap (P := P) (hs.obj _ _ _ hm)
      have hcnd : (!st.seen.isEmpty && !st.es.isEmpty && st.es.all (·.born ≥ st.last)) = false := by
        rcases hc with h | h | h <;> simp [h]
      have hpos : 0 < (cands st).size := cands_pos _ _
      have key : ∀ (i : Nat) (w1 : World), i < (cands st).size → Sees B w0 σ w1 → (choose (.mapNext (cands st).size)).run P w = .ok i w1 →
          Leads P (fun v w' => ∃ σ', Sees B w0 σ' w' ∧ Q v σ') ((do pure (.value (← Instr.next (.pointer (some ⟨b, 0, none⟩)) false ty)) : Sem Next).run P w) := by
        intro i w1 hi hs1 hch
        have hmem : (cands st)[i]? = some (cands st)[i] := by simp [hi]
        have hq' := hq ((cands st)[i]) (by simp)
        have hset := fun (o' : Obj) => run_setObj (P := P) (o' := o') (hs1.obj _ _ _ hb) (by simp)
        have hcands : ∀ (A : Type) (f : Array (Option MapEntry) → A), f ((if ((st.es.filter fun e => !st.seen.contains e.born).filter (·.born < st.since)).isEmpty then #[none] else #[]) ++
            ((((st.es.filter fun e => !st.seen.contains e.born).filter (·.born < st.since)) ++ ((st.es.filter fun e => !st.seen.contains e.born).filter (·.born ≥ st.since))).map some)) = f (cands st) := fun _ _ => rfl
        cases hci : (cands st)[i] with
        | none =>
          rw [hci] at hq' hmem
          have hr : (Instr.next (.pointer (some ⟨b, 0, none⟩)) false ty).run P w = .ok (.tuple #[.bool false]) w1 := by
            simp only [Instr.next, Sem.run_bind, hg, Result.andThen_ok, hgm, hcnd, Bool.false_eq_true, if_false]
            show ((choose (.mapNext (cands st).size)).run P w).andThen _ = _
            rw [hch]
            show (Sem.run P (match (cands st)[i]? with | some (some e) => _ | some none => _ | none => _) w1) = _
            rw [hmem]
            rfl
          simp only [Sem.run_bind, hr, Result.andThen_ok, Sem.run_pure, Leads]
          exact ⟨σ, hs1, hq'⟩
        | some e =>
          rw [hci] at hq' hmem
          obtain ⟨o, o', e1, e2, hQ⟩ := hq'
          simp only [Option.some.injEq] at e2
          subst e2
          have hr : (Instr.next (.pointer (some ⟨b, 0, none⟩)) false ty).run P w = .ok (.tuple #[.bool true, e.key, e.val]) { w1 with heap := w1.heap.setIfInBounds b (.mapIter (some st.m) st.since (st.seen.push e.born) st.clock) } := by
            simp only [Instr.next, Sem.run_bind, hg, Result.andThen_ok, hgm, hcnd, Bool.false_eq_true, if_false]
            show ((choose (.mapNext (cands st).size)).run P w).andThen _ = _
            rw [hch]
            show (Sem.run P (match (cands st)[i]? with | some (some e) => _ | some none => _ | none => _) w1) = _
            rw [hmem]
            simp only [Sem.run_bind, hset, Result.andThen_ok, Sem.run_pure]
          simp only [Sem.run_bind, hr, Result.andThen_ok, Sem.run_pure, Leads]
          exact ⟨_, hs1.put e1 rfl rfl rfl rfl, hQ⟩
      by_cases hf : (Question.mapNext (cands st).size).forced = true
      · exact key 0 w hpos hs (by rw [run_choose, if_pos hf])
      · refine key _ _ ?_ hs.drew (by rw [run_choose, if_neg hf]; rfl)
        exact Nat.mod_lt _ hpos
  · exact Good.no
def entryAct (its : List (Nat × (Ty × Ty))) (o : Operand) (x : Option Value) : Act1 := match x, o with
  | some (.pointer (some ⟨b, 0, none⟩)), .tmp t => match its.lookup t with
    | some (kt, et) => .rd (entryR kt et b) fun p => .tuple #[kt.val p.1, et.val p.2]
    | none => .no
  | _, _ => .no
theorem entry_good {P : Program} {its : List (Nat × (Ty × Ty))} {o : Operand} {x : Option Value} {u : Value} (hu : ∀ z, x = some z → z = u) : Good P (do pure (.value (← Instr.entry u))) (entryAct its o x) := by
  unfold entryAct
  split
  · rename_i b t
    obtain rfl := hu _ rfl
    split
    · rename_i kt et hl
      refine Good.rd fun B w0 σ w p hs e => ?_
      simp only [entryR] at e
      split at e
      · rename_i st hst
        obtain ⟨⟨q, hb⟩, q2, hm⟩ := itR_get hst
        split at e
        · rename_i stamp hcl hbk
          split at e
          · rename_i en hen
            split at e
            · rename_i k v hk hv
              simp only [Option.some.injEq] at e
              subst e
              have hg : (getObj b).run P w = .ok (.mapIter (some st.m) st.since st.seen st.last) w := by simp [getObj, Sem.run, hs.obj _ _ _ hb]
              have hgm := run_getMap (P := P) (hs.obj _ _ _ hm)
              have hcl' : st.clock = st.last := by simpa using hcl
              simp [Instr.entry, hg, hbk, hgm, hcl', hen, Ty.of_val hk, Ty.of_val hv]
            · simp at e
          · simp at e
        · simp at e
      · simp at e
    · exact Good.no
  · exact Good.no

end Go.Eng
