/- Aggregates, addresses, slices, conversions, lengths, function values. -/
import Derived.Test.YtanbffihggdcaaaDoorEng4
set_option linter.unusedVariables false
set_option linter.unusedSimpArgs false
namespace Go.Eng
open Go.RowKit

/-! ### Aggregates -/
def setL : List Value → Nat → List Value → List Value
  | l, _, [] => l
  | l, i, v :: vs => setL (l.set i v) (i + 1) vs
theorem toList_writeAt : ∀ (vs : List Value) (i : Nat) (c : Array Value), (writeAt c i vs).toList = setL c.toList i vs
  | [], _, _ => rfl
  | v :: vs, i, c => by simp [writeAt, setL, toList_writeAt vs]
theorem foldl_writeAt (off : Nat) : ∀ (vs : List Value) (k : Nat) (c : Array Value), (vs.zipIdx k).foldl (fun cs (x : Value × Nat) => cs.setIfInBounds (off + x.2) x.1) c = writeAt c (off + k) vs
  | [], _, _ => rfl
  | v :: vs, k, c => by
    simp only [List.zipIdx_cons, List.foldl_cons, writeAt]
    rw [foldl_writeAt off vs (k + 1)]
    rfl
def fillL (place : Nat → Option (Nat × Nat)) : List Value → List (Nat × Value) → Option (List Value)
  | l, [] => some l
  | l, (i, v) :: rest => match place i with
    | some (off, size) => match Nat.beq v.cells.toList.length size && Nat.ble (off + size) l.length with
      | true => fillL place (setL l off v.cells.toList) rest
      | false => none
    | none => none
theorem fillL_fill (place : Nat → Option (Nat × Nat)) : ∀ (parts : List (Nat × Value)) (c : Array Value) (l : List Value), fillL place c.toList parts = some l → Instr.fill place c parts = some l.toArray
  | [], c, l, h => by simp only [fillL, Option.some.injEq] at h; subst h; simp [Instr.fill]
  | (i, v) :: rest, c, l, h => by
    simp only [fillL] at h
    split at h
    · rename_i off size hp
      split at h
      · rename_i hb
        simp only [Bool.and_eq_true] at hb
        have h1 := Nat.eq_of_beq_eq_true hb.1
        have h2 : off + size ≤ c.size := by have := Nat.le_of_ble_eq_true hb.2; simpa using this
        rw [← toList_writeAt] at h
        have ih := fillL_fill place rest _ l h
        simp only [Instr.fill, hp]
        have hsz : v.cells.size = size := by simpa using h1
        rw [if_neg (by rw [hsz]; simp; omega)]
        have hf := foldl_writeAt off v.cells.toList 0 c
        rw [← Array.foldl_toList, Array.toList_zipIdx, hf]
        exact ih
      · simp at h
    · simp at h
def placesL (P : Program) : List Field → Option (List (Nat × Nat))
  | [] => some []
  | f :: fs => match P.info? f.type, placesL P fs with
    | some i, some l => some ((f.offset, i.size) :: l)
    | _, _ => none
theorem placesL_eq {P : Program} : ∀ (fs : List Field) (l : List (Nat × Nat)), placesL P fs = some l → fs.mapM (fun f => (P.info? f.type).map fun i => (f.offset, i.size)) = some l
  | [], l, h => by simp only [placesL, Option.some.injEq] at h; subst h; simp
  | f :: fs, l, h => by
    simp only [placesL] at h
    split at h
    · rename_i i l' hi hl
      simp only [Option.some.injEq] at h
      subst h
      simp [List.mapM_cons, hi, placesL_eq fs l' hl]
    · simp at h
def builtL (P : Program) (t : TypeId) (parts : List (Nat × Value)) : Option (List Value) := match P.info? t, P.underlying t with
  | some it, some (.array _ e) => match it.zero, P.info? e with
    | some z, some ie => fillL (fun i => some (i * ie.size, ie.size)) z.cells.toList parts
    | _, _ => none
  | some it, some (.struct fields) => match it.zero, placesL P fields.toList with
    | some z, some places => fillL (fun i => places[i]?) z.cells.toList parts
    | _, _ => none
  | _, _ => none
theorem builtL_eq {P : Program} {t : TypeId} {parts : List (Nat × Value)} {l : List Value} (h : builtL P t parts = some l) : P.built t parts = some l.toArray := by
  unfold builtL at h
  unfold Program.built
  split at h
  · rename_i it d e h1 h2
    rw [h1, h2]
    split at h
    · rename_i z ie hz hie
      simp only [hz, hie]
      exact fillL_fill _ _ _ _ h
    · simp at h
  · rename_i it fields h1 h2
    rw [h1, h2]
    split at h
    · rename_i z places hz hp
      simp only [hz, placesL_eq _ _ hp]
      have := fillL_fill _ _ _ _ h
      simpa using this
    · simp at h
  · simp at h
def evs (env : Env) : List Operand → Option (List Value)
  | [] => some []
  | x :: xs => match ev env x, evs env xs with
    | some v, some vs => some (v :: vs)
    | _, _ => none
def evp (env : Env) : List (Nat × Operand) → Option (List (Nat × Value))
  | [] => some []
  | (i, x) :: xs => match ev env x, evp env xs with
    | some v, some vs => some ((i, v) :: vs)
    | _, _ => none
theorem evs_eq {env : Env} {ρ : Operand → Value} (h : ∀ x v, ev env x = some v → ρ x = v) : ∀ (xs : List Operand) (vs : List Value), evs env xs = some vs → xs.map ρ = vs
  | [], vs, e => by simp only [evs, Option.some.injEq] at e; subst e; rfl
  | x :: xs, vs, e => by
    simp only [evs] at e
    split at e
    · rename_i v us hv hus
      simp only [Option.some.injEq] at e
      subst e
      simp [h x v hv, evs_eq h xs us hus]
    · simp at e
theorem evp_eq {env : Env} {ρ : Operand → Value} (h : ∀ x v, ev env x = some v → ρ x = v) : ∀ (xs : List (Nat × Operand)) (vs : List (Nat × Value)), evp env xs = some vs → xs.map (fun p => (p.1, ρ p.2)) = vs
  | [], vs, e => by simp only [evp, Option.some.injEq] at e; subst e; rfl
  | (i, x) :: xs, vs, e => by
    simp only [evp] at e
    split at e
    · rename_i v us hv hus
      simp only [Option.some.injEq] at e
      subst e
      simp [h x v hv, evp_eq h xs us hus]
    · simp at e
def buildAct (P : Program) (t : TypeId) (parts : Option (List (Nat × Value))) : Act1 := match parts with
  | some ps => match builtL P t ps with
    | some l => .val (.agg l.toArray)
    | none => .no
  | none => .no
theorem build_good {P : Program} {t : TypeId} {ps : Option (List (Nat × Value))} {parts : Array (Nat × Value)} (hp : ∀ l, ps = some l → parts.toList = l) :
    Good P (do pure (.value (← Instr.build t parts))) (buildAct P t ps) := by
  unfold buildAct
  split
  · rename_i l
    have := hp _ rfl
    split
    · rename_i cs hcs
      refine Good.val fun w => ?_
      rw [← this] at hcs
      simp [run_build w t parts _ (builtL_eq hcs)]
    · exact Good.no
  · exact Good.no
def rep (n : Nat) (l : List Value) : List Value := (List.replicate n l).flatten
theorem toList_made (z : Array Value) (n : Nat) : ((Array.range (n * z.size)).map (z[· % z.size]!)).toList = rep n z.toList := by
  induction n with
  | zero => simp [rep]
  | succ n ih =>
    have hz : z.toList.length = z.size := by simp
    rw [Nat.succ_mul, Array.toList_map, Array.toList_range, List.range_add]
    rw [Array.toList_map, Array.toList_range] at ih
    rw [List.map_append, ih]
    unfold rep
    rw [List.replicate_succ', List.flatten_append]
    simp only [List.flatten_cons, List.flatten_nil, List.append_nil]
    congr 1
    rw [List.map_map]
    apply List.ext_getElem
    · simp
    · intro i h1 h2
      simp only [List.length_map, List.length_range] at h1
      simp [Nat.mul_add_mod_self_right, Nat.mod_eq_of_lt h1, h1, Nat.add_mod]
def buildSliceAct (P : Program) (t : TypeId) (len : Nat) (parts : Option (List (Nat × Value))) : Act1 := match P.underlying t, parts with
  | some (.slice e), some ps => match P.info? e with
    | some i => match i.zero with
      | some z => match Nat.beq z.cells.size i.size && (Nat.ble (len * i.size) 16777216 && Nat.ble 1 (len * i.size)) with
        | true => match fillL (fun k => some (k * i.size, i.size)) (rep len z.cells.toList) ps with
          | some l => .new (.cells l.toArray e) fun b => .slice (some ⟨b, 0, none⟩) len len
          | none => .no
        | false => match ps with
          | [] => match Nat.beq (len * i.size) 0 with
            | true => .new (.cells #[] e) fun b => .slice (some ⟨b, 0, none⟩) len len
            | false => .no
          | _ => .no
      | none => .no
    | none => .no
  | _, _ => .no
theorem buildSlice_good {P : Program} {t : TypeId} {len : Nat} {ps : Option (List (Nat × Value))} {parts : Array (Nat × Value)} (hp : ∀ l, ps = some l → parts.toList = l) :
    Good P (do pure (.value (← Instr.buildSlice t len parts))) (buildSliceAct P t len ps) := by
  unfold buildSliceAct
  split
  · rename_i e l ht
    have hl := hp _ rfl
    split
    · rename_i i hi
      split
      · rename_i z hz
        split
        · rename_i hc
          simp only [Bool.and_eq_true] at hc
          have h1 := Nat.eq_of_beq_eq_true hc.1
          have h2 := Nat.le_of_ble_eq_true hc.2.1
          have h3 := Nat.le_of_ble_eq_true hc.2.2
          split
          · rename_i cs hcs
            refine Good.new fun w => ?_
            have hm := toList_made z.cells len
            rw [← hm] at hcs
            have hf := fillL_fill _ _ _ _ hcs
            rw [h1] at hf
            have hl' : parts = l.toArray := by rw [← hl]
            subst hl'
            have n0 : ¬ (len * i.size = 0) := by omega
            have n1 : ¬ (16777216 < len * i.size) := by omega
            have n2 : ¬ (len = 0 ∨ i.size = 0) := by rw [← Nat.mul_eq_zero]; exact n0
            simp [Instr.buildSlice, run_underlying ht, sizeOf, run_typeInfo w hi, zeroValue, hz, n0, n1, n2, h1, hf, newRow]
          · exact Good.no
        · split
          · split
            · rename_i hb
              have hb := Nat.eq_of_beq_eq_true hb
              refine Good.new fun w => ?_
              have hl' : parts = #[] := by rw [← Array.toArray_toList (xs := parts), hl]
              subst hl'
              simp [Instr.buildSlice, run_underlying ht, sizeOf, run_typeInfo w hi, hb, newRow, Instr.fill, show Array.range 0 = #[] from rfl]
            · exact Good.no
          · exact Good.no
      · exact Good.no
    · exact Good.no
  · exact Good.no
def fieldAct (P : Program) (t : TypeId) (x : Option Value) (f : Nat) : Act1 := match x, P.underlying t with
  | some (.agg arr), some (.struct fs) => match fs[f]? with
    | some fl => match P.underlying fl.type with
      | some _ => match isAggT P fl.type with
        | true => .val (.agg ((arr.toList.drop fl.offset).take (P.cellsOf fl.type)).toArray)
        | false => match arr.toList[fl.offset]? with
          | some v => .val v
          | none => .no
      | none => .no
    | none => .no
  | _, _ => .no
theorem field_good {P : Program} {t : TypeId} {x : Option Value} {f : Nat} {u : Value} (hu : ∀ z, x = some z → z = u) :
    Good P (do pure (.value (← Instr.field t u f))) (fieldAct P t x f) := by
  unfold fieldAct
  split
  · rename_i arr fs ht
    obtain rfl := hu _ rfl
    split
    · rename_i fl hf
      split
      · rename_i d hd
        split
        · rename_i hagg
          refine Good.val fun w => ?_
          simp [Instr.field, run_underlying ht, hf, asAgg, part, run_isAgg hd, hagg, run_sizeOf' hd]
          apply Array.ext'
          simp [Array.toList_extract, List.extract_eq_take_drop]
        · rename_i hagg
          split
          · rename_i v hv
            refine Good.val fun w => ?_
            have hv' : arr[fl.offset]? = some v := by simpa using hv
            simp [Instr.field, run_underlying ht, hf, asAgg, part, run_isAgg hd, hagg, hv']
          · exact Good.no
      · exact Good.no
    · exact Good.no
  · exact Good.no

/-! ### Addresses -/
def fieldAddrAct (P : Program) (t : TypeId) (x : Option Value) (f : Nat) : Act1 := match x, P.underlying t with
  | some (.pointer (some a)), some (.struct fs) => match fs[f]? with
    | some fl => match P.info? fl.type with
      | some i => match Nat.beq i.size 0 with
        | false => .val (.pointer (some (a.add fl.offset)))
        | true => .no
      | none => .no
    | none => .no
  | _, _ => .no
theorem fieldAddr_good {P : Program} {t : TypeId} {x : Option Value} {f : Nat} {u : Value} (hu : ∀ z, x = some z → z = u) :
    Good P (do pure (.value (← Instr.fieldAt t u f))) (fieldAddrAct P t x f) := by
  unfold fieldAddrAct
  split
  · rename_i a fs ht
    obtain rfl := hu _ rfl
    split
    · rename_i fl hf
      split
      · rename_i i hi
        split
        · rename_i hz
          have hz' : i.size ≠ 0 := by intro h; rw [h] at hz; simp at hz
          refine Good.val fun w => ?_
          simp [Instr.fieldAt, run_underlying ht, hf, Instr.sureAddr, fieldPlace, sizeOf, run_typeInfo w hi, hz']
        · exact Good.no
      · exact Good.no
    · exact Good.no
  · exact Good.no
def indexAddrAct (P : Program) (t : TypeId) (x ix : Option Value) : Act1 := match x, ix, P.underlying t with
  | some (.slice p len _), some (.int k i), some (.slice e) => match P.info? e with
    | some inf => .nn (0 ≤ i ∧ i < len) p fun a => .pointer (some (a.add (i.toNat * inf.size)))
    | none => .no
  | some (.pointer (some a)), some (.int k i), some (.array n e) => match P.info? e with
    | some inf => .chk (0 ≤ i ∧ i < n) (.pointer (some (a.add (i.toNat * inf.size))))
    | none => .no
  | _, _, _ => .no
theorem indexAddr_good {P : Program} {t : TypeId} {x ix : Option Value} {u v : Value} (hu : ∀ z, x = some z → z = u) (hv : ∀ z, ix = some z → z = v) :
    Good P (do pure (.value (← Instr.indexAt t u v))) (indexAddrAct P t x ix) := by
  unfold indexAddrAct
  split
  · rename_i p len cap k i e ht
    obtain rfl := hu _ rfl
    obtain rfl := hv _ rfl
    split
    · rename_i inf hi
      refine Good.nn fun a ha hc w => ?_
      subst ha
      simp [Instr.indexAt, asIntOf, run_underlying ht, sizeOf, run_typeInfo w hi, hc]
    · exact Good.no
  · rename_i a k i n e ht
    obtain rfl := hu _ rfl
    obtain rfl := hv _ rfl
    split
    · rename_i inf hi
      refine Good.chk fun hc w => ?_
      simp [Instr.indexAt, asIntOf, run_underlying ht, Instr.sureAddr, sizeOf, run_typeInfo w hi, hc]
    · exact Good.no
  · exact Good.no
def byteAt (s : ByteArray) (i : Int) : Int := match s[i.toNat]? with
  | some b => b.toNat
  | none => 0
def indexAct (P : Program) (t : TypeId) (x ix : Option Value) : Act1 := match x, ix, P.underlying t with
  | some (.string s), some (.int k i), some .string => .chk (0 ≤ i ∧ i < s.size) (.int .u8 (byteAt s i))
  | _, _, _ => .no
theorem index_good {P : Program} {t : TypeId} {x ix : Option Value} {u v : Value} (hu : ∀ z, x = some z → z = u) (hv : ∀ z, ix = some z → z = v) :
    Good P (do pure (.value (← Instr.index t u v))) (indexAct P t x ix) := by
  unfold indexAct
  split
  · rename_i s k i ht
    obtain rfl := hu _ rfl
    obtain rfl := hv _ rfl
    refine Good.chk fun hc w => ?_
    have hlt : i.toNat < s.size := by omega
    have hb : s[i.toNat]? = some (s[i.toNat]'hlt) := by simp [getElem?_pos, hlt]
    simp [Instr.index, asIntOf, run_underlying ht, hc.1, byteAt, hb]
  · exact Good.no
def nilCheckAct (x : Option Value) : Act1 := match x with
  | some (.pointer p) => .nn True p fun a => .pointer (some a)
  | _ => .no
def extractAct (x : Option Value) (i : Nat) : Act1 := match x with
  | some (.tuple vs) => match vs.toList[i]? with
    | some v => .val v
    | none => .no
  | _ => .no
theorem extract_good {P : Program} {x : Option Value} {i : Nat} {u : Value} (hu : ∀ z, x = some z → z = u) : Good P (do pure (.value (← Instr.extract u i))) (extractAct x i) := by
  unfold extractAct
  split
  · obtain rfl := hu _ rfl
    split
    · rename_i v hv
      refine Good.val fun w => ?_
      have hv' := hv
      simp only [Array.getElem?_toList] at hv'
      simp [Instr.extract, hv']
    · exact Good.no
  · exact Good.no

/-! ### Slicing -/
def optInt (x : Option Operand) (env : Env) : Option (Option Int) := match x with
  | none => some none
  | some o => match ev env o with
    | some (.int _ n) => some (some n)
    | _ => none
def sliceAct (P : Program) (t : TypeId) (x : Option Value) (lo hi mx : Option (Option Int)) : Act1 := match x, P.underlying t, lo, hi, mx with
  | some (.string s), some .string, some l, some h, some none =>
    let l' := l.getD 0
    let h' := h.getD s.size
    .chk (0 ≤ l' ∧ l' ≤ h' ∧ h' ≤ s.size) (.string (s.extract l'.toNat h'.toNat))
  | some (.slice a len cap), some (.slice e), some l, some h, some m => match P.info? e with
    | some i => match (m.isSome && h.isNone) with
      | true => .no
      | false =>
        let l' := l.getD 0
        let h' := h.getD len
        let m' := m.getD cap
        .chk (0 ≤ l' ∧ l' ≤ h' ∧ h' ≤ m' ∧ m' ≤ cap) (.slice (if m'.toNat = l'.toNat then a else a.map (·.add (l'.toNat * i.size))) (h'.toNat - l'.toNat) (m'.toNat - l'.toNat))
    | none => .no
  | _, _, _, _, _ => .no
theorem run_sliceAt_any {P : Program} {t : TypeId} {x : Value} {lo hi mx : Option Value} (h : ∀ n e, P.underlying t ≠ some (.array n e)) {d : TypeDesc} (hd : P.underlying t = some d) (w : World) :
    (Instr.sliceAt t x lo hi mx).run P w = (Instr.slice t x lo hi mx).run P w := by
  unfold Instr.sliceAt
  simp only [Sem.run_bind, run_underlying hd, Result.andThen_ok]
  cases d <;> first | rfl | (exact absurd hd (h _ _))
theorem optInt_eq {o : Option Operand} {env : Env} {ρ : Operand → Value} (h : ∀ x v, ev env x = some v → ρ x = v) {l : Option Int} (e : optInt o env = some l) :
    (l = none ∧ o.map ρ = none) ∨ ∃ k n, l = some n ∧ o.map ρ = some (.int k n) := by
  unfold optInt at e
  split at e
  · simp only [Option.some.injEq] at e; subst e; exact .inl ⟨rfl, rfl⟩
  · split at e
    · rename_i k n hk
      simp only [Option.some.injEq] at e; subst e
      exact .inr ⟨k, n, rfl, by simp [h _ _ hk]⟩
    · simp at e
theorem slice_good {P : Program} {t : TypeId} {x : Option Value} {lo hi mx : Option Operand} {env : Env} {ρ : Operand → Value} (h : ∀ x v, ev env x = some v → ρ x = v) {u : Value} (hu : ∀ z, x = some z → z = u) :
    Good P (do pure (.value (← Instr.sliceAt t u (lo.map ρ) (hi.map ρ) (mx.map ρ)))) (sliceAct P t x (optInt lo env) (optInt hi env) (optInt mx env)) := by
  unfold sliceAct
  split
  · rename_i s l hh ht hl hhi hmx
    obtain rfl := hu _ rfl
    refine Good.chk fun hc w => ?_
    rw [Sem.run_bind, run_sliceAt_any (by simp [ht]) ht]
    have hl2 := optInt_eq h hl
    have hh2 := optInt_eq h hhi
    have hm2 := optInt_eq h hmx
    rcases hm2 with ⟨_, em⟩ | ⟨k, n, e, _⟩
    · rcases hl2 with ⟨rfl, el⟩ | ⟨k, n, rfl, el⟩ <;> rcases hh2 with ⟨rfl, eh⟩ | ⟨k', n', rfl, eh⟩ <;>
        simp only [Option.getD_some, Option.getD_none] at hc <;> obtain ⟨c1, c2, c3⟩ := hc <;>
        simp (disch := omega) [em, el, eh, Instr.slice, run_underlying ht, Instr.sliceBounds, run_sliceBound]
    · simp at e
  · rename_i a len cap e l hh m ht hl hhi hmx
    obtain rfl := hu _ rfl
    split
    · rename_i i hi'
      split
      · exact Good.no
      · rename_i hb
        refine Good.chk fun hc w => ?_
        rw [Sem.run_bind, run_sliceAt_any (by simp [ht]) ht]
        have hl2 := optInt_eq h hl
        have hh2 := optInt_eq h hhi
        have hm2 := optInt_eq h hmx
        rcases hm2 with ⟨rfl, em⟩ | ⟨k2, n2, rfl, em⟩ <;> rcases hl2 with ⟨rfl, el⟩ | ⟨k, n, rfl, el⟩ <;> rcases hh2 with ⟨rfl, eh⟩ | ⟨k', n', rfl, eh⟩ <;>
          simp only [Option.getD_some, Option.getD_none] at hc <;> try (simp at hb; done)
        all_goals
          obtain ⟨c1, c2, c3, c4⟩ := hc
          simp (disch := omega) [em, el, eh, Instr.slice, run_underlying ht, Instr.sliceBounds, run_sliceBound, sizeOf, run_typeInfo w hi']
    · exact Good.no
  · exact Good.no

end Go.Eng
