/- Maps in memory: what is under a key, what a write and a deletion leave. -/
import Derived.Test.YtanbffihggdcaaaGreatDoorSpec1
set_option linter.unusedVariables false
set_option linter.unusedSimpArgs false
set_option linter.unusedSectionVars false
namespace Go.Eng

section
variable {κ β : Type} [DecidableEq κ]
def lk (k : κ) : List (κ × β) → Option β
  | [] => none
  | p :: ps => if p.1 = k then some p.2 else lk k ps
def kput (k : κ) (v : β) : List (κ × β) → List (κ × β)
  | [] => [(k, v)]
  | p :: ps => if p.1 = k then (k, v) :: ps else p :: kput k v ps
def kdel (k : κ) : List (κ × β) → List (κ × β)
  | [] => []
  | p :: ps => if p.1 = k then ps else p :: kdel k ps
/-- The entries stand for the pairs. -/
def Ents (ek : κ → Value) (ev : β → Value) : List MapEntry → List (κ × β) → Prop
  | [], [] => True
  | e :: es, p :: ps => e.key = ek p.1 ∧ e.val = ev p.2 ∧ Ents ek ev es ps
  | _, _ => False
structure MapAt (ek : κ → Value) (ev : β → Value) (σ : Hp) (b : Nat) (kvs : List (κ × β)) : Prop where
  at_ : ∃ es clock, σ b = some (true, .map es clock) ∧ Ents ek ev es.toList kvs ∧ (es.toList.map (·.born)).Nodup ∧ ∀ e ∈ es.toList, e.born < clock
theorem MapAt.le {ek : κ → Value} {ev : β → Value} {σ τ : Hp} {b : Nat} {kvs : List (κ × β)} (h : MapAt ek ev σ b kvs) (hl : Hp.Le σ τ) : MapAt ek ev τ b kvs := by
  obtain ⟨es, clock, h1, h2⟩ := h.at_
  exact ⟨es, clock, hl _ _ h1, h2⟩
theorem find_none {d : TypeDesc} {ek : κ → Value} {ev : β → Value} (hk : ∀ a b, Instr.sameNow d (ek a) (ek b) = some (decide (a = b))) {k : κ} : ∀ (es : List MapEntry) (kvs : List (κ × β)) (i : Nat), Ents ek ev es kvs → lk k kvs = none →
    Instr.findNow d (ek k) es i = some none
  | [], [], _, _, _ => rfl
  | e :: es, p :: ps, i, h, hn => by
    obtain ⟨h1, h2, h3⟩ := h
    simp only [lk] at hn
    split at hn
    · cases hn
    · rename_i hne
      simp only [Instr.findNow, h1, hk, show decide (k = p.1) = false from decide_eq_false (fun e => hne e.symm)]
      exact find_none hk es ps (i + 1) h3 hn
  | [], _ :: _, _, h, _ => h.elim
  | _ :: _, [], _, h, _ => h.elim
theorem find_some {d : TypeDesc} {ek : κ → Value} {ev : β → Value} (hk : ∀ a b, Instr.sameNow d (ek a) (ek b) = some (decide (a = b))) {k : κ} {v : β} : ∀ (es : List MapEntry) (kvs : List (κ × β)) (i : Nat), Ents ek ev es kvs → lk k kvs = some v →
    ∃ j, j < es.length ∧ Instr.findNow d (ek k) es i = some (some (i + j, ev v)) ∧ (∀ (w : β), Ents ek ev (es.modify j fun e => { e with key := ek k, val := ev w }) (kput k w kvs)) ∧ Ents ek ev (es.eraseIdx j) (kdel k kvs)
  | [], [], _, _, hn => by simp [lk] at hn
  | e :: es, p :: ps, i, h, hn => by
    obtain ⟨h1, h2, h3⟩ := h
    simp only [lk] at hn
    split at hn
    · rename_i he
      simp only [Option.some.injEq] at hn
      subst hn
      refine ⟨0, by simp, ?_, fun w => ?_, ?_⟩
      · simp only [Instr.findNow, h1, hk, show decide (k = p.1) = true from decide_eq_true he.symm, h2, Nat.add_zero]
      · simp only [kput, if_pos he, List.modify_zero_cons]
        exact ⟨rfl, rfl, h3⟩
      · simp only [kdel, if_pos he, List.eraseIdx_zero, List.tail_cons]
        exact h3
    · rename_i hne
      obtain ⟨j, g1, g2, g3, g4⟩ := find_some hk es ps (i + 1) h3 hn
      refine ⟨j + 1, by simp; omega, ?_, fun w => ?_, ?_⟩
      · simp only [Instr.findNow, h1, hk, show decide (k = p.1) = false from decide_eq_false (fun e => hne e.symm), g2]
        congr 3; omega
      · simp only [kput, if_neg hne, List.modify_succ_cons]
        exact ⟨h1, h2, g3 w⟩
      · simp only [kdel, if_neg hne, List.eraseIdx_cons_succ]
        exact ⟨h1, h2, g4⟩
  | [], _ :: _, _, h, _ => h.elim
  | _ :: _, [], _, h, _ => h.elim
theorem MapAt.look {d : TypeDesc} {ek : κ → Value} {ev : β → Value} (hk : ∀ a b, Instr.sameNow d (ek a) (ek b) = some (decide (a = b))) {σ : Hp} {b : Nat} {kvs : List (κ × β)} (h : MapAt ek ev σ b kvs) (k : κ) {ty : Ty} {z : ty.T}
    {dec : β → ty.T} (hd : ∀ v, ty.of (ev v) = some (dec v)) : (lookR d (ek k) (some b) ty z).get σ = some (match lk k kvs with | some v => (dec v, true) | none => (z, false)) := by
  obtain ⟨es, clock, h1, h2, _⟩ := h.at_
  simp only [lookR, h1]
  cases hl : lk k kvs with
  | none => rw [find_none hk _ _ 0 h2 hl]
  | some v =>
    obtain ⟨j, _, g, _⟩ := find_some hk _ _ 0 h2 hl
    rw [g]
    simp only [hd]
theorem Ents.length {ek : κ → Value} {ev : β → Value} : ∀ {es : List MapEntry} {kvs : List (κ × β)}, Ents ek ev es kvs → es.length = kvs.length
  | [], [], _ => rfl
  | e :: es, p :: ps, h => by simp [Ents.length h.2.2]
  | [], _ :: _, h => h.elim
  | _ :: _, [], h => h.elim
theorem Ents.snoc {ek : κ → Value} {ev : β → Value} {k : κ} {v : β} {e : MapEntry} (h1 : e.key = ek k) (h2 : e.val = ev v) : ∀ {es : List MapEntry} {kvs : List (κ × β)}, Ents ek ev es kvs → lk k kvs = none → Ents ek ev (es ++ [e]) (kput k v kvs)
  | [], [], _, _ => ⟨h1, h2, trivial⟩
  | e' :: es, p :: ps, h, hn => by
    simp only [lk] at hn
    split at hn
    · cases hn
    · rename_i hne
      simp only [kput, if_neg hne, List.cons_append]
      exact ⟨h.1, h.2.1, Ents.snoc h1 h2 h.2.2 hn⟩
  | [], _ :: _, h, _ => h.elim
  | _ :: _, [], h, _ => h.elim
theorem MapAt.len {ek : κ → Value} {ev : β → Value} {σ : Hp} {b : Nat} {kvs : List (κ × β)} (h : MapAt ek ev σ b kvs) : (mapLenR (some b)).get σ = some kvs.length := by
  obtain ⟨es, clock, h1, h2, _⟩ := h.at_
  simp only [mapLenR, h1]
  have := h2.length
  simpa using this
theorem MapAt.put {d : TypeDesc} {ek : κ → Value} {ev : β → Value} (hk : ∀ a b, Instr.sameNow d (ek a) (ek b) = some (decide (a = b))) {σ : Hp} {b : Nat} {kvs : List (κ × β)} (h : MapAt ek ev σ b kvs) (k : κ) (v : β) {Q : Unit → Hp → Prop}
    (hQ : ∀ o, MapAt ek ev (σ.set b (true, o)) b (kput k v kvs) → Q () (σ.set b (true, o))) : (mapPutM d (ek k) (ev v) (some b)).run Q σ := by
  obtain ⟨es, clock, h1, h2, h3, h4⟩ := h.at_
  cases hl : lk k kvs with
  | none =>
    refine ⟨b, rfl, _, _, h1, ?_, hQ (.map (es.push { key := ek k, val := ev v, born := clock }) (clock + 1)) ⟨_, _, set_same, ?_, ?_, ?_⟩⟩
    · simp only [updMap, find_none hk _ _ 0 h2 hl]
    · simpa using Ents.snoc (ek := ek) (ev := ev) (k := k) (v := v) (e := { key := ek k, val := ev v, born := clock }) rfl rfl h2 hl
    · simp only [Array.toList_push, List.map_append, List.map_cons, List.map_nil]
      rw [List.nodup_append]
      refine ⟨h3, by simp, ?_⟩
      intro x hx y hy e
      simp only [List.mem_singleton] at hy
      subst hy
      obtain ⟨z, hz, rfl⟩ := List.mem_map.1 hx
      have := h4 z hz
      omega
    · intro e he
      simp only [Array.toList_push, List.mem_append, List.mem_singleton] at he
      rcases he with he | rfl
      · have := h4 e he; omega
      · exact Nat.lt_succ_self _
  | some u =>
    obtain ⟨j, hj, g1, g2, _⟩ := find_some hk _ _ 0 h2 hl
    refine ⟨b, rfl, _, _, h1, ?_, hQ (.map (es.modify j fun e => { e with key := ek k, val := ev v }) clock) ⟨_, _, set_same, ?_, ?_, ?_⟩⟩
    · simp only [updMap, g1, Nat.zero_add]
    · simpa using g2 v
    · have : ((es.modify j fun e => { e with key := ek k, val := ev v }).toList.map (·.born)) = es.toList.map (·.born) := by
        apply List.ext_getElem?
        intro i
        simp only [Array.toList_modify, List.getElem?_map, List.getElem?_modify]
        split
        · cases es.toList[i]? <;> simp
        · simp
      rw [this]; exact h3
    · intro e he
      simp only [Array.toList_modify] at he
      obtain ⟨i, hi, rfl⟩ := List.mem_iff_getElem.1 he
      rw [List.getElem_modify]
      have hi' : i < es.toList.length := by simpa using hi
      have := h4 _ (List.getElem_mem hi')
      split <;> simpa using this
theorem kdel_none {k : κ} : ∀ {kvs : List (κ × β)}, lk k kvs = none → kdel k kvs = kvs
  | [], _ => rfl
  | p :: ps, h => by
    simp only [lk] at h
    split at h
    · cases h
    · rename_i hne; simp only [kdel, if_neg hne, kdel_none h]
theorem sameStr (a b : ByteArray) : Instr.sameNow .string (.string a) (.string b) = some (decide (a = b)) := by
  show some (a == b) = _
  congr 1
  show (a.data == b.data) = _
  by_cases h : a = b
  · subst h; simp
  · have : a.data ≠ b.data := fun e => h (by cases a; cases b; simp_all)
    simp [h, this]
theorem sameInt (k : IntKind) (a b : Int) : Instr.sameNow (.int k) (.int k a) (.int k b) = some (decide (a = b)) := by
  show (if k = k then some (a == b) else none) = _
  rw [if_pos rfl]
  by_cases h : a = b <;> simp [h]
theorem MapAt.del {d : TypeDesc} {ek : κ → Value} {ev : β → Value} (hk : ∀ a b, Instr.sameNow d (ek a) (ek b) = some (decide (a = b))) {σ : Hp} {b : Nat} {kvs : List (κ × β)} (h : MapAt ek ev σ b kvs) (k : κ) {Q : Unit → Hp → Prop}
    (hQ : ∀ o, MapAt ek ev (σ.set b (true, o)) b (kdel k kvs) → Q () (σ.set b (true, o))) : (mapDelM d (ek k) (some b)).run Q σ := by
  obtain ⟨es, clock, h1, h2, h3, h4⟩ := h.at_
  cases hl : lk k kvs with
  | none =>
    refine ⟨b, rfl, _, _, h1, ?_, hQ (.map es clock) ⟨_, _, set_same, ?_, h3, h4⟩⟩
    · simp only [delMap, find_none hk _ _ 0 h2 hl]
    · rw [kdel_none hl]; exact h2
  | some u =>
    obtain ⟨j, hj, g1, _, g2⟩ := find_some hk _ _ 0 h2 hl
    refine ⟨b, rfl, _, _, h1, ?_, hQ (.map (es.eraseIdxIfInBounds j) clock) ⟨_, _, set_same, ?_, ?_, ?_⟩⟩
    · simp only [delMap, g1, Nat.zero_add]
    · simpa [Array.toList_eraseIdxIfInBounds] using g2
    · have : ((es.eraseIdxIfInBounds j).toList.map (·.born)).Sublist (es.toList.map (·.born)) := by
        simp only [Array.toList_eraseIdxIfInBounds]
        exact (List.eraseIdx_sublist _ _).map _
      exact this.nodup h3
    · intro e he
      simp only [Array.toList_eraseIdxIfInBounds] at he
      exact h4 e ((List.eraseIdx_sublist _ _).mem he)
end
end Go.Eng
