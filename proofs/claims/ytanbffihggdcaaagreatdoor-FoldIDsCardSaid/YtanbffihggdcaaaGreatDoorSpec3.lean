/- A map ranged over: each pair once, in some order. -/
import Derived.Test.YtanbffihggdcaaaGreatDoorSpec2
set_option linter.unusedVariables false
set_option linter.unusedSimpArgs false
set_option linter.unusedSectionVars false
namespace Go.Eng
/-- The iterator of a map that nobody writes to. -/
structure IterAt (σ : Hp) (b m : Nat) (es : Array MapEntry) (clock : Nat) (seen : Array Nat) : Prop where
  it : ∃ last, σ b = some (true, .mapIter (some m) clock seen last) ∧ (seen.size = 0 ∨ last = clock)
  mp : ∃ fl, σ m = some (fl, .map es clock)
theorem cands_old {m : Nat} {clock last : Nat} {seen : Array Nat} {es : Array MapEntry} (h : ∀ e ∈ es, e.born < clock) (c : Option MapEntry) (hc : c ∈ cands ⟨m, clock, seen, last, es, clock⟩) :
    (c = none ∧ ∀ e ∈ es, seen.contains e.born = true) ∨ ∃ e ∈ es, seen.contains e.born = false ∧ c = some e := by
  unfold cands at hc
  simp only at hc
  have hnew : ((es.filter fun e => !seen.contains e.born).filter (·.born ≥ clock)) = #[] := by
    apply Array.filter_eq_empty_iff.2
    intro e he
    have := h e (Array.mem_filter.1 he).1
    simp; omega
  have hold : ((es.filter fun e => !seen.contains e.born).filter (·.born < clock)) = es.filter fun e => !seen.contains e.born := by
    apply Array.filter_eq_self.2
    intro e he
    have := h e (Array.mem_filter.1 he).1
    simp; omega
  rw [hnew, hold] at hc
  simp only [Array.append_empty, Array.mem_append, Array.mem_map, Array.mem_filter] at hc
  rcases hc with hc | ⟨e, ⟨he, hs⟩, rfl⟩
  · split at hc
    · rename_i hemp
      simp only [List.mem_toArray, List.mem_singleton] at hc
      refine .inl ⟨hc, fun e he => ?_⟩
      cases hs : seen.contains e.born
      · exfalso
        have : e ∈ es.filter fun e => !seen.contains e.born := Array.mem_filter.2 ⟨he, by simp only [hs]; rfl⟩
        rw [Array.isEmpty_iff.1 hemp] at this
        simp at this
      · rfl
    · simp at hc
  · exact .inr ⟨e, he, by simpa using hs, rfl⟩
/-- One step: all pairs were handed out; or one more is, that was not yet. -/
theorem next_run {σ : Hp} {b m : Nat} {es : Array MapEntry} {clock : Nat} {seen : Array Nat} (h : IterAt σ b m es clock seen) (hbm : b ≠ m) (hold : ∀ e ∈ es, e.born < clock) {Q : Option (Value × Value) → Hp → Prop}
    (hend : (∀ e ∈ es, seen.contains e.born = true) → Q none σ)
    (hstep : ∀ e ∈ es, seen.contains e.born = false → ∀ x, IterAt (σ.set b x) b m es clock (seen.push e.born) → Q (some (e.key, e.val)) (σ.set b x)) : (nextM b).run Q σ := by
  obtain ⟨last, h1, h2⟩ := h.it
  obtain ⟨fl, h3⟩ := h.mp
  refine ⟨some ⟨m, clock, seen, last, es, clock⟩, by simp only [itR, h1, h3], ?_⟩
  refine ⟨?_, fun c hc => ?_⟩
  · rcases h2 with h2 | h2
    · exact .inl (by simpa [Array.isEmpty] using h2)
    · by_cases he : es.isEmpty = true
      · exact .inr (.inl he)
      · refine .inr (.inr ?_)
        subst h2
        have hne : 0 < es.size := by
          have : es.size ≠ 0 := by simpa [Array.isEmpty] using he
          omega
        cases hall : es.all fun e => decide (e.born ≥ last)
        · rfl
        · rw [Array.all_eq_true] at hall
          have g1 := hall 0 hne
          have g2 := hold es[0] (Array.getElem_mem hne)
          simp only [decide_eq_true_eq] at g1
          omega
  · rcases cands_old hold c hc with ⟨rfl, hall⟩ | ⟨e, he, hs, rfl⟩
    · exact hend hall
    · refine ⟨_, _, h1, rfl, hstep e he hs _ ⟨⟨clock, set_same, .inr rfl⟩, ⟨fl, ?_⟩⟩⟩
      rw [set_ne hbm.symm]; exact h3
/-- The pair that was handed out last. -/
theorem entry_get {σ : Hp} {b m : Nat} {es : Array MapEntry} {clock : Nat} {seen : Array Nat} {e : MapEntry} (h : IterAt σ b m es clock (seen.push e.born)) (he : e ∈ es) (hnd : (es.toList.map (·.born)).Nodup) {kt et : Ty} {k : kt.T} {v : et.T}
    (hk : kt.of e.key = some k) (hv : et.of e.val = some v) : (entryR kt et b).get σ = some (k, v) := by
  obtain ⟨last, h1, h2⟩ := h.it
  obtain ⟨fl, h3⟩ := h.mp
  have hl : last = clock := by
    rcases h2 with h2 | h2
    · simp at h2
    · exact h2
  have hit : (itR b).get σ = some (some ⟨m, clock, seen.push e.born, last, es, clock⟩) := by simp only [itR, h1, h3]
  have hf : es.find? (·.born == e.born) = some e := by
    rw [← Array.find?_toList]
    have hm : e ∈ es.toList := by simpa using he
    clear h1 h2 h3 hit h he
    generalize es.toList = l at hm hnd
    induction l with
    | nil => simp at hm
    | cons x l ih =>
      simp only [List.map_cons, List.nodup_cons] at hnd
      rcases List.mem_cons.1 hm with rfl | hm
      · simp
      · have hne : x.born ≠ e.born := fun e' => hnd.1 (e' ▸ List.mem_map_of_mem hm)
        rw [List.find?_cons_of_neg (by simpa using hne)]
        exact ih hm hnd.2
  simp only [entryR, hit, hl, beq_self_eq_true, Array.back?_push, hf, hk, hv]
/-- What was handed out so far: entries of the map, none twice. -/
structure Seen (es : Array MapEntry) (seen : Array Nat) (vs : List MapEntry) : Prop where
  eq : seen = (vs.map (·.born)).toArray
  mem : ∀ e ∈ vs, e ∈ es
  nodup : (vs.map (·.born)).Nodup
theorem Seen.start (es : Array MapEntry) : Seen es #[] [] := ⟨rfl, by simp, by simp⟩
theorem Seen.push {es : Array MapEntry} {seen : Array Nat} {vs : List MapEntry} (h : Seen es seen vs) {e : MapEntry} (he : e ∈ es) (hs : seen.contains e.born = false) : Seen es (seen.push e.born) (vs ++ [e]) := by
  have hn : e.born ∉ vs.map (·.born) := by
    intro hm
    rw [h.eq] at hs
    simp at hs
    simp at hm
    obtain ⟨a, ha, hb⟩ := hm
    exact hs a ha hb
  refine ⟨by rw [h.eq]; simp, ?_, ?_⟩
  · intro x hx
    rcases List.mem_append.1 hx with hx | hx
    · exact h.mem x hx
    · simp at hx; subst hx; exact he
  · rw [List.map_append, List.nodup_append]
    refine ⟨h.nodup, by simp, ?_⟩
    intro x hx y hy e'
    simp at hy
    subst hy; subst e'
    exact hn hx
theorem born_inj : ∀ {l : List MapEntry}, (l.map (·.born)).Nodup → ∀ {a b : MapEntry}, a ∈ l → b ∈ l → a.born = b.born → a = b
  | [], _, _, _, ha, _, _ => by simp at ha
  | x :: l, hn, a, b, ha, hb, e => by
    simp only [List.map_cons, List.nodup_cons] at hn
    rcases List.mem_cons.1 ha with h1 | h1 <;> rcases List.mem_cons.1 hb with h2 | h2
    · rw [h1, h2]
    · refine absurd ?_ hn.1
      rw [← h1, e]; exact List.mem_map_of_mem h2
    · refine absurd ?_ hn.1
      rw [← h2, ← e]; exact List.mem_map_of_mem h1
    · exact born_inj hn.2 h1 h2 e
theorem Seen.all {es : Array MapEntry} {seen : Array Nat} {vs : List MapEntry} (h : Seen es seen vs) (hnd : (es.toList.map (·.born)).Nodup) (ha : ∀ e ∈ es, seen.contains e.born = true) : vs.Perm es.toList := by
  have n1 : vs.Nodup := List.Pairwise.of_map (S := (· ≠ ·)) (fun x : MapEntry => x.born) (fun a b hab e => hab (e ▸ rfl)) h.nodup
  have n2 : es.toList.Nodup := List.Pairwise.of_map (S := (· ≠ ·)) (fun x : MapEntry => x.born) (fun a b hab e => hab (e ▸ rfl)) hnd
  have inj : ∀ a ∈ es.toList, ∀ b ∈ es.toList, a.born = b.born → a = b := by
    intro a ha b hb e
    exact born_inj hnd ha hb e
  refine (List.perm_ext_iff_of_nodup n1 n2).2 fun a => ⟨fun hm => by simpa using h.mem a hm, fun hm => ?_⟩
  have := ha a (by simpa using hm)
  rw [h.eq] at this
  simp at this
  obtain ⟨b, hb, hbb⟩ := this
  have : b = a := inj b (by simpa using h.mem b hb) a hm hbb
  exact this ▸ hb
end Go.Eng
