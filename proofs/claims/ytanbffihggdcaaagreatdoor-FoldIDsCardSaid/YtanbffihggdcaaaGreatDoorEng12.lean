/- Every order that the edges allow is done, where one is. -/
import Derived.Test.YtanbffihggdcaaaGreatDoorEng11
set_option linter.unusedVariables false
set_option linter.unusedSimpArgs false
namespace Go.Eng
open Go.RowKit

def preds (o : Oper) : List Nat := o.after.toList.filterMap fun e => if Region.binds .any e = true then some e.on else none
theorem mem_preds {o : Oper} {p : Nat} : p ∈ preds o ↔ ∃ e ∈ o.after, Region.binds .any e = true ∧ e.on = p := by
  unfold preds
  rw [List.mem_filterMap]
  constructor
  · rintro ⟨e, he, h⟩
    by_cases hb : Region.binds .any e = true
    · simp [hb] at h; exact ⟨e, by simpa using he, hb, h⟩
    · simp [hb] at h
  · rintro ⟨e, he, hb, rfl⟩
    exact ⟨e, by simpa using he, by simp [hb]⟩
def Pred (ops : Array Oper) (p y : Nat) : Prop := ∃ o, ops[y]? = some o ∧ p ∈ preds o
inductive Anc (ops : Array Oper) : Nat → Nat → Prop where
  | one {p y : Nat} : Pred ops p y → Anc ops p y
  | step {x p y : Nat} : Anc ops x p → Pred ops p y → Anc ops x y
def predsAt (ops : Array Oper) (y : Nat) : List Nat := match ops[y]? with
  | some o => preds o
  | none => []
theorem mem_predsAt {ops : Array Oper} {p y : Nat} (h : p ∈ predsAt ops y) : Pred ops p y := by
  unfold predsAt at h
  split at h
  · rename_i o ho; exact ⟨o, ho, h⟩
  · simp at h
/-- Who goes ahead of whom, by the edges. -/
abbrev Tab := List (Nat × List Nat)
def tabAt : Tab → Nat → List Nat
  | [], _ => []
  | (k, l) :: t, y => match Nat.beq k y with
    | true => l
    | false => tabAt t y
def ancs (ops : Array Oper) : List Nat → Tab → Tab
  | [], t => t
  | y :: ys, t => ancs ops ys ((y, (predsAt ops y).flatMap fun p => p :: tabAt t p) :: t)
theorem ancs_ok {ops : Array Oper} : ∀ (ys : List Nat) (t : Tab), (∀ y x, x ∈ tabAt t y → Anc ops x y) → ∀ y x, x ∈ tabAt (ancs ops ys t) y → Anc ops x y
  | [], t, h => h
  | z :: ys, t, h => by
    refine ancs_ok ys _ ?_
    intro y x hx
    simp only [tabAt] at hx
    split at hx
    · rename_i hb
      obtain rfl := Nat.eq_of_beq_eq_true hb
      rw [List.mem_flatMap] at hx
      obtain ⟨p, hp, hx⟩ := hx
      rcases List.mem_cons.1 hx with rfl | hx
      · exact .one (mem_predsAt hp)
      · exact .step (h _ _ hx) (mem_predsAt hp)
    · exact h _ _ hx
def elem (x : Nat) : List Nat → Bool
  | [] => false
  | y :: l => match Nat.beq x y with
    | true => true
    | false => elem x l
theorem elem_iff {x : Nat} : ∀ {l : List Nat}, elem x l = true ↔ x ∈ l
  | [] => by simp [elem]
  | y :: l => by
    simp only [elem]
    split
    · rename_i h; simp [Nat.eq_of_beq_eq_true h]
    · rename_i h
      have : x ≠ y := fun e => by subst e; simp at h
      simp [this, elem_iff]
def unT (t : Tab) (x y : Nat) : Bool := !elem x (tabAt t y)
def pairOk (ops : Array Oper) (t : Tab) (x y : Nat) : Bool := match ops[x]?, ops[y]? with
  | some ox, some oy => !elem y (preds ox) && (elem x (tabAt t y) || swapOk ops ox oy)
  | _, _ => false
def pairsOk (ops : Array Oper) (t : Tab) : List Nat → Bool
  | [] => true
  | x :: l => !elem x (predsAt ops x) && (l.all (pairOk ops t x) && pairsOk ops t l)
def nodupB : List Nat → Bool
  | [] => true
  | x :: l => !elem x l && nodupB l
/-- May the operations be done in this order, whatever order is drawn? -/
def orderOk (n : Nat) (ops : Array Oper) (t : Tab) (C : List Nat) : Bool :=
  nodupB C && (C.all (fun i => Nat.blt i ops.size) && (Nat.beq C.length ops.size && ((List.range ops.size).all (fun i => elem i C)) && (ops.toList.all (fun o => dstOk n o.dst && (preds o).all (fun p => Nat.blt p ops.size)) && pairsOk ops t C)))

section
variable {cx : Cx} {n : Nat} {ops : Array Oper} {un : Nat → Nat → Bool} {K : Env → Hp → Prop}
def Nb (ops : Array Oper) (un : Nat → Nat → Bool) (x y : Nat) : Prop := ∃ ox oy, ops[x]? = some ox ∧ ops[y]? = some oy ∧ swapOk ops ox oy = true ∧ un x y = true
theorem front {i : Nat} {ys : List Nat} : ∀ (xs : List Nat) (pre : Pre) (env : Env) (σ : Hp), Fin σ → (∀ x ∈ xs, Nb ops un x i) → evS cx ops un K (xs ++ i :: ys) pre env σ → evS cx ops un K (i :: (xs ++ ys)) pre env σ
  | [], _, _, _, _, _, h => h
  | x :: xs, pre, env, σ, hf, hx, h => by
    obtain ⟨ox, oi, e1, e2, hs, hu⟩ := hx x (by simp)
    simp only [List.cons_append, evS, e1] at h
    simp only [evS, e2, List.cons_append]
    have h2 : stepA un pre x ox.dst (actG cx ops env ox) env (fun p e s => stepA un p i oi.dst (actG cx ops e oi) e (evS cx ops un K (xs ++ ys)) s) σ := by
      refine stepA_mono hf (fun p e s hfs hk => ?_) h
      have := front xs p e s hfs (fun y hy => hx y (List.mem_cons_of_mem _ hy)) hk
      simp only [evS, e2] at this
      exact this
    have h3 := swap (C := evS cx ops un K (xs ++ ys)) (fun p p' e s hp hc => evS_pre _ p p' e s hp hc) hs hu hf h2
    refine stepA_mono hf (fun p e s hfs hk => ?_) h3
    simp only [e1]
    exact hk
theorem stepA_run {pre : Pre} {i : Nat} {dst : Option Tmp} {A : Act1} {env : Env} {C : Pre → Env → Hp → Prop} {σ : Hp} (h : stepA un pre i dst A env C σ) : A.m.run (fun v s => ∃ p, C p (env.put dst v) s) σ := by
  cases A with
  | no => obtain ⟨v, hv, _⟩ := h; exact hv.elim
  | val v => obtain ⟨u, hu, hc⟩ := h; simp only [Act1.qval] at hu; subst hu; exact ⟨_, hc⟩
  | chk c v => obtain ⟨u, hu, hc⟩ := h; simp only [Act1.qval] at hu; obtain ⟨h1, rfl⟩ := hu; exact ⟨h1, _, hc⟩
  | nn c p f => obtain ⟨u, hu, hc⟩ := h; simp only [Act1.qval] at hu; obtain ⟨a, h1, h2, rfl⟩ := hu; exact ⟨a, h1, h2, _, hc⟩
  | rd f g => obtain ⟨u, hu, hc⟩ := h; simp only [Act1.qval] at hu; obtain ⟨r, h1, rfl⟩ := hu; exact ⟨r, h1, _, hc⟩
  | new ob f => exact fun b hb => ⟨_, h b hb⟩
  | gen m g => exact m.mono _ _ σ (fun r s hr => ⟨_, hr.2⟩) h
  | br m v g => exact h.elim
theorem oper_wp (hcx : cx.Ok) {o : Oper} {env : Env} {a : Act} {w : World} {σ : Hp} {B : Nat} {w0 : World} {Q : Value → Hp → Prop} {next : Act → World → Prop} {Qx : Exit → Act → World → Prop}
    (hs : Sees B w0 σ w) (he : EnvOk n env a) (h : (opAct cx env o.op).m.run Q σ) (hn : ∀ v σ' w', Sees B w0 σ' w' → Q v σ' → next (a.put o.dst v) w') : o.wp cx.P a w next Qx := by
  have hg := opAct_good hcx (env := env) (ρ := a.eval) (fun x v e => he.ev e) o B w0 σ w Q hs h
  exact hg.upon o a next Qx (fun v w' ⟨σ', h1, h2⟩ => hn v σ' w' h1 h2)
theorem yielded_of {env : Env} {a : Act} (he : EnvOk n env a) {j t : Nat} {b : Bool} (hg : gtmp ops j = some t) (ht : env t = some (.bool b)) : yielded ops a.tmps j = some b := by
  unfold gtmp at hg
  unfold yielded
  split at hg
  · rename_i o ho
    simp [ho, hg, he.at_ _ _ ht]
  · simp at hg
theorem yielded_not {env : Env} {a : Act} (he : EnvOk n env a) {j t : Nat} {vs : Array Value} (hg : gtmp ops j = some t) (ht : env t = some (.tuple vs)) : yielded ops a.tmps j = none := by
  unfold gtmp at hg
  unfold yielded
  split at hg
  · rename_i o ho
    simp [ho, hg, he.at_ _ _ ht]
  · simp at hg
theorem wpOp_of (hcx : cx.Ok) {i : Nat} {o : Oper} (ho : ops[i]? = some o) {pre : Pre} {env : Env} {a : Act} {w : World} {σ : Hp} {B : Nat} {w0 : World} {C : Pre → Env → Hp → Prop} {next : Act → World → Prop} {Qx : Exit → Act → World → Prop}
    (hs : Sees B w0 σ w) (he : EnvOk n env a) (hd : dstOk n o.dst = true) (h : stepA un pre i o.dst (actG cx ops env o) env C σ)
    (hn : ∀ p e s a' w', C p e s → Sees B w0 s w' → EnvOk n e a' → a'.defers = a.defers → next a' w') : wpOp cx.P ops Qx i next a w := by
  have hput : ∀ v, (a.put o.dst v).defers = a.defers := fun v => by cases o.dst <;> rfl
  unfold wpOp
  simp only [ho]
  unfold actG at h
  split at h
  · rename_i hg
    simp only [Region.wanted, hg, if_true]
    exact .inl (oper_wp hcx hs he (stepA_run h) (fun v σ' w' hs' ⟨p, hc⟩ => hn p _ σ' _ w' hc hs' (he.put hd v) (hput v)))
  · rename_i j want hg
    split at h
    · obtain ⟨v, hv, _⟩ := h; exact hv.elim
    · rename_i t ht
      split at h
      · rename_i b hb
        have hy := yielded_of he ht hb
        by_cases hbw : b = want
        · rw [if_pos hbw] at h
          simp only [Region.wanted, hg, hy, hbw, beq_self_eq_true, if_true]
          exact .inl (oper_wp hcx hs he (stepA_run h) (fun v σ' w' hs' ⟨p, hc⟩ => hn p _ σ' _ w' hc hs' (he.put hd v) (hput v)))
        · rw [if_neg hbw] at h
          have : (some b == some want) = false := by cases b <;> cases want <;> simp_all
          simp only [Region.wanted, hg, hy, this, Bool.false_eq_true, if_false]
          obtain ⟨v, hv, hc⟩ := h
          simp only [Act1.qval] at hv
          subst hv
          exact hn _ _ _ _ _ hc hs (he.put hd _) (hput _)
      · rename_i vs hb
        have hy := yielded_not he ht hb
        have : ((none : Option Bool) == some want) = false := rfl
        simp only [Region.wanted, hg, hy, this, Bool.false_eq_true, if_false]
        obtain ⟨v, hv, hc⟩ := h
        simp only [Act1.qval] at hv
        subst hv
        exact hn _ _ _ _ _ hc hs (he.put hd _) (hput _)
      · obtain ⟨v, hv, _⟩ := h; exact hv.elim

/-- What holds of the operations still to be done. -/
structure Todo (n : Nat) (ops : Array Oper) (un : Nat → Nat → Bool) (listed : Array Bool) (C : List Nat) : Prop where
  nodup : C.Nodup
  size : listed.size = ops.size
  mem : ∀ j, j ∈ C ↔ j < ops.size ∧ listed.getD j true = false
  pairs : C.Pairwise fun x y => ¬ Pred ops y x ∧ (Anc ops x y ∨ Nb ops un x y)
  self : ∀ x ∈ C, ¬ Pred ops x x
  edges : ∀ y p, Pred ops p y → p < ops.size
  closed : ∀ y p, y < ops.size → listed.getD y true = true → Pred ops p y → listed.getD p true = true
  dst : ∀ (i : Nat) (o : Oper), ops[i]? = some o → dstOk n o.dst = true
theorem getD_tf {listed : Array Bool} {j : Nat} (h : j < listed.size) : listed.getD j true = listed.getD j false := by
  simp [Array.getD, h]
theorem anc_listed {listed : Array Bool} {C : List Nat} (T : Todo n ops un listed C) {x p : Nat} (h : Anc ops x p) : p < ops.size → listed.getD p true = true → listed.getD x true = true := by
  induction h with
  | one hp => exact fun h1 h2 => T.closed _ _ h1 h2 hp
  | step _ hp ih => exact fun h1 h2 => ih (T.edges _ _ hp) (T.closed _ _ h1 h2 hp)
theorem draw_any (hcx : cx.Ok) {B : Nat} {w0 : World} {Qx : Exit → Act → World → Prop} {d : List Deferred}
    (hK : ∀ e s a' w', K e s → Sees B w0 s w' → EnvOk n e a' → a'.defers = d → Qx .normal a' w') :
    ∀ (C : List Nat) (listed : Array Bool) (pre : Pre) (env : Env) (σ : Hp) (a : Act) (w : World), Todo n ops un listed C → Sees B w0 σ w → EnvOk n env a → a.defers = d → evS cx ops un K C pre env σ →
      wpAny cx.P .any ops Qx C.length listed a w := by
  intro C
  generalize hm : C.length = m
  induction m generalizing C with
  | zero =>
    intro listed pre env σ a w T hs he hd h
    have hC : C = [] := List.eq_nil_of_length_eq_zero hm
    subst hC
    refine ⟨?_, hK _ _ _ _ h hs he hd⟩
    apply List.eq_nil_iff_forall_not_mem.2
    intro j hj
    obtain ⟨h0, o, ho, _⟩ := mem_ready.1 hj
    have : j ∈ ([] : List Nat) := (T.mem j).2 ⟨(Array.getElem?_eq_some_iff.1 ho).1, h0⟩
    simp at this
  | succ m ih =>
    intro listed pre env σ a w T hs he hd h
    refine ⟨fun hr => ?_, fun i hi => ?_⟩
    · -- somebody is ready
      exfalso
      cases C with
      | nil => simp at hm
      | cons c rest =>
        obtain ⟨hlt, hun⟩ := (T.mem c).1 (by simp)
        have : c ∈ Region.ready .any ops listed := by
          refine mem_ready.2 ⟨hun, ops[c], by simp [hlt], fun e hep hb => ?_⟩
          have hp : Pred ops e.on c := ⟨ops[c], by simp [hlt], mem_preds.2 ⟨e, hep, hb, rfl⟩⟩
          have hlt2 := T.edges _ _ hp
          cases hl : listed.getD e.on false with
          | true => rfl
          | false =>
            have hmem : e.on ∈ c :: rest := (T.mem _).2 ⟨hlt2, by rw [getD_tf (by rw [T.size]; exact hlt2)]; exact hl⟩
            rcases List.mem_cons.1 hmem with h1 | h1
            · exact (T.self c (by simp) (h1 ▸ hp)).elim
            · exact ((List.pairwise_cons.1 T.pairs).1 _ h1).1 hp |>.elim
        rw [hr] at this
        simp at this
    · obtain ⟨h0, o, ho, hall⟩ := mem_ready.1 hi
      have hlt : i < ops.size := (Array.getElem?_eq_some_iff.1 ho).1
      have hiC : i ∈ C := (T.mem i).2 ⟨hlt, h0⟩
      obtain ⟨xs, ys, rfl⟩ := List.append_of_mem hiC
      have hpw := T.pairs
      rw [List.pairwise_append] at hpw
      obtain ⟨p1, p2, p3⟩ := hpw
      have hnb : ∀ x ∈ xs, Nb ops un x i := by
        intro x hx
        rcases (p3 x hx i (by simp)).2 with ha | hn
        · exfalso
          have hxu := ((T.mem x).1 (by simp [hx])).2
          have hlist : listed.getD x true = true := by
            have hpl : ∀ p, Pred ops p i → listed.getD p true = true := by
              rintro p ⟨o', ho', hp⟩
              have hpi : Pred ops p i := ⟨o', ho', hp⟩
              rw [ho] at ho'
              simp only [Option.some.injEq] at ho'
              subst ho'
              obtain ⟨e, he', hb, rfl⟩ := mem_preds.1 hp
              rw [getD_tf (by rw [T.size]; exact T.edges _ _ hpi)]
              exact hall e he' hb
            cases ha with
            | one hp => exact hpl _ hp
            | step ha hp => exact anc_listed T ha (T.edges _ _ hp) (hpl _ hp)
          rw [hlist] at hxu
          simp at hxu
        · exact hn
      have hf := front xs pre env σ hs.fin hnb h
      simp only [evS, ho] at hf
      have hnd := T.nodup
      rw [List.nodup_append] at hnd
      refine wpOp_of hcx ho hs he (T.dst i o ho) hf (fun p e s a' w' hc hs' he' hd' => ?_)
      have hset : ∀ j, j ≠ i → (listed.setIfInBounds i true).getD j true = listed.getD j true := fun j hj => getD_set_ne true (Ne.symm hj)
      have hseti : (listed.setIfInBounds i true).getD i true = true := by
        simp [Array.getD, T.size, hlt]
      refine ih (xs ++ ys) (by simp at hm ⊢; omega) _ p e s a' w' ⟨?_, by simp [T.size], ?_, ?_, ?_, T.edges, ?_, T.dst⟩ hs' he' (hd'.trans hd) hc
      · rw [List.nodup_append]
        exact ⟨hnd.1, (List.nodup_cons.1 hnd.2.1).2, fun a ha b hb => hnd.2.2 a ha b (List.mem_cons_of_mem _ hb)⟩
      · intro j
        by_cases hj : j = i
        · subst hj
          constructor
          · intro hmem
            exfalso
            rcases List.mem_append.1 hmem with h1 | h1
            · exact hnd.2.2 j h1 j (by simp) rfl
            · exact (List.nodup_cons.1 hnd.2.1).1 h1
          · rintro ⟨_, h1⟩
            rw [hseti] at h1
            simp at h1
        · rw [hset j hj, ← T.mem j]
          simp [hj]
      · rw [List.pairwise_append]
        exact ⟨p1, (List.pairwise_cons.1 p2).2, fun a ha b hb => p3 a ha b (List.mem_cons_of_mem _ hb)⟩
      · intro x hx
        exact T.self x (by
          rcases List.mem_append.1 hx with h1 | h1
          · simp [h1]
          · simp [h1])
      · intro y p hy hl hp
        by_cases hyi : y = i
        · subst hyi
          obtain ⟨o', ho', hp'⟩ := hp
          have hpi : Pred ops p y := ⟨o', ho', hp'⟩
          rw [ho] at ho'
          simp only [Option.some.injEq] at ho'
          subst ho'
          obtain ⟨e, he', hb, rfl⟩ := mem_preds.1 hp'
          have := hall e he' hb
          have hps := T.edges _ _ hpi
          rw [getD_tf (by simp [T.size]; exact hps)]
          exact getD_set_true this
        · rw [hset y hyi] at hl
          have := T.closed y p hy hl hp
          by_cases hpi : p = i
          · subst hpi; exact hseti
          · rw [hset p hpi]; exact this
theorem nodupB_ok : ∀ {l : List Nat}, nodupB l = true → l.Nodup
  | [], _ => List.nodup_nil
  | x :: l, h => by
    simp only [nodupB, Bool.and_eq_true, Bool.not_eq_true'] at h
    refine List.nodup_cons.2 ⟨fun hx => ?_, nodupB_ok h.2⟩
    rw [elem_iff.2 hx] at h
    simp at h
theorem pairsOk_ok {t : Tab} (ht : ∀ y x, x ∈ tabAt t y → Anc ops x y) : ∀ {l : List Nat}, pairsOk ops t l = true → l.Pairwise (fun x y => ¬ Pred ops y x ∧ (Anc ops x y ∨ Nb ops (unT t) x y)) ∧ ∀ x ∈ l, ¬ Pred ops x x
  | [], _ => ⟨List.Pairwise.nil, by simp⟩
  | x :: l, h => by
    simp only [pairsOk, Bool.and_eq_true, Bool.not_eq_true'] at h
    obtain ⟨h1, h2, h3⟩ := h
    obtain ⟨i1, i2⟩ := pairsOk_ok ht h3
    have hself : ¬ Pred ops x x := by
      rintro ⟨o, ho, hp⟩
      have : x ∈ predsAt ops x := by simp [predsAt, ho, hp]
      rw [elem_iff.2 this] at h1
      simp at h1
    refine ⟨List.pairwise_cons.2 ⟨fun y hy => ?_, i1⟩, fun y hy => ?_⟩
    · have hp := List.all_eq_true.1 h2 y hy
      unfold pairOk at hp
      split at hp
      · rename_i ox oy hox hoy
        simp only [Bool.and_eq_true, Bool.not_eq_true', Bool.or_eq_true] at hp
        obtain ⟨g1, g2⟩ := hp
        refine ⟨?_, ?_⟩
        · rintro ⟨o, ho, hpr⟩
          rw [hox] at ho
          simp only [Option.some.injEq] at ho
          subst ho
          rw [elem_iff.2 hpr] at g1
          simp at g1
        · by_cases he : elem x (tabAt t y) = true
          · exact .inl (ht _ _ (elem_iff.1 he))
          · rcases g2 with g2 | g2
            · exact absurd g2 he
            · exact .inr ⟨ox, oy, hox, hoy, g2, by simp [unT, he]⟩
      · simp at hp
    · rcases List.mem_cons.1 hy with rfl | hy
      · exact hself
      · exact i2 y hy
theorem todo_of {t : Tab} (ht : ∀ y x, x ∈ tabAt t y → Anc ops x y) {C : List Nat} (h : orderOk n ops t C = true) : Todo n ops (unT t) (Array.replicate ops.size false) C := by
  simp only [orderOk, Bool.and_eq_true] at h
  obtain ⟨h1, h2, ⟨h3, h6⟩, h4, h5⟩ := h
  have hnd := nodupB_ok h1
  have hlen := Nat.eq_of_beq_eq_true h3
  obtain ⟨p1, p2⟩ := pairsOk_ok ht h5
  have hlt : ∀ x ∈ C, x < ops.size := fun x hx => by have := List.all_eq_true.1 h2 x hx; simpa [Nat.blt_eq] using this
  have hrep : ∀ j, (Array.replicate ops.size false).getD j true = false ↔ j < ops.size := by
    intro j
    by_cases hj : j < ops.size <;> simp [Array.getD, hj]
  have hmem : ∀ j, j < ops.size → j ∈ C := by
    intro j hj
    have := List.all_eq_true.1 h6 j (List.mem_range.2 hj)
    exact elem_iff.1 this
  refine ⟨hnd, by simp, fun j => ?_, p1, p2, ?_, ?_, ?_⟩
  · rw [hrep]
    exact ⟨fun hj => ⟨hlt j hj, hlt j hj⟩, fun hj => hmem j hj.1⟩
  · rintro y p ⟨o, ho, hp⟩
    have ho' : o ∈ ops.toList := by
      have := List.mem_of_getElem? (l := ops.toList) (i := y) (by simpa using ho)
      exact this
    have := List.all_eq_true.1 h4 o ho'
    simp only [Bool.and_eq_true] at this
    have := List.all_eq_true.1 this.2 p hp
    simpa [Nat.blt_eq] using this
  · intro y p hy hl
    exfalso
    rw [(hrep y).2 hy] at hl
    simp at hl
  · intro i o ho
    have ho' : o ∈ ops.toList := List.mem_of_getElem? (l := ops.toList) (i := i) (by simpa using ho)
    have := List.all_eq_true.1 h4 o ho'
    simp only [Bool.and_eq_true] at this
    exact this.1
end

end Go.Eng
