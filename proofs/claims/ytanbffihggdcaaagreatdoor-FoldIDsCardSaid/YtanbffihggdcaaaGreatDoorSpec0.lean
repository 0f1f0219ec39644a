/- Laws by which the printed texts are read: loads, stores, new blocks, what stays known. -/
import Derived.Test.YtanbffihggdcaaaGreatDoorEng15
set_option linter.unusedVariables false
set_option linter.unusedSimpArgs false
namespace Go.Eng

theorem le_set {σ : Hp} {b : Nat} {x : Bool × Obj} (hb : σ b = none) : Hp.Le σ (σ.set b x) := by
  intro k y hk
  unfold Hp.set
  split
  · rename_i e; subst e; rw [hb] at hk; cases hk
  · exact hk
theorem set_same {σ : Hp} {b : Nat} {x : Bool × Obj} : (σ.set b x) b = some x := by simp [Hp.set]
theorem set_ne {σ : Hp} {b k : Nat} {x : Bool × Obj} (h : k ≠ b) : (σ.set b x) k = σ k := by simp [Hp.set, h]

theorem ldVs_cells {σ : Hp} {b o : Nat} {fl : Bool} {arr : Array Value} {T : TypeId} {fz : Nat × Nat} (hb : σ b = some (fl, .cells arr T fz)) : ∀ (n i : Nat), o + i + n ≤ arr.size →
    ldVs σ ⟨b, o, none⟩ i n = some ((arr.toList.drop (o + i)).take n)
  | 0, i, _ => by simp [ldVs]
  | n + 1, i, h => by
    have hlt : o + i < arr.size := by omega
    have hc : σ.cell? (Addr.add ⟨b, o, none⟩ i) = some arr[o + i] := by
      have h1 : (Addr.add ⟨b, o, none⟩ i) = ⟨b, o + i, none⟩ := by unfold Addr.add; split <;> simp_all
      rw [h1]
      simp [Hp.cell?, hb, hlt]
    have hl : (arr.toList.drop (o + i)) = arr[o + i] :: arr.toList.drop (o + (i + 1)) := by
      rw [List.drop_eq_getElem_cons (by simpa using hlt)]
      simp [Nat.add_assoc]
    simp only [ldVs, hc, ldVs_cells (o := o) hb n (i + 1) (by omega), hl, List.take_succ_cons]
theorem ld_run {B : Type} {cs : List Ce} {b o : Nat} {k : Cs cs → M B} {Q : B → Hp → Prop} {σ : Hp} {fl : Bool} {arr : Array Value} {T : TypeId} {fz : Nat × Nat} {r : Cs cs} (hb : σ b = some (fl, .cells arr T fz))
    (hn : o + cs.length ≤ arr.size) (hr : cso cs ((arr.toList.drop o).take cs.length) = some r) (hk : (k r).run Q σ) : (ld cs ⟨b, o, none⟩ k).run Q σ := by
  refine ⟨r, ?_, hk⟩
  have := ldVs_cells (o := o) hb cs.length 0 (by omega)
  simp only [ldR, this, Nat.add_zero]
  exact hr
theorem st_run {B : Type} {b o : Nat} {k : M B} {Q : B → Hp → Prop} {σ : Hp} {arr : Array Value} {T : TypeId} {vs : List Value} (hb : σ b = some (true, .cells arr T))
    (hn : o + vs.length ≤ arr.size) (hk : k.run Q (σ.set b (true, .cells (writeAt arr o vs) T))) : (st ⟨b, o, none⟩ vs k).run Q σ := by
  refine ⟨_, _, hb, ?_, hk⟩
  simp [stObj, hn]

/-! ### Reading by rewriting -/
def rdL (cs : List Ce) (o : Nat) (vs : List Value) : Option (Cs cs) := match Nat.ble (o + cs.length) vs.length with
  | true => cso cs ((vs.drop o).take cs.length)
  | false => none
def wrL (vs : List Value) (o : Nat) (ws : List Value) : List Value := (writeAt vs.toArray o ws).toList
theorem ldVs_none {σ : Hp} {b o : Nat} {fl : Bool} {arr : Array Value} {T : TypeId} {fz : Nat × Nat} (hb : σ b = some (fl, .cells arr T fz)) (n : Nat) (h : arr.size < o + n) (hn : 0 < n) : ldVs σ ⟨b, o, none⟩ 0 n = none := by
  cases e : ldVs σ ⟨b, o, none⟩ 0 n with
  | none => rfl
  | some vs =>
    obtain ⟨hl, hc⟩ := ldVs_at e
    have hlt : n - 1 < vs.length := by omega
    have := hc (n - 1) vs[n - 1] (by simp [hlt])
    have h1 : (Addr.add ⟨b, o, none⟩ (0 + (n - 1))) = ⟨b, o + (n - 1), none⟩ := by unfold Addr.add; split <;> simp_all
    rw [h1] at this
    simp only [Hp.cell?, hb, Option.isSome_none, Bool.false_eq_true, if_false] at this
    have := (Array.getElem?_eq_some_iff.1 this).1
    omega
theorem ld_ob {B : Type} {cs : List Ce} {b o : Nat} {k : Cs cs → M B} {Q : B → Hp → Prop} {σ : Hp} {fl : Bool} {vs : List Value} {T : TypeId} (hb : σ b = some (fl, ob vs T)) (hn : 0 < cs.length) :
    (ld cs ⟨b, o, none⟩ k).run Q σ ↔ ∃ r, rdL cs o vs = some r ∧ (k r).run Q σ := by
  show (∃ r, (ldR cs ⟨b, o, none⟩).get σ = some r ∧ _) ↔ _
  unfold ob at hb
  have : (ldR cs ⟨b, o, none⟩).get σ = rdL cs o vs := by
    unfold rdL
    split
    · rename_i h
      have h := Nat.le_of_ble_eq_true h
      have := ldVs_cells (o := o) hb cs.length 0 (by simpa using h)
      simp only [ldR, this, Nat.add_zero]
    · rename_i h
      have h : ¬ o + cs.length ≤ vs.length := fun e => by rw [Nat.ble_eq_true_of_le e] at h; cases h
      have := ldVs_none (o := o) hb cs.length (by simp; omega) hn
      simp only [ldR, this]
  rw [this]
theorem st_ob {B : Type} {b o : Nat} {k : M B} {Q : B → Hp → Prop} {σ : Hp} {vs ws : List Value} {T : TypeId} (hb : σ b = some (true, ob vs T)) :
    (st ⟨b, o, none⟩ ws k).run Q σ ↔ o + ws.length ≤ vs.length ∧ k.run Q (σ.set b (true, ob (wrL vs o ws) T)) := by
  show (∃ p q, _ ∧ _ ∧ _) ↔ _
  simp only [hb, ob, Option.some.injEq, Prod.mk.injEq, true_and, exists_eq_left']
  simp [stObj, wrL]
  constructor
  · rintro ⟨q, ⟨h1, rfl⟩, h2⟩; exact ⟨h1, h2⟩
  · rintro ⟨h1, h2⟩; exact ⟨_, ⟨h1, rfl⟩, h2⟩
theorem set_set {σ : Hp} {b : Nat} {x y : Bool × Obj} : (σ.set b x).set b y = σ.set b y := by
  funext k
  unfold Hp.set
  split <;> rfl
theorem add_at (b o i : Nat) : Addr.add ⟨b, o, none⟩ i = ⟨b, o + i, none⟩ := by unfold Addr.add; split <;> simp_all
theorem new_run {B : Type} {o : Obj} {k : Nat → M B} {Q : B → Hp → Prop} {σ : Hp} : (M.new o k).run Q σ ↔ ∀ b, σ b = none → (k b).run Q (σ.set b (true, o)) := Iff.rfl
theorem cnd_run {B : Type} {t : Bool} {x y : M B} {Q : B → Hp → Prop} {σ : Hp} : (cnd t x y).run Q σ ↔ if t = true then x.run Q σ else y.run Q σ := by
  cases t
  · simp [cnd_false]
  · simp [cnd_true]
theorem bind_run {A B : Type} {m : M A} {k : A → M B} {Q : B → Hp → Prop} {σ : Hp} : (M.bind m k).run Q σ ↔ m.run (fun a s => (k a).run Q s) σ := Iff.rfl
theorem pure_run {A : Type} {a : A} {Q : A → Hp → Prop} {σ : Hp} : (M.pure a).run Q σ ↔ Q a σ := Iff.rfl
theorem wi_id {x : Int} (h1 : -9223372036854775808 ≤ x) (h2 : x ≤ 9223372036854775807) : wi x = x := by
  show (if (true && decide (x % (2 ^ 64 : Int) ≥ (2 ^ 63 : Int))) = true then x % (2 ^ 64 : Int) - (2 ^ 64 : Int) else x % (2 ^ 64 : Int)) = x
  split <;> rename_i h <;> simp at h <;> omega
/-- What a reader finds in a block. -/
def rdAt (cs : List Ce) (o : Nat) : Option (Bool × Obj) → Option (Cs cs)
  | some (_, .cells arr _ _) => rdL cs o arr.toList
  | _ => none
def wrAt (o : Nat) (ws : List Value) : Option (Bool × Obj) → Option (Bool × Obj)
  | some (true, x) => (stObj ⟨0, o, none⟩ ws x).map fun y => (true, y)
  | _ => none
theorem rdAt_ob (cs : List Ce) (o : Nat) (fl : Bool) (vs : List Value) (T : TypeId) : rdAt cs o (some (fl, ob vs T)) = rdL cs o vs := rfl
theorem wrAt_ob (o : Nat) (ws vs : List Value) (T : TypeId) : wrAt o ws (some (true, ob vs T)) = if o + ws.length ≤ vs.length then some (true, ob (wrL vs o ws) T) else none := by
  simp only [wrAt, ob, stObj, wrL]
  split
  · rename_i h; rw [if_pos (by simpa using h.2.1)]; simp
  · rename_i h; rw [if_neg (by simpa using h)]; simp
theorem ldR_at {c : Ce} {cs : List Ce} {b o : Nat} {σ : Hp} : (ldR (c :: cs) ⟨b, o, none⟩).get σ = rdAt (c :: cs) o (σ b) := by
  cases hb : σ b with
  | none => simp [ldR, rdAt, ldVs, Hp.cell?, Addr.add, hb]
  | some x =>
    obtain ⟨fl, ob⟩ := x
    cases ob with
    | cells arr T fz =>
      show _ = rdL (c :: cs) o arr.toList
      unfold rdL
      split
      · rename_i h
        have h := Nat.le_of_ble_eq_true h
        have := ldVs_cells (o := o) hb (c :: cs).length 0 (by simpa using h)
        simp only [ldR, this, Nat.add_zero]
      · rename_i h
        have h : ¬ o + (c :: cs).length ≤ arr.toList.length := fun e => by rw [Nat.ble_eq_true_of_le e] at h; cases h
        have := ldVs_none (o := o) hb (c :: cs).length (by simp at h ⊢; omega) (by simp)
        simp only [ldR, this]
    | _ => simp [ldR, rdAt, ldVs, Hp.cell?, Addr.add, hb]
theorem ld_at {B : Type} {cs : List Ce} {b o : Nat} {k : Cs cs → M B} {Q : B → Hp → Prop} {σ : Hp} (hn : 0 < cs.length) :
    (ld cs ⟨b, o, none⟩ k).run Q σ ↔ ∃ r, rdAt cs o (σ b) = some r ∧ (k r).run Q σ := by
  cases cs with
  | nil => simp at hn
  | cons c cs =>
    show (∃ r, (ldR (c :: cs) ⟨b, o, none⟩).get σ = some r ∧ _) ↔ _
    rw [ldR_at]
theorem rdAt_set {cs : List Ce} {o : Nat} {σ : Hp} {b k : Nat} {x : Bool × Obj} : rdAt cs o ((σ.set b x) k) = if k = b then rdAt cs o (some x) else rdAt cs o (σ k) := by
  unfold Hp.set; split <;> rfl
theorem wrAt_set {ws : List Value} {o : Nat} {σ : Hp} {b k : Nat} {x : Bool × Obj} : wrAt o ws ((σ.set b x) k) = if k = b then wrAt o ws (some x) else wrAt o ws (σ k) := by
  unfold Hp.set; split <;> rfl
theorem st_at {B : Type} {b o : Nat} {k : M B} {Q : B → Hp → Prop} {σ : Hp} {ws : List Value} :
    (st ⟨b, o, none⟩ ws k).run Q σ ↔ ∃ x, wrAt o ws (σ b) = some x ∧ k.run Q (σ.set b x) := by
  show (∃ p q, _ ∧ _ ∧ _) ↔ _
  constructor
  · rintro ⟨p, q, h1, h2, h3⟩
    refine ⟨(true, q), ?_, h3⟩
    have h1 : σ b = some (true, p) := h1
    have h2 : stObj ⟨0, o, none⟩ ws p = some q := by cases p <;> exact h2
    simp [wrAt, h1, h2]
  · rintro ⟨x, h1, h2⟩
    unfold wrAt at h1
    split at h1
    · rename_i y hy
      simp only [Option.map_eq_some_iff] at h1
      obtain ⟨z, h3, rfl⟩ := h1
      exact ⟨y, z, hy, by cases y <;> exact h3, h2⟩
    · cases h1
theorem stM_at {b o : Nat} {Q : Unit → Hp → Prop} {σ : Hp} {ws : List Value} : (stM ⟨b, o, none⟩ ws).run Q σ ↔ ∃ x, wrAt o ws (σ b) = some x ∧ Q () (σ.set b x) :=
  st_at (B := Unit) (k := M.pure ()) (Q := Q)
theorem set_get {σ : Hp} {b k : Nat} {x : Bool × Obj} : (σ.set b x) k = if k = b then some x else σ k := rfl
theorem set_none {σ : Hp} {b k : Nat} {x : Bool × Obj} : (σ.set b x) k = none ↔ k ≠ b ∧ b ≠ k ∧ σ k = none := by
  unfold Hp.set
  split
  · rename_i h; simp [h]
  · rename_i h; simp [h, Ne.symm h, eq_comm]
theorem le_sets {σ τ : Hp} {b : Nat} {x : Bool × Obj} (h : Hp.Le σ τ) (hb : σ b = none) : Hp.Le σ (τ.set b x) := by
  intro k y hk
  rw [set_get]
  split
  · rename_i e; subst e; rw [hb] at hk; cases hk
  · exact h k y hk
end Go.Eng
