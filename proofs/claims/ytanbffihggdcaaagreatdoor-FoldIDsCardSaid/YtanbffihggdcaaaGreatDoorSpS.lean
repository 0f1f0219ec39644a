/- The state: its tree and its bodies; checks, events, what a path names. -/
import Derived.Test.YtanbffihggdcaaaGreatDoorSpT
import Derived.Test.YtanbffihggdcaaaGreatDoorSpB
set_option linter.unusedVariables false
set_option linter.unusedSimpArgs false
namespace Go.Wz
open Go.Proofs Go.Eng
def encI (i : Int) : Value := .int .i64 i
def encB (b : Int × Sl) : Value := .agg #[.int .i64 b.1, .slice b.2.a b.2.len b.2.cap]
structure St where
  tr : Tr
  bodies : List (Int × Bd)
def BodRel (σ : Hp) : List (Int × (Int × Sl)) → List (Int × Bd) → Prop
  | [], [] => True
  | a :: xs, b :: ys => (a.1 = b.1 ∧ a.2.1 = b.2.1 ∧ PartsAt σ a.2.2 b.2.2) ∧ BodRel σ xs ys
  | _, _ => False
theorem BodRel.imp {σ τ : Hp} (f : ∀ s ps, PartsAt σ s ps → PartsAt τ s ps) : ∀ {xs : List (Int × (Int × Sl))} {ys : List (Int × Bd)}, BodRel σ xs ys → BodRel τ xs ys
  | [], [], _ => trivial
  | a :: xs, b :: ys, h => ⟨⟨h.1.1, h.1.2.1, f _ _ h.1.2.2⟩, BodRel.imp f h.2⟩
  | [], _ :: _, h => h.elim
  | _ :: _, [], h => h.elim
theorem BodRel.le {σ τ : Hp} (hl : Hp.Le σ τ) {xs : List (Int × (Int × Sl))} {ys : List (Int × Bd)} (h : BodRel σ xs ys) : BodRel τ xs ys := h.imp fun _ _ h => h.le hl
theorem BodRel.put {σ : Hp} {k : Int} {a : Int × Sl} {b : Bd} (h1 : a.1 = b.1) (h2 : PartsAt σ a.2 b.2) : ∀ {xs : List (Int × (Int × Sl))} {ys : List (Int × Bd)}, BodRel σ xs ys → BodRel σ (kput k a xs) (kput k b ys)
  | [], [], _ => ⟨⟨rfl, h1, h2⟩, trivial⟩
  | x :: xs, y :: ys, h => by
    simp only [kput]
    by_cases e : x.1 = k
    · rw [if_pos e, if_pos (h.1.1 ▸ e)]
      exact ⟨⟨rfl, h1, h2⟩, h.2⟩
    · rw [if_neg e, if_neg (h.1.1 ▸ e)]
      exact ⟨h.1, BodRel.put h1 h2 h.2⟩
  | [], _ :: _, h => h.elim
  | _ :: _, [], h => h.elim
theorem BodRel.del {σ : Hp} {k : Int} : ∀ {xs : List (Int × (Int × Sl))} {ys : List (Int × Bd)}, BodRel σ xs ys → BodRel σ (kdel k xs) (kdel k ys)
  | [], [], _ => trivial
  | x :: xs, y :: ys, h => by
    simp only [kdel]
    by_cases e : x.1 = k
    · rw [if_pos e, if_pos (h.1.1 ▸ e)]
      exact h.2
    · rw [if_neg e, if_neg (h.1.1 ▸ e)]
      exact ⟨h.1, BodRel.del h.2⟩
  | [], _ :: _, h => h.elim
  | _ :: _, [], h => h.elim
def bodyOf (S : St) (id : Int) : Bd := match lk id S.bodies with
  | some b => b
  | none => (0, [])
def rawOf (raw : List (Int × (Int × Sl))) (id : Int) : Int × Sl := match lk id raw with
  | some b => b
  | none => (0, ⟨none, 0, 0⟩)
theorem BodRel.look {σ : Hp} {k : Int} : ∀ {xs : List (Int × (Int × Sl))} {ys : List (Int × Bd)}, BodRel σ xs ys →
    (lk k xs = none ∧ lk k ys = none) ∨ ∃ a b, lk k xs = some a ∧ lk k ys = some b ∧ a.1 = b.1 ∧ PartsAt σ a.2 b.2
  | [], [], _ => .inl ⟨rfl, rfl⟩
  | x :: xs, y :: ys, h => by
    simp only [lk]
    by_cases e : x.1 = k
    · rw [if_pos e, if_pos (h.1.1 ▸ e)]
      exact .inr ⟨_, _, rfl, rfl, h.1.2⟩
    · rw [if_neg e, if_neg (h.1.1 ▸ e)]
      exact BodRel.look h.2
  | [], _ :: _, h => h.elim
  | _ :: _, [], h => h.elim
theorem BodRel.rawOf {σ : Hp} {raw : List (Int × (Int × Sl))} {S : St} (h : BodRel σ raw S.bodies) (k : Int) : (rawOf raw k).1 = (bodyOf S k).1 ∧ PartsAt σ (rawOf raw k).2 (bodyOf S k).2 := by
  unfold Go.Wz.rawOf bodyOf
  rcases h.look (k := k) with ⟨h1, h2⟩ | ⟨a, b, h1, h2, h3, h4⟩
  · rw [h1, h2]; exact ⟨rfl, RowAt.nil none⟩
  · rw [h1, h2]; exact ⟨h3, h4⟩
structure StateAt (σ : Hp) (p tp m bm : Nat) (S : St) : Prop where
  st : ∃ T, σ p = some (true, ob [.pointer (some ⟨tp, 0, none⟩), .map (some bm)] T)
  tr : TreeAt σ tp m S.tr
  bods : ∃ raw, MapP encI encB σ bm raw ∧ BodRel σ raw S.bodies
  ne : m ≠ bm
theorem StateAt.le {σ τ : Hp} {p tp m bm : Nat} {S : St} (h : StateAt σ p tp m bm S) (hl : Hp.Le σ τ) : StateAt τ p tp m bm S := by
  obtain ⟨T, h1⟩ := h.st
  obtain ⟨raw, h2, h3⟩ := h.bods
  exact ⟨⟨T, hl _ _ h1⟩, h.tr.le hl, ⟨raw, h2.le hl, h3.le hl⟩, h.ne⟩
theorem _root_.Go.Eng.MapP.obj {κ β : Type} [DecidableEq κ] {ek : κ → Value} {ev : β → Value} {σ : Hp} {b : Nat} {kvs : List (κ × β)} (h : MapP ek ev σ b kvs) : ∃ es c, σ b = some (true, .map es c) := by
  obtain ⟨raw, q1, _⟩ := h.at_
  obtain ⟨es, c, q2, _⟩ := q1.at_
  exact ⟨es, c, q2⟩
/-- Parts live on where the state's own blocks alone change. -/
theorem StateAt.parts {σ τ : Hp} {p tp m bm : Nat} {S : St} (h : StateAt σ p tp m bm S) (hk : Keep [tp, m, bm] σ τ) {s : Sl} {ps : List Prt} (hs : PartsAt σ s ps) : PartsAt τ s ps := by
  refine hs.keep hk fun k hkm fl arr T fz e => ?_
  obtain ⟨T1, h1, hm⟩ := h.tr.at_
  obtain ⟨raw, hb, _⟩ := h.bods
  obtain ⟨es, c, h2⟩ := hm.obj
  obtain ⟨es', c', h3⟩ := hb.obj
  simp only [List.mem_cons, List.not_mem_nil, or_false] at hkm
  rcases hkm with rfl | rfl | rfl
  · rw [h1] at e
    simp only [Option.some.injEq, Prod.mk.injEq] at e
    have e2 := e.2
    unfold ob at e2
    cases e2
    simp
  · rw [h2] at e; cases e
  · rw [h3] at e; cases e
abbrev EvT := Int × ByteArray × ByteArray × Int × Int × Sl
def sfile (S : St) (s : ByteArray) : Int × Int := let r := tlook S.tr.nodes s; if r.2.2 = 0 ∧ r.2.1 = true then (0, 6) else (r.1, r.2.2)
def swrite (S : St) (e : EvT) : Int := if (sfile S e.2.1).2 ≠ 0 then (sfile S e.2.1).2 else if e.2.2.2.2.2.len > 1024 then 1 else if e.2.2.2.1 < 0 ∨ e.2.2.2.1 > wi (1099511627776 - (e.2.2.2.2.2.len : Int)) then 9 else 0
def strunc (S : St) (e : EvT) : Int := if (sfile S e.2.1).2 = 0 ∧ (e.2.2.2.2.1 < 0 ∨ e.2.2.2.2.1 > 1099511627776) then 9 else (sfile S e.2.1).2
def scheck (S : St) (e : EvT) : Int :=
  if e.1 = 1 ∨ e.1 = 2 then tcan S.tr e.2.1
  else if e.1 = 3 then swrite S e
  else if e.1 = 4 then strunc S e
  else if e.1 = 5 then tcanren S.tr e.2.1 e.2.2.1
  else if e.1 = 6 ∨ e.1 = 7 then tcandrop S.tr e.2.1 (e.1 == 7)
  else if e.1 = 8 then (if pname e.2.1 = true then 0 else 11) else 1
section
variable {N : Nat} {σ : Hp} {p tp m bm : Nat} {S : St}
theorem file_up {s : ByteArray} {Q : Int × Int → Hp → Prop} [Up Q] (hN : 100 < N) (hg : Gl σ) (hs : StateAt σ p tp m bm S) (h : Q (sfile S s) σ) : (fold_State_file N (some ⟨p, 0, none⟩, s)).run Q σ := by
  unfold fold_State_file
  obtain ⟨T, h1⟩ := hs.st
  refine nz_go (ld_go h1 rfl ?_)
  simp only [bind_run, pure_run, vl, cnd_run, beq_iff_eq]
  refine Look_up hN hg hs.tr ?_
  unfold sfile at h
  simp only at h
  split
  · rename_i e
    simp only [e, true_and] at h ⊢
    split <;> rename_i h2 <;> simpa [h2] using h
  · rename_i e
    rw [if_neg (fun x => e x.1)] at h
    simpa using h
theorem write_up {e : EvT} {Q : Int → Hp → Prop} [Up Q] (hN : 100 < N) (hg : Gl σ) (hs : StateAt σ p tp m bm S) (h : Q (swrite S e) σ) : (fold_State_write N (some ⟨p, 0, none⟩, e)).run Q σ := by
  unfold fold_State_write
  intro b1 h1
  have hl := le_set (x := (true, ob [.int .i64 e.1, .string e.2.1, .string e.2.2.1, .int .i64 e.2.2.2.1, .int .i64 e.2.2.2.2.1, .slice e.2.2.2.2.2.a e.2.2.2.2.2.len e.2.2.2.2.2.cap] 31)) h1
  refine ld_go set_same rfl ?_
  refine bind_go (file_up hN (hg.le hl) (hs.le hl) ?_)
  unfold swrite at h
  refine cnd_ne (fun e1 => ?_) (fun e1 => ?_)
  · rw [if_pos e1] at h
    exact Up.le h _ hl
  · rw [if_neg (by simpa using e1)] at h
    refine ld_go set_same rfl ?_
    refine cnd_dec (fun e2 => ?_) (fun e2 => ?_)
    · have e2 : ((e.2.2.2.2.2.len : Nat) : Int) > 1024 := e2
      rw [if_pos (by omega)] at h
      exact Up.le h _ hl
    · have e2 : ¬ ((e.2.2.2.2.2.len : Nat) : Int) > 1024 := e2
      rw [if_neg (by omega)] at h
      have fin : ∀ v, v = decide (e.2.2.2.1 < 0 ∨ e.2.2.2.1 > wi (1099511627776 - (e.2.2.2.2.2.len : Int))) → ∀ τ, Hp.Le σ τ → (cnd v (M.pure (9 : Int)) (M.pure 0)).run Q τ := by
        intro v hv τ hτ
        subst hv
        refine cnd_dec (fun e3 => ?_) (fun e3 => ?_)
        · rw [if_pos e3] at h; exact Up.le h _ hτ
        · rw [if_neg e3] at h; exact Up.le h _ hτ
      refine bind_go (ld_go set_same rfl ?_)
      refine cnd_dec (fun e3 => ?_) (fun e3 => ?_)
      · have e3 : e.2.2.2.1 < 0 := e3
        exact fin true (by simp [e3]) _ hl
      · have e3 : ¬ e.2.2.2.1 < 0 := e3
        refine ld_go set_same rfl (ld_go set_same rfl ?_)
        refine fin _ ?_ _ hl
        rw [decide_eq_decide]
        exact ⟨fun h => .inr h, fun h => h.elim (fun h => absurd h e3) id⟩
theorem trunc_up {e : EvT} {Q : Int → Hp → Prop} [Up Q] (hN : 100 < N) (hg : Gl σ) (hs : StateAt σ p tp m bm S) (h : Q (strunc S e) σ) : (fold_State_trunc N (some ⟨p, 0, none⟩, e)).run Q σ := by
  unfold fold_State_trunc
  intro b1 h1
  have hl := le_set (x := (true, ob [.int .i64 e.1, .string e.2.1, .string e.2.2.1, .int .i64 e.2.2.2.1, .int .i64 e.2.2.2.2.1, .slice e.2.2.2.2.2.a e.2.2.2.2.2.len e.2.2.2.2.2.cap] 31)) h1
  refine ld_go set_same rfl ?_
  refine bind_go (file_up hN (hg.le hl) (hs.le hl) ?_)
  unfold strunc at h
  have fin : ∀ v, v = decide ((sfile S e.2.1).2 = 0 ∧ (e.2.2.2.2.1 < 0 ∨ e.2.2.2.2.1 > 1099511627776)) → ∀ τ, Hp.Le σ τ → (cnd v (M.pure (9 : Int)) (M.pure (sfile S e.2.1).2)).run Q τ := by
    intro v hv τ hτ
    subst hv
    refine cnd_dec (fun e3 => ?_) (fun e3 => ?_)
    · rw [if_pos e3] at h; exact Up.le h _ hτ
    · rw [if_neg e3] at h; exact Up.le h _ hτ
  refine bind_go (cnd_eq (fun e1 => ?_) (fun e1 => ?_))
  · have e1 : (sfile S e.2.1).2 = 0 := e1
    refine ld_go set_same rfl ?_
    refine cnd_dec (fun e2 => ?_) (fun e2 => ?_)
    · have e2 : e.2.2.2.2.1 < 0 := e2
      exact fin true (by simp [e1, e2]) _ hl
    · have e2 : ¬ e.2.2.2.2.1 < 0 := e2
      refine ld_go set_same rfl ?_
      exact fin (decide (e.2.2.2.2.1 > 1099511627776)) (by simp [e1, e2]) _ hl
  · have e1 : ¬ (sfile S e.2.1).2 = 0 := e1
    exact fin false (by simp [e1]) _ hl
theorem Check_up {e : EvT} {Q : Int → Hp → Prop} [Up Q] (hN : 100 < N) (hg : Gl σ) (hs : StateAt σ p tp m bm S) (hok : TreeOk S.tr) (h : Q (scheck S e) σ) : (fold_State_Check N (some ⟨p, 0, none⟩, e)).run Q σ := by
  unfold fold_State_Check
  intro b1 h1
  have hl := le_set (x := (true, ob [.int .i64 e.1, .string e.2.1, .string e.2.2.1, .int .i64 e.2.2.2.1, .int .i64 e.2.2.2.2.1, .slice e.2.2.2.2.2.a e.2.2.2.2.2.len e.2.2.2.2.2.cap] 31)) h1
  have hb : (σ.set b1 (true, ob [.int .i64 e.1, .string e.2.1, .string e.2.2.1, .int .i64 e.2.2.2.1, .int .i64 e.2.2.2.2.1, .slice e.2.2.2.2.2.a e.2.2.2.2.2.len e.2.2.2.2.2.cap] 31)) b1 = some (true, ob [.int .i64 e.1, .string e.2.1, .string e.2.2.1, .int .i64 e.2.2.2.1, .int .i64 e.2.2.2.2.1, .slice e.2.2.2.2.2.a e.2.2.2.2.2.len e.2.2.2.2.2.cap] 31) := set_same
  revert hl hb
  generalize (σ.set b1 (true, ob [.int .i64 e.1, .string e.2.1, .string e.2.2.1, .int .i64 e.2.2.2.1, .int .i64 e.2.2.2.2.1, .slice e.2.2.2.2.2.a e.2.2.2.2.2.len e.2.2.2.2.2.cap] 31)) = τ
  intro hl hb
  have hg' := hg.le hl
  have hs' := hs.le hl
  obtain ⟨T, hp⟩ := hs'.st
  have h := Up.le h τ hl
  unfold scheck at h
  have or2 : ∀ (a b : Int), ((e.1 == a) || (e.1 == b)) = decide (e.1 = a ∨ e.1 = b) := fun a b => by
    by_cases h1 : e.1 = a <;> by_cases h2 : e.1 = b <;> simp [h1, h2]
  refine cnd_go (fun e => by cases e) (fun _ => ?_)
  refine ld_go hb rfl ?_
  refine orr_go ?_
  rw [or2]
  refine cnd_dec (fun e1 => ?_) (fun e1 => ?_)
  · rw [if_pos e1] at h
    refine nz_go (ld_go hp rfl (ld_go hb rfl ?_))
    exact bind_go (Can_up hN hg' hs'.tr h)
  · rw [if_neg e1] at h
    refine cnd_eq (fun e2 => ?_) (fun e2 => ?_)
    · rw [if_pos e2] at h
      refine ld_g0 hb rfl ?_
      exact bind_go (write_up hN hg' hs' h)
    · rw [if_neg e2] at h
      refine cnd_eq (fun e3 => ?_) (fun e3 => ?_)
      · rw [if_pos e3] at h
        refine ld_g0 hb rfl ?_
        exact bind_go (trunc_up hN hg' hs' h)
      · rw [if_neg e3] at h
        refine cnd_eq (fun e4 => ?_) (fun e4 => ?_)
        · rw [if_pos e4] at h
          refine nz_go (ld_go hp rfl (ld_go hb rfl (ld_go hb rfl ?_)))
          exact bind_go (CanRename_up hN hg' hs'.tr hok h)
        · rw [if_neg e4] at h
          refine orr_go ?_
          rw [or2]
          refine cnd_dec (fun e5 => ?_) (fun e5 => ?_)
          · rw [if_pos e5] at h
            refine nz_go (ld_go hp rfl (ld_go hb rfl (ld_go hb rfl ?_)))
            exact bind_go (CanDrop_up hN hg' hs'.tr hok h)
          · rw [if_neg e5] at h
            refine cnd_eq (fun e6 => ?_) (fun e6 => ?_)
            · rw [if_pos e6] at h
              refine ld_go hb rfl (bind_go (Name_run (by omega) ?_))
              refine cnd_go (fun e7 => ?_) (fun e7 => ?_)
              · rw [if_pos e7] at h; exact h
              · rw [if_neg (by rw [e7]; decide)] at h; exact h
            · rw [if_neg e6] at h
              exact h
/-! ### What a path names -/
def sstat (S : St) (s : ByteArray) : (Int × Bool × Int) × Int :=
  if (tlook S.tr.nodes s).2.2 ≠ 0 then ((0, false, 0), (tlook S.tr.nodes s).2.2) else (((tlook S.tr.nodes s).1, (tlook S.tr.nodes s).2.1, (bodyOf S (tlook S.tr.nodes s).1).1), 0)
theorem encB_of (v : Int × Sl) : (Ty.agg [.int .i64, .slice]).of (encB v) = some v := rfl
theorem StateAt.look (hs : StateAt σ p tp m bm S) (id : Int) : ∃ r : Int × Sl, (lookR (.int .i64) (.int .i64 id) (some bm) (.agg [.int .i64, .slice]) (0, ⟨none, 0, 0⟩)).get σ = some (r, (lk id S.bodies).isSome) ∧ r.1 = (bodyOf S id).1 ∧ PartsAt σ r.2 (bodyOf S id).2 := by
  obtain ⟨raw, h2, h3⟩ := hs.bods
  have hk := h2.look (sameInt .i64) id (ty := .agg [.int .i64, .slice]) (z := (0, ⟨none, 0, 0⟩)) (dec := fun n => n) encB_of
  refine ⟨rawOf raw id, ?_, h3.rawOf id⟩
  refine hk.trans ?_
  unfold rawOf
  rcases h3.look (k := id) with ⟨g1, g2⟩ | ⟨a, b, g1, g2, _⟩
  · rw [g1, g2]; rfl
  · rw [g1, g2]; rfl
theorem Stat_up {s : ByteArray} {Q : (Int × Bool × Int) × Int → Hp → Prop} [Up Q] (hN : 100 < N) (hg : Gl σ) (hs : StateAt σ p tp m bm S) (h : Q (sstat S s) σ) : (fold_State_Stat N (some ⟨p, 0, none⟩, s)).run Q σ := by
  unfold fold_State_Stat
  intro b1 h1
  have hl := le_set (x := (true, ob [.int .i64 0, .bool false, .int .i64 0] 137)) h1
  have hs' := hs.le hl
  obtain ⟨T, hp⟩ := hs'.st
  refine cnd_go (fun e => by cases e) (fun _ => ?_)
  refine nz_go (ld_go hp rfl ?_)
  refine bind_go (Look_up hN (hg.le hl) hs'.tr ?_)
  unfold sstat at h
  refine cnd_ne (fun e => ?_) (fun e => ?_)
  · rw [if_pos e] at h
    refine st_g0 set_same (by simp) (ld_g0 set_same rfl ?_)
    rw [set_set]
    exact Up.le h _ (le_set h1)
  · rw [if_neg (by simpa using e)] at h
    refine nz_go (ld_go hp rfl ?_)
    obtain ⟨r, g1, g2, _⟩ := hs'.look (tlook S.tr.nodes s).1
    refine ⟨_, g1, ?_⟩
    refine st_g0 set_same (by simp) (ld_g0 set_same rfl ?_)
    rw [set_set]
    simp only [pure_run, g2]
    exact Up.le h _ (le_set h1)
/-! ### Events -/
def placeEnd (at_ : Int) : List Prt → Int
  | [] => at_
  | p :: ps => placeEnd (wi (at_ + p.2.1)) ps
def place (at_ : Int) : List Prt → List Prt
  | [] => []
  | p :: ps => (at_, p.2) :: place (wi (at_ + p.2.1)) ps
def bwrite (b : Bd) (off : Int) (ps : List Prt) : Bd × Int :=
  if bmay b = false ∨ (ps.any fun p => !fits p) = true then ((0, []), 1)
  else if off < 0 ∨ off > wi (1099511627776 - longs 0 ps) then ((0, []), 9)
  else if ps = [] then (b, 0)
  else ((if (placeEnd off ps) > b.1 then placeEnd off ps else b.1, sel (fun p => pahead p off) b.2 ++ place off ps ++ sel (fun p => pbehind p (placeEnd off ps)) b.2), 0)
def sput (S : St) (e : EvT) (ps : List Prt) : Int × St :=
  if e.2.2.2.2.2.len > 0 ∧ longs 0 ps ≠ (e.2.2.2.2.2.len : Int) then (1, S)
  else let id := (sfile S e.2.1).1
    if (bwrite (bodyOf S id) e.2.2.2.1 ps).2 = 0 then (0, ⟨S.tr, kput id (bwrite (bodyOf S id) e.2.2.2.1 ps).1 S.bodies⟩) else ((bwrite (bodyOf S id) e.2.2.2.1 ps).2, S)
def tren (t : Tr) (a b : ByteArray) (l : List (ByteArray × Nd)) : Tr := if a = b then t else ⟨trenGo a b t.nodes (l.map Prod.snd ++ [tnode t.nodes a]), t.next⟩
def sapply (S : St) (e : EvT) (ps : List Prt) (l : List (ByteArray × Nd)) : Int × St :=
  if scheck S e ≠ 0 then (scheck S e, S)
  else if e.1 = 1 ∨ e.1 = 2 then (0, ⟨tmake S.tr e.2.1 (e.1 == 2), if e.1 = 1 then kput S.tr.next (0, []) S.bodies else S.bodies⟩)
  else if e.1 = 3 then sput S e ps
  else if e.1 = 4 then (0, ⟨S.tr, kput (sfile S e.2.1).1 (btrunc (bodyOf S (sfile S e.2.1).1) e.2.2.2.2.1).1 S.bodies⟩)
  else if e.1 = 5 then (0, ⟨tren S.tr e.2.1 e.2.2.1 l, kdel (if e.2.1 = e.2.2.1 then -1 else tgone S.tr e.2.2.1) S.bodies⟩)
  else if e.1 = 6 ∨ e.1 = 7 then (0, ⟨⟨kdel e.2.1 S.tr.nodes, S.tr.next⟩, kdel (tid S.tr.nodes e.2.1) S.bodies⟩)
  else (0, S)
theorem StateAt.tree {τ : Hp} (hs : StateAt σ p tp m bm S) {t : Tr} (hk : Keep [tp, m] σ τ) (ht : TreeAt τ tp m t) : StateAt τ p tp m bm ⟨t, S.bodies⟩ := by
  obtain ⟨T, h1⟩ := hs.st
  obtain ⟨raw, h2, h3⟩ := hs.bods
  obtain ⟨T1, h4, hm⟩ := hs.tr.at_
  obtain ⟨es, c, q⟩ := hm.obj
  obtain ⟨es', c', q'⟩ := h2.obj
  have n1 : p ≠ tp := fun e => by subst e; rw [h1] at h4; simp [ob] at h4
  have n2 : p ≠ m := fun e => by subst e; rw [h1] at q; cases q
  have n3 : bm ≠ tp := fun e => by subst e; rw [h4] at q'; cases q'
  have hk' : Keep [tp, m, bm] σ τ := hk.sub (by simp)
  refine ⟨⟨T, hk _ _ (by simp [n1, n2]) h1⟩, ht, ⟨raw, h2.keep ?_, h3.imp fun _ _ h => hs.parts hk' h⟩, hs.ne⟩
  rw [q', hk _ _ (by simp [n3, hs.ne.symm]) q']
theorem StateAt.bput (hs : StateAt σ p tp m bm S) {id : Int} {a : Int × Sl} {b : Bd} (h1 : a.1 = b.1) (h2 : PartsAt σ a.2 b.2) {Q : Unit → Hp → Prop}
    (hQ : ∀ τ, Keep [bm] σ τ → StateAt τ p tp m bm ⟨S.tr, kput id b S.bodies⟩ → Q () τ) : (mapPutM (.int .i64) (.int .i64 id) (.agg #[.int .i64 a.1, .slice a.2.a a.2.len a.2.cap]) (some bm)).run Q σ := by
  obtain ⟨T, g1⟩ := hs.st
  obtain ⟨raw, g2, g3⟩ := hs.bods
  obtain ⟨T1, g4, hm⟩ := hs.tr.at_
  obtain ⟨es', c', q'⟩ := g2.obj
  refine g2.put (sameInt .i64) id a fun o ho => ?_
  have hk : Keep [bm] σ (σ.set bm (true, o)) := Keep.set _ (by simp)
  have n1 : p ≠ bm := fun e => by subst e; rw [g1] at q'; cases q'
  have n2 : tp ≠ bm := fun e => by subst e; rw [g4] at q'; cases q'
  refine hQ _ hk ⟨⟨T, by rw [set_ne n1]; exact g1⟩, ⟨T1, by rw [set_ne n2]; exact g4, hm.keep (set_ne hs.ne)⟩, ⟨_, ho, ?_⟩, hs.ne⟩
  exact BodRel.imp (fun _ _ h => hs.parts (hk.sub (by simp)) h) (BodRel.put h1 h2 g3)
theorem StateAt.bdel (hs : StateAt σ p tp m bm S) {id : Int} {Q : Unit → Hp → Prop}
    (hQ : ∀ τ, Keep [bm] σ τ → StateAt τ p tp m bm ⟨S.tr, kdel id S.bodies⟩ → Q () τ) : (mapDelM (.int .i64) (.int .i64 id) (some bm)).run Q σ := by
  obtain ⟨T, g1⟩ := hs.st
  obtain ⟨raw, g2, g3⟩ := hs.bods
  obtain ⟨T1, g4, hm⟩ := hs.tr.at_
  obtain ⟨es', c', q'⟩ := g2.obj
  refine g2.del (sameInt .i64) id fun o ho => ?_
  have hk : Keep [bm] σ (σ.set bm (true, o)) := Keep.set _ (by simp)
  have n1 : p ≠ bm := fun e => by subst e; rw [g1] at q'; cases q'
  have n2 : tp ≠ bm := fun e => by subst e; rw [g4] at q'; cases q'
  refine hQ _ hk ⟨⟨T, by rw [set_ne n1]; exact g1⟩, ⟨T1, by rw [set_ne n2]; exact g4, hm.keep (set_ne hs.ne)⟩, ⟨_, ho, ?_⟩, hs.ne⟩
  exact BodRel.imp (fun _ _ h => hs.parts (hk.sub (by simp)) h) (BodRel.del g3)
end
end Go.Wz
