/- A statement whose order is open: done in one order, with what is read found again, it is done in every order. -/
import Derived.Test.YtanbffihggdcaaaGreatDoorEngA
set_option linter.unusedVariables false
set_option linter.unusedSimpArgs false
namespace Go.Eng
open Go.RowKit

/-! ### What an operation looks at -/
def looks (op : Op) : List Tmp := op.operands.toList.filterMap fun | .tmp t => some t | _ => none
theorem mem_looks {op : Op} {t : Tmp} (h : Operand.tmp t ∈ op.operands) : t ∈ looks op := by
  unfold looks
  rw [List.mem_filterMap]
  exact ⟨.tmp t, by simpa using h, rfl⟩
theorem ev_congr {env env' : Env} {x : Operand} (h : ∀ t, x = .tmp t → env t = env' t) : ev env x = ev env' x := by
  cases x with
  | tmp t => exact h t rfl
  | _ => rfl
theorem evs_congr {env env' : Env} : ∀ {xs : List Operand}, (∀ t, Operand.tmp t ∈ xs → env t = env' t) → evs env xs = evs env' xs
  | [], _ => rfl
  | x :: xs, h => by
    simp only [evs, ev_congr (env := env) (env' := env') (x := x) (fun t e => h t (by simp [e])), evs_congr (xs := xs) (fun t e => h t (by simp [e]))]
theorem evp_congr {env env' : Env} : ∀ {xs : List (Nat × Operand)}, (∀ t, Operand.tmp t ∈ xs.map (·.2) → env t = env' t) → evp env xs = evp env' xs
  | [], _ => rfl
  | (i, x) :: xs, h => by
    simp only [evp, ev_congr (env := env) (env' := env') (x := x) (fun t e => h t (by simp [e])), evp_congr (xs := xs) (fun t e => h t (by simp at e ⊢; exact .inr e))]
theorem optInt_congr {env env' : Env} {x : Option Operand} (h : ∀ t, x = some (.tmp t) → env t = env' t) : optInt x env = optInt x env' := by
  cases x with
  | none => rfl
  | some o => simp only [optInt, ev_congr (env := env) (env' := env') (x := o) (fun t e => h t (by rw [e]))]
theorem opAct_congr {cx : Cx} {env env' : Env} {op : Op} (h : ∀ t, t ∈ looks op → env t = env' t) : opAct cx env op = opAct cx env' op := by
  have key : ∀ x, x ∈ op.operands → ev env x = ev env' x := fun x hx => ev_congr fun t e => h t (mem_looks (e ▸ hx))
  have keys : ∀ xs : List Operand, (∀ x ∈ xs, x ∈ op.operands) → evs env xs = evs env' xs := fun xs hx => evs_congr fun t e => h t (mem_looks (hx _ e))
  have keyp : ∀ xs : List (Nat × Operand), (∀ x ∈ xs.map (·.2), x ∈ op.operands) → evp env xs = evp env' xs := fun xs hx => evp_congr fun t e => h t (mem_looks (hx _ e))
  have keyo : ∀ x : Option Operand, (∀ y, x = some y → y ∈ op.operands) → optInt x env = optInt x env' := fun x hx => optInt_congr fun t e => h t (mem_looks (hx _ e))
  cases op <;> simp only [opAct] <;> try rfl
  all_goals first
    | (rw [key _ (by simp [Op.operands])]; done)
    | (rw [key _ (by simp [Op.operands]), key _ (by simp [Op.operands])]; done)
    | skip
  case pick c a b => rw [key c (by simp [Op.operands]), key a (by simp [Op.operands]), key b (by simp [Op.operands])]
  case build t ps => rw [keyp ps.toList (by simp [Op.operands])]
  case buildSlice t n ps => rw [keyp ps.toList (by simp [Op.operands])]
  case makeFunc fn first captured => rw [keys first.toList (by simp [Op.operands]; intro x hx; exact .inl hx), keys captured.toList (by simp [Op.operands]; intro x hx; exact .inr hx)]
  case slice t x lo hi mx =>
    rw [key x (by simp [Op.operands]), keyo lo (by intro y hy; subst hy; simp [Op.operands]), keyo hi (by intro y hy; subst hy; simp [Op.operands]), keyo mx (by intro y hy; subst hy; simp [Op.operands])]
  case mapUpdate t m k v => rw [key m (by simp [Op.operands]), key k (by simp [Op.operands]), key v (by simp [Op.operands])]
  case insert t m k v => rw [key m (by simp [Op.operands]), key k (by simp [Op.operands]), key v (by simp [Op.operands])]
  case call c =>
    have hk : evs env c.args.toList = evs env' c.args.toList := keys _ (by
      intro x hx
      simp only [Op.operands, Call.operands, Array.mem_append]
      exact .inr (by simpa using hx))
    rw [hk]
    split
    · rename_i f hf
      rw [key f (by simp [Op.operands, Call.operands, hf])]
    all_goals rfl

/-! ### Kinds -/
/-- Changes nothing. -/
def quietOp : Op → Bool
  | .move _ | .assign _ | .pick .. | .build .. | .load .. | .nilCheck _ | .binOp .. | .unOp .. | .makeFunc .. | .slice .. | .fieldAddr .. | .field .. | .indexAddr .. | .index .. | .lookup .. | .entry _ | .extract .. => true
  | .call { callee := .builtin .len, .. } | .call { callee := .builtin .cap, .. } | .call { callee := .builtin .max, .. } | .call { callee := .builtin .min, .. } => true
  | _ => false
/-- Lays a block. -/
def allocOp : Op → Bool
  | .alloc _ | .box .. | .buildSlice .. | .makeMap .. => true
  | _ => false
def Act1.quiet : Act1 → Prop
  | .new .. | .gen .. | .br .. => False
  | _ => True
def Act1.lays : Act1 → Prop
  | .no | .new .. | .val _ => True
  | _ => False
theorem eqlAct_quiet (op : BinOp) (b : Bool) : (eqlAct op b).quiet := by cases op <;> trivial
theorem binAct_quiet (P : Program) (op : BinOp) (t : TypeId) (x y : Option Value) : (binAct P op t x y).quiet := by
  unfold binAct
  split
  · split
    · trivial
    · trivial
    · split
      · cases op <;> trivial
      · trivial
  · split
    · cases op <;> trivial
    · trivial
  · cases op <;> trivial
  all_goals first
    | trivial
    | (split <;> first | exact eqlAct_quiet _ _ | trivial)
theorem quiet_act {cx : Cx} {env : Env} {op : Op} (h : quietOp op = true) : (opAct cx env op).quiet := by
  unfold quietOp at h
  split at h <;> simp only [opAct] <;> try (simp at h; done)
  · split <;> trivial
  · split <;> trivial
  · split <;> trivial
  · unfold buildAct; (repeat' split) <;> trivial
  · unfold loadAct; (repeat' split) <;> trivial
  · unfold nilCheckAct; split <;> trivial
  · split
    · unfold eqsAct; (repeat' split) <;> first | exact eqlAct_quiet _ _ | trivial
    · exact binAct_quiet _ _ _ _ _
  · unfold unAct; split <;> trivial
  · split <;> trivial
  · unfold sliceAct; (repeat' split) <;> trivial
  · unfold fieldAddrAct; (repeat' split) <;> trivial
  · unfold fieldAct; (repeat' split) <;> trivial
  · unfold indexAddrAct; (repeat' split) <;> trivial
  · unfold indexAct; (repeat' split) <;> trivial
  · unfold lookupAct; (repeat' split) <;> trivial
  · unfold entryAct; (repeat' split) <;> trivial
  · unfold extractAct; (repeat' split) <;> trivial
  · unfold lenAct; (repeat' split) <;> trivial
  · unfold capAct; (repeat' split) <;> trivial
  · unfold maxAct; (repeat' split) <;> trivial
  · unfold minAct; (repeat' split) <;> trivial
theorem alloc_act {cx : Cx} {env : Env} {op : Op} (h : allocOp op = true) : (opAct cx env op).lays := by
  unfold allocOp at h
  split at h <;> simp only [opAct] <;> try (simp at h; done)
  · unfold allocAct; (repeat' split) <;> trivial
  · unfold boxAct; (repeat' split) <;> trivial
  · unfold buildSliceAct; (repeat' split) <;> trivial
  · unfold makeMapAct; (repeat' split) <;> trivial

end Go.Eng
