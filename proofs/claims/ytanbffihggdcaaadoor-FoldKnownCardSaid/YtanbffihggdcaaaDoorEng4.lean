/- Operations that do not look at memory, and lengths. -/
import Derived.Test.YtanbffihggdcaaaDoorEng3
set_option linter.unusedVariables false
set_option linter.unusedSimpArgs false
namespace Go.Eng
open Go.RowKit

/-! ### Two operands -/
def bitsV (op : BinOp) (k : IntKind) (a b : Int) : Int :=
  let x := BitVec.ofInt k.bits a
  let y := BitVec.ofInt k.bits b
  match op with
  | .and => k.wrap (x &&& y).toNat
  | .or => k.wrap (x ||| y).toNat
  | .xor => k.wrap (x ^^^ y).toNat
  | _ => k.wrap (x &&& ~~~y).toNat
def fcmp (op : BinOp) (k : FloatKind) (x y : Nat) : Bool := match op with
  | .eql => k.format.order x y == some .eq
  | .neq => k.format.order x y != some .eq
  | .lss => k.format.order x y == some .lt
  | .leq => k.format.order x y == some .lt || k.format.order x y == some .eq
  | .gtr => k.format.order x y == some .gt
  | _ => k.format.order x y == some .gt || k.format.order x y == some .eq
def scmp (op : BinOp) (x y : ByteArray) : Bool := match op with
  | .eql => x.toList == y.toList
  | .neq => !(x.toList == y.toList)
  | .lss => Op.bytesLess x.toList y.toList
  | .leq => Op.bytesLess x.toList y.toList || x.toList == y.toList
  | .gtr => !(Op.bytesLess x.toList y.toList || x.toList == y.toList)
  | _ => !Op.bytesLess x.toList y.toList
def isPtrT (P : Program) (t : TypeId) : Bool := match P.underlying t with
  | some (.pointer _) => true
  | _ => false
def isSliceT (P : Program) (t : TypeId) : Bool := match P.underlying t with
  | some (.slice _) => true
  | _ => false
def isMapT (P : Program) (t : TypeId) : Bool := match P.underlying t with
  | some (.map _ _) => true
  | _ => false
def isBoolT (P : Program) (t : TypeId) : Bool := match P.underlying t with
  | some .bool => true
  | _ => false
def intAct (op : BinOp) (k : IntKind) (a b : Int) : Act1 := match op with
  | .add => .val (.int k (k.wrap (a + b)))
  | .sub => .val (.int k (k.wrap (a - b)))
  | .mul => .val (.int k (k.wrap (a * b)))
  | .quo => .chk (b ≠ 0) (.int k (k.wrap (a.tdiv b)))
  | .rem => .chk (b ≠ 0) (.int k (a.tmod b))
  | .and => .val (.int k (bitsV .and k a b))
  | .or => .val (.int k (bitsV .or k a b))
  | .xor => .val (.int k (bitsV .xor k a b))
  | .andNot => .val (.int k (bitsV .andNot k a b))
  | .eql => .val (.bool (a == b))
  | .neq => .val (.bool (a != b))
  | .lss => .val (.bool (decide (a < b)))
  | .leq => .val (.bool (decide (a ≤ b)))
  | .gtr => .val (.bool (decide (a > b)))
  | .geq => .val (.bool (decide (a ≥ b)))
  | _ => .no
def fltAct (op : BinOp) (k : FloatKind) (a b : Nat) : Act1 := match op with
  | .eql => .val (.bool (fcmp .eql k a b))
  | .neq => .val (.bool (fcmp .neq k a b))
  | .lss => .val (.bool (fcmp .lss k a b))
  | .leq => .val (.bool (fcmp .leq k a b))
  | .gtr => .val (.bool (fcmp .gtr k a b))
  | .geq => .val (.bool (fcmp .geq k a b))
  | _ => .no
def strAct (op : BinOp) (a b : ByteArray) : Act1 := match op with
  | .add => .chk (a.size + b.size ≤ 9223372036854775807) (.string (a ++ b))
  | .eql => .val (.bool (scmp .eql a b))
  | .neq => .val (.bool (scmp .neq a b))
  | .lss => .val (.bool (scmp .lss a b))
  | .leq => .val (.bool (scmp .leq a b))
  | .gtr => .val (.bool (scmp .gtr a b))
  | .geq => .val (.bool (scmp .geq a b))
  | _ => .no
def eqlAct (op : BinOp) (b : Bool) : Act1 := match op with
  | .eql => .val (.bool b)
  | .neq => .val (.bool (!b))
  | _ => .no
def binAct (P : Program) (op : BinOp) (t : TypeId) (x y : Option Value) : Act1 := match x, y with
  | some (.int k a), some (.int k' b) => match op with
    | .shl => .chk (0 ≤ b) (.int k (k.wrap (a * 2 ^ (min b.toNat k.bits))))
    | .shr => .chk (0 ≤ b) (.int k (a.fdiv (2 ^ (min b.toNat k.bits))))
    | op => if k = k' then intAct op k a b else .no
  | some (.float k a), some (.float k' b) => if k = k' then fltAct op k a b else .no
  | some (.string a), some (.string b) => strAct op a b
  | some (.bool a), some (.bool b) => match isBoolT P t with
    | true => eqlAct op (a == b)
    | false => .no
  | some (.pointer p), some (.pointer none) => match isPtrT P t with
    | true => eqlAct op p.isNone
    | false => .no
  | some (.slice a _ _), some (.slice none _ _) => match isSliceT P t with
    | true => eqlAct op a.isNone
    | false => .no
  | some (.map r), some (.map none) => match isMapT P t with
    | true => eqlAct op r.isNone
    | false => .no
  | _, _ => .no

theorem run_binOp_int {P : Program} {op : BinOp} {t : TypeId} {k : IntKind} {a b : Int} (h1 : op ≠ .shl) (h2 : op ≠ .shr) (w : World) :
    (binOp op t (.int k a) (.int k b)).run P w = (match op with
      | .add | .sub | .mul => Op.intArith op k a b
      | .quo | .rem => Op.intDiv op k a b
      | .and | .or | .xor | .andNot => Op.intBits op k a b
      | _ => Op.intCmp op a b).run P w := by
  cases op <;> first | rfl | (simp [binOp]; done) | (exact absurd rfl h1) | (exact absurd rfl h2)

theorem int_good {P : Program} {op : BinOp} {t : TypeId} {k : IntKind} {a b : Int} (h1 : op ≠ .shl) (h2 : op ≠ .shr) :
    Good P (do pure (.value (← binOp op t (.int k a) (.int k b)))) (intAct op k a b) := by
  cases op <;> simp only [intAct] <;> first
    | exact Good.no
    | exact absurd rfl h1
    | exact absurd rfl h2
    | (refine Good.val fun w => ?_; rw [Sem.run_bind, run_binOp_int (by simp) (by simp)]; simp [Op.intArith, Op.intBits, Op.intCmp, bitsV]; done)
    | (refine Good.chk fun hc w => ?_; rw [Sem.run_bind, run_binOp_int (by simp) (by simp)]; simp [Op.intDiv, hc]; done)
theorem flt_good {P : Program} {op : BinOp} {t : TypeId} {k : FloatKind} {a b : Nat} :
    Good P (do pure (.value (← binOp op t (.float k a) (.float k b)))) (fltAct op k a b) := by
  cases op <;> simp only [fltAct] <;> first
    | exact Good.no
    | (refine Good.val fun w => ?_; simp [binOp, Op.floatCmp, fcmp]; done)
theorem str_good {P : Program} {op : BinOp} {t : TypeId} {a b : ByteArray} :
    Good P (do pure (.value (← binOp op t (.string a) (.string b)))) (strAct op a b) := by
  cases op <;> simp only [strAct] <;> first
    | exact Good.no
    | (refine Good.val fun w => ?_; simp [binOp, Op.stringOp, scmp]; done)
    | (refine Good.chk fun hc w => ?_; simp [binOp, Op.stringOp, IntKind.max, IntKind.signed, IntKind.bits]; omega)
theorem eql_good {P : Program} {op : BinOp} {s : Sem Next} {b : Bool} (h1 : op = .eql → ∀ w, s.run P w = .ok (.value (.bool b)) w) (h2 : op = .neq → ∀ w, s.run P w = .ok (.value (.bool (!b))) w) :
    Good P s (eqlAct op b) := by
  cases op <;> simp only [eqlAct] <;> first
    | exact Good.no
    | exact Good.val (h1 rfl)
    | exact Good.val (h2 rfl)
theorem run_equalIn_ptr {P : Program} {t : TypeId} (h : isPtrT P t = true) (d : Nat) (p : Option Addr) (w : World) : (Op.equalIn (d + 1) t (.pointer p) (.pointer none)).run P w = .ok p.isNone w := by
  unfold isPtrT at h
  split at h
  · rename_i e he
    cases p <;> simp [Op.equalIn, run_underlying he]
  · simp at h
theorem run_equal_ptr {P : Program} {t : TypeId} (h : isPtrT P t = true) (p : Option Addr) (w : World) : (Op.equal t (.pointer p) (.pointer none)).run P w = .ok p.isNone w := run_equalIn_ptr h 9999 p w
theorem run_equalIn_slice {P : Program} {t : TypeId} (h : isSliceT P t = true) (d : Nat) (a : Option Addr) (n c n' c' : Nat) (w : World) : (Op.equalIn (d + 1) t (.slice a n c) (.slice none n' c')).run P w = .ok a.isNone w := by
  unfold isSliceT at h
  split at h
  · rename_i e he
    cases a <;> simp [Op.equalIn, run_underlying he]
  · simp at h
theorem run_equal_slice {P : Program} {t : TypeId} (h : isSliceT P t = true) (a : Option Addr) (n c n' c' : Nat) (w : World) : (Op.equal t (.slice a n c) (.slice none n' c')).run P w = .ok a.isNone w := run_equalIn_slice h 9999 a n c n' c' w
theorem run_equalIn_map {P : Program} {t : TypeId} (h : isMapT P t = true) (d : Nat) (r : Option Nat) (w : World) : (Op.equalIn (d + 1) t (.map r) (.map none)).run P w = .ok r.isNone w := by
  unfold isMapT at h
  split at h
  · rename_i e e' he
    cases r <;> simp [Op.equalIn, run_underlying he]
  · simp at h
theorem run_equal_map {P : Program} {t : TypeId} (h : isMapT P t = true) (r : Option Nat) (w : World) : (Op.equal t (.map r) (.map none)).run P w = .ok r.isNone w := run_equalIn_map h 9999 r w
theorem run_equalIn_bool {P : Program} {t : TypeId} (h : isBoolT P t = true) (d : Nat) (a b : Bool) (w : World) : (Op.equalIn (d + 1) t (.bool a) (.bool b)).run P w = .ok (a == b) w := by
  unfold isBoolT at h
  split at h
  · rename_i he
    simp [Op.equalIn, run_underlying he]
  · simp at h
theorem run_equal_bool {P : Program} {t : TypeId} (h : isBoolT P t = true) (a b : Bool) (w : World) : (Op.equal t (.bool a) (.bool b)).run P w = .ok (a == b) w := run_equalIn_bool h 9999 a b w
theorem run_eqGuard {P : Program} {op : BinOp} {t : TypeId} {x y : Operand} {a b : Value} (ha : ∀ v, a ≠ .agg v) (hn : a ≠ .nilIface) (w : World) : (eqGuard op t x y a b).run P w = .ok () w := by
  unfold eqGuard
  cases a <;> cases op <;> first | rfl | (simp at ha; done) | (simp at hn; done)
theorem bin_good {P : Program} {op : BinOp} {t : TypeId} {x y : Operand} {a b : Option Value} {u v : Value} (hu : ∀ z, a = some z → z = u) (hv : ∀ z, b = some z → z = v) :
    Good P (do pure (.value (← (do eqGuard op t x y u v; binOp op t u v)))) (binAct P op t a b) := by
  have key : ∀ (s : Sem Value) (A : Act1), (∀ w, (eqGuard op t x y u v).run P w = .ok () w) → Good P (do pure (.value (← binOp op t u v))) A →
      Good P (do pure (.value (← (do eqGuard op t x y u v; binOp op t u v)))) A := by
    intro s A hg hA B w0 σ w Q hs hq
    have := hA B w0 σ w Q hs hq
    simp only [Sem.run_bind, hg, Result.andThen_ok] at this ⊢
    exact this
  unfold binAct
  split
  · rename_i k a' k' b'
    obtain rfl := hu _ rfl
    obtain rfl := hv _ rfl
    refine key (pure undef) _ (run_eqGuard (by simp) (by simp)) ?_
    split
    · exact Good.chk fun hc w => by simp [binOp, Op.shift, show ¬ b' < 0 by omega]
    · exact Good.chk fun hc w => by simp [binOp, Op.shift, show ¬ b' < 0 by omega]
    · rename_i h1 h2
      split
      · rename_i hk; subst hk; exact int_good (fun e => h1 e) (fun e => h2 e)
      · exact Good.no
  · obtain rfl := hu _ rfl
    obtain rfl := hv _ rfl
    refine key (pure undef) _ (run_eqGuard (by simp) (by simp)) ?_
    split
    · rename_i hk; subst hk; exact flt_good
    · exact Good.no
  · obtain rfl := hu _ rfl
    obtain rfl := hv _ rfl
    exact key (pure undef) _ (run_eqGuard (by simp) (by simp)) str_good
  · obtain rfl := hu _ rfl
    obtain rfl := hv _ rfl
    refine key (pure undef) _ (run_eqGuard (by simp) (by simp)) ?_
    split
    · rename_i ht
      exact eql_good (fun e w => by subst e; simp [binOp, run_equal_bool ht]) (fun e w => by subst e; simp [binOp, run_equal_bool ht])
    · exact Good.no
  · obtain rfl := hu _ rfl
    obtain rfl := hv _ rfl
    refine key (pure undef) _ (run_eqGuard (by simp) (by simp)) ?_
    split
    · rename_i ht
      exact eql_good (fun e w => by subst e; simp [binOp, run_equal_ptr ht]) (fun e w => by subst e; simp [binOp, run_equal_ptr ht])
    · exact Good.no
  · obtain rfl := hu _ rfl
    obtain rfl := hv _ rfl
    refine key (pure undef) _ (run_eqGuard (by simp) (by simp)) ?_
    split
    · rename_i ht
      exact eql_good (fun e w => by subst e; simp [binOp, run_equal_slice ht]) (fun e w => by subst e; simp [binOp, run_equal_slice ht])
    · exact Good.no
  · obtain rfl := hu _ rfl
    obtain rfl := hv _ rfl
    refine key (pure undef) _ (run_eqGuard (by simp) (by simp)) ?_
    split
    · rename_i ht
      exact eql_good (fun e w => by subst e; simp [binOp, run_equal_map ht]) (fun e w => by subst e; simp [binOp, run_equal_map ht])
    · exact Good.no
  · exact Good.no

/-! ### One operand -/
def unAct (op : UnOp) (x : Option Value) : Act1 := match op, x with
  | .neg, some (.int k n) => .val (.int k (k.wrap (0 - n)))
  | .xor, some (.int k n) => .val (.int k (bitsV .xor k (if k.signed then -1 else k.max) n))
  | .not, some (.bool b) => .val (.bool (!b))
  | _, _ => .no
theorem un_good {P : Program} {op : UnOp} {a : Option Value} {u : Value} (hu : ∀ z, a = some z → z = u) : Good P (do pure (.value (← Op.unary op u))) (unAct op a) := by
  unfold unAct
  split
  · obtain rfl := hu _ rfl; exact Good.val fun w => by simp [Op.unary, Op.intArith]
  · obtain rfl := hu _ rfl; exact Good.val fun w => by simp [Op.unary, Op.intBits, bitsV]
  · obtain rfl := hu _ rfl; exact Good.val fun w => by simp [Op.unary]
  · exact Good.no

end Go.Eng
