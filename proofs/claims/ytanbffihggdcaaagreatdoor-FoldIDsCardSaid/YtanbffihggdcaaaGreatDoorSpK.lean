/- FoldKnown, and the example that wakes each statement of the chapter: computed. -/
import Derived.Test.YtanbffihggdcaaaGreatDoorSpV
set_option linter.unusedVariables false
set_option linter.unusedSimpArgs false
set_option maxRecDepth 100000
namespace Go.Wz
open Go.Proofs Go.Eng Go.Sort
def stOkB (K : Nat) (S : St) : Bool := decide (S.tr.nodes.length ≤ 64) && S.tr.nodes.all (fun kn => decide (kn.2.1.size ≤ 64 ∧ kn.1 = kn.2.1)) && S.bodies.all (fun b => decide (b.2.2.length < K)) && decide (0 < K)
theorem stOk_of {K : Nat} {S : St} (h : stOkB K S = true) : StOk K S := by
  unfold stOkB at h
  simp only [Bool.and_eq_true, decide_eq_true_eq, List.all_eq_true] at h
  obtain ⟨⟨⟨h1, h2⟩, h3⟩, h4⟩ := h
  exact ⟨⟨h1, fun kn hk => (h2 kn hk).1⟩, fun kn hk => (h2 kn hk).2, h3, h4⟩
theorem sapply_l {S : St} {e : EvT} {ps : List Prt} (h : e.1 ≠ 5) (l l' : List (ByteArray × Nd)) : sapply S e ps l = sapply S e ps l' := by
  unfold sapply
  rw [if_neg h, if_neg h]
/-- A state in memory, and what is needed beside it. -/
structure Sc (K : Nat) (σ : Hp) (p tp m bm : Nat) (S : St) : Prop where
  gl : Gl σ
  st : StateAt σ p tp m bm S
  ok : StOk K S
  z : gMax ∉ [tp, m, bm]
theorem Sc.le {K : Nat} {σ τ : Hp} {p tp m bm : Nat} {S : St} (h : Sc K σ p tp m bm S) (hl : Hp.Le σ τ) : Sc K τ p tp m bm S := ⟨h.gl.le hl, h.st.le hl, h.ok, h.z⟩
theorem Gl.zero {σ : Hp} (h : Gl σ) : ∃ y, σ gMax = some y := by
  obtain ⟨m, hm⟩ := h
  rw [ldR_at] at hm
  cases e : σ gMax with
  | none => rw [e] at hm; cases hm
  | some y => exact ⟨y, rfl⟩
section
variable {N : Nat} {σ : Hp} {p tp m bm : Nat} {S : St} {K : Nat}
theorem ApplyS {e : EvT} {sl : Sl} {ps : List Prt} {r : Int} {S' : St} {Q : Int → Hp → Prop} [Up Q] (hN : 100 < N) (hK : K ≤ N) (hK2 : K ≤ 1000000000) (hs : Sc K σ p tp m bm S) (hl : e.1 ≠ 5 ∨ tunder S.tr.nodes e.2.1 = []) (hps : PartsAt σ sl ps) (hpl : ps.length < K)
    (heq : sapply S e ps [] = (r, S')) (hok : StOk K S') (h : ∀ τ, Keep [tp, m, bm] σ τ → Sc K τ p tp m bm S' → Q r τ) : (fold_State_Apply N (some ⟨p, 0, none⟩, e, sl)).run Q σ := by
  refine Apply_up hN hs.gl hs.st hs.ok hK hK2 hps hpl fun l τ hp hk => ?_
  have : sapply S e ps l = (r, S') := by
    rcases hl with hl | hl
    · rw [sapply_l hl l [], heq]
    · rw [hl] at hp
      rw [List.perm_nil.1 hp, heq]
  rw [this]
  exact fun hst => h τ hk ⟨hs.gl.keep hk hs.z, hst, hok, hs.z⟩
theorem NewS {Q : Option Addr → Hp → Prop} [Up Q] (hg : Gl σ) (hK : 0 < K) (h : ∀ p tp m bm τ, Hp.Le σ τ → σ p = none → σ tp = none → σ m = none → σ bm = none → Sc K τ p tp m bm ⟨⟨[], 1⟩, []⟩ → Q (some ⟨p, 0, none⟩) τ) : (fold_New N ()).run Q σ := by
  refine New_up fun p tp m bm τ hl h1 h2 h3 h4 hst => h p tp m bm τ hl h1 h2 h3 h4 ⟨hg.le hl, hst, stOk_of (by simp [stOkB, hK]), ?_⟩
  obtain ⟨y, hy⟩ := hg.zero
  simp only [List.mem_cons, List.not_mem_nil, or_false, not_or]
  refine ⟨fun e => ?_, fun e => ?_, fun e => ?_⟩
  · rw [← e, hy] at h2; cases h2
  · rw [← e, hy] at h3; cases h3
  · rw [← e, hy] at h4; cases h4
/-- A row that was just laid. -/
theorem row_lit {α : Type} {n : Nat} {enc : α → List Value} {b c : Nat} {fl : Bool} {vs : List Value} {T : TypeId} {xs : List α} (hb : σ b = some (fl, ob vs T)) (hv : vs = xs.flatMap enc) (hn : ∀ x, (enc x).length = n) (hc : xs.length ≤ c) : RowAt n enc σ ⟨some ⟨b, 0, none⟩, xs.length, c⟩ xs := by
  refine ⟨rfl, hc, .inr ⟨b, 0, fl, _, T, (0, 0), rfl, hb, fun i x hx => ?_⟩⟩
  have hlt := (List.getElem?_eq_some_iff.1 hx).1
  have h1 := flatMap_len hn xs
  have hm : (i + 1) * n ≤ xs.length * n := Nat.mul_le_mul_right _ hlt
  rw [Nat.succ_mul] at hm
  refine ⟨by simp only [List.size_toArray, hv, h1]; omega, ?_⟩
  show List.take n (List.drop (0 + i * n) vs) = _
  rw [Nat.zero_add, hv]
  exact flatMap_at hn xs i x hx
abbrev S0 : St := ⟨⟨[], 1⟩, []⟩
def pa : ByteArray := ⟨#[47, 97]⟩
def ev0 (op : Int) (path : ByteArray) (off : Int) : EvT := (op, path, ⟨#[]⟩, off, 0, ⟨none, 0, 0⟩)
def aw1 : St := (sapply S0 (ev0 1 pa 0) [] []).2
def aw2 : St := (sapply aw1 (ev0 3 pa 2) [(0, 3, 1, 0)] []).2
theorem aw1_eq : (sapply S0 (ev0 1 pa 0) [] []).1 = 0 ∧ stOkB 100 aw1 = true := by decide +kernel
theorem aw2_eq : (sapply aw1 (ev0 3 pa 2) [(0, 3, 1, 0)] []).1 = 0 ∧ stOkB 100 aw2 = true := by decide +kernel
theorem aw_stat : sstat aw2 pa = ((1, false, 5), 0) ∧ sstat aw2 slash = ((0, true, 0), 0) := by decide +kernel
theorem awake_up {Q : Bool → Hp → Prop} [Up Q] (hN : 100 < N) (hg : Gl σ) (h : Q true σ) : (law15_awake N ()).run Q σ := by
  unfold law15_awake
  refine bind_go (NewS (K := 100) hg (by omega) fun p tp m bm τ hl hp htp hm hbm hs => ?_)
  refine cnd_go (fun e => by cases e) (fun _ => ?_)
  refine bind_go (ApplyS (S' := aw1) (ps := []) (e := ev0 1 pa 0) hN (by omega) (by omega) hs (.inl (by decide)) (RowAt.nil none) (by simp) (Prod.ext aw1_eq.1 rfl) (stOk_of aw1_eq.2) fun τ1 k1 s1 => ?_)
  intro b4 h4
  have s1' := s1.le (le_set (x := (true, ob [.int .i64 0, .int .i64 3, .int .i64 1, .int .i64 0] 40)) h4)
  refine bind_go (ApplyS (S' := aw2) (ps := [(0, 3, 1, 0)]) (e := ev0 3 pa 2) hN (by omega) (by omega) s1' (.inl (by decide)) (row_lit (xs := [(0, 3, 1, 0)]) set_same rfl encP_len (Nat.le_refl _)) (by simp) (Prod.ext aw2_eq.1 rfl) (stOk_of aw2_eq.2) fun τ2 k2 s2 => ?_)
  refine bind_go (Stat_up hN s2.gl s2.st ?_)
  rw [show (⟨#[47, 97]⟩ : ByteArray) = pa from rfl, aw_stat.1]
  refine new_st rfl fun b7 h7 => ?_
  have s3 := s2.le (le_set (x := (true, ob [.int .i64 1, .bool false, .int .i64 5] 137)) h7)
  refine bind_go (Stat_up hN s3.gl s3.st ?_)
  rw [show (⟨#[47]⟩ : ByteArray) = slash from rfl, aw_stat.2]
  refine new_st rfl fun b9 h9 => ?_
  have hfin : ∀ ρ : Hp, Hp.Le σ ρ → Q true ρ := fun ρ hρ => Up.le h _ hρ
  have n79 : b7 ≠ b9 := fun e => by subst e; rw [set_same] at h9; cases h9
  refine cnd_eq (fun _ => ?_) (fun e => absurd rfl e)
  refine cnd_eq (fun _ => ?_) (fun e => absurd rfl e)
  refine cnd_eq (fun _ => ?_) (fun e => absurd rfl e)
  refine ld_g0 (by rw [set_ne n79]; exact set_same) rfl ?_
  refine cnd_go (fun _ => ?_) (fun e => by cases e)
  refine cnd_eq (fun _ => ?_) (fun e => absurd rfl e)
  refine ld_go set_same rfl ?_
  refine cnd_go (fun _ => ?_) (fun e => by cases e)
  refine ld_go set_same rfl ?_
  rw [pure_run]
  refine hfin _ ?_
  -- what was known ahead of the call is known still: the state's blocks are new
  have hk12 : ∀ k x, σ k = some x → τ2 k = some x := fun k x hx => by
    have hk : k ∉ [tp, m, bm] := fun e => by
      simp only [List.mem_cons, List.not_mem_nil, or_false] at e
      rcases e with rfl | rfl | rfl
      · rw [htp] at hx; cases hx
      · rw [hm] at hx; cases hx
      · rw [hbm] at hx; cases hx
    exact k2 k x hk (le_set h4 _ _ (k1 k x hk (hl _ _ hx)))
  exact fun k x hx => le_set h9 _ _ (le_set h7 _ _ (hk12 k x hx))
end
def encEv (e : EvT) : List Value := [.int .i64 e.1, .string e.2.1, .string e.2.2.1, .int .i64 e.2.2.2.1, .int .i64 e.2.2.2.2.1, .slice e.2.2.2.2.2.a e.2.2.2.2.2.len e.2.2.2.2.2.cap]
/-- What is known beside some blocks. -/
def Hp.out (X : List Nat) (ρ : Hp) : Hp := fun k => if k ∈ X then none else ρ k
theorem out_le {X : List Nat} {ρ : Hp} : Hp.Le (Hp.out X ρ) ρ := fun k x h => by
  unfold Hp.out at h
  split at h
  · cases h
  · exact h
theorem out_keep {X : List Nat} {ρ τ τ' : Hp} (h : Hp.Le (Hp.out X ρ) τ) (hk : Keep X τ τ') : Hp.Le (Hp.out X ρ) τ' := fun k x hx => by
  have h1 := h k x hx
  unfold Hp.out at hx
  split at hx
  · cases hx
  · rename_i hn
    exact hk k x hn h1
theorem out_at {X : List Nat} {ρ : Hp} {k : Nat} {x : Bool × Obj} (hk : k ∉ X) (h : ρ k = some x) : Hp.out X ρ k = some x := by
  unfold Hp.out
  rw [if_neg hk]; exact h
theorem rdL_ints : ∀ (ws : List Int) (i : Nat) (w : Int), ws[i]? = some w → rdL [.int .i64] i (ws.map (Value.int .i64)) = some w := by
  intro ws i w h
  have hlt := (List.getElem?_eq_some_iff.1 h).1
  unfold rdL
  have hb : Nat.ble (i + [Ce.int IntKind.i64].length) (ws.map (Value.int .i64)).length = true := Nat.ble_eq_true_of_le (by simp; omega)
  rw [hb]
  simp only
  have h2 : (ws.map (Value.int .i64))[i]? = some (Value.int .i64 w) := by simp [h]
  have hlt2 : i < (ws.map (Value.int .i64)).length := by simpa using hlt
  rw [List.drop_eq_getElem_cons hlt2]
  rw [List.getElem?_eq_getElem hlt2] at h2
  simp only [Option.some.injEq] at h2
  rw [h2]
  rfl
end Go.Wz
