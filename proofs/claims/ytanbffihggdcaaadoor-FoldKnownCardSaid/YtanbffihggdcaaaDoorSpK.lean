/- FoldKnown, and the example that wakes each statement of the chapter: computed. -/
import Derived.Test.YtanbffihggdcaaaDoorSpV
set_option linter.unusedVariables false
set_option linter.unusedSimpArgs false
set_option maxRecDepth 100000
namespace Go.Wd
open Go.Proofs Go.Eng Go.Sort
def stOkB (K : Nat) (S : St) : Bool := decide (S.tr.nodes.length ≤ 64) && S.tr.nodes.all (fun kn => decide (kn.2.1.size ≤ 64 ∧ kn.1 = kn.2.1)) && S.bodies.all (fun b => decide (b.2.2.length < K)) && decide (0 < K)
theorem stOk_of {K : Nat} {S : St} (h : stOkB K S = true) : StOk K S := by
  unfold stOkB at h
  simp only [Bool.and_eq_true, decide_eq_true_eq, List.all_eq_true] at h
  obtain ⟨⟨⟨h1, h2⟩, h3⟩, h4⟩ := h
  exact ⟨⟨h1, fun kn hk => (h2 kn hk).1⟩, fun kn hk => (h2 kn hk).2, h3, h4⟩
theorem sapply_l {S : St} {e : EvT} {ps : List Prt} (h : e.1 ≠ 5) (l l' : List (ByteArray × Nd)) : sapply S e ps l = sapply S e ps l' := by
  unfold sapply
  rw [if_neg h, if_neg h]
/-- A state in memory, and what is needed beside it. -/
structure Sc (K : Nat) (σ : Hp) (p tp m bm : Nat) (S : St) : Prop where
  gl : Gl σ
  st : StateAt σ p tp m bm S
  ok : StOk K S
  z : 0 ∉ [tp, m, bm]
theorem Sc.le {K : Nat} {σ τ : Hp} {p tp m bm : Nat} {S : St} (h : Sc K σ p tp m bm S) (hl : Hp.Le σ τ) : Sc K τ p tp m bm S := ⟨h.gl.le hl, h.st.le hl, h.ok, h.z⟩
theorem Gl.zero {σ : Hp} (h : Gl σ) : ∃ y, σ 0 = some y := by
  obtain ⟨m, hm⟩ := h
  rw [ldR_at] at hm
  cases e : σ 0 with
  | none => rw [e] at hm; cases hm
  | some y => exact ⟨y, rfl⟩
section
variable {N : Nat} {σ : Hp} {p tp m bm : Nat} {S : St} {K : Nat}
theorem ApplyS {e : EvT} {sl : Sl} {ps : List Prt} {r : Int} {S' : St} {Q : Int → Hp → Prop} [Up Q] (hN : 100 < N) (hK : K ≤ N) (hK2 : K ≤ 1000000000) (hs : Sc K σ p tp m bm S) (hl : e.1 ≠ 5 ∨ tunder S.tr.nodes e.2.1 = []) (hps : PartsAt σ sl ps) (hpl : ps.length < K)
    (heq : sapply S e ps [] = (r, S')) (hok : StOk K S') (h : ∀ τ, Keep [tp, m, bm] σ τ → Sc K τ p tp m bm S' → Q r τ) : (fold_State_Apply N (some ⟨p, 0, none⟩, e, sl)).run Q σ := by
  refine Apply_up hN hs.gl hs.st hs.ok hK hK2 hps hpl fun l τ hp hk => ?_
  have : sapply S e ps l = (r, S') := by
    rcases hl with hl | hl
    · rw [sapply_l hl l [], heq]
    · rw [hl] at hp
      rw [List.perm_nil.1 hp, heq]
  rw [this]
  exact fun hst => h τ hk ⟨hs.gl.keep hk hs.z, hst, hok, hs.z⟩
theorem NewS {Q : Option Addr → Hp → Prop} [Up Q] (hg : Gl σ) (hK : 0 < K) (h : ∀ p tp m bm τ, Hp.Le σ τ → σ p = none → σ tp = none → σ m = none → σ bm = none → Sc K τ p tp m bm ⟨⟨[], 1⟩, []⟩ → Q (some ⟨p, 0, none⟩) τ) : (fold_New N ()).run Q σ := by
  refine New_up fun p tp m bm τ hl h1 h2 h3 h4 hst => h p tp m bm τ hl h1 h2 h3 h4 ⟨hg.le hl, hst, stOk_of (by simp [stOkB, hK]), ?_⟩
  obtain ⟨y, hy⟩ := hg.zero
  simp only [List.mem_cons, List.not_mem_nil, or_false, not_or]
  refine ⟨fun e => ?_, fun e => ?_, fun e => ?_⟩
  · rw [← e, hy] at h2; cases h2
  · rw [← e, hy] at h3; cases h3
  · rw [← e, hy] at h4; cases h4
/-- A row that was just laid. -/
theorem row_lit {α : Type} {n : Nat} {enc : α → List Value} {b c : Nat} {fl : Bool} {vs : List Value} {T : TypeId} {xs : List α} (hb : σ b = some (fl, ob vs T)) (hv : vs = xs.flatMap enc) (hn : ∀ x, (enc x).length = n) (hc : xs.length ≤ c) : RowAt n enc σ ⟨some ⟨b, 0, none⟩, xs.length, c⟩ xs := by
  refine ⟨rfl, hc, .inr ⟨b, 0, fl, _, T, (0, 0), rfl, hb, fun i x hx => ?_⟩⟩
  have hlt := (List.getElem?_eq_some_iff.1 hx).1
  have h1 := flatMap_len hn xs
  have hm : (i + 1) * n ≤ xs.length * n := Nat.mul_le_mul_right _ hlt
  rw [Nat.succ_mul] at hm
  refine ⟨by simp only [List.size_toArray, hv, h1]; omega, ?_⟩
  show List.take n (List.drop (0 + i * n) vs) = _
  rw [Nat.zero_add, hv]
  exact flatMap_at hn xs i x hx
abbrev S0 : St := ⟨⟨[], 1⟩, []⟩
def pa : ByteArray := ⟨#[47, 97]⟩
def ev0 (op : Int) (path : ByteArray) (off : Int) : EvT := (op, path, ⟨#[]⟩, off, 0, ⟨none, 0, 0⟩)
def aw1 : St := (sapply S0 (ev0 1 pa 0) [] []).2
def aw2 : St := (sapply aw1 (ev0 3 pa 2) [(0, 3, 1, 0)] []).2
theorem aw1_eq : (sapply S0 (ev0 1 pa 0) [] []).1 = 0 ∧ stOkB 100 aw1 = true := by decide +kernel
theorem aw2_eq : (sapply aw1 (ev0 3 pa 2) [(0, 3, 1, 0)] []).1 = 0 ∧ stOkB 100 aw2 = true := by decide +kernel
theorem aw_stat : sstat aw2 pa = ((1, false, 5), 0) ∧ sstat aw2 slash = ((0, true, 0), 0) := by decide +kernel
theorem awake_up {Q : Bool → Hp → Prop} [Up Q] (hN : 100 < N) (hg : Gl σ) (h : Q true σ) : (law15_awake N ()).run Q σ := by
  unfold law15_awake
  refine bind_go (NewS (K := 100) hg (by omega) fun p tp m bm τ hl hp htp hm hbm hs => ?_)
  refine cnd_go (fun e => by cases e) (fun _ => ?_)
  refine bind_go (ApplyS (S' := aw1) (ps := []) (e := ev0 1 pa 0) hN (by omega) (by omega) hs (.inl (by decide)) (RowAt.nil none) (by simp) (Prod.ext aw1_eq.1 rfl) (stOk_of aw1_eq.2) fun τ1 k1 s1 => ?_)
  intro b4 h4
  have s1' := s1.le (le_set (x := (true, ob [.int .i64 0, .int .i64 3, .int .i64 1, .int .i64 0] 34)) h4)
  refine bind_go (ApplyS (S' := aw2) (ps := [(0, 3, 1, 0)]) (e := ev0 3 pa 2) hN (by omega) (by omega) s1' (.inl (by decide)) (row_lit (xs := [(0, 3, 1, 0)]) set_same rfl encP_len (Nat.le_refl _)) (by simp) (Prod.ext aw2_eq.1 rfl) (stOk_of aw2_eq.2) fun τ2 k2 s2 => ?_)
  refine bind_go (Stat_up hN s2.gl s2.st ?_)
  rw [show (⟨#[47, 97]⟩ : ByteArray) = pa from rfl, aw_stat.1]
  refine new_st rfl fun b7 h7 => ?_
  have s3 := s2.le (le_set (x := (true, ob [.int .i64 1, .bool false, .int .i64 5] 37)) h7)
  refine bind_go (Stat_up hN s3.gl s3.st ?_)
  rw [show (⟨#[47]⟩ : ByteArray) = slash from rfl, aw_stat.2]
  refine new_st rfl fun b9 h9 => ?_
  have hfin : ∀ ρ : Hp, Hp.Le σ ρ → Q true ρ := fun ρ hρ => Up.le h _ hρ
  have n79 : b7 ≠ b9 := fun e => by subst e; rw [set_same] at h9; cases h9
  refine cnd_eq (fun _ => ?_) (fun e => absurd rfl e)
  refine cnd_eq (fun _ => ?_) (fun e => absurd rfl e)
  refine cnd_eq (fun _ => ?_) (fun e => absurd rfl e)
  refine ld_g0 (by rw [set_ne n79]; exact set_same) rfl ?_
  refine cnd_go (fun _ => ?_) (fun e => by cases e)
  refine cnd_eq (fun _ => ?_) (fun e => absurd rfl e)
  refine ld_go set_same rfl ?_
  refine cnd_go (fun _ => ?_) (fun e => by cases e)
  refine ld_go set_same rfl ?_
  rw [pure_run]
  refine hfin _ ?_
  -- what was known ahead of the call is known still: the state's blocks are new
  have hk12 : ∀ k x, σ k = some x → τ2 k = some x := fun k x hx => by
    have hk : k ∉ [tp, m, bm] := fun e => by
      simp only [List.mem_cons, List.not_mem_nil, or_false] at e
      rcases e with rfl | rfl | rfl
      · rw [htp] at hx; cases hx
      · rw [hm] at hx; cases hx
      · rw [hbm] at hx; cases hx
    exact k2 k x hk (le_set h4 _ _ (k1 k x hk (hl _ _ hx)))
  exact fun k x hx => le_set h9 _ _ (le_set h7 _ _ (hk12 k x hx))
end
/-! ### FoldKnown -/
def encEv (e : EvT) : List Value := [.int .i64 e.1, .string e.2.1, .string e.2.2.1, .int .i64 e.2.2.2.1, .int .i64 e.2.2.2.2.1, .slice e.2.2.2.2.2.a e.2.2.2.2.2.len e.2.2.2.2.2.cap]
def kev (b5 b6 : Nat) : List EvT := [(0, ⟨#[]⟩, ⟨#[]⟩, 0, 0, ⟨none, 0, 0⟩), (1, ⟨#[47, 97]⟩, ⟨#[]⟩, 0, 0, ⟨none, 0, 0⟩), (2, ⟨#[47, 100]⟩, ⟨#[]⟩, 0, 0, ⟨none, 0, 0⟩), (3, ⟨#[47, 100]⟩, ⟨#[]⟩, 0, 0, ⟨none, 0, 0⟩), (3, ⟨#[47, 113]⟩, ⟨#[]⟩, 0, 0, ⟨none, 0, 0⟩),
  (3, ⟨#[47, 97]⟩, ⟨#[]⟩, 0, 0, ⟨some ⟨b5, 0, none⟩, 1025, 1025⟩), (3, ⟨#[47, 97]⟩, ⟨#[]⟩, -1, 0, ⟨none, 0, 0⟩), (3, ⟨#[47, 97]⟩, ⟨#[]⟩, 1099511627776, 0, ⟨some ⟨b6, 0, none⟩, 1, 1⟩), (3, ⟨#[47, 97]⟩, ⟨#[]⟩, 1099511627776, 0, ⟨none, 0, 0⟩),
  (4, ⟨#[47, 100]⟩, ⟨#[]⟩, 0, 0, ⟨none, 0, 0⟩), (4, ⟨#[47, 97]⟩, ⟨#[]⟩, 0, -1, ⟨none, 0, 0⟩), (4, ⟨#[47, 97]⟩, ⟨#[]⟩, 0, 1099511627776, ⟨none, 0, 0⟩), (8, ⟨#[47]⟩, ⟨#[]⟩, 0, 0, ⟨none, 0, 0⟩), (8, ⟨#[109]⟩, ⟨#[120]⟩, -5, 0, ⟨none, 0, 0⟩),
  (5, ⟨#[47, 97]⟩, ⟨#[47, 100, 47, 98]⟩, 0, 0, ⟨none, 0, 0⟩), (7, ⟨#[47, 100]⟩, ⟨#[]⟩, 0, 0, ⟨none, 0, 0⟩), (6, ⟨#[47, 100]⟩, ⟨#[]⟩, 0, 0, ⟨none, 0, 0⟩), (6, ⟨#[47, 100, 47, 98]⟩, ⟨#[]⟩, 0, 0, ⟨none, 0, 0⟩), (7, ⟨#[47, 100]⟩, ⟨#[]⟩, 0, 0, ⟨none, 0, 0⟩)]
def nrm (e : EvT) : EvT := (e.1, e.2.1, e.2.2.1, e.2.2.2.1, e.2.2.2.2.1, ⟨none, e.2.2.2.2.2.len, e.2.2.2.2.2.cap⟩)
def kevN : List EvT := (kev 0 0).map nrm
theorem kev_nrm (b5 b6 : Nat) : (kev b5 b6).map nrm = kevN := rfl
theorem scheck_nrm (S : St) (e : EvT) : scheck S e = scheck S (nrm e) := rfl
theorem sapply_nrm (S : St) (e : EvT) (ps : List Prt) (l : List (ByteArray × Nd)) : sapply S e ps l = sapply S (nrm e) ps l := rfl
def kwant : List Int := [1, 0, 0, 6, 4, 1, 9, 9, 0, 6, 9, 0, 11, 0, 0, 8, 6, 0, 0]
def kst : Nat → St
  | 0 => S0
  | i + 1 => match kevN[i]? with
    | some e => (sapply (kst i) e [] []).2
    | none => kst i
theorem k19 : ((List.range 19).all fun i => match kevN[i]?, kwant[i]? with
    | some e, some w => decide (scheck (kst i) e = w) && decide ((sapply (kst i) e [] []).1 = w) && stOkB 100 (kst (i + 1)) && (decide (e.1 ≠ 5) || decide ((tunder (kst i).tr.nodes e.2.1).length = 0))
    | _, _ => false) = true := by decide +kernel
def kw1 : St := (sapply (kst 19) (ev0 1 pa 0) [] []).2
theorem kw1_eq : (sapply (kst 19) (ev0 1 pa 0) [] []).1 = 0 ∧ stOkB 100 kw1 = true := by decide +kernel
def evd (n : Nat) (off : Int) : EvT := (3, pa, ⟨#[]⟩, off, 0, ⟨none, n, n⟩)
theorem kw2_eq : sapply kw1 (evd 2 0) [(0, 3, 1, 0)] [] = (1, kw1) := rfl
theorem kw3_eq : sapply kw1 (evd 0 0) [(0, 3, 0, 0)] [] = (1, kw1) := rfl
theorem kw4_eq : sapply kw1 (evd 0 1099511627776) [(0, 3, 1, 0)] [] = (9, kw1) := rfl
theorem kw_stat : sstat kw1 pa = ((3, false, 0), 0) ∧ chunksOf kw1 = [] := by decide +kernel
theorem kw_few : kw1.bodies.length = 1 := by decide +kernel
theorem k19_at {i : Nat} (hi : i < 19) : ∃ e w, kevN[i]? = some e ∧ kwant[i]? = some w ∧ scheck (kst i) e = w ∧ sapply (kst i) e [] [] = (w, kst (i + 1)) ∧ StOk 100 (kst (i + 1)) ∧ (e.1 ≠ 5 ∨ tunder (kst i).tr.nodes e.2.1 = []) := by
  have h := List.all_eq_true.1 k19 i (List.mem_range.2 hi)
  have hs : kst (i + 1) = match kevN[i]? with | some e => (sapply (kst i) e [] []).2 | none => kst i := rfl
  split at h
  · rename_i e w he hw
    rw [he] at hs
    simp only [Bool.and_eq_true, decide_eq_true_eq, Bool.or_eq_true] at h
    obtain ⟨⟨⟨h1, h2⟩, h3⟩, h4⟩ := h
    exact ⟨e, w, he, hw, h1, Prod.ext h2 hs.symm, stOk_of h3, h4.imp id List.eq_nil_of_length_eq_zero⟩
  · cases h
/-- What is known beside some blocks. -/
def Hp.out (X : List Nat) (ρ : Hp) : Hp := fun k => if k ∈ X then none else ρ k
theorem out_le {X : List Nat} {ρ : Hp} : Hp.Le (Hp.out X ρ) ρ := fun k x h => by
  unfold Hp.out at h
  split at h
  · cases h
  · exact h
theorem out_keep {X : List Nat} {ρ τ τ' : Hp} (h : Hp.Le (Hp.out X ρ) τ) (hk : Keep X τ τ') : Hp.Le (Hp.out X ρ) τ' := fun k x hx => by
  have h1 := h k x hx
  unfold Hp.out at hx
  split at hx
  · cases hx
  · rename_i hn
    exact hk k x hn h1
theorem out_at {X : List Nat} {ρ : Hp} {k : Nat} {x : Bool × Obj} (hk : k ∉ X) (h : ρ k = some x) : Hp.out X ρ k = some x := by
  unfold Hp.out
  rw [if_neg hk]; exact h
theorem rdL_ints : ∀ (ws : List Int) (i : Nat) (w : Int), ws[i]? = some w → rdL [.int .i64] i (ws.map (Value.int .i64)) = some w := by
  intro ws i w h
  have hlt := (List.getElem?_eq_some_iff.1 h).1
  unfold rdL
  have hb : Nat.ble (i + [Ce.int IntKind.i64].length) (ws.map (Value.int .i64)).length = true := Nat.ble_eq_true_of_le (by simp; omega)
  rw [hb]
  simp only
  have h2 : (ws.map (Value.int .i64))[i]? = some (Value.int .i64 w) := by simp [h]
  have hlt2 : i < (ws.map (Value.int .i64)).length := by simpa using hlt
  rw [List.drop_eq_getElem_cons hlt2]
  rw [List.getElem?_eq_getElem hlt2] at h2
  simp only [Option.some.injEq] at h2
  rw [h2]
  rfl
section
variable {N : Nat} {σ : Hp}
theorem FoldKnown_up {Q : Bool → Hp → Prop} [Up Q] (hN : 100 < N) (hg : Gl σ) (h : Q true σ) : (law15_FoldKnown N ()).run Q σ := by
  unfold law15_FoldKnown
  refine bind_go (awake_up hN hg ?_)
  refine cnd_not (fun e => by cases e) (fun _ => ?_)
  refine bind_go (NewS (K := 100) hg (by omega) fun p tp m bm τ hl hp htp hm hbm hs => ?_)
  refine cnd_go (fun e => by cases e) (fun _ => ?_)
  refine bind_go ⟨by decide, fun b5 h5 => ?_⟩
  rw [pure_run]
  intro b6 h6 b7 h7 b8 h8
  -- what lies beside the state
  generalize hτ1 : (τ.set b5 (true, Obj.cells (rep (1025 : Int).toNat [Value.int .u8 0]).toArray 5)).set b6 (true, ob [Value.int .u8 1] 5) = τ1 at h7 h8 ⊢
  have hs1 : Sc 100 τ1 p tp m bm S0 := by rw [← hτ1]; exact hs.le ((le_set h5).trans (le_set h6))
  have hl1 : Hp.Le σ τ1 := by rw [← hτ1]; exact hl.trans ((le_set h5).trans (le_set h6))
  have hf7 := hs1.st.fresh h7
  have hs2 := hs1.le (le_set (x := (true, ob ((kev b5 b6).flatMap encEv) 27)) h7)
  have hf8 := hs2.st.fresh (b := b8) h8
  have hs3 := hs2.le (le_set (x := (true, ob (kwant.map (Value.int .i64)) 3)) h8)
  have n78 : b7 ≠ b8 := fun e => by subst e; rw [set_same] at h8; cases h8
  have hl3 : Hp.Le σ ((τ1.set b7 (true, ob ((kev b5 b6).flatMap encEv) 27)).set b8 (true, ob (kwant.map (Value.int .i64)) 3)) := hl1.trans ((le_set h7).trans (le_set h8))
  show (M.bind (M.loop N (law15_FoldKnown_L0 N b7 b8 (some ⟨p, 0, none⟩)) 0) _).run Q ((τ1.set b7 (true, ob ((kev b5 b6).flatMap encEv) 27)).set b8 (true, ob (kwant.map (Value.int .i64)) 3))
  generalize hρ : ((τ1.set b7 (true, ob ((kev b5 b6).flatMap encEv) 27)).set b8 (true, ob (kwant.map (Value.int .i64)) 3)) = ρ at hs3 hl3 ⊢
  have g7 : ρ b7 = some (true, ob ((kev b5 b6).flatMap encEv) 27) := by rw [← hρ, set_ne n78]; exact set_same
  have g8 : ρ b8 = some (true, ob (kwant.map (Value.int .i64)) 3) := by rw [← hρ]; exact set_same
  have G7 := out_at hf7.2 g7
  have G8 := out_at hf8.2 g8
  have GL : Hp.Le σ (Hp.out [tp, m, bm] ρ) := fun k x hx => by
    refine out_at (fun e => ?_) (hl3 k x hx)
    simp only [List.mem_cons, List.not_mem_nil, or_false] at e
    rcases e with rfl | rfl | rfl
    · rw [htp] at hx; cases hx
    · rw [hm] at hx; cases hx
    · rw [hbm] at hx; cases hx
  refine bind_go ?_
  refine loop_cnt 19 (fun i st τ => st = (i : Int) ∧ Sc 100 τ p tp m bm (kst i) ∧ Hp.Le (Hp.out [tp, m, bm] ρ) τ) _ _ ?_ ?_ N 0 ρ ⟨rfl, hs3, out_le⟩ (by omega)
  · rintro i _ τ2 hi ⟨rfl, q1, q2⟩
    obtain ⟨e, w, k1, k2, k3, k4, k5, k6⟩ := k19_at hi
    have hl19 : (kev b5 b6).length = 19 := rfl
    have hx : (kev b5 b6)[i]? = some ((kev b5 b6)[i]'(by omega)) := List.getElem?_eq_getElem _
    generalize (kev b5 b6)[i]'(by omega) = e' at hx
    have he : nrm e' = e := by
      have := congrArg (Option.map nrm) hx
      rw [← List.getElem?_map, kev_nrm, k1] at this
      simpa using this.symm
    unfold law15_FoldKnown_L0
    have hrow := row_lit (n := 6) (enc := encEv) (xs := kev b5 b6) (c := 19) (q2 _ _ G7) rfl (fun _ => rfl) (Nat.le_refl 19)
    have hlt : (i : Int) < 19 := by omega
    refine cnd_dec (fun _ => ?_) (fun hc => absurd hlt hc)
    refine RowAt_nat hrow hx rfl (by simp [encEv, cso, Tp.ofs, Ce.of]; rfl) ?_
    have hb8 := q2 _ _ G8
    refine ⟨⟨b8, 0, none⟩, rfl, ⟨by omega, hlt⟩, ?_⟩
    have hr8 : rdL [.int .i64] (0 + (i : Int).toNat * 1) (kwant.map (Value.int .i64)) = some w := by
      rw [show 0 + (i : Int).toNat * 1 = i by omega]
      exact rdL_ints _ _ _ k2
    refine ld_go hb8 hr8 ?_
    refine bind_go (Check_up hN q1.gl q1.st q1.ok.tree ?_)
    rw [show scheck (kst i) (e'.1, e'.2.1, e'.2.2.1, e'.2.2.2.1, e'.2.2.2.2.1, e'.2.2.2.2.2) = w by rw [← k3, ← he]; rfl]
    refine ⟨?_, ?_⟩
    · rw [add_at]
      have := (ld_ob (B := Unit) (k := fun r => M.pure ()) (Q := fun _ _ => True) (cs := [.int .i64]) (o := 0 + (i : Int).toNat * 1) hb8 (by simp)).2 ⟨w, hr8, trivial⟩
      obtain ⟨r, hr, _⟩ := this
      have h2 := (ld_ob (B := Int) (k := fun r => M.pure r) (Q := fun a _ => a = r) (cs := [.int .i64]) (o := 0 + (i : Int).toNat * 1) hb8 (by simp)).1 ⟨r, hr, rfl⟩
      obtain ⟨r', hr', h3⟩ := h2
      rw [hr8] at hr'
      simp only [Option.some.injEq] at hr'
      subst hr'
      have h3 : w = r := h3
      rw [h3]; exact hr
    · refine cnd_ne (fun e => absurd rfl e) (fun _ => ?_)
      refine RowAt_nat hrow hx rfl (by simp [encEv, cso, Tp.ofs, Ce.of]; rfl) ?_
      refine bind_go (ApplyS (ps := []) (e := e') (r := w) (S' := kst (i + 1)) hN (by omega) (by omega) q1 (by rw [← he] at k6; exact k6) (RowAt.nil none) (by simp) (by rw [sapply_nrm, he]; exact k4) k5 fun τ3 r1 r2 => ?_)
      have q3 := out_keep q2 r1
      refine ⟨⟨b8, 0, none⟩, rfl, ⟨by omega, hlt⟩, ?_⟩
      refine ld_go (q3 _ _ G8) hr8 ?_
      refine cnd_ne (fun e => absurd rfl e) (fun _ => ?_)
      have hw : wi ((i : Int) + 1) = ((i + 1 : Nat) : Int) := by rw [wi_id (by omega) (by omega)]; omega
      dsimp only [vl]
      rw [hw, pure_run]
      exact LP.go ⟨rfl, r2, q3⟩
  · rintro _ τ2 ⟨rfl, q1, q2⟩
    unfold law15_FoldKnown_L0
    refine cnd_dec (fun hc => absurd hc (by decide)) (fun _ => ?_)
    rw [pure_run]
    refine bind_go (ApplyS (S' := kw1) (ps := []) (e := ev0 1 pa 0) hN (by omega) (by omega) q1 (.inl (by decide)) (RowAt.nil none) (by simp) (Prod.ext kw1_eq.1 rfl) (stOk_of kw1_eq.2) fun τ3 r1 q3 => ?_)
    have L3 := out_keep q2 r1
    intro b28 h28 b29 h29
    have q4 := (q3.le (le_set (x := (true, ob [.int .u8 1, .int .u8 2] 5)) h28)).le (le_set (x := (true, ob [.int .i64 0, .int .i64 3, .int .i64 1, .int .i64 0] 34)) h29)
    have L4 := L3.trans ((le_set (x := (true, ob [.int .u8 1, .int .u8 2] 5)) h28).trans (le_set (x := (true, ob [.int .i64 0, .int .i64 3, .int .i64 1, .int .i64 0] 34)) h29))
    refine bind_go (ApplyS (S' := kw1) (r := 1) (ps := [(0, 3, 1, 0)]) (e := (3, pa, ⟨#[]⟩, 0, 0, ⟨some ⟨b28, 0, none⟩, 2, 2⟩)) hN (by omega) (by omega) q4 (.inl (show (3 : Int) ≠ 5 by decide)) (row_lit (xs := [(0, 3, 1, 0)]) set_same rfl encP_len (Nat.le_refl _)) (by simp) kw2_eq (stOk_of kw1_eq.2) fun τ4 r2 q5 => ?_)
    have L5 := out_keep L4 r2
    intro b31 h31
    have q6 := q5.le (le_set (x := (true, ob [.int .i64 0, .int .i64 3, .int .i64 0, .int .i64 0] 34)) h31)
    have L6 := L5.trans (le_set (x := (true, ob [.int .i64 0, .int .i64 3, .int .i64 0, .int .i64 0] 34)) h31)
    refine bind_go (ApplyS (S' := kw1) (r := 1) (ps := [(0, 3, 0, 0)]) (e := evd 0 0) hN (by omega) (by omega) q6 (.inl (by decide)) (row_lit (xs := [(0, 3, 0, 0)]) set_same rfl encP_len (Nat.le_refl _)) (by simp) kw3_eq (stOk_of kw1_eq.2) fun τ5 r3 q7 => ?_)
    have L7 := out_keep L6 r3
    intro b33 h33
    have q8 := q7.le (le_set (x := (true, ob [.int .i64 0, .int .i64 3, .int .i64 1, .int .i64 0] 34)) h33)
    have L8 := L7.trans (le_set (x := (true, ob [.int .i64 0, .int .i64 3, .int .i64 1, .int .i64 0] 34)) h33)
    refine bind_go (ApplyS (S' := kw1) (r := 9) (ps := [(0, 3, 1, 0)]) (e := evd 0 1099511627776) hN (by omega) (by omega) q8 (.inl (by decide)) (row_lit (xs := [(0, 3, 1, 0)]) set_same rfl encP_len (Nat.le_refl _)) (by simp) kw4_eq (stOk_of kw1_eq.2) fun τ6 r4 q9 => ?_)
    have L9 := out_keep L8 r4
    refine bind_go (Stat_up hN q9.gl q9.st ?_)
    rw [show (⟨#[47, 97]⟩ : ByteArray) = pa from rfl, kw_stat.1]
    refine new_st rfl fun b36 h36 => ?_
    refine cnd_eq (fun _ => ?_) (fun e => absurd rfl e)
    refine cnd_eq (fun _ => ?_) (fun e => absurd rfl e)
    refine cnd_eq (fun _ => ?_) (fun e => absurd rfl e)
    refine cnd_eq (fun _ => ?_) (fun e => absurd rfl e)
    refine ld_go set_same rfl ?_
    refine cnd_eq (fun _ => ?_) (fun e => absurd rfl e)
    refine ld_go set_same rfl ?_
    refine cnd_eq (fun _ => ?_) (fun e => absurd rfl e)
    have q10 := q9.le (le_set (x := (true, ob [.int .i64 3, .bool false, .int .i64 0] 37)) h36)
    refine bind_go (Uses_up (K := 100) q10.st q10.ok (by omega) (by omega) (by rw [kw_few]; omega) (by rw [kw_few]; omega) (by rw [kw_stat.2]; simp) fun sl τ7 t1 t2 => ?_)
    rw [kw_stat.2] at t2
    have hlen : sl.len = 0 := by
      have := t2.len
      rw [this]
      simp [rising, putAll]
    rw [hlen]
    show Q true τ7
    exact Up.le h _ (GL.trans (L9.trans ((le_set h36).trans t1)))
end
end Go.Wd
