/- The state: events are done. -/
import Derived.Test.YtanbffihggdcaaaGreatDoorSpW
set_option linter.unusedVariables false
set_option linter.unusedSimpArgs false
namespace Go.Wz
open Go.Proofs Go.Eng
/-- What is few: nodes, and parts of a body. -/
structure StOk (K : Nat) (S : St) : Prop where
  tree : TreeOk S.tr
  key : ∀ kn ∈ S.tr.nodes, kn.1 = kn.2.1
  parts : ∀ b ∈ S.bodies, b.2.2.length < K
  pos : 0 < K
theorem StOk.up {K K' : Nat} {S : St} (h : StOk K S) (hk : K ≤ K') : StOk K' S := ⟨h.tree, h.key, fun b hb => by have := h.parts b hb; omega, by have := h.pos; omega⟩
theorem StOk.body {K : Nat} {S : St} (h : StOk K S) (id : Int) : (bodyOf S id).2.length < K := by
  unfold bodyOf
  cases hl : lk id S.bodies with
  | none => exact h.pos
  | some b => exact h.parts _ (lk_mem hl)
section
variable {N : Nat} {σ : Hp} {p tp m bm : Nat} {S : St}
theorem StateAt.ptr {T : TypeId} (hs : StateAt σ p tp m bm S) : (∃ y, σ p = some y) ∧ (∃ y, σ tp = some y) ∧ (∃ y, σ m = some y) ∧ (∃ y, σ bm = some y) := by
  obtain ⟨T, h1⟩ := hs.st
  obtain ⟨T1, h2, hm⟩ := hs.tr.at_
  obtain ⟨raw, hb, _⟩ := hs.bods
  obtain ⟨es, c, h3⟩ := hm.obj
  obtain ⟨es', c', h4⟩ := hb.obj
  exact ⟨⟨_, h1⟩, ⟨_, h2⟩, ⟨_, h3⟩, ⟨_, h4⟩⟩
theorem StateAt.fresh (hs : StateAt σ p tp m bm S) {b : Nat} (hb : σ b = none) : b ≠ p ∧ b ∉ [tp, m, bm] := by
  obtain ⟨⟨_, h1⟩, ⟨_, h2⟩, ⟨_, h3⟩, ⟨_, h4⟩⟩ := hs.ptr (T := 0)
  refine ⟨fun e => ?_, fun e => ?_⟩
  · subst e; rw [hb] at h1; cases h1
  · simp only [List.mem_cons, List.not_mem_nil, or_false] at e
    rcases e with rfl | rfl | rfl
    · rw [hb] at h2; cases h2
    · rw [hb] at h3; cases h3
    · rw [hb] at h4; cases h4
abbrev evOb (e : EvT) : Obj := ob [.int .i64 e.1, .string e.2.1, .string e.2.2.1, .int .i64 e.2.2.2.1, .int .i64 e.2.2.2.2.1, .slice e.2.2.2.2.2.a e.2.2.2.2.2.len e.2.2.2.2.2.cap] 31
theorem put_up {e : EvT} {sl : Sl} {ps : List Prt} {K : Nat} {Q : Int → Hp → Prop} [Up Q] (hN : 100 < N) (hg : Gl σ) (hs : StateAt σ p tp m bm S) (hok : StOk K S) (hK : K ≤ N) (hK2 : K ≤ 1000000000) (hps : PartsAt σ sl ps) (hpl : ps.length < K)
    (h : ∀ τ, Keep [tp, m, bm] σ τ → StateAt τ p tp m bm (sput S e ps).2 → Q (sput S e ps).1 τ) : (fold_State_put N (some ⟨p, 0, none⟩, e, sl)).run Q σ := by
  unfold fold_State_put
  intro b1 h1
  have hl := le_set (x := (true, evOb e)) h1
  have hb : (σ.set b1 (true, evOb e)) b1 = some (true, evOb e) := set_same
  show M.run _ Q (σ.set b1 (true, evOb e))
  revert hl hb
  generalize (σ.set b1 (true, evOb e)) = τ
  intro hl hb
  have hs' := hs.le hl
  have hps' := hps.le hl
  obtain ⟨T, hp⟩ := hs'.st
  have fin : ∀ v, v = decide (e.2.2.2.2.2.len > 0 ∧ longs 0 ps ≠ (e.2.2.2.2.2.len : Int)) → (cnd v (M.pure (1 : Int)) (
      ld [.str] (Addr.add ⟨b1, 0, none⟩ 1) fun (r8 : ByteArray) =>
      M.bind (fold_State_file N (some ⟨p, 0, none⟩, r8)) fun (r9 : Int × Int) =>
      nz (some (⟨p, 0, none⟩ : Addr)) fun a10 =>
      ld [.map] (Addr.add a10 1) fun (r11 : Option Nat) =>
      M.rd (lookR (.int .i64) (.int .i64 r9.1) r11 (.agg [.int .i64, .slice]) (0, ⟨none, 0, 0⟩)) fun (r12 : (Int × Sl) × Bool) =>
      ld [.int .i64] (Addr.add ⟨b1, 0, none⟩ 3) fun (r13 : Int) =>
      M.bind (body_Write N ((r12.1.1, r12.1.2), r13, sl)) fun (r14 : (Int × Sl) × Int) =>
      M.new (ob [.int .i64 0, .slice none 0 0] 47) fun b15 =>
      st ⟨b15, 0, none⟩ [.int .i64 r14.1.1, .slice r14.1.2.a r14.1.2.len r14.1.2.cap] <|
      M.bind ((
      vl (r14.2 == (0 : Int)) fun t16 =>
      cnd t16 (
      nz (some (⟨p, 0, none⟩ : Addr)) fun a17 =>
      ld [.map] (Addr.add a17 1) fun (r18 : Option Nat) =>
      ld [.int .i64, .slice] ⟨b15, 0, none⟩ fun (r19 : Int × Sl) =>
      M.bind (mapPutM (.int .i64) (.int .i64 r9.1) (.agg #[.int .i64 r19.1, .slice r19.2.a r19.2.len r19.2.cap]) r18) fun _ =>
      M.pure ()) (
      M.pure ())) : M (Unit)) fun (r20 : Unit) =>
      M.pure r14.2)).run Q τ := by
    intro v hv
    subst hv
    unfold sput at h
    refine cnd_dec (fun hc => ?_) (fun hc => ?_)
    · rw [if_pos hc] at h
      exact h _ (Keep.of_le hl) hs'
    · rw [if_neg hc] at h
      refine ld_go hb rfl ?_
      refine bind_go (file_up hN (hg.le hl) hs' ?_)
      refine nz_go (ld_go hp rfl ?_)
      obtain ⟨r, g1, g2, g3⟩ := hs'.look (sfile S e.2.1).1
      refine ⟨_, g1, ?_⟩
      refine ld_go hb rfl ?_
      have hbl := hok.body (sfile S e.2.1).1
      have hbe : (r.1, (bodyOf S (sfile S e.2.1).1).2) = bodyOf S (sfile S e.2.1).1 := by rw [g2]
      refine bind_go (Write_up (ps := (bodyOf S (sfile S e.2.1).1).2) (ls := ps) g3 hps' (by omega) (by omega) (by omega) (by omega) fun s' ρ k1 k2 => ?_)
      rw [hbe] at k2 ⊢
      refine new_st rfl fun b15 h15 => ?_
      have hlr := hl.trans (k1.trans (le_set (x := (true, ob [.int .i64 (bwrite (bodyOf S (sfile S e.2.1).1) e.2.2.2.1 ps).1.1, .slice s'.a s'.len s'.cap] 47)) h15))
      refine bind_go (cnd_eq (fun h0 => ?_) (fun h0 => ?_))
      · have h0 : (bwrite (bodyOf S (sfile S e.2.1).1) e.2.2.2.1 ps).2 = 0 := h0
        dsimp only at h
        rw [if_pos h0] at h
        have hs2 := hs.le hlr
        obtain ⟨T2, hp2⟩ := hs2.st
        refine nz_go (ld_go hp2 rfl (ld_g0 set_same rfl ?_))
        refine bind_go (hs2.bput (a := ((bwrite (bodyOf S (sfile S e.2.1).1) e.2.2.2.1 ps).1.1, s')) (b := (bwrite (bodyOf S (sfile S e.2.1).1) e.2.2.2.1 ps).1) rfl (k2.le (le_set h15)) fun τ2 q1 q2 => ?_)
        rw [pure_run, pure_run]
        have h0' : (bwrite (bodyOf S (sfile S e.2.1).1) e.2.2.2.1 ps).2 = 0 := h0
        rw [h0']
        exact h τ2 ((Keep.of_le hlr).trans (q1.sub (by simp))) q2
      · have h0 : ¬ (bwrite (bodyOf S (sfile S e.2.1).1) e.2.2.2.1 ps).2 = 0 := h0
        dsimp only at h
        rw [if_neg h0] at h
        exact h _ (Keep.of_le hlr) (hs.le hlr)
  refine bind_go (ld_go hb rfl ?_)
  refine cnd_dec (fun e1 => ?_) (fun e1 => ?_)
  · have e1 : ((e.2.2.2.2.2.len : Nat) : Int) > 0 := e1
    refine ld_go hb rfl ?_
    refine bind_go (long_up hps' (by omega) (by omega) ?_)
    refine ⟨by rw [add_at, ldR_at, hb]; rfl, ?_⟩
    refine fin _ ?_
    by_cases hq : longs 0 ps = (e.2.2.2.2.2.len : Int)
    · simp [hq]
    · simp only [ne_eq, hq, not_false_eq_true, and_true]
      rw [decide_eq_true (by omega)]
      simpa using hq
  · have e1 : ¬ ((e.2.2.2.2.2.len : Nat) : Int) > 0 := e1
    refine fin false ?_
    symm
    exact decide_eq_false (fun hh => e1 (by omega))
theorem scheck_make {e : EvT} (h : scheck S e = 0) (h1 : e.1 = 1 ∨ e.1 = 2) : tcan S.tr e.2.1 = 0 := by
  unfold scheck at h; rw [if_pos h1] at h; exact h
theorem scheck_ren {e : EvT} (h : scheck S e = 0) (h1 : e.1 = 5) : tcanren S.tr e.2.1 e.2.2.1 = 0 := by
  unfold scheck at h; rw [if_neg (by omega), if_neg (by omega), if_neg (by omega), if_pos h1] at h; exact h
theorem scheck_drop {e : EvT} (h : scheck S e = 0) (h1 : e.1 = 6 ∨ e.1 = 7) : tcandrop S.tr e.2.1 (e.1 == 7) = 0 := by
  unfold scheck at h; rw [if_neg (by omega), if_neg (by omega), if_neg (by omega), if_neg (by omega), if_pos h1] at h; exact h
theorem sa_err {e : EvT} {ps : List Prt} {l : List (ByteArray × Nd)} (h : scheck S e ≠ 0) : sapply S e ps l = (scheck S e, S) := if_pos h
theorem sa_make {e : EvT} {ps : List Prt} {l : List (ByteArray × Nd)} (h : scheck S e = 0) (h1 : e.1 = 1 ∨ e.1 = 2) : sapply S e ps l = (0, ⟨tmake S.tr e.2.1 (e.1 == 2), if e.1 = 1 then kput S.tr.next (0, []) S.bodies else S.bodies⟩) := by
  unfold sapply; rw [if_neg (by simpa using h), if_pos h1]
theorem sa_write {e : EvT} {ps : List Prt} {l : List (ByteArray × Nd)} (h : scheck S e = 0) (h1 : e.1 = 3) : sapply S e ps l = sput S e ps := by
  unfold sapply; rw [if_neg (by simpa using h), if_neg (by omega), if_pos h1]
theorem sa_trunc {e : EvT} {ps : List Prt} {l : List (ByteArray × Nd)} (h : scheck S e = 0) (h1 : e.1 = 4) : sapply S e ps l = (0, ⟨S.tr, kput (sfile S e.2.1).1 (btrunc (bodyOf S (sfile S e.2.1).1) e.2.2.2.2.1).1 S.bodies⟩) := by
  unfold sapply; rw [if_neg (by simpa using h), if_neg (by omega), if_neg (by omega), if_pos h1]
theorem sa_ren {e : EvT} {ps : List Prt} {l : List (ByteArray × Nd)} (h : scheck S e = 0) (h1 : e.1 = 5) : sapply S e ps l = (0, ⟨tren S.tr e.2.1 e.2.2.1 l, kdel (if e.2.1 = e.2.2.1 then -1 else tgone S.tr e.2.2.1) S.bodies⟩) := by
  unfold sapply; rw [if_neg (by simpa using h), if_neg (by omega), if_neg (by omega), if_neg (by omega), if_pos h1]
theorem sa_drop {e : EvT} {ps : List Prt} {l : List (ByteArray × Nd)} (h : scheck S e = 0) (h1 : e.1 = 6 ∨ e.1 = 7) : sapply S e ps l = (0, ⟨⟨kdel e.2.1 S.tr.nodes, S.tr.next⟩, kdel (tid S.tr.nodes e.2.1) S.bodies⟩) := by
  unfold sapply; rw [if_neg (by simpa using h), if_neg (by omega), if_neg (by omega), if_neg (by omega), if_neg (by omega), if_pos h1]
theorem sa_none {e : EvT} {ps : List Prt} {l : List (ByteArray × Nd)} (h : scheck S e = 0) (h1 : ¬ (e.1 = 1 ∨ e.1 = 2)) (h2 : ¬ e.1 = 3) (h3 : ¬ e.1 = 4) (h4 : ¬ e.1 = 5) (h5 : ¬ (e.1 = 6 ∨ e.1 = 7)) : sapply S e ps l = (0, S) := by
  unfold sapply; rw [if_neg (by simpa using h), if_neg h1, if_neg h2, if_neg h3, if_neg h4, if_neg h5]
theorem Apply_up {e : EvT} {sl : Sl} {ps : List Prt} {K : Nat} {Q : Int → Hp → Prop} [Up Q] (hN : 100 < N) (hg : Gl σ) (hs : StateAt σ p tp m bm S) (hok : StOk K S) (hK : K ≤ N) (hK2 : K ≤ 1000000000) (hps : PartsAt σ sl ps) (hpl : ps.length < K)
    (h : ∀ (l : List (ByteArray × Nd)) τ, l.Perm (tunder S.tr.nodes e.2.1) → Keep [tp, m, bm] σ τ → StateAt τ p tp m bm (sapply S e ps l).2 → Q (sapply S e ps l).1 τ) : (fold_State_Apply N (some ⟨p, 0, none⟩, e, sl)).run Q σ := by
  unfold fold_State_Apply
  intro b1 h1
  have hl := le_set (x := (true, evOb e)) h1
  have hb : (σ.set b1 (true, evOb e)) b1 = some (true, evOb e) := set_same
  show M.run _ Q (σ.set b1 (true, evOb e))
  revert hl hb
  generalize (σ.set b1 (true, evOb e)) = τ
  intro hl hb
  have hs' := hs.le hl
  have hg' := hg.le hl
  have hps' := hps.le hl
  obtain ⟨hf1, hf2⟩ := hs.fresh h1
  obtain ⟨T, hp⟩ := hs'.st
  have or2 : ∀ (a b : Int), ((e.1 == a) || (e.1 == b)) = decide (e.1 = a ∨ e.1 = b) := fun a b => by
    by_cases h1 : e.1 = a <;> by_cases h2 : e.1 = b <;> simp [h1, h2]
  refine ld_g0 hb rfl ?_
  refine bind_go (Check_up hN hg' hs' hok.tree ?_)
  refine cnd_ne (fun e1 => ?_) (fun e1 => ?_)
  · have e1 : scheck S e ≠ 0 := e1
    have := h _ τ (List.Perm.refl _) (Keep.of_le hl)
    rw [sa_err e1] at this
    exact this hs'
  · have e1 : scheck S e = 0 := e1
    refine bind_go (ld_go hb rfl ?_)
    refine orr_go ?_
    rw [or2]
    refine cnd_dec (fun e2 => ?_) (fun e2 => ?_)
    · refine nz_go (ld_go hp rfl (ld_go hb rfl (ld_go hb rfl ?_)))
      have hcan := scheck_make e1 e2
      refine bind_go (Make_up hN hg' hs'.tr (fun hh => absurd hcan hh) fun _ ρ k1 k2 => ?_)
      have hbρ := k1 b1 _ (fun hh => hf2 (by simp only [List.mem_cons, List.not_mem_nil, or_false] at hh ⊢; exact hh.elim .inl (fun hh => .inr (.inl hh)))) hb
      have hsρ := hs'.tree k1 k2
      have hkρ : Keep [tp, m, bm] σ ρ := (Keep.of_le hl).trans (k1.sub (by simp))
      refine ld_go hbρ rfl ?_
      refine cnd_eq (fun e3 => ?_) (fun e3 => ?_)
      · have e3 : e.1 = 1 := e3
        obtain ⟨T2, hp2⟩ := hsρ.st
        refine nz_go (ld_go hp2 rfl ?_)
        refine bind_go (hsρ.bput (a := (0, ⟨none, 0, 0⟩)) (b := (0, [])) rfl (RowAt.nil none) fun τ2 q1 q2 => ?_)
        have := h _ τ2 (List.Perm.refl _) (hkρ.trans (q1.sub (by simp)))
        rw [sa_make e1 e2, if_pos e3] at this
        exact this q2
      · have e3 : ¬ e.1 = 1 := e3
        have := h _ ρ (List.Perm.refl _) hkρ
        rw [sa_make e1 e2, if_neg e3] at this
        exact this hsρ
    · refine cnd_eq (fun e3 => ?_) (fun e3 => ?_)
      · have e3 : e.1 = 3 := e3
        refine ld_g0 hb rfl ?_
        refine bind_go (put_up (e := e) hN hg' hs' hok hK hK2 hps' hpl fun ρ k1 k2 => ?_)
        have := h _ ρ (List.Perm.refl _) ((Keep.of_le hl).trans k1)
        rw [sa_write e1 e3] at this
        exact this k2
      · have e3 : ¬ e.1 = 3 := e3
        refine cnd_eq (fun e4 => ?_) (fun e4 => ?_)
        · have e4 : e.1 = 4 := e4
          refine ld_go hb rfl ?_
          refine bind_go (file_up hN hg' hs' ?_)
          refine nz_go (ld_go hp rfl (nz_go (ld_go hp rfl ?_)))
          obtain ⟨r, g1, g2, g3⟩ := hs'.look (sfile S e.2.1).1
          refine ⟨_, g1, ?_⟩
          refine ld_go hb rfl ?_
          have hbl := hok.body (sfile S e.2.1).1
          have hbe : (r.1, (bodyOf S (sfile S e.2.1).1).2) = bodyOf S (sfile S e.2.1).1 := by rw [g2]
          refine bind_go (Trunc_up (ps := (bodyOf S (sfile S e.2.1).1).2) g3 (by omega) (by omega) fun s' ρ k1 k2 => ?_)
          rw [hbe] at k2 ⊢
          have hsρ := hs'.le k1
          refine ⟨by rw [add_at, ldR_at, k1 _ _ hp]; rfl, ?_⟩
          refine bind_go (hsρ.bput (a := ((btrunc (bodyOf S (sfile S e.2.1).1) e.2.2.2.2.1).1.1, s')) (b := (btrunc (bodyOf S (sfile S e.2.1).1) e.2.2.2.2.1).1) rfl k2 fun τ2 q1 q2 => ?_)
          have := h _ τ2 (List.Perm.refl _) ((Keep.of_le (hl.trans k1)).trans (q1.sub (by simp)))
          rw [sa_trunc e1 e4] at this
          exact this q2
        · have e4 : ¬ e.1 = 4 := e4
          refine cnd_eq (fun e5 => ?_) (fun e5 => ?_)
          · have e5 : e.1 = 5 := e5
            refine nz_go (ld_go hp rfl (ld_go hb rfl (ld_go hb rfl ?_)))
            have hcan := scheck_ren e1 e5
            have fin : ∀ (gone : Int) (t : Tr) ρ, Keep [m] τ ρ → TreeAt ρ tp m t → (∀ τ2, Keep [tp, m, bm] σ τ2 → StateAt τ2 p tp m bm ⟨t, kdel gone S.bodies⟩ → Q 0 τ2) →
                (nz (some (⟨p, 0, none⟩ : Addr)) fun a38 => ld [.map] (Addr.add a38 1) fun (r39 : Option Nat) => M.bind (mapDelM (.int .i64) (.int .i64 gone) r39) fun _ => M.pure (.inl () : Unit ⊕ Int)).run (fun (r : Unit ⊕ Int) s => (sumM r (fun (q52 : Unit) => M.pure 0) fun (r53 : Int) => M.pure r53).run Q s) ρ := by
              intro gone t ρ k1 k2 hq
              have hsρ := hs'.tree (k1.sub (by simp)) k2
              obtain ⟨T2, hp2⟩ := hsρ.st
              refine nz_go (ld_go hp2 rfl ?_)
              refine bind_go (hsρ.bdel fun τ2 q1 q2 => ?_)
              exact hq τ2 (((Keep.of_le hl).trans (k1.sub (by simp))).trans (q1.sub (by simp))) q2
            refine bind_go (Rename_up hN hg' hs'.tr hok.tree hok.key (fun hh => absurd hcan hh) (fun _ hab => ?_) fun _ hab l ρ hp1 k1 k2 => ?_)
            · refine fin (-1) S.tr τ (Keep.refl _ _) hs'.tr fun τ2 q1 q2 => ?_
              have := h _ τ2 (List.Perm.refl _) q1
              rw [sa_ren e1 e5] at this
              unfold tren at this
              rw [if_pos hab, if_pos hab] at this
              exact this q2
            · refine fin (tgone S.tr e.2.2.1) _ ρ k1 k2 fun τ2 q1 q2 => ?_
              have := h l τ2 hp1 q1
              rw [sa_ren e1 e5] at this
              unfold tren at this
              rw [if_neg hab, if_neg hab] at this
              exact this q2
          · have e5 : ¬ e.1 = 5 := e5
            refine orr_go ?_
            rw [or2]
            refine cnd_dec (fun e6 => ?_) (fun e6 => ?_)
            · refine nz_go (ld_go hp rfl (ld_go hb rfl (ld_go hb rfl ?_)))
              have hcan := scheck_drop e1 e6
              refine bind_go (Drop_up hN hg' hs'.tr hok.tree (fun hh => absurd hcan hh) fun _ ρ k1 k2 => ?_)
              have hsρ := hs'.tree (k1.sub (by simp)) k2
              obtain ⟨T2, hp2⟩ := hsρ.st
              refine nz_go (ld_go hp2 rfl ?_)
              refine bind_go (hsρ.bdel fun τ2 q1 q2 => ?_)
              have := h _ τ2 (List.Perm.refl _) (((Keep.of_le hl).trans (k1.sub (by simp))).trans (q1.sub (by simp)))
              rw [sa_drop e1 e6] at this
              exact this q2
            · have := h _ τ (List.Perm.refl _) (Keep.of_le hl)
              rw [sa_none e1 e2 e3 e4 e5 e6] at this
              exact this hs'
/-! ### A new one -/
theorem New_up {Q : Option Addr → Hp → Prop} [Up Q] (h : ∀ p tp m bm τ, Hp.Le σ τ → σ p = none → σ tp = none → σ m = none → σ bm = none → StateAt τ p tp m bm ⟨⟨[], 1⟩, []⟩ → Q (some ⟨p, 0, none⟩) τ) : (fold_New N ()).run Q σ := by
  unfold fold_New tree_New
  refine bind_go ?_
  intro m hm tp htp
  obtain ⟨n1, n2, htp⟩ := set_none.1 htp
  rw [pure_run]
  intro bm hbm
  obtain ⟨n3, n4, hbm⟩ := set_none.1 hbm
  obtain ⟨n5, n6, hbm⟩ := set_none.1 hbm
  intro p hp
  obtain ⟨n7, n8, hp⟩ := set_none.1 hp
  obtain ⟨n9, n10, hp⟩ := set_none.1 hp
  obtain ⟨n11, n12, hp⟩ := set_none.1 hp
  rw [pure_run]
  refine h p tp m bm _ (le_sets (le_sets (le_sets (le_sets (Hp.Le.refl _) hm) htp) hbm) hp) hp htp hm hbm ⟨⟨142, set_same⟩, ⟨161, ?_, ?_⟩, ⟨[], ?_, trivial⟩, n6⟩
  · rw [set_ne n10, set_ne n4]; exact set_same
  · refine MapP.keep (MapP.new (σ := σ) 0) ?_
    rw [set_ne n12, set_ne n6, set_ne n2]
  · refine MapP.keep (MapP.new (σ := ((σ.set m (true, .map #[] 0)).set tp (true, ob [.map (some m), .int .i64 1] 161))) 0) ?_
    rw [set_ne n8]
end
end Go.Wz
