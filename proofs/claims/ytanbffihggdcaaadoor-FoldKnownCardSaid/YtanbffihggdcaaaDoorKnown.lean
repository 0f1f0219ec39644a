/- FoldKnown: the call returns true, and what lay before lies as it did. Conditions: those of the given row (the listed variables as the program's text lays them), and no others. -/
import Derived.Test.YtanbffihggdcaaaDoorSpK
import Derived.Shelf.Vars
import Derived.Handed
import Derived.ChangeSame
import Derived.JoinedOf
import Derived.RowKit
import Derived.LaidLaws
import Derived.Lay
import Derived.ChangeAt
import Derived.MakeChecks
import Derived.LaidOnce
import Derived.SevenTiedAt
import Derived.Test.YtanbffihggdcaaaDoorRows
import Derived.Test.YtanbffihggdcaaaDoorCards
import Derived.Test.YtanbffihggdcaaaDoorTie
set_option linter.unusedVariables false
set_option linter.unusedSimpArgs false
set_option maxRecDepth 100000
namespace Go.Eng
theorem sp_of_row {P : Program} {f : FuncId} {A R : List Ty} {F : Ts A → M (Ts R)} {fn : Func} (h : RowOk P ⟨f, A, R, F⟩) (hf : P.funcs[f]? = some fn) (hb : fn.body.isNone = false) (hn : (fn.name == "runtime.NumGoroutine") = false) : Sp P f A R F := by
  intro x B w0 σ w Q hs hq
  have hc := h x B w0 σ w Q hs hq
  have hr : (callFunc f (tsv A x).toArray).run P w = .ok (.enter f (tsv A x).toArray) w := by
    have hn' : fn.name ≠ "runtime.NumGoroutine" := by simpa using hn
    have hb' : fn.body ≠ none := by intro e; rw [e] at hb; simp at hb
    simp [callFunc, hf, hb', hn']
  change Leads P _ ((callFunc f (tsv A x).toArray).run P w) at hc
  rw [hr] at hc
  refine Calls.mono hc fun e w' => ?_
  rintro ⟨v, rfl, t, σ', rfl, h1, h2⟩
  exact ⟨t, σ', rfl, h1, h2⟩
instance : Up (fun (r : Bool) (_ : Hp) => r = true) := ⟨fun _ _ _ _ h => h⟩
end Go.Eng
namespace Go.Wd
open Go.Proofs Go.Eng Go.RowKit
theorem start_at {W : World} {m : Int} (h : W.cell? ⟨0, 0, none⟩ = some (.int .i64 m)) : ∃ σ, Gl σ ∧ Sees W.heap.size W σ W := by
  unfold World.cell? at h
  cases e : W.heap[0]? with
  | none => simp [e] at h
  | some o =>
    rw [e] at h
    cases o with
    | cells arr T fz =>
      refine ⟨fun b => if b = 0 then some (false, .cells arr T fz) else none, ⟨m, ?_⟩, ⟨Below.refl _ _, Nat.le_refl _, fun b r o hb => ?_, fun b o hb => ?_⟩⟩
      · rw [ldR_at]
        simp only [if_true, rdAt]
        simp only [Option.isSome_none, Bool.false_eq_true, if_false] at h
        obtain ⟨h1, h2⟩ := Array.getElem?_eq_some_iff.1 h
        unfold rdL
        rw [Nat.ble_eq_true_of_le (by show 0 + 1 ≤ arr.toList.length; rw [Array.length_toList]; omega)]
        simp only [List.drop_zero]
        have : arr.toList = arr[0] :: arr.toList.tail := by
          cases ha : arr.toList with
          | nil => exact absurd (congrArg List.length ha) (by rw [Array.length_toList]; show ¬ arr.size = 0; omega)
          | cons x l =>
            have : arr[0] = x := by
              have h3 : arr.toList[0]? = some x := by rw [ha]; rfl
              rw [Array.getElem?_toList, Array.getElem?_eq_getElem h1] at h3
              simpa using h3
            rw [this]; rfl
        rw [this, h2]
        rfl
      · split at hb
        · rename_i hz
          subst hz
          simp only [Option.some.injEq, Prod.mk.injEq] at hb
          rw [e, ← hb.2]
        · cases hb
      · split at hb
        · simp at hb
        · cases hb
    | _ => simp at h
theorem law_calls (W : World) (hsh : W.ShapedOpen Tryd.prog) : Calls Tryd.prog 3 #[] W fun e w' => e = .returned (.bool true) ∧ Below W.heap.size W w' := by
  obtain ⟨m, hm⟩ := cell_of_shapedOpen_int (g := 0) (t := 3) (zero := #[.int .i64 0]) (k := .i64) hsh (of_decide_eq_true (by kernel_rfl)) (by kernel_rfl) rfl (by kernel_rfl) (by kernel_rfl) (by kernel_rfl)
  obtain ⟨σ, hg, hs⟩ := start_at hm
  have := sp_of_row (row_law15_FoldKnown 2000) Tryd.func3 (by kernel_rfl) (by kernel_rfl) () W.heap.size W σ W (fun r _ => r = true) hs (FoldKnown_up (by omega) hg rfl)
  refine this.mono ?_
  rintro e w' ⟨t, σ', rfl, h1, h2⟩
  have h2 : t = true := h2
  subst h2
  exact ⟨rfl, h1.below⟩
end Go.Wd
namespace Go.Wd
open Go.Proofs Go.Eng Go.RowKit Go.ChangeShapes Go.WideShapes Go.ChangeAt Go.Lib
open Go.Proofs.YtanbffihggdcaaaDoor
theorem ownD : ownKnob Tryd.prog.godebug = none := by kernel_rfl
theorem lifted (os : Os) (started : os.Started) (H : Type) (enc : TypeId × Value → H) :
    ReturnsInHanded {} Tryd.checked os 3 .any (fun w args => (Rows.foldKnownSpec.pre enc Tryd.prog Tryd.f3 [] false w args ∧ laidMetH Tryd.prog Rows.foldKnownRow.laid w) ∧ sizedMet enc Tryd.prog Tryd.f3 (OpenSpec.ofChange Rows.foldKnownSpec) false w args)
      (Rows.foldKnownSpec.post enc Tryd.prog Tryd.f3 false true false false) := by
  refine returnsInHanded_of_calls ownD started (by kernel_rfl)
    (ChangeSpec.witness_shaped (enc := enc) (C := Tryd.checked) (os := os) (X := fun w _ => laidMetH Tryd.prog Rows.foldKnownRow.laid w) false (World.laidAll Tryd.prog os Rows.foldKnownRow.laid) #[] 8 (World.laidAll_os _ _ _)
      (World.shaped_of_ZipB (by kernel_rfl) (by kernel_rfl)) (by kernel_rfl) (by kernel_rfl) (by kernel_rfl)
      (by rw [MakeChecks.laidMetH_plain _ _ _ (by kernel_rfl)]; exact laidMet_laidAll _ (by kernel_rfl) (by kernel_rfl))) ?_
  intro w tape i _ hsh _ hok hpre hholds
  obtain ⟨_, _, _, fn', hfn', _, _, _, _, hval⟩ := hok
  have e : fn' = Tryd.f3 := Option.some.inj (hfn'.symm.trans Tryd.func3)
  subst e
  obtain ⟨⟨⟨ds, gs, before, hw, hc⟩, hx⟩, hz⟩ := hpre
  have hW := DataW.Whole.of_heap (w' := w.forCall tape i) (by rfl) hw
  have hW' := hW
  obtain ⟨p, q, hA0, hV, rfl, _, _⟩ := hW
  have hA : DataW.TrodAll enc Tryd.prog (w.forCall tape i) 0 (fun _ => true) true Tryd.f3.params.toList i.args.toList ds p := hA0
  rw [Tryd.params3] at hA
  obtain ⟨ha, rfl, rfl⟩ := trodAll_none hA
  obtain ⟨rfl, rfl⟩ := trodVars_none hV
  have hcall := law_calls (w.forCall tape i) hsh
  rw [ha] at hW' ⊢
  refine hcall.mono fun e W' ⟨he, hb⟩ => ?_
  subst he
  refine ChangeSpec.post_blind ?_
  exact ⟨_, _, _, [], [], [], hW', trodAll_mk1 (shut_bool Tryd.underlying4 _), trodAll_mk0, rfl, hb.frame _, fun h => by cases h⟩
theorem holds : Rows.FoldKnownSaid :=
  OpenClaim.holds_of_wide 3 Tryd.f3 rfl rfl rfl rfl rfl rfl rfl ⟨rfl, rfl, rfl, rfl, rfl⟩ rfl rfl rfl rfl rfl (by kernel_rfl) Tryd.func3 (by kernel_rfl)
    (of_decide_eq_true (by kernel_rfl)) (by unfold Func.isWrapper; first | (rw [if_pos (by decide +kernel)]; kernel_rfl) | (rw [if_neg (by decide +kernel)]; exact ⟨rfl, rfl⟩))
    (fun os started H enc _ => lifted os started H enc)
theorem card_holds : Rows.FoldKnownCardSaid :=
  Claim7.holds_tied_plain_at .later [] [.data, .pinned] true (true, "c56692df122c12a25dd63d8f7e64c5185d747dd8c1e5c2d3613a8f8ef471e124") false holds (fun _ h => by cases h) (by kernel_rfl) (fun _ h => by cases h) foldKnown_row_tie rfl ⟨rfl, rfl⟩ (by kernel_rfl) rfl
    (fun f fn hf hfn => by
      obtain rfl : f = 3 := Option.some.inj ((show Tryd.prog.funcNamed "treering/treeringlaw15.FoldKnown" = some 3 by kernel_rfl).symm.trans hf) |>.symm
      obtain rfl : fn = Tryd.f3 := (Option.some.inj (Tryd.func3.symm.trans hfn)).symm
      exact ⟨by kernel_rfl, fun j t ht => by
        rw [Tryd.params3] at ht
        simp at ht⟩)
    (by kernel_rfl)
end Go.Wd
namespace Go.Proofs.YtanbffihggdcaaaDoor
theorem foldKnown_card : Rows.FoldKnownCardSaid := Go.Wd.card_holds
#print axioms foldKnown_card
end Go.Proofs.YtanbffihggdcaaaDoor
