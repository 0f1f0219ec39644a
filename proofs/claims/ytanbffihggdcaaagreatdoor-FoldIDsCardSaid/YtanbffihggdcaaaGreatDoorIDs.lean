/- FoldIDs: the call returns true, and its arguments read as they did. -/
import Derived.Test.YtanbffihggdcaaaGreatDoorShellA
import Derived.Test.YtanbffihggdcaaaGreatDoorLwE
set_option linter.unusedVariables false
set_option linter.unusedSimpArgs false
set_option maxRecDepth 100000
namespace Go.Wz
open Go.Proofs Go.Eng Go.RowKit Go.ChangeShapes Go.WideShapes Go.ChangeAt Go.Lib
open Go.Proofs.YtanbffihggdcaaaGreatDoor
namespace FoldIDsC
theorem lifted (os : Os) (started : os.Started) (H : Type) (enc : TypeId × Value → H) :
    ReturnsInHanded {} Tryz.checked os 4 .any (fun w args => (Rows.foldIDsSpec.pre enc Tryz.prog Tryz.f4 [] false w args ∧ laidMetH Tryz.prog Rows.foldIDsRow.laid w) ∧ sizedMet enc Tryz.prog Tryz.f4 (OpenSpec.ofChange Rows.foldIDsSpec) false w args)
      (Rows.foldIDsSpec.post enc Tryz.prog Tryz.f4 false true false false) := by
  refine returnsInHanded_of_calls ownZ started (by kernel_rfl)
    (ChangeSpec.witness_shaped (enc := enc) (C := Tryz.checked) (os := os) (X := fun w _ => laidMetH Tryz.prog Rows.foldIDsRow.laid w) false (World.laidAll Tryz.prog os Rows.foldIDsRow.laid) #[.slice none 0 0] 8 (World.laidAll_os _ _ _)
      (World.shaped_of_ZipB (by kernel_rfl) (by kernel_rfl)) (by kernel_rfl) (by kernel_rfl) (by kernel_rfl)
      (by rw [MakeChecks.laidMetH_plain _ _ _ (by kernel_rfl)]; exact laidMet_laidAll _ (by kernel_rfl) (by kernel_rfl))) ?_
  intro w tape i _ hsh _ hok hpre hholds
  obtain ⟨_, _, _, fn', hfn', _, _, _, _, hval⟩ := hok
  have e : fn' = Tryz.f4 := Option.some.inj (hfn'.symm.trans Tryz.func4)
  subst e
  obtain ⟨⟨⟨ds, gs, before, hw, hc⟩, hx⟩, hz⟩ := hpre
  have hW := DataW.Whole.of_heap (w' := w.forCall tape i) (by rfl) hw
  have hW' := hW
  obtain ⟨p, q, hA0, hV, rfl, _, _⟩ := hW
  have hA : DataW.TrodAll enc Tryz.prog (w.forCall tape i) 0 (fun _ => true) true Tryz.f4.params.toList i.args.toList ds p := hA0
  rw [Tryz.params4] at hA
  obtain ⟨v0, d0, ha, rfl, h0⟩ := trodAll_one hA
  obtain ⟨rfl, rfl⟩ := trodVars_none hV
  have h0k := h0
  obtain ⟨fu0, hf0⟩ := h0
  obtain ⟨s0, deeds0, rfl, hd0⟩ := arg_deeds (hval 0 22 v0 (by rw [Tryz.params4]; rfl) (by rw [ha]; rfl)) hf0
  have hcall := calls_true (row_law15_FoldIDs 100001) Tryz.func4 (by kernel_rfl) (by kernel_rfl) (w.forCall tape i) s0 (FoldIDs_run (by omega) (gl_world hsh) hd0)
  simp only [List.append_nil] at hW'
  have hlt : ∀ x ∈ p, x.block < (w.forCall tape i).heap.size := fun x hx => by simpa using hW'.lt x hx
  rw [ha] at hW' ⊢
  refine hcall.mono fun e W' ⟨he, hb⟩ => ?_
  subst he
  refine ChangeSpec.post_blind ?_
  exact ⟨_, _, _, [], p, [], hW', trodAll_mk1 (shut_bool Tryz.underlying4 _), trodAll_mk1 (Below.trod laidZ (by kernel_rfl) (of_decide_eq_true (by kernel_rfl)) h0k hb (fun x hx => hlt x (by simp [hx]))), rfl, hb.frame _, fun h => by cases h⟩
theorem named : Tryz.prog.funcNamed "treering/treeringlaw15.FoldIDs" = some 4 := by kernel_rfl
theorem f1 : Rows.foldIDsRow.inPlace = Tryz.prog.inPlace 4 := by kernel_rfl
theorem f2 : Rows.foldIDsRow.unfollowed = Tryz.prog.unfollowed 4 := by kernel_rfl
theorem f3 : Rows.foldIDsRow.recurses = Tryz.prog.recurses 4 := by kernel_rfl
theorem f4 : Rows.foldIDsRow.named = Tryz.prog.varsNamed 4 := by kernel_rfl
theorem facts : joinedFacts Tryz.prog 4 Tryz.f4 Rows.foldIDsSpec Rows.foldIDsRow = true := facts_of f1 f2 f3 f4 rfl (by kernel_rfl)
theorem wf : Rows.foldIDsRow.wfByText (OpenSpec.ofChange Rows.foldIDsSpec) = true := by kernel_rfl
theorem goes : false = Rows.foldIDsRow.goesBy Tryz.prog := by kernel_rfl
theorem holds : Rows.FoldIDsSaid :=
  OpenClaim.holds_of_wide 4 Tryz.f4 rfl rfl rfl rfl rfl rfl rfl ⟨rfl, rfl, rfl, rfl, rfl⟩ rfl rfl rfl rfl rfl named Tryz.func4 facts
    (of_decide_eq_true (by kernel_rfl)) (by unfold Func.isWrapper; first | (rw [if_pos (by decide +kernel)]; kernel_rfl) | (rw [if_neg (by decide +kernel)]; exact ⟨rfl, rfl⟩))
    (fun os started H enc _ => lifted os started H enc)
theorem card_holds : Rows.FoldIDsCardSaid :=
  Claim7.holds_tied_plain_at .later [] [.data, .pinned] true (true, "4ed6cfd83f238b954ea2672d2e67bad0c90cb5f8e1db1ed41617abf7d717921f") true holds (fun _ h => by cases h) wf (fun _ h => by cases h) foldIDs_row_tie rfl ⟨rfl, rfl⟩ mainZ rfl
    (fun f fn hf hfn => by
      obtain rfl : f = 4 := Option.some.inj (named.symm.trans hf) |>.symm
      obtain rfl : fn = Tryz.f4 := (Option.some.inj (Tryz.func4.symm.trans hfn)).symm
      exact ⟨looksZ, fun j t ht => by
        rw [Tryz.params4] at ht
        match j, ht with
        | 0, ht => obtain rfl := Option.some.inj ht; exact want22⟩)
    goes
end FoldIDsC
end Go.Wz
namespace Go.Proofs.YtanbffihggdcaaaGreatDoor
theorem foldIDs_card : Rows.FoldIDsCardSaid := Go.Wz.FoldIDsC.card_holds
#print axioms foldIDs_card
end Go.Proofs.YtanbffihggdcaaaGreatDoor
