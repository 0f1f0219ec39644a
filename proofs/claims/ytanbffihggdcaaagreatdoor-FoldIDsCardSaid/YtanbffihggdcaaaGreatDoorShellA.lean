/- From a row to a call at any world: the steps that the claims of the seat share. Conditions: those of the given rows (the listed variables as the program's text lays them), and no others. -/
import Derived.Test.YtanbffihggdcaaaGreatDoorDec
import Derived.Shelf.Vars
import Derived.Handed
import Derived.ChangeSame
import Derived.JoinedOf
import Derived.RowKit
import Derived.LaidLaws
import Derived.Lay
import Derived.Carry
import Derived.ChangeAt
import Derived.MakeChecks
import Derived.LaidOnce
import Derived.SevenTiedAt
import Derived.Test.YtanbffihggdcaaaGreatDoorRows
import Derived.Test.YtanbffihggdcaaaGreatDoorCards
import Derived.Test.YtanbffihggdcaaaGreatDoorTie
set_option linter.unusedVariables false
set_option linter.unusedSimpArgs false
set_option maxRecDepth 100000
namespace Go.Eng
theorem sp_of_row {P : Program} {f : FuncId} {A R : List Ty} {F : Ts A → M (Ts R)} {fn : Func} (h : RowOk P ⟨f, A, R, F⟩) (hf : P.funcs[f]? = some fn) (hb : fn.body.isNone = false) (hn : (fn.name == "runtime.NumGoroutine") = false) : Sp P f A R F := by
  intro x B w0 σ w Q hs hq
  have hc := h x B w0 σ w Q hs hq
  have hr : (callFunc f (tsv A x).toArray).run P w = .ok (.enter f (tsv A x).toArray) w := by
    have hn' : fn.name ≠ "runtime.NumGoroutine" := by simpa using hn
    have hb' : fn.body ≠ none := by intro e; rw [e] at hb; simp at hb
    simp [callFunc, hf, hb', hn']
  change Leads P _ ((callFunc f (tsv A x).toArray).run P w) at hc
  rw [hr] at hc
  refine Calls.mono hc fun e w' => ?_
  rintro ⟨v, rfl, t, σ', rfl, h1, h2⟩
  exact ⟨t, σ', rfl, h1, h2⟩
theorem world_ld {W : World} {c : Ce} {b o : Nat} {v : Value} (h : W.cell? ⟨b, o, none⟩ = some v) {r : Cs [c]} (hr : cso [c] [v] = some r) : (ldR [c] ⟨b, o, none⟩).get (worldHp W) = some r := by
  obtain ⟨_, arr, T, fz, h1, h2⟩ := world_cell h
  obtain ⟨h3, h4⟩ := Array.getElem?_eq_some_iff.1 h2
  have h3 : o < arr.size := h3
  rw [ldR_at, h1]
  show rdL [c] o arr.toList = some r
  unfold rdL
  rw [Nat.ble_eq_true_of_le (by show o + 1 ≤ arr.toList.length; rw [Array.length_toList]; omega)]
  simp only
  have : (arr.toList.drop o).take ([c] : List Ce).length = [v] := by
    show (arr.toList.drop o).take 1 = [v]
    rw [List.drop_eq_getElem_cons (by rw [Array.length_toList]; exact h3)]
    simp only [List.take_succ_cons, List.take_zero]
    rw [← h4]
    simp
  rw [this]
  exact hr
end Go.Eng
namespace Go.Wz
open Go.Proofs Go.Eng Go.RowKit Go.ChangeShapes
theorem ownZ : ownKnob Tryz.prog.godebug = none := by kernel_rfl
theorem laidZ : laidOutB Tryz.prog = true := by kernel_rfl
theorem rowedZ : mapsRowed Tryz.prog = true := by kernel_rfl
theorem liftsZ : Tryz.prog.liftsFinal = YtanbffihggdcaaaGreatDoor.Rows.foldUsesRow.lifted := by kernel_rfl
/-- The closed facts of a row, the dear ones ahead. -/
theorem facts_of {f : FuncId} {fn : Func} {s : ChangeSpec} {c : OpenClaim} (h1 : c.inPlace = Tryz.prog.inPlace f) (h2 : c.unfollowed = Tryz.prog.unfollowed f) (h3 : c.recurses = Tryz.prog.recurses f) (h4 : c.named = Tryz.prog.varsNamed f) (h5 : c.lifted = YtanbffihggdcaaaGreatDoor.Rows.foldUsesRow.lifted)
    (h : (c.wf (OpenSpec.ofChange s) && fn.params.all (Tryz.prog.readableRec ·) && namedTie Tryz.prog c.named s.vars &&
  (c.stops == []) && (Tryz.prog.stops == []) && (c.knobs == []) && (Tryz.prog.stopKnobs == []) &&
  (c.maps == (fn.params.toList ++ s.plain.varTypes Tryz.prog).any (Tryz.prog.mapsRec ·)) && (c.ifaces == (fn.params.toList ++ s.plain.varTypes Tryz.prog).any (Tryz.prog.ifacesRec ·)) && (c.mapsOut == Tryz.prog.mapsAmong fn.resultTypes.toList) &&
  (c.loops == (fn.params.toList ++ s.plain.varTypes Tryz.prog).any (Tryz.prog.loopsFrom ·)) && (c.wideKeys == (fn.params.toList ++ s.plain.varTypes Tryz.prog ++ fn.resultTypes.toList).any (Tryz.prog.wideKeysFrom ·)) &&
  s.vars.all (Tryz.prog.varReadable ·) && fn.resultTypes.all (fun t => Tryz.prog.readableRec t && decide (t < Tryz.prog.types.size)) && (c.ifacesOut == fn.resultTypes.toList.any (Tryz.prog.ifacesRec ·)) && (c.loopsOut == fn.resultTypes.toList.any (Tryz.prog.loopsFrom ·)) && (c.plainKeys == Tryz.prog.plainKeys) && c.shortTexts.isNone && Tryz.prog.stopsHeard && Tryz.prog.mayEnter && (Tryz.prog.make == some c.make) && (c.kinds == (if c.domain.isEmpty then [] else fn.params.toList.map fun t => match Tryz.prog.underlying t with | some (.int k) => some k | _ => Option.none)) && (c.pinned == c.pinnedBy) &&
  (c.veiled == (fn.params.toList ++ s.plain.varTypes Tryz.prog ++ fn.resultTypes.toList).any (Tryz.prog.veiledRec ·)) && c.veiledFits Tryz.prog fn.params.toList (fn.params.toList ++ s.plain.varTypes Tryz.prog ++ fn.resultTypes.toList)) = true) : joinedFacts Tryz.prog f fn s c = true := by
  unfold joinedFacts
  rw [laidZ, rowedZ, ← h1, ← h2, ← h3, ← h4, liftsZ, ← h5]
  revert h
  simp only [Bool.and_eq_true, beq_self_eq_true, and_true, true_and, and_assoc]
  exact id
theorem gl_world {W : World} (hsh : W.ShapedOpen Tryz.prog) : Gl (worldHp W) := by
  obtain ⟨m, hm⟩ := cell_of_shapedOpen_int (g := 1) (t := 3) (zero := #[.int .i64 0]) (k := .i64) hsh (of_decide_eq_true (by kernel_rfl)) (by kernel_rfl) rfl (by kernel_rfl) (by kernel_rfl) (by kernel_rfl)
  exact ⟨m, world_ld hm rfl⟩
theorem mainZ : YtanbffihggdcaaaGreatDoor.Tryz.pinned.checked.prog.mainIs = some (true, "4ed6cfd83f238b954ea2672d2e67bad0c90cb5f8e1db1ed41617abf7d717921f".toList) := by kernel_rfl
theorem looksZ : true = Tryz.prog.looks [] := by kernel_rfl
theorem want22 : Tryz.prog.wantsStandIn 22 = false := by kernel_rfl
theorem want5 : Tryz.prog.wantsStandIn 5 = false := by kernel_rfl
/-- A function that gives a truth, called at a world. -/
theorem calls_true {f : FuncId} {A : List Ty} {F : Ts A → M (Ts [.c .bool])} {fn : Func} (h : RowOk Tryz.prog ⟨f, A, [.c .bool], F⟩) (hf : Tryz.prog.funcs[f]? = some fn) (hb : fn.body.isNone = false) (hn : (fn.name == "runtime.NumGoroutine") = false)
    (W : World) (x : Ts A) (hq : (F x).run (fun r _ => r = true) (worldHp W)) : Calls Tryz.prog f (tsv A x).toArray W fun e w' => e = .returned (.bool true) ∧ Below W.heap.size W w' := by
  have := sp_of_row h hf hb hn x W.heap.size W (worldHp W) W (fun r _ => r = true) (world_sees W) hq
  refine this.mono ?_
  rintro e w' ⟨t, σ', rfl, h1, h2⟩
  have h2 : t = true := h2
  subst h2
  exact ⟨rfl, h1.below⟩
end Go.Wz
