/- PROVED (its last theorem, cardUpto): Rows.ConsolidateRangeUptoCardSaid: for every day, purpose and list of gazettes ConsolidateRange returns true and leaves its arguments as they were, where the arguments hold together at most 1048576 values and letters; the listed package variables are tied to the program's text. Conditions: the row's own (loops, laid, recurses, unfollowed, narrowed). -/
import Derived.Test.YtckjoghpknalcaaGreatDoorK31
set_option linter.unusedVariables false
set_option linter.unusedSimpArgs false
set_option linter.unnecessarySimpa false
namespace Go.Proofs.YtckjoghpknalcaaGreatDoor.fnRange
open Go.ChangeShapes Go.WideShapes Go.ChangeAt Go.RowKit Go.Ab
set_option maxRecDepth 100000
set_option maxHeartbeats 4000000
set_option linter.unusedVariables false

/-- the arguments of the witness -/
def wArgs : Array Value := #[.int .i64 0, .string ⟨#[]⟩, .slice none 0 0]
/-- the library's table as cells -/
def firstCells : List Value := match (Go.Pinned.utf8First) with
  | .agg ps => ps.map fun | .lit (.int k n) => .int k n | _ => .nilFunc
  | _ => []
/-- A WORLD FOR THE WITNESS: as the door lays it, and the pinned table -/
noncomputable def laidWorld (os : Os) : World :=
  { World.doorLaid Tryz.prog 600 os with heap := (World.doorLaid Tryz.prog 600 os).heap.modify 2 fun
      | .cells _ t frozen => .cells firstCells.toArray t frozen
      | o => o }
theorem laid_met (os : Os) : laidMetH Tryz.prog Rows.consolidateRangeUptoRow.laid ((laidWorld os).forCall (fun _ _ => 0) ⟨#[], wArgs, []⟩).memory :=
  laidMetH_of_parts3 (fuel := 8) (laidMet_of_run' 8 (by kernel_rfl) (by kernel_rfl)) (by kernel_rfl) (by kernel_rfl)
theorem reads (os : Os) {H : Type} (enc : TypeId × Value → H) : ∃ places, DataW.whole enc Tryz.prog ((laidWorld os).forCall (fun _ _ => 0) ⟨#[], wArgs, []⟩).memory Tryz.f3.params.toList Rows.consolidateRangeSpec.vars false wArgs.toList 8 = some ([.lit (.int .i64 0), .lit (.string []), .nil], [], places) :=
  ⟨[], by kernel_rfl⟩

theorem w_vars (os : Os) : ((laidWorld os).forCall (fun _ _ => 0) ⟨#[], wArgs, []⟩).variablesRefB Tryz.prog = true := by kernel_rfl
theorem w_rest (os : Os) : ((((laidWorld os).forCall (fun _ _ => 0) ⟨#[], wArgs, []⟩).heap.toList.drop Tryz.prog.globals.size).take ((begin Tryz.prog (fun _ _ => 0) default).world.heap.size - Tryz.prog.globals.size) =
      (begin Tryz.prog (fun _ _ => 0) default).world.heap.toList.drop Tryz.prog.globals.size) := by kernel_rfl
theorem w_args (os : Os) : Input.okWideB Tryz.prog ((laidWorld os).forCall (fun _ _ => 0) ⟨#[], wArgs, []⟩) 3 ⟨#[], wArgs, []⟩ = true := by kernel_rfl
theorem w_conds {H : Type} (ds gs : List (DataW H)) : Rows.consolidateRangeUptoRow.domain.all (PathCond.test Tryz.prog ⟨Tryz.f3.params.toList, ds, (Rows.OpenSpec.upto Rows.consolidateRangeSpec).bare.plain.varTypes Tryz.prog, gs⟩) = true := by kernel_rfl
theorem w_sized (os : Os) {H : Type} (enc : TypeId × Value → H) : (Rows.OpenSpec.upto Rows.consolidateRangeSpec).bare.sizedB enc Tryz.prog Tryz.f3 false ((laidWorld os).forCall (fun _ _ => 0) ⟨#[], wArgs, []⟩).memory wArgs 8 = true := by kernel_rfl
theorem w_cond {H : Type} : ∀ k, (Rows.OpenSpec.upto Rows.consolidateRangeSpec).cond = some k → k H ([.lit (.int .i64 0), .lit (.string []), .nil] ++ [] : List (DataW H)) = true := fun k hk => by cases hk; kernel_rfl
theorem w_init : Tryz.prog.inits.idxOf? 3 = none := by kernel_rfl
theorem liftedUpto (os : Os) (started : os.Started) (H : Type) (enc : TypeId × Value → H) (F : Stop.Interp) :
    ReturnsInHanded {} Tryz.checked os 3 .any ((Rows.OpenSpec.upto Rows.consolidateRangeSpec).preRow enc Tryz.prog Tryz.f3 Rows.consolidateRangeUptoRow.domain false Rows.consolidateRangeUptoRow.laid) (((Rows.OpenSpec.upto Rows.consolidateRangeSpec).at F).post enc Tryz.prog Tryz.f3 false true false false) := by
  obtain ⟨places, hx⟩ := reads os enc
  refine returnsInHanded_of_row (C := Tryz.checked) (s := Rows.OpenSpec.upto Rows.consolidateRangeSpec) own started w_init Tryz.func3
    (witness_row_atRef (enc := enc) (C := Tryz.checked) false (laidWorld os) wArgs rfl (w_vars os) (w_rest os) (w_args os)
      (OpenSpec.preRow_of_cond 8 hx (w_conds _ _) w_cond (w_sized os enc) (laid_met os))) ?_
  intro W base args ds gs before hval hW _ hcond _ hL _ _
  exact contract H enc W base args ds gs before hval hW (hcond _ rfl) hL

theorem and_mk {a b : Bool} (h1 : a = true) (h2 : b = true) : (a && b) = true := by rw [h1, h2]; rfl
theorem cf0 : (fun (P : Program) (f : FuncId) (fn : Func) (s : ChangeSpec) (c : OpenClaim) => c.wf (OpenSpec.ofChange s)) Tryz.prog 3 Tryz.f3 (Rows.OpenSpec.upto Rows.consolidateRangeSpec).bare Rows.consolidateRangeUptoRow = true := by kernel_rfl
theorem cf1 : (fun (P : Program) (f : FuncId) (fn : Func) (s : ChangeSpec) (c : OpenClaim) => laidOutB P) Tryz.prog 3 Tryz.f3 (Rows.OpenSpec.upto Rows.consolidateRangeSpec).bare Rows.consolidateRangeUptoRow = true := by kernel_rfl
theorem cf2 : (fun (P : Program) (f : FuncId) (fn : Func) (s : ChangeSpec) (c : OpenClaim) => mapsRowed P) Tryz.prog 3 Tryz.f3 (Rows.OpenSpec.upto Rows.consolidateRangeSpec).bare Rows.consolidateRangeUptoRow = true := by kernel_rfl
theorem cf3 : (fun (P : Program) (f : FuncId) (fn : Func) (s : ChangeSpec) (c : OpenClaim) => fn.params.all (P.readableRec ·)) Tryz.prog 3 Tryz.f3 (Rows.OpenSpec.upto Rows.consolidateRangeSpec).bare Rows.consolidateRangeUptoRow = true := by kernel_rfl
theorem cf4 : (fun (P : Program) (f : FuncId) (fn : Func) (s : ChangeSpec) (c : OpenClaim) => namedTie P c.named s.vars) Tryz.prog 3 Tryz.f3 (Rows.OpenSpec.upto Rows.consolidateRangeSpec).bare Rows.consolidateRangeUptoRow = true := by kernel_rfl
theorem cf5 : (fun (P : Program) (f : FuncId) (fn : Func) (s : ChangeSpec) (c : OpenClaim) => (c.stops == [])) Tryz.prog 3 Tryz.f3 (Rows.OpenSpec.upto Rows.consolidateRangeSpec).bare Rows.consolidateRangeUptoRow = true := by kernel_rfl
theorem cf6 : (fun (P : Program) (f : FuncId) (fn : Func) (s : ChangeSpec) (c : OpenClaim) => (P.stops == [])) Tryz.prog 3 Tryz.f3 (Rows.OpenSpec.upto Rows.consolidateRangeSpec).bare Rows.consolidateRangeUptoRow = true := by kernel_rfl
theorem cf7 : (fun (P : Program) (f : FuncId) (fn : Func) (s : ChangeSpec) (c : OpenClaim) => (c.knobs == [])) Tryz.prog 3 Tryz.f3 (Rows.OpenSpec.upto Rows.consolidateRangeSpec).bare Rows.consolidateRangeUptoRow = true := by kernel_rfl
theorem cf8 : (fun (P : Program) (f : FuncId) (fn : Func) (s : ChangeSpec) (c : OpenClaim) => (P.stopKnobs == [])) Tryz.prog 3 Tryz.f3 (Rows.OpenSpec.upto Rows.consolidateRangeSpec).bare Rows.consolidateRangeUptoRow = true := by kernel_rfl
theorem cf9 : (fun (P : Program) (f : FuncId) (fn : Func) (s : ChangeSpec) (c : OpenClaim) => (c.inPlace == P.inPlace f)) Tryz.prog 3 Tryz.f3 (Rows.OpenSpec.upto Rows.consolidateRangeSpec).bare Rows.consolidateRangeUptoRow = true := by kernel_rfl
theorem cf10 : (fun (P : Program) (f : FuncId) (fn : Func) (s : ChangeSpec) (c : OpenClaim) => (c.unfollowed == P.unfollowed f)) Tryz.prog 3 Tryz.f3 (Rows.OpenSpec.upto Rows.consolidateRangeSpec).bare Rows.consolidateRangeUptoRow = true := by kernel_rfl
theorem cf11 : (fun (P : Program) (f : FuncId) (fn : Func) (s : ChangeSpec) (c : OpenClaim) => (c.recurses == P.recurses f)) Tryz.prog 3 Tryz.f3 (Rows.OpenSpec.upto Rows.consolidateRangeSpec).bare Rows.consolidateRangeUptoRow = true := by kernel_rfl
theorem cf12 : (fun (P : Program) (f : FuncId) (fn : Func) (s : ChangeSpec) (c : OpenClaim) => (c.named == P.varsNamed f)) Tryz.prog 3 Tryz.f3 (Rows.OpenSpec.upto Rows.consolidateRangeSpec).bare Rows.consolidateRangeUptoRow = true := by kernel_rfl
theorem cf13 : (fun (P : Program) (f : FuncId) (fn : Func) (s : ChangeSpec) (c : OpenClaim) => (c.maps == (fn.params.toList ++ s.plain.varTypes P).any (P.mapsRec ·))) Tryz.prog 3 Tryz.f3 (Rows.OpenSpec.upto Rows.consolidateRangeSpec).bare Rows.consolidateRangeUptoRow = true := by kernel_rfl
theorem cf14 : (fun (P : Program) (f : FuncId) (fn : Func) (s : ChangeSpec) (c : OpenClaim) => (c.ifaces == (fn.params.toList ++ s.plain.varTypes P).any (P.ifacesRec ·))) Tryz.prog 3 Tryz.f3 (Rows.OpenSpec.upto Rows.consolidateRangeSpec).bare Rows.consolidateRangeUptoRow = true := by kernel_rfl
theorem cf15 : (fun (P : Program) (f : FuncId) (fn : Func) (s : ChangeSpec) (c : OpenClaim) => (c.mapsOut == P.mapsAmong fn.resultTypes.toList)) Tryz.prog 3 Tryz.f3 (Rows.OpenSpec.upto Rows.consolidateRangeSpec).bare Rows.consolidateRangeUptoRow = true := by kernel_rfl
theorem cf16 : (fun (P : Program) (f : FuncId) (fn : Func) (s : ChangeSpec) (c : OpenClaim) => (c.loops == (fn.params.toList ++ s.plain.varTypes P).any (P.loopsFrom ·))) Tryz.prog 3 Tryz.f3 (Rows.OpenSpec.upto Rows.consolidateRangeSpec).bare Rows.consolidateRangeUptoRow = true := by kernel_rfl
theorem cf17 : (fun (P : Program) (f : FuncId) (fn : Func) (s : ChangeSpec) (c : OpenClaim) => (c.wideKeys == (fn.params.toList ++ s.plain.varTypes P ++ fn.resultTypes.toList).any (P.wideKeysFrom ·))) Tryz.prog 3 Tryz.f3 (Rows.OpenSpec.upto Rows.consolidateRangeSpec).bare Rows.consolidateRangeUptoRow = true := by kernel_rfl
theorem cf18 : (fun (P : Program) (f : FuncId) (fn : Func) (s : ChangeSpec) (c : OpenClaim) => s.vars.all (P.varReadable ·)) Tryz.prog 3 Tryz.f3 (Rows.OpenSpec.upto Rows.consolidateRangeSpec).bare Rows.consolidateRangeUptoRow = true := by kernel_rfl
theorem cf19 : (fun (P : Program) (f : FuncId) (fn : Func) (s : ChangeSpec) (c : OpenClaim) => fn.resultTypes.all (fun t => P.readableRec t && decide (t < P.types.size))) Tryz.prog 3 Tryz.f3 (Rows.OpenSpec.upto Rows.consolidateRangeSpec).bare Rows.consolidateRangeUptoRow = true := by kernel_rfl
theorem cf20 : (fun (P : Program) (f : FuncId) (fn : Func) (s : ChangeSpec) (c : OpenClaim) => (c.ifacesOut == fn.resultTypes.toList.any (P.ifacesRec ·))) Tryz.prog 3 Tryz.f3 (Rows.OpenSpec.upto Rows.consolidateRangeSpec).bare Rows.consolidateRangeUptoRow = true := by kernel_rfl
theorem cf21 : (fun (P : Program) (f : FuncId) (fn : Func) (s : ChangeSpec) (c : OpenClaim) => (c.loopsOut == fn.resultTypes.toList.any (P.loopsFrom ·))) Tryz.prog 3 Tryz.f3 (Rows.OpenSpec.upto Rows.consolidateRangeSpec).bare Rows.consolidateRangeUptoRow = true := by kernel_rfl
theorem cf22 : (fun (P : Program) (f : FuncId) (fn : Func) (s : ChangeSpec) (c : OpenClaim) => (c.plainKeys == P.plainKeys)) Tryz.prog 3 Tryz.f3 (Rows.OpenSpec.upto Rows.consolidateRangeSpec).bare Rows.consolidateRangeUptoRow = true := by kernel_rfl
theorem cf23 : (fun (P : Program) (f : FuncId) (fn : Func) (s : ChangeSpec) (c : OpenClaim) => c.shortTexts.isNone) Tryz.prog 3 Tryz.f3 (Rows.OpenSpec.upto Rows.consolidateRangeSpec).bare Rows.consolidateRangeUptoRow = true := by kernel_rfl
theorem cf24 : (fun (P : Program) (f : FuncId) (fn : Func) (s : ChangeSpec) (c : OpenClaim) => P.stopsHeard) Tryz.prog 3 Tryz.f3 (Rows.OpenSpec.upto Rows.consolidateRangeSpec).bare Rows.consolidateRangeUptoRow = true := by kernel_rfl
theorem cf25 : (fun (P : Program) (f : FuncId) (fn : Func) (s : ChangeSpec) (c : OpenClaim) => P.mayEnter) Tryz.prog 3 Tryz.f3 (Rows.OpenSpec.upto Rows.consolidateRangeSpec).bare Rows.consolidateRangeUptoRow = true := by kernel_rfl
theorem cf26 : (fun (P : Program) (f : FuncId) (fn : Func) (s : ChangeSpec) (c : OpenClaim) => (c.lifted == P.liftsFinal)) Tryz.prog 3 Tryz.f3 (Rows.OpenSpec.upto Rows.consolidateRangeSpec).bare Rows.consolidateRangeUptoRow = true := by kernel_rfl
theorem cf27 : (fun (P : Program) (f : FuncId) (fn : Func) (s : ChangeSpec) (c : OpenClaim) => (P.make == some c.make)) Tryz.prog 3 Tryz.f3 (Rows.OpenSpec.upto Rows.consolidateRangeSpec).bare Rows.consolidateRangeUptoRow = true := by kernel_rfl
theorem cf28 : (fun (P : Program) (f : FuncId) (fn : Func) (s : ChangeSpec) (c : OpenClaim) => (c.kinds == (if c.domain.isEmpty then [] else fn.params.toList.map fun t => match P.underlying t with | some (.int k) => some k | _ => none))) Tryz.prog 3 Tryz.f3 (Rows.OpenSpec.upto Rows.consolidateRangeSpec).bare Rows.consolidateRangeUptoRow = true := by kernel_rfl
theorem cf29 : (fun (P : Program) (f : FuncId) (fn : Func) (s : ChangeSpec) (c : OpenClaim) => (c.pinned == c.pinnedBy)) Tryz.prog 3 Tryz.f3 (Rows.OpenSpec.upto Rows.consolidateRangeSpec).bare Rows.consolidateRangeUptoRow = true := by kernel_rfl
theorem cf30 : (fun (P : Program) (f : FuncId) (fn : Func) (s : ChangeSpec) (c : OpenClaim) => (c.veiled == (fn.params.toList ++ s.plain.varTypes P ++ fn.resultTypes.toList).any (P.veiledRec ·))) Tryz.prog 3 Tryz.f3 (Rows.OpenSpec.upto Rows.consolidateRangeSpec).bare Rows.consolidateRangeUptoRow = true := by kernel_rfl
theorem cf31 : (fun (P : Program) (f : FuncId) (fn : Func) (s : ChangeSpec) (c : OpenClaim) => c.veiledFits P fn.params.toList (fn.params.toList ++ s.plain.varTypes P ++ fn.resultTypes.toList)) Tryz.prog 3 Tryz.f3 (Rows.OpenSpec.upto Rows.consolidateRangeSpec).bare Rows.consolidateRangeUptoRow = true := by kernel_rfl
theorem closed : joinedFacts Tryz.pinned.checked.prog 3 Tryz.f3 (Rows.OpenSpec.upto Rows.consolidateRangeSpec).bare Rows.consolidateRangeUptoRow = true := (and_mk (and_mk (and_mk (and_mk (and_mk (and_mk (and_mk (and_mk (and_mk (and_mk (and_mk (and_mk (and_mk (and_mk (and_mk (and_mk (and_mk (and_mk (and_mk (and_mk (and_mk (and_mk (and_mk (and_mk (and_mk (and_mk (and_mk (and_mk (and_mk (and_mk (and_mk cf0 cf1) cf2) cf3) cf4) cf5) cf6) cf7) cf8) cf9) cf10) cf11) cf12) cf13) cf14) cf15) cf16) cf17) cf18) cf19) cf20) cf21) cf22) cf23) cf24) cf25) cf26) cf27) cf28) cf29) cf30) cf31)
theorem s_name : Tryz.pinned.checked.prog.funcNamed Rows.consolidateRangeUptoRow.func = some 3 := by kernel_rfl
theorem s_inst : Tryz.f3.isInstance Tryz.pinned.checked.prog Rows.consolidateRangeUptoRow.origin Rows.consolidateRangeUptoRow.targs := of_decide_eq_true (by kernel_rfl)
theorem s_wrap : Tryz.f3.isWrapper Tryz.pinned.checked.prog Rows.consolidateRangeUptoRow.wrapper Rows.consolidateRangeUptoRow.mainSum := by unfold Func.isWrapper; first | (rw [if_pos (by decide +kernel)]; kernel_rfl) | (rw [if_neg (by decide +kernel)]; exact ⟨rfl, rfl⟩)
theorem saidUpto : Rows.ConsolidateRangeUptoSaid :=
  OpenClaim.holds_of_cond 3 Tryz.f3 rfl rfl rfl rfl rfl rfl rfl ⟨rfl, rfl, rfl, rfl, rfl⟩ rfl rfl rfl rfl rfl s_name Tryz.func3 closed s_inst s_wrap
    (fun os started H enc _ F => by rw [OpenClaim.pre_eq_preRow]; exact liftedUpto os started H enc F)

/-- No parameter wants a stand-in; the program's own looks are off. -/
theorem plain (f : FuncId) (fn : Func) (hf : Tryz.pinned.checked.prog.funcNamed "pandect/pandectlaw30.ConsolidateRange" = some f) (hfn : Tryz.pinned.checked.prog.funcs[f]? = some fn) :
    false = Tryz.pinned.checked.prog.looks [] ∧ ∀ (j : Nat) t, fn.params[j]? = some t → Tryz.pinned.checked.prog.wantsStandIn t = false := by
  obtain rfl : f = 3 := Option.some.inj ((show Tryz.prog.funcNamed "pandect/pandectlaw30.ConsolidateRange" = some 3 by kernel_rfl).symm.trans hf) |>.symm
  obtain rfl : fn = Tryz.f3 := (Option.some.inj (Tryz.func3.symm.trans hfn)).symm
  refine ⟨by kernel_rfl, fun j t ht => ?_⟩
  rw [Tryz.params3] at ht
  have hm : t = 3 ∨ t = 9 ∨ t = 22 := by simpa using Array.mem_of_getElem? ht
  rcases hm with rfl | rfl | rfl
  · exact (show Tryz.prog.wantsStandIn 3 = false by kernel_rfl)
  · exact (show Tryz.prog.wantsStandIn 9 = false by kernel_rfl)
  · exact (show Tryz.prog.wantsStandIn 22 = false by kernel_rfl)

/-- THE CARD -/
theorem cardUpto : Rows.ConsolidateRangeUptoCardSaid :=
  Claim7.holds_tied_plain_at .later [] _ _ _ _ saidUpto (fun _ h => by cases h) (by kernel_rfl) (fun _ h => by cases h) consolidateRangeUpto_row_tie rfl ⟨rfl, rfl⟩ (by kernel_rfl) rfl plain (by kernel_rfl)
end Go.Proofs.YtckjoghpknalcaaGreatDoor.fnRange
