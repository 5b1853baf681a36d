/- PROVED: pandectlaw30.ConsolidateRange returns true and leaves its arguments as they were, for every day, purpose and list of gazettes, where the arguments hold together at most 1048576 values and letters (the law's second form), the listed package variables starting as the program's text lays them (tied). Conditions: the row's own (loops, laid, recurses, unfollowed; narrowed). -/
import Derived.Test.YtckjoghpknalcaaGreatDoorB8
import Derived.Test.YtckjoghpknalcaaGreatDoorCards
import Derived.Test.YtckjoghpknalcaaGreatDoorTie
import Derived.ProofKit
import Derived.OpenShut
import Derived.ChangeMaps5
import Derived.WideKeyArgs
import Derived.Deep.DeepHandedRow
import Derived.Deep.DeepWitnessRowRef
set_option linter.unusedVariables false
set_option linter.unusedSimpArgs false
set_option linter.unnecessarySimpa false
namespace Go.Proofs.YtckjoghpknalcaaGreatDoor.fnRange
open Go.ChangeShapes Go.WideShapes Go.ChangeAt Go.RowKit Go.Ab
set_option maxRecDepth 100000
set_option linter.unusedVariables false

theorem own : ownKnob Tryz.prog.godebug = none := by kernel_rfl

mutual
theorem nD_bulk {H : Type} : ∀ d : DataW H, nD (toD d) ≤ Rows.uptoBulk d
  | .lit l => by
    cases l <;> simp [toD, litD, nD, Rows.uptoBulk]
  | .nil => by simp [toD, nD, nDs, Rows.uptoBulk]
  | .ptr d => by simp only [toD, nD, nDs, Rows.uptoBulk]; omega
  | .slice es sp => by
    have := nDs_bulk es
    simp only [toD, nD, Rows.uptoBulk]; omega
  | .agg ps => by
    have := nCs_bulk ps
    simp only [toD, nD, Rows.uptoBulk]; omega
  | .iface t d => by simp only [toD, nD, nDs, Rows.uptoBulk]; omega
  | .map es => by simp only [toD, nD, nDs, Rows.uptoBulk]; omega
  | .held h => by simp [toD, nD, nDs, Rows.uptoBulk]
theorem nDs_bulk {H : Type} : ∀ l : List (DataW H), nDs (toDs l) ≤ Rows.uptoBulkAll l
  | [] => by simp [toDs, nDs, Rows.uptoBulkAll]
  | d :: r => by
    have h1 := nD_bulk d
    have h2 := nDs_bulk r
    simp only [toDs, nDs, Rows.uptoBulkAll]; omega
theorem nCs_bulk {H : Type} : ∀ l : List (DataW H), nDs (toCs l) ≤ Rows.uptoBulkAll l
  | [] => by simp [toCs, nDs, Rows.uptoBulkAll]
  | d :: r => by
    have h1 := nD_bulk d
    have h2 := nCs_bulk r
    simp only [toCs, nDs_app, nD_cells, Rows.uptoBulkAll]; omega
end

/-- the world's variables as the abstract heap knows them -/
theorem start {W : World} (hL : laidMetH Tryz.prog Rows.consolidateRangeUptoRow.laid W) : RelH GT0 W.heap (fun _ => .no) [] := by
  refine ⟨fun _ _ => rfl, fun b b' c hb => (by cases hb), fun b c o hb => (by cases hb), fun b hb => (by cases hb), fun g cs hg => ?_⟩
  have hd := (laidMetH_iff.1 hL).1
  simp only [GT0, List.mem_cons, Prod.mk.injEq, List.not_mem_nil, or_false] at hg
  rcases hg with ⟨rfl, rfl⟩ | ⟨rfl, rfl⟩ | ⟨rfl, rfl⟩
  · exact glob_order (hL.funcs (.tail _ (.tail _ (.tail _ (.head _)))))
  · have h := glob_data (t := 258) (Lib.laidMet.reads hd (n := "pandect/unit.below") (d := Rows.laid_pandect_unit_below) (List.mem_filter.2 ⟨.tail _ (.tail _ (.head _)), rfl⟩)) (g := 1) (by kernel_rfl) (by kernel_rfl) (by simp [Ts])
    rw [show (toD (Rows.laid_pandect_unit_below (H := Unit))).cells = _ from rfl] at h
    exact h
  · have h := glob_data (t := 323) (Lib.laidMet.reads hd (n := "pandect/unit.names") (d := Rows.laid_pandect_unit_names) (List.mem_filter.2 ⟨.tail _ (.head _), rfl⟩)) (g := 4) (by kernel_rfl) (by kernel_rfl) (by simp [Ts])
    exact h

theorem post_kept {H : Type} {enc : TypeId × Value → H} {P : Program} {f : Func} {s : ChangeSpec} {apart fresh handsOn again : Bool} {W W' : World} {args : Array Value} {v : Value} {ds gs : List (DataW H)} {before pa pv : List MemPlace}
    (hW : DataW.Whole enc P f.params.toList s.vars apart W args.toList ds gs before)
    (hres : ∀ (b : Nat) (sp : Nat → Bool) (hd : Bool), DataW.TrodAll enc P W' b sp hd f.resultTypes.toList (v.resultList f.resultTypes.size) (s.fn H (ds ++ gs)).results [])
    (hargs : ∀ sp : Nat → Bool, (∀ p ∈ before, sp p.block = true) → DataW.TrodAll enc P W' 0 sp true f.params.toList args.toList (s.fn H (ds ++ gs)).args pa)
    (hvars : ∀ sp : Nat → Bool, (∀ p ∈ before, sp p.block = true) → DataW.TrodVars enc P W' sp s.vars (s.fn H (ds ++ gs)).vars pv)
    (hps : before = pa ++ pv) (hk : W.keptBut W' (· ∈ before)) (hfz : ∀ b off, MemPlace.cell b off ∈ before → W'.frozen? ⟨b, off, none⟩ = W.frozen? ⟨b, off, none⟩)
    (hok : ∀ (j : Nat) (t : TypeId) (r : Value), f.resultTypes[j]? = some t → (v.resultList f.resultTypes.size)[j]? = some r → Value.okWide P W' .any 0 t r) :
    s.post enc P f apart fresh handsOn again W args v W' := by
  have hold : ∀ p ∈ before, (fun b => decide (b < W.heap.size)) p.block = true := fun p hp => by simpa using hW.lt p hp
  refine ⟨ds, gs, before, [], pa, pv, hW, hres _ _ _, hargs _ hold, hvars _ hold, World.keptBut_mono (fun p hp => ⟨hp, ?_⟩) hk, fun _ => ?_⟩
  · rw [hps, List.mem_append] at hp
    exact Or.inr hp
  · obtain ⟨_, _, _, _, _, hz, hn⟩ := hW
    refine ⟨hok, _, _, ([] ++ pa) ++ pv, ⟨[] ++ pa, pv, trodAll_append (hargs _ (fun _ _ => rfl)) (hres _ _ _), hvars _ (fun _ _ => rfl), rfl, ?_, ?_⟩, ?_⟩
    · intro b off hp
      have hp' : MemPlace.cell b off ∈ before := by rw [hps]; simpa using hp
      rw [hfz b off hp']
      exact hz b off hp'
    · intro ha
      have := hn ha
      rw [hps] at this
      simpa using this
    · intro p hp _
      rw [hps]
      simpa using hp

theorem contract (H : Type) (enc : TypeId × Value → H) (W : World) (base : Nat) (args : Array Value) (ds gs : List (DataW H)) (before : List MemPlace)
    (hval : ∀ (j : Nat) t v, Tryz.f3.params[j]? = some t → args[j]? = some v → Value.okWide Tryz.prog W .any base t v)
    (hW : DataW.Whole enc Tryz.prog Tryz.f3.params.toList Rows.consolidateRangeSpec.vars false W args.toList ds gs before) (hk : Rows.uptoSmall H (ds ++ gs) = true) (hL : laidMetH Tryz.prog Rows.consolidateRangeUptoRow.laid W) :
    Calls Tryz.prog 3 args W fun e W' => ∃ v, e = .returned v ∧ Rows.consolidateRangeSpec.post enc Tryz.prog Tryz.f3 false true false false W args v W' := by
  have hW' := hW
  obtain ⟨p, q, hA0, hV, rfl, hfz, hnd⟩ := hW
  have hA : DataW.TrodAll enc Tryz.prog W 0 (fun _ => true) true Tryz.f3.params.toList args.toList ds p := hA0
  rw [Tryz.params3] at hA hval
  obtain ⟨v0, v1, v2, d0, d1, d2, p0, p1, p2, rfl, rfl, rfl, h0, h1, h2⟩ := trodAll_three hA
  obtain ⟨rfl, rfl⟩ := trodVars_none hV
  have k0 := h0
  have k1 := h1
  have k2 := h2
  obtain ⟨x, rfl, rfl, rfl, wx⟩ := open_int Tryz.underlying3 (hval 0 3 v0 rfl rfl) h0
  obtain ⟨s, rfl, rfl, rfl, ws⟩ := Go.ChangeMaps.open_string Tryz.underlying9 (hval 1 9 v1 rfl rfl) h1
  obtain ⟨a, len, cap, rfl⟩ := okWide_slice Tryz.underlying22 (hval 2 22 v2 rfl rfl)
  obtain ⟨fuel, hf⟩ := h2
  obtain ⟨hg, _⟩ := trod_good Ts_ok fuel _ _ d2 _ (by simp [Ts]) hf
  obtain ⟨l, hl⟩ := dec_slice encGaz (e := 62) (by kernel_rfl) hf fun _ _ _ _ _ h => dec_GGaz h
  rw [hl] at hg
  have r2 : Rep W.heap (fun c => c < W.heap.size) (.slice a len cap) (.list (l.map encGaz)) := (hg.2 0 _ _ rfl rfl).2
  have hbulk : Rows.uptoBulkAll ([.lit (.int .i64 x), .lit (.string s.data.toList), d2] ++ [] : List (DataW H)) ≤ 1048576 := of_decide_eq_true hk
  have hb2 := nD_bulk d2
  rw [hl] at hb2
  simp only [List.append_nil, Rows.uptoBulkAll, Rows.uptoBulk] at hbulk
  simp only [nD] at hb2
  have hgl := gaz_le l
  simp only [Lit.wf, Bool.and_eq_true, decide_eq_true_eq] at wx
  refine (range_calls (start hL) x s l (by omega) (by omega) (.int .i64 x wx) (.str s (by simpa [maxLen, maxN] using ws)) r2).mono ?_
  rintro e W' ⟨rfl, ho, hou, hsz, hh⟩
  have hlt := hW'.lt
  have hsame : ∀ p : MemPlace, p.block < W.heap.size → W.sameAt W' p := fun p hp => by
    cases p with
    | cell b off =>
      have := hh b hp
      simp [World.sameAt, World.cell?, this]
    | map b => exact hh b hp
  have st : ∀ {t : TypeId} {v : Value} {d : DataW H} {ps : List MemPlace} (sp : Nat → Bool), Tryz.prog.readableRec t = true → t < Tryz.prog.types.size → DataW.Trod enc Tryz.prog W 0 (fun _ => true) true t v d ps → (∀ p ∈ ps, p.block < W.heap.size) → (∀ p ∈ ps, sp p.block = true) → DataW.Trod enc Tryz.prog W' 0 sp true t v d ps :=
    fun sp hr ht h hb hs => WideElems.Trod_stays (by kernel_rfl) hr ht h (fun p hp => hsame p (hb p hp)) hs
  refine ⟨_, rfl, post_kept (pv := []) hW' (fun _ _ _ => trodAll_mk1 (shut_bool Tryz.underlying4 _)) (fun sp hsp => trodAll_mk3
      (st sp (by kernel_rfl) (of_decide_eq_true (by kernel_rfl)) k0 (fun p hp => by cases hp) (fun p hp => by cases hp))
      (st sp (by kernel_rfl) (of_decide_eq_true (by kernel_rfl)) k1 (fun p hp => by cases hp) (fun p hp => by cases hp))
      (st sp (by kernel_rfl) (of_decide_eq_true (by kernel_rfl)) k2 (fun p hp => hlt p (by simp [hp])) (fun p hp => hsp p (by simp [hp]))))
    (fun _ _ => rfl) rfl ⟨ho, hou, fun i hi => ?_⟩ (fun b off hp => ?_) (ok_one (by kernel_rfl) rfl (okWide_bool_mk Tryz.underlying4 _))⟩
  · rw [hh i hi]
    cases W.heap[i]? with
    | none => rfl
    | some o =>
      cases o with
      | cells c t f => exact ⟨rfl, rfl, rfl, fun _ _ => rfl⟩
      | map es clock => exact .inr ⟨rfl, rfl⟩
      | _ => rfl
  · have := hh b (hlt _ hp)
    simp [World.frozen?, this]
end Go.Proofs.YtckjoghpknalcaaGreatDoor.fnRange
