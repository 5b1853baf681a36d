/- What a reading of the program's types is, as typed data (printed by wip/tools/dec.py). -/
import Derived.Test.YtckjoghpknalcaaGreatDoorTy
import Derived.Test.YtckjoghpknalcaaGreatDoorA4
import Derived.Test.YtckjoghpknalcaaGreatDoorA9
set_option linter.unusedVariables false
set_option linter.unusedSimpArgs false
set_option linter.unnecessarySimpa false
namespace Go.Ab
set_option linter.unusedSimpArgs false
set_option linter.unusedVariables false
variable {H : Type} {enc : TypeId × Value → H} {w : World} {base : Nat} {held : Bool}

theorem dec_GId {fuel : Nat} {cs : List Value} {d : DataW H} {ps : List MemPlace} (h : DataW.trod enc Go.Proofs.Tryz.prog w base (fun _ => true) held fuel 26 cs = some (d, ps)) : ∃ x : GId, toD d = encId x := by
  obtain ⟨n, ds, rfl, rfl, hl, hf⟩ := dec_struct (ts := [3, 3, 3]) (by kernel_rfl) h
  obtain ⟨d0, d1, d2, rfl⟩ : ∃ d0 d1 d2, ds = [d0, d1, d2] := by
    match ds, hl with
    | [d0, d1, d2], _ => exact ⟨d0, d1, d2, rfl⟩
  obtain ⟨_, _, _, e0, t0⟩ := hf 0 _ rfl
  cases e0
  obtain ⟨x0, q0⟩ := dec_int (k := .i64) (by kernel_rfl) t0
  obtain ⟨_, _, _, e1, t1⟩ := hf 1 _ rfl
  cases e1
  obtain ⟨x1, q1⟩ := dec_int (k := .i64) (by kernel_rfl) t1
  obtain ⟨_, _, _, e2, t2⟩ := hf 2 _ rfl
  cases e2
  obtain ⟨x2, q2⟩ := dec_int (k := .i64) (by kernel_rfl) t2
  exact ⟨⟨x0, x1, x2⟩, by simp only [toD, toCs, q0, q1, q2]; simp [encId_def, D.cells]⟩

theorem dec_GMark {fuel : Nat} {cs : List Value} {d : DataW H} {ps : List MemPlace} (h : DataW.trod enc Go.Proofs.Tryz.prog w base (fun _ => true) held fuel 79 cs = some (d, ps)) : ∃ x : GMark, toD d = encMark x := by
  obtain ⟨n, ds, rfl, rfl, hl, hf⟩ := dec_struct (ts := [3, 3, 3]) (by kernel_rfl) h
  obtain ⟨d0, d1, d2, rfl⟩ : ∃ d0 d1 d2, ds = [d0, d1, d2] := by
    match ds, hl with
    | [d0, d1, d2], _ => exact ⟨d0, d1, d2, rfl⟩
  obtain ⟨_, _, _, e0, t0⟩ := hf 0 _ rfl
  cases e0
  obtain ⟨x0, q0⟩ := dec_int (k := .i64) (by kernel_rfl) t0
  obtain ⟨_, _, _, e1, t1⟩ := hf 1 _ rfl
  cases e1
  obtain ⟨x1, q1⟩ := dec_int (k := .i64) (by kernel_rfl) t1
  obtain ⟨_, _, _, e2, t2⟩ := hf 2 _ rfl
  cases e2
  obtain ⟨x2, q2⟩ := dec_int (k := .i64) (by kernel_rfl) t2
  exact ⟨⟨x0, x1, x2⟩, by simp only [toD, toCs, q0, q1, q2]; simp [encMark_def, D.cells]⟩

theorem dec_GWord {fuel : Nat} {cs : List Value} {d : DataW H} {ps : List MemPlace} (h : DataW.trod enc Go.Proofs.Tryz.prog w base (fun _ => true) held fuel 81 cs = some (d, ps)) : ∃ x : GWord, toD d = encWord x := by
  obtain ⟨n, ds, rfl, rfl, hl, hf⟩ := dec_struct (ts := [9, 79]) (by kernel_rfl) h
  obtain ⟨d0, d1, rfl⟩ : ∃ d0 d1, ds = [d0, d1] := by
    match ds, hl with
    | [d0, d1], _ => exact ⟨d0, d1, rfl⟩
  obtain ⟨_, _, _, e0, t0⟩ := hf 0 _ rfl
  cases e0
  obtain ⟨x0, q0⟩ := dec_str (by kernel_rfl) t0
  obtain ⟨_, _, _, e1, t1⟩ := hf 1 _ rfl
  cases e1
  obtain ⟨x1, q1⟩ := dec_GMark t1
  exact ⟨⟨x0, x1⟩, by simp only [toD, toCs, q0, q1]; simp [encWord_def, encMark_def, D.cells]⟩

theorem dec_GStep {fuel : Nat} {cs : List Value} {d : DataW H} {ps : List MemPlace} (h : DataW.trod enc Go.Proofs.Tryz.prog w base (fun _ => true) held fuel 59 cs = some (d, ps)) : ∃ x : GStep, toD d = encStep x := by
  obtain ⟨n, ds, rfl, rfl, hl, hf⟩ := dec_struct (ts := [3, 9]) (by kernel_rfl) h
  obtain ⟨d0, d1, rfl⟩ : ∃ d0 d1, ds = [d0, d1] := by
    match ds, hl with
    | [d0, d1], _ => exact ⟨d0, d1, rfl⟩
  obtain ⟨_, _, _, e0, t0⟩ := hf 0 _ rfl
  cases e0
  obtain ⟨x0, q0⟩ := dec_int (k := .i64) (by kernel_rfl) t0
  obtain ⟨_, _, _, e1, t1⟩ := hf 1 _ rfl
  cases e1
  obtain ⟨x1, q1⟩ := dec_str (by kernel_rfl) t1
  exact ⟨⟨x0, x1⟩, by simp only [toD, toCs, q0, q1]; simp [encStep_def, D.cells]⟩

theorem dec_GStart {fuel : Nat} {cs : List Value} {d : DataW H} {ps : List MemPlace} (h : DataW.trod enc Go.Proofs.Tryz.prog w base (fun _ => true) held fuel 50 cs = some (d, ps)) : ∃ x : GStart, toD d = encStart x := by
  obtain ⟨n, ds, rfl, rfl, hl, hf⟩ := dec_struct (ts := [3, 3, 9]) (by kernel_rfl) h
  obtain ⟨d0, d1, d2, rfl⟩ : ∃ d0 d1 d2, ds = [d0, d1, d2] := by
    match ds, hl with
    | [d0, d1, d2], _ => exact ⟨d0, d1, d2, rfl⟩
  obtain ⟨_, _, _, e0, t0⟩ := hf 0 _ rfl
  cases e0
  obtain ⟨x0, q0⟩ := dec_int (k := .i64) (by kernel_rfl) t0
  obtain ⟨_, _, _, e1, t1⟩ := hf 1 _ rfl
  cases e1
  obtain ⟨x1, q1⟩ := dec_int (k := .i64) (by kernel_rfl) t1
  obtain ⟨_, _, _, e2, t2⟩ := hf 2 _ rfl
  cases e2
  obtain ⟨x2, q2⟩ := dec_str (by kernel_rfl) t2
  exact ⟨⟨x0, x1, x2⟩, by simp only [toD, toCs, q0, q1, q2]; simp [encStart_def, D.cells]⟩

theorem dec_GRef {fuel : Nat} {cs : List Value} {d : DataW H} {ps : List MemPlace} (h : DataW.trod enc Go.Proofs.Tryz.prog w base (fun _ => true) held fuel 40 cs = some (d, ps)) : ∃ x : GRef, toD d = encRef x := by
  obtain ⟨n, ds, rfl, rfl, hl, hf⟩ := dec_struct (ts := [3, 3]) (by kernel_rfl) h
  obtain ⟨d0, d1, rfl⟩ : ∃ d0 d1, ds = [d0, d1] := by
    match ds, hl with
    | [d0, d1], _ => exact ⟨d0, d1, rfl⟩
  obtain ⟨_, _, _, e0, t0⟩ := hf 0 _ rfl
  cases e0
  obtain ⟨x0, q0⟩ := dec_int (k := .i64) (by kernel_rfl) t0
  obtain ⟨_, _, _, e1, t1⟩ := hf 1 _ rfl
  cases e1
  obtain ⟨x1, q1⟩ := dec_int (k := .i64) (by kernel_rfl) t1
  exact ⟨⟨x0, x1⟩, by simp only [toD, toCs, q0, q1]; simp [encRef_def, D.cells]⟩

theorem dec_GUnit : ∀ (fuel : Nat) (cs : List Value) (d : DataW H) (ps : List MemPlace), DataW.trod enc Go.Proofs.Tryz.prog w base (fun _ => true) held fuel 30 cs = some (d, ps) → ∃ x : GUnit, toD d = encUnit x := by
  intro fuel
  induction fuel using Nat.strongRecOn with
  | _ fuel ih =>
  intro cs d ps h
  obtain ⟨n, ds, rfl, rfl, hl, hf⟩ := dec_struct (ts := [26, 3, 9, 27, 27, 28]) (by kernel_rfl) h
  obtain ⟨d0, d1, d2, d3, d4, d5, rfl⟩ : ∃ d0 d1 d2 d3 d4 d5, ds = [d0, d1, d2, d3, d4, d5] := by
    match ds, hl with
    | [d0, d1, d2, d3, d4, d5], _ => exact ⟨d0, d1, d2, d3, d4, d5, rfl⟩
  obtain ⟨_, _, _, e0, t0⟩ := hf 0 _ rfl
  cases e0
  obtain ⟨x0, q0⟩ := dec_GId t0
  obtain ⟨_, _, _, e1, t1⟩ := hf 1 _ rfl
  cases e1
  obtain ⟨x1, q1⟩ := dec_int (k := .i64) (by kernel_rfl) t1
  obtain ⟨_, _, _, e2, t2⟩ := hf 2 _ rfl
  cases e2
  obtain ⟨x2, q2⟩ := dec_str (by kernel_rfl) t2
  obtain ⟨_, _, _, e3, t3⟩ := hf 3 _ rfl
  cases e3
  obtain ⟨x3, q3⟩ := dec_slice encWord (e := 81) (by kernel_rfl) t3 (fun _ _ _ _ _ h => dec_GWord h)
  obtain ⟨_, _, _, e4, t4⟩ := hf 4 _ rfl
  cases e4
  obtain ⟨x4, q4⟩ := dec_slice encWord (e := 81) (by kernel_rfl) t4 (fun _ _ _ _ _ h => dec_GWord h)
  obtain ⟨_, _, _, e5, t5⟩ := hf 5 _ rfl
  cases e5
  obtain ⟨x5, q5⟩ := dec_slice encUnit (e := 30) (by kernel_rfl) t5 (fun m cs' d' ps' hm h => ih m (by omega) cs' d' ps' h)
  exact ⟨⟨x0, x1, x2, x3, x4, x5⟩, by simp only [toD, toCs, q0, q1, q2, q3, q4, q5]; simp [encUnit_def, encId_def, D.cells]⟩

theorem dec_GItem : ∀ (fuel : Nat) (cs : List Value) (d : DataW H) (ps : List MemPlace), DataW.trod enc Go.Proofs.Tryz.prog w base (fun _ => true) held fuel 55 cs = some (d, ps) → ∃ x : GItem, toD d = encItem x := by
  intro fuel
  induction fuel using Nat.strongRecOn with
  | _ fuel ih =>
  intro cs d ps h
  obtain ⟨n, ds, rfl, rfl, hl, hf⟩ := dec_struct (ts := [3, 51, 51, 3, 3, 30, 52, 52, 9, 9, 50, 3, 3, 3, 9, 53]) (by kernel_rfl) h
  obtain ⟨d0, d1, d2, d3, d4, d5, d6, d7, d8, d9, d10, d11, d12, d13, d14, d15, rfl⟩ : ∃ d0 d1 d2 d3 d4 d5 d6 d7 d8 d9 d10 d11 d12 d13 d14 d15, ds = [d0, d1, d2, d3, d4, d5, d6, d7, d8, d9, d10, d11, d12, d13, d14, d15] := by
    match ds, hl with
    | [d0, d1, d2, d3, d4, d5, d6, d7, d8, d9, d10, d11, d12, d13, d14, d15], _ => exact ⟨d0, d1, d2, d3, d4, d5, d6, d7, d8, d9, d10, d11, d12, d13, d14, d15, rfl⟩
  obtain ⟨_, _, _, e0, t0⟩ := hf 0 _ rfl
  cases e0
  obtain ⟨x0, q0⟩ := dec_int (k := .i64) (by kernel_rfl) t0
  obtain ⟨_, _, _, e1, t1⟩ := hf 1 _ rfl
  cases e1
  obtain ⟨x1, q1⟩ := dec_slice encStep (e := 59) (by kernel_rfl) t1 (fun _ _ _ _ _ h => dec_GStep h)
  obtain ⟨_, _, _, e2, t2⟩ := hf 2 _ rfl
  cases e2
  obtain ⟨x2, q2⟩ := dec_slice encStep (e := 59) (by kernel_rfl) t2 (fun _ _ _ _ _ h => dec_GStep h)
  obtain ⟨_, _, _, e3, t3⟩ := hf 3 _ rfl
  cases e3
  obtain ⟨x3, q3⟩ := dec_int (k := .i64) (by kernel_rfl) t3
  obtain ⟨_, _, _, e4, t4⟩ := hf 4 _ rfl
  cases e4
  obtain ⟨x4, q4⟩ := dec_int (k := .i64) (by kernel_rfl) t4
  obtain ⟨_, _, _, e5, t5⟩ := hf 5 _ rfl
  cases e5
  obtain ⟨x5, q5⟩ := dec_GUnit _ _ _ _ t5
  obtain ⟨_, _, _, e6, t6⟩ := hf 6 _ rfl
  cases e6
  obtain ⟨x6, q6⟩ := dec_slice D.str (e := 9) (by kernel_rfl) t6 fun _ _ _ _ _ h => dec_str (by kernel_rfl) h
  obtain ⟨_, _, _, e7, t7⟩ := hf 7 _ rfl
  cases e7
  obtain ⟨x7, q7⟩ := dec_slice D.str (e := 9) (by kernel_rfl) t7 fun _ _ _ _ _ h => dec_str (by kernel_rfl) h
  obtain ⟨_, _, _, e8, t8⟩ := hf 8 _ rfl
  cases e8
  obtain ⟨x8, q8⟩ := dec_str (by kernel_rfl) t8
  obtain ⟨_, _, _, e9, t9⟩ := hf 9 _ rfl
  cases e9
  obtain ⟨x9, q9⟩ := dec_str (by kernel_rfl) t9
  obtain ⟨_, _, _, e10, t10⟩ := hf 10 _ rfl
  cases e10
  obtain ⟨x10, q10⟩ := dec_GStart t10
  obtain ⟨_, _, _, e11, t11⟩ := hf 11 _ rfl
  cases e11
  obtain ⟨x11, q11⟩ := dec_int (k := .i64) (by kernel_rfl) t11
  obtain ⟨_, _, _, e12, t12⟩ := hf 12 _ rfl
  cases e12
  obtain ⟨x12, q12⟩ := dec_int (k := .i64) (by kernel_rfl) t12
  obtain ⟨_, _, _, e13, t13⟩ := hf 13 _ rfl
  cases e13
  obtain ⟨x13, q13⟩ := dec_int (k := .i64) (by kernel_rfl) t13
  obtain ⟨_, _, _, e14, t14⟩ := hf 14 _ rfl
  cases e14
  obtain ⟨x14, q14⟩ := dec_str (by kernel_rfl) t14
  obtain ⟨_, _, _, e15, t15⟩ := hf 15 _ rfl
  cases e15
  obtain ⟨x15, q15⟩ := dec_slice encItem (e := 55) (by kernel_rfl) t15 (fun m cs' d' ps' hm h => ih m (by omega) cs' d' ps' h)
  exact ⟨⟨x0, x1, x2, x3, x4, x5, x6, x7, x8, x9, x10, x11, x12, x13, x14, x15⟩, by simp only [toD, toCs, q0, q1, q2, q3, q4, q5, q6, q7, q8, q9, q10, q11, q12, q13, q14, q15]; simp [encItem_def, encStart_def, encUnit_def, D.cells]⟩

theorem dec_GAct {fuel : Nat} {cs : List Value} {d : DataW H} {ps : List MemPlace} (h : DataW.trod enc Go.Proofs.Tryz.prog w base (fun _ => true) held fuel 57 cs = some (d, ps)) : ∃ x : GAct, toD d = encAct x := by
  obtain ⟨n, ds, rfl, rfl, hl, hf⟩ := dec_struct (ts := [3, 9, 3, 50, 53]) (by kernel_rfl) h
  obtain ⟨d0, d1, d2, d3, d4, rfl⟩ : ∃ d0 d1 d2 d3 d4, ds = [d0, d1, d2, d3, d4] := by
    match ds, hl with
    | [d0, d1, d2, d3, d4], _ => exact ⟨d0, d1, d2, d3, d4, rfl⟩
  obtain ⟨_, _, _, e0, t0⟩ := hf 0 _ rfl
  cases e0
  obtain ⟨x0, q0⟩ := dec_int (k := .i64) (by kernel_rfl) t0
  obtain ⟨_, _, _, e1, t1⟩ := hf 1 _ rfl
  cases e1
  obtain ⟨x1, q1⟩ := dec_str (by kernel_rfl) t1
  obtain ⟨_, _, _, e2, t2⟩ := hf 2 _ rfl
  cases e2
  obtain ⟨x2, q2⟩ := dec_int (k := .i64) (by kernel_rfl) t2
  obtain ⟨_, _, _, e3, t3⟩ := hf 3 _ rfl
  cases e3
  obtain ⟨x3, q3⟩ := dec_GStart t3
  obtain ⟨_, _, _, e4, t4⟩ := hf 4 _ rfl
  cases e4
  obtain ⟨x4, q4⟩ := dec_slice encItem (e := 55) (by kernel_rfl) t4 (fun _ _ _ _ _ h => dec_GItem _ _ _ _ h)
  exact ⟨⟨x0, x1, x2, x3, x4⟩, by simp only [toD, toCs, q0, q1, q2, q3, q4]; simp [encAct_def, encStart_def, D.cells]⟩

theorem dec_GGaz {fuel : Nat} {cs : List Value} {d : DataW H} {ps : List MemPlace} (h : DataW.trod enc Go.Proofs.Tryz.prog w base (fun _ => true) held fuel 62 cs = some (d, ps)) : ∃ x : GGaz, toD d = encGaz x := by
  obtain ⟨n, ds, rfl, rfl, hl, hf⟩ := dec_struct (ts := [3, 3, 9, 60]) (by kernel_rfl) h
  obtain ⟨d0, d1, d2, d3, rfl⟩ : ∃ d0 d1 d2 d3, ds = [d0, d1, d2, d3] := by
    match ds, hl with
    | [d0, d1, d2, d3], _ => exact ⟨d0, d1, d2, d3, rfl⟩
  obtain ⟨_, _, _, e0, t0⟩ := hf 0 _ rfl
  cases e0
  obtain ⟨x0, q0⟩ := dec_int (k := .i64) (by kernel_rfl) t0
  obtain ⟨_, _, _, e1, t1⟩ := hf 1 _ rfl
  cases e1
  obtain ⟨x1, q1⟩ := dec_int (k := .i64) (by kernel_rfl) t1
  obtain ⟨_, _, _, e2, t2⟩ := hf 2 _ rfl
  cases e2
  obtain ⟨x2, q2⟩ := dec_str (by kernel_rfl) t2
  obtain ⟨_, _, _, e3, t3⟩ := hf 3 _ rfl
  cases e3
  obtain ⟨x3, q3⟩ := dec_slice encAct (e := 57) (by kernel_rfl) t3 (fun _ _ _ _ _ h => dec_GAct h)
  exact ⟨⟨x0, x1, x2, x3⟩, by simp only [toD, toCs, q0, q1, q2, q3]; simp [encGaz_def, D.cells]⟩

end Go.Ab
