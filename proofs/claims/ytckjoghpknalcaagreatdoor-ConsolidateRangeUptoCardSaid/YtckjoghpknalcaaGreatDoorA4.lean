/- The typed data of the program and its cells; printed by wip/tools/data.py. Shared by the contracts. Rows that are written no more: handed to a function as data. Functions that turn the caller's blocks, or leave blocks of their own. Regions whose order is open. The abstract run as a computation: with fuel, for closed arguments. Draw regions laid out for rewriting; maps; rows that grow; closures. -/
import Derived.Test.YtckjoghpknalcaaGreatDoorA7
set_option linter.unusedVariables false
set_option linter.unusedSimpArgs false
set_option linter.unnecessarySimpa false
namespace Go.Ab

structure GId where
  act : Int
  item : Int
  n : Int
  deriving DecidableEq

def encId (x : GId) : D := .agg [.int .i64 x.act, .int .i64 x.item, .int .i64 x.n]
theorem encId_def (x : GId) : encId x = .agg [.int .i64 x.act, .int .i64 x.item, .int .i64 x.n] := rfl
@[go_sem] theorem encId_len (x : GId) : (encId x).cells.length = 3 := by simp [encId_def, D.cells]
@[go_sem] theorem encId_ag (x : GId) : isAg (.d (encId x)) = true := by simp [encId_def, isAg]
@[go_sem] theorem encId_uni (l : List GId) : uni 3 (l.map encId) = true := by simp [uni, encId_len]
@[go_sem] theorem encId_ld (x : GId) : ldC (some true) 3 (encId x).cells = some (.d (encId x)) := by simp [encId_def, D.cells, ldC]
@[go_sem] theorem encId_okl (x : GId) : okD (encId x) ↔ okL [.int .i64 x.act, .int .i64 x.item, .int .i64 x.n] := by rw [encId_def]; simp only [okD]
@[go_sem] theorem encId_c0 (x : GId) : (AV.cells (.d (encId x)))[0]? = some (.d (.int .i64 x.act)) := by simp [encId_def, AV.cells]
@[go_sem] theorem encId_l0 (x : GId) : ldC (some false) 1 (encId x).cells = some (.d (.int .i64 x.act)) := by simp [encId_def, D.cells, ldC]
@[go_sem] theorem encId_p0 (x : GId) (v : Int) : putA (.d (encId x)) 0 (.d (.int .i64 v)) = .d (encId { x with act := v }) := by
  rw [encId_def, encId_def, putA_dagg _ _ _ (by simp [csz, AV.cells])]; simp [csz, AV.cells, mkA, allD]
@[go_sem] theorem encId_c1 (x : GId) : (AV.cells (.d (encId x)))[1]? = some (.d (.int .i64 x.item)) := by simp [encId_def, AV.cells]
@[go_sem] theorem encId_l1 (x : GId) : ldC (some false) 1 ((encId x).cells.drop 1) = some (.d (.int .i64 x.item)) := by simp [encId_def, D.cells, ldC]
@[go_sem] theorem encId_p1 (x : GId) (v : Int) : putA (.d (encId x)) 1 (.d (.int .i64 v)) = .d (encId { x with item := v }) := by
  rw [encId_def, encId_def, putA_dagg _ _ _ (by simp [csz, AV.cells])]; simp [csz, AV.cells, mkA, allD]
@[go_sem] theorem encId_c2 (x : GId) : (AV.cells (.d (encId x)))[2]? = some (.d (.int .i64 x.n)) := by simp [encId_def, AV.cells]
@[go_sem] theorem encId_l2 (x : GId) : ldC (some false) 1 ((encId x).cells.drop 2) = some (.d (.int .i64 x.n)) := by simp [encId_def, D.cells, ldC]
@[go_sem] theorem encId_p2 (x : GId) (v : Int) : putA (.d (encId x)) 2 (.d (.int .i64 v)) = .d (encId { x with n := v }) := by
  rw [encId_def, encId_def, putA_dagg _ _ _ (by simp [csz, AV.cells])]; simp [csz, AV.cells, mkA, allD]

structure GMark where
  act : Int
  item : Int
  at_ : Int
  deriving DecidableEq

def encMark (x : GMark) : D := .agg [.int .i64 x.act, .int .i64 x.item, .int .i64 x.at_]
theorem encMark_def (x : GMark) : encMark x = .agg [.int .i64 x.act, .int .i64 x.item, .int .i64 x.at_] := rfl
@[go_sem] theorem encMark_len (x : GMark) : (encMark x).cells.length = 3 := by simp [encMark_def, D.cells]
@[go_sem] theorem encMark_ag (x : GMark) : isAg (.d (encMark x)) = true := by simp [encMark_def, isAg]
@[go_sem] theorem encMark_uni (l : List GMark) : uni 3 (l.map encMark) = true := by simp [uni, encMark_len]
@[go_sem] theorem encMark_ld (x : GMark) : ldC (some true) 3 (encMark x).cells = some (.d (encMark x)) := by simp [encMark_def, D.cells, ldC]
@[go_sem] theorem encMark_okl (x : GMark) : okD (encMark x) ↔ okL [.int .i64 x.act, .int .i64 x.item, .int .i64 x.at_] := by rw [encMark_def]; simp only [okD]
@[go_sem] theorem encMark_c0 (x : GMark) : (AV.cells (.d (encMark x)))[0]? = some (.d (.int .i64 x.act)) := by simp [encMark_def, AV.cells]
@[go_sem] theorem encMark_l0 (x : GMark) : ldC (some false) 1 (encMark x).cells = some (.d (.int .i64 x.act)) := by simp [encMark_def, D.cells, ldC]
@[go_sem] theorem encMark_p0 (x : GMark) (v : Int) : putA (.d (encMark x)) 0 (.d (.int .i64 v)) = .d (encMark { x with act := v }) := by
  rw [encMark_def, encMark_def, putA_dagg _ _ _ (by simp [csz, AV.cells])]; simp [csz, AV.cells, mkA, allD]
@[go_sem] theorem encMark_c1 (x : GMark) : (AV.cells (.d (encMark x)))[1]? = some (.d (.int .i64 x.item)) := by simp [encMark_def, AV.cells]
@[go_sem] theorem encMark_l1 (x : GMark) : ldC (some false) 1 ((encMark x).cells.drop 1) = some (.d (.int .i64 x.item)) := by simp [encMark_def, D.cells, ldC]
@[go_sem] theorem encMark_p1 (x : GMark) (v : Int) : putA (.d (encMark x)) 1 (.d (.int .i64 v)) = .d (encMark { x with item := v }) := by
  rw [encMark_def, encMark_def, putA_dagg _ _ _ (by simp [csz, AV.cells])]; simp [csz, AV.cells, mkA, allD]
@[go_sem] theorem encMark_c2 (x : GMark) : (AV.cells (.d (encMark x)))[2]? = some (.d (.int .i64 x.at_)) := by simp [encMark_def, AV.cells]
@[go_sem] theorem encMark_l2 (x : GMark) : ldC (some false) 1 ((encMark x).cells.drop 2) = some (.d (.int .i64 x.at_)) := by simp [encMark_def, D.cells, ldC]
@[go_sem] theorem encMark_p2 (x : GMark) (v : Int) : putA (.d (encMark x)) 2 (.d (.int .i64 v)) = .d (encMark { x with at_ := v }) := by
  rw [encMark_def, encMark_def, putA_dagg _ _ _ (by simp [csz, AV.cells])]; simp [csz, AV.cells, mkA, allD]

structure GWord where
  text : ByteArray
  by_ : GMark
  deriving DecidableEq

def encWord (x : GWord) : D := .agg [.str x.text, .int .i64 x.by_.act, .int .i64 x.by_.item, .int .i64 x.by_.at_]
theorem encWord_def (x : GWord) : encWord x = .agg [.str x.text, .int .i64 x.by_.act, .int .i64 x.by_.item, .int .i64 x.by_.at_] := rfl
@[go_sem] theorem encWord_len (x : GWord) : (encWord x).cells.length = 4 := by simp [encWord_def, D.cells]
@[go_sem] theorem encWord_ag (x : GWord) : isAg (.d (encWord x)) = true := by simp [encWord_def, isAg]
@[go_sem] theorem encWord_uni (l : List GWord) : uni 4 (l.map encWord) = true := by simp [uni, encWord_len]
@[go_sem] theorem encWord_ld (x : GWord) : ldC (some true) 4 (encWord x).cells = some (.d (encWord x)) := by simp [encWord_def, D.cells, ldC]
@[go_sem] theorem encWord_okl (x : GWord) : okD (encWord x) ↔ okL [.str x.text, .int .i64 x.by_.act, .int .i64 x.by_.item, .int .i64 x.by_.at_] := by rw [encWord_def]; simp only [okD]
@[go_sem] theorem encWord_c0 (x : GWord) : (AV.cells (.d (encWord x)))[0]? = some (.d (.str x.text)) := by simp [encWord_def, AV.cells]
@[go_sem] theorem encWord_l0 (x : GWord) : ldC (some false) 1 (encWord x).cells = some (.d (.str x.text)) := by simp [encWord_def, D.cells, ldC]
@[go_sem] theorem encWord_p0 (x : GWord) (v : ByteArray) : putA (.d (encWord x)) 0 (.d (.str v)) = .d (encWord { x with text := v }) := by
  rw [encWord_def, encWord_def, putA_dagg _ _ _ (by simp [csz, AV.cells])]; simp [csz, AV.cells, mkA, allD]
@[go_sem] theorem encWord_c1 (x : GWord) : (AV.cells (.d (encWord x)))[1]? = some (.d (.int .i64 x.by_.act)) := by simp [encWord_def, AV.cells]
@[go_sem] theorem encWord_l1 (x : GWord) : ldC (some false) 1 ((encWord x).cells.drop 1) = some (.d (.int .i64 x.by_.act)) := by simp [encWord_def, D.cells, ldC]
@[go_sem] theorem encWord_p1 (x : GWord) (v : Int) : putA (.d (encWord x)) 1 (.d (.int .i64 v)) = .d (encWord { x with by_ := { x.by_ with act := v } }) := by
  rw [encWord_def, encWord_def, putA_dagg _ _ _ (by simp [csz, AV.cells])]; simp [csz, AV.cells, mkA, allD]
@[go_sem] theorem encWord_c2 (x : GWord) : (AV.cells (.d (encWord x)))[2]? = some (.d (.int .i64 x.by_.item)) := by simp [encWord_def, AV.cells]
@[go_sem] theorem encWord_l2 (x : GWord) : ldC (some false) 1 ((encWord x).cells.drop 2) = some (.d (.int .i64 x.by_.item)) := by simp [encWord_def, D.cells, ldC]
@[go_sem] theorem encWord_p2 (x : GWord) (v : Int) : putA (.d (encWord x)) 2 (.d (.int .i64 v)) = .d (encWord { x with by_ := { x.by_ with item := v } }) := by
  rw [encWord_def, encWord_def, putA_dagg _ _ _ (by simp [csz, AV.cells])]; simp [csz, AV.cells, mkA, allD]
@[go_sem] theorem encWord_c3 (x : GWord) : (AV.cells (.d (encWord x)))[3]? = some (.d (.int .i64 x.by_.at_)) := by simp [encWord_def, AV.cells]
@[go_sem] theorem encWord_l3 (x : GWord) : ldC (some false) 1 ((encWord x).cells.drop 3) = some (.d (.int .i64 x.by_.at_)) := by simp [encWord_def, D.cells, ldC]
@[go_sem] theorem encWord_p3 (x : GWord) (v : Int) : putA (.d (encWord x)) 3 (.d (.int .i64 v)) = .d (encWord { x with by_ := { x.by_ with at_ := v } }) := by
  rw [encWord_def, encWord_def, putA_dagg _ _ _ (by simp [csz, AV.cells])]; simp [csz, AV.cells, mkA, allD]
@[go_sem] theorem encWord_s1_3 (x : GWord) : subA true (.d (encWord x)) 1 3 = some (.d (encMark x.by_)) := by
  rw [encWord_def, subA_aggD _ _ _ (by simp) (by simp)]; simp [mkA, allD, encMark_def]
@[go_sem] theorem encWord_ls1_3 (x : GWord) : ldC (some true) 3 ((encWord x).cells.drop 1) = some (.d (encMark x.by_)) := by
  simp [encWord_def, encMark_def, D.cells, ldC]
@[go_sem] theorem encWord_ps1_3 (x : GWord) (v : GMark) : putA (.d (encWord x)) 1 (.d (encMark v)) = .d (encWord { x with by_ := v }) := by
  rw [encWord_def, encWord_def, encMark_def, putA_dagg _ _ _ (by simp [csz, AV.cells])]; simp [csz, AV.cells, mkA, allD]

structure GStep where
  kind : Int
  label : ByteArray
  deriving DecidableEq

def encStep (x : GStep) : D := .agg [.int .i64 x.kind, .str x.label]
theorem encStep_def (x : GStep) : encStep x = .agg [.int .i64 x.kind, .str x.label] := rfl
@[go_sem] theorem encStep_len (x : GStep) : (encStep x).cells.length = 2 := by simp [encStep_def, D.cells]
@[go_sem] theorem encStep_ag (x : GStep) : isAg (.d (encStep x)) = true := by simp [encStep_def, isAg]
@[go_sem] theorem encStep_uni (l : List GStep) : uni 2 (l.map encStep) = true := by simp [uni, encStep_len]
@[go_sem] theorem encStep_ld (x : GStep) : ldC (some true) 2 (encStep x).cells = some (.d (encStep x)) := by simp [encStep_def, D.cells, ldC]
@[go_sem] theorem encStep_okl (x : GStep) : okD (encStep x) ↔ okL [.int .i64 x.kind, .str x.label] := by rw [encStep_def]; simp only [okD]
@[go_sem] theorem encStep_c0 (x : GStep) : (AV.cells (.d (encStep x)))[0]? = some (.d (.int .i64 x.kind)) := by simp [encStep_def, AV.cells]
@[go_sem] theorem encStep_l0 (x : GStep) : ldC (some false) 1 (encStep x).cells = some (.d (.int .i64 x.kind)) := by simp [encStep_def, D.cells, ldC]
@[go_sem] theorem encStep_p0 (x : GStep) (v : Int) : putA (.d (encStep x)) 0 (.d (.int .i64 v)) = .d (encStep { x with kind := v }) := by
  rw [encStep_def, encStep_def, putA_dagg _ _ _ (by simp [csz, AV.cells])]; simp [csz, AV.cells, mkA, allD]
@[go_sem] theorem encStep_c1 (x : GStep) : (AV.cells (.d (encStep x)))[1]? = some (.d (.str x.label)) := by simp [encStep_def, AV.cells]
@[go_sem] theorem encStep_l1 (x : GStep) : ldC (some false) 1 ((encStep x).cells.drop 1) = some (.d (.str x.label)) := by simp [encStep_def, D.cells, ldC]
@[go_sem] theorem encStep_p1 (x : GStep) (v : ByteArray) : putA (.d (encStep x)) 1 (.d (.str v)) = .d (encStep { x with label := v }) := by
  rw [encStep_def, encStep_def, putA_dagg _ _ _ (by simp [csz, AV.cells])]; simp [csz, AV.cells, mkA, allD]

structure GStart where
  kind : Int
  day : Int
  event : ByteArray
  deriving DecidableEq

def encStart (x : GStart) : D := .agg [.int .i64 x.kind, .int .i64 x.day, .str x.event]
theorem encStart_def (x : GStart) : encStart x = .agg [.int .i64 x.kind, .int .i64 x.day, .str x.event] := rfl
@[go_sem] theorem encStart_len (x : GStart) : (encStart x).cells.length = 3 := by simp [encStart_def, D.cells]
@[go_sem] theorem encStart_ag (x : GStart) : isAg (.d (encStart x)) = true := by simp [encStart_def, isAg]
@[go_sem] theorem encStart_uni (l : List GStart) : uni 3 (l.map encStart) = true := by simp [uni, encStart_len]
@[go_sem] theorem encStart_ld (x : GStart) : ldC (some true) 3 (encStart x).cells = some (.d (encStart x)) := by simp [encStart_def, D.cells, ldC]
@[go_sem] theorem encStart_okl (x : GStart) : okD (encStart x) ↔ okL [.int .i64 x.kind, .int .i64 x.day, .str x.event] := by rw [encStart_def]; simp only [okD]
@[go_sem] theorem encStart_c0 (x : GStart) : (AV.cells (.d (encStart x)))[0]? = some (.d (.int .i64 x.kind)) := by simp [encStart_def, AV.cells]
@[go_sem] theorem encStart_l0 (x : GStart) : ldC (some false) 1 (encStart x).cells = some (.d (.int .i64 x.kind)) := by simp [encStart_def, D.cells, ldC]
@[go_sem] theorem encStart_p0 (x : GStart) (v : Int) : putA (.d (encStart x)) 0 (.d (.int .i64 v)) = .d (encStart { x with kind := v }) := by
  rw [encStart_def, encStart_def, putA_dagg _ _ _ (by simp [csz, AV.cells])]; simp [csz, AV.cells, mkA, allD]
@[go_sem] theorem encStart_c1 (x : GStart) : (AV.cells (.d (encStart x)))[1]? = some (.d (.int .i64 x.day)) := by simp [encStart_def, AV.cells]
@[go_sem] theorem encStart_l1 (x : GStart) : ldC (some false) 1 ((encStart x).cells.drop 1) = some (.d (.int .i64 x.day)) := by simp [encStart_def, D.cells, ldC]
@[go_sem] theorem encStart_p1 (x : GStart) (v : Int) : putA (.d (encStart x)) 1 (.d (.int .i64 v)) = .d (encStart { x with day := v }) := by
  rw [encStart_def, encStart_def, putA_dagg _ _ _ (by simp [csz, AV.cells])]; simp [csz, AV.cells, mkA, allD]
@[go_sem] theorem encStart_c2 (x : GStart) : (AV.cells (.d (encStart x)))[2]? = some (.d (.str x.event)) := by simp [encStart_def, AV.cells]
@[go_sem] theorem encStart_l2 (x : GStart) : ldC (some false) 1 ((encStart x).cells.drop 2) = some (.d (.str x.event)) := by simp [encStart_def, D.cells, ldC]
@[go_sem] theorem encStart_p2 (x : GStart) (v : ByteArray) : putA (.d (encStart x)) 2 (.d (.str v)) = .d (encStart { x with event := v }) := by
  rw [encStart_def, encStart_def, putA_dagg _ _ _ (by simp [csz, AV.cells])]; simp [csz, AV.cells, mkA, allD]

structure GRef where
  act : Int
  item : Int
  deriving DecidableEq

def encRef (x : GRef) : D := .agg [.int .i64 x.act, .int .i64 x.item]
theorem encRef_def (x : GRef) : encRef x = .agg [.int .i64 x.act, .int .i64 x.item] := rfl
@[go_sem] theorem encRef_len (x : GRef) : (encRef x).cells.length = 2 := by simp [encRef_def, D.cells]
@[go_sem] theorem encRef_ag (x : GRef) : isAg (.d (encRef x)) = true := by simp [encRef_def, isAg]
@[go_sem] theorem encRef_uni (l : List GRef) : uni 2 (l.map encRef) = true := by simp [uni, encRef_len]
@[go_sem] theorem encRef_ld (x : GRef) : ldC (some true) 2 (encRef x).cells = some (.d (encRef x)) := by simp [encRef_def, D.cells, ldC]
@[go_sem] theorem encRef_okl (x : GRef) : okD (encRef x) ↔ okL [.int .i64 x.act, .int .i64 x.item] := by rw [encRef_def]; simp only [okD]
@[go_sem] theorem encRef_c0 (x : GRef) : (AV.cells (.d (encRef x)))[0]? = some (.d (.int .i64 x.act)) := by simp [encRef_def, AV.cells]
@[go_sem] theorem encRef_l0 (x : GRef) : ldC (some false) 1 (encRef x).cells = some (.d (.int .i64 x.act)) := by simp [encRef_def, D.cells, ldC]
@[go_sem] theorem encRef_p0 (x : GRef) (v : Int) : putA (.d (encRef x)) 0 (.d (.int .i64 v)) = .d (encRef { x with act := v }) := by
  rw [encRef_def, encRef_def, putA_dagg _ _ _ (by simp [csz, AV.cells])]; simp [csz, AV.cells, mkA, allD]
@[go_sem] theorem encRef_c1 (x : GRef) : (AV.cells (.d (encRef x)))[1]? = some (.d (.int .i64 x.item)) := by simp [encRef_def, AV.cells]
@[go_sem] theorem encRef_l1 (x : GRef) : ldC (some false) 1 ((encRef x).cells.drop 1) = some (.d (.int .i64 x.item)) := by simp [encRef_def, D.cells, ldC]
@[go_sem] theorem encRef_p1 (x : GRef) (v : Int) : putA (.d (encRef x)) 1 (.d (.int .i64 v)) = .d (encRef { x with item := v }) := by
  rw [encRef_def, encRef_def, putA_dagg _ _ _ (by simp [csz, AV.cells])]; simp [csz, AV.cells, mkA, allD]

structure GSpan where
  from_ : Int
  to_ : Int
  deriving DecidableEq

def encSpan (x : GSpan) : D := .agg [.int .i64 x.from_, .int .i64 x.to_]
theorem encSpan_def (x : GSpan) : encSpan x = .agg [.int .i64 x.from_, .int .i64 x.to_] := rfl
@[go_sem] theorem encSpan_len (x : GSpan) : (encSpan x).cells.length = 2 := by simp [encSpan_def, D.cells]
@[go_sem] theorem encSpan_ag (x : GSpan) : isAg (.d (encSpan x)) = true := by simp [encSpan_def, isAg]
@[go_sem] theorem encSpan_uni (l : List GSpan) : uni 2 (l.map encSpan) = true := by simp [uni, encSpan_len]
@[go_sem] theorem encSpan_ld (x : GSpan) : ldC (some true) 2 (encSpan x).cells = some (.d (encSpan x)) := by simp [encSpan_def, D.cells, ldC]
@[go_sem] theorem encSpan_okl (x : GSpan) : okD (encSpan x) ↔ okL [.int .i64 x.from_, .int .i64 x.to_] := by rw [encSpan_def]; simp only [okD]
@[go_sem] theorem encSpan_c0 (x : GSpan) : (AV.cells (.d (encSpan x)))[0]? = some (.d (.int .i64 x.from_)) := by simp [encSpan_def, AV.cells]
@[go_sem] theorem encSpan_l0 (x : GSpan) : ldC (some false) 1 (encSpan x).cells = some (.d (.int .i64 x.from_)) := by simp [encSpan_def, D.cells, ldC]
@[go_sem] theorem encSpan_p0 (x : GSpan) (v : Int) : putA (.d (encSpan x)) 0 (.d (.int .i64 v)) = .d (encSpan { x with from_ := v }) := by
  rw [encSpan_def, encSpan_def, putA_dagg _ _ _ (by simp [csz, AV.cells])]; simp [csz, AV.cells, mkA, allD]
@[go_sem] theorem encSpan_c1 (x : GSpan) : (AV.cells (.d (encSpan x)))[1]? = some (.d (.int .i64 x.to_)) := by simp [encSpan_def, AV.cells]
@[go_sem] theorem encSpan_l1 (x : GSpan) : ldC (some false) 1 ((encSpan x).cells.drop 1) = some (.d (.int .i64 x.to_)) := by simp [encSpan_def, D.cells, ldC]
@[go_sem] theorem encSpan_p1 (x : GSpan) (v : Int) : putA (.d (encSpan x)) 1 (.d (.int .i64 v)) = .d (encSpan { x with to_ := v }) := by
  rw [encSpan_def, encSpan_def, putA_dagg _ _ _ (by simp [csz, AV.cells])]; simp [csz, AV.cells, mkA, allD]

structure GFail where
  act : Int
  item : Int
  why : Int
  deriving DecidableEq

def encFail (x : GFail) : D := .agg [.int .i64 x.act, .int .i64 x.item, .int .i64 x.why]
theorem encFail_def (x : GFail) : encFail x = .agg [.int .i64 x.act, .int .i64 x.item, .int .i64 x.why] := rfl
@[go_sem] theorem encFail_len (x : GFail) : (encFail x).cells.length = 3 := by simp [encFail_def, D.cells]
@[go_sem] theorem encFail_ag (x : GFail) : isAg (.d (encFail x)) = true := by simp [encFail_def, isAg]
@[go_sem] theorem encFail_uni (l : List GFail) : uni 3 (l.map encFail) = true := by simp [uni, encFail_len]
@[go_sem] theorem encFail_ld (x : GFail) : ldC (some true) 3 (encFail x).cells = some (.d (encFail x)) := by simp [encFail_def, D.cells, ldC]
@[go_sem] theorem encFail_okl (x : GFail) : okD (encFail x) ↔ okL [.int .i64 x.act, .int .i64 x.item, .int .i64 x.why] := by rw [encFail_def]; simp only [okD]
@[go_sem] theorem encFail_c0 (x : GFail) : (AV.cells (.d (encFail x)))[0]? = some (.d (.int .i64 x.act)) := by simp [encFail_def, AV.cells]
@[go_sem] theorem encFail_l0 (x : GFail) : ldC (some false) 1 (encFail x).cells = some (.d (.int .i64 x.act)) := by simp [encFail_def, D.cells, ldC]
@[go_sem] theorem encFail_p0 (x : GFail) (v : Int) : putA (.d (encFail x)) 0 (.d (.int .i64 v)) = .d (encFail { x with act := v }) := by
  rw [encFail_def, encFail_def, putA_dagg _ _ _ (by simp [csz, AV.cells])]; simp [csz, AV.cells, mkA, allD]
@[go_sem] theorem encFail_c1 (x : GFail) : (AV.cells (.d (encFail x)))[1]? = some (.d (.int .i64 x.item)) := by simp [encFail_def, AV.cells]
@[go_sem] theorem encFail_l1 (x : GFail) : ldC (some false) 1 ((encFail x).cells.drop 1) = some (.d (.int .i64 x.item)) := by simp [encFail_def, D.cells, ldC]
@[go_sem] theorem encFail_p1 (x : GFail) (v : Int) : putA (.d (encFail x)) 1 (.d (.int .i64 v)) = .d (encFail { x with item := v }) := by
  rw [encFail_def, encFail_def, putA_dagg _ _ _ (by simp [csz, AV.cells])]; simp [csz, AV.cells, mkA, allD]
@[go_sem] theorem encFail_c2 (x : GFail) : (AV.cells (.d (encFail x)))[2]? = some (.d (.int .i64 x.why)) := by simp [encFail_def, AV.cells]
@[go_sem] theorem encFail_l2 (x : GFail) : ldC (some false) 1 ((encFail x).cells.drop 2) = some (.d (.int .i64 x.why)) := by simp [encFail_def, D.cells, ldC]
@[go_sem] theorem encFail_p2 (x : GFail) (v : Int) : putA (.d (encFail x)) 2 (.d (.int .i64 v)) = .d (encFail { x with why := v }) := by
  rw [encFail_def, encFail_def, putA_dagg _ _ _ (by simp [csz, AV.cells])]; simp [csz, AV.cells, mkA, allD]

structure GKey where
  kind : Int
  id : GId
  name : GStep
  deriving DecidableEq

def encKey (x : GKey) : D := .agg [.int .i64 x.kind, .int .i64 x.id.act, .int .i64 x.id.item, .int .i64 x.id.n, .int .i64 x.name.kind, .str x.name.label]
theorem encKey_def (x : GKey) : encKey x = .agg [.int .i64 x.kind, .int .i64 x.id.act, .int .i64 x.id.item, .int .i64 x.id.n, .int .i64 x.name.kind, .str x.name.label] := rfl
@[go_sem] theorem encKey_len (x : GKey) : (encKey x).cells.length = 6 := by simp [encKey_def, D.cells]
@[go_sem] theorem encKey_ag (x : GKey) : isAg (.d (encKey x)) = true := by simp [encKey_def, isAg]
@[go_sem] theorem encKey_uni (l : List GKey) : uni 6 (l.map encKey) = true := by simp [uni, encKey_len]
@[go_sem] theorem encKey_ld (x : GKey) : ldC (some true) 6 (encKey x).cells = some (.d (encKey x)) := by simp [encKey_def, D.cells, ldC]
@[go_sem] theorem encKey_okl (x : GKey) : okD (encKey x) ↔ okL [.int .i64 x.kind, .int .i64 x.id.act, .int .i64 x.id.item, .int .i64 x.id.n, .int .i64 x.name.kind, .str x.name.label] := by rw [encKey_def]; simp only [okD]
@[go_sem] theorem encKey_c0 (x : GKey) : (AV.cells (.d (encKey x)))[0]? = some (.d (.int .i64 x.kind)) := by simp [encKey_def, AV.cells]
@[go_sem] theorem encKey_l0 (x : GKey) : ldC (some false) 1 (encKey x).cells = some (.d (.int .i64 x.kind)) := by simp [encKey_def, D.cells, ldC]
@[go_sem] theorem encKey_p0 (x : GKey) (v : Int) : putA (.d (encKey x)) 0 (.d (.int .i64 v)) = .d (encKey { x with kind := v }) := by
  rw [encKey_def, encKey_def, putA_dagg _ _ _ (by simp [csz, AV.cells])]; simp [csz, AV.cells, mkA, allD]
@[go_sem] theorem encKey_c1 (x : GKey) : (AV.cells (.d (encKey x)))[1]? = some (.d (.int .i64 x.id.act)) := by simp [encKey_def, AV.cells]
@[go_sem] theorem encKey_l1 (x : GKey) : ldC (some false) 1 ((encKey x).cells.drop 1) = some (.d (.int .i64 x.id.act)) := by simp [encKey_def, D.cells, ldC]
@[go_sem] theorem encKey_p1 (x : GKey) (v : Int) : putA (.d (encKey x)) 1 (.d (.int .i64 v)) = .d (encKey { x with id := { x.id with act := v } }) := by
  rw [encKey_def, encKey_def, putA_dagg _ _ _ (by simp [csz, AV.cells])]; simp [csz, AV.cells, mkA, allD]
@[go_sem] theorem encKey_c2 (x : GKey) : (AV.cells (.d (encKey x)))[2]? = some (.d (.int .i64 x.id.item)) := by simp [encKey_def, AV.cells]
@[go_sem] theorem encKey_l2 (x : GKey) : ldC (some false) 1 ((encKey x).cells.drop 2) = some (.d (.int .i64 x.id.item)) := by simp [encKey_def, D.cells, ldC]
@[go_sem] theorem encKey_p2 (x : GKey) (v : Int) : putA (.d (encKey x)) 2 (.d (.int .i64 v)) = .d (encKey { x with id := { x.id with item := v } }) := by
  rw [encKey_def, encKey_def, putA_dagg _ _ _ (by simp [csz, AV.cells])]; simp [csz, AV.cells, mkA, allD]
@[go_sem] theorem encKey_c3 (x : GKey) : (AV.cells (.d (encKey x)))[3]? = some (.d (.int .i64 x.id.n)) := by simp [encKey_def, AV.cells]
@[go_sem] theorem encKey_l3 (x : GKey) : ldC (some false) 1 ((encKey x).cells.drop 3) = some (.d (.int .i64 x.id.n)) := by simp [encKey_def, D.cells, ldC]
@[go_sem] theorem encKey_p3 (x : GKey) (v : Int) : putA (.d (encKey x)) 3 (.d (.int .i64 v)) = .d (encKey { x with id := { x.id with n := v } }) := by
  rw [encKey_def, encKey_def, putA_dagg _ _ _ (by simp [csz, AV.cells])]; simp [csz, AV.cells, mkA, allD]
@[go_sem] theorem encKey_c4 (x : GKey) : (AV.cells (.d (encKey x)))[4]? = some (.d (.int .i64 x.name.kind)) := by simp [encKey_def, AV.cells]
@[go_sem] theorem encKey_l4 (x : GKey) : ldC (some false) 1 ((encKey x).cells.drop 4) = some (.d (.int .i64 x.name.kind)) := by simp [encKey_def, D.cells, ldC]
@[go_sem] theorem encKey_p4 (x : GKey) (v : Int) : putA (.d (encKey x)) 4 (.d (.int .i64 v)) = .d (encKey { x with name := { x.name with kind := v } }) := by
  rw [encKey_def, encKey_def, putA_dagg _ _ _ (by simp [csz, AV.cells])]; simp [csz, AV.cells, mkA, allD]
@[go_sem] theorem encKey_c5 (x : GKey) : (AV.cells (.d (encKey x)))[5]? = some (.d (.str x.name.label)) := by simp [encKey_def, AV.cells]
@[go_sem] theorem encKey_l5 (x : GKey) : ldC (some false) 1 ((encKey x).cells.drop 5) = some (.d (.str x.name.label)) := by simp [encKey_def, D.cells, ldC]
@[go_sem] theorem encKey_p5 (x : GKey) (v : ByteArray) : putA (.d (encKey x)) 5 (.d (.str v)) = .d (encKey { x with name := { x.name with label := v } }) := by
  rw [encKey_def, encKey_def, putA_dagg _ _ _ (by simp [csz, AV.cells])]; simp [csz, AV.cells, mkA, allD]
@[go_sem] theorem encKey_s1_3 (x : GKey) : subA true (.d (encKey x)) 1 3 = some (.d (encId x.id)) := by
  rw [encKey_def, subA_aggD _ _ _ (by simp) (by simp)]; simp [mkA, allD, encId_def]
@[go_sem] theorem encKey_ls1_3 (x : GKey) : ldC (some true) 3 ((encKey x).cells.drop 1) = some (.d (encId x.id)) := by
  simp [encKey_def, encId_def, D.cells, ldC]
@[go_sem] theorem encKey_ps1_3 (x : GKey) (v : GId) : putA (.d (encKey x)) 1 (.d (encId v)) = .d (encKey { x with id := v }) := by
  rw [encKey_def, encKey_def, encId_def, putA_dagg _ _ _ (by simp [csz, AV.cells])]; simp [csz, AV.cells, mkA, allD]
@[go_sem] theorem encKey_s4_2 (x : GKey) : subA true (.d (encKey x)) 4 2 = some (.d (encStep x.name)) := by
  rw [encKey_def, subA_aggD _ _ _ (by simp) (by simp)]; simp [mkA, allD, encStep_def]
@[go_sem] theorem encKey_ls4_2 (x : GKey) : ldC (some true) 2 ((encKey x).cells.drop 4) = some (.d (encStep x.name)) := by
  simp [encKey_def, encStep_def, D.cells, ldC]
@[go_sem] theorem encKey_ps4_2 (x : GKey) (v : GStep) : putA (.d (encKey x)) 4 (.d (encStep v)) = .d (encKey { x with name := v }) := by
  rw [encKey_def, encKey_def, encStep_def, putA_dagg _ _ _ (by simp [csz, AV.cells])]; simp [csz, AV.cells, mkA, allD]

structure GUnit where
  id : GId
  kind : Int
  label : ByteArray
  head : List GWord
  words : List GWord
  kids : List GUnit

mutual
def encUnit : GUnit → D
  | ⟨id, kind, label, head, words, kids⟩ => .agg [.int .i64 id.act, .int .i64 id.item, .int .i64 id.n, .int .i64 kind, .str label, .list (head.map encWord), .list (words.map encWord), .list (encUnits kids)]
def encUnits : List GUnit → List D
  | [] => []
  | x :: l => encUnit x :: encUnits l
end
theorem encUnits_map : ∀ l : List GUnit, encUnits l = l.map encUnit
  | [] => by simp [encUnits]
  | x :: l => by simp [encUnits, encUnits_map l]
theorem encUnit_def (x : GUnit) : encUnit x = .agg [.int .i64 x.id.act, .int .i64 x.id.item, .int .i64 x.id.n, .int .i64 x.kind, .str x.label, .list (x.head.map encWord), .list (x.words.map encWord), .list (x.kids.map encUnit)] := by
  obtain ⟨id, kind, label, head, words, kids⟩ := x
  simp only [encUnit, encUnits_map]
@[go_sem] theorem encUnit_len (x : GUnit) : (encUnit x).cells.length = 8 := by simp [encUnit_def, D.cells]
@[go_sem] theorem encUnit_ag (x : GUnit) : isAg (.d (encUnit x)) = true := by simp [encUnit_def, isAg]
@[go_sem] theorem encUnit_uni (l : List GUnit) : uni 8 (l.map encUnit) = true := by simp [uni, encUnit_len]
@[go_sem] theorem encUnit_ld (x : GUnit) : ldC (some true) 8 (encUnit x).cells = some (.d (encUnit x)) := by simp [encUnit_def, D.cells, ldC]
@[go_sem] theorem encUnit_okl (x : GUnit) : okD (encUnit x) ↔ okL [.int .i64 x.id.act, .int .i64 x.id.item, .int .i64 x.id.n, .int .i64 x.kind, .str x.label, .list (x.head.map encWord), .list (x.words.map encWord), .list (x.kids.map encUnit)] := by rw [encUnit_def]; simp only [okD]
@[go_sem] theorem encUnit_c0 (x : GUnit) : (AV.cells (.d (encUnit x)))[0]? = some (.d (.int .i64 x.id.act)) := by simp [encUnit_def, AV.cells]
@[go_sem] theorem encUnit_l0 (x : GUnit) : ldC (some false) 1 (encUnit x).cells = some (.d (.int .i64 x.id.act)) := by simp [encUnit_def, D.cells, ldC]
@[go_sem] theorem encUnit_p0 (x : GUnit) (v : Int) : putA (.d (encUnit x)) 0 (.d (.int .i64 v)) = .d (encUnit { x with id := { x.id with act := v } }) := by
  rw [encUnit_def, encUnit_def, putA_dagg _ _ _ (by simp [csz, AV.cells])]; simp [csz, AV.cells, mkA, allD]
@[go_sem] theorem encUnit_c1 (x : GUnit) : (AV.cells (.d (encUnit x)))[1]? = some (.d (.int .i64 x.id.item)) := by simp [encUnit_def, AV.cells]
@[go_sem] theorem encUnit_l1 (x : GUnit) : ldC (some false) 1 ((encUnit x).cells.drop 1) = some (.d (.int .i64 x.id.item)) := by simp [encUnit_def, D.cells, ldC]
@[go_sem] theorem encUnit_p1 (x : GUnit) (v : Int) : putA (.d (encUnit x)) 1 (.d (.int .i64 v)) = .d (encUnit { x with id := { x.id with item := v } }) := by
  rw [encUnit_def, encUnit_def, putA_dagg _ _ _ (by simp [csz, AV.cells])]; simp [csz, AV.cells, mkA, allD]
@[go_sem] theorem encUnit_c2 (x : GUnit) : (AV.cells (.d (encUnit x)))[2]? = some (.d (.int .i64 x.id.n)) := by simp [encUnit_def, AV.cells]
@[go_sem] theorem encUnit_l2 (x : GUnit) : ldC (some false) 1 ((encUnit x).cells.drop 2) = some (.d (.int .i64 x.id.n)) := by simp [encUnit_def, D.cells, ldC]
@[go_sem] theorem encUnit_p2 (x : GUnit) (v : Int) : putA (.d (encUnit x)) 2 (.d (.int .i64 v)) = .d (encUnit { x with id := { x.id with n := v } }) := by
  rw [encUnit_def, encUnit_def, putA_dagg _ _ _ (by simp [csz, AV.cells])]; simp [csz, AV.cells, mkA, allD]
@[go_sem] theorem encUnit_c3 (x : GUnit) : (AV.cells (.d (encUnit x)))[3]? = some (.d (.int .i64 x.kind)) := by simp [encUnit_def, AV.cells]
@[go_sem] theorem encUnit_l3 (x : GUnit) : ldC (some false) 1 ((encUnit x).cells.drop 3) = some (.d (.int .i64 x.kind)) := by simp [encUnit_def, D.cells, ldC]
@[go_sem] theorem encUnit_p3 (x : GUnit) (v : Int) : putA (.d (encUnit x)) 3 (.d (.int .i64 v)) = .d (encUnit { x with kind := v }) := by
  rw [encUnit_def, encUnit_def, putA_dagg _ _ _ (by simp [csz, AV.cells])]; simp [csz, AV.cells, mkA, allD]
@[go_sem] theorem encUnit_c4 (x : GUnit) : (AV.cells (.d (encUnit x)))[4]? = some (.d (.str x.label)) := by simp [encUnit_def, AV.cells]
@[go_sem] theorem encUnit_l4 (x : GUnit) : ldC (some false) 1 ((encUnit x).cells.drop 4) = some (.d (.str x.label)) := by simp [encUnit_def, D.cells, ldC]
@[go_sem] theorem encUnit_p4 (x : GUnit) (v : ByteArray) : putA (.d (encUnit x)) 4 (.d (.str v)) = .d (encUnit { x with label := v }) := by
  rw [encUnit_def, encUnit_def, putA_dagg _ _ _ (by simp [csz, AV.cells])]; simp [csz, AV.cells, mkA, allD]
@[go_sem] theorem encUnit_c5 (x : GUnit) : (AV.cells (.d (encUnit x)))[5]? = some (.d (.list (x.head.map encWord))) := by simp [encUnit_def, AV.cells]
@[go_sem] theorem encUnit_l5 (x : GUnit) : ldC (some false) 1 ((encUnit x).cells.drop 5) = some (.d (.list (x.head.map encWord))) := by simp [encUnit_def, D.cells, ldC]
@[go_sem] theorem encUnit_p5 (x : GUnit) (v : List GWord) : putA (.d (encUnit x)) 5 (.d (.list (v.map encWord))) = .d (encUnit { x with head := v }) := by
  rw [encUnit_def, encUnit_def, putA_dagg _ _ _ (by simp [csz, AV.cells])]; simp [csz, AV.cells, mkA, allD]
@[go_sem] theorem encUnit_c6 (x : GUnit) : (AV.cells (.d (encUnit x)))[6]? = some (.d (.list (x.words.map encWord))) := by simp [encUnit_def, AV.cells]
@[go_sem] theorem encUnit_l6 (x : GUnit) : ldC (some false) 1 ((encUnit x).cells.drop 6) = some (.d (.list (x.words.map encWord))) := by simp [encUnit_def, D.cells, ldC]
@[go_sem] theorem encUnit_p6 (x : GUnit) (v : List GWord) : putA (.d (encUnit x)) 6 (.d (.list (v.map encWord))) = .d (encUnit { x with words := v }) := by
  rw [encUnit_def, encUnit_def, putA_dagg _ _ _ (by simp [csz, AV.cells])]; simp [csz, AV.cells, mkA, allD]
@[go_sem] theorem encUnit_c7 (x : GUnit) : (AV.cells (.d (encUnit x)))[7]? = some (.d (.list (x.kids.map encUnit))) := by simp [encUnit_def, AV.cells]
@[go_sem] theorem encUnit_l7 (x : GUnit) : ldC (some false) 1 ((encUnit x).cells.drop 7) = some (.d (.list (x.kids.map encUnit))) := by simp [encUnit_def, D.cells, ldC]
@[go_sem] theorem encUnit_p7 (x : GUnit) (v : List GUnit) : putA (.d (encUnit x)) 7 (.d (.list (v.map encUnit))) = .d (encUnit { x with kids := v }) := by
  rw [encUnit_def, encUnit_def, putA_dagg _ _ _ (by simp [csz, AV.cells])]; simp [csz, AV.cells, mkA, allD]
@[go_sem] theorem encUnit_s0_3 (x : GUnit) : subA true (.d (encUnit x)) 0 3 = some (.d (encId x.id)) := by
  rw [encUnit_def, subA_aggD _ _ _ (by simp) (by simp)]; simp [mkA, allD, encId_def]
@[go_sem] theorem encUnit_ls0_3 (x : GUnit) : ldC (some true) 3 (encUnit x).cells = some (.d (encId x.id)) := by
  simp [encUnit_def, encId_def, D.cells, ldC]
@[go_sem] theorem encUnit_ps0_3 (x : GUnit) (v : GId) : putA (.d (encUnit x)) 0 (.d (encId v)) = .d (encUnit { x with id := v }) := by
  rw [encUnit_def, encUnit_def, encId_def, putA_dagg _ _ _ (by simp [csz, AV.cells])]; simp [csz, AV.cells, mkA, allD]

structure GItem where
  kind : Int
  at_ : List GStep
  to_ : List GStep
  where_ : Int
  nth : Int
  unit : GUnit
  old : List ByteArray
  new : List ByteArray
  label : ByteArray
  for_ : ByteArray
  start : GStart
  act : Int
  item : Int
  day : Int
  event : ByteArray
  by_ : List GItem

mutual
def encItem : GItem → D
  | ⟨kind, at_, to_, where_, nth, unit, old, new, label, for_, start, act, item, day, event, by_⟩ => .agg [.int .i64 kind, .list (at_.map encStep), .list (to_.map encStep), .int .i64 where_, .int .i64 nth, .int .i64 unit.id.act, .int .i64 unit.id.item, .int .i64 unit.id.n, .int .i64 unit.kind, .str unit.label, .list (unit.head.map encWord), .list (unit.words.map encWord), .list (unit.kids.map encUnit), .list (old.map .str), .list (new.map .str), .str label, .str for_, .int .i64 start.kind, .int .i64 start.day, .str start.event, .int .i64 act, .int .i64 item, .int .i64 day, .str event, .list (encItems by_)]
def encItems : List GItem → List D
  | [] => []
  | x :: l => encItem x :: encItems l
end
theorem encItems_map : ∀ l : List GItem, encItems l = l.map encItem
  | [] => by simp [encItems]
  | x :: l => by simp [encItems, encItems_map l]
theorem encItem_def (x : GItem) : encItem x = .agg [.int .i64 x.kind, .list (x.at_.map encStep), .list (x.to_.map encStep), .int .i64 x.where_, .int .i64 x.nth, .int .i64 x.unit.id.act, .int .i64 x.unit.id.item, .int .i64 x.unit.id.n, .int .i64 x.unit.kind, .str x.unit.label, .list (x.unit.head.map encWord), .list (x.unit.words.map encWord), .list (x.unit.kids.map encUnit), .list (x.old.map .str), .list (x.new.map .str), .str x.label, .str x.for_, .int .i64 x.start.kind, .int .i64 x.start.day, .str x.start.event, .int .i64 x.act, .int .i64 x.item, .int .i64 x.day, .str x.event, .list (x.by_.map encItem)] := by
  obtain ⟨kind, at_, to_, where_, nth, unit, old, new, label, for_, start, act, item, day, event, by_⟩ := x
  simp only [encItem, encItems_map]
@[go_sem] theorem encItem_len (x : GItem) : (encItem x).cells.length = 25 := by simp [encItem_def, D.cells]
@[go_sem] theorem encItem_ag (x : GItem) : isAg (.d (encItem x)) = true := by simp [encItem_def, isAg]
@[go_sem] theorem encItem_uni (l : List GItem) : uni 25 (l.map encItem) = true := by simp [uni, encItem_len]
@[go_sem] theorem encItem_ld (x : GItem) : ldC (some true) 25 (encItem x).cells = some (.d (encItem x)) := by simp [encItem_def, D.cells, ldC]
@[go_sem] theorem encItem_okl (x : GItem) : okD (encItem x) ↔ okL [.int .i64 x.kind, .list (x.at_.map encStep), .list (x.to_.map encStep), .int .i64 x.where_, .int .i64 x.nth, .int .i64 x.unit.id.act, .int .i64 x.unit.id.item, .int .i64 x.unit.id.n, .int .i64 x.unit.kind, .str x.unit.label, .list (x.unit.head.map encWord), .list (x.unit.words.map encWord), .list (x.unit.kids.map encUnit), .list (x.old.map .str), .list (x.new.map .str), .str x.label, .str x.for_, .int .i64 x.start.kind, .int .i64 x.start.day, .str x.start.event, .int .i64 x.act, .int .i64 x.item, .int .i64 x.day, .str x.event, .list (x.by_.map encItem)] := by rw [encItem_def]; simp only [okD]
@[go_sem] theorem encItem_c0 (x : GItem) : (AV.cells (.d (encItem x)))[0]? = some (.d (.int .i64 x.kind)) := by simp [encItem_def, AV.cells]
@[go_sem] theorem encItem_l0 (x : GItem) : ldC (some false) 1 (encItem x).cells = some (.d (.int .i64 x.kind)) := by simp [encItem_def, D.cells, ldC]
@[go_sem] theorem encItem_p0 (x : GItem) (v : Int) : putA (.d (encItem x)) 0 (.d (.int .i64 v)) = .d (encItem { x with kind := v }) := by
  rw [encItem_def, encItem_def, putA_dagg _ _ _ (by simp [csz, AV.cells])]; simp [csz, AV.cells, mkA, allD]
@[go_sem] theorem encItem_c1 (x : GItem) : (AV.cells (.d (encItem x)))[1]? = some (.d (.list (x.at_.map encStep))) := by simp [encItem_def, AV.cells]
@[go_sem] theorem encItem_l1 (x : GItem) : ldC (some false) 1 ((encItem x).cells.drop 1) = some (.d (.list (x.at_.map encStep))) := by simp [encItem_def, D.cells, ldC]
@[go_sem] theorem encItem_p1 (x : GItem) (v : List GStep) : putA (.d (encItem x)) 1 (.d (.list (v.map encStep))) = .d (encItem { x with at_ := v }) := by
  rw [encItem_def, encItem_def, putA_dagg _ _ _ (by simp [csz, AV.cells])]; simp [csz, AV.cells, mkA, allD]
@[go_sem] theorem encItem_c2 (x : GItem) : (AV.cells (.d (encItem x)))[2]? = some (.d (.list (x.to_.map encStep))) := by simp [encItem_def, AV.cells]
@[go_sem] theorem encItem_l2 (x : GItem) : ldC (some false) 1 ((encItem x).cells.drop 2) = some (.d (.list (x.to_.map encStep))) := by simp [encItem_def, D.cells, ldC]
@[go_sem] theorem encItem_p2 (x : GItem) (v : List GStep) : putA (.d (encItem x)) 2 (.d (.list (v.map encStep))) = .d (encItem { x with to_ := v }) := by
  rw [encItem_def, encItem_def, putA_dagg _ _ _ (by simp [csz, AV.cells])]; simp [csz, AV.cells, mkA, allD]
@[go_sem] theorem encItem_c3 (x : GItem) : (AV.cells (.d (encItem x)))[3]? = some (.d (.int .i64 x.where_)) := by simp [encItem_def, AV.cells]
@[go_sem] theorem encItem_l3 (x : GItem) : ldC (some false) 1 ((encItem x).cells.drop 3) = some (.d (.int .i64 x.where_)) := by simp [encItem_def, D.cells, ldC]
@[go_sem] theorem encItem_p3 (x : GItem) (v : Int) : putA (.d (encItem x)) 3 (.d (.int .i64 v)) = .d (encItem { x with where_ := v }) := by
  rw [encItem_def, encItem_def, putA_dagg _ _ _ (by simp [csz, AV.cells])]; simp [csz, AV.cells, mkA, allD]
@[go_sem] theorem encItem_c4 (x : GItem) : (AV.cells (.d (encItem x)))[4]? = some (.d (.int .i64 x.nth)) := by simp [encItem_def, AV.cells]
@[go_sem] theorem encItem_l4 (x : GItem) : ldC (some false) 1 ((encItem x).cells.drop 4) = some (.d (.int .i64 x.nth)) := by simp [encItem_def, D.cells, ldC]
@[go_sem] theorem encItem_p4 (x : GItem) (v : Int) : putA (.d (encItem x)) 4 (.d (.int .i64 v)) = .d (encItem { x with nth := v }) := by
  rw [encItem_def, encItem_def, putA_dagg _ _ _ (by simp [csz, AV.cells])]; simp [csz, AV.cells, mkA, allD]
@[go_sem] theorem encItem_c5 (x : GItem) : (AV.cells (.d (encItem x)))[5]? = some (.d (.int .i64 x.unit.id.act)) := by simp [encItem_def, AV.cells]
@[go_sem] theorem encItem_l5 (x : GItem) : ldC (some false) 1 ((encItem x).cells.drop 5) = some (.d (.int .i64 x.unit.id.act)) := by simp [encItem_def, D.cells, ldC]
@[go_sem] theorem encItem_p5 (x : GItem) (v : Int) : putA (.d (encItem x)) 5 (.d (.int .i64 v)) = .d (encItem { x with unit := { x.unit with id := { x.unit.id with act := v } } }) := by
  rw [encItem_def, encItem_def, putA_dagg _ _ _ (by simp [csz, AV.cells])]; simp [csz, AV.cells, mkA, allD]
@[go_sem] theorem encItem_c6 (x : GItem) : (AV.cells (.d (encItem x)))[6]? = some (.d (.int .i64 x.unit.id.item)) := by simp [encItem_def, AV.cells]
@[go_sem] theorem encItem_l6 (x : GItem) : ldC (some false) 1 ((encItem x).cells.drop 6) = some (.d (.int .i64 x.unit.id.item)) := by simp [encItem_def, D.cells, ldC]
@[go_sem] theorem encItem_p6 (x : GItem) (v : Int) : putA (.d (encItem x)) 6 (.d (.int .i64 v)) = .d (encItem { x with unit := { x.unit with id := { x.unit.id with item := v } } }) := by
  rw [encItem_def, encItem_def, putA_dagg _ _ _ (by simp [csz, AV.cells])]; simp [csz, AV.cells, mkA, allD]
@[go_sem] theorem encItem_c7 (x : GItem) : (AV.cells (.d (encItem x)))[7]? = some (.d (.int .i64 x.unit.id.n)) := by simp [encItem_def, AV.cells]
@[go_sem] theorem encItem_l7 (x : GItem) : ldC (some false) 1 ((encItem x).cells.drop 7) = some (.d (.int .i64 x.unit.id.n)) := by simp [encItem_def, D.cells, ldC]
@[go_sem] theorem encItem_p7 (x : GItem) (v : Int) : putA (.d (encItem x)) 7 (.d (.int .i64 v)) = .d (encItem { x with unit := { x.unit with id := { x.unit.id with n := v } } }) := by
  rw [encItem_def, encItem_def, putA_dagg _ _ _ (by simp [csz, AV.cells])]; simp [csz, AV.cells, mkA, allD]
@[go_sem] theorem encItem_c8 (x : GItem) : (AV.cells (.d (encItem x)))[8]? = some (.d (.int .i64 x.unit.kind)) := by simp [encItem_def, AV.cells]
@[go_sem] theorem encItem_l8 (x : GItem) : ldC (some false) 1 ((encItem x).cells.drop 8) = some (.d (.int .i64 x.unit.kind)) := by simp [encItem_def, D.cells, ldC]
@[go_sem] theorem encItem_p8 (x : GItem) (v : Int) : putA (.d (encItem x)) 8 (.d (.int .i64 v)) = .d (encItem { x with unit := { x.unit with kind := v } }) := by
  rw [encItem_def, encItem_def, putA_dagg _ _ _ (by simp [csz, AV.cells])]; simp [csz, AV.cells, mkA, allD]
@[go_sem] theorem encItem_c9 (x : GItem) : (AV.cells (.d (encItem x)))[9]? = some (.d (.str x.unit.label)) := by simp [encItem_def, AV.cells]
@[go_sem] theorem encItem_l9 (x : GItem) : ldC (some false) 1 ((encItem x).cells.drop 9) = some (.d (.str x.unit.label)) := by simp [encItem_def, D.cells, ldC]
@[go_sem] theorem encItem_p9 (x : GItem) (v : ByteArray) : putA (.d (encItem x)) 9 (.d (.str v)) = .d (encItem { x with unit := { x.unit with label := v } }) := by
  rw [encItem_def, encItem_def, putA_dagg _ _ _ (by simp [csz, AV.cells])]; simp [csz, AV.cells, mkA, allD]
@[go_sem] theorem encItem_c10 (x : GItem) : (AV.cells (.d (encItem x)))[10]? = some (.d (.list (x.unit.head.map encWord))) := by simp [encItem_def, AV.cells]
@[go_sem] theorem encItem_l10 (x : GItem) : ldC (some false) 1 ((encItem x).cells.drop 10) = some (.d (.list (x.unit.head.map encWord))) := by simp [encItem_def, D.cells, ldC]
@[go_sem] theorem encItem_p10 (x : GItem) (v : List GWord) : putA (.d (encItem x)) 10 (.d (.list (v.map encWord))) = .d (encItem { x with unit := { x.unit with head := v } }) := by
  rw [encItem_def, encItem_def, putA_dagg _ _ _ (by simp [csz, AV.cells])]; simp [csz, AV.cells, mkA, allD]
@[go_sem] theorem encItem_c11 (x : GItem) : (AV.cells (.d (encItem x)))[11]? = some (.d (.list (x.unit.words.map encWord))) := by simp [encItem_def, AV.cells]
@[go_sem] theorem encItem_l11 (x : GItem) : ldC (some false) 1 ((encItem x).cells.drop 11) = some (.d (.list (x.unit.words.map encWord))) := by simp [encItem_def, D.cells, ldC]
@[go_sem] theorem encItem_p11 (x : GItem) (v : List GWord) : putA (.d (encItem x)) 11 (.d (.list (v.map encWord))) = .d (encItem { x with unit := { x.unit with words := v } }) := by
  rw [encItem_def, encItem_def, putA_dagg _ _ _ (by simp [csz, AV.cells])]; simp [csz, AV.cells, mkA, allD]
@[go_sem] theorem encItem_c12 (x : GItem) : (AV.cells (.d (encItem x)))[12]? = some (.d (.list (x.unit.kids.map encUnit))) := by simp [encItem_def, AV.cells]
@[go_sem] theorem encItem_l12 (x : GItem) : ldC (some false) 1 ((encItem x).cells.drop 12) = some (.d (.list (x.unit.kids.map encUnit))) := by simp [encItem_def, D.cells, ldC]
@[go_sem] theorem encItem_p12 (x : GItem) (v : List GUnit) : putA (.d (encItem x)) 12 (.d (.list (v.map encUnit))) = .d (encItem { x with unit := { x.unit with kids := v } }) := by
  rw [encItem_def, encItem_def, putA_dagg _ _ _ (by simp [csz, AV.cells])]; simp [csz, AV.cells, mkA, allD]
@[go_sem] theorem encItem_c13 (x : GItem) : (AV.cells (.d (encItem x)))[13]? = some (.d (.list (x.old.map .str))) := by simp [encItem_def, AV.cells]
@[go_sem] theorem encItem_l13 (x : GItem) : ldC (some false) 1 ((encItem x).cells.drop 13) = some (.d (.list (x.old.map .str))) := by simp [encItem_def, D.cells, ldC]
@[go_sem] theorem encItem_p13 (x : GItem) (v : List ByteArray) : putA (.d (encItem x)) 13 (.d (.list (v.map .str))) = .d (encItem { x with old := v }) := by
  rw [encItem_def, encItem_def, putA_dagg _ _ _ (by simp [csz, AV.cells])]; simp [csz, AV.cells, mkA, allD]
@[go_sem] theorem encItem_c14 (x : GItem) : (AV.cells (.d (encItem x)))[14]? = some (.d (.list (x.new.map .str))) := by simp [encItem_def, AV.cells]
@[go_sem] theorem encItem_l14 (x : GItem) : ldC (some false) 1 ((encItem x).cells.drop 14) = some (.d (.list (x.new.map .str))) := by simp [encItem_def, D.cells, ldC]
@[go_sem] theorem encItem_p14 (x : GItem) (v : List ByteArray) : putA (.d (encItem x)) 14 (.d (.list (v.map .str))) = .d (encItem { x with new := v }) := by
  rw [encItem_def, encItem_def, putA_dagg _ _ _ (by simp [csz, AV.cells])]; simp [csz, AV.cells, mkA, allD]
@[go_sem] theorem encItem_c15 (x : GItem) : (AV.cells (.d (encItem x)))[15]? = some (.d (.str x.label)) := by simp [encItem_def, AV.cells]
@[go_sem] theorem encItem_l15 (x : GItem) : ldC (some false) 1 ((encItem x).cells.drop 15) = some (.d (.str x.label)) := by simp [encItem_def, D.cells, ldC]
@[go_sem] theorem encItem_p15 (x : GItem) (v : ByteArray) : putA (.d (encItem x)) 15 (.d (.str v)) = .d (encItem { x with label := v }) := by
  rw [encItem_def, encItem_def, putA_dagg _ _ _ (by simp [csz, AV.cells])]; simp [csz, AV.cells, mkA, allD]
@[go_sem] theorem encItem_c16 (x : GItem) : (AV.cells (.d (encItem x)))[16]? = some (.d (.str x.for_)) := by simp [encItem_def, AV.cells]
@[go_sem] theorem encItem_l16 (x : GItem) : ldC (some false) 1 ((encItem x).cells.drop 16) = some (.d (.str x.for_)) := by simp [encItem_def, D.cells, ldC]
@[go_sem] theorem encItem_p16 (x : GItem) (v : ByteArray) : putA (.d (encItem x)) 16 (.d (.str v)) = .d (encItem { x with for_ := v }) := by
  rw [encItem_def, encItem_def, putA_dagg _ _ _ (by simp [csz, AV.cells])]; simp [csz, AV.cells, mkA, allD]
@[go_sem] theorem encItem_c17 (x : GItem) : (AV.cells (.d (encItem x)))[17]? = some (.d (.int .i64 x.start.kind)) := by simp [encItem_def, AV.cells]
@[go_sem] theorem encItem_l17 (x : GItem) : ldC (some false) 1 ((encItem x).cells.drop 17) = some (.d (.int .i64 x.start.kind)) := by simp [encItem_def, D.cells, ldC]
@[go_sem] theorem encItem_p17 (x : GItem) (v : Int) : putA (.d (encItem x)) 17 (.d (.int .i64 v)) = .d (encItem { x with start := { x.start with kind := v } }) := by
  rw [encItem_def, encItem_def, putA_dagg _ _ _ (by simp [csz, AV.cells])]; simp [csz, AV.cells, mkA, allD]
@[go_sem] theorem encItem_c18 (x : GItem) : (AV.cells (.d (encItem x)))[18]? = some (.d (.int .i64 x.start.day)) := by simp [encItem_def, AV.cells]
@[go_sem] theorem encItem_l18 (x : GItem) : ldC (some false) 1 ((encItem x).cells.drop 18) = some (.d (.int .i64 x.start.day)) := by simp [encItem_def, D.cells, ldC]
@[go_sem] theorem encItem_p18 (x : GItem) (v : Int) : putA (.d (encItem x)) 18 (.d (.int .i64 v)) = .d (encItem { x with start := { x.start with day := v } }) := by
  rw [encItem_def, encItem_def, putA_dagg _ _ _ (by simp [csz, AV.cells])]; simp [csz, AV.cells, mkA, allD]
@[go_sem] theorem encItem_c19 (x : GItem) : (AV.cells (.d (encItem x)))[19]? = some (.d (.str x.start.event)) := by simp [encItem_def, AV.cells]
@[go_sem] theorem encItem_l19 (x : GItem) : ldC (some false) 1 ((encItem x).cells.drop 19) = some (.d (.str x.start.event)) := by simp [encItem_def, D.cells, ldC]
@[go_sem] theorem encItem_p19 (x : GItem) (v : ByteArray) : putA (.d (encItem x)) 19 (.d (.str v)) = .d (encItem { x with start := { x.start with event := v } }) := by
  rw [encItem_def, encItem_def, putA_dagg _ _ _ (by simp [csz, AV.cells])]; simp [csz, AV.cells, mkA, allD]
@[go_sem] theorem encItem_c20 (x : GItem) : (AV.cells (.d (encItem x)))[20]? = some (.d (.int .i64 x.act)) := by simp [encItem_def, AV.cells]
@[go_sem] theorem encItem_l20 (x : GItem) : ldC (some false) 1 ((encItem x).cells.drop 20) = some (.d (.int .i64 x.act)) := by simp [encItem_def, D.cells, ldC]
@[go_sem] theorem encItem_p20 (x : GItem) (v : Int) : putA (.d (encItem x)) 20 (.d (.int .i64 v)) = .d (encItem { x with act := v }) := by
  rw [encItem_def, encItem_def, putA_dagg _ _ _ (by simp [csz, AV.cells])]; simp [csz, AV.cells, mkA, allD]
@[go_sem] theorem encItem_c21 (x : GItem) : (AV.cells (.d (encItem x)))[21]? = some (.d (.int .i64 x.item)) := by simp [encItem_def, AV.cells]
@[go_sem] theorem encItem_l21 (x : GItem) : ldC (some false) 1 ((encItem x).cells.drop 21) = some (.d (.int .i64 x.item)) := by simp [encItem_def, D.cells, ldC]
@[go_sem] theorem encItem_p21 (x : GItem) (v : Int) : putA (.d (encItem x)) 21 (.d (.int .i64 v)) = .d (encItem { x with item := v }) := by
  rw [encItem_def, encItem_def, putA_dagg _ _ _ (by simp [csz, AV.cells])]; simp [csz, AV.cells, mkA, allD]
@[go_sem] theorem encItem_c22 (x : GItem) : (AV.cells (.d (encItem x)))[22]? = some (.d (.int .i64 x.day)) := by simp [encItem_def, AV.cells]
@[go_sem] theorem encItem_l22 (x : GItem) : ldC (some false) 1 ((encItem x).cells.drop 22) = some (.d (.int .i64 x.day)) := by simp [encItem_def, D.cells, ldC]
@[go_sem] theorem encItem_p22 (x : GItem) (v : Int) : putA (.d (encItem x)) 22 (.d (.int .i64 v)) = .d (encItem { x with day := v }) := by
  rw [encItem_def, encItem_def, putA_dagg _ _ _ (by simp [csz, AV.cells])]; simp [csz, AV.cells, mkA, allD]
@[go_sem] theorem encItem_c23 (x : GItem) : (AV.cells (.d (encItem x)))[23]? = some (.d (.str x.event)) := by simp [encItem_def, AV.cells]
@[go_sem] theorem encItem_l23 (x : GItem) : ldC (some false) 1 ((encItem x).cells.drop 23) = some (.d (.str x.event)) := by simp [encItem_def, D.cells, ldC]
@[go_sem] theorem encItem_p23 (x : GItem) (v : ByteArray) : putA (.d (encItem x)) 23 (.d (.str v)) = .d (encItem { x with event := v }) := by
  rw [encItem_def, encItem_def, putA_dagg _ _ _ (by simp [csz, AV.cells])]; simp [csz, AV.cells, mkA, allD]
@[go_sem] theorem encItem_c24 (x : GItem) : (AV.cells (.d (encItem x)))[24]? = some (.d (.list (x.by_.map encItem))) := by simp [encItem_def, AV.cells]
@[go_sem] theorem encItem_l24 (x : GItem) : ldC (some false) 1 ((encItem x).cells.drop 24) = some (.d (.list (x.by_.map encItem))) := by simp [encItem_def, D.cells, ldC]
@[go_sem] theorem encItem_p24 (x : GItem) (v : List GItem) : putA (.d (encItem x)) 24 (.d (.list (v.map encItem))) = .d (encItem { x with by_ := v }) := by
  rw [encItem_def, encItem_def, putA_dagg _ _ _ (by simp [csz, AV.cells])]; simp [csz, AV.cells, mkA, allD]
@[go_sem] theorem encItem_s5_8 (x : GItem) : subA true (.d (encItem x)) 5 8 = some (.d (encUnit x.unit)) := by
  rw [encItem_def, subA_aggD _ _ _ (by simp) (by simp)]; simp [mkA, allD, encUnit_def]
@[go_sem] theorem encItem_ls5_8 (x : GItem) : ldC (some true) 8 ((encItem x).cells.drop 5) = some (.d (encUnit x.unit)) := by
  simp [encItem_def, encUnit_def, D.cells, ldC]
@[go_sem] theorem encItem_ps5_8 (x : GItem) (v : GUnit) : putA (.d (encItem x)) 5 (.d (encUnit v)) = .d (encItem { x with unit := v }) := by
  rw [encItem_def, encItem_def, encUnit_def, putA_dagg _ _ _ (by simp [csz, AV.cells])]; simp [csz, AV.cells, mkA, allD]
@[go_sem] theorem encItem_s5_3 (x : GItem) : subA true (.d (encItem x)) 5 3 = some (.d (encId x.unit.id)) := by
  rw [encItem_def, subA_aggD _ _ _ (by simp) (by simp)]; simp [mkA, allD, encId_def]
@[go_sem] theorem encItem_ls5_3 (x : GItem) : ldC (some true) 3 ((encItem x).cells.drop 5) = some (.d (encId x.unit.id)) := by
  simp [encItem_def, encId_def, D.cells, ldC]
@[go_sem] theorem encItem_ps5_3 (x : GItem) (v : GId) : putA (.d (encItem x)) 5 (.d (encId v)) = .d (encItem { x with unit := { x.unit with id := v } }) := by
  rw [encItem_def, encItem_def, encId_def, putA_dagg _ _ _ (by simp [csz, AV.cells])]; simp [csz, AV.cells, mkA, allD]
@[go_sem] theorem encItem_s17_3 (x : GItem) : subA true (.d (encItem x)) 17 3 = some (.d (encStart x.start)) := by
  rw [encItem_def, subA_aggD _ _ _ (by simp) (by simp)]; simp [mkA, allD, encStart_def]
@[go_sem] theorem encItem_ls17_3 (x : GItem) : ldC (some true) 3 ((encItem x).cells.drop 17) = some (.d (encStart x.start)) := by
  simp [encItem_def, encStart_def, D.cells, ldC]
@[go_sem] theorem encItem_ps17_3 (x : GItem) (v : GStart) : putA (.d (encItem x)) 17 (.d (encStart v)) = .d (encItem { x with start := v }) := by
  rw [encItem_def, encItem_def, encStart_def, putA_dagg _ _ _ (by simp [csz, AV.cells])]; simp [csz, AV.cells, mkA, allD]

structure GDeed where
  act : Int
  item : Int
  day : Int
  it : GItem

def encDeed (x : GDeed) : D := .agg [.int .i64 x.act, .int .i64 x.item, .int .i64 x.day, .int .i64 x.it.kind, .list (x.it.at_.map encStep), .list (x.it.to_.map encStep), .int .i64 x.it.where_, .int .i64 x.it.nth, .int .i64 x.it.unit.id.act, .int .i64 x.it.unit.id.item, .int .i64 x.it.unit.id.n, .int .i64 x.it.unit.kind, .str x.it.unit.label, .list (x.it.unit.head.map encWord), .list (x.it.unit.words.map encWord), .list (x.it.unit.kids.map encUnit), .list (x.it.old.map .str), .list (x.it.new.map .str), .str x.it.label, .str x.it.for_, .int .i64 x.it.start.kind, .int .i64 x.it.start.day, .str x.it.start.event, .int .i64 x.it.act, .int .i64 x.it.item, .int .i64 x.it.day, .str x.it.event, .list (x.it.by_.map encItem)]
theorem encDeed_def (x : GDeed) : encDeed x = .agg [.int .i64 x.act, .int .i64 x.item, .int .i64 x.day, .int .i64 x.it.kind, .list (x.it.at_.map encStep), .list (x.it.to_.map encStep), .int .i64 x.it.where_, .int .i64 x.it.nth, .int .i64 x.it.unit.id.act, .int .i64 x.it.unit.id.item, .int .i64 x.it.unit.id.n, .int .i64 x.it.unit.kind, .str x.it.unit.label, .list (x.it.unit.head.map encWord), .list (x.it.unit.words.map encWord), .list (x.it.unit.kids.map encUnit), .list (x.it.old.map .str), .list (x.it.new.map .str), .str x.it.label, .str x.it.for_, .int .i64 x.it.start.kind, .int .i64 x.it.start.day, .str x.it.start.event, .int .i64 x.it.act, .int .i64 x.it.item, .int .i64 x.it.day, .str x.it.event, .list (x.it.by_.map encItem)] := rfl
@[go_sem] theorem encDeed_len (x : GDeed) : (encDeed x).cells.length = 28 := by simp [encDeed_def, D.cells]
@[go_sem] theorem encDeed_ag (x : GDeed) : isAg (.d (encDeed x)) = true := by simp [encDeed_def, isAg]
@[go_sem] theorem encDeed_uni (l : List GDeed) : uni 28 (l.map encDeed) = true := by simp [uni, encDeed_len]
@[go_sem] theorem encDeed_ld (x : GDeed) : ldC (some true) 28 (encDeed x).cells = some (.d (encDeed x)) := by simp [encDeed_def, D.cells, ldC]
@[go_sem] theorem encDeed_okl (x : GDeed) : okD (encDeed x) ↔ okL [.int .i64 x.act, .int .i64 x.item, .int .i64 x.day, .int .i64 x.it.kind, .list (x.it.at_.map encStep), .list (x.it.to_.map encStep), .int .i64 x.it.where_, .int .i64 x.it.nth, .int .i64 x.it.unit.id.act, .int .i64 x.it.unit.id.item, .int .i64 x.it.unit.id.n, .int .i64 x.it.unit.kind, .str x.it.unit.label, .list (x.it.unit.head.map encWord), .list (x.it.unit.words.map encWord), .list (x.it.unit.kids.map encUnit), .list (x.it.old.map .str), .list (x.it.new.map .str), .str x.it.label, .str x.it.for_, .int .i64 x.it.start.kind, .int .i64 x.it.start.day, .str x.it.start.event, .int .i64 x.it.act, .int .i64 x.it.item, .int .i64 x.it.day, .str x.it.event, .list (x.it.by_.map encItem)] := by rw [encDeed_def]; simp only [okD]
@[go_sem] theorem encDeed_c0 (x : GDeed) : (AV.cells (.d (encDeed x)))[0]? = some (.d (.int .i64 x.act)) := by simp [encDeed_def, AV.cells]
@[go_sem] theorem encDeed_l0 (x : GDeed) : ldC (some false) 1 (encDeed x).cells = some (.d (.int .i64 x.act)) := by simp [encDeed_def, D.cells, ldC]
@[go_sem] theorem encDeed_p0 (x : GDeed) (v : Int) : putA (.d (encDeed x)) 0 (.d (.int .i64 v)) = .d (encDeed { x with act := v }) := by
  rw [encDeed_def, encDeed_def, putA_dagg _ _ _ (by simp [csz, AV.cells])]; simp [csz, AV.cells, mkA, allD]
@[go_sem] theorem encDeed_c1 (x : GDeed) : (AV.cells (.d (encDeed x)))[1]? = some (.d (.int .i64 x.item)) := by simp [encDeed_def, AV.cells]
@[go_sem] theorem encDeed_l1 (x : GDeed) : ldC (some false) 1 ((encDeed x).cells.drop 1) = some (.d (.int .i64 x.item)) := by simp [encDeed_def, D.cells, ldC]
@[go_sem] theorem encDeed_p1 (x : GDeed) (v : Int) : putA (.d (encDeed x)) 1 (.d (.int .i64 v)) = .d (encDeed { x with item := v }) := by
  rw [encDeed_def, encDeed_def, putA_dagg _ _ _ (by simp [csz, AV.cells])]; simp [csz, AV.cells, mkA, allD]
@[go_sem] theorem encDeed_c2 (x : GDeed) : (AV.cells (.d (encDeed x)))[2]? = some (.d (.int .i64 x.day)) := by simp [encDeed_def, AV.cells]
@[go_sem] theorem encDeed_l2 (x : GDeed) : ldC (some false) 1 ((encDeed x).cells.drop 2) = some (.d (.int .i64 x.day)) := by simp [encDeed_def, D.cells, ldC]
@[go_sem] theorem encDeed_p2 (x : GDeed) (v : Int) : putA (.d (encDeed x)) 2 (.d (.int .i64 v)) = .d (encDeed { x with day := v }) := by
  rw [encDeed_def, encDeed_def, putA_dagg _ _ _ (by simp [csz, AV.cells])]; simp [csz, AV.cells, mkA, allD]
@[go_sem] theorem encDeed_c3 (x : GDeed) : (AV.cells (.d (encDeed x)))[3]? = some (.d (.int .i64 x.it.kind)) := by simp [encDeed_def, AV.cells]
@[go_sem] theorem encDeed_l3 (x : GDeed) : ldC (some false) 1 ((encDeed x).cells.drop 3) = some (.d (.int .i64 x.it.kind)) := by simp [encDeed_def, D.cells, ldC]
@[go_sem] theorem encDeed_p3 (x : GDeed) (v : Int) : putA (.d (encDeed x)) 3 (.d (.int .i64 v)) = .d (encDeed { x with it := { x.it with kind := v } }) := by
  rw [encDeed_def, encDeed_def, putA_dagg _ _ _ (by simp [csz, AV.cells])]; simp [csz, AV.cells, mkA, allD]
@[go_sem] theorem encDeed_c4 (x : GDeed) : (AV.cells (.d (encDeed x)))[4]? = some (.d (.list (x.it.at_.map encStep))) := by simp [encDeed_def, AV.cells]
@[go_sem] theorem encDeed_l4 (x : GDeed) : ldC (some false) 1 ((encDeed x).cells.drop 4) = some (.d (.list (x.it.at_.map encStep))) := by simp [encDeed_def, D.cells, ldC]
@[go_sem] theorem encDeed_p4 (x : GDeed) (v : List GStep) : putA (.d (encDeed x)) 4 (.d (.list (v.map encStep))) = .d (encDeed { x with it := { x.it with at_ := v } }) := by
  rw [encDeed_def, encDeed_def, putA_dagg _ _ _ (by simp [csz, AV.cells])]; simp [csz, AV.cells, mkA, allD]
@[go_sem] theorem encDeed_c5 (x : GDeed) : (AV.cells (.d (encDeed x)))[5]? = some (.d (.list (x.it.to_.map encStep))) := by simp [encDeed_def, AV.cells]
@[go_sem] theorem encDeed_l5 (x : GDeed) : ldC (some false) 1 ((encDeed x).cells.drop 5) = some (.d (.list (x.it.to_.map encStep))) := by simp [encDeed_def, D.cells, ldC]
@[go_sem] theorem encDeed_p5 (x : GDeed) (v : List GStep) : putA (.d (encDeed x)) 5 (.d (.list (v.map encStep))) = .d (encDeed { x with it := { x.it with to_ := v } }) := by
  rw [encDeed_def, encDeed_def, putA_dagg _ _ _ (by simp [csz, AV.cells])]; simp [csz, AV.cells, mkA, allD]
@[go_sem] theorem encDeed_c6 (x : GDeed) : (AV.cells (.d (encDeed x)))[6]? = some (.d (.int .i64 x.it.where_)) := by simp [encDeed_def, AV.cells]
@[go_sem] theorem encDeed_l6 (x : GDeed) : ldC (some false) 1 ((encDeed x).cells.drop 6) = some (.d (.int .i64 x.it.where_)) := by simp [encDeed_def, D.cells, ldC]
@[go_sem] theorem encDeed_p6 (x : GDeed) (v : Int) : putA (.d (encDeed x)) 6 (.d (.int .i64 v)) = .d (encDeed { x with it := { x.it with where_ := v } }) := by
  rw [encDeed_def, encDeed_def, putA_dagg _ _ _ (by simp [csz, AV.cells])]; simp [csz, AV.cells, mkA, allD]
@[go_sem] theorem encDeed_c7 (x : GDeed) : (AV.cells (.d (encDeed x)))[7]? = some (.d (.int .i64 x.it.nth)) := by simp [encDeed_def, AV.cells]
@[go_sem] theorem encDeed_l7 (x : GDeed) : ldC (some false) 1 ((encDeed x).cells.drop 7) = some (.d (.int .i64 x.it.nth)) := by simp [encDeed_def, D.cells, ldC]
@[go_sem] theorem encDeed_p7 (x : GDeed) (v : Int) : putA (.d (encDeed x)) 7 (.d (.int .i64 v)) = .d (encDeed { x with it := { x.it with nth := v } }) := by
  rw [encDeed_def, encDeed_def, putA_dagg _ _ _ (by simp [csz, AV.cells])]; simp [csz, AV.cells, mkA, allD]
@[go_sem] theorem encDeed_c8 (x : GDeed) : (AV.cells (.d (encDeed x)))[8]? = some (.d (.int .i64 x.it.unit.id.act)) := by simp [encDeed_def, AV.cells]
@[go_sem] theorem encDeed_l8 (x : GDeed) : ldC (some false) 1 ((encDeed x).cells.drop 8) = some (.d (.int .i64 x.it.unit.id.act)) := by simp [encDeed_def, D.cells, ldC]
@[go_sem] theorem encDeed_p8 (x : GDeed) (v : Int) : putA (.d (encDeed x)) 8 (.d (.int .i64 v)) = .d (encDeed { x with it := { x.it with unit := { x.it.unit with id := { x.it.unit.id with act := v } } } }) := by
  rw [encDeed_def, encDeed_def, putA_dagg _ _ _ (by simp [csz, AV.cells])]; simp [csz, AV.cells, mkA, allD]
@[go_sem] theorem encDeed_c9 (x : GDeed) : (AV.cells (.d (encDeed x)))[9]? = some (.d (.int .i64 x.it.unit.id.item)) := by simp [encDeed_def, AV.cells]
@[go_sem] theorem encDeed_l9 (x : GDeed) : ldC (some false) 1 ((encDeed x).cells.drop 9) = some (.d (.int .i64 x.it.unit.id.item)) := by simp [encDeed_def, D.cells, ldC]
@[go_sem] theorem encDeed_p9 (x : GDeed) (v : Int) : putA (.d (encDeed x)) 9 (.d (.int .i64 v)) = .d (encDeed { x with it := { x.it with unit := { x.it.unit with id := { x.it.unit.id with item := v } } } }) := by
  rw [encDeed_def, encDeed_def, putA_dagg _ _ _ (by simp [csz, AV.cells])]; simp [csz, AV.cells, mkA, allD]
@[go_sem] theorem encDeed_c10 (x : GDeed) : (AV.cells (.d (encDeed x)))[10]? = some (.d (.int .i64 x.it.unit.id.n)) := by simp [encDeed_def, AV.cells]
@[go_sem] theorem encDeed_l10 (x : GDeed) : ldC (some false) 1 ((encDeed x).cells.drop 10) = some (.d (.int .i64 x.it.unit.id.n)) := by simp [encDeed_def, D.cells, ldC]
@[go_sem] theorem encDeed_p10 (x : GDeed) (v : Int) : putA (.d (encDeed x)) 10 (.d (.int .i64 v)) = .d (encDeed { x with it := { x.it with unit := { x.it.unit with id := { x.it.unit.id with n := v } } } }) := by
  rw [encDeed_def, encDeed_def, putA_dagg _ _ _ (by simp [csz, AV.cells])]; simp [csz, AV.cells, mkA, allD]
@[go_sem] theorem encDeed_c11 (x : GDeed) : (AV.cells (.d (encDeed x)))[11]? = some (.d (.int .i64 x.it.unit.kind)) := by simp [encDeed_def, AV.cells]
@[go_sem] theorem encDeed_l11 (x : GDeed) : ldC (some false) 1 ((encDeed x).cells.drop 11) = some (.d (.int .i64 x.it.unit.kind)) := by simp [encDeed_def, D.cells, ldC]
@[go_sem] theorem encDeed_p11 (x : GDeed) (v : Int) : putA (.d (encDeed x)) 11 (.d (.int .i64 v)) = .d (encDeed { x with it := { x.it with unit := { x.it.unit with kind := v } } }) := by
  rw [encDeed_def, encDeed_def, putA_dagg _ _ _ (by simp [csz, AV.cells])]; simp [csz, AV.cells, mkA, allD]
@[go_sem] theorem encDeed_c12 (x : GDeed) : (AV.cells (.d (encDeed x)))[12]? = some (.d (.str x.it.unit.label)) := by simp [encDeed_def, AV.cells]
@[go_sem] theorem encDeed_l12 (x : GDeed) : ldC (some false) 1 ((encDeed x).cells.drop 12) = some (.d (.str x.it.unit.label)) := by simp [encDeed_def, D.cells, ldC]
@[go_sem] theorem encDeed_p12 (x : GDeed) (v : ByteArray) : putA (.d (encDeed x)) 12 (.d (.str v)) = .d (encDeed { x with it := { x.it with unit := { x.it.unit with label := v } } }) := by
  rw [encDeed_def, encDeed_def, putA_dagg _ _ _ (by simp [csz, AV.cells])]; simp [csz, AV.cells, mkA, allD]
@[go_sem] theorem encDeed_c13 (x : GDeed) : (AV.cells (.d (encDeed x)))[13]? = some (.d (.list (x.it.unit.head.map encWord))) := by simp [encDeed_def, AV.cells]
@[go_sem] theorem encDeed_l13 (x : GDeed) : ldC (some false) 1 ((encDeed x).cells.drop 13) = some (.d (.list (x.it.unit.head.map encWord))) := by simp [encDeed_def, D.cells, ldC]
@[go_sem] theorem encDeed_p13 (x : GDeed) (v : List GWord) : putA (.d (encDeed x)) 13 (.d (.list (v.map encWord))) = .d (encDeed { x with it := { x.it with unit := { x.it.unit with head := v } } }) := by
  rw [encDeed_def, encDeed_def, putA_dagg _ _ _ (by simp [csz, AV.cells])]; simp [csz, AV.cells, mkA, allD]
@[go_sem] theorem encDeed_c14 (x : GDeed) : (AV.cells (.d (encDeed x)))[14]? = some (.d (.list (x.it.unit.words.map encWord))) := by simp [encDeed_def, AV.cells]
@[go_sem] theorem encDeed_l14 (x : GDeed) : ldC (some false) 1 ((encDeed x).cells.drop 14) = some (.d (.list (x.it.unit.words.map encWord))) := by simp [encDeed_def, D.cells, ldC]
@[go_sem] theorem encDeed_p14 (x : GDeed) (v : List GWord) : putA (.d (encDeed x)) 14 (.d (.list (v.map encWord))) = .d (encDeed { x with it := { x.it with unit := { x.it.unit with words := v } } }) := by
  rw [encDeed_def, encDeed_def, putA_dagg _ _ _ (by simp [csz, AV.cells])]; simp [csz, AV.cells, mkA, allD]
@[go_sem] theorem encDeed_c15 (x : GDeed) : (AV.cells (.d (encDeed x)))[15]? = some (.d (.list (x.it.unit.kids.map encUnit))) := by simp [encDeed_def, AV.cells]
@[go_sem] theorem encDeed_l15 (x : GDeed) : ldC (some false) 1 ((encDeed x).cells.drop 15) = some (.d (.list (x.it.unit.kids.map encUnit))) := by simp [encDeed_def, D.cells, ldC]
@[go_sem] theorem encDeed_p15 (x : GDeed) (v : List GUnit) : putA (.d (encDeed x)) 15 (.d (.list (v.map encUnit))) = .d (encDeed { x with it := { x.it with unit := { x.it.unit with kids := v } } }) := by
  rw [encDeed_def, encDeed_def, putA_dagg _ _ _ (by simp [csz, AV.cells])]; simp [csz, AV.cells, mkA, allD]
@[go_sem] theorem encDeed_c16 (x : GDeed) : (AV.cells (.d (encDeed x)))[16]? = some (.d (.list (x.it.old.map .str))) := by simp [encDeed_def, AV.cells]
@[go_sem] theorem encDeed_l16 (x : GDeed) : ldC (some false) 1 ((encDeed x).cells.drop 16) = some (.d (.list (x.it.old.map .str))) := by simp [encDeed_def, D.cells, ldC]
@[go_sem] theorem encDeed_p16 (x : GDeed) (v : List ByteArray) : putA (.d (encDeed x)) 16 (.d (.list (v.map .str))) = .d (encDeed { x with it := { x.it with old := v } }) := by
  rw [encDeed_def, encDeed_def, putA_dagg _ _ _ (by simp [csz, AV.cells])]; simp [csz, AV.cells, mkA, allD]
@[go_sem] theorem encDeed_c17 (x : GDeed) : (AV.cells (.d (encDeed x)))[17]? = some (.d (.list (x.it.new.map .str))) := by simp [encDeed_def, AV.cells]
@[go_sem] theorem encDeed_l17 (x : GDeed) : ldC (some false) 1 ((encDeed x).cells.drop 17) = some (.d (.list (x.it.new.map .str))) := by simp [encDeed_def, D.cells, ldC]
@[go_sem] theorem encDeed_p17 (x : GDeed) (v : List ByteArray) : putA (.d (encDeed x)) 17 (.d (.list (v.map .str))) = .d (encDeed { x with it := { x.it with new := v } }) := by
  rw [encDeed_def, encDeed_def, putA_dagg _ _ _ (by simp [csz, AV.cells])]; simp [csz, AV.cells, mkA, allD]
@[go_sem] theorem encDeed_c18 (x : GDeed) : (AV.cells (.d (encDeed x)))[18]? = some (.d (.str x.it.label)) := by simp [encDeed_def, AV.cells]
@[go_sem] theorem encDeed_l18 (x : GDeed) : ldC (some false) 1 ((encDeed x).cells.drop 18) = some (.d (.str x.it.label)) := by simp [encDeed_def, D.cells, ldC]
@[go_sem] theorem encDeed_p18 (x : GDeed) (v : ByteArray) : putA (.d (encDeed x)) 18 (.d (.str v)) = .d (encDeed { x with it := { x.it with label := v } }) := by
  rw [encDeed_def, encDeed_def, putA_dagg _ _ _ (by simp [csz, AV.cells])]; simp [csz, AV.cells, mkA, allD]
@[go_sem] theorem encDeed_c19 (x : GDeed) : (AV.cells (.d (encDeed x)))[19]? = some (.d (.str x.it.for_)) := by simp [encDeed_def, AV.cells]
@[go_sem] theorem encDeed_l19 (x : GDeed) : ldC (some false) 1 ((encDeed x).cells.drop 19) = some (.d (.str x.it.for_)) := by simp [encDeed_def, D.cells, ldC]
@[go_sem] theorem encDeed_p19 (x : GDeed) (v : ByteArray) : putA (.d (encDeed x)) 19 (.d (.str v)) = .d (encDeed { x with it := { x.it with for_ := v } }) := by
  rw [encDeed_def, encDeed_def, putA_dagg _ _ _ (by simp [csz, AV.cells])]; simp [csz, AV.cells, mkA, allD]
@[go_sem] theorem encDeed_c20 (x : GDeed) : (AV.cells (.d (encDeed x)))[20]? = some (.d (.int .i64 x.it.start.kind)) := by simp [encDeed_def, AV.cells]
@[go_sem] theorem encDeed_l20 (x : GDeed) : ldC (some false) 1 ((encDeed x).cells.drop 20) = some (.d (.int .i64 x.it.start.kind)) := by simp [encDeed_def, D.cells, ldC]
@[go_sem] theorem encDeed_p20 (x : GDeed) (v : Int) : putA (.d (encDeed x)) 20 (.d (.int .i64 v)) = .d (encDeed { x with it := { x.it with start := { x.it.start with kind := v } } }) := by
  rw [encDeed_def, encDeed_def, putA_dagg _ _ _ (by simp [csz, AV.cells])]; simp [csz, AV.cells, mkA, allD]
@[go_sem] theorem encDeed_c21 (x : GDeed) : (AV.cells (.d (encDeed x)))[21]? = some (.d (.int .i64 x.it.start.day)) := by simp [encDeed_def, AV.cells]
@[go_sem] theorem encDeed_l21 (x : GDeed) : ldC (some false) 1 ((encDeed x).cells.drop 21) = some (.d (.int .i64 x.it.start.day)) := by simp [encDeed_def, D.cells, ldC]
@[go_sem] theorem encDeed_p21 (x : GDeed) (v : Int) : putA (.d (encDeed x)) 21 (.d (.int .i64 v)) = .d (encDeed { x with it := { x.it with start := { x.it.start with day := v } } }) := by
  rw [encDeed_def, encDeed_def, putA_dagg _ _ _ (by simp [csz, AV.cells])]; simp [csz, AV.cells, mkA, allD]
@[go_sem] theorem encDeed_c22 (x : GDeed) : (AV.cells (.d (encDeed x)))[22]? = some (.d (.str x.it.start.event)) := by simp [encDeed_def, AV.cells]
@[go_sem] theorem encDeed_l22 (x : GDeed) : ldC (some false) 1 ((encDeed x).cells.drop 22) = some (.d (.str x.it.start.event)) := by simp [encDeed_def, D.cells, ldC]
@[go_sem] theorem encDeed_p22 (x : GDeed) (v : ByteArray) : putA (.d (encDeed x)) 22 (.d (.str v)) = .d (encDeed { x with it := { x.it with start := { x.it.start with event := v } } }) := by
  rw [encDeed_def, encDeed_def, putA_dagg _ _ _ (by simp [csz, AV.cells])]; simp [csz, AV.cells, mkA, allD]
@[go_sem] theorem encDeed_c23 (x : GDeed) : (AV.cells (.d (encDeed x)))[23]? = some (.d (.int .i64 x.it.act)) := by simp [encDeed_def, AV.cells]
@[go_sem] theorem encDeed_l23 (x : GDeed) : ldC (some false) 1 ((encDeed x).cells.drop 23) = some (.d (.int .i64 x.it.act)) := by simp [encDeed_def, D.cells, ldC]
@[go_sem] theorem encDeed_p23 (x : GDeed) (v : Int) : putA (.d (encDeed x)) 23 (.d (.int .i64 v)) = .d (encDeed { x with it := { x.it with act := v } }) := by
  rw [encDeed_def, encDeed_def, putA_dagg _ _ _ (by simp [csz, AV.cells])]; simp [csz, AV.cells, mkA, allD]
@[go_sem] theorem encDeed_c24 (x : GDeed) : (AV.cells (.d (encDeed x)))[24]? = some (.d (.int .i64 x.it.item)) := by simp [encDeed_def, AV.cells]
@[go_sem] theorem encDeed_l24 (x : GDeed) : ldC (some false) 1 ((encDeed x).cells.drop 24) = some (.d (.int .i64 x.it.item)) := by simp [encDeed_def, D.cells, ldC]
@[go_sem] theorem encDeed_p24 (x : GDeed) (v : Int) : putA (.d (encDeed x)) 24 (.d (.int .i64 v)) = .d (encDeed { x with it := { x.it with item := v } }) := by
  rw [encDeed_def, encDeed_def, putA_dagg _ _ _ (by simp [csz, AV.cells])]; simp [csz, AV.cells, mkA, allD]
@[go_sem] theorem encDeed_c25 (x : GDeed) : (AV.cells (.d (encDeed x)))[25]? = some (.d (.int .i64 x.it.day)) := by simp [encDeed_def, AV.cells]
@[go_sem] theorem encDeed_l25 (x : GDeed) : ldC (some false) 1 ((encDeed x).cells.drop 25) = some (.d (.int .i64 x.it.day)) := by simp [encDeed_def, D.cells, ldC]
@[go_sem] theorem encDeed_p25 (x : GDeed) (v : Int) : putA (.d (encDeed x)) 25 (.d (.int .i64 v)) = .d (encDeed { x with it := { x.it with day := v } }) := by
  rw [encDeed_def, encDeed_def, putA_dagg _ _ _ (by simp [csz, AV.cells])]; simp [csz, AV.cells, mkA, allD]
@[go_sem] theorem encDeed_c26 (x : GDeed) : (AV.cells (.d (encDeed x)))[26]? = some (.d (.str x.it.event)) := by simp [encDeed_def, AV.cells]
@[go_sem] theorem encDeed_l26 (x : GDeed) : ldC (some false) 1 ((encDeed x).cells.drop 26) = some (.d (.str x.it.event)) := by simp [encDeed_def, D.cells, ldC]
@[go_sem] theorem encDeed_p26 (x : GDeed) (v : ByteArray) : putA (.d (encDeed x)) 26 (.d (.str v)) = .d (encDeed { x with it := { x.it with event := v } }) := by
  rw [encDeed_def, encDeed_def, putA_dagg _ _ _ (by simp [csz, AV.cells])]; simp [csz, AV.cells, mkA, allD]
@[go_sem] theorem encDeed_c27 (x : GDeed) : (AV.cells (.d (encDeed x)))[27]? = some (.d (.list (x.it.by_.map encItem))) := by simp [encDeed_def, AV.cells]
@[go_sem] theorem encDeed_l27 (x : GDeed) : ldC (some false) 1 ((encDeed x).cells.drop 27) = some (.d (.list (x.it.by_.map encItem))) := by simp [encDeed_def, D.cells, ldC]
@[go_sem] theorem encDeed_p27 (x : GDeed) (v : List GItem) : putA (.d (encDeed x)) 27 (.d (.list (v.map encItem))) = .d (encDeed { x with it := { x.it with by_ := v } }) := by
  rw [encDeed_def, encDeed_def, putA_dagg _ _ _ (by simp [csz, AV.cells])]; simp [csz, AV.cells, mkA, allD]
@[go_sem] theorem encDeed_s3_25 (x : GDeed) : subA true (.d (encDeed x)) 3 25 = some (.d (encItem x.it)) := by
  rw [encDeed_def, subA_aggD _ _ _ (by simp) (by simp)]; simp [mkA, allD, encItem_def]
@[go_sem] theorem encDeed_ls3_25 (x : GDeed) : ldC (some true) 25 ((encDeed x).cells.drop 3) = some (.d (encItem x.it)) := by
  simp [encDeed_def, encItem_def, D.cells, ldC]
@[go_sem] theorem encDeed_ps3_25 (x : GDeed) (v : GItem) : putA (.d (encDeed x)) 3 (.d (encItem v)) = .d (encDeed { x with it := v }) := by
  rw [encDeed_def, encDeed_def, encItem_def, putA_dagg _ _ _ (by simp [csz, AV.cells])]; simp [csz, AV.cells, mkA, allD]
@[go_sem] theorem encDeed_s8_8 (x : GDeed) : subA true (.d (encDeed x)) 8 8 = some (.d (encUnit x.it.unit)) := by
  rw [encDeed_def, subA_aggD _ _ _ (by simp) (by simp)]; simp [mkA, allD, encUnit_def]
@[go_sem] theorem encDeed_ls8_8 (x : GDeed) : ldC (some true) 8 ((encDeed x).cells.drop 8) = some (.d (encUnit x.it.unit)) := by
  simp [encDeed_def, encUnit_def, D.cells, ldC]
@[go_sem] theorem encDeed_ps8_8 (x : GDeed) (v : GUnit) : putA (.d (encDeed x)) 8 (.d (encUnit v)) = .d (encDeed { x with it := { x.it with unit := v } }) := by
  rw [encDeed_def, encDeed_def, encUnit_def, putA_dagg _ _ _ (by simp [csz, AV.cells])]; simp [csz, AV.cells, mkA, allD]
@[go_sem] theorem encDeed_s8_3 (x : GDeed) : subA true (.d (encDeed x)) 8 3 = some (.d (encId x.it.unit.id)) := by
  rw [encDeed_def, subA_aggD _ _ _ (by simp) (by simp)]; simp [mkA, allD, encId_def]
@[go_sem] theorem encDeed_ls8_3 (x : GDeed) : ldC (some true) 3 ((encDeed x).cells.drop 8) = some (.d (encId x.it.unit.id)) := by
  simp [encDeed_def, encId_def, D.cells, ldC]
@[go_sem] theorem encDeed_ps8_3 (x : GDeed) (v : GId) : putA (.d (encDeed x)) 8 (.d (encId v)) = .d (encDeed { x with it := { x.it with unit := { x.it.unit with id := v } } }) := by
  rw [encDeed_def, encDeed_def, encId_def, putA_dagg _ _ _ (by simp [csz, AV.cells])]; simp [csz, AV.cells, mkA, allD]
@[go_sem] theorem encDeed_s20_3 (x : GDeed) : subA true (.d (encDeed x)) 20 3 = some (.d (encStart x.it.start)) := by
  rw [encDeed_def, subA_aggD _ _ _ (by simp) (by simp)]; simp [mkA, allD, encStart_def]
@[go_sem] theorem encDeed_ls20_3 (x : GDeed) : ldC (some true) 3 ((encDeed x).cells.drop 20) = some (.d (encStart x.it.start)) := by
  simp [encDeed_def, encStart_def, D.cells, ldC]
@[go_sem] theorem encDeed_ps20_3 (x : GDeed) (v : GStart) : putA (.d (encDeed x)) 20 (.d (encStart v)) = .d (encDeed { x with it := { x.it with start := v } }) := by
  rw [encDeed_def, encDeed_def, encStart_def, putA_dagg _ _ _ (by simp [csz, AV.cells])]; simp [csz, AV.cells, mkA, allD]

structure GAct where
  number : Int
  title : ByteArray
  day : Int
  start : GStart
  items : List GItem

def encAct (x : GAct) : D := .agg [.int .i64 x.number, .str x.title, .int .i64 x.day, .int .i64 x.start.kind, .int .i64 x.start.day, .str x.start.event, .list (x.items.map encItem)]
theorem encAct_def (x : GAct) : encAct x = .agg [.int .i64 x.number, .str x.title, .int .i64 x.day, .int .i64 x.start.kind, .int .i64 x.start.day, .str x.start.event, .list (x.items.map encItem)] := rfl
@[go_sem] theorem encAct_len (x : GAct) : (encAct x).cells.length = 7 := by simp [encAct_def, D.cells]
@[go_sem] theorem encAct_ag (x : GAct) : isAg (.d (encAct x)) = true := by simp [encAct_def, isAg]
@[go_sem] theorem encAct_uni (l : List GAct) : uni 7 (l.map encAct) = true := by simp [uni, encAct_len]
@[go_sem] theorem encAct_ld (x : GAct) : ldC (some true) 7 (encAct x).cells = some (.d (encAct x)) := by simp [encAct_def, D.cells, ldC]
@[go_sem] theorem encAct_okl (x : GAct) : okD (encAct x) ↔ okL [.int .i64 x.number, .str x.title, .int .i64 x.day, .int .i64 x.start.kind, .int .i64 x.start.day, .str x.start.event, .list (x.items.map encItem)] := by rw [encAct_def]; simp only [okD]
@[go_sem] theorem encAct_c0 (x : GAct) : (AV.cells (.d (encAct x)))[0]? = some (.d (.int .i64 x.number)) := by simp [encAct_def, AV.cells]
@[go_sem] theorem encAct_l0 (x : GAct) : ldC (some false) 1 (encAct x).cells = some (.d (.int .i64 x.number)) := by simp [encAct_def, D.cells, ldC]
@[go_sem] theorem encAct_p0 (x : GAct) (v : Int) : putA (.d (encAct x)) 0 (.d (.int .i64 v)) = .d (encAct { x with number := v }) := by
  rw [encAct_def, encAct_def, putA_dagg _ _ _ (by simp [csz, AV.cells])]; simp [csz, AV.cells, mkA, allD]
@[go_sem] theorem encAct_c1 (x : GAct) : (AV.cells (.d (encAct x)))[1]? = some (.d (.str x.title)) := by simp [encAct_def, AV.cells]
@[go_sem] theorem encAct_l1 (x : GAct) : ldC (some false) 1 ((encAct x).cells.drop 1) = some (.d (.str x.title)) := by simp [encAct_def, D.cells, ldC]
@[go_sem] theorem encAct_p1 (x : GAct) (v : ByteArray) : putA (.d (encAct x)) 1 (.d (.str v)) = .d (encAct { x with title := v }) := by
  rw [encAct_def, encAct_def, putA_dagg _ _ _ (by simp [csz, AV.cells])]; simp [csz, AV.cells, mkA, allD]
@[go_sem] theorem encAct_c2 (x : GAct) : (AV.cells (.d (encAct x)))[2]? = some (.d (.int .i64 x.day)) := by simp [encAct_def, AV.cells]
@[go_sem] theorem encAct_l2 (x : GAct) : ldC (some false) 1 ((encAct x).cells.drop 2) = some (.d (.int .i64 x.day)) := by simp [encAct_def, D.cells, ldC]
@[go_sem] theorem encAct_p2 (x : GAct) (v : Int) : putA (.d (encAct x)) 2 (.d (.int .i64 v)) = .d (encAct { x with day := v }) := by
  rw [encAct_def, encAct_def, putA_dagg _ _ _ (by simp [csz, AV.cells])]; simp [csz, AV.cells, mkA, allD]
@[go_sem] theorem encAct_c3 (x : GAct) : (AV.cells (.d (encAct x)))[3]? = some (.d (.int .i64 x.start.kind)) := by simp [encAct_def, AV.cells]
@[go_sem] theorem encAct_l3 (x : GAct) : ldC (some false) 1 ((encAct x).cells.drop 3) = some (.d (.int .i64 x.start.kind)) := by simp [encAct_def, D.cells, ldC]
@[go_sem] theorem encAct_p3 (x : GAct) (v : Int) : putA (.d (encAct x)) 3 (.d (.int .i64 v)) = .d (encAct { x with start := { x.start with kind := v } }) := by
  rw [encAct_def, encAct_def, putA_dagg _ _ _ (by simp [csz, AV.cells])]; simp [csz, AV.cells, mkA, allD]
@[go_sem] theorem encAct_c4 (x : GAct) : (AV.cells (.d (encAct x)))[4]? = some (.d (.int .i64 x.start.day)) := by simp [encAct_def, AV.cells]
@[go_sem] theorem encAct_l4 (x : GAct) : ldC (some false) 1 ((encAct x).cells.drop 4) = some (.d (.int .i64 x.start.day)) := by simp [encAct_def, D.cells, ldC]
@[go_sem] theorem encAct_p4 (x : GAct) (v : Int) : putA (.d (encAct x)) 4 (.d (.int .i64 v)) = .d (encAct { x with start := { x.start with day := v } }) := by
  rw [encAct_def, encAct_def, putA_dagg _ _ _ (by simp [csz, AV.cells])]; simp [csz, AV.cells, mkA, allD]
@[go_sem] theorem encAct_c5 (x : GAct) : (AV.cells (.d (encAct x)))[5]? = some (.d (.str x.start.event)) := by simp [encAct_def, AV.cells]
@[go_sem] theorem encAct_l5 (x : GAct) : ldC (some false) 1 ((encAct x).cells.drop 5) = some (.d (.str x.start.event)) := by simp [encAct_def, D.cells, ldC]
@[go_sem] theorem encAct_p5 (x : GAct) (v : ByteArray) : putA (.d (encAct x)) 5 (.d (.str v)) = .d (encAct { x with start := { x.start with event := v } }) := by
  rw [encAct_def, encAct_def, putA_dagg _ _ _ (by simp [csz, AV.cells])]; simp [csz, AV.cells, mkA, allD]
@[go_sem] theorem encAct_c6 (x : GAct) : (AV.cells (.d (encAct x)))[6]? = some (.d (.list (x.items.map encItem))) := by simp [encAct_def, AV.cells]
@[go_sem] theorem encAct_l6 (x : GAct) : ldC (some false) 1 ((encAct x).cells.drop 6) = some (.d (.list (x.items.map encItem))) := by simp [encAct_def, D.cells, ldC]
@[go_sem] theorem encAct_p6 (x : GAct) (v : List GItem) : putA (.d (encAct x)) 6 (.d (.list (v.map encItem))) = .d (encAct { x with items := v }) := by
  rw [encAct_def, encAct_def, putA_dagg _ _ _ (by simp [csz, AV.cells])]; simp [csz, AV.cells, mkA, allD]
@[go_sem] theorem encAct_s3_3 (x : GAct) : subA true (.d (encAct x)) 3 3 = some (.d (encStart x.start)) := by
  rw [encAct_def, subA_aggD _ _ _ (by simp) (by simp)]; simp [mkA, allD, encStart_def]
@[go_sem] theorem encAct_ls3_3 (x : GAct) : ldC (some true) 3 ((encAct x).cells.drop 3) = some (.d (encStart x.start)) := by
  simp [encAct_def, encStart_def, D.cells, ldC]
@[go_sem] theorem encAct_ps3_3 (x : GAct) (v : GStart) : putA (.d (encAct x)) 3 (.d (encStart v)) = .d (encAct { x with start := v }) := by
  rw [encAct_def, encAct_def, encStart_def, putA_dagg _ _ _ (by simp [csz, AV.cells])]; simp [csz, AV.cells, mkA, allD]

structure GGaz where
  number : Int
  day : Int
  prior : ByteArray
  acts : List GAct

def encGaz (x : GGaz) : D := .agg [.int .i64 x.number, .int .i64 x.day, .str x.prior, .list (x.acts.map encAct)]
theorem encGaz_def (x : GGaz) : encGaz x = .agg [.int .i64 x.number, .int .i64 x.day, .str x.prior, .list (x.acts.map encAct)] := rfl
@[go_sem] theorem encGaz_len (x : GGaz) : (encGaz x).cells.length = 4 := by simp [encGaz_def, D.cells]
@[go_sem] theorem encGaz_ag (x : GGaz) : isAg (.d (encGaz x)) = true := by simp [encGaz_def, isAg]
@[go_sem] theorem encGaz_uni (l : List GGaz) : uni 4 (l.map encGaz) = true := by simp [uni, encGaz_len]
@[go_sem] theorem encGaz_ld (x : GGaz) : ldC (some true) 4 (encGaz x).cells = some (.d (encGaz x)) := by simp [encGaz_def, D.cells, ldC]
@[go_sem] theorem encGaz_okl (x : GGaz) : okD (encGaz x) ↔ okL [.int .i64 x.number, .int .i64 x.day, .str x.prior, .list (x.acts.map encAct)] := by rw [encGaz_def]; simp only [okD]
@[go_sem] theorem encGaz_c0 (x : GGaz) : (AV.cells (.d (encGaz x)))[0]? = some (.d (.int .i64 x.number)) := by simp [encGaz_def, AV.cells]
@[go_sem] theorem encGaz_l0 (x : GGaz) : ldC (some false) 1 (encGaz x).cells = some (.d (.int .i64 x.number)) := by simp [encGaz_def, D.cells, ldC]
@[go_sem] theorem encGaz_p0 (x : GGaz) (v : Int) : putA (.d (encGaz x)) 0 (.d (.int .i64 v)) = .d (encGaz { x with number := v }) := by
  rw [encGaz_def, encGaz_def, putA_dagg _ _ _ (by simp [csz, AV.cells])]; simp [csz, AV.cells, mkA, allD]
@[go_sem] theorem encGaz_c1 (x : GGaz) : (AV.cells (.d (encGaz x)))[1]? = some (.d (.int .i64 x.day)) := by simp [encGaz_def, AV.cells]
@[go_sem] theorem encGaz_l1 (x : GGaz) : ldC (some false) 1 ((encGaz x).cells.drop 1) = some (.d (.int .i64 x.day)) := by simp [encGaz_def, D.cells, ldC]
@[go_sem] theorem encGaz_p1 (x : GGaz) (v : Int) : putA (.d (encGaz x)) 1 (.d (.int .i64 v)) = .d (encGaz { x with day := v }) := by
  rw [encGaz_def, encGaz_def, putA_dagg _ _ _ (by simp [csz, AV.cells])]; simp [csz, AV.cells, mkA, allD]
@[go_sem] theorem encGaz_c2 (x : GGaz) : (AV.cells (.d (encGaz x)))[2]? = some (.d (.str x.prior)) := by simp [encGaz_def, AV.cells]
@[go_sem] theorem encGaz_l2 (x : GGaz) : ldC (some false) 1 ((encGaz x).cells.drop 2) = some (.d (.str x.prior)) := by simp [encGaz_def, D.cells, ldC]
@[go_sem] theorem encGaz_p2 (x : GGaz) (v : ByteArray) : putA (.d (encGaz x)) 2 (.d (.str v)) = .d (encGaz { x with prior := v }) := by
  rw [encGaz_def, encGaz_def, putA_dagg _ _ _ (by simp [csz, AV.cells])]; simp [csz, AV.cells, mkA, allD]
@[go_sem] theorem encGaz_c3 (x : GGaz) : (AV.cells (.d (encGaz x)))[3]? = some (.d (.list (x.acts.map encAct))) := by simp [encGaz_def, AV.cells]
@[go_sem] theorem encGaz_l3 (x : GGaz) : ldC (some false) 1 ((encGaz x).cells.drop 3) = some (.d (.list (x.acts.map encAct))) := by simp [encGaz_def, D.cells, ldC]
@[go_sem] theorem encGaz_p3 (x : GGaz) (v : List GAct) : putA (.d (encGaz x)) 3 (.d (.list (v.map encAct))) = .d (encGaz { x with acts := v }) := by
  rw [encGaz_def, encGaz_def, putA_dagg _ _ _ (by simp [csz, AV.cells])]; simp [csz, AV.cells, mkA, allD]

end Go.Ab

namespace Go.Ab

theorem GUnit.ind {p : GUnit → Prop} (h : ∀ u, (∀ k ∈ u.kids, p k) → p u) : ∀ u, p u := by
  intro u
  induction hn : SizeOf.sizeOf u using Nat.strongRecOn generalizing u with
  | _ n ih =>
    refine h u fun k hk => ih (SizeOf.sizeOf k) ?_ k rfl
    subst hn
    obtain ⟨id, kind, label, head, words, kids⟩ := u
    simp only at hk
    have := List.sizeOf_lt_of_mem hk
    simp only [GUnit.mk.sizeOf_spec]
    omega
theorem GItem.ind {p : GItem → Prop} (h : ∀ u, (∀ k ∈ u.by_, p k) → p u) : ∀ u, p u := by
  intro u
  induction hn : SizeOf.sizeOf u using Nat.strongRecOn generalizing u with
  | _ n ih =>
    refine h u fun k hk => ih (SizeOf.sizeOf k) ?_ k rfl
    subst hn
    cases u
    simp only at hk
    have := List.sizeOf_lt_of_mem hk
    simp only [GItem.mk.sizeOf_spec]
    omega

theorem wrap_succ (i : Nat) (h : i < 9223372036854775807) : IntKind.i64.wrap ((i : Int) + 1) = ((i + 1 : Nat) : Int) := by
  rw [wrap_i64 _ (by omega) (by omega)]; omega
theorem wrap_rng (n : Int) : -9223372036854775808 ≤ IntKind.i64.wrap n ∧ IntKind.i64.wrap n ≤ 9223372036854775807 := by
  rw [IntKind.wrap_i64]; omega

@[go_sem] theorem coe_d (x : D) : coe (.d x) = .d x := pf rfl
@[go_sem] theorem coe_nils : coe .nils = .d (.list []) := pf rfl
@[go_sem] theorem coe_ref (b g i n : Nat) (c : Option Nat) : coe (.ref b g i n c) = .ref b g i n c := pf rfl
@[go_sem] theorem coe_ptr (b g i f : Nat) : coe (.ptr b g i f) = .ptr b g i f := pf rfl
@[go_sem] theorem coe_fn (f : FuncId) (a b : List AV) : coe (.fn f a b) = .fn f a b := pf rfl
@[go_sem] theorem coe_mp (b : Nat) : coe (.mp b) = .mp b := pf rfl
@[go_sem] theorem coe_it (b : Nat) : coe (.it b) = .it b := pf rfl
@[go_sem] theorem coe_cptr (cs : List D) : coe (.cptr cs) = .cptr cs := pf rfl
attribute [go_sem] Option.some.injEq

/-- a number, a bool: whichever -/
def isB (v : AV) : Prop := ∃ b, v = .d (.bool b)
def isI (v : AV) : Prop := ∃ n, v = .d (.int .i64 n)

theorem getEnc {α : Type} {l : List α} (f : α → D) {i : Nat} (h : i < l.length) : (l.map f)[i]? = some (f l[i]) := by simp [h]

@[go_sem] theorem uni_str (l : List ByteArray) : uni 1 (l.map .str) = true := by simp [uni, D.cells]
theorem okL_get {α : Type} {l : List α} {f : α → D} (h : okL (l.map f)) {i : Nat} (hi : i < l.length) : okD (f l[i]) := okL_iff.1 h _ (List.mem_map_of_mem (List.getElem_mem hi))
theorem encItem_by {x : GItem} (h : okD (encItem x)) : x.by_.length ≤ 9223372036854775807 ∧ okL (x.by_.map encItem) := by
  rw [encItem_okl] at h; simp only [okL, okD, List.length_map] at h; simp only [h, and_self]

end Go.Ab

namespace Go.Ab

variable {P : Program} {GT : Globs}

/-- block b is written no more -/
def frz (H : List AObj) (b : Nat) : List AObj := match hget H b with
  | some (.row z g _ xs) => hset H b (.row z g true xs)
  | _ => H

theorem frz_get (H : List AObj) (b x : Nat) : (frz H b)[x]? = H[x]? ∨ (x = b ∧ ∃ z g fz xs, H[b]? = some (.row z g fz xs) ∧ (frz H b)[x]? = some (.row z g true xs)) := by
  unfold frz
  split
  · rename_i z g fz xs h
    unfold hget at h
    unfold hset
    by_cases e : x = b
    · subst e
      right
      refine ⟨rfl, z, g, fz, xs, h, ?_⟩
      rw [List.getElem?_set_self (lt_of_get h)]
    · left; rw [List.getElem?_set_ne (fun e' => e e'.symm)]
  · exact .inl rfl
theorem frz_length (H : List AObj) (b : Nat) : (frz H b).length = H.length := by
  unfold frz; split
  · simp [hset]
  · rfl

theorem frz_pass {h : Array Obj} {own : Nat → Slot} {H : List AObj} (b : Nat) : Pass h own H h own (frz H b) where
  size := Nat.le_refl _
  still c hc := by
    refine ⟨⟨hc.1, fun b' o ho hb' => ?_⟩, rfl⟩
    rcases frz_get H b b' with e | ⟨rfl, z, g, fz, xs, _, h2⟩
    · rw [e] at hb'; exact hc.2 b' o ho hb'
    · rw [h2] at hb'; cases hb'; rfl
  ext b' o ho := by
    rcases frz_get H b b' with e | ⟨rfl, z, g, fz, xs, h1, h2⟩
    · refine ⟨o, e.trans ho, Nat.le_refl _, ?_⟩
      cases o with
      | row z g fz xs => exact ⟨fz, xs, g, rfl, fun _ => ⟨rfl, .inr rfl, fun _ h => h⟩⟩
      | map es => exact ⟨⟨es, rfl⟩, .inr rfl⟩
      | iter s p => exact ⟨⟨p, rfl⟩, .inr rfl⟩
    · rw [h1] at ho; cases ho
      exact ⟨_, h2, Nat.le_refl _, true, xs, g, rfl, fun _ => ⟨rfl, .inr rfl, fun _ h => h⟩⟩
  rows c n hn := hn

theorem frz_rel {h : Array Obj} {own : Nat → Slot} {H : List AObj} (hR : RelH GT h own H) (b : Nat) : RelH GT h own (frz H b) where
  out x hx := hR.out x (by rw [← frz_length H b]; exact hx)
  inj := hR.inj
  obj x c o ho hb := by
    rcases frz_get H b x with e | ⟨rfl, z, g, fz, xs, h1, h2⟩
    · rw [e] at hb
      exact (hR.obj x c o ho hb).pass (frz_pass b) rfl
    · rw [h2] at hb; cases hb
      have := (hR.obj x c _ ho h1).pass (frz_pass x) rfl
      exact this
  virt x hx := by
    obtain ⟨z, g, fz, h1, h2⟩ := hR.virt x hx
    rcases frz_get H b x with e | ⟨rfl, z', g', fz', xs', h3, h4⟩
    · exact ⟨z, g, fz, e.trans h1, h2⟩
    · rw [h1] at h3; cases h3; exact ⟨z, g, true, h4, h2⟩
  glob g cs hg := (hR.glob g cs hg).pass (frz_pass b)

/-- rows written no more -/
def isFrz (H : List AObj) (b : Nat) : Bool := match hget H b with | some (.row _ _ true _) => true | _ => false
theorem isFrz_still {h : Array Obj} {own : Nat → Slot} {H : List AObj} (hR : RelH GT h own H) {b c : Nat} (hf : isFrz H b = true) (ho : own b = .at c) : Still h own H c := by
  refine ⟨hR.lt ho, fun b' o ho' hb' => ?_⟩
  obtain rfl := hR.inj b b' c ho ho'
  unfold isFrz hget at hf
  rw [hb'] at hf
  split at hf
  · rename_i h; cases h; rfl
  · cases hf

/-- arguments, some of them taken as data -/
def purArgs (H : List AObj) : List AV → List AV → Prop
  | [], [] => True
  | a :: l, b :: m => (a = b ∨ ∃ x, pureA (isFrz H) H 50 a = some x ∧ b = .d x) ∧ purArgs H l m
  | _, _ => False
theorem purArgs_spec {H : List AObj} : ∀ {l m : List AV}, purArgs H l m → l.length = m.length ∧ ∀ (j : Nat) b, m[j]? = some b → ∃ a, l[j]? = some a ∧ (a = b ∨ ∃ x, pureA (isFrz H) H 50 a = some x ∧ b = .d x)
  | [], [], _ => ⟨rfl, fun j b h => by simp at h⟩
  | a :: l, b :: m, h => by
    obtain ⟨q1, q2⟩ := purArgs_spec h.2
    refine ⟨by simp [q1], fun j c hc => ?_⟩
    cases j with
    | zero => simp at hc; subst hc; exact ⟨a, rfl, h.1⟩
    | succ j => simpa using q2 j c (by simpa using hc)
  | [], _ :: _, h => h.elim
  | _ :: _, [], h => h.elim

/-- A CALL with a row that is written no more from here on, as data -/
theorem acalls_freeze {f : FuncId} {args args' : List AV} {H : List AObj} {R : AV → List AObj → Prop} (b : Nat) (ha : purArgs (frz H b) args args') (h : ACalls P GT f args' (frz H b) R) : ACalls P GT f args H R := by
  refine ⟨h.1, fun w own vs hR hl hargs => ?_⟩
  obtain ⟨q1, q2⟩ := purArgs_spec ha
  have hR' := frz_rel hR b
  refine (h.2 w own vs hR' (hl.trans q1) fun j v a hv ha' => ?_).mono ?_
  · obtain ⟨a0, h1, h2⟩ := q2 j a ha'
    have h3 := (hargs j v a0 hv h1).pass (frz_pass b)
    rcases h2 with rfl | ⟨x, h2, rfl⟩
    · exact h3
    · exact .d _ _ (pure_rep hR' (fun c hc => hc) (fun b' c hf ho => isFrz_still hR' hf ho) 50 h3 h2)
  · rintro e w' ⟨v, a, H', own', rfl, r1, r2, r3, r4⟩
    refine ⟨v, a, H', own', rfl, r1, ?_, r3, r4⟩
    have m1 : Mv w own H w own (frz H b) := ⟨frz_pass b, fun _ _ h => h, .refl _⟩
    exact m1.trans r2

end Go.Ab

namespace Go.Ab

variable {P : Program} {GT : Globs}

/-- A FUNCTION, with whatever it leaves -/
theorem acalls_all {f : FuncId} {fn : Func} {c : Code} {args : List AV} {H : List AObj} {R : AV → List AObj → Prop} (n : Nat) (rs : List ResultVar) (hf : P.funcs[f]? = some fn) (hb : fn.body = some c) (hc : callable P f = true) (hn : fn.ntmps = n) (hrs : fn.results.toList = rs) (ha : args.length ≤ n)
    (h : ab P GT c (retQ P rs R) ⟨E n (ents 0 args), H⟩) : ACalls P GT f args H R := by
  subst hn hrs
  refine acalls_enter hf hb hc _ (drop_enter fn args H ha) (aw_mono ?_ (ab_sound h))
  have fin : ∀ st : AS, (∃ vs, resVs P st fn.results.toList = some vs ∧ R (tupOf vs) st.heap) → ∃ vs, resVs P st fn.results.toList = some vs ∧
      (fun v H1 => ∃ H2 v2, R v2 H2 ∧ ∀ (w0 w : World) (own0 own : Nat → Slot), RelH GT w0.heap own0 H → RelH GT w.heap own H1 → Mv w0 own0 H w own H1 →
      ∃ own2, RelH GT w.heap own2 H2 ∧ Mv w0 own0 H w own2 H2 ∧ ∀ cv, VR w own H1 cv v → VR w own2 H2 cv v2) (tupOf vs) st.heap := by
    rintro ⟨tm, H1⟩ ⟨vs, h1, h2⟩
    exact ⟨vs, h1, H1, tupOf vs, h2, fun w0 w own0 own r0 r1 hm => ⟨own, r1, hm, fun cv hv => hv⟩⟩
  intro e st he
  cases e with
  | normal => exact fin st he
  | ret => exact fin st he
  | _ => exact he.elim

/-- data given, the caller's blocks turned, one's own forgotten -/
def turnK (H : List AObj) (R : AV → List AObj → Prop) : AV → List AObj → Prop := fun v H1 => ∃ H2 L x, H1 = H2 ++ L ∧ Keeps H H2 ∧ pureR (fun b => decide (H2.length ≤ b)) H1 50 v = some x ∧ R x H2

theorem acalls_turn {f : FuncId} {fn : Func} {c : Code} {args : List AV} {H : List AObj} {R : AV → List AObj → Prop} (n : Nat) (rs : List ResultVar) (hf : P.funcs[f]? = some fn) (hb : fn.body = some c) (hc : callable P f = true) (hn : fn.ntmps = n) (hrs : fn.results.toList = rs) (ha : args.length ≤ n)
    (h : ab P GT c (retQ P rs (turnK H R)) ⟨E n (ents 0 args), H⟩) : ACalls P GT f args H R := by
  subst hn hrs
  refine acalls_enter hf hb hc _ (drop_enter fn args H ha) (aw_mono ?_ (ab_sound h))
  have fin : ∀ st : AS, (∃ vs, resVs P st fn.results.toList = some vs ∧ turnK H R (tupOf vs) st.heap) → ∃ vs, resVs P st fn.results.toList = some vs ∧
      (fun v H1 => ∃ H2 v2, R v2 H2 ∧ ∀ (w0 w : World) (own0 own : Nat → Slot), RelH GT w0.heap own0 H → RelH GT w.heap own H1 → Mv w0 own0 H w own H1 →
      ∃ own2, RelH GT w.heap own2 H2 ∧ Mv w0 own0 H w own2 H2 ∧ ∀ cv, VR w own H1 cv v → VR w own2 H2 cv v2) (tupOf vs) st.heap := by
    rintro ⟨tm, H1⟩ ⟨vs, h1, H2, L, x, h2, hk, h3, h4⟩
    simp only at h2
    subst h2
    refine ⟨vs, h1, H2, x, h4, fun w0 w own0 own r0 r1 hm => ?_⟩
    obtain ⟨q1, q2, q3⟩ := drop_rel r0 r1 hm hk
    exact ⟨cut H2.length own, q1, q2, fun cv hv => pureR_rep r1 (fun c hc => still_cut hc) (fun b c hok ho => gone_still r1 hok ho) hv h3⟩
  intro e st he
  cases e with
  | normal => exact fin st he
  | ret => exact fin st he
  | _ => exact he.elim

end Go.Ab

namespace Go.Ab

variable {P : Program} {GT : Globs}

/-- what one quiet operation, or a call that leaves the heap, yields -/
def DOp (P : Program) (GT : Globs) (o : Oper) (st : AS) (v : AV) (N : List AObj) : Prop :=
  (callOf o.op = none ∧ qop P GT st.tmps st.heap o.op = some (v, N)) ∨
  (N = [] ∧ ∃ f args, callOf o.op = some (f, args) ∧ ∃ g fs cs, (ev GT st.tmps f = .d (.fn g) ∧ fs = [] ∧ cs = [] ∨ ev GT st.tmps f = .fn g fs cs) ∧
    ∀ M, ACalls P GT g (fs ++ (args.toList.map fun x => coe (ev GT st.tmps x)) ++ cs) (st.heap ++ M) fun v' H' => v' = v ∧ H' = st.heap ++ M) ∨
  (∃ es, N = [.map es] ∧ v = .mp st.heap.length ∧ (∀ e ∈ es, ∃ x, e.2 = .d x) ∧ ∃ f args, callOf o.op = some (f, args) ∧ ∃ g, ev GT st.tmps f = .d (.fn g) ∧
    ∀ M, ACalls P GT g (args.toList.map fun x => coe (ev GT st.tmps x)) (st.heap ++ M) fun v' H' => v' = .mp (st.heap ++ M).length ∧ H' = st.heap ++ M ++ [.map es])
def DStep (P : Program) (GT : Globs) (ops : Array Oper) (o : Oper) (st : AS) (v : AV) (N : List AObj) : Prop := match o.guard with
  | none => DOp P GT o st v N
  | some (j, want) => match gval ops st.tmps j with
    | .d (.bool b) => if b = want then DOp P GT o st v N else v = .tup [] ∧ N = []
    | .tup [] => v = .tup [] ∧ N = []
    | _ => False
/-- the sequential run of the quiet part -/
def runD (P : Program) (GT : Globs) (ops : Array Oper) : List Oper → AS → List (AV × List AObj) → Prop
  | [], _, rs => rs = []
  | o :: rest, st, rs => ∃ v N rs', rs = (v, N) :: rs' ∧ DStep P GT ops o st v N ∧ runD P GT ops rest (st.put o.dst v (st.heap ++ N)) rs'

/-- the binding edges of an operation -/
def deps (o : Oper) : List Nat := (o.after.toList.filter (Region.binds .any)).map (·.on)
/-- the tmps that an operation reads -/
def reads (ops : Array Oper) (o : Oper) : List Tmp := o.looksAt ops
/-- the order does not matter -/
def drawOK (ops : Array Oper) (m : Nat) : Bool :=
  (List.range m).all fun i => match ops[i]? with
    | none => false
    | some oi => (deps oi).all (fun j => decide (j < i)) &&
      (match oi.guard with | some (j, _) => decide (j < i) && (match ops[j]? with | some oj => oj.dst.isSome | none => false) | none => true) &&
      (List.range m).all fun j => match ops[j]? with
        | none => false
        | some oj => match oj.dst with
          | none => true
          | some t => (if (reads ops oi).contains t && decide (j < i) then (deps oi).contains j else true) &&
              (if (reads ops oi).contains t && decide (i < j) then (deps oj).contains i else true) &&
              (if oi.dst == some t && decide (j < i) then (deps oi).contains j else true)

/-- the tmps when the operations of S are done, of the first k -/
def tmS (tm0 : List AV) (ops : Array Oper) (rs : List (AV × List AObj)) (S : Nat → Bool) : Nat → List AV
  | 0 => tm0
  | k + 1 => if S k then (match (ops[k]?).bind (·.dst), rs[k]? with | some d, some (v, _) => lset (tmS tm0 ops rs S k) d v | _, _ => tmS tm0 ops rs S k) else tmS tm0 ops rs S k

theorem tmS_length (tm0 : List AV) (ops : Array Oper) (rs : List (AV × List AObj)) (S : Nat → Bool) : ∀ k, (tmS tm0 ops rs S k).length = tm0.length
  | 0 => rfl
  | k + 1 => by
    unfold tmS
    split
    · split
      · rw [lset_length, tmS_length]
      · exact tmS_length ..
    · exact tmS_length ..

theorem tmS_agree {tm0 : List AV} {ops : Array Oper} {rs : List (AV × List AObj)} {S S' : Nat → Bool} {t : Tmp} : ∀ (k : Nat), (∀ j, j < k → (ops[j]?).bind (·.dst) = some t → S j = S' j) → lget (tmS tm0 ops rs S k) t = lget (tmS tm0 ops rs S' k) t
  | 0, _ => rfl
  | k + 1, h => by
    have ih := tmS_agree (tm0 := tm0) (rs := rs) k fun j hj => h j (by omega)
    have one : ∀ R : Nat → Bool, (ops[k]?).bind (·.dst) ≠ some t → lget (tmS tm0 ops rs R (k + 1)) t = lget (tmS tm0 ops rs R k) t := by
      intro R hne
      rw [tmS]
      split
      · split
        · rename_i d v _ hd hv
          exact lget_lset_ne _ _ _ _ fun e => hne (by rw [hd, e])
        · rfl
      · rfl
    by_cases hd : (ops[k]?).bind (·.dst) = some t
    · have hS := h k (Nat.lt_succ_self k) hd
      rw [tmS, tmS, hS]
      split
      · split
        · rename_i d v _ hd' hv
          rw [hd] at hd'; cases hd'
          by_cases hlt : t < tm0.length
          · rw [lget_lset_eq _ _ _ (by rw [tmS_length]; exact hlt), lget_lset_eq _ _ _ (by rw [tmS_length]; exact hlt)]
          · rw [lget_ge _ _ (by rw [lset_length, tmS_length]; exact Nat.not_lt.1 hlt), lget_ge _ _ (by rw [lset_length, tmS_length]; exact Nat.not_lt.1 hlt)]
        · exact ih
      · exact ih
    · rw [one S hd, one S' hd, ih]

theorem tmS_last {tm0 : List AV} {ops : Array Oper} {rs : List (AV × List AObj)} {S : Nat → Bool} {i : Nat} {t : Tmp} {v : AV} {N : List AObj} (hS : S i = true) (hd : (ops[i]?).bind (·.dst) = some t) (hv : rs[i]? = some (v, N)) (ht : t < tm0.length) :
    ∀ (k : Nat), i < k → (∀ j, i < j → j < k → (ops[j]?).bind (·.dst) = some t → S j = false) → lget (tmS tm0 ops rs S k) t = v
  | 0, h, _ => by omega
  | k + 1, h, hn => by
    rw [tmS]
    by_cases e : k = i
    · subst e
      rw [if_pos hS, hd, hv]
      exact lget_lset_eq _ _ _ (by rw [tmS_length]; exact ht)
    · have ih := tmS_last hS hd hv ht k (by omega) fun j h1 h2 => hn j h1 (by omega)
      split
      · rename_i hk
        split
        · rename_i d u M hd' hv'
          have : d ≠ t := by
            rintro rfl
            have := hn k (by omega) (Nat.lt_succ_self k) hd'
            rw [this] at hk; cases hk
          rw [lget_lset_ne _ _ _ _ this]; exact ih
        · exact ih
      · exact ih

/-- the heap ahead of operation i -/
def heapS (H : List AObj) (rs : List (AV × List AObj)) (i : Nat) : List AObj := H ++ ((rs.take i).map (·.2)).flatten
theorem heapS_succ {H : List AObj} {rs : List (AV × List AObj)} {i : Nat} {v : AV} {N : List AObj} (h : rs[i]? = some (v, N)) : heapS H rs (i + 1) = heapS H rs i ++ N := by
  have hlt := (List.getElem?_eq_some_iff.1 h).1
  have he := (List.getElem?_eq_some_iff.1 h).2
  unfold heapS
  rw [List.take_succ_eq_append_getElem hlt, he]
  simp
theorem heapS_le {H : List AObj} {rs : List (AV × List AObj)} {i : Nat} : heapS H rs i <+: heapS H rs rs.length := by
  unfold heapS
  rw [List.take_length]
  refine ⟨((rs.drop i).map (·.2)).flatten, ?_⟩
  rw [List.append_assoc, ← List.flatten_append, ← List.map_append, List.take_append_drop]

theorem runD_get {ops : Array Oper} {m : Nat} {st : AS} {rs : List (AV × List AObj)} : ∀ (rest pre : List Oper) (rp rr : List (AV × List AObj)), ops.toList.take m = pre ++ rest → rs = rp ++ rr → rp.length = pre.length →
    runD P GT ops rest ⟨tmS st.tmps ops rs (fun _ => true) pre.length, heapS st.heap rs pre.length⟩ rr →
    rr.length = rest.length ∧ ∀ i, pre.length ≤ i → i < (ops.toList.take m).length → ∃ oi v N, ops[i]? = some oi ∧ rs[i]? = some (v, N) ∧ DStep P GT ops oi ⟨tmS st.tmps ops rs (fun _ => true) i, heapS st.heap rs i⟩ v N
  | [], pre, rp, rr, ho, hr, hl, h => by
    simp only [runD] at h
    subst h
    refine ⟨rfl, fun i h1 h2 => ?_⟩
    rw [ho] at h2
    simp at h2
    omega
  | o :: rest, pre, rp, rr, ho, hr, hl, h => by
    obtain ⟨v, N, rs', rfl, h1, h2⟩ := h
    have hk : ops[pre.length]? = some o := by
      have h0 : (ops.toList.take m)[pre.length]? = some o := by rw [ho, List.getElem?_append_right (Nat.le_refl _)]; simp
      rw [List.getElem?_take] at h0
      split at h0
      · rw [← Array.getElem?_toList]; exact h0
      · cases h0
    have hv : rs[pre.length]? = some (v, N) := by
      rw [hr, ← hl, List.getElem?_append_right (Nat.le_refl _)]; simp
    have hput : AS.put ⟨tmS st.tmps ops rs (fun _ => true) pre.length, heapS st.heap rs pre.length⟩ o.dst v (heapS st.heap rs pre.length ++ N) = ⟨tmS st.tmps ops rs (fun _ => true) (pre ++ [o]).length, heapS st.heap rs (pre ++ [o]).length⟩ := by
      have e : (pre ++ [o]).length = pre.length + 1 := by simp
      rw [e, heapS_succ hv]
      simp only [AS.put, tmS, if_true, hk, hv, Option.bind_some]
      cases o.dst <;> rfl
    simp only at h2
    rw [hput] at h2
    obtain ⟨q1, q2⟩ := runD_get (m := m) rest (pre ++ [o]) (rp ++ [(v, N)]) rs' (by simp [ho]) (by simp [hr]) (by simp [hl]) h2
    refine ⟨by simp [q1], fun i hi hlt => ?_⟩
    by_cases e : i = pre.length
    · subst e; exact ⟨o, v, N, hk, hv, h1⟩
    · exact q2 i (by simp; omega) hlt

theorem callOf_reads {o : Oper} {f : Operand} {args : Array Operand} (h : callOf o.op = some (f, args)) : f ∈ o.op.operands ∧ ∀ x ∈ args, x ∈ o.op.operands := by
  unfold callOf at h
  split at h
  · rename_i c hop
    split at h
    · rename_i f' hc
      cases h
      rw [hop]
      simp only [Op.operands, Call.operands, hc]
      refine ⟨by simp, fun x hx => ?_⟩
      simp only [Array.mem_append]
      exact .inr hx
    · cases h
  · cases h

/-- a new map of data takes the place that was kept for it -/
theorem adopt_rel {w0 w : World} {own0 own : Nat → Slot} {Hf : List AObj} {es : List (D × AV)} {p c : Nat} (hR0 : RelH GT w0.heap own0 Hf) (hR : RelH GT w.heap own (Hf ++ [.map es])) (hm : Mv w0 own0 Hf w own (Hf ++ [.map es])) (hp : Hf[p]? = some (.map es)) (hno : own0 p = .no)
    (hes : ∀ e ∈ es, ∃ x, e.2 = .d x) (hc : own Hf.length = .at c) :
    ∃ own2, RelH GT w.heap own2 Hf ∧ Pass w0.heap own0 Hf w.heap own2 Hf ∧ own2 p = .at c ∧ (∀ b, own0 b = .no → own2 b = .no ∨ b = p) ∧
      ∀ v a, RepA w.heap (Still w.heap own (Hf ++ [.map es])) own (Hf ++ [.map es]) v a → cloA Hf.length a = true → RepA w.heap (Still w.heap own2 Hf) own2 Hf v a := by
  have hlt : p < Hf.length := lt_of_get hp
  have hnp : own p = .no := hm.2.1 p hlt hno
  have hpre : ∀ b, b < Hf.length → (Hf ++ [AObj.map es])[b]? = Hf[b]? := fun b hb => List.getElem?_append_left hb
  have hself : (Hf ++ [AObj.map es])[Hf.length]? = some (.map es) := by simp
  have hcut : ∀ b, b < Hf.length → b ≠ p → upd (cut Hf.length own) p (.at c) b = own b := fun b hb hne => by rw [upd_ne _ _ hne]; simp [cut, hb]
  have how : ∀ b, b < Hf.length → own b ≠ .no → upd (cut Hf.length own) p (.at c) b = own b := fun b hb hne => hcut b hb (by rintro rfl; exact hne hnp)
  have hout : ∀ b, Hf.length ≤ b → upd (cut Hf.length own) p (.at c) b = .no := fun b hb => by
    rw [upd_ne _ _ (by omega)]; simp [cut]; omega
  have hst : ∀ x, Still w.heap own (Hf ++ [.map es]) x → Still w.heap (upd (cut Hf.length own) p (.at c)) Hf x := fun x hx => ⟨hx.1, fun b o ho hb => by
    have hb' : b < Hf.length := lt_of_get hb
    by_cases e : b = p
    · subst e
      rw [upd_eq] at ho
      cases ho
      have := hx.2 Hf.length _ hc hself
      cases this
    · rw [hcut b hb' e] at ho
      exact hx.2 b o ho ((hpre b hb').trans hb)⟩
  refine ⟨upd (cut Hf.length own) p (.at c), ⟨hout, fun b b' x hb hb' => ?_, fun b x o ho hb => ?_, fun b hb => ?_, fun g cs hg => ?_⟩, ⟨hm.1.size, fun x hx => ?_, fun b o hb => ?_, hm.1.rows⟩, upd_eq _ _ _, fun b hb => ?_, fun v a r hcl => r.shrink hst hpre how hcl⟩
  · have key : ∀ b, upd (cut Hf.length own) p (.at c) b = .at x → (b = p ∧ x = c) ∨ (b ≠ p ∧ b < Hf.length ∧ own b = .at x) := by
      intro b hb
      by_cases e : b = p
      · subst e; rw [upd_eq] at hb; cases hb; exact .inl ⟨rfl, rfl⟩
      · rcases Nat.lt_or_ge b Hf.length with h1 | h1
        · rw [hcut b h1 e] at hb; exact .inr ⟨e, h1, hb⟩
        · rw [hout b h1] at hb; cases hb
    rcases key b hb with ⟨rfl, rfl⟩ | ⟨e1, e2, e3⟩
    · rcases key b' hb' with ⟨rfl, _⟩ | ⟨f1, f2, f3⟩
      · rfl
      · have := hR.inj _ _ _ f3 hc; omega
    · rcases key b' hb' with ⟨rfl, rfl⟩ | ⟨f1, f2, f3⟩
      · have := hR.inj _ _ _ e3 hc; omega
      · exact hR.inj _ _ _ e3 f3
  · have hb' : b < Hf.length := lt_of_get hb
    by_cases e : b = p
    · subst e
      rw [upd_eq] at ho
      cases ho
      rw [hp] at hb
      cases hb
      refine (hR.obj _ _ _ hc hself).shrink hst hpre how ?_
      simp only [cloO, List.all_eq_true]
      intro q hq
      obtain ⟨x, hx⟩ := hes q hq
      rw [hx]; rfl
    · rw [hcut b hb' e] at ho
      refine (hR.obj b x o ho ((hpre b hb').trans hb)).shrink hst hpre how ?_
      cases hs : own0 b with
      | no => have := hm.2.1 b hb' hs; rw [this] at ho; cases ho
      | virt =>
        obtain ⟨z, g, fz, h2, _⟩ := hR0.virt b hs
        rw [hb] at h2; cases h2
        rfl
      | «at» c0 => exact (hR0.obj b c0 o hs hb).clo
  · rcases Nat.lt_or_ge b Hf.length with h1 | h1
    · by_cases e : b = p
      · subst e; rw [upd_eq] at hb; cases hb
      · rw [hcut b h1 e] at hb
        obtain ⟨z, g, fz, h2, h3⟩ := hR.virt b hb
        exact ⟨z, g, fz, (hpre b h1).symm.trans h2, h3⟩
    · rw [hout b h1] at hb; cases hb
  · exact (hR.glob g cs hg).shrink hst hpre how rfl
  · obtain ⟨h1, h2⟩ := hm.1.still x hx
    exact ⟨hst x h1, h2⟩
  · have hb' : b < Hf.length := lt_of_get hb
    obtain ⟨o', h1, h2, h3⟩ := hm.1.ext b o hb
    rw [hpre b hb'] at h1
    refine ⟨o', h1, h2, ?_⟩
    by_cases e : b = p
    · subst e
      rw [hp] at hb h1
      cases hb
      cases h1
      exact ⟨⟨es, rfl⟩, .inl hno⟩
    · rw [hcut b hb' e]; exact h3
  · by_cases e : b = p
    · exact .inr e
    · left
      rcases Nat.lt_or_ge b Hf.length with h1 | h1
      · rw [hcut b h1 e]; exact hm.2.1 b h1 hb
      · exact hout b h1

/-- ONE OPERATION, at whatever time: the heap is the last one, its own blocks lie nowhere yet -/
theorem dop_sound {o : Oper} {st : AS} {v : AV} {N Hf : List AObj} {tm : List AV} {own : Nat → Slot} {a : Act} {w : World} (hD : DOp P GT o st v N) (hpre : st.heap ++ N <+: Hf) (htm : ∀ x ∈ o.op.operands, ev GT tm x = ev GT st.tmps x)
    (hS : RelS GT w own ⟨tm, Hf⟩ a) (hno : ∀ b, st.heap.length ≤ b → b < st.heap.length + N.length → own b = .no) {next : Act → World → Prop} {Q : Exit → Act → World → Prop}
    (hn : ∀ a1 w1 own1, RelS GT w1 own1 (AS.put ⟨tm, Hf⟩ o.dst v Hf) a1 → Pass w.heap own Hf w1.heap own1 Hf → Kp w w1 → (∀ b, own b = .no → own1 b = .no ∨ (st.heap.length ≤ b ∧ b < st.heap.length + N.length)) → next a1 w1) : o.wp P a w next Q := by
  rcases hD with ⟨hc, hq⟩ | ⟨rfl, f, args, hc, g, fs, cs, hev, hcall⟩ | ⟨es, rfl, rfl, hes, f, args, hc, g, hev, hcall⟩
  · obtain ⟨cv, w1, own1, h1, h2, h3, h4, h5, _, hkp⟩ := qop_sound (o := o) (ρ := a.eval) (tm := st.tmps) (Hi := st.heap) hS.heap (fun x hx => by rw [← htm x hx]; exact hS.eval x) hq hpre hno
    refine wp_value h1 (hn _ _ own1 (hS.put h2 h3 o.dst h4) h3 hkp fun b hb => ?_)
    rcases h5 b with e | e
    · exact .inl (e.trans hb)
    · exact .inr e
  · obtain ⟨M, hM⟩ := hpre
    rw [List.append_nil] at hM
    obtain ⟨hr1, hr2⟩ := callOf_reads hc
    have hrun : ∀ (us vs : List Value) (l1 : us.length = fs.length) (l2 : vs.length = cs.length), a.eval f = .func (.func g) us.toArray vs.toArray → (∀ (j : Nat) v a, us[j]? = some v → fs[j]? = some a → VR w own Hf v a) → (∀ (j : Nat) v a, vs[j]? = some v → cs[j]? = some a → VR w own Hf v a) → o.wp P a w next Q := by
      intro us vs l1 l2 hf h1 h2
      have hc1 := hcall M
      have hrun := run_call (P := P) (w := w) hc hf hc1.1
      unfold Oper.wp
      rw [hrun]
      rw [hM] at hc1
      have hargs : ∀ (j : Nat) v b, (us ++ args.toList.map a.eval ++ vs)[j]? = some v → (fs ++ (args.toList.map fun x => coe (ev GT st.tmps x)) ++ cs)[j]? = some b → VR w own Hf v b := by
        refine append_rep (by simp [l1]) (append_rep l1 h1 ?_) h2
        intro j v b hv hb
        simp only [List.getElem?_map, Option.map_eq_some_iff] at hv hb
        obtain ⟨x, hx, rfl⟩ := hv
        obtain ⟨y, hy, rfl⟩ := hb
        rw [hx] at hy; cases hy
        rw [← htm x (hr2 x (by simpa using List.mem_of_getElem? hx))]
        exact coe_rep (hS.eval x)
      refine (hc1.2 w own _ hS.heap (by simp [l1, l2]) hargs).mono ?_
      rintro e w1 ⟨u, av, H1, own1, rfl, q1, q2, q3, rfl, rfl⟩
      refine hn _ _ own1 (hS.put q1 q2.1 o.dst q3) q2.1 q2.2.2 fun b hb => ?_
      rcases Nat.lt_or_ge b H1.length with hlt | hge
      · exact .inl (q2.2.1 b hlt hb)
      · exact .inl (q1.out b hge)
    have hfe : ev GT tm f = ev GT st.tmps f := htm f hr1
    have hf := hS.eval f
    rw [hfe] at hf
    rcases hev with ⟨he, rfl, rfl⟩ | he
    · rw [he] at hf
      have hfv : a.eval f = .func (.func g) #[] #[] := by
        have := hf.d_inv
        generalize a.eval f = y at this
        cases this; rfl
      exact hrun [] [] rfl rfl hfv (fun j v b hv => by simp at hv) (fun j v b hv => by simp at hv)
    · rw [he] at hf
      obtain ⟨us, vs, hfv, l1, l2, h1, h2⟩ := hf.fn_inv
      exact hrun us vs l1 l2 hfv h1 h2
  · obtain ⟨M, hM⟩ := hpre
    obtain ⟨hr1, hr2⟩ := callOf_reads hc
    have hp : Hf[st.heap.length]? = some (.map es) := by
      rw [← hM, List.append_assoc, List.getElem?_append_right (Nat.le_refl _)]; simp
    have hc1 := hcall ([.map es] ++ M)
    rw [← List.append_assoc, hM] at hc1
    have hfe : ev GT tm f = ev GT st.tmps f := htm f hr1
    have hf := hS.eval f
    rw [hfe, hev] at hf
    have hfv : a.eval f = .func (.func g) #[] #[] := by
      have := hf.d_inv
      generalize a.eval f = y at this
      cases this; rfl
    have hrun := run_call (P := P) (w := w) (fs := []) (cs := []) hc hfv hc1.1
    unfold Oper.wp
    rw [hrun]
    have hargs : ∀ (j : Nat) v b, (args.toList.map a.eval)[j]? = some v → (args.toList.map fun x => coe (ev GT st.tmps x))[j]? = some b → VR w own Hf v b := by
      intro j v b hv hb
      simp only [List.getElem?_map, Option.map_eq_some_iff] at hv hb
      obtain ⟨x, hx, rfl⟩ := hv
      obtain ⟨y, hy, rfl⟩ := hb
      rw [hx] at hy; cases hy
      rw [← htm x (hr2 x (by simpa using List.mem_of_getElem? hx))]
      exact coe_rep (hS.eval x)
    simp only [List.nil_append, List.append_nil]
    refine (hc1.2 w own _ hS.heap (by simp) hargs).mono ?_
    rintro e w1 ⟨u, av, H1, own1, rfl, q1, q2, q3, rfl, rfl⟩
    have hno0 : own st.heap.length = .no := hno _ (Nat.le_refl _) (by simp)
    obtain ⟨c, hv, hc'⟩ : ∃ c, u = .map (some c) ∧ own1 Hf.length = .at c := by
      cases q3 with
      | mp b c es' ho hb => exact ⟨c, rfl, ho⟩
    subst hv
    obtain ⟨own2, r1, r2, r3, r4, r5⟩ := adopt_rel hS.heap q1 q2 hp hno0 hes hc'
    refine hn _ _ own2 (hS.put r1 r2 o.dst (.mp _ c es r3 hp)) r2 q2.2.2 fun b hb => ?_
    rcases r4 b hb with h1 | h1
    · exact .inl h1
    · right; subst h1; simp

theorem drawOK_spec {ops : Array Oper} {m : Nat} (h : drawOK ops m = true) {i : Nat} {oi : Oper} (him : i < m) (hi : ops[i]? = some oi) :
    (∀ j ∈ deps oi, j < i) ∧ (∀ j w, oi.guard = some (j, w) → j < i ∧ ∃ oj, ops[j]? = some oj ∧ oj.dst.isSome = true) ∧
    ∀ (j : Nat) (oj : Oper) (t : Tmp), j < m → ops[j]? = some oj → oj.dst = some t → (t ∈ reads ops oi → j < i → j ∈ deps oi) ∧ (t ∈ reads ops oi → i < j → i ∈ deps oj) ∧ (oi.dst = some t → j < i → j ∈ deps oi) := by
  unfold drawOK at h
  rw [List.all_eq_true] at h
  have h1 := h i (List.mem_range.2 him)
  rw [hi] at h1
  simp only [Bool.and_eq_true, List.all_eq_true, decide_eq_true_eq] at h1
  obtain ⟨⟨h1, h2⟩, h3⟩ := h1
  refine ⟨h1, fun j w hg => ?_, fun j oj t hjm hj hd => ?_⟩
  · rw [hg] at h2
    simp only [Bool.and_eq_true, decide_eq_true_eq] at h2
    obtain ⟨h4, h5⟩ := h2
    cases hoj : ops[j]? with
    | none => rw [hoj] at h5; cases h5
    | some oj => rw [hoj] at h5; exact ⟨h4, oj, rfl, h5⟩
  · have h4 := h3 j (List.mem_range.2 hjm)
    rw [hj] at h4
    simp only [hd, Bool.and_eq_true] at h4
    obtain ⟨⟨h5, h6⟩, h7⟩ := h4
    refine ⟨fun ht hlt => ?_, fun ht hlt => ?_, fun ht hlt => ?_⟩
    · rw [if_pos (by simp [ht, hlt])] at h5; simpa using h5
    · rw [if_pos (by simp [ht, hlt])] at h6; simpa using h6
    · rw [if_pos (by simp [ht, hlt])] at h7; simpa using h7

theorem mem_deps {o : Oper} {j : Nat} : (∃ e ∈ o.after, Region.binds .any e = true ∧ e.on = j) ↔ j ∈ deps o := by
  simp only [deps, List.mem_map, List.mem_filter, Array.mem_toList_iff]
  constructor
  · rintro ⟨e, h1, h2, h3⟩; exact ⟨e, ⟨h1, h2⟩, h3⟩
  · rintro ⟨e, ⟨h1, h2⟩, h3⟩; exact ⟨e, h1, h2, h3⟩

/-- what holds between two operations -/
structure DInv (GT : Globs) (ops : Array Oper) (m : Nat) (rs : List (AV × List AObj)) (st : AS) (w0 : World) (own0 : Nat → Slot) (listed : Array Bool) (a : Act) (w : World) : Prop where
  size : listed.size = ops.size
  rel : ∃ own, RelS GT w own ⟨tmS st.tmps ops rs (fun i => listed.getD i false) m, heapS st.heap rs m⟩ a ∧ Mv w0 own0 st.heap w own (heapS st.heap rs m) ∧
    ∀ i v N, listed.getD i false = false → rs[i]? = some (v, N) → ∀ b, (heapS st.heap rs i).length ≤ b → b < (heapS st.heap rs i).length + N.length → own b = .no
  un : ∀ j, m ≤ j → listed.getD j false = false
  closed : ∀ i oi, ops[i]? = some oi → listed.getD i false = true → ∀ j ∈ deps oi, listed.getD j false = true

theorem ready_of {ops : Array Oper} {listed : Array Bool} (hs : listed.size = ops.size) {i : Nat} {oi : Oper} (hi : ops[i]? = some oi) (h0 : listed.getD i false = false) (hd : ∀ j ∈ deps oi, listed.getD j false = true) : i ∈ Region.ready .any ops listed := by
  refine mem_ready.2 ⟨?_, oi, hi, fun e he hb => hd _ (mem_deps.1 ⟨e, he, hb, rfl⟩)⟩
  have hlt : i < listed.size := by rw [hs]; exact (Array.getElem?_eq_some_iff.1 hi).1
  simp only [Array.getD_eq_getD_getElem?, Array.getElem?_eq_getElem hlt, Option.getD_some] at h0 ⊢
  exact h0

theorem all_listed {ops : Array Oper} {m : Nat} {listed : Array Bool} (hms : m ≤ ops.size) (hok : drawOK ops m = true) (hs : listed.size = ops.size) (hr : Region.ready .any ops listed = []) : ∀ i, i < m → listed.getD i false = true := by
  intro i
  induction i using Nat.strongRecOn with
  | _ i ih =>
    intro hi
    cases h : listed.getD i false with
    | true => rfl
    | false =>
      have hoi := Array.getElem?_eq_getElem (show i < ops.size by omega)
      obtain ⟨h1, _, _⟩ := drawOK_spec hok hi hoi
      have := ready_of hs hoi h fun j hj => ih j (h1 j hj) (by have := h1 j hj; omega)
      rw [hr] at this; cases this

theorem DInv.done {ops : Array Oper} {m : Nat} {rs : List (AV × List AObj)} {st : AS} {w0 : World} {own0 : Nat → Slot} {listed : Array Bool} {a : Act} {w : World} {K : AS → Prop} (hI : DInv GT ops m rs st w0 own0 listed a w) (hall : ∀ i, i < m → listed.getD i false = true)
    (hK : K ⟨tmS st.tmps ops rs (fun _ => true) m, heapS st.heap rs m⟩) : ∃ own' st', Mv w0 own0 st.heap w own' st'.heap ∧ RelS GT w own' st' a ∧ K st' := by
  obtain ⟨own, hS, hm, _⟩ := hI.rel
  refine ⟨own, _, hm, ?_, hK⟩
  have : tmS st.tmps ops rs (fun i => listed.getD i false) m = tmS st.tmps ops rs (fun _ => true) m :=
    list_ext_lget (by rw [tmS_length, tmS_length]) fun t _ => tmS_agree _ fun j hj _ => hall j hj
  rw [← this]; exact hS

theorem tmS_cut {tm0 : List AV} {ops : Array Oper} {rs : List (AV × List AObj)} {i : Nat} (t : Tmp) : ∀ m, lget (tmS tm0 ops rs (fun j => decide (j < i)) (i + m)) t = lget (tmS tm0 ops rs (fun _ => true) i) t
  | 0 => tmS_agree i fun j hj _ => by simp [hj]
  | m + 1 => by
    have : tmS tm0 ops rs (fun j => decide (j < i)) (i + (m + 1)) = tmS tm0 ops rs (fun j => decide (j < i)) (i + m) := by
      show tmS tm0 ops rs _ ((i + m) + 1) = _
      rw [tmS, if_neg (by simp)]
    rw [this]; exact tmS_cut t m

theorem heapS_mono {H : List AObj} {rs : List (AV × List AObj)} {i j : Nat} (h : i ≤ j) : (heapS H rs i).length ≤ (heapS H rs j).length := by
  have e : rs.take j = rs.take i ++ (rs.take j).drop i := by
    have := List.take_append_drop i (rs.take j)
    rw [List.take_take, Nat.min_eq_left h] at this
    exact this.symm
  unfold heapS
  rw [e]
  simp

theorem DInv.step {ops : Array Oper} {m : Nat} {rs : List (AV × List AObj)} {st : AS} {w0 : World} {own0 : Nat → Slot} {listed : Array Bool} {a : Act} {w : World} (hms : m ≤ ops.size) (hok : drawOK ops m = true) (hlen : rs.length = m)
    (hstep : ∀ i, i < m → ∃ oi v N, ops[i]? = some oi ∧ rs[i]? = some (v, N) ∧ DStep P GT ops oi ⟨tmS st.tmps ops rs (fun _ => true) i, heapS st.heap rs i⟩ v N)
    (hI : DInv GT ops m rs st w0 own0 listed a w) {i : Nat} (him : i < m) (hi : i ∈ Region.ready .any ops listed) {Q : Exit → Act → World → Prop} {next : Act → World → Prop}
    (hn : ∀ a1 w1, DInv GT ops m rs st w0 own0 (listed.setIfInBounds i true) a1 w1 → next a1 w1) : wpOp P ops Q i next a w := by
  obtain ⟨h0, oi, hoi, hdep⟩ := mem_ready.1 hi
  have hlt : i < ops.size := (Array.getElem?_eq_some_iff.1 hoi).1
  obtain ⟨oi', v, N, e1, hv, hD⟩ := hstep i him
  rw [hoi] at e1; cases e1
  obtain ⟨own, hS, hm, hno⟩ := hI.rel
  have hdeps : ∀ j ∈ deps oi, listed.getD j false = true := fun j hj => by
    obtain ⟨e, h1, h2, h3⟩ := mem_deps.2 hj
    rw [← h3]; exact hdep e h1 h2
  have h0f : listed.getD i false = false := by
    have hl : i < listed.size := by rw [hI.size]; exact hlt
    simp only [Array.getD_eq_getD_getElem?, Array.getElem?_eq_getElem hl, Option.getD_some] at h0 ⊢
    exact h0
  obtain ⟨k1, k2, k3⟩ := drawOK_spec hok him hoi
  -- what it reads is as in the sequential run
  have agree : ∀ t ∈ reads ops oi, lget (tmS st.tmps ops rs (fun j => listed.getD j false) m) t = lget (tmS st.tmps ops rs (fun _ => true) i) t := by
    intro t ht
    obtain ⟨m', hm'⟩ : ∃ m', m = i + m' := ⟨m - i, by omega⟩
    rw [← tmS_cut (tm0 := st.tmps) (ops := ops) (rs := rs) (i := i) t m', ← hm']
    refine tmS_agree _ fun j hj hd => ?_
    cases hoj : ops[j]? with
    | none => rw [hoj] at hd; cases hd
    | some oj =>
      rw [hoj] at hd
      obtain ⟨q1, q2, _⟩ := k3 j oj t hj hoj hd
      by_cases hji : j < i
      · simp only [hji, decide_true]; exact hdeps j (q1 ht hji)
      · simp only [hji, decide_false]
        by_cases e : j = i
        · subst e; exact h0f
        · cases hl : listed.getD j false with
          | false => rfl
          | true => have := hI.closed j oj hoj hl i (q2 ht (by omega)); rw [h0f] at this; cases this
  have evag : ∀ x ∈ oi.op.operands, ev GT (tmS st.tmps ops rs (fun j => listed.getD j false) m) x = ev GT (tmS st.tmps ops rs (fun _ => true) i) x := by
    intro x hx
    cases x with
    | tmp t =>
      refine agree t ?_
      unfold reads Oper.looksAt
      refine List.mem_append_left _ (List.mem_filterMap.2 ⟨.tmp t, by simpa using hx, rfl⟩)
    | _ => rfl
  have hset : ∀ j, (listed.setIfInBounds i true).getD j false = if j = i then true else listed.getD j false := by
    intro j
    by_cases e : j = i
    · subst e
      rw [if_pos rfl]
      have hl : j < listed.size := by rw [hI.size]; exact hlt
      simp [hl]
    · rw [if_neg e, getD_set_ne false (fun x => e x.symm)]
  -- behind it
  have after : ∀ a1 w1 own1, RelS GT w1 own1 (AS.put ⟨tmS st.tmps ops rs (fun j => listed.getD j false) m, heapS st.heap rs m⟩ oi.dst v (heapS st.heap rs m)) a1 → Pass w.heap own (heapS st.heap rs m) w1.heap own1 (heapS st.heap rs m) → Kp w w1 →
      (∀ b, own b = .no → own1 b = .no ∨ ((heapS st.heap rs i).length ≤ b ∧ b < (heapS st.heap rs i).length + N.length)) → next a1 w1 := by
    intro a1 w1 own1 hS1 hp1 hkp1 hno1
    refine hn a1 w1 ⟨by simp [hI.size], ⟨own1, ?_, ?_, ?_⟩, fun j hj => by rw [hset, if_neg (by omega)]; exact hI.un j hj, ?_⟩
    · have heq : (AS.put ⟨tmS st.tmps ops rs (fun j => listed.getD j false) m, heapS st.heap rs m⟩ oi.dst v (heapS st.heap rs m)) = ⟨tmS st.tmps ops rs (fun j => (listed.setIfInBounds i true).getD j false) m, heapS st.heap rs m⟩ := by
        unfold AS.put
        congr 1
        have other : ∀ t, oi.dst ≠ some t → lget (tmS st.tmps ops rs (fun j => listed.getD j false) m) t = lget (tmS st.tmps ops rs (fun j => (listed.setIfInBounds i true).getD j false) m) t := by
          intro t ht
          refine tmS_agree _ fun j hj hd => ?_
          rw [hset, if_neg]
          rintro rfl
          rw [hoi] at hd; exact ht hd
        cases hd : oi.dst with
        | none => exact list_ext_lget (by rw [tmS_length, tmS_length]) fun t _ => other t (by rw [hd]; simp)
        | some d =>
          refine list_ext_lget (by rw [lset_length, tmS_length, tmS_length]) fun t ht => ?_
          rw [lset_length, tmS_length] at ht
          by_cases e : d = t
          · subst e
            rw [lget_lset_eq _ _ _ (by rw [tmS_length]; exact ht)]
            refine (tmS_last (S := fun j => (listed.setIfInBounds i true).getD j false) (i := i) (N := N) (by show (listed.setIfInBounds i true).getD i false = true; rw [hset, if_pos rfl]) (by rw [hoi]; exact hd) hv ht m him fun j h1 h2 h3 => ?_).symm
            show (listed.setIfInBounds i true).getD j false = false
            rw [hset, if_neg (by omega)]
            cases hoj : ops[j]? with
            | none => rw [hoj] at h3; cases h3
            | some oj =>
              rw [hoj] at h3
              cases hl : listed.getD j false with
              | false => rfl
              | true =>
                have := hI.closed j oj hoj hl i (((drawOK_spec hok h2 hoj).2.2 i oi d him hoi hd).2.2 h3 h1)
                rw [h0f] at this; cases this
          · rw [lget_lset_ne _ _ _ _ e]
            exact other t (by rw [hd]; simpa using e)
      rw [← heq]; exact hS1
    · refine ⟨hm.1.trans hp1, fun b hb hnb => ?_, hm.2.2.trans hkp1⟩
      rcases hno1 b (hm.2.1 b hb hnb) with h | h
      · exact h
      · have : st.heap.length ≤ (heapS st.heap rs i).length := by simp [heapS]
        omega
    · intro j u M hj hju b hb1 hb2
      rw [hset] at hj
      by_cases e : j = i
      · rw [if_pos e] at hj; cases hj
      · rw [if_neg e] at hj
        rcases hno1 b (hno j u M hj hju b hb1 hb2) with h | ⟨h1, h2⟩
        · exact h
        · exfalso
          have s1 := congrArg List.length (heapS_succ (H := st.heap) hv)
          have s2 := congrArg List.length (heapS_succ (H := st.heap) hju)
          simp only [List.length_append] at s1 s2
          rcases Nat.lt_or_gt_of_ne e with h | h
          · have := heapS_mono (H := st.heap) (rs := rs) (show j + 1 ≤ i by omega); omega
          · have := heapS_mono (H := st.heap) (rs := rs) (show i + 1 ≤ j by omega); omega
    · intro j oj hoj hj k hk
      rw [hset] at hj ⊢
      by_cases e : k = i
      · rw [if_pos e]
      · rw [if_neg e]
        by_cases e2 : j = i
        · subst e2; rw [hoi] at hoj; cases hoj; exact hdeps k hk
        · rw [if_neg e2] at hj; exact hI.closed j oj hoj hj k hk
  have hpre : heapS st.heap rs i ++ N <+: heapS st.heap rs m := by
    rw [← heapS_succ hv]
    obtain ⟨M, hM⟩ := heapS_le (H := st.heap) (rs := rs.take m) (i := i + 1)
    have e1 : heapS st.heap (rs.take m) (i + 1) = heapS st.heap rs (i + 1) := by unfold heapS; rw [List.take_take, Nat.min_eq_left (by omega)]
    have e2 : heapS st.heap (rs.take m) (rs.take m).length = heapS st.heap rs m := by unfold heapS; rw [List.take_length]
    exact ⟨M, by rw [← e1, ← e2]; exact hM⟩
  have run : DOp P GT oi ⟨tmS st.tmps ops rs (fun _ => true) i, heapS st.heap rs i⟩ v N → oi.wp P a w next Q := fun hD =>
    dop_sound hD hpre evag hS (hno i v N h0f hv) after
  have skip : v = .tup [] → N = [] → next (a.put oi.dst undef) w := by
    rintro rfl rfl
    exact after _ w own (hS.skip oi.dst) (.refl _ _ _) (.refl _) fun b hb => .inl hb
  unfold wpOp
  rw [hoi]
  simp only
  unfold DStep at hD
  cases hg : oi.guard with
  | none =>
    rw [hg] at hD
    have hw : Region.wanted oi (yielded ops a.tmps) = true := by simp [Region.wanted, hg]
    rw [if_pos hw]
    exact .inl (run hD)
  | some p =>
    obtain ⟨j, want⟩ := p
    rw [hg] at hD
    simp only at hD
    have hgv : gval ops (tmS st.tmps ops rs (fun _ => true) i) j = gval ops (tmS st.tmps ops rs (fun j => listed.getD j false) m) j := by
      unfold gval
      cases hd : (ops[j]?).bind (·.dst) with
      | none => rfl
      | some t =>
        refine (agree t ?_).symm
        unfold reads Oper.looksAt
        refine List.mem_append_right _ ?_
        rw [hg]; simp [hd]
    rw [hgv] at hD
    split at hD
    · rename_i b hb
      have hy := gval_bool hS hb
      by_cases hbw : b = want
      · rw [if_pos hbw] at hD
        have hw : Region.wanted oi (yielded ops a.tmps) = true := by simp [Region.wanted, hg, hy, hbw]
        rw [if_pos hw]
        exact .inl (run hD)
      · rw [if_neg hbw] at hD
        have hw : Region.wanted oi (yielded ops a.tmps) = false := by simp [Region.wanted, hg, hy, hbw]
        rw [if_neg (by rw [hw]; simp)]
        exact skip hD.1 hD.2
    · rename_i hb
      have hy := gval_none hS hb
      have hw : Region.wanted oi (yielded ops a.tmps) = false := by simp [Region.wanted, hg, hy]
      rw [if_neg (by rw [hw]; simp)]
      exact skip hD.1 hD.2
    · exact hD.elim

theorem countP_one {n i : Nat} {f f' : Nat → Bool} (hi : i < n) (h1 : f i = true) (h2 : f' i = false) (h3 : ∀ j, j ≠ i → f' j = f j) : (List.range n).countP f' + 1 = (List.range n).countP f := by
  induction n with
  | zero => omega
  | succ n ih =>
    rw [List.range_succ, List.countP_append, List.countP_append]
    by_cases e : i = n
    · subst e
      have : (List.range i).countP f' = (List.range i).countP f := by
        apply List.countP_congr
        intro x hx
        have := List.mem_range.1 hx
        rw [h3 x (by omega)]
      simp [h1, h2, this]
    · have := ih (by omega)
      have h4 : f' n = f n := h3 n (fun x => e x.symm)
      simp only [List.countP_cons, List.countP_nil, h4]
      omega


/-- what an operation waits for, through others too -/
def odeps (ops : Array Oper) (j : Nat) : List Nat := match ops[j]? with | some o => deps o | none => []
def sweep (ops : Array Oper) : Nat → List Nat → List Nat
  | 0, l => l
  | j + 1, l => if l.contains j then sweep ops j (l ++ odeps ops j) else sweep ops j l
/-- from operation m on: each after all before it -/
def sufOK (ops : Array Oper) (m : Nat) (fl : List Nat) : Bool :=
  decide (m ≤ ops.size) && (decide (m = ops.size) || ((List.range m).all fun j => (sweep ops m (odeps ops m)).contains j || fl.contains j)) &&
  (List.range ops.size).all fun i => if m ≤ i then (odeps ops i).all (fun j => decide (j < i)) && (decide (i = m) || (odeps ops i).contains (i - 1)) else true

theorem sweep_all {ops : Array Oper} {p : Nat → Prop} (hp : ∀ j, p j → ∀ k ∈ odeps ops j, p k) : ∀ (n : Nat) (l : List Nat), (∀ j ∈ l, p j) → ∀ j ∈ sweep ops n l, p j
  | 0, l, h, j, hj => h j hj
  | n + 1, l, h, j, hj => by
    unfold sweep at hj
    split at hj
    · rename_i hc
      refine sweep_all hp n _ (fun k hk => ?_) j hj
      rcases List.mem_append.1 hk with h1 | h1
      · exact h k h1
      · exact hp n (h n (by simpa using hc)) k h1
    · exact sweep_all hp n l h j hj

theorem aops2_cons {ops : Array Oper} {o : Oper} {rest : List Oper} {K : AS → Prop} {st : AS} {w : World} {own : Nat → Slot} {a : Act} (h : aops2 P GT ops (o :: rest) K st) (hS : RelS GT w own st a) {next : Act → World → Prop} {Q : Exit → Act → World → Prop}
    (hn : ∀ a' w' own' st', Mv w own st.heap w' own' st'.heap → RelS GT w' own' st' a' → aops2 P GT ops rest K st' → next a' w') :
    if Region.wanted o (yielded ops a.tmps) then o.wp P a w next Q else next (a.put o.dst undef) w := by
  have skip : aops2 P GT ops rest K (st.put o.dst (.tup []) st.heap) → next (a.put o.dst undef) w := fun h =>
    hn (a.put o.dst undef) w own (st.put o.dst (.tup []) st.heap) (.refl _ _ _) (hS.skip o.dst) h
  simp only [aops2] at h
  split at h
  · rename_i hg
    have hw : Region.wanted o (yielded ops a.tmps) = true := by simp [Region.wanted, hg]
    rw [if_pos hw]
    exact aopB_sound h hS hn
  · rename_i j want hg
    split at h
    · rename_i b hb
      have hy := gval_bool hS hb
      by_cases hbw : b = want
      · rw [if_pos hbw] at h
        have hw : Region.wanted o (yielded ops a.tmps) = true := by simp [Region.wanted, hg, hy, hbw]
        rw [if_pos hw]
        exact aopB_sound h hS hn
      · rw [if_neg hbw] at h
        have hw : Region.wanted o (yielded ops a.tmps) = false := by simp [Region.wanted, hg, hy, hbw]
        rw [if_neg (by rw [hw]; simp)]
        exact skip h
    · rename_i hb
      have hy := gval_none hS hb
      have hw : Region.wanted o (yielded ops a.tmps) = false := by simp [Region.wanted, hg, hy]
      rw [if_neg (by rw [hw]; simp)]
      exact skip h
    · exact h.elim

/-- operations that touch no memory, apart from whatever does not wait for them: they may be run first -/
def floats : Op → Bool
  | .move _ => true
  | .assign _ => true
  | .binOp .add .. => true
  | .binOp .sub .. => true
  | .extract .. => true
  | _ => false
def floatOK (ops : Array Oper) (m : Nat) (_ : List Nat) (fl : List Nat) : Bool :=
  fl.all fun f => decide (f < m) && (match ops[f]? with
      | some o => floats o.op && o.guard.isNone && ((deps o).all fun j => (sweep ops m (odeps ops m)).contains j || fl.contains j) && (List.range ops.size).all fun j => match ops[j]? with
          | some oj => decide (j = f) || (sweep ops f (odeps ops f)).contains j || (deps oj).contains f || o.apart ops oj
          | none => false
      | none => false)

theorem float_yields {ops : Array Oper} {o : Oper} {st : AS} {v : AV} {N : List AObj} {w : World} {own : Nat → Slot} {s : AS} {a : Act} (hf : floats o.op = true) (hg : o.guard = none) (hD : DOp P GT o st v N) (hS : RelS GT w own s a) (hev : ∀ x ∈ o.op.operands, ev GT s.tmps x = ev GT st.tmps x) :
    ∃ u, Yields P ops o u a := by
  have hw : Region.wanted o (yielded ops a.tmps) = true := by simp [Region.wanted, hg]
  have hcall : callOf o.op = none := by
    cases hop : o.op <;> rw [hop] at hf <;> first | rfl | cases hf
  have hq : qop P GT st.tmps st.heap o.op = some (v, N) := by
    rcases hD with ⟨_, h⟩ | ⟨_, f, args, h, _⟩ | ⟨es, _, _, _, f, args, h, _⟩
    · exact h
    · rw [hcall] at h; cases h
    · rw [hcall] at h; cases h
  obtain ⟨dst, op, ty, pos, after, guard⟩ := o
  simp only at hf hq hcall hev hg
  cases op with
  | move x => exact ⟨a.eval x, .inl ⟨hw, fun w' => by simp [execOp]⟩⟩
  | assign x => exact ⟨a.eval x, .inl ⟨hw, fun w' => by simp [execOp]⟩⟩
  | extract x i =>
    have hx := hS.eval x
    rw [hev x (by simp [Op.operands])] at hx
    simp only [qop] at hq
    generalize ev GT st.tmps x = ax at hq hx
    generalize hcx : a.eval x = cx at hx
    cases ax with
    | tup vs =>
      cases hx with
      | tup us _ hl hr =>
        simp only [Option.map_eq_some_iff] at hq
        obtain ⟨u, hu, _⟩ := hq
        have hi : i < us.length := by rw [hl]; exact (List.getElem?_eq_some_iff.1 hu).1
        exact ⟨us[i], .inl ⟨hw, fun w' => by simp [execOp, hcx, Instr.extract, hi]⟩⟩
    | _ => cases hq
  | binOp op t x y yt =>
    simp only [qop, Option.map_eq_some_iff] at hq
    obtain ⟨r, hr, _⟩ := hq
    have hx := hS.eval x
    have hy := hS.eval y
    rw [hev x (by simp [Op.operands])] at hx
    rw [hev y (by simp [Op.operands])] at hy
    have hop : op = .add ∨ op = .sub := by cases op <;> first | exact .inl rfl | exact .inr rfl | cases hf
    generalize ev GT st.tmps x = ax at hr hx
    generalize ev GT st.tmps y = ay at hr hy
    unfold abin at hr
    generalize hcx : a.eval x = cx at hx
    generalize hcy : a.eval y = cy at hy
    split at hr
    · rename_i k m k' m'
      split at hr
      · rename_i hk
        subst hk
        cases hx.d_inv with
        | int _ _ ha =>
        cases hy.d_inv with
        | int _ _ hb =>
        rcases hop with rfl | rfl
        · exact ⟨.int k (k.wrap (m + m')), .inl ⟨hw, fun w' => by simp [execOp, hcx, hcy, eqGuard, Go.binOp, Op.intArith]⟩⟩
        · exact ⟨.int k (k.wrap (m - m')), .inl ⟨hw, fun w' => by simp [execOp, hcx, hcy, eqGuard, Go.binOp, Op.intArith]⟩⟩
      · cases hr
    · rename_i s1 s2
      cases hx.d_inv with
      | str _ ha =>
      cases hy.d_inv with
      | str _ hb =>
      rcases hop with rfl | rfl
      · simp only at hr
        split at hr
        · rename_i hle
          simp only [maxN] at hle
          exact ⟨.string (s1 ++ s2), .inl ⟨hw, fun w' => by simp [execOp, hcx, hcy, eqGuard, Go.binOp, Op.stringOp]; omega⟩⟩
        · cases hr
      · cases hr
    · rcases hop with rfl | rfl <;> (split at hr <;> simp_all)
    · split at hr
      · rcases hop with rfl | rfl <;> (split at hr <;> simp_all)
      · cases hr
    · cases hr
  | _ => cases hf

/-- A REGION WHOSE ORDER IS OPEN up to operation m, and fixed from there on; the operations 'fl' are taken first -/
theorem draw_sound {id : Nat} {ops : Array Oper} {m : Nat} {fl : List Nat} {rs : List (AV × List AObj)} {st : AS} {K : AS → Prop} (hm : P.follows .mixedOrders = true) (hok : drawOK ops m = true) (hsf : sufOK ops m fl = true) (hfl : floatOK ops m [] fl = true) (hns : fl = [] ∨ Region.noSelect ops = true) (hr : runD P GT ops (ops.toList.take m) st rs)
    (hK : aops2 P GT ops (ops.toList.drop m) K ⟨tmS st.tmps ops rs (fun _ => true) m, heapS st.heap rs m⟩) : ADraw P GT id ops K st := by
  intro own0 a0 w0 hS0
  unfold sufOK at hsf
  simp only [Bool.and_eq_true, decide_eq_true_eq, Bool.or_eq_true, List.all_eq_true, List.mem_range] at hsf
  obtain ⟨⟨hms, hs1⟩, hs2⟩ := hsf
  have htl : (ops.toList.take m).length = m := by rw [List.length_take, Array.length_toList]; omega
  obtain ⟨hlen, hstep⟩ := runD_get (P := P) (GT := GT) (ops := ops) (m := m) (st := st) (rs := rs) (ops.toList.take m) [] [] rs rfl rfl rfl (by simpa [tmS, heapS] using hr)
  rw [htl] at hlen hstep
  have hsuf : ∀ i, m ≤ i → i < ops.size → (∀ j ∈ odeps ops i, j < i) ∧ (i = m ∨ i - 1 ∈ odeps ops i) := by
    intro i h1 h2
    have := hs2 i h2
    rw [if_pos h1] at this
    simp only [Bool.and_eq_true, List.all_eq_true, decide_eq_true_eq, Bool.or_eq_true, List.contains_iff_mem] at this
    exact this
  have hod : ∀ {i oi}, ops[i]? = some oi → odeps ops i = deps oi := fun h => by unfold odeps; rw [h]
  refine wp_region_any hm ?_
  -- from operation m on
  have phaseB : ∀ (fuel k : Nat) (listed : Array Bool) (a : Act) (w : World) (own : Nat → Slot) (s : AS), m ≤ k → k ≤ ops.size → ops.size - k ≤ fuel → listed.size = ops.size → (∀ j, listed.getD j false = decide (j < k)) → RelS GT w own s a → Mv w0 own0 st.heap w own s.heap →
      aops2 P GT ops (ops.toList.drop k) K s → wpAny P .any ops (fun e a' w' => e = .normal ∧ ∃ own' st', Mv w0 own0 st.heap w' own' st'.heap ∧ RelS GT w' own' st' a' ∧ K st') fuel listed a w := by
    intro fuel
    have fin : ∀ (k : Nat) (listed : Array Bool) (a : Act) (w : World) (own : Nat → Slot) (s : AS), m ≤ k → k ≤ ops.size → listed.size = ops.size → (∀ j, listed.getD j false = decide (j < k)) → RelS GT w own s a → Mv w0 own0 st.heap w own s.heap →
        aops2 P GT ops (ops.toList.drop k) K s → Region.ready .any ops listed = [] → (Exit.normal = Exit.normal ∧ ∃ own' st', Mv w0 own0 st.heap w own' st'.heap ∧ RelS GT w own' st' a ∧ K st') := by
      intro k listed a w own s h1 h2 hs hl hS hmv ha hre
      rcases Nat.lt_or_ge k ops.size with hlt | hge
      · have hoi := Array.getElem?_eq_getElem hlt
        have := ready_of hs hoi (by rw [hl]; simp) fun j hj => by
          rw [hl]; simpa using (hsuf k h1 hlt).1 j (by rw [hod hoi]; exact hj)
        rw [hre] at this; cases this
      · have : ops.toList.drop k = [] := List.drop_eq_nil_of_le (by simpa using hge)
        rw [this] at ha
        exact ⟨rfl, own, s, hmv, hS, ha⟩
    induction fuel with
    | zero =>
      intro k listed a w own s h1 h2 hf hs hl hS hmv ha
      have hke : k = ops.size := by omega
      have hre : Region.ready .any ops listed = [] := by
        rw [List.eq_nil_iff_forall_not_mem]
        intro i hi
        obtain ⟨h0, oi, hoi, _⟩ := mem_ready.1 hi
        have hlt : i < ops.size := (Array.getElem?_eq_some_iff.1 hoi).1
        have h3 := hl i
        have h4 : i < listed.size := by rw [hs]; exact hlt
        simp only [Array.getD_eq_getD_getElem?, Array.getElem?_eq_getElem h4, Option.getD_some] at h0 h3
        rw [h0] at h3
        simp at h3
        omega
      exact ⟨hre, fin k listed a w own s h1 h2 hs hl hS hmv ha hre⟩
    | succ fuel ih =>
      intro k listed a w own s h1 h2 hf hs hl hS hmv ha
      refine ⟨fun hre => fin k listed a w own s h1 h2 hs hl hS hmv ha hre, fun i hi => ?_⟩
      obtain ⟨h0, oi, hoi, hdep⟩ := mem_ready.1 hi
      have hlt : i < ops.size := (Array.getElem?_eq_some_iff.1 hoi).1
      have hki : k ≤ i := by
        have h3 := hl i
        have h4 : i < listed.size := by rw [hs]; exact hlt
        simp only [Array.getD_eq_getD_getElem?, Array.getElem?_eq_getElem h4, Option.getD_some] at h0 h3
        rw [h0] at h3
        simp at h3
        omega
      have hik : i = k := by
        rcases (hsuf i (by omega) hlt).2 with e | e
        · omega
        · rw [hod hoi] at e
          obtain ⟨ed, q1, q2, q3⟩ := mem_deps.2 e
          have := hdep ed q1 q2
          rw [q3, hl] at this
          simp at this
          omega
      subst hik
      have hdr : ops.toList.drop i = oi :: ops.toList.drop (i + 1) := by
        have h5 : i < ops.toList.length := by simpa using hlt
        rw [List.drop_eq_getElem_cons h5]
        congr 1
        have := (Array.getElem?_eq_some_iff.1 hoi).2
        simpa using this
      rw [hdr] at ha
      have hnext : ∀ a' w' own' st', Mv w own s.heap w' own' st'.heap → RelS GT w' own' st' a' → aops2 P GT ops (ops.toList.drop (i + 1)) K st' →
          wpAny P .any ops (fun e a' w' => e = .normal ∧ ∃ own' st', Mv w0 own0 st.heap w' own' st'.heap ∧ RelS GT w' own' st' a' ∧ K st') fuel (listed.setIfInBounds i true) a' w' := fun a' w' own' st' hm' hS' ha' =>
        ih (i + 1) _ a' w' own' st' (by omega) (by omega) (by omega) (by simp [hs]) (fun j => by
          by_cases e : j = i
          · subst e
            have : j < listed.size := by rw [hs]; exact hlt
            simp [this]
          · rw [getD_set_ne false (fun x => e x.symm), hl]
            simp only [decide_eq_decide]
            omega) hS' (hmv.trans hm') ha'
      have hc := aops2_cons (Q := fun e a' w' => e = .normal ∧ ∃ own' st', Mv w0 own0 st.heap w' own' st'.heap ∧ RelS GT w' own' st' a' ∧ K st') ha hS hnext
      unfold wpOp
      rw [hoi]
      simp only
      split at hc
      · rename_i hw; rw [if_pos hw]; exact .inl hc
      · rename_i hw; rw [if_neg hw]; exact hc
  have main : ∀ (fuel : Nat) (listed : Array Bool) (a : Act) (w : World), (List.range ops.size).countP (fun j => !listed.getD j false) ≤ fuel → DInv GT ops m rs st w0 own0 listed a w →
      wpAny P .any ops (fun e a' w' => e = .normal ∧ ∃ own' st', Mv w0 own0 st.heap w' own' st'.heap ∧ RelS GT w' own' st' a' ∧ K st') fuel listed a w := by
    intro fuel
    have toB : ∀ (fuel : Nat) (listed : Array Bool) (a : Act) (w : World), (List.range ops.size).countP (fun j => !listed.getD j false) ≤ fuel → DInv GT ops m rs st w0 own0 listed a w → (∀ i, i < m → listed.getD i false = true) →
        wpAny P .any ops (fun e a' w' => e = .normal ∧ ∃ own' st', Mv w0 own0 st.heap w' own' st'.heap ∧ RelS GT w' own' st' a' ∧ K st') fuel listed a w := by
      intro fuel listed a w hc hI hall
      obtain ⟨own', st', q1, q2, rfl⟩ := hI.done (K := fun s => s = ⟨tmS st.tmps ops rs (fun _ => true) m, heapS st.heap rs m⟩) hall rfl
      have hl : ∀ j, listed.getD j false = decide (j < m) := by
        intro j
        by_cases h : j < m
        · rw [hall j h]; simp [h]
        · rw [hI.un j (by omega)]; simp [h]
      refine phaseB fuel m listed a w own' _ (Nat.le_refl _) hms ?_ hI.size hl q2 q1 hK
      have : (List.range ops.size).countP (fun j => !listed.getD j false) = ops.size - m := by
        have e : (List.range ops.size).countP (fun j => !listed.getD j false) = (List.range ops.size).countP (fun j => decide (m ≤ j)) := by
          apply List.countP_congr
          intro x _
          rw [hl]
          simp
        rw [e]
        have : ∀ n, (List.range n).countP (fun j => decide (m ≤ j)) = n - m := by
          intro n
          induction n with
          | zero => simp
          | succ n ih =>
            rw [List.range_succ, List.countP_append, ih]
            by_cases h : m ≤ n
            · simp [h]; omega
            · simp [h]; omega
        exact this _
      omega
    have hfl' : ∀ f ∈ fl, f < m ∧ ∃ o, ops[f]? = some o ∧ floats o.op = true ∧ o.guard = none ∧ (∀ j ∈ deps o, j ∈ sweep ops m (odeps ops m) ∨ j ∈ fl) ∧
        ∀ j oj, ops[j]? = some oj → j = f ∨ j ∈ sweep ops f (odeps ops f) ∨ f ∈ deps oj ∨ o.apart ops oj = true := by
      intro f hf
      unfold floatOK at hfl
      have h := List.all_eq_true.1 hfl f hf
      simp only [Bool.and_eq_true, decide_eq_true_eq] at h
      obtain ⟨h1, h2⟩ := h
      have hof := Array.getElem?_eq_getElem (show f < ops.size by omega)
      rw [hof] at h2
      simp only [Bool.and_eq_true, List.all_eq_true, Bool.or_eq_true, List.contains_iff_mem] at h2
      obtain ⟨⟨⟨q1, q2⟩, q3⟩, q4⟩ := h2
      refine ⟨h1, ops[f], hof, q1, by simpa using q2, q3, fun j oj hoj => ?_⟩
      have := q4 j (List.mem_range.2 (Array.getElem?_eq_some_iff.1 hoj).1)
      rw [hoj] at this
      simp only [Bool.or_eq_true, decide_eq_true_eq, List.contains_iff_mem] at this
      rcases this with ((h | h) | h) | h
      · exact .inl h
      · exact .inr (.inl h)
      · exact .inr (.inr (.inl h))
      · exact .inr (.inr (.inr h))
    induction fuel with
    | zero =>
      intro listed a w hc hI
      refine toB 0 listed a w hc hI fun i hi => ?_
      cases h : listed.getD i false with
      | true => rfl
      | false =>
        have h2 : 0 < (List.range ops.size).countP (fun j => !listed.getD j false) := List.countP_pos_iff.2 ⟨i, List.mem_range.2 (by omega), by simp [h]⟩
        omega
    | succ fuel ih =>
      intro listed a w hc hI
      by_cases hall : ∀ i, i < m → listed.getD i false = true
      · exact toB _ listed a w hc hI hall
      have hcl : ∀ i, (∀ j ∈ odeps ops i, listed.getD j false = true) → ∀ j ∈ sweep ops i (odeps ops i), listed.getD j false = true := fun i hdl j this =>
        sweep_all (ops := ops) (p := fun j => listed.getD j false = true) (fun j hj k hk => by
          cases hoj : ops[j]? with
          | none => unfold odeps at hk; rw [hoj] at hk; cases hk
          | some oj => rw [hod hoj] at hk; exact hI.closed j oj hoj hj k hk) i _ hdl j this
      by_cases hflo : ∃ f ∈ fl, listed.getD f false = false ∧ ∀ j ∈ odeps ops f, listed.getD j false = true
      · obtain ⟨f, hf, hlf, hdl0⟩ := hflo
        obtain ⟨hfm, oi0, hof0, hfo, hg0, _, hap⟩ := hfl' f hf
        have hfs : f < ops.size := by omega
        have hof := Array.getElem?_eq_getElem hfs
        have e0 : oi0 = ops[f] := by rw [hof] at hof0; exact (Option.some.inj hof0).symm
        subst e0
        have hns2 : Region.noSelect ops = true := by
          rcases hns with h | h
          · rw [h] at hf; cases hf
          · exact h
        have hlsz : f < listed.size := by rw [hI.size]; exact hfs
        have hdl : ∀ j ∈ deps ops[f], listed.getD j false = true := fun j hj => hdl0 j (by rw [hod hof]; exact hj)
        have hready : f ∈ Region.ready .any ops listed := ready_of hI.size hof hlf hdl
        obtain ⟨oi, v, N, e1, hv, hD⟩ := hstep f (Nat.zero_le _) hfm
        rw [hof] at e1; cases e1
        obtain ⟨own, hS, hmv, hno⟩ := hI.rel
        have hD' : DOp P GT ops[f] ⟨tmS st.tmps ops rs (fun _ => true) f, heapS st.heap rs f⟩ v N := by
          unfold DStep at hD; rw [hg0] at hD; exact hD
        obtain ⟨k1, k2, k3⟩ := drawOK_spec hok hfm hof
        have agree : ∀ t ∈ reads ops ops[f], lget (tmS st.tmps ops rs (fun j => listed.getD j false) m) t = lget (tmS st.tmps ops rs (fun _ => true) f) t := by
          intro t ht
          obtain ⟨m', hm'⟩ : ∃ m', m = f + m' := ⟨m - f, by omega⟩
          rw [← tmS_cut (tm0 := st.tmps) (ops := ops) (rs := rs) (i := f) t m', ← hm']
          refine tmS_agree _ fun j hj hd => ?_
          cases hoj : ops[j]? with
          | none => rw [hoj] at hd; cases hd
          | some oj =>
            rw [hoj] at hd
            obtain ⟨q1, q2, _⟩ := k3 j oj t hj hoj hd
            by_cases hji : j < f
            · simp only [hji, decide_true]; exact hdl j (q1 ht hji)
            · simp only [hji, decide_false]
              by_cases e : j = f
              · subst e; exact hlf
              · cases hlj : listed.getD j false with
                | false => rfl
                | true => have := hI.closed j oj hoj hlj f (q2 ht (by omega)); rw [hlf] at this; cases this
        have evag : ∀ x ∈ (ops[f]).op.operands, ev GT (tmS st.tmps ops rs (fun j => listed.getD j false) m) x = ev GT (tmS st.tmps ops rs (fun _ => true) f) x := by
          intro x hx
          cases x with
          | tmp t =>
            refine agree t ?_
            unfold reads Oper.looksAt
            refine List.mem_append_left _ (List.mem_filterMap.2 ⟨.tmp t, by simpa using hx, rfl⟩)
          | _ => rfl
        obtain ⟨u, hy⟩ := float_yields (ops := ops) hfo hg0 hD' hS evag
        have hst1 := hI.step (Q := fun e a' w' => e = .normal ∧ ∃ own' st', Mv w0 own0 st.heap w' own' st'.heap ∧ RelS GT w' own' st' a' ∧ K st') hms hok hlen (fun i hi => hstep i (Nat.zero_le _) hi) hfm hready (next := fun a1 w1 => DInv GT ops m rs st w0 own0 (listed.setIfInBounds f true) a1 w1) fun _ _ h => h
        have hnext : DInv GT ops m rs st w0 own0 (listed.setIfInBounds f true) (a.put (ops[f]).dst u) w := by
          unfold wpOp at hst1
          rw [hof] at hst1
          simp only at hst1
          rcases hy with ⟨hw, hrun⟩ | ⟨hw, _⟩
          · rw [if_pos hw] at hst1
            rcases hst1 with h | ⟨_, _, _, h, _⟩
            · unfold Oper.wp at h
              rw [hrun w] at h
              exact h
            · cases h
          · have : Region.wanted ops[f] (yielded ops a.tmps) = true := by simp [Region.wanted, hg0]
            rw [this] at hw; cases hw
        refine wpAny_first hof (Region.noSelect_spec hns2) (fun c a' w' h => by cases h.1) fuel listed a w ?_ hready hy ?_
        · intro j oj hoj hjf hun hdep
          rcases hap j oj hoj with h1 | h1 | h1 | h1
          · exact (hjf h1).elim
          · have := hcl f hdl0 j h1
            have hjs : j < listed.size := by rw [hI.size]; exact (Array.getElem?_eq_some_iff.1 hoj).1
            simp only [Array.getD_eq_getD_getElem?, Array.getElem?_eq_getElem hjs, Option.getD_some] at this hun
            rw [this] at hun; cases hun
          · obtain ⟨e, q1, q2, q3⟩ := mem_deps.2 h1
            exact (hdep e q1 q2 q3).elim
          · exact h1
        · refine ih _ _ _ ?_ hnext
          have h2 := countP_one (n := ops.size) (i := f) (f := fun j => !listed.getD j false) (f' := fun j => !(listed.setIfInBounds f true).getD j false) hfs (by simp [hlf]) (by simp [hlsz]) fun j hj => by
            show (!(listed.setIfInBounds f true).getD j false) = !listed.getD j false
            rw [getD_set_ne false (fun e => hj e.symm)]
          omega
      have hfi : (∀ j ∈ sweep ops m (odeps ops m), listed.getD j false = true) → ∀ f ∈ fl, listed.getD f false = true := by
        intro hsw f
        induction f using Nat.strongRecOn with
        | _ f ihf =>
          intro hf
          obtain ⟨hfm, o, hof, _, _, hd, _⟩ := hfl' f hf
          cases h : listed.getD f false with
          | true => rfl
          | false =>
            refine (hflo ⟨f, hf, h, fun j hj => ?_⟩).elim
            rw [hod hof] at hj
            obtain ⟨k1, _, _⟩ := drawOK_spec hok hfm hof
            rcases hd j hj with h1 | h1
            · exact hsw j h1
            · exact ihf j (k1 j hj) h1
      refine ⟨fun hr => (hall (all_listed hms hok hI.size hr)).elim, fun i hi => ?_⟩
      obtain ⟨h0, oi, hoi, hdep⟩ := mem_ready.1 hi
      have hlt : i < ops.size := (Array.getElem?_eq_some_iff.1 hoi).1
      have hl : i < listed.size := by rw [hI.size]; exact hlt
      have hdl : ∀ j ∈ odeps ops i, listed.getD j false = true := fun j hj => by
        rw [hod hoi] at hj
        obtain ⟨e, h1, h2, h3⟩ := mem_deps.2 hj
        rw [← h3]; exact hdep e h1 h2
      have him : i < m := by
        rcases Nat.lt_or_ge i m with h | h
        · exact h
        · exfalso
          rcases (hsuf i h hlt).2 with e | e
          · subst e
            refine hall fun j hj => ?_
            rcases hs1 with e1 | e1
            · omega
            · have := e1 j hj
              rw [List.contains_iff_mem, List.contains_iff_mem] at this
              rcases this with this | this
              rotate_left
              · exact hfi (hcl i hdl) j this
              exact hcl i hdl j this
          · by_cases e2 : i = m
            · subst e2
              have := hI.un (i - 1)
              refine hall fun j hj => ?_
              rcases hs1 with e1 | e1
              · omega
              · have := e1 j hj
                rw [List.contains_iff_mem, List.contains_iff_mem] at this
                rcases this with this | this
                rotate_left
                · exact hfi (hcl i hdl) j this
                exact hcl i hdl j this
            · have h1 := hdl _ e
              rw [hI.un (i - 1) (by omega)] at h1
              cases h1
      refine hI.step hms hok hlen (fun i hi => hstep i (Nat.zero_le _) hi) him hi fun a1 w1 hI1 => ih _ a1 w1 ?_ hI1
      have h0f : listed.getD i false = false := by
        simp only [Array.getD_eq_getD_getElem?, Array.getElem?_eq_getElem hl, Option.getD_some] at h0 ⊢
        exact h0
      have h2 := countP_one (n := ops.size) (i := i) (f := fun j => !listed.getD j false) (f' := fun j => !(listed.setIfInBounds i true).getD j false) hlt (by simp [h0f]) (by simp [hl]) fun j hj => by
        show (!(listed.setIfInBounds i true).getD j false) = !listed.getD j false
        rw [getD_set_ne false (fun e => hj e.symm)]
      omega
  refine main ops.size _ a0 _ ?_ ?_
  · exact Nat.le_trans List.countP_le_length (by simp)
  · have hf : ∀ j, (Array.replicate ops.size false).getD j false = false := by
      intro j
      simp only [Array.getD_eq_getD_getElem?, Array.getElem?_replicate]
      split <;> rfl
    have htm : tmS st.tmps ops rs (fun i => (Array.replicate ops.size false).getD i false) m = st.tmps := by
      have : ∀ k, tmS st.tmps ops rs (fun i => (Array.replicate ops.size false).getD i false) k = st.tmps := by
        intro k
        induction k with
        | zero => rfl
        | succ k ih => rw [tmS, hf k, if_neg (by simp), ih]
      exact this _
    obtain ⟨hR1, hp1⟩ := ext_rel hS0.heap ((rs.take m).map (·.2)).flatten
    refine ⟨by simp, ⟨own0, ?_, ?_, ?_⟩, fun j _ => hf j, fun i oi _ h => by rw [hf] at h; cases h⟩
    · rw [htm]
      exact ⟨hR1, hS0.size, fun t => (hS0.tmps t).pass hp1, hS0.defers⟩
    · exact ⟨hp1, fun b _ h => h, ⟨rfl, rfl⟩⟩
    · intro i v N _ _ b hb _
      refine hS0.heap.out b ?_
      have : st.heap.length ≤ (heapS st.heap rs i).length := by simp [heapS]
      omega

end Go.Ab

namespace Go.Ab

variable (P : Program) (GT : Globs)

abbrev CallF := FuncId → List AV → List AObj → Option (AV × List AObj)
abbrev DrawF := Nat → Array Oper → AS → Option AS

/-- a slice against nil, where the answer is known -/
noncomputable def xnil (tm : List AV) : Op → Option AV
  | .binOp op t x y _ =>
    if (elemT P t).isSome = true then
      match op, ev GT tm x, ev GT tm y with
      | .eql, .d (.list (_ :: _)), .nils => some (.d (.bool false))
      | .neq, .d (.list (_ :: _)), .nils => some (.d (.bool true))
      | .eql, .nils, .nils => some (.d (.bool true))
      | .neq, .nils, .nils => some (.d (.bool false))
      | _, _, _ => none
    else none
  | _ => none

/-- one operation -/
noncomputable def xop (cl : CallF) (o : Oper) (st : AS) : Option AS :=
  match callOf o.op with
  | some (f, args) => match ev GT st.tmps f with
    | .d (.fn g) => match cl g (args.toList.map fun x => coe (ev GT st.tmps x)) st.heap with
      | some (v, H) => some (st.put o.dst v H)
      | none => none
    | .fn g fs cs => match cl g (fs ++ (args.toList.map fun x => coe (ev GT st.tmps x)) ++ cs) st.heap with
      | some (v, H) => some (st.put o.dst v H)
      | none => none
    | _ => none
  | none => match qop P GT st.tmps st.heap o.op with
    | some (v, N) => some (st.put o.dst v (st.heap ++ N))
    | none => match lop P GT st.tmps st.heap o.op with
      | some (v, H) => some (st.put o.dst v H)
      | none => match xnil P GT st.tmps o.op with
        | some v => some (st.put o.dst v st.heap)
        | none => none

noncomputable def xops (cl : CallF) (ops : Array Oper) : List Oper → AS → Option AS
  | [], st => some st
  | o :: rest, st => match o.guard with
    | none => match xop P GT cl o st with
      | some st' => xops cl ops rest st'
      | none => none
    | some (j, want) => match gval ops st.tmps j with
      | .d (.bool b) => if b = want then match xop P GT cl o st with
          | some st' => xops cl ops rest st'
          | none => none
        else xops cl ops rest (st.put o.dst (.tup []) st.heap)
      | .tup [] => xops cl ops rest (st.put o.dst (.tup []) st.heap)
      | _ => none

def iter (body : AS → Option (Exit × AS)) : Nat → AS → Option (Exit × AS)
  | 0, _ => none
  | n + 1, st => match body st with
    | some (.normal, st') => iter body n st'
    | r => r

noncomputable def xrun (cl : CallF) (dr : DrawF) (n : Nat) : Code → AS → Option (Exit × AS)
  | .skip, st => some (.normal, st)
  | .label _, st => some (.normal, st)
  | .exit id, st => some (.exit id, st)
  | .goto l, st => some (.goto l, st)
  | .ret, st => some (.ret, st)
  | .seq a b, st => match xrun cl dr n a st with
    | some (.normal, st') => xrun cl dr n b st'
    | r => r
  | .region id ops true, st => match dr id ops st with
    | some st' => some (.normal, st')
    | none => none
  | .region _ ops false, st => match xops P GT cl ops ops.toList st with
    | some st' => some (.normal, st')
    | none => none
  | .cond c a b, st => match ev GT st.tmps c with
    | .d (.bool t) => if t then xrun cl dr n a st else xrun cl dr n b st
    | _ => none
  | .block id c, st => match xrun cl dr n c st with
    | some (.exit id', st') => if id' = id then some (.normal, st') else some (.exit id', st')
    | r => r
  | .loop c, st => iter (xrun cl dr n c) n st
  | _, _ => none

/-- a call; 'kn': what is known without a run -/
noncomputable def xcall (kn : CallF) (dr : CallF → DrawF) : Nat → CallF
  | 0 => fun _ _ _ => none
  | n + 1 => fun f args H => match kn f args H with
    | some r => some r
    | none => match P.funcs[f]? with
      | some fn => match fn.body with
        | some c => if callable P f = true then match xrun P GT (xcall kn dr n) (dr (xcall kn dr n)) n c ⟨enterTmps fn args, H⟩ with
            | some (.normal, st) => match resVs P st fn.results.toList with | some vs => some (tupOf vs, st.heap) | none => none
            | some (.ret, st) => match resVs P st fn.results.toList with | some vs => some (tupOf vs, st.heap) | none => none
            | _ => none
          else none
        | none => none
      | none => none

variable {P GT}
def CSound (P : Program) (GT : Globs) (cl : CallF) : Prop := ∀ g args H v H', cl g args H = some (v, H') → ACalls P GT g args H fun a K => a = v ∧ K = H'
def DSound (P : Program) (GT : Globs) (dr : DrawF) : Prop := ∀ id ops st st', dr id ops st = some st' → ADraw P GT id ops (fun s => s = st') st

theorem xop_sound {cl : CallF} (hc : CSound P GT cl) {o : Oper} {st st' : AS} {K : AS → Prop} (h : xop P GT cl o st = some st') (hk : K st') : aop P GT o K st := by
  unfold xop at h
  unfold aop
  cases hcal : callOf o.op with
  | some fa =>
    obtain ⟨f, args⟩ := fa
    simp only [hcal] at h ⊢
    split at h
    · rename_i g he
      simp only [he]
      split at h
      · rename_i v H hv
        cases h
        exact (hc _ _ _ _ _ hv).mono fun a K' ⟨e1, e2⟩ => by subst e1; subst e2; exact hk
      · cases h
    · rename_i g fs cs he
      simp only [he]
      split at h
      · rename_i v H hv
        cases h
        exact (hc _ _ _ _ _ hv).mono fun a K' ⟨e1, e2⟩ => by subst e1; subst e2; exact hk
      · cases h
    · cases h
  | none =>
    simp only [hcal] at h ⊢
    cases hq : qop P GT st.tmps st.heap o.op with
    | some vN =>
      obtain ⟨v, N⟩ := vN
      simp only [hq] at h ⊢
      cases h; exact hk
    | none =>
      simp only [hq] at h ⊢
      cases hl : lop P GT st.tmps st.heap o.op with
      | some vH =>
        obtain ⟨v, H'⟩ := vH
        simp only [hl] at h ⊢
        cases h; exact hk
      | none =>
        simp only [hl] at h ⊢
        cases hx : xnil P GT st.tmps o.op with
        | none => simp only [hx] at h; cases h
        | some v =>
          simp only [hx] at h
          cases h
          unfold xnil at hx
          unfold nop
          split at hx
          · rename_i op t x y yt hop
            split at hx
            · rename_i he
              simp only [hop, he, if_true]
              split at hx <;> first | (cases hx; done) | skip
              all_goals (rename_i e1 e2; simp only [e1, e2]; cases hx)
              · rintro v ⟨b, rfl, hb⟩
                cases b with
                | true => cases hb rfl
                | false => exact hk
              · rintro v ⟨b, rfl, hb⟩
                cases b with
                | true => exact hk
                | false => cases hb rfl
              · rintro v rfl; exact hk
              · rintro v rfl; exact hk
            · cases hx
          · cases hx

theorem xops_sound {cl : CallF} (hc : CSound P GT cl) {ops : Array Oper} {K : AS → Prop} : ∀ {l : List Oper} {st st' : AS}, xops P GT cl ops l st = some st' → K st' → aops2 P GT ops l K st
  | [], st, st', h, hk => by simp only [xops] at h; cases h; exact hk
  | o :: rest, st, st', h, hk => by
    unfold xops at h
    unfold aops2
    have step : ∀ {r}, (match xop P GT cl o st with | some st' => xops P GT cl ops rest st' | none => none) = some r → K r → aopB P GT o (aops2 P GT ops rest K) st := by
      intro r h hk
      split at h
      · rename_i s hs
        exact .inl (xop_sound hc hs (xops_sound hc h hk))
      · cases h
    split at h
    · rename_i hg; simp only [hg]; exact step h hk
    · rename_i j want hg
      simp only [hg]
      split at h
      · rename_i b hb
        simp only [hb]
        split at h
        · rename_i e; rw [if_pos e]; exact step h hk
        · rename_i e; rw [if_neg e]; exact xops_sound hc h hk
      · rename_i hb; simp only [hb]; exact xops_sound hc h hk
      · cases h

theorem iter_sound {body : AS → Option (Exit × AS)} : ∀ {n : Nat} {st : AS} {r : Exit × AS}, iter body n st = some r → ∃ m, n = m + 1 ∧ ((∃ st', body st = some (.normal, st') ∧ iter body m st' = some r) ∨ (body st = some r ∧ r.1 ≠ .normal))
  | 0, st, r, h => by simp [iter] at h
  | n + 1, st, r, h => by
    refine ⟨n, rfl, ?_⟩
    unfold iter at h
    split at h
    · rename_i st' hb; exact .inl ⟨st', hb, h⟩
    · rename_i hb
      refine .inr ⟨h, fun he => ?_⟩
      obtain ⟨e, s⟩ := r
      simp only at he
      subst he
      exact hb s h

theorem xrun_sound {cl : CallF} {dr : DrawF} (hc : CSound P GT cl) (hd : DSound P GT dr) {n : Nat} : ∀ (c : Code) {st st' : AS} {e : Exit} {Q : Exit → AS → Prop}, xrun P GT cl dr n c st = some (e, st') → Q e st' → aw P GT c Q st
  | .skip, st, st', e, Q, h, hq => by simp only [xrun] at h; cases h; exact hq
  | .label _, st, st', e, Q, h, hq => by simp only [xrun] at h; cases h; exact hq
  | .exit id, st, st', e, Q, h, hq => by simp only [xrun] at h; cases h; exact hq
  | .goto l, st, st', e, Q, h, hq => by simp only [xrun] at h; cases h; exact hq
  | .ret, st, st', e, Q, h, hq => by simp only [xrun] at h; cases h; exact hq
  | .seq a b, st, st', e, Q, h, hq => by
    unfold xrun at h
    unfold aw
    split at h
    · rename_i s hs
      exact xrun_sound hc hd a hs (xrun_sound hc hd b h hq)
    · rename_i hs
      refine xrun_sound hc hd a h ?_
      cases e with
      | normal => exact (hs _ h).elim
      | _ => exact hq
  | .region id ops true, st, st', e, Q, h, hq => by
    unfold xrun at h
    unfold aw
    split at h
    · rename_i s hs
      cases h
      intro own a w hS
      refine wp_mono (hd _ _ _ _ hs own a w hS) ?_
      rintro e a' w' ⟨rfl, own', st', h1, h2, rfl⟩
      exact ⟨rfl, own', st', h1, h2, hq⟩
    · cases h
  | .region id ops false, st, st', e, Q, h, hq => by
    unfold xrun at h
    unfold aw
    split at h
    · rename_i s hs
      cases h
      exact xops_sound hc hs hq
    · cases h
  | .cond c a b, st, st', e, Q, h, hq => by
    unfold xrun at h
    unfold aw
    split at h
    · rename_i t he
      simp only [he]
      cases t with
      | true => exact xrun_sound hc hd a (by simpa using h) hq
      | false => exact xrun_sound hc hd b (by simpa using h) hq
    · cases h
  | .block id c, st, st', e, Q, h, hq => by
    unfold xrun at h
    unfold aw
    split at h
    · rename_i id' s hs
      refine xrun_sound hc hd c hs ?_
      simp only
      by_cases hid : id' = id
      · rw [if_pos hid] at h ⊢; cases h; exact hq
      · rw [if_neg hid] at h ⊢; cases h; exact hq
    · rename_i hs
      refine xrun_sound hc hd c h ?_
      cases e with
      | exit id' => exact (hs _ _ h).elim
      | _ => exact hq
  | .loop c, st, st', e, Q, h, hq => by
    unfold xrun at h
    unfold aw
    have hne : e ≠ .normal := by
      have : ∀ (k : Nat) (s : AS), iter (xrun P GT cl dr n c) k s = some (e, st') → e ≠ .normal := by
        intro k
        induction k with
        | zero => intro s h; simp [iter] at h
        | succ k ih =>
          intro s h
          obtain ⟨m, hm, ⟨s', _, h2⟩ | ⟨_, h2⟩⟩ := iter_sound h
          · have : m = k := by omega
            subst this; exact ih s' h2
          · exact h2
      exact this n st h
    refine ⟨st, .refl _ _, {p : AS × Nat // iter (xrun P GT cl dr n c) p.2 p.1 = some (e, st')}, fun p => p.1.1, fun p => p.1.2, ⟨(st, n), h⟩, .refl _ _, ?_⟩
    rintro ⟨⟨s, k⟩, hk⟩
    obtain ⟨m, hm, ⟨s', h1, h2⟩ | ⟨h1, _⟩⟩ := iter_sound hk
    · exact xrun_sound hc hd c h1 ⟨⟨(s', m), h2⟩, by simp only at hm ⊢; omega, .refl _ _⟩
    · refine xrun_sound hc hd c h1 ?_
      cases e with
      | normal => exact (hne rfl).elim
      | _ => exact ⟨st', .refl _ _, hq⟩
  | .rangeFunc .., _, _, _, _, h, _ => by simp [xrun] at h
  | .scope _, _, _, _, _, h, _ => by simp [xrun] at h
  | .refuse _, _, _, _, _, h, _ => by simp [xrun] at h

theorem xcall_sound {kn : CallF} {dr : CallF → DrawF} (hk : CSound P GT kn) (hd : ∀ cl, CSound P GT cl → DSound P GT (dr cl)) : ∀ n, CSound P GT (xcall P GT kn dr n)
  | 0 => fun g args H v H' h => by simp [xcall] at h
  | n + 1 => fun g args H v H' h => by
    unfold xcall at h
    split at h
    · rename_i r hr
      cases h
      exact hk _ _ _ _ _ hr
    · split at h
      · rename_i fn hf
        split at h
        · rename_i c hb
          split at h
          · rename_i hcal
            have ih := xcall_sound hk hd n
            refine acalls_enter hf hb hcal _ (.refl _ _) ?_
            have fin : ∀ {st : AS} {vs}, resVs P st fn.results.toList = some vs → some (tupOf vs, st.heap) = some (v, H') → ∃ vs, resVs P st fn.results.toList = some vs ∧ ∃ H2 v2, (v2 = v ∧ H2 = H') ∧
                ∀ (w0 w : World) (own0 own : Nat → Slot), RelH GT w0.heap own0 H → RelH GT w.heap own st.heap → Mv w0 own0 H w own st.heap → ∃ own2, RelH GT w.heap own2 H2 ∧ Mv w0 own0 H w own2 H2 ∧ ∀ cv, VR w own st.heap cv (tupOf vs) → VR w own2 H2 cv v2 := by
              intro st vs h1 h2
              cases h2
              exact ⟨vs, h1, st.heap, tupOf vs, ⟨rfl, rfl⟩, fun w0 w own0 own _ hr hm => ⟨own, hr, hm, fun cv hv => hv⟩⟩
            split at h
            · rename_i st hx
              split at h
              · rename_i vs hv
                exact xrun_sound ih (hd _ ih) c hx (fin hv h)
              · cases h
            · rename_i st hx
              split at h
              · rename_i vs hv
                exact xrun_sound ih (hd _ ih) c hx (fin hv h)
              · cases h
            · cases h
          · cases h
        · cases h
      · cases h

end Go.Ab

namespace Go.Ab

variable {P : Program} {GT : Globs}

/-- one operation of a draw region's open part, and what follows -/
def qopd (P : Program) (GT : Globs) (d : Option Tmp) (op : Op) (F : AS → Prop) (st : AS) : Prop := ∃ v N, DOp P GT { dst := d, op := op, type := 0, pos := "", after := #[], guard := none } st v N ∧ F (st.put d v (st.heap ++ N))

def dsx (ds : List (Nat × Tmp)) (k : Nat) (o : Oper) : List (Nat × Tmp) := match o.dst with | some d => (k, d) :: ds | none => ds
/-- the open part, operation by operation, and then K, which is told where the results lie -/
def regq (P : Program) (GT : Globs) (K : List (Nat × Tmp) → AS → Prop) : List (Nat × Tmp) → Nat → List Oper → AS → Prop
  | ds, _, [], st => K ds st
  | ds, k, o :: rest, st => match o.guard with
    | none => qopd P GT o.dst o.op (regq P GT K (dsx ds k o) (k + 1) rest) st
    | some (j, want) => match dget ds j with
      | some t => gate (lget st.tmps t) want (qopd P GT o.dst o.op (regq P GT K (dsx ds k o) (k + 1) rest)) (skipd o.dst (regq P GT K (dsx ds k o) (k + 1) rest)) st
      | none => False

def finD : List Oper → AS → List (AV × List AObj) → AS
  | o :: rest, st, (v, N) :: rs => finD rest (st.put o.dst v (st.heap ++ N)) rs
  | _, st, _ => st

theorem finD_eq {ops : Array Oper} {m : Nat} {st : AS} {rs : List (AV × List AObj)} : ∀ (rest pre : List Oper) (rp rr : List (AV × List AObj)), ops.toList.take m = pre ++ rest → rs = rp ++ rr → rp.length = pre.length → rr.length = rest.length →
    finD rest ⟨tmS st.tmps ops rs (fun _ => true) pre.length, heapS st.heap rs pre.length⟩ rr = ⟨tmS st.tmps ops rs (fun _ => true) (pre ++ rest).length, heapS st.heap rs (pre ++ rest).length⟩
  | [], pre, rp, rr, ho, hr, hl, hl2 => by simp [finD]
  | o :: rest, pre, rp, [], ho, hr, hl, hl2 => by simp at hl2
  | o :: rest, pre, rp, (v, N) :: rs', ho, hr, hl, hl2 => by
    have hk : ops[pre.length]? = some o := by
      have h0 : (ops.toList.take m)[pre.length]? = some o := by rw [ho, List.getElem?_append_right (Nat.le_refl _)]; simp
      rw [List.getElem?_take] at h0
      split at h0
      · rw [← Array.getElem?_toList]; exact h0
      · cases h0
    have hv : rs[pre.length]? = some (v, N) := by
      rw [hr, ← hl, List.getElem?_append_right (Nat.le_refl _)]; simp
    have hput : AS.put ⟨tmS st.tmps ops rs (fun _ => true) pre.length, heapS st.heap rs pre.length⟩ o.dst v (heapS st.heap rs pre.length ++ N) = ⟨tmS st.tmps ops rs (fun _ => true) (pre ++ [o]).length, heapS st.heap rs (pre ++ [o]).length⟩ := by
      have e : (pre ++ [o]).length = pre.length + 1 := by simp
      rw [e, heapS_succ hv]
      simp only [AS.put, tmS, if_true, hk, hv, Option.bind_some]
      cases o.dst <;> rfl
    have := finD_eq (ops := ops) (m := m) (st := st) (rs := rs) rest (pre ++ [o]) (rp ++ [(v, N)]) rs' (by simp [ho]) (by simp [hr]) (by simp [hl]) (by simpa using hl2)
    simp only [finD]
    simp only at hput
    rw [hput, this]
    simp

theorem regq_run {ops : Array Oper} {K : List (Nat × Tmp) → AS → Prop} : ∀ {rest pre : List Oper} {l2 : List Oper} {ds : List (Nat × Tmp)} {st : AS}, ops.toList = pre ++ rest ++ l2 → (∀ j t, dget ds j = some t → (ops[j]?).bind (·.dst) = some t) →
    regq P GT K ds pre.length rest st → ∃ rs ds', runD P GT ops rest st rs ∧ rs.length = rest.length ∧ (∀ j t, dget ds' j = some t → (ops[j]?).bind (·.dst) = some t) ∧ K ds' (finD rest st rs)
  | [], pre, l2, ds, st, he, hd, h => ⟨[], ds, rfl, rfl, hd, h⟩
  | o :: rest, pre, l2, ds, st, he, hd, h => by
    have ho : ops[pre.length]? = some o := by
      rw [← Array.getElem?_toList, he, List.append_assoc, List.getElem?_append_right (Nat.le_refl _)]; simp
    have hd' : ∀ j t, dget (dsx ds pre.length o) j = some t → (ops[j]?).bind (·.dst) = some t := by
      intro j t hj
      unfold dsx at hj
      split at hj
      · rename_i d hdst
        simp only [dget] at hj
        split at hj
        · rename_i e; subst e; cases hj; rw [ho]; exact hdst
        · exact hd j t hj
      · exact hd j t hj
    have next : ∀ v N, DStep P GT ops o st v N → regq P GT K (dsx ds pre.length o) (pre.length + 1) rest (st.put o.dst v (st.heap ++ N)) → ∃ rs ds', runD P GT ops (o :: rest) st rs ∧ rs.length = (o :: rest).length ∧ (∀ j t, dget ds' j = some t → (ops[j]?).bind (·.dst) = some t) ∧ K ds' (finD (o :: rest) st rs) := by
      intro v N h1 h2
      obtain ⟨rs, ds', q1, q2, q3, q4⟩ := regq_run (ops := ops) (rest := rest) (pre := pre ++ [o]) (l2 := l2) (by rw [he]; simp) hd' (by simpa using h2)
      exact ⟨(v, N) :: rs, ds', ⟨v, N, rs, rfl, h1, q1⟩, by simp [q2], q3, q4⟩
    have op : ∀ v N, DOp P GT { dst := o.dst, op := o.op, type := 0, pos := "", after := #[], guard := none } st v N → DOp P GT o st v N := fun v N h => h
    unfold regq at h
    split at h
    · rename_i hg
      obtain ⟨v, N, h1, h2⟩ := h
      exact next v N (by unfold DStep; rw [hg]; exact op v N h1) h2
    · rename_i j want hg
      split at h
      · rename_i t ht
        have hgv : gval ops st.tmps j = lget st.tmps t := by unfold gval; rw [hd j t ht]
        have skip : skipd o.dst (regq P GT K (dsx ds pre.length o) (pre.length + 1) rest) st → DStep P GT ops o st (.tup []) [] → ∃ rs ds', runD P GT ops (o :: rest) st rs ∧ rs.length = (o :: rest).length ∧ (∀ j t, dget ds' j = some t → (ops[j]?).bind (·.dst) = some t) ∧ K ds' (finD (o :: rest) st rs) := fun h1 h2 =>
          next (.tup []) [] h2 (by rw [List.append_nil]; exact h1)
        unfold gate at h
        split at h
        · rename_i b hb
          by_cases hbw : b = want
          · rw [if_pos hbw] at h
            obtain ⟨v, N, h1, h2⟩ := h
            exact next v N (by unfold DStep; rw [hg]; simp only; rw [hgv, hb]; simp only; rw [if_pos hbw]; exact op v N h1) h2
          · rw [if_neg hbw] at h
            exact skip h (by unfold DStep; rw [hg]; simp only; rw [hgv, hb]; simp only; rw [if_neg hbw]; exact ⟨trivial, trivial⟩)
        · rename_i hb
          exact skip h (by unfold DStep; rw [hg]; simp only; rw [hgv, hb]; exact ⟨trivial, trivial⟩)
        · exact h.elim
      · exact h.elim

/-- A DRAW REGION: the first m operations in whatever order, the rest behind them in turn -/
theorem ab_draw (m : Nat) {id : Nat} {l : List Oper} {Q : Exit → AS → Prop} {st : AS} (hm : P.follows .mixedOrders = true) (hok : drawOK l.toArray m = true) (hsf : sufOK l.toArray m [] = true)
    (h : regq P GT (fun ds => reg P GT ds m (l.drop m) (Q .normal)) [] 0 (l.take m) st) : ab P GT (.region id l.toArray true) Q st := by
  have hms : m ≤ l.length := by
    unfold sufOK at hsf
    simp only [Bool.and_eq_true, decide_eq_true_eq] at hsf
    simpa using hsf.1.1
  obtain ⟨rs, ds', h1, h2, h3, h4⟩ := regq_run (ops := l.toArray) (rest := l.take m) (pre := []) (l2 := l.drop m) (by simp) (fun j t h => by simp [dget] at h) h
  have hfin := finD_eq (ops := l.toArray) (m := m) (st := st) (rs := rs) (l.take m) [] [] rs (by simp) rfl rfl h2
  have hlen : (l.take m).length = m := by rw [List.length_take]; omega
  simp only [List.nil_append, List.length_nil, hlen] at hfin
  have hst : (⟨tmS st.tmps l.toArray rs (fun _ => true) 0, heapS st.heap rs 0⟩ : AS) = st := by simp [tmS, heapS]
  rw [hst] at hfin
  rw [hfin] at h4
  have h5 := reg_sound (ops := l.toArray) (pre := l.take m) (rest := l.drop m) (by simp) h3 (by rw [hlen]; exact h4)
  exact draw_sound (id := id) hm hok hsf rfl (.inl rfl) (by simpa using h1) (by simpa using h5)

/-- the same, the operations 'fl', which touch no memory, taken first -/
theorem ab_drawF (fl : List Nat) (m : Nat) {id : Nat} {l : List Oper} {Q : Exit → AS → Prop} {st : AS} (hm : P.follows .mixedOrders = true) (hok : drawOK l.toArray m = true) (hsf : sufOK l.toArray m fl = true) (hfl : floatOK l.toArray m [] fl = true) (hns : Region.noSelect l.toArray = true)
    (h : regq P GT (fun ds => reg P GT ds m (l.drop m) (Q .normal)) [] 0 (l.take m) st) : ab P GT (.region id l.toArray true) Q st := by
  have hms : m ≤ l.length := by
    unfold sufOK at hsf
    simp only [Bool.and_eq_true, decide_eq_true_eq] at hsf
    simpa using hsf.1.1
  obtain ⟨rs, ds', h1, h2, h3, h4⟩ := regq_run (ops := l.toArray) (rest := l.take m) (pre := []) (l2 := l.drop m) (by simp) (fun j t h => by simp [dget] at h) h
  have hfin := finD_eq (ops := l.toArray) (m := m) (st := st) (rs := rs) (l.take m) [] [] rs (by simp) rfl rfl h2
  have hlen : (l.take m).length = m := by rw [List.length_take]; omega
  simp only [List.nil_append, List.length_nil, hlen] at hfin
  have hst : (⟨tmS st.tmps l.toArray rs (fun _ => true) 0, heapS st.heap rs 0⟩ : AS) = st := by simp [tmS, heapS]
  rw [hst] at hfin
  rw [hfin] at h4
  have h5 := reg_sound (ops := l.toArray) (pre := l.take m) (rest := l.drop m) (by simp) h3 (by rw [hlen]; exact h4)
  exact draw_sound (id := id) hm hok hsf hfl (.inr hns) (by simpa using h1) (by simpa using h5)

@[go_sem] theorem regq_nil (K : List (Nat × Tmp) → AS → Prop) (ds : List (Nat × Tmp)) (k : Nat) (st : AS) : regq P GT K ds k [] st = K ds st := pf rfl
@[go_sem] theorem regq_cons (K : List (Nat × Tmp) → AS → Prop) (ds : List (Nat × Tmp)) (k : Nat) (d : Tmp) (op : Op) (ty : TypeId) (p : String) (af : Array Edge) (rest : List Oper) (st : AS) :
    regq P GT K ds k ({ dst := some d, op := op, type := ty, pos := p, after := af, guard := none } :: rest) st = qopd P GT (some d) op (regq P GT K ((k, d) :: ds) (k + 1) rest) st := pf rfl
@[go_sem] theorem regq_cons0 (K : List (Nat × Tmp) → AS → Prop) (ds : List (Nat × Tmp)) (k : Nat) (op : Op) (ty : TypeId) (p : String) (af : Array Edge) (rest : List Oper) (st : AS) :
    regq P GT K ds k ({ dst := none, op := op, type := ty, pos := p, after := af, guard := none } :: rest) st = qopd P GT none op (regq P GT K ds (k + 1) rest) st := pf rfl
@[go_sem] theorem regq_consg (K : List (Nat × Tmp) → AS → Prop) (ds : List (Nat × Tmp)) (k : Nat) (d : Tmp) (op : Op) (ty : TypeId) (p : String) (af : Array Edge) (j : Nat) (w : Bool) (rest : List Oper) (st : AS) :
    regq P GT K ds k ({ dst := some d, op := op, type := ty, pos := p, after := af, guard := some (j, w) } :: rest) st =
      gateT (dget ds j) w (qopd P GT (some d) op (regq P GT K ((k, d) :: ds) (k + 1) rest)) (skipd (some d) (regq P GT K ((k, d) :: ds) (k + 1) rest)) st := by
  show (match dget ds j with
    | some t => gate (lget st.tmps t) w (qopd P GT (some d) op (regq P GT K ((k, d) :: ds) (k + 1) rest)) (skipd (some d) (regq P GT K ((k, d) :: ds) (k + 1) rest)) st
    | none => False) = _
  unfold gateT
  cases dget ds j <;> rfl

section
variable (d : Option Tmp) (F : AS → Prop) (tm : List AV) (H : List AObj)

theorem qopd_eq {o : Op} (hc : callOf o = none) : qopd P GT d o F ⟨tm, H⟩ = qn (qop P GT tm H o) d F ⟨tm, H⟩ := by
  apply propext
  unfold qopd qn DOp
  simp only [hc]
  constructor
  · rintro ⟨v, N, h1, h2⟩
    rcases h1 with ⟨_, h1⟩ | ⟨_, f, args, h1, _⟩ | ⟨es, _, _, _, f, args, h1, _⟩
    · rw [h1]; exact h2
    · cases h1
    · cases h1
  · intro h
    split at h
    · rename_i v N hq; exact ⟨v, N, .inl ⟨trivial, hq⟩, h⟩
    · exact h.elim
theorem q_a {o : Op} (hc : callOf o = none) (hl : lop P GT tm H o = none) (hn : nop P GT tm H o = none) (hb : isBuild o = false) (hb2 : isAllocS P o = false) : qopd P GT d o F ⟨tm, H⟩ = aopd P GT d o F ⟨tm, H⟩ := by
  rw [qopd_eq d F tm H hc, aop_q d F tm H hc rfl (fun _ => hl) (fun _ => hn) hb hb2]
@[go_sem] theorem q_move (x : Operand) : qopd P GT d (.move x) F ⟨tm, H⟩ = aopd P GT d (.move x) F ⟨tm, H⟩ := q_a d F tm H rfl rfl rfl rfl rfl
@[go_sem] theorem q_assign (x : Operand) : qopd P GT d (.assign x) F ⟨tm, H⟩ = aopd P GT d (.assign x) F ⟨tm, H⟩ := q_a d F tm H rfl rfl rfl rfl rfl
@[go_sem] theorem q_pick (a b c : Operand) : qopd P GT d (.pick a b c) F ⟨tm, H⟩ = aopd P GT d (.pick a b c) F ⟨tm, H⟩ := q_a d F tm H rfl rfl rfl rfl rfl
@[go_sem] theorem q_box (t : TypeId) (x : Operand) : qopd P GT d (.box t x) F ⟨tm, H⟩ = aopd P GT d (.box t x) F ⟨tm, H⟩ := q_a d F tm H rfl rfl rfl rfl rfl
@[go_sem] theorem q_load (t : TypeId) (x : Operand) : qopd P GT d (.load t x) F ⟨tm, H⟩ = aopd P GT d (.load t x) F ⟨tm, H⟩ := q_a d F tm H rfl rfl rfl rfl rfl
@[go_sem] theorem q_fieldAddr (s : TypeId) (x : Operand) (f : Nat) : qopd P GT d (.fieldAddr s x f) F ⟨tm, H⟩ = aopd P GT d (.fieldAddr s x f) F ⟨tm, H⟩ := q_a d F tm H rfl rfl rfl rfl rfl
@[go_sem] theorem q_field (s : TypeId) (x : Operand) (f : Nat) : qopd P GT d (.field s x f) F ⟨tm, H⟩ = aopd P GT d (.field s x f) F ⟨tm, H⟩ := q_a d F tm H rfl rfl rfl rfl rfl
@[go_sem] theorem q_indexAddr (t : TypeId) (x i : Operand) : qopd P GT d (.indexAddr t x i) F ⟨tm, H⟩ = aopd P GT d (.indexAddr t x i) F ⟨tm, H⟩ := q_a d F tm H rfl rfl rfl rfl rfl
@[go_sem] theorem q_index (t : TypeId) (x i : Operand) : qopd P GT d (.index t x i) F ⟨tm, H⟩ = aopd P GT d (.index t x i) F ⟨tm, H⟩ := q_a d F tm H rfl rfl rfl rfl rfl
@[go_sem] theorem q_slice (t : TypeId) (x : Operand) (lo hi mx : Option Operand) : qopd P GT d (.slice t x lo hi mx) F ⟨tm, H⟩ = aopd P GT d (.slice t x lo hi mx) F ⟨tm, H⟩ := q_a d F tm H rfl rfl rfl rfl rfl
@[go_sem] theorem q_unOp (o : UnOp) (t : TypeId) (x : Operand) : qopd P GT d (.unOp o t x) F ⟨tm, H⟩ = aopd P GT d (.unOp o t x) F ⟨tm, H⟩ := q_a d F tm H rfl rfl rfl rfl rfl
@[go_sem] theorem q_convert (s t : TypeId) (x : Operand) : qopd P GT d (.convert s t x) F ⟨tm, H⟩ = aopd P GT d (.convert s t x) F ⟨tm, H⟩ := q_a d F tm H rfl rfl rfl rfl rfl
@[go_sem] theorem q_makeFunc (f : Fn) (fs cs : Array Operand) : qopd P GT d (.makeFunc f fs cs) F ⟨tm, H⟩ = aopd P GT d (.makeFunc f fs cs) F ⟨tm, H⟩ := q_a d F tm H rfl rfl rfl rfl rfl
@[go_sem] theorem q_extract (x : Operand) (i : Nat) : qopd P GT d (.extract x i) F ⟨tm, H⟩ = aopd P GT d (.extract x i) F ⟨tm, H⟩ := q_a d F tm H rfl rfl rfl rfl rfl
@[go_sem] theorem q_nilCheck (x : Operand) : qopd P GT d (.nilCheck x) F ⟨tm, H⟩ = aopd P GT d (.nilCheck x) F ⟨tm, H⟩ := q_a d F tm H rfl rfl rfl rfl rfl
@[go_sem] theorem q_build (t : TypeId) (ps : Array (Nat × Operand)) : qopd P GT d (.build t ps) F ⟨tm, H⟩ = aopd P GT d (.build t ps) F ⟨tm, H⟩ := q_a d F tm H rfl rfl rfl rfl rfl
@[go_sem] theorem q_lookup (t : TypeId) (x k : Operand) (ok : Bool) : qopd P GT d (.lookup t x k ok) F ⟨tm, H⟩ = aopd P GT d (.lookup t x k ok) F ⟨tm, H⟩ := q_a d F tm H rfl rfl rfl rfl rfl
@[go_sem] theorem q_makeMap (t : TypeId) (r : Option Operand) : qopd P GT d (.makeMap t r) F ⟨tm, H⟩ = aopd P GT d (.makeMap t r) F ⟨tm, H⟩ := q_a d F tm H rfl rfl rfl rfl rfl
@[go_sem] theorem q_len (x : Operand) (t : TypeId) : qopd P GT d (.call { callee := .builtin .len, args := #[x], argTypes := #[t] }) F ⟨tm, H⟩ = aopd P GT d (.call { callee := .builtin .len, args := #[x], argTypes := #[t] }) F ⟨tm, H⟩ := q_a d F tm H rfl rfl rfl rfl rfl
@[go_sem] theorem q_max (xs : Array Operand) (ts : Array TypeId) : qopd P GT d (.call { callee := .builtin .max, args := xs, argTypes := ts }) F ⟨tm, H⟩ = aopd P GT d (.call { callee := .builtin .max, args := xs, argTypes := ts }) F ⟨tm, H⟩ := q_a d F tm H rfl rfl rfl rfl rfl
@[go_sem] theorem q_min (xs : Array Operand) (ts : Array TypeId) : qopd P GT d (.call { callee := .builtin .min, args := xs, argTypes := ts }) F ⟨tm, H⟩ = aopd P GT d (.call { callee := .builtin .min, args := xs, argTypes := ts }) F ⟨tm, H⟩ := q_a d F tm H rfl rfl rfl rfl rfl
@[go_sem] theorem q_alloc (t : TypeId) : qopd P GT d (.alloc t) F ⟨tm, H⟩ = qn (aalloc H (tcells P t) (tzero P t)) d F ⟨tm, H⟩ := qopd_eq d F tm H rfl
@[go_sem] theorem q_binOp (op : BinOp) (t : TypeId) (x y : Operand) (yt : TypeId) : qopd P GT d (.binOp op t x y yt) F ⟨tm, H⟩ = qv (abin P op t (ev GT tm x) (ev GT tm y)) d F ⟨tm, H⟩ := by
  rw [qopd_eq d F tm H rfl]; exact qn_map d F tm H _
@[go_sem] theorem q_buildSlice (t : TypeId) (len : Nat) (parts : Array (Nat × Operand)) : qopd P GT d (.buildSlice t len parts) F ⟨tm, H⟩ = qn (abuildS P H len (parts.toList.map fun p => (p.1, ev GT tm p.2)) (elemT P t)) d F ⟨tm, H⟩ := by
  rw [qopd_eq d F tm H rfl]
  congr 1
  simp only [qop, abuildS, List.all_map, Function.comp_def, List.length_map, Array.length_toList]
  cases elemT P t <;> rfl

/-- a call in a draw region's open part -/
def callQ (P : Program) (GT : Globs) (f : AV) (args : List AV) (d : Option Tmp) (F : AS → Prop) (st : AS) : Prop := ∃ v N,
  ((N = [] ∧ ∃ g fs cs, (f = .d (.fn g) ∧ fs = [] ∧ cs = [] ∨ f = .fn g fs cs) ∧ ∀ M, ACalls P GT g (fs ++ args ++ cs) (st.heap ++ M) fun v' H' => v' = v ∧ H' = st.heap ++ M) ∨
  (∃ es, N = [.map es] ∧ v = .mp st.heap.length ∧ (∀ e ∈ es, ∃ x, e.2 = .d x) ∧ ∃ g, f = .d (.fn g) ∧ ∀ M, ACalls P GT g args (st.heap ++ M) fun v' H' => v' = .mp (st.heap ++ M).length ∧ H' = st.heap ++ M ++ [.map es])) ∧ F (st.put d v (st.heap ++ N))
@[go_sem] theorem q_call (f : Operand) (args : Array Operand) (ats : Array TypeId) : qopd P GT d (.call { callee := .value f, args := args, argTypes := ats }) F ⟨tm, H⟩ = callQ P GT (ev GT tm f) (args.toList.map fun x => coe (ev GT tm x)) d F ⟨tm, H⟩ := by
  apply propext
  unfold qopd callQ DOp
  simp only [callOf]
  constructor
  · rintro ⟨v, N, h1, h2⟩
    refine ⟨v, N, ?_, h2⟩
    rcases h1 with ⟨h1, _⟩ | ⟨rfl, f', args', h1, g, fs, cs, h3, h4⟩ | ⟨es, rfl, rfl, h3, f', args', h1, g, h4, h5⟩
    · cases h1
    · cases h1; exact .inl ⟨rfl, g, fs, cs, h3, h4⟩
    · cases h1; exact .inr ⟨es, rfl, rfl, h3, g, h4, h5⟩
  · rintro ⟨v, N, h1, h2⟩
    refine ⟨v, N, ?_, h2⟩
    rcases h1 with ⟨rfl, g, fs, cs, h3, h4⟩ | ⟨es, rfl, rfl, h3, g, h4, h5⟩
    · exact .inr (.inl ⟨rfl, f, args, rfl, g, fs, cs, h3, h4⟩)
    · exact .inr (.inr ⟨es, rfl, rfl, h3, f, args, rfl, g, h4, h5⟩)
end
/-- a call that gives v and leaves the heap -/
theorem callq_pure {g : FuncId} {args : List AV} {d : Option Tmp} {F : AS → Prop} {tm : List AV} {H : List AObj} {v : AV} (hc : ∀ M, ACalls P GT g args M fun v' H' => v' = v ∧ H' = M) (h : F (AS.put ⟨tm, H⟩ d v H)) : callQ P GT (.d (.fn g)) args d F ⟨tm, H⟩ :=
  ⟨v, [], .inl ⟨rfl, g, [], [], .inl ⟨rfl, rfl, rfl⟩, fun M => by simpa using hc (H ++ M)⟩, by simpa using h⟩
theorem callq_clo {g : FuncId} {fs cs args : List AV} {d : Option Tmp} {F : AS → Prop} {tm : List AV} {H : List AObj} {v : AV} (hc : ∀ M, ACalls P GT g (fs ++ args ++ cs) (H ++ M) fun v' H' => v' = v ∧ H' = H ++ M) (h : F (AS.put ⟨tm, H⟩ d v H)) : callQ P GT (.fn g fs cs) args d F ⟨tm, H⟩ :=
  ⟨v, [], .inl ⟨rfl, g, fs, cs, .inr rfl, hc⟩, by simpa using h⟩
theorem callq_map {g : FuncId} {args : List AV} {d : Option Tmp} {F : AS → Prop} {tm : List AV} {H : List AObj} (es : List (D × AV)) (he : ∀ e ∈ es, ∃ x, e.2 = .d x) (hc : ∀ M, ACalls P GT g args M fun v' H' => v' = .mp M.length ∧ H' = M ++ [.map es])
    (h : F (AS.put ⟨tm, H⟩ d (.mp H.length) (H ++ [.map es]))) : callQ P GT (.d (.fn g)) args d F ⟨tm, H⟩ :=
  ⟨.mp H.length, [.map es], .inr ⟨es, rfl, rfl, he, g, rfl, fun M => hc (H ++ M)⟩, h⟩

/-! functions as values -/
section
variable (d : Option Tmp) (F : AS → Prop) (tm : List AV) (H : List AObj)
@[go_sem] theorem r_makeFunc0 (f : FuncId) : aopd P GT d (.makeFunc (.func f) #[] #[]) F ⟨tm, H⟩ = F (AS.put ⟨tm, H⟩ d (.d (.fn f)) H) := by rw [r_makeFunc]; rfl
@[go_sem] theorem r_makeFuncC (f : FuncId) (c : Operand) (l : List Operand) : aopd P GT d (.makeFunc (.func f) #[] (c :: l).toArray) F ⟨tm, H⟩ = F (AS.put ⟨tm, H⟩ d (.fn f [] ((c :: l).map (ev GT tm))) H) := by rw [r_makeFunc]; rfl
@[go_sem] theorem r_makeFuncF (f : FuncId) (c : Operand) (l : List Operand) (cs : Array Operand) : aopd P GT d (.makeFunc (.func f) (c :: l).toArray cs) F ⟨tm, H⟩ = F (AS.put ⟨tm, H⟩ d (.fn f ((c :: l).map (ev GT tm)) (cs.toList.map (ev GT tm))) H) := by
  rw [r_makeFunc]
  have : ¬ ((c :: l).toArray.size + cs.size = 0) := by simp
  rw [if_neg this]

/-! maps -/
@[go_sem] theorem r_makeMap (t : TypeId) : aopd P GT d (.makeMap t none) F ⟨tm, H⟩ = F (AS.put ⟨tm, H⟩ d (.mp H.length) (H ++ [.map []])) := by
  rw [aop_q (r := some (.mp H.length, [.map []])) d F tm H rfl rfl (by simp) (by simp)]; simp [qn]
def lkR (ok : Bool) (a : AV) (r : Option (Option AV)) : Option AV := match r with
  | some (some v) => some (if ok then .tup [v, .d (.bool true)] else v)
  | some none => some (if ok then .tup [a, .d (.bool false)] else a)
  | none => none
@[go_sem] theorem lkR_hit1 (a v : AV) : lkR true a (some (some v)) = some (.tup [v, .d (.bool true)]) := pf rfl
@[go_sem] theorem lkR_hit0 (a v : AV) : lkR false a (some (some v)) = some v := pf rfl
@[go_sem] theorem lkR_miss1 (a : AV) : lkR true a (some none) = some (.tup [a, .d (.bool false)]) := pf rfl
@[go_sem] theorem lkR_miss0 (a : AV) : lkR false a (some none) = some a := pf rfl
def lkM (P : Program) (kt et : TypeId) (ok : Bool) (k : D) (o : Option AObj) (z : Option AV) : Option AV := match o, z with
  | some (.map es), some a => if keyOK P kt k = true ∧ zone P et = true then lkR ok a (findE P kt k es) else none
  | _, _ => none
@[go_sem] theorem lkM_some (kt et : TypeId) (ok : Bool) (k : D) (es : List (D × AV)) (a : AV) (h : keyOK P kt k = true) (h2 : zone P et = true) : lkM P kt et ok k (some (.map es)) (some a) = lkR ok a (findE P kt k es) := by
  simp [lkM, h, h2]
def lkV (P : Program) (H : List AObj) (m : Option (TypeId × TypeId)) (z : Option AV) (x k : AV) (ok : Bool) : Option AV := match m, x, k with
  | some (kt, et), .mp b, .d kd => lkM P kt et ok kd (hget H b) z
  | _, _, _ => none
@[go_sem] theorem lkV_mp (kt et : TypeId) (z : Option AV) (b : Nat) (k : D) (ok : Bool) : lkV P H (some (kt, et)) z (.mp b) (.d k) ok = lkM P kt et ok k (hget H b) z := pf rfl
@[go_sem] theorem r_lookup (t : TypeId) (x k : Operand) (ok : Bool) : aopd P GT d (.lookup t x k ok) F ⟨tm, H⟩ = qv (lkV P H (mapT P t) ((mapT P t).bind fun p => tzero P p.2) (ev GT tm x) (ev GT tm k) ok) d F ⟨tm, H⟩ := by
  have : qop P GT tm H (.lookup t x k ok) = (lkV P H (mapT P t) ((mapT P t).bind fun p => tzero P p.2) (ev GT tm x) (ev GT tm k) ok).map (·, []) := by
    simp only [qop, lkV]
    cases mapT P t with
    | none => rfl
    | some p =>
      obtain ⟨kt, et⟩ := p
      simp only [Option.bind_some]
      generalize ev GT tm x = a
      generalize ev GT tm k = b
      cases a with
      | mp m =>
        cases b with
        | d kd =>
          simp only [lkM]
          cases hget H m with
          | none => rfl
          | some o => cases o with
            | row z g fz xs => rfl
            | iter s p => rfl
            | map es =>
              cases tzero P et with
              | none => rfl
              | some a =>
                simp only
                split
                · cases findE P kt kd es with
                  | none => rfl
                  | some r => cases r <;> rfl
                · rfl
        | _ => rfl
      | _ => rfl
  rw [aop_q d F tm H rfl this (fun _ => rfl) (fun _ => rfl), qn_map]
/-- keys that are numbers -/
@[go_sem] theorem findE_nil (t : TypeId) (k : D) : findE P t k [] = some none := pf rfl
def fnd (r : Option Bool) (v : AV) (rest : Option (Option AV)) : Option (Option AV) := match r with
  | some true => some (some v)
  | some false => rest
  | none => none
@[go_sem] theorem findE_cons (t : TypeId) (k k' : D) (v : AV) (es : List (D × AV)) : findE P t k ((k', v) :: es) = fnd (eqD P t k k') v (findE P t k es) := by
  simp only [findE, fnd]
  cases eqD P t k k' with
  | none => rfl
  | some b => cases b <;> rfl
@[go_sem] theorem fnd_true (v : AV) (r : Option (Option AV)) : fnd (some true) v r = some (some v) := pf rfl
@[go_sem] theorem fnd_false (v : AV) (r : Option (Option AV)) : fnd (some false) v r = r := pf rfl
def msP (P : Program) (H : List AObj) (m : Option (TypeId × TypeId)) (x k v : AV) : Option (AV × List AObj) := match m, x, k with
  | some (kt, _), .mp b, .d kd => match hget H b with
      | some (.map es) => if keyOK P kt kd = true ∧ okv H v = true then (setE P kt kd v es).map fun es' => (.tup [], hset H b (.map es')) else none
      | _ => none
  | _, _, _ => none
theorem amapset_def (t : TypeId) (x k v : AV) : amapset P H t x k v = msP P H (mapT P t) x k v := by
  unfold amapset msP
  cases mapT P t with
  | none => rfl
  | some p =>
    obtain ⟨kt, et⟩ := p
    cases x with
    | mp b =>
      cases k with
      | d kd => rfl
      | _ => rfl
    | _ => rfl
def msM (P : Program) (H : List AObj) (kt : TypeId) (b : Nat) (k : D) (v : AV) (o : Option AObj) : Option (AV × List AObj) := match o with
  | some (.map es) => if keyOK P kt k = true ∧ okv H v = true then (setE P kt k v es).map fun es' => (.tup [], hset H b (.map es')) else none
  | _ => none
@[go_sem] theorem msP_mp (kt et : TypeId) (b : Nat) (k : D) (v : AV) : msP P H (some (kt, et)) (.mp b) (.d k) v = msM P H kt b k v (hget H b) := pf rfl
@[go_sem] theorem msM_some (kt : TypeId) (b : Nat) (k : D) (v : AV) (es : List (D × AV)) (h : keyOK P kt k = true) (h2 : okv H v = true) : msM P H kt b k v (some (.map es)) = (setE P kt k v es).map fun es' => (.tup [], hset H b (.map es')) := by
  simp [msM, h, h2]
@[go_sem] theorem r_mapUpdate (t : TypeId) (m k x : Operand) : aopd P GT d (.mapUpdate t m k x) F ⟨tm, H⟩ = qh (msP P H (mapT P t) (ev GT tm m) (ev GT tm k) (ev GT tm x)) d F ⟨tm, H⟩ := by
  unfold aopd; rw [aopB_not rfl]; unfold aop qh
  simp only [callOf, qop, lop, amapset_def]
  cases msP P H (mapT P t) (ev GT tm m) (ev GT tm k) (ev GT tm x) <;> rfl
@[go_sem] theorem r_insert (t : TypeId) (m k x : Operand) : aopd P GT d (.insert t m k x) F ⟨tm, H⟩ = qh (msP P H (mapT P t) (ev GT tm m) (ev GT tm k) (ev GT tm x)) d F ⟨tm, H⟩ := by
  unfold aopd; rw [aopB_not rfl]; unfold aop qh
  simp only [callOf, qop, lop, amapset_def]
  cases msP P H (mapT P t) (ev GT tm m) (ev GT tm k) (ev GT tm x) <;> rfl
@[go_sem] theorem setE_nil (t : TypeId) (k : D) (v : AV) : setE P t k v [] = some [(k, v)] := pf rfl
def sst (r : Option Bool) (s : Bool) (k k' : D) (v u : AV) (es : List (D × AV)) (rest : Option (List (D × AV))) : Option (List (D × AV)) := match r with
  | some true => if s = true then some ((k, v) :: es) else none
  | some false => rest.map ((k', u) :: ·)
  | none => none
@[go_sem] theorem setE_cons (t : TypeId) (k k' : D) (v u : AV) (es : List (D × AV)) : setE P t k v ((k', u) :: es) = sst (eqD P t k k') (sameD k k') k k' v u es (setE P t k v es) := by
  simp only [setE, sst]
  cases eqD P t k k' with
  | none => rfl
  | some b => cases b <;> rfl
@[go_sem] theorem sst_true (k k' : D) (v u : AV) (es : List (D × AV)) (r : Option (List (D × AV))) : sst (some true) true k k' v u es r = some ((k, v) :: es) := pf rfl
@[go_sem] theorem sst_false (s : Bool) (k k' : D) (v u : AV) (es : List (D × AV)) (r : Option (List (D × AV))) : sst (some false) s k k' v u es r = r.map ((k', u) :: ·) := pf rfl

/-! the greater, the lesser; numbers of other kinds -/
def amax (x y : AV) : Option AV := match x, y with
  | .d (.int k a), .d (.int k' b) => if k = k' then some (.d (.int k (if b > a then b else a))) else none
  | _, _ => none
def amin (x y : AV) : Option AV := match x, y with
  | .d (.int k a), .d (.int k' b) => if k = k' then some (.d (.int k (if b < a then b else a))) else none
  | _, _ => none
@[go_sem] theorem amax_i (k : IntKind) (a b : Int) : amax (.d (.int k a)) (.d (.int k b)) = some (.d (.int k (max a b))) := by
  simp only [amax, if_true]
  congr 3
  rw [Int.max_def]; split <;> split <;> omega
@[go_sem] theorem amin_i (k : IntKind) (a b : Int) : amin (.d (.int k a)) (.d (.int k b)) = some (.d (.int k (min a b))) := by
  simp only [amin, if_true]
  congr 3
  rw [Int.min_def]; split <;> split <;> omega
@[go_sem] theorem r_max (x y : Operand) (ts : Array TypeId) : aopd P GT d (.call { callee := .builtin .max, args := #[x, y], argTypes := ts }) F ⟨tm, H⟩ = qv (amax (ev GT tm x) (ev GT tm y)) d F ⟨tm, H⟩ := by
  have : qop P GT tm H (.call { callee := .builtin .max, args := #[x, y], argTypes := ts }) = (amax (ev GT tm x) (ev GT tm y)).map (·, []) := by
    simp only [qop, amax]
    generalize ev GT tm x = a
    generalize ev GT tm y = b
    cases a with
    | d a => cases a with
      | int k n => cases b with
        | d b => cases b with
          | int k' m => simp only; split <;> rfl
          | _ => rfl
        | _ => rfl
      | _ => rfl
    | _ => rfl
  rw [aop_q d F tm H rfl this (fun _ => rfl) (fun _ => rfl), qn_map]
@[go_sem] theorem r_min (x y : Operand) (ts : Array TypeId) : aopd P GT d (.call { callee := .builtin .min, args := #[x, y], argTypes := ts }) F ⟨tm, H⟩ = qv (amin (ev GT tm x) (ev GT tm y)) d F ⟨tm, H⟩ := by
  have : qop P GT tm H (.call { callee := .builtin .min, args := #[x, y], argTypes := ts }) = (amin (ev GT tm x) (ev GT tm y)).map (·, []) := by
    simp only [qop, amin]
    generalize ev GT tm x = a
    generalize ev GT tm y = b
    cases a with
    | d a => cases a with
      | int k n => cases b with
        | d b => cases b with
          | int k' m => simp only; split <;> rfl
          | _ => rfl
        | _ => rfl
      | _ => rfl
    | _ => rfl
  rw [aop_q d F tm H rfl this (fun _ => rfl) (fun _ => rfl), qn_map]
def aconv (s t : Option IntKind) (x : AV) : Option AV := match s, t, x with
  | some _, some k, .d (.int _ n) => some (.d (.int k (k.wrap n)))
  | _, _, _ => none
@[go_sem] theorem aconv_i (k k1 k2 : IntKind) (n : Int) : aconv (some k1) (some k) (.d (.int k2 n)) = some (.d (.int k (k.wrap n))) := pf rfl
theorem r_convertI (s t : TypeId) (x : Operand) (k1 k : IntKind) (k2 : IntKind) (n : Int) (hs : intT P s = some k1) (ht : intT P t = some k) (hx : ev GT tm x = .d (.int k2 n)) : aopd P GT d (.convert s t x) F ⟨tm, H⟩ = F (AS.put ⟨tm, H⟩ d (.d (.int k (k.wrap n))) H) := by
  rw [aop_q (r := some (.d (.int k (k.wrap n)), [])) d F tm H rfl (by simp [qop, hs, ht, hx]) (by simp) (by simp)]; simp [qn]

/-! rows that grow -/
@[go_sem] theorem srcs_list (z : Nat) (xs : List D) (h : uni z xs = true) : srcs H z (.d (.list xs)) = some (xs.map .d) := by simp [srcs, h]
@[go_sem] theorem srcs_nils (z : Nat) : srcs H z .nils = some [] := pf rfl
def zq (H : List AObj) (a : Option AV) (z : Nat) : Bool := match a with | some a => a.cells.length == z && okv H a && a.cells.all (okv H) | none => false
@[go_sem] theorem zeroOK_def (e : TypeId) : zeroOK P H e = zq H (tzero P e) (tcells P e) := pf rfl
@[go_sem] theorem zq_some (a : AV) (z : Nat) (h : plainZ a = true) (h2 : csz a = z) : zq H (some a) z = true := by
  unfold csz at h2; simp [zq, plainZ_ok h, h2]
def ap3 (H : List AObj) (z bt b g i n : Nat) (cap : Option Nat) (ys : List AV) (o : Option AObj) : Option (AV × List AObj) := match o with
  | some (.row z0 g' fz xs) => if g' = g ∧ z0 = z ∧ (n + ys.length) * bt ≤ 140737488355328 ∧ n + ys.length ≤ 140737488355328 then
            match cap with
            | none =>
              if fz = false ∧ i = 0 ∧ n = xs.length then some (.ref b (g + 1) 0 (n + ys.length) none, hset H b (.row z0 (g + 1) false (xs ++ ys)))
              else if fz = false ∧ i + n + ys.length ≤ xs.length then some (.ref b g i (n + ys.length) none, hset H b (.row z0 g false (xs.take (i + n) ++ ys ++ xs.drop (i + n + ys.length))))
              else none
            | some k =>
              if k < n + ys.length then some (.ref H.length 0 0 (n + ys.length) none, H ++ [.row z0 0 false ((xs.drop i).take n ++ ys)])
              else if fz = false ∧ i + n + ys.length ≤ xs.length then some (.ref b g i (n + ys.length) (some k), hset H b (.row z0 g false (xs.take (i + n) ++ ys ++ xs.drop (i + n + ys.length))))
              else none
          else none
  | _ => none
def ap2 (H : List AObj) (z bt : Nat) (zok : Bool) (s : AV) (ys : Option (List AV)) : Option (AV × List AObj) := match ys with
  | none => none
  | some ys => if 0 < z ∧ zok = true then
      match s with
      | .d (.list xs) => if ys = [] then some (.d (.list xs), H) else none
      | .nils => if ys.length * bt ≤ 140737488355328 ∧ ys.length ≤ 140737488355328 then some (.ref H.length 0 0 ys.length none, H ++ [.row z 0 false ys]) else none
      | .ref b g i n cap => ap3 H z bt b g i n cap ys (hget H b)
      | _ => none
      else none
def apE (P : Program) (H : List AObj) (e : Option TypeId) (s x : AV) : Option (AV × List AObj) := match e with
  | some e => ap2 H (tcells P e) (tbytes P e) (zeroOK P H e) s (srcs H (tcells P e) x)
  | none => none
@[go_sem] theorem aappend_def (t : TypeId) (s x : AV) : aappend P H t s x = apE P H (elemT P t) s x := by
  unfold aappend apE
  cases elemT P t with
  | none => rfl
  | some e =>
    simp only [ap2]
    cases srcs H (tcells P e) x with
    | none => rfl
    | some ys =>
      simp only
      split
      · cases s with
        | ref b g i n cap =>
          simp only [ap3]
          cases hget H b with
          | none => rfl
          | some o => cases o <;> rfl
        | _ => rfl
      · rfl
@[go_sem] theorem apE_some (e : TypeId) (s x : AV) : apE P H (some e) s x = ap2 H (tcells P e) (tbytes P e) (zeroOK P H e) s (srcs H (tcells P e) x) := pf rfl
@[go_sem] theorem ap2_ref (z bt b g i n : Nat) (cap : Option Nat) (ys : List AV) (h : 0 < z) : ap2 H z bt true (.ref b g i n cap) (some ys) = ap3 H z bt b g i n cap ys (hget H b) := by simp [ap2, h]
@[go_sem] theorem ap2_nils (z bt : Nat) (ys : List AV) (h : 0 < z) (h1 : ys.length * bt ≤ 140737488355328) (h2 : ys.length ≤ 140737488355328) : ap2 H z bt true .nils (some ys) = some (.ref H.length 0 0 ys.length none, H ++ [.row z 0 false ys]) := by simp [ap2, h, h1, h2]
@[go_sem] theorem ap3_own (z bt b g n : Nat) (ys xs : List AV) (hn : n = xs.length) (h1 : (n + ys.length) * bt ≤ 140737488355328) (h2 : n + ys.length ≤ 140737488355328) :
    ap3 H z bt b g 0 n none ys (some (.row z g false xs)) = some (.ref b (g + 1) 0 (n + ys.length) none, hset H b (.row z (g + 1) false (xs ++ ys))) := by
  simp [ap3, h1, h2, ← hn]
end

/-! the caller's blocks -/
theorem hget_low (H L : List AObj) {b : Nat} (h : b < H.length) : hget (H ++ L) b = hget H b := by unfold hget; exact List.getElem?_append_left h
theorem hset_low (H L : List AObj) {b : Nat} (o : AObj) (h : b < H.length) : hset (H ++ L) b o = hset H b o ++ L := by unfold hset; exact List.set_append_left _ _ h

end Go.Ab
