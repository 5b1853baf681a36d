/- K4 K5 K6 -/
import Derived.Test.YtckjoghpknalcaaGreatDoorTy
import Derived.Test.YtckjoghpknalcaaGreatDoorA5
set_option linter.unusedVariables false
set_option linter.unusedSimpArgs false
set_option linter.unnecessarySimpa false
open Go
namespace Go.Ab
attribute [local go_sem] ents held Option.isSome_some Option.isSome_none Option.map_some Option.map_none List.length_map List.map_cons List.map_nil List.length_cons List.length_nil List.cons_append List.nil_append List.append_assoc true_and and_true true_or or_true eq_self decide_true decide_false Bool.not_true Bool.not_false not_true not_false Int.natCast_zero Nat.zero_add Bool.false_eq_true Bool.true_eq_false if_true if_false Bool.or_false Bool.or_true Bool.false_or Bool.true_or Bool.and_false Bool.false_and
set_option maxRecDepth 8000
set_option linter.unusedSimpArgs false
set_option linter.unusedVariables false
variable {GT : Globs}

def cmpI (a b : Int) : Int := if a < b then -1 else if b < a then 1 else 0
theorem cmpI_lt (a b : Int) (h : a < b) : cmpI a b = -1 := by simp [cmpI, h]
theorem cmpI_gt (a b : Int) (h : b < a) : cmpI a b = 1 := by
  have : ¬ a < b := by omega
  simp [cmpI, h, this]
theorem cmpI_eq (a b : Int) (h1 : ¬ a < b) (h : ¬ b < a) : cmpI a b = 0 := by simp [cmpI, h, h1]

theorem c_isNaN (x : Int) (H : List AObj) : ACalls Go.Proofs.Tryz.prog GT 85 [.d (.int .i64 x)] H fun v H' => v = .d (.bool false) ∧ H' = H := by
  refine acalls_pure (fn := Go.Proofs.Tryz.f85) (c := _) 6 [.tmp 2] (by kernel_rfl) rfl (by kernel_rfl) rfl rfl (by simp) ?_
  simp only [go_sem, Nat.reduceAdd, Nat.reduceSub, Nat.reduceMul, Nat.reduceLT, Nat.reduceLeDiff, Nat.reduceBEq, Nat.reduceEqDiff, Int.reduceLE, Int.reduceLT, Int.reduceNeg, Int.reduceAdd, Int.reduceSub, Int.reduceEq, Int.reduceMul, Int.reduceToNat, reduceIte]
  exact pureK_d0 _ _ _ rfl

theorem c_cmp (a b : Int) (H : List AObj) : ACalls Go.Proofs.Tryz.prog GT 57 [.d (.int .i64 a), .d (.int .i64 b)] H fun v H' => v = .d (.int .i64 (cmpI a b)) ∧ H' = H := by
  refine acalls_pure (fn := Go.Proofs.Tryz.f57) (c := _) 20 [.tmp 4] (by kernel_rfl) rfl (by kernel_rfl) rfl rfl (by simp) ?_
  simp only [go_sem, Nat.reduceAdd, Nat.reduceSub, Nat.reduceMul, Nat.reduceLT, Nat.reduceLeDiff, Nat.reduceBEq, Nat.reduceEqDiff, Int.reduceLE, Int.reduceLT, Int.reduceNeg, Int.reduceAdd, Int.reduceSub, Int.reduceEq, Int.reduceMul, Int.reduceToNat, reduceIte]
  refine (c_isNaN _ _).mono ?_
  rintro _ _ ⟨rfl, rfl⟩
  simp only [go_sem, Nat.reduceAdd, Nat.reduceSub, Nat.reduceMul, Nat.reduceLT, Nat.reduceLeDiff, Nat.reduceBEq, Nat.reduceEqDiff, Int.reduceLE, Int.reduceLT, Int.reduceNeg, Int.reduceAdd, Int.reduceSub, Int.reduceEq, Int.reduceMul, Int.reduceToNat, reduceIte]
  refine (c_isNaN _ _).mono ?_
  rintro _ _ ⟨rfl, rfl⟩
  simp only [go_sem, Nat.reduceAdd, Nat.reduceSub, Nat.reduceMul, Nat.reduceLT, Nat.reduceLeDiff, Nat.reduceBEq, Nat.reduceEqDiff, Int.reduceLE, Int.reduceLT, Int.reduceNeg, Int.reduceAdd, Int.reduceSub, Int.reduceEq, Int.reduceMul, Int.reduceToNat, reduceIte]
  refine ⟨fun h1 => ?_, fun h1 => ?_⟩
  · simp only [go_sem, Nat.reduceAdd, Nat.reduceSub, Nat.reduceMul, Nat.reduceLT, Nat.reduceLeDiff, Nat.reduceBEq, Nat.reduceEqDiff, Int.reduceLE, Int.reduceLT, Int.reduceNeg, Int.reduceAdd, Int.reduceSub, Int.reduceEq, Int.reduceMul, Int.reduceToNat, reduceIte]
    exact pureK_d0 _ _ _ (by rw [cmpI_lt _ _ h1])
  · simp only [go_sem, Nat.reduceAdd, Nat.reduceSub, Nat.reduceMul, Nat.reduceLT, Nat.reduceLeDiff, Nat.reduceBEq, Nat.reduceEqDiff, Int.reduceLE, Int.reduceLT, Int.reduceNeg, Int.reduceAdd, Int.reduceSub, Int.reduceEq, Int.reduceMul, Int.reduceToNat, reduceIte]
    refine ⟨fun h2 => ?_, fun h2 => ?_⟩
    · simp only [go_sem, Nat.reduceAdd, Nat.reduceSub, Nat.reduceMul, Nat.reduceLT, Nat.reduceLeDiff, Nat.reduceBEq, Nat.reduceEqDiff, Int.reduceLE, Int.reduceLT, Int.reduceNeg, Int.reduceAdd, Int.reduceSub, Int.reduceEq, Int.reduceMul, Int.reduceToNat, reduceIte]
      exact pureK_d0 _ _ _ (by rw [cmpI_gt _ _ h2])
    · simp only [go_sem, Nat.reduceAdd, Nat.reduceSub, Nat.reduceMul, Nat.reduceLT, Nat.reduceLeDiff, Nat.reduceBEq, Nat.reduceEqDiff, Int.reduceLE, Int.reduceLT, Int.reduceNeg, Int.reduceAdd, Int.reduceSub, Int.reduceEq, Int.reduceMul, Int.reduceToNat, reduceIte]
      exact pureK_d0 _ _ _ (by rw [cmpI_eq _ _ h1 h2])

theorem c_isAm (k : Int) (H : List AObj) : ACalls Go.Proofs.Tryz.prog GT 35 [.d (.int .i64 k)] H fun v H' => v = .d (.bool (decide (0 ≤ k ∧ k ≤ 6))) ∧ H' = H := by
  refine acalls_pure (fn := Go.Proofs.Tryz.f35) (c := _) 9 [.tmp 2] (by kernel_rfl) rfl (by kernel_rfl) rfl rfl (by simp) ?_
  simp only [go_sem, Nat.reduceAdd, Nat.reduceSub, Nat.reduceMul, Nat.reduceLT, Nat.reduceLeDiff, Nat.reduceBEq, Nat.reduceEqDiff, Int.reduceLE, Int.reduceLT, Int.reduceNeg, Int.reduceAdd, Int.reduceSub, Int.reduceEq, Int.reduceMul, Int.reduceToNat, reduceIte]
  refine ⟨fun h1 => ?_, fun h1 => ?_⟩
  · simp only [go_sem, Nat.reduceAdd, Nat.reduceSub, Nat.reduceMul, Nat.reduceLT, Nat.reduceLeDiff, Nat.reduceBEq, Nat.reduceEqDiff, Int.reduceLE, Int.reduceLT, Int.reduceNeg, Int.reduceAdd, Int.reduceSub, Int.reduceEq, Int.reduceMul, Int.reduceToNat, reduceIte, h1]
    refine pureK_d0 _ _ _ ?_
    congr 2
  · simp only [go_sem, Nat.reduceAdd, Nat.reduceSub, Nat.reduceMul, Nat.reduceLT, Nat.reduceLeDiff, Nat.reduceBEq, Nat.reduceEqDiff, Int.reduceLE, Int.reduceLT, Int.reduceNeg, Int.reduceAdd, Int.reduceSub, Int.reduceEq, Int.reduceMul, Int.reduceToNat, reduceIte, h1]
    refine pureK_d0 _ _ _ ?_
    congr 2

/-- the first number that is not nought -/
def orI (l : List Int) : Int := (l.find? (· != 0)).getD 0
theorem c_or (l : List Int) (H : List AObj) : ACalls Go.Proofs.Tryz.prog GT 56 [.d (.list (l.map (.int .i64)))] H fun v H' => v = .d (.int .i64 (orI l)) ∧ H' = H := by
  refine acalls_ok (fun hok => ?_) (by kernel_rfl)
  obtain ⟨⟨hl, -⟩, -⟩ := hok
  rw [List.length_map] at hl
  refine acalls_pure (fn := Go.Proofs.Tryz.f56) (c := _) 18 [.tmp 2] (by kernel_rfl) rfl (by kernel_rfl) rfl rfl (by simp) ?_
  simp only [go_sem, Nat.reduceAdd, Nat.reduceSub, Nat.reduceMul, Nat.reduceLT, Nat.reduceLeDiff, Nat.reduceBEq, Nat.reduceEqDiff, Int.reduceLE, Int.reduceLT, Int.reduceNeg, Int.reduceAdd, Int.reduceSub, Int.reduceEq, Int.reduceMul, Int.reduceToNat, reduceIte, hl]
  refine ab_loop (ι := {i : Nat // i ≤ l.length ∧ ∀ x ∈ l.take i, x = 0}) (fun i => ⟨E 18 [(3, .d (.int .i64 0)), (6, .d (.list (l.map (.int .i64)))), (7, .d (.int .i64 l.length)), (8, .d (.int .i64 (i.1 : Int)))], H⟩) (fun i => l.length - i.1) ⟨0, by simp⟩ (drop_E ?_) ?_
  · simp only [go_sem, Nat.reduceAdd, Nat.reduceSub, Nat.reduceMul, Nat.reduceLT, Nat.reduceLeDiff, Nat.reduceBEq, Nat.reduceEqDiff, Int.reduceLE, Int.reduceLT, Int.reduceNeg, Int.reduceAdd, Int.reduceSub, Int.reduceEq, Int.reduceMul, Int.reduceToNat, reduceIte, hl]
  rintro ⟨i, hi, hz⟩
  simp only [go_sem, Nat.reduceAdd, Nat.reduceSub, Nat.reduceMul, Nat.reduceLT, Nat.reduceLeDiff, Nat.reduceBEq, Nat.reduceEqDiff, Int.reduceLE, Int.reduceLT, Int.reduceNeg, Int.reduceAdd, Int.reduceSub, Int.reduceEq, Int.reduceMul, Int.reduceToNat, reduceIte]
  refine ⟨fun h1 => ?_, fun h1 => ?_⟩
  · have hlt : i < l.length := by omega
    simp only [go_sem, Nat.reduceAdd, Nat.reduceSub, Nat.reduceMul, Nat.reduceLT, Nat.reduceLeDiff, Nat.reduceBEq, Nat.reduceEqDiff, Int.reduceLE, Int.reduceLT, Int.reduceNeg, Int.reduceAdd, Int.reduceSub, Int.reduceEq, Int.reduceMul, Int.reduceToNat, reduceIte, getEnc (D.int .i64) hlt]
    refine ⟨fun h2 => ?_, fun h2 => ?_⟩
    · simp only [go_sem, Nat.reduceAdd, Nat.reduceSub, Nat.reduceMul, Nat.reduceLT, Nat.reduceLeDiff, Nat.reduceBEq, Nat.reduceEqDiff, Int.reduceLE, Int.reduceLT, Int.reduceNeg, Int.reduceAdd, Int.reduceSub, Int.reduceEq, Int.reduceMul, Int.reduceToNat, reduceIte]
      refine ⟨⟨i + 1, hlt, take_all hlt hz h2⟩, by simp only; omega, drop_E ?_⟩
      simp only [go_sem, Nat.reduceAdd, Nat.reduceSub, Nat.reduceMul, Nat.reduceLT, Nat.reduceLeDiff, Nat.reduceBEq, Nat.reduceEqDiff, Int.reduceLE, Int.reduceLT, Int.reduceNeg, Int.reduceAdd, Int.reduceSub, Int.reduceEq, Int.reduceMul, Int.reduceToNat, reduceIte, wrap_succ i (by omega)]
    · simp only [go_sem, Nat.reduceAdd, Nat.reduceSub, Nat.reduceMul, Nat.reduceLT, Nat.reduceLeDiff, Nat.reduceBEq, Nat.reduceEqDiff, Int.reduceLE, Int.reduceLT, Int.reduceNeg, Int.reduceAdd, Int.reduceSub, Int.reduceEq, Int.reduceMul, Int.reduceToNat, reduceIte]
      refine pureK_d0 _ _ _ ?_
      simp only [orI, find_at (l := l) hlt (p := (· != 0)) (fun x hx => by simp [hz x hx]) (by simpa using h2), Option.getD_some]
  · simp only [go_sem, Nat.reduceAdd, Nat.reduceSub, Nat.reduceMul, Nat.reduceLT, Nat.reduceLeDiff, Nat.reduceBEq, Nat.reduceEqDiff, Int.reduceLE, Int.reduceLT, Int.reduceNeg, Int.reduceAdd, Int.reduceSub, Int.reduceEq, Int.reduceMul, Int.reduceToNat, reduceIte]
    refine pureK_d0 _ _ _ ?_
    rw [take_end h1] at hz
    simp only [orI, find_no (l := l) (p := (· != 0)) (fun x hx => by simp [hz x hx]), Option.getD_none]
end Go.Ab

open Go
namespace Go.Ab
attribute [local go_sem] ents held Option.isSome_some Option.isSome_none Option.map_some Option.map_none List.length_map List.map_cons List.map_nil List.length_cons List.length_nil List.cons_append List.nil_append List.append_assoc true_and and_true true_or or_true eq_self decide_true decide_false Bool.not_true Bool.not_false not_true not_false Int.natCast_zero Nat.zero_add Bool.false_eq_true Bool.true_eq_false if_true if_false Bool.or_false Bool.or_true Bool.false_or Bool.true_or Bool.and_false Bool.false_and
set_option maxRecDepth 8000
set_option linter.unusedSimpArgs false
set_option linter.unusedVariables false
variable {GT : Globs}

theorem c_has1 (x : GSpan) (d : Int) (H : List AObj) : ACalls Go.Proofs.Tryz.prog GT 66 [.d (encSpan x), .d (.int .i64 d)] H fun v H' => v = .d (.int .i64 (cmpI x.from_ d)) ∧ H' = H := by
  refine acalls_pure (fn := Go.Proofs.Tryz.f66) (c := _) 9 [.tmp 4] (by kernel_rfl) rfl (by kernel_rfl) rfl rfl (by simp) ?_
  simp only [go_sem, Nat.reduceAdd, Nat.reduceSub, Nat.reduceMul, Nat.reduceLT, Nat.reduceLeDiff, Nat.reduceBEq, Nat.reduceEqDiff, Int.reduceLE, Int.reduceLT, Int.reduceNeg, Int.reduceAdd, Int.reduceSub, Int.reduceEq, Int.reduceMul, Int.reduceToNat, reduceIte]
  refine (c_cmp _ _ _).mono ?_
  rintro _ _ ⟨rfl, rfl⟩
  simp only [go_sem, Nat.reduceAdd, Nat.reduceSub, Nat.reduceMul, Nat.reduceLT, Nat.reduceLeDiff, Nat.reduceBEq, Nat.reduceEqDiff, Int.reduceLE, Int.reduceLT, Int.reduceNeg, Int.reduceAdd, Int.reduceSub, Int.reduceEq, Int.reduceMul, Int.reduceToNat, reduceIte]
  exact pureK_d _ _ _ _ rfl

def effStart (a it : GStart) : GStart := if it.kind = 0 then a else it
theorem c_effStart (a it : GStart) (H : List AObj) : ACalls Go.Proofs.Tryz.prog GT 62 [.d (encStart a), .d (encStart it)] H fun v H' => v = .d (encStart (effStart a it)) ∧ H' = H := by
  refine acalls_pure (fn := Go.Proofs.Tryz.f62) (c := _) 10 [.cell 4 50] (by kernel_rfl) rfl (by kernel_rfl) rfl rfl (by simp) ?_
  simp only [go_sem, Nat.reduceAdd, Nat.reduceSub, Nat.reduceMul, Nat.reduceLT, Nat.reduceLeDiff, Nat.reduceBEq, Nat.reduceEqDiff, Int.reduceLE, Int.reduceLT, Int.reduceNeg, Int.reduceAdd, Int.reduceSub, Int.reduceEq, Int.reduceMul, Int.reduceToNat, reduceIte]
  refine ⟨fun h1 => ?_, fun h1 => ?_⟩
  · simp only [go_sem, Nat.reduceAdd, Nat.reduceSub, Nat.reduceMul, Nat.reduceLT, Nat.reduceLeDiff, Nat.reduceBEq, Nat.reduceEqDiff, Int.reduceLE, Int.reduceLT, Int.reduceNeg, Int.reduceAdd, Int.reduceSub, Int.reduceEq, Int.reduceMul, Int.reduceToNat, reduceIte]
    exact pureK_d _ _ _ _ (by simp [effStart, h1])
  · simp only [go_sem, Nat.reduceAdd, Nat.reduceSub, Nat.reduceMul, Nat.reduceLT, Nat.reduceLeDiff, Nat.reduceBEq, Nat.reduceEqDiff, Int.reduceLE, Int.reduceLT, Int.reduceNeg, Int.reduceAdd, Int.reduceSub, Int.reduceEq, Int.reduceMul, Int.reduceToNat, reduceIte]
    exact pureK_d _ _ _ _ (by simp [effStart, h1])

def isEvent (name : ByteArray) (d : GDeed) : Bool := decide (d.it.kind = 10 ∧ d.it.event = name)
theorem c_eventDay1 (x : GDeed) (s : ByteArray) (b : Nat) (H : List AObj) (hb : hget H b = some (.row 1 0 false [.d (.str s)])) :
    ACalls Go.Proofs.Tryz.prog GT 150 [.d (encDeed x), .ptr b 0 0 0] H fun v H' => v = .d (.bool (isEvent s x)) ∧ H' = H := by
  have hlt : b < H.length := lt_of_get hb
  refine acalls_pure (fn := Go.Proofs.Tryz.f150) (c := _) 15 [.tmp 3] (by kernel_rfl) rfl (by kernel_rfl) rfl rfl (by simp) ?_
  simp only [go_sem, Nat.reduceAdd, Nat.reduceSub, Nat.reduceMul, Nat.reduceLT, Nat.reduceLeDiff, Nat.reduceBEq, Nat.reduceEqDiff, Int.reduceLE, Int.reduceLT, Int.reduceNeg, Int.reduceAdd, Int.reduceSub, Int.reduceEq, Int.reduceMul, Int.reduceToNat, reduceIte]
  refine ⟨fun h1 => ?_, fun h1 => ?_⟩
  · simp only [go_sem, Nat.reduceAdd, Nat.reduceSub, Nat.reduceMul, Nat.reduceLT, Nat.reduceLeDiff, Nat.reduceBEq, Nat.reduceEqDiff, Int.reduceLE, Int.reduceLT, Int.reduceNeg, Int.reduceAdd, Int.reduceSub, Int.reduceEq, Int.reduceMul, Int.reduceToNat, reduceIte, h1, hget_low _ _ hlt, hb]
    refine pureK_d _ _ _ _ ?_
    congr 2
    simp [isEvent, h1]
  · simp only [go_sem, Nat.reduceAdd, Nat.reduceSub, Nat.reduceMul, Nat.reduceLT, Nat.reduceLeDiff, Nat.reduceBEq, Nat.reduceEqDiff, Int.reduceLE, Int.reduceLT, Int.reduceNeg, Int.reduceAdd, Int.reduceSub, Int.reduceEq, Int.reduceMul, Int.reduceToNat, reduceIte, h1]
    refine pureK_d _ _ _ _ ?_
    congr 2
    simp [isEvent, h1]

def idxI {α : Type} (p : α → Bool) (l : List α) : Int := match l.findIdx? p with | some i => i | none => -1
theorem c_indexDeed (l : List GDeed) (p : GDeed → Bool) (f : AV) (H : List AObj) (hf : ∀ x ∈ l, callV Go.Proofs.Tryz.prog GT f [.d (encDeed x)] H fun v H' => v = .d (.bool (p x)) ∧ H' = H) (hcl : cloA H.length f = true) (hco : coe f = f) :
    ACalls Go.Proofs.Tryz.prog GT 149 [.d (.list (l.map encDeed)), f] H fun v H' => v = .d (.int .i64 (idxI p l)) ∧ H' = H := by
  refine acalls_ok (fun hok => ?_) (by kernel_rfl)
  obtain ⟨⟨hl, -⟩, -⟩ := hok
  rw [List.length_map] at hl
  refine acalls_pure (fn := Go.Proofs.Tryz.f149) (c := _) 19 [.tmp 4] (by kernel_rfl) rfl (by kernel_rfl) rfl rfl (by simp) ?_
  simp only [go_sem, Nat.reduceAdd, Nat.reduceSub, Nat.reduceMul, Nat.reduceLT, Nat.reduceLeDiff, Nat.reduceBEq, Nat.reduceEqDiff, Int.reduceLE, Int.reduceLT, Int.reduceNeg, Int.reduceAdd, Int.reduceSub, Int.reduceEq, Int.reduceMul, Int.reduceToNat, reduceIte, hl]
  refine ab_loop (ι := {i : Nat // i ≤ l.length ∧ ∀ x ∈ l.take i, p x = false}) (fun i => ⟨E 19 [(0, .d (.list (l.map encDeed))), (1, f), (6, .d (.list (l.map encDeed))), (7, .d (.int .i64 l.length)), (8, .d (.int .i64 (i.1 : Int)))], H⟩) (fun i => l.length - i.1) ⟨0, by simp⟩ (drop_E ?_) ?_
  · simp only [go_sem, Nat.reduceAdd, Nat.reduceSub, Nat.reduceMul, Nat.reduceLT, Nat.reduceLeDiff, Nat.reduceBEq, Nat.reduceEqDiff, Int.reduceLE, Int.reduceLT, Int.reduceNeg, Int.reduceAdd, Int.reduceSub, Int.reduceEq, Int.reduceMul, Int.reduceToNat, reduceIte, hl]
  rintro ⟨i, hi, hz⟩
  simp only [go_sem, Nat.reduceAdd, Nat.reduceSub, Nat.reduceMul, Nat.reduceLT, Nat.reduceLeDiff, Nat.reduceBEq, Nat.reduceEqDiff, Int.reduceLE, Int.reduceLT, Int.reduceNeg, Int.reduceAdd, Int.reduceSub, Int.reduceEq, Int.reduceMul, Int.reduceToNat, reduceIte]
  refine ⟨fun h1 => ?_, fun h1 => ?_⟩
  · have hlt : i < l.length := by omega
    simp only [go_sem, Nat.reduceAdd, Nat.reduceSub, Nat.reduceMul, Nat.reduceLT, Nat.reduceLeDiff, Nat.reduceBEq, Nat.reduceEqDiff, Int.reduceLE, Int.reduceLT, Int.reduceNeg, Int.reduceAdd, Int.reduceSub, Int.reduceEq, Int.reduceMul, Int.reduceToNat, reduceIte, getEnc encDeed hlt]
    refine callV_mono (hf l[i] (List.getElem_mem hlt)) ?_
    rintro _ _ ⟨rfl, rfl⟩
    cases hp : p l[i] with
    | true =>
      simp only [go_sem, Nat.reduceAdd, Nat.reduceSub, Nat.reduceMul, Nat.reduceLT, Nat.reduceLeDiff, Nat.reduceBEq, Nat.reduceEqDiff, Int.reduceLE, Int.reduceLT, Int.reduceNeg, Int.reduceAdd, Int.reduceSub, Int.reduceEq, Int.reduceMul, Int.reduceToNat, reduceIte]
      refine pureK_d0 _ _ _ ?_
      simp only [idxI, findIdx_at hlt hz hp]
    | false =>
      simp only [go_sem, Nat.reduceAdd, Nat.reduceSub, Nat.reduceMul, Nat.reduceLT, Nat.reduceLeDiff, Nat.reduceBEq, Nat.reduceEqDiff, Int.reduceLE, Int.reduceLT, Int.reduceNeg, Int.reduceAdd, Int.reduceSub, Int.reduceEq, Int.reduceMul, Int.reduceToNat, reduceIte]
      refine ⟨⟨i + 1, hlt, take_all hlt hz hp⟩, by simp only; omega, drop_E ?_⟩
      simp only [go_sem, Nat.reduceAdd, Nat.reduceSub, Nat.reduceMul, Nat.reduceLT, Nat.reduceLeDiff, Nat.reduceBEq, Nat.reduceEqDiff, Int.reduceLE, Int.reduceLT, Int.reduceNeg, Int.reduceAdd, Int.reduceSub, Int.reduceEq, Int.reduceMul, Int.reduceToNat, reduceIte, wrap_succ i (by omega)]
  · simp only [go_sem, Nat.reduceAdd, Nat.reduceSub, Nat.reduceMul, Nat.reduceLT, Nat.reduceLeDiff, Nat.reduceBEq, Nat.reduceEqDiff, Int.reduceLE, Int.reduceLT, Int.reduceNeg, Int.reduceAdd, Int.reduceSub, Int.reduceEq, Int.reduceMul, Int.reduceToNat, reduceIte]
    refine pureK_d0 _ _ _ ?_
    rw [take_end h1] at hz
    simp only [idxI, findIdx_no hz]

def eventDay (s : ByteArray) (l : List GDeed) : Int × Bool := match l.find? (isEvent s) with | some d => (d.it.day, true) | none => (0, false)
theorem c_eventDay (s : ByteArray) (l : List GDeed) (H : List AObj) : ACalls Go.Proofs.Tryz.prog GT 87 [.d (.str s), .d (.list (l.map encDeed))] H fun v H' => v = .tup [.d (.int .i64 (eventDay s l).1), .d (.bool (eventDay s l).2)] ∧ H' = H := by
  refine acalls_pure (fn := Go.Proofs.Tryz.f87) (c := _) 18 [.tmp 4, .tmp 5] (by kernel_rfl) rfl (by kernel_rfl) rfl rfl (by simp) ?_
  simp only [go_sem, Nat.reduceAdd, Nat.reduceSub, Nat.reduceMul, Nat.reduceLT, Nat.reduceLeDiff, Nat.reduceBEq, Nat.reduceEqDiff, Int.reduceLE, Int.reduceLT, Int.reduceNeg, Int.reduceAdd, Int.reduceSub, Int.reduceEq, Int.reduceMul, Int.reduceToNat, reduceIte]
  refine (c_indexDeed l (isEvent s) _ _ (fun x _ => ?_) ?_ rfl).mono ?_
  · simp only [go_sem, Nat.reduceAdd, Nat.reduceSub, Nat.reduceMul, Nat.reduceLT, Nat.reduceLeDiff, Nat.reduceBEq, Nat.reduceEqDiff, Int.reduceLE, Int.reduceLT, Int.reduceNeg, Int.reduceAdd, Int.reduceSub, Int.reduceEq, Int.reduceMul, Int.reduceToNat, reduceIte]
    exact c_eventDay1 _ _ _ _ (by simp only [go_sem, Nat.reduceAdd, Nat.reduceSub, Nat.reduceMul, Nat.reduceLT, Nat.reduceLeDiff, Nat.reduceBEq, Nat.reduceEqDiff, Int.reduceLE, Int.reduceLT, Int.reduceNeg, Int.reduceAdd, Int.reduceSub, Int.reduceEq, Int.reduceMul, Int.reduceToNat, reduceIte])
  · simp [cloA, cloL]
  rintro _ _ ⟨rfl, rfl⟩
  simp only [go_sem, Nat.reduceAdd, Nat.reduceSub, Nat.reduceMul, Nat.reduceLT, Nat.reduceLeDiff, Nat.reduceBEq, Nat.reduceEqDiff, Int.reduceLE, Int.reduceLT, Int.reduceNeg, Int.reduceAdd, Int.reduceSub, Int.reduceEq, Int.reduceMul, Int.reduceToNat, reduceIte]
  cases hi : l.findIdx? (isEvent s) with
  | none =>
    have h1 : idxI (isEvent s) l = -1 := by simp only [idxI, hi]
    have h2 : eventDay s l = (0, false) := by
      rw [List.findIdx?_eq_none_iff] at hi
      simp only [eventDay, find_no hi]
    simp only [go_sem, Nat.reduceAdd, Nat.reduceSub, Nat.reduceMul, Nat.reduceLT, Nat.reduceLeDiff, Nat.reduceBEq, Nat.reduceEqDiff, Int.reduceLE, Int.reduceLT, Int.reduceNeg, Int.reduceAdd, Int.reduceSub, Int.reduceEq, Int.reduceMul, Int.reduceToNat, reduceIte, h1, h2]
    exact pureK_tup2 _ _ _ _ _ rfl
  | some i =>
    have h1 : idxI (isEvent s) l = (i : Int) := by simp only [idxI, hi]
    obtain ⟨hlt, hp, hq⟩ := List.findIdx?_eq_some_iff_getElem.1 hi
    have hq' : ∀ x ∈ l.take i, isEvent s x = false := by
      intro x hx
      rw [List.mem_take_iff_getElem] at hx
      obtain ⟨j, hj, rfl⟩ := hx
      have := hq j (by omega)
      simpa using this
    have h2 : eventDay s l = (l[i].it.day, true) := by
      simp only [eventDay, find_at hlt (p := isEvent s) hq' hp]
    have h3 : ¬ ((i : Int) < 0) := by omega
    simp only [go_sem, Nat.reduceAdd, Nat.reduceSub, Nat.reduceMul, Nat.reduceLT, Nat.reduceLeDiff, Nat.reduceBEq, Nat.reduceEqDiff, Int.reduceLE, Int.reduceLT, Int.reduceNeg, Int.reduceAdd, Int.reduceSub, Int.reduceEq, Int.reduceMul, Int.reduceToNat, reduceIte, h1, h2, h3, getEnc encDeed hlt]
    exact pureK_tup2 _ _ _ _ _ rfl
end Go.Ab

open Go
namespace Go.Ab
attribute [local go_sem] ents held Option.isSome_some Option.isSome_none Option.map_some Option.map_none List.length_map List.map_cons List.map_nil List.length_cons List.length_nil List.cons_append List.nil_append List.append_assoc true_and and_true true_or or_true eq_self decide_true decide_false Bool.not_true Bool.not_false not_true not_false Int.natCast_zero Nat.zero_add Bool.false_eq_true Bool.true_eq_false if_true if_false Bool.or_false Bool.or_true Bool.false_or Bool.true_or Bool.and_false Bool.false_and
set_option maxRecDepth 8000
set_option linter.unusedSimpArgs false
set_option linter.unusedVariables false
variable {GT : Globs}

@[go_sem] theorem eqD_int (a b : Int) : eqD Go.Proofs.Tryz.prog 3 (.int .i64 a) (.int .i64 b) = some (decide (a = b)) := by
  have : eqD Go.Proofs.Tryz.prog 3 (.int .i64 a) (.int .i64 b) = some (a == b) := by kernel_rfl
  rw [this]; rfl
@[go_sem] theorem key_int (a : Int) : keyOK Go.Proofs.Tryz.prog 3 (.int .i64 a) = true := by
  have h : keyT Go.Proofs.Tryz.prog 100 3 = true := by kernel_rfl
  simp only [keyOK, h, eqD_int, Option.isSome_some, Bool.and_self]

def turnsM : List (D × AV) := [(.int .i64 7, .d (.fn 86)), (.int .i64 9, .d (.fn 86)), (.int .i64 8, .d (.fn 88))]
theorem c_turns (H : List AObj) : ACalls Go.Proofs.Tryz.prog GT 63 [] H fun v H' => v = .mp H.length ∧ H' = H ++ [.map turnsM] := by
  refine acalls_all (fn := Go.Proofs.Tryz.f63) (c := _) 3 [.tmp 0] (by kernel_rfl) rfl (by kernel_rfl) rfl rfl (by simp) ?_
  simp only [go_sem, Nat.reduceAdd, Nat.reduceSub, Nat.reduceMul, Nat.reduceLT, Nat.reduceLeDiff, Nat.reduceBEq, Nat.reduceEqDiff, Int.reduceLE, Int.reduceLT, Int.reduceNeg, Int.reduceAdd, Int.reduceSub, Int.reduceEq, Int.reduceMul, Int.reduceToNat, reduceIte]
  rfl
def isTurn (k : Int) : Bool := decide (k = 7) || decide (k = 8) || decide (k = 9)
theorem turnsM_d : ∀ e ∈ turnsM, ∃ x, e.2 = .d x := by
  intro e he
  simp only [turnsM, List.mem_cons, List.not_mem_nil, or_false] at he
  rcases he with rfl | rfl | rfl <;> exact ⟨_, rfl⟩
def turnA (k : Int) : Option AV := if k = 7 ∨ k = 9 then some (.d (.fn 86)) else if k = 8 then some (.d (.fn 88)) else none
theorem find_turn (k : Int) : findE Go.Proofs.Tryz.prog 3 (.int .i64 k) turnsM = some (turnA k) := by
  unfold turnsM turnA
  by_cases h7 : k = 7
  · subst h7; simp only [go_sem, Nat.reduceAdd, Nat.reduceSub, Nat.reduceMul, Nat.reduceLT, Nat.reduceLeDiff, Nat.reduceBEq, Nat.reduceEqDiff, Int.reduceLE, Int.reduceLT, Int.reduceNeg, Int.reduceAdd, Int.reduceSub, Int.reduceEq, Int.reduceMul, Int.reduceToNat, reduceIte]; try rfl
  by_cases h9 : k = 9
  · subst h9; simp only [go_sem, Nat.reduceAdd, Nat.reduceSub, Nat.reduceMul, Nat.reduceLT, Nat.reduceLeDiff, Nat.reduceBEq, Nat.reduceEqDiff, Int.reduceLE, Int.reduceLT, Int.reduceNeg, Int.reduceAdd, Int.reduceSub, Int.reduceEq, Int.reduceMul, Int.reduceToNat, reduceIte]; try rfl
  by_cases h8 : k = 8
  · subst h8; simp only [go_sem, Nat.reduceAdd, Nat.reduceSub, Nat.reduceMul, Nat.reduceLT, Nat.reduceLeDiff, Nat.reduceBEq, Nat.reduceEqDiff, Int.reduceLE, Int.reduceLT, Int.reduceNeg, Int.reduceAdd, Int.reduceSub, Int.reduceEq, Int.reduceMul, Int.reduceToNat, reduceIte]; try rfl
  simp only [go_sem, Nat.reduceAdd, Nat.reduceSub, Nat.reduceMul, Nat.reduceLT, Nat.reduceLeDiff, Nat.reduceBEq, Nat.reduceEqDiff, Int.reduceLE, Int.reduceLT, Int.reduceNeg, Int.reduceAdd, Int.reduceSub, Int.reduceEq, Int.reduceMul, Int.reduceToNat, reduceIte, h7, h8, h9]
  simp [h7, h8, h9]
theorem turnA_is (k : Int) : isTurn k = (turnA k).isSome := by
  unfold isTurn turnA
  by_cases h7 : k = 7
  · simp [h7]
  by_cases h9 : k = 9
  · simp [h9]
  by_cases h8 : k = 8
  · simp [h8]
  simp [h7, h8, h9]

def refers (it : GItem) (act item : Int) : Bool :=
  decide (it.act = act) && if it.kind = 11 then decide (it.item = item) else isTurn it.kind && (decide (it.item = item) || decide (it.item = -1))

theorem c_refers (it : GItem) (act item : Int) (H : List AObj) : ACalls Go.Proofs.Tryz.prog GT 64 [.d (encItem it), .d (.int .i64 act), .d (.int .i64 item)] H fun v H' => v = .d (.bool (refers it act item)) ∧ H' = H := by
  refine acalls_pure (fn := Go.Proofs.Tryz.f64) (c := _) 39 [.tmp 6] (by kernel_rfl) rfl (by kernel_rfl) rfl rfl (by simp) ?_
  simp only [go_sem, Nat.reduceAdd, Nat.reduceSub, Nat.reduceMul, Nat.reduceLT, Nat.reduceLeDiff, Nat.reduceBEq, Nat.reduceEqDiff, Int.reduceLE, Int.reduceLT, Int.reduceNeg, Int.reduceAdd, Int.reduceSub, Int.reduceEq, Int.reduceMul, Int.reduceToNat, reduceIte]
  refine ⟨fun h1 => ?_, fun h1 => ?_⟩
  rotate_left
  · simp only [go_sem, Nat.reduceAdd, Nat.reduceSub, Nat.reduceMul, Nat.reduceLT, Nat.reduceLeDiff, Nat.reduceBEq, Nat.reduceEqDiff, Int.reduceLE, Int.reduceLT, Int.reduceNeg, Int.reduceAdd, Int.reduceSub, Int.reduceEq, Int.reduceMul, Int.reduceToNat, reduceIte, h1]
    exact pureK_d _ _ _ _ (by simp [refers, h1])
  simp only [go_sem, Nat.reduceAdd, Nat.reduceSub, Nat.reduceMul, Nat.reduceLT, Nat.reduceLeDiff, Nat.reduceBEq, Nat.reduceEqDiff, Int.reduceLE, Int.reduceLT, Int.reduceNeg, Int.reduceAdd, Int.reduceSub, Int.reduceEq, Int.reduceMul, Int.reduceToNat, reduceIte, h1]
  refine ⟨fun h2 => ?_, fun h2 => ?_⟩
  · simp only [go_sem, Nat.reduceAdd, Nat.reduceSub, Nat.reduceMul, Nat.reduceLT, Nat.reduceLeDiff, Nat.reduceBEq, Nat.reduceEqDiff, Int.reduceLE, Int.reduceLT, Int.reduceNeg, Int.reduceAdd, Int.reduceSub, Int.reduceEq, Int.reduceMul, Int.reduceToNat, reduceIte, h2]
    exact pureK_d _ _ _ _ (by simp [refers, h1, h2])
  simp only [go_sem, Nat.reduceAdd, Nat.reduceSub, Nat.reduceMul, Nat.reduceLT, Nat.reduceLeDiff, Nat.reduceBEq, Nat.reduceEqDiff, Int.reduceLE, Int.reduceLT, Int.reduceNeg, Int.reduceAdd, Int.reduceSub, Int.reduceEq, Int.reduceMul, Int.reduceToNat, reduceIte, h2]
  refine ab_draw 9 (by kernel_rfl) (by kernel_rfl) (by kernel_rfl) ?_
  simp only [go_sem, Nat.reduceAdd, Nat.reduceSub, Nat.reduceMul, Nat.reduceLT, Nat.reduceLeDiff, Nat.reduceBEq, Nat.reduceEqDiff, Int.reduceLE, Int.reduceLT, Int.reduceNeg, Int.reduceAdd, Int.reduceSub, Int.reduceEq, Int.reduceMul, Int.reduceToNat, reduceIte]
  refine callq_map turnsM turnsM_d (fun M => c_turns M) ?_
  cases ht : turnA it.kind with
  | none =>
    simp only [go_sem, Nat.reduceAdd, Nat.reduceSub, Nat.reduceMul, Nat.reduceLT, Nat.reduceLeDiff, Nat.reduceBEq, Nat.reduceEqDiff, Int.reduceLE, Int.reduceLT, Int.reduceNeg, Int.reduceAdd, Int.reduceSub, Int.reduceEq, Int.reduceMul, Int.reduceToNat, reduceIte, find_turn, ht]
    exact pureK_d _ _ _ _ (by simp [refers, h1, h2, turnA_is, ht])
  | some tv =>
    simp only [go_sem, Nat.reduceAdd, Nat.reduceSub, Nat.reduceMul, Nat.reduceLT, Nat.reduceLeDiff, Nat.reduceBEq, Nat.reduceEqDiff, Int.reduceLE, Int.reduceLT, Int.reduceNeg, Int.reduceAdd, Int.reduceSub, Int.reduceEq, Int.reduceMul, Int.reduceToNat, reduceIte, find_turn, ht]
    refine ⟨fun h3 => ?_, fun h3 => ?_⟩
    · simp only [go_sem, Nat.reduceAdd, Nat.reduceSub, Nat.reduceMul, Nat.reduceLT, Nat.reduceLeDiff, Nat.reduceBEq, Nat.reduceEqDiff, Int.reduceLE, Int.reduceLT, Int.reduceNeg, Int.reduceAdd, Int.reduceSub, Int.reduceEq, Int.reduceMul, Int.reduceToNat, reduceIte, h3]
      exact pureK_d _ _ _ _ (by simp [refers, h1, h2, turnA_is, ht, h3])
    · simp only [go_sem, Nat.reduceAdd, Nat.reduceSub, Nat.reduceMul, Nat.reduceLT, Nat.reduceLeDiff, Nat.reduceBEq, Nat.reduceEqDiff, Int.reduceLE, Int.reduceLT, Int.reduceNeg, Int.reduceAdd, Int.reduceSub, Int.reduceEq, Int.reduceMul, Int.reduceToNat, reduceIte, h3]
      exact pureK_d _ _ _ _ (by simp [refers, h1, h2, turnA_is, ht, h3])
end Go.Ab
