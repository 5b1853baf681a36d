/- K9 K10 K11 -/
import Derived.Test.YtckjoghpknalcaaGreatDoorK8
import Derived.Test.YtckjoghpknalcaaGreatDoorA5
set_option linter.unusedVariables false
set_option linter.unusedSimpArgs false
set_option linter.unnecessarySimpa false
open Go
namespace Go.Ab
attribute [local go_sem] ents held Option.isSome_some Option.isSome_none Option.map_some Option.map_none List.length_map List.map_cons List.map_nil List.length_cons List.length_nil List.cons_append List.nil_append List.append_assoc true_and and_true true_or or_true eq_self decide_true decide_false Bool.not_true Bool.not_false not_true not_false Int.natCast_zero Nat.zero_add Bool.false_eq_true Bool.true_eq_false if_true if_false Bool.or_false Bool.or_true Bool.false_or Bool.true_or Bool.and_false Bool.false_and
set_option maxRecDepth 8000
set_option linter.unusedSimpArgs false
set_option linter.unusedVariables false
variable {GT : Globs}

def clip (x : GSpan) : GSpan := ⟨max x.from_ 0, min x.to_ 1048577⟩
def keep (l : List GSpan) : List GSpan := (l.map clip).filter fun x => decide (x.from_ < x.to_)
def mergeStep (acc : List GSpan) (x : GSpan) : List GSpan := match acc.getLast? with
  | some y => if x.from_ ≤ y.to_ then acc.dropLast ++ [⟨y.from_, max y.to_ x.to_⟩] else acc ++ [x]
  | none => acc ++ [x]
def merge (l : List GSpan) : List GSpan := l.foldl mergeStep []
def norm (l : List GSpan) : List GSpan := merge (sortS (keep l))

theorem keep_take {l : List GSpan} {i : Nat} (h : i < l.length) : keep (l.take (i + 1)) = keep (l.take i) ++ if max l[i].from_ 0 < min l[i].to_ 1048577 then [clip l[i]] else [] := by
  unfold keep
  rw [List.take_succ_eq_append_getElem h, List.map_append, List.filter_append]
  congr 1
  by_cases hc : max l[i].from_ 0 < min l[i].to_ 1048577
  · rw [if_pos hc]; simp only [List.map_cons, List.map_nil, List.filter_cons, clip, hc, decide_true, if_true, List.filter_nil]
  · rw [if_neg hc]; simp only [List.map_cons, List.map_nil, List.filter_cons, clip, hc, decide_false, if_false, List.filter_nil, Bool.false_eq_true]
theorem keep_len (l : List GSpan) : (keep l).length ≤ l.length := by
  unfold keep; exact Nat.le_trans (List.length_filter_le _ _) (by simp)
theorem merge_take {l : List GSpan} {i : Nat} (h : i < l.length) : merge (l.take (i + 1)) = mergeStep (merge (l.take i)) l[i] := by
  unfold merge
  rw [List.take_succ_eq_append_getElem h, List.foldl_append]; rfl
theorem mergeStep_len (acc : List GSpan) (x : GSpan) : (mergeStep acc x).length ≤ acc.length + 1 := by
  unfold mergeStep
  split
  · split
    · simp
    · simp
  · simp
theorem merge_len (l : List GSpan) : (merge l).length ≤ l.length := by
  have : ∀ (l acc : List GSpan), (l.foldl mergeStep acc).length ≤ acc.length + l.length := by
    intro l
    induction l with
    | nil => intro acc; simp
    | cons x l ih => intro acc; have h1 := ih (mergeStep acc x); have h2 := mergeStep_len acc x; simp only [List.foldl_cons, List.length_cons]; omega
  simpa [merge] using this l []

theorem c_norm (l : List GSpan) (H : List AObj) (hcap : l.length * 16 ≤ 140737488355328) : ACalls Go.Proofs.Tryz.prog GT 47 [.d (.list (l.map encSpan))] H fun v H' => v = .d (.list ((norm l).map encSpan)) ∧ H' = H := by
  have hl : l.length ≤ 9223372036854775807 := by omega
  refine acalls_pure (fn := Go.Proofs.Tryz.f47) (c := _) 78 [.tmp 2] (by kernel_rfl) rfl (by kernel_rfl) rfl rfl (by simp) ?_
  simp only [go_sem, Nat.reduceAdd, Nat.reduceSub, Nat.reduceMul, Nat.reduceLT, Nat.reduceLeDiff, Nat.reduceBEq, Nat.reduceEqDiff, Int.reduceLE, Int.reduceLT, Int.reduceNeg, Int.reduceAdd, Int.reduceSub, Int.reduceEq, Int.reduceMul, Int.reduceToNat, reduceIte, hl]
  refine ab_loopV (ι := {i : Nat // i ≤ l.length}) ⟨E 78 [(3, .ref H.length 0 0 0 none), (9, .d (.list (l.map encSpan))), (10, .d (.int .i64 l.length)), (11, .d (.int .i64 0))], H ++ [.row 2 0 false []]⟩
    (fun i => ⟨E 78 [(3, .ref H.length (keep (l.take i.1)).length 0 (keep (l.take i.1)).length none), (9, .d (.list (l.map encSpan))), (10, .d (.int .i64 l.length)), (11, .d (.int .i64 (i.1 : Int)))], H ++ [AObj.row 2 (keep (l.take i.1)).length false ((keep (l.take i.1)).map fun x => AV.d (encSpan x))]⟩) (fun i => l.length - i.1) ⟨0, Nat.zero_le _⟩ ?_ ?_ ?_
  · refine drop_V [2] (by simp) ?_
    simp only [heldV, go_sem, Nat.reduceAdd, Nat.reduceSub, Nat.reduceMul, Nat.reduceLT, Nat.reduceLeDiff, Nat.reduceBEq, Nat.reduceEqDiff, Int.reduceLE, Int.reduceLT, Int.reduceNeg, Int.reduceAdd, Int.reduceSub, Int.reduceEq, Int.reduceMul, Int.reduceToNat, reduceIte]
    exact .inr ⟨0, by omega, rfl⟩
  · refine drop_E ?_
    simp only [go_sem, Nat.reduceAdd, Nat.reduceSub, Nat.reduceMul, Nat.reduceLT, Nat.reduceLeDiff, Nat.reduceBEq, Nat.reduceEqDiff, Int.reduceLE, Int.reduceLT, Int.reduceNeg, Int.reduceAdd, Int.reduceSub, Int.reduceEq, Int.reduceMul, Int.reduceToNat, reduceIte]
    rfl
  rintro ⟨i, hi⟩
  simp only [go_sem, Nat.reduceAdd, Nat.reduceSub, Nat.reduceMul, Nat.reduceLT, Nat.reduceLeDiff, Nat.reduceBEq, Nat.reduceEqDiff, Int.reduceLE, Int.reduceLT, Int.reduceNeg, Int.reduceAdd, Int.reduceSub, Int.reduceEq, Int.reduceMul, Int.reduceToNat, reduceIte]
  refine ⟨fun h1 => ?_, fun h1 => ?_⟩
  · have hlt : i < l.length := by omega
    have hk := keep_take hlt
    have hkl := keep_len (l.take i)
    have hkl2 : (keep (l.take i)).length ≤ i := by rw [List.length_take] at hkl; omega
    have hA : ((keep (l.take i)).length + 1) * 16 ≤ 140737488355328 := by omega
    have hA2 : (keep (l.take i)).length + 1 ≤ 140737488355328 := by omega
    simp only [go_sem, Nat.reduceAdd, Nat.reduceSub, Nat.reduceMul, Nat.reduceLT, Nat.reduceLeDiff, Nat.reduceBEq, Nat.reduceEqDiff, Int.reduceLE, Int.reduceLT, Int.reduceNeg, Int.reduceAdd, Int.reduceSub, Int.reduceEq, Int.reduceMul, Int.reduceToNat, reduceIte, getEnc encSpan hlt]
    refine ⟨fun h2 => ?_, fun h2 => ?_⟩
    · simp only [go_sem, Nat.reduceAdd, Nat.reduceSub, Nat.reduceMul, Nat.reduceLT, Nat.reduceLeDiff, Nat.reduceBEq, Nat.reduceEqDiff, Int.reduceLE, Int.reduceLT, Int.reduceNeg, Int.reduceAdd, Int.reduceSub, Int.reduceEq, Int.reduceMul, Int.reduceToNat, reduceIte, h2]
      refine bsl_one (by simp only [go_sem, Nat.reduceAdd, Nat.reduceSub, Nat.reduceMul, Nat.reduceLT, Nat.reduceLeDiff, Nat.reduceBEq, Nat.reduceEqDiff, Int.reduceLE, Int.reduceLT, Int.reduceNeg, Int.reduceAdd, Int.reduceSub, Int.reduceEq, Int.reduceMul, Int.reduceToNat, reduceIte]) (by simp only [go_sem, Nat.reduceAdd, Nat.reduceSub, Nat.reduceMul, Nat.reduceLT, Nat.reduceLeDiff, Nat.reduceBEq, Nat.reduceEqDiff, Int.reduceLE, Int.reduceLT, Int.reduceNeg, Int.reduceAdd, Int.reduceSub, Int.reduceEq, Int.reduceMul, Int.reduceToNat, reduceIte]) (by simp only [go_sem, Nat.reduceAdd, Nat.reduceSub, Nat.reduceMul, Nat.reduceLT, Nat.reduceLeDiff, Nat.reduceBEq, Nat.reduceEqDiff, Int.reduceLE, Int.reduceLT, Int.reduceNeg, Int.reduceAdd, Int.reduceSub, Int.reduceEq, Int.reduceMul, Int.reduceToNat, reduceIte]) ?_
      simp only [go_sem, Nat.reduceAdd, Nat.reduceSub, Nat.reduceMul, Nat.reduceLT, Nat.reduceLeDiff, Nat.reduceBEq, Nat.reduceEqDiff, Int.reduceLE, Int.reduceLT, Int.reduceNeg, Int.reduceAdd, Int.reduceSub, Int.reduceEq, Int.reduceMul, Int.reduceToNat, reduceIte, hA, hA2, wrap_succ i (by omega)]
      rw [if_pos h2] at hk
      have e1 : ((keep (l.take i)).map (fun x => AV.d (encSpan x)) ++ [AV.d (encSpan { from_ := max l[i].from_ 0, to_ := min l[i].to_ 1048577 })]) = (keep (l.take (i + 1))).map fun x => AV.d (encSpan x) := by rw [hk]; simp [clip]
      have e2 : (keep (l.take i)).length + 1 = (keep (l.take (i + 1))).length := by rw [hk]; simp
      rw [e1, e2]
      refine ⟨⟨i + 1, hlt⟩, by simp only; omega, drop_own rfl (keeps_own rfl clo_one) ?_⟩
      simp only [held2, cloA, go_sem, Nat.reduceAdd, Nat.reduceSub, Nat.reduceMul, Nat.reduceLT, Nat.reduceLeDiff, Nat.reduceBEq, Nat.reduceEqDiff, Int.reduceLE, Int.reduceLT, Int.reduceNeg, Int.reduceAdd, Int.reduceSub, Int.reduceEq, Int.reduceMul, Int.reduceToNat, reduceIte]
    · simp only [go_sem, Nat.reduceAdd, Nat.reduceSub, Nat.reduceMul, Nat.reduceLT, Nat.reduceLeDiff, Nat.reduceBEq, Nat.reduceEqDiff, Int.reduceLE, Int.reduceLT, Int.reduceNeg, Int.reduceAdd, Int.reduceSub, Int.reduceEq, Int.reduceMul, Int.reduceToNat, reduceIte, h2, wrap_succ i (by omega)]
      rw [if_neg h2, List.append_nil] at hk
      refine ⟨⟨i + 1, hlt⟩, by simp only; omega, ?_⟩
      rw [hk]
      refine drop_own rfl (keeps_own rfl clo_one) ?_
      simp only [held2, cloA, go_sem, Nat.reduceAdd, Nat.reduceSub, Nat.reduceMul, Nat.reduceLT, Nat.reduceLeDiff, Nat.reduceBEq, Nat.reduceEqDiff, Int.reduceLE, Int.reduceLT, Int.reduceNeg, Int.reduceAdd, Int.reduceSub, Int.reduceEq, Int.reduceMul, Int.reduceToNat, reduceIte]
  · have hik : i = l.length := by omega
    subst hik
    have hkl := keep_len l
    simp only [go_sem, Nat.reduceAdd, Nat.reduceSub, Nat.reduceMul, Nat.reduceLT, Nat.reduceLeDiff, Nat.reduceBEq, Nat.reduceEqDiff, Int.reduceLE, Int.reduceLT, Int.reduceNeg, Int.reduceAdd, Int.reduceSub, Int.reduceEq, Int.reduceMul, Int.reduceToNat, reduceIte, List.take_length]
    refine (c_sortSpan (keep l) H.length (keep l).length (keep l).length _ (by simp only [go_sem, Nat.reduceAdd, Nat.reduceSub, Nat.reduceMul, Nat.reduceLT, Nat.reduceLeDiff, Nat.reduceBEq, Nat.reduceEqDiff, Int.reduceLE, Int.reduceLT, Int.reduceNeg, Int.reduceAdd, Int.reduceSub, Int.reduceEq, Int.reduceMul, Int.reduceToNat, reduceIte]) rfl (by omega)).mono ?_
    rintro _ _ ⟨rfl, rfl⟩
    have hsl := sortS_length (keep l)
    simp only [go_sem, Nat.reduceAdd, Nat.reduceSub, Nat.reduceMul, Nat.reduceLT, Nat.reduceLeDiff, Nat.reduceBEq, Nat.reduceEqDiff, Int.reduceLE, Int.reduceLT, Int.reduceNeg, Int.reduceAdd, Int.reduceSub, Int.reduceEq, Int.reduceMul, Int.reduceToNat, reduceIte]
    generalize hS : sortS (keep l) = S at hsl ⊢
    generalize hg : (keep l).length = g at hsl hkl ⊢
    have hnorm : norm l = merge S := by rw [← hS]; rfl
    rw [hnorm]
    clear hnorm hS hg h1
    refine ab_loop (ι := {p : Nat × List GSpan // p.1 ≤ g ∧ p.2.length = g ∧ p.2.take (merge (S.take p.1)).length = merge (S.take p.1) ∧ p.2.drop p.1 = S.drop p.1})
      (fun p => ⟨E 78 [(3, .ref H.length g 0 g none), (6, .d (.int .i64 ((merge (S.take p.1.1)).length : Int))), (35, .ref H.length g 0 g none), (36, .d (.int .i64 g)), (37, .d (.int .i64 (p.1.1 : Int)))], H ++ [AObj.row 2 g false (p.1.2.map fun x => AV.d (encSpan x))]⟩) (fun p => g - p.1.1) ⟨(0, S), Nat.zero_le _, hsl, by simp [merge], rfl⟩ (drop_E ?_) ?_
    · simp only [go_sem, Nat.reduceAdd, Nat.reduceSub, Nat.reduceMul, Nat.reduceLT, Nat.reduceLeDiff, Nat.reduceBEq, Nat.reduceEqDiff, Int.reduceLE, Int.reduceLT, Int.reduceNeg, Int.reduceAdd, Int.reduceSub, Int.reduceEq, Int.reduceMul, Int.reduceToNat, reduceIte]
      rfl
    rintro ⟨⟨i, R⟩, hi, hR, hT, hD⟩
    simp only at hi hR hT hD
    simp only [go_sem, Nat.reduceAdd, Nat.reduceSub, Nat.reduceMul, Nat.reduceLT, Nat.reduceLeDiff, Nat.reduceBEq, Nat.reduceEqDiff, Int.reduceLE, Int.reduceLT, Int.reduceNeg, Int.reduceAdd, Int.reduceSub, Int.reduceEq, Int.reduceMul, Int.reduceToNat, reduceIte]
    refine ⟨fun h1 => ?_, fun h1 => ?_⟩
    · have hlt : i < g := by omega
      have hltR : i < R.length := by omega
      have hltS : i < S.length := by omega
      have hRS : R[i] = S[i] := by
        have e1 : (R.drop i)[0]? = some R[i] := by simp [hltR]
        have e2 : (S.drop i)[0]? = some S[i] := by simp [hltS]
        rw [hD, e2] at e1
        exact (Option.some.inj e1).symm
      simp only [go_sem, Nat.reduceAdd, Nat.reduceSub, Nat.reduceMul, Nat.reduceLT, Nat.reduceLeDiff, Nat.reduceBEq, Nat.reduceEqDiff, Int.reduceLE, Int.reduceLT, Int.reduceNeg, Int.reduceAdd, Int.reduceSub, Int.reduceEq, Int.reduceMul, Int.reduceToNat, reduceIte, get_data encSpan hltR, hlt]
      have hM := merge_take hltS
      have hml : (merge (S.take i)).length ≤ i := by
        have := merge_len (S.take i)
        rw [List.length_take] at this; omega
      refine ab_draw 13 (by kernel_rfl) (by kernel_rfl) (by kernel_rfl) ?_
      simp only [go_sem, Nat.reduceAdd, Nat.reduceSub, Nat.reduceMul, Nat.reduceLT, Nat.reduceLeDiff, Nat.reduceBEq, Nat.reduceEqDiff, Int.reduceLE, Int.reduceLT, Int.reduceNeg, Int.reduceAdd, Int.reduceSub, Int.reduceEq, Int.reduceMul, Int.reduceToNat, reduceIte]
      refine ⟨fun h2 => ?_, fun h2 => ?_⟩
      · have hm0 : 0 < (merge (S.take i)).length := by omega
        have hw : IntKind.i64.wrap (((merge (S.take i)).length : Int) - 1) = (((merge (S.take i)).length - 1 : Nat) : Int) := by rw [wrap_i64 _ (by omega) (by omega)]; omega
        have hmg : (merge (S.take i)).length - 1 < g := by omega
        have hmR : (merge (S.take i)).length - 1 < R.length := by omega
        have hlast : (merge (S.take i)).getLast? = some R[(merge (S.take i)).length - 1] := by
          have h0 : (merge (S.take i))[(merge (S.take i)).length - 1]? = (R.take (merge (S.take i)).length)[(merge (S.take i)).length - 1]? := by rw [hT]
          rw [List.getLast?_eq_getElem?, h0, List.getElem?_take, if_pos (by omega)]
          exact List.getElem?_eq_getElem hmR
        unfold mergeStep at hM
        rw [hlast] at hM
        simp only at hM
        simp only [go_sem, Nat.reduceAdd, Nat.reduceSub, Nat.reduceMul, Nat.reduceLT, Nat.reduceLeDiff, Nat.reduceBEq, Nat.reduceEqDiff, Int.reduceLE, Int.reduceLT, Int.reduceNeg, Int.reduceAdd, Int.reduceSub, Int.reduceEq, Int.reduceMul, Int.reduceToNat, reduceIte, h2, hw, hmg, get_data encSpan hmR]
        rw [hRS]
        refine ⟨fun h3 => ?_, fun h3 => ?_⟩
        · rw [if_pos h3] at hM
          simp only [go_sem, Nat.reduceAdd, Nat.reduceSub, Nat.reduceMul, Nat.reduceLT, Nat.reduceLeDiff, Nat.reduceBEq, Nat.reduceEqDiff, Int.reduceLE, Int.reduceLT, Int.reduceNeg, Int.reduceAdd, Int.reduceSub, Int.reduceEq, Int.reduceMul, Int.reduceToNat, reduceIte, h2, h3]
          refine ab_draw 12 (by kernel_rfl) (by kernel_rfl) (by kernel_rfl) ?_
          simp only [go_sem, Nat.reduceAdd, Nat.reduceSub, Nat.reduceMul, Nat.reduceLT, Nat.reduceLeDiff, Nat.reduceBEq, Nat.reduceEqDiff, Int.reduceLE, Int.reduceLT, Int.reduceNeg, Int.reduceAdd, Int.reduceSub, Int.reduceEq, Int.reduceMul, Int.reduceToNat, reduceIte, h2, hw, hmg, get_data encSpan hmR, wrap_succ i (by omega), set_data R encSpan]
          have hlen : (merge (S.take (i + 1))).length = (merge (S.take i)).length := by rw [hM]; simp; omega
          refine ⟨⟨(i + 1, R.set ((merge (S.take i)).length - 1) ⟨R[(merge (S.take i)).length - 1].from_, max R[(merge (S.take i)).length - 1].to_ S[i].to_⟩), hlt, by simp [hR], ?_, ?_⟩, by simp only; omega, drop_own rfl (keeps_own rfl clo_one) ?_⟩
          · simp only
            rw [hlen, hM]
            exact take_set_last hT hm0 (by omega) _
          · simp only
            rw [drop_set_low (by omega), ← List.drop_drop, hD, List.drop_drop]
          · simp only [held2, cloA, go_sem, Nat.reduceAdd, Nat.reduceSub, Nat.reduceMul, Nat.reduceLT, Nat.reduceLeDiff, Nat.reduceBEq, Nat.reduceEqDiff, Int.reduceLE, Int.reduceLT, Int.reduceNeg, Int.reduceAdd, Int.reduceSub, Int.reduceEq, Int.reduceMul, Int.reduceToNat, reduceIte, hlen]
        · rw [if_neg h3] at hM
          have hmg2 : (merge (S.take i)).length < g := by omega
          have hmR2 : (merge (S.take i)).length < R.length := by omega
          simp only [go_sem, Nat.reduceAdd, Nat.reduceSub, Nat.reduceMul, Nat.reduceLT, Nat.reduceLeDiff, Nat.reduceBEq, Nat.reduceEqDiff, Int.reduceLE, Int.reduceLT, Int.reduceNeg, Int.reduceAdd, Int.reduceSub, Int.reduceEq, Int.reduceMul, Int.reduceToNat, reduceIte, h2, h3, wrap_succ i (by omega), hmg2, get_data encSpan hmR2, set_data R encSpan, wrap_succ (merge (S.take i)).length (by omega)]
          have hlen : (merge (S.take (i + 1))).length = (merge (S.take i)).length + 1 := by rw [hM]; simp
          refine ⟨⟨(i + 1, R.set (merge (S.take i)).length S[i]), hlt, by simp [hR], ?_, ?_⟩, by simp only; omega, drop_own rfl (keeps_own rfl clo_one) ?_⟩
          · simp only
            rw [hlen, hM, take_set_next hmR2, hT]
          · simp only
            rw [drop_set_low (by omega), ← List.drop_drop, hD, List.drop_drop]
          · simp only [held2, cloA, go_sem, Nat.reduceAdd, Nat.reduceSub, Nat.reduceMul, Nat.reduceLT, Nat.reduceLeDiff, Nat.reduceBEq, Nat.reduceEqDiff, Int.reduceLE, Int.reduceLT, Int.reduceNeg, Int.reduceAdd, Int.reduceSub, Int.reduceEq, Int.reduceMul, Int.reduceToNat, reduceIte, hlen]
      · have hm0 : merge (S.take i) = [] := List.length_eq_zero_iff.1 (by omega)
        have hM' : merge (S.take (i + 1)) = merge (S.take i) ++ [S[i]] := by rw [hM, hm0]; rfl
        have hmg2 : (merge (S.take i)).length < g := by omega
        have hmR2 : (merge (S.take i)).length < R.length := by omega
        simp only [go_sem, Nat.reduceAdd, Nat.reduceSub, Nat.reduceMul, Nat.reduceLT, Nat.reduceLeDiff, Nat.reduceBEq, Nat.reduceEqDiff, Int.reduceLE, Int.reduceLT, Int.reduceNeg, Int.reduceAdd, Int.reduceSub, Int.reduceEq, Int.reduceMul, Int.reduceToNat, reduceIte, h2, wrap_succ i (by omega), hmg2, get_data encSpan hmR2, set_data R encSpan, wrap_succ (merge (S.take i)).length (by omega)]
        rw [hRS]
        have hlen : (merge (S.take (i + 1))).length = (merge (S.take i)).length + 1 := by rw [hM']; simp
        refine ⟨⟨(i + 1, R.set (merge (S.take i)).length S[i]), hlt, by simp [hR], ?_, ?_⟩, by simp only; omega, drop_own rfl (keeps_own rfl clo_one) ?_⟩
        · simp only
          rw [hlen, hM', take_set_next hmR2, hT]
        · simp only
          rw [drop_set_low (by omega), ← List.drop_drop, hD, List.drop_drop]
        · simp only [held2, cloA, go_sem, Nat.reduceAdd, Nat.reduceSub, Nat.reduceMul, Nat.reduceLT, Nat.reduceLeDiff, Nat.reduceBEq, Nat.reduceEqDiff, Int.reduceLE, Int.reduceLT, Int.reduceNeg, Int.reduceAdd, Int.reduceSub, Int.reduceEq, Int.reduceMul, Int.reduceToNat, reduceIte, hlen]
    · have hig : i = g := by omega
      subst hig
      have hS : S.take i = S := List.take_of_length_le (by omega)
      have hmg : (merge S).length ≤ i := by have := merge_len S; omega
      rw [hS] at hT
      simp only [go_sem, Nat.reduceAdd, Nat.reduceSub, Nat.reduceMul, Nat.reduceLT, Nat.reduceLeDiff, Nat.reduceBEq, Nat.reduceEqDiff, Int.reduceLE, Int.reduceLT, Int.reduceNeg, Int.reduceAdd, Int.reduceSub, Int.reduceEq, Int.reduceMul, Int.reduceToNat, reduceIte, hS, hmg]
      refine pureK_row0 ?_
      rw [hT]
end Go.Ab

open Go
namespace Go.Ab
attribute [local go_sem] ents held Option.isSome_some Option.isSome_none Option.map_some Option.map_none List.length_map List.map_cons List.map_nil List.length_cons List.length_nil List.cons_append List.nil_append List.append_assoc true_and and_true true_or or_true eq_self decide_true decide_false Bool.not_true Bool.not_false not_true not_false Int.natCast_zero Nat.zero_add Bool.false_eq_true Bool.true_eq_false if_true if_false Bool.or_false Bool.or_true Bool.false_or Bool.true_or Bool.and_false Bool.false_and
set_option maxRecDepth 8000
set_option linter.unusedSimpArgs false
set_option linter.unusedVariables false
variable {GT : Globs}

/-- the least place from i on, below j, at which p no longer holds, by halving -/
def bs (p : Nat → Bool) (i j : Nat) : Nat := if i < j then if p ((i + j) / 2) then bs p ((i + j) / 2 + 1) j else bs p i ((i + j) / 2) else i
termination_by j - i
theorem bs_le (p : Nat → Bool) : ∀ (k i j : Nat), j - i ≤ k → i ≤ j → i ≤ bs p i j ∧ bs p i j ≤ j := by
  intro k
  induction k with
  | zero => intro i j h1 h2; rw [bs, if_neg (by omega)]; omega
  | succ k ih =>
    intro i j h1 h2
    rw [bs]
    by_cases h : i < j
    · rw [if_pos h]
      split
      · have := ih ((i + j) / 2 + 1) j (by omega) (by omega); omega
      · have := ih i ((i + j) / 2) (by omega) (by omega); omega
    · rw [if_neg h]; omega
theorem bs_all (p : Nat → Bool) (hp : ∀ h, p h = true) : ∀ (k i j : Nat), j - i ≤ k → i ≤ j → bs p i j = j := by
  intro k
  induction k with
  | zero => intro i j h1 h2; rw [bs, if_neg (by omega)]; omega
  | succ k ih =>
    intro i j h1 h2
    rw [bs]
    by_cases h : i < j
    · rw [if_pos h, if_pos (hp _)]; exact ih _ _ (by omega) (by omega)
    · rw [if_neg h]; omega
theorem bs_none (p : Nat → Bool) (hp : ∀ h, p h = false) : ∀ (k i j : Nat), j - i ≤ k → i ≤ j → bs p i j = i := by
  intro k
  induction k with
  | zero => intro i j h1 h2; rw [bs, if_neg (by omega)]
  | succ k ih =>
    intro i j h1 h2
    rw [bs]
    by_cases h : i < j
    · rw [if_pos h, hp, if_neg (by simp)]; exact ih _ _ (by omega) (by omega)
    · rw [if_neg h]

def before (l : List GSpan) (d : Int) (h : Nat) : Bool := match l[h]? with | some x => decide (x.from_ < d) | none => false
def place (l : List GSpan) (d : Int) : Nat := bs (before l d) 0 l.length
def isAt (l : List GSpan) (d : Int) : Bool := match l[place l d]? with | some x => decide (x.from_ = d) | none => false
theorem place_le (l : List GSpan) (d : Int) : place l d ≤ l.length := (bs_le (before l d) l.length 0 l.length (by omega) (by omega)).2
theorem cmpI_neg (a b : Int) : decide (cmpI a b < 0) = decide (a < b) := by
  unfold cmpI
  by_cases h : a < b
  · simp [h]
  · by_cases h2 : b < a <;> simp [h, h2]
theorem cmpI_zero (a b : Int) : decide (cmpI a b = 0) = decide (a = b) := by
  unfold cmpI
  apply decide_eq_decide.2
  split
  · constructor <;> intro h <;> omega
  · split
    · constructor <;> intro h <;> omega
    · constructor <;> intro h <;> omega

theorem c_search (l : List GSpan) (d : Int) (H : List AObj) (hl : l.length ≤ 4611686018427387904) :
    ACalls Go.Proofs.Tryz.prog GT 65 [.d (.list (l.map encSpan)), .d (.int .i64 d), .d (.fn 66)] H fun v H' => v = .tup [.d (.int .i64 (place l d)), .d (.bool (isAt l d))] ∧ H' = H := by
  have hl2 : l.length ≤ 9223372036854775807 := by omega
  refine acalls_pure (fn := Go.Proofs.Tryz.f65) (c := _) 49 [.tmp 6, .tmp 7] (by kernel_rfl) rfl (by kernel_rfl) rfl rfl (by simp) ?_
  simp only [go_sem, Nat.reduceAdd, Nat.reduceSub, Nat.reduceMul, Nat.reduceLT, Nat.reduceLeDiff, Nat.reduceBEq, Nat.reduceEqDiff, Int.reduceLE, Int.reduceLT, Int.reduceNeg, Int.reduceAdd, Int.reduceSub, Int.reduceEq, Int.reduceMul, Int.reduceToNat, reduceIte, hl2]
  refine ab_loop (ι := {p : Nat × Nat // p.1 ≤ p.2 ∧ p.2 ≤ l.length ∧ bs (before l d) p.1 p.2 = place l d})
    (fun p => ⟨E 49 [(0, .d (.list (l.map encSpan))), (1, .d (.int .i64 d)), (2, .d (.fn 66)), (8, .d (.int .i64 l.length)), (9, .d (.int .i64 (p.1.1 : Int))), (10, .d (.int .i64 (p.1.2 : Int)))], H⟩) (fun p => p.1.2 - p.1.1) ⟨(0, l.length), Nat.zero_le _, Nat.le_refl _, rfl⟩ (drop_E ?_) ?_
  · simp only [go_sem, Nat.reduceAdd, Nat.reduceSub, Nat.reduceMul, Nat.reduceLT, Nat.reduceLeDiff, Nat.reduceBEq, Nat.reduceEqDiff, Int.reduceLE, Int.reduceLT, Int.reduceNeg, Int.reduceAdd, Int.reduceSub, Int.reduceEq, Int.reduceMul, Int.reduceToNat, reduceIte]
  rintro ⟨⟨i, j⟩, hij, hjl, hbs⟩
  simp only at hij hjl hbs
  simp only [go_sem, Nat.reduceAdd, Nat.reduceSub, Nat.reduceMul, Nat.reduceLT, Nat.reduceLeDiff, Nat.reduceBEq, Nat.reduceEqDiff, Int.reduceLE, Int.reduceLT, Int.reduceNeg, Int.reduceAdd, Int.reduceSub, Int.reduceEq, Int.reduceMul, Int.reduceToNat, reduceIte]
  refine ⟨fun h1 => ?_, fun h1 => ?_⟩
  · have hlt : i < j := by omega
    have hh : (i + j) / 2 < l.length := by omega
    have hw1 : IntKind.i64.wrap ((i : Int) + (j : Int)) = ((i + j : Nat) : Int) := by rw [wrap_i64 _ (by omega) (by omega)]; omega
    have hw2 : IntKind.u64.wrap ((i + j : Nat) : Int) = ((i + j : Nat) : Int) := wrap_u64 _ (by omega) (by omega)
    have hw3 : IntKind.i64.wrap (((i + j : Nat) : Int) / 2) = (((i + j) / 2 : Nat) : Int) := by rw [wrap_i64 _ (by omega) (by omega)]; omega
    have hw4 : IntKind.i64.wrap ((((i + j) / 2 : Nat) : Int) + 1) = (((i + j) / 2 + 1 : Nat) : Int) := wrap_succ _ (by omega)
    have hbf : before l d ((i + j) / 2) = decide (l[(i + j) / 2].from_ < d) := by simp [before, hh]
    rw [bs, if_pos hlt, hbf] at hbs
    simp only [go_sem, Nat.reduceAdd, Nat.reduceSub, Nat.reduceMul, Nat.reduceLT, Nat.reduceLeDiff, Nat.reduceBEq, Nat.reduceEqDiff, Int.reduceLE, Int.reduceLT, Int.reduceNeg, Int.reduceAdd, Int.reduceSub, Int.reduceEq, Int.reduceMul, Int.reduceToNat, reduceIte, hw1, hw2, b_shr1 _ ((i + j : Nat) : Int) (by omega) (by omega), hw3, getEnc encSpan hh]
    refine (c_has1 _ _ _).mono ?_
    rintro _ _ ⟨rfl, rfl⟩
    simp only [go_sem, Nat.reduceAdd, Nat.reduceSub, Nat.reduceMul, Nat.reduceLT, Nat.reduceLeDiff, Nat.reduceBEq, Nat.reduceEqDiff, Int.reduceLE, Int.reduceLT, Int.reduceNeg, Int.reduceAdd, Int.reduceSub, Int.reduceEq, Int.reduceMul, Int.reduceToNat, reduceIte, cmpI_neg]
    refine ⟨fun h2 => ?_, fun h2 => ?_⟩
    · simp only [go_sem, Nat.reduceAdd, Nat.reduceSub, Nat.reduceMul, Nat.reduceLT, Nat.reduceLeDiff, Nat.reduceBEq, Nat.reduceEqDiff, Int.reduceLE, Int.reduceLT, Int.reduceNeg, Int.reduceAdd, Int.reduceSub, Int.reduceEq, Int.reduceMul, Int.reduceToNat, reduceIte, hw4]
      refine ⟨⟨((i + j) / 2 + 1, j), by simp only; omega, hjl, by simpa [h2] using hbs⟩, by simp only; omega, drop_E ?_⟩
      simp only [go_sem, Nat.reduceAdd, Nat.reduceSub, Nat.reduceMul, Nat.reduceLT, Nat.reduceLeDiff, Nat.reduceBEq, Nat.reduceEqDiff, Int.reduceLE, Int.reduceLT, Int.reduceNeg, Int.reduceAdd, Int.reduceSub, Int.reduceEq, Int.reduceMul, Int.reduceToNat, reduceIte]
    · simp only [go_sem, Nat.reduceAdd, Nat.reduceSub, Nat.reduceMul, Nat.reduceLT, Nat.reduceLeDiff, Nat.reduceBEq, Nat.reduceEqDiff, Int.reduceLE, Int.reduceLT, Int.reduceNeg, Int.reduceAdd, Int.reduceSub, Int.reduceEq, Int.reduceMul, Int.reduceToNat, reduceIte]
      refine ⟨⟨(i, (i + j) / 2), by simp only; omega, by simp only; omega, by simpa [h2] using hbs⟩, by simp only; omega, drop_E ?_⟩
      simp only [go_sem, Nat.reduceAdd, Nat.reduceSub, Nat.reduceMul, Nat.reduceLT, Nat.reduceLeDiff, Nat.reduceBEq, Nat.reduceEqDiff, Int.reduceLE, Int.reduceLT, Int.reduceNeg, Int.reduceAdd, Int.reduceSub, Int.reduceEq, Int.reduceMul, Int.reduceToNat, reduceIte]
  · have hji : i = j := by omega
    subst hji
    rw [bs, if_neg (by omega)] at hbs
    subst hbs
    simp only [go_sem, Nat.reduceAdd, Nat.reduceSub, Nat.reduceMul, Nat.reduceLT, Nat.reduceLeDiff, Nat.reduceBEq, Nat.reduceEqDiff, Int.reduceLE, Int.reduceLT, Int.reduceNeg, Int.reduceAdd, Int.reduceSub, Int.reduceEq, Int.reduceMul, Int.reduceToNat, reduceIte]
    refine ⟨fun h2 => ?_, fun h2 => ?_⟩
    · have hp : place l d < l.length := by omega
      have hat : isAt l d = decide (l[place l d].from_ = d) := by simp [isAt, hp]
      simp only [go_sem, Nat.reduceAdd, Nat.reduceSub, Nat.reduceMul, Nat.reduceLT, Nat.reduceLeDiff, Nat.reduceBEq, Nat.reduceEqDiff, Int.reduceLE, Int.reduceLT, Int.reduceNeg, Int.reduceAdd, Int.reduceSub, Int.reduceEq, Int.reduceMul, Int.reduceToNat, reduceIte, h2, getEnc encSpan hp]
      refine (c_has1 _ _ _).mono ?_
      rintro _ _ ⟨rfl, rfl⟩
      simp only [go_sem, Nat.reduceAdd, Nat.reduceSub, Nat.reduceMul, Nat.reduceLT, Nat.reduceLeDiff, Nat.reduceBEq, Nat.reduceEqDiff, Int.reduceLE, Int.reduceLT, Int.reduceNeg, Int.reduceAdd, Int.reduceSub, Int.reduceEq, Int.reduceMul, Int.reduceToNat, reduceIte, h2, cmpI_zero]
      exact pureK_tup20 _ _ _ _ (by rw [hat])
    · have hat : isAt l d = false := by
        have : l[place l d]? = none := List.getElem?_eq_none (by omega)
        simp [isAt, this]
      simp only [go_sem, Nat.reduceAdd, Nat.reduceSub, Nat.reduceMul, Nat.reduceLT, Nat.reduceLeDiff, Nat.reduceBEq, Nat.reduceEqDiff, Int.reduceLE, Int.reduceLT, Int.reduceNeg, Int.reduceAdd, Int.reduceSub, Int.reduceEq, Int.reduceMul, Int.reduceToNat, reduceIte, h2]
      exact pureK_tup20 _ _ _ _ (by rw [hat])
end Go.Ab

open Go
namespace Go.Ab
attribute [local go_sem] ents held Option.isSome_some Option.isSome_none Option.map_some Option.map_none List.length_map List.map_cons List.map_nil List.length_cons List.length_nil List.cons_append List.nil_append List.append_assoc true_and and_true true_or or_true eq_self decide_true decide_false Bool.not_true Bool.not_false not_true not_false Int.natCast_zero Nat.zero_add Bool.false_eq_true Bool.true_eq_false if_true if_false Bool.or_false Bool.or_true Bool.false_or Bool.true_or Bool.and_false Bool.false_and
set_option maxRecDepth 8000
set_option linter.unusedSimpArgs false
set_option linter.unusedVariables false
variable {GT : Globs}

/-- whether a normalized set has a day -/
def hasD (l : List GSpan) (d : Int) : Bool := isAt l d || (decide (0 < place l d) && match l[place l d - 1]? with | some x => decide (d < x.to_) | none => false)
theorem c_has (l : List GSpan) (d : Int) (H : List AObj) (hl : l.length ≤ 4611686018427387904) :
    ACalls Go.Proofs.Tryz.prog GT 46 [.d (.list (l.map encSpan)), .d (.int .i64 d)] H fun v H' => v = .d (.bool (hasD l d)) ∧ H' = H := by
  refine acalls_pure (fn := Go.Proofs.Tryz.f46) (c := _) 28 [.tmp 4] (by kernel_rfl) rfl (by kernel_rfl) rfl rfl (by simp) ?_
  simp only [go_sem, Nat.reduceAdd, Nat.reduceSub, Nat.reduceMul, Nat.reduceLT, Nat.reduceLeDiff, Nat.reduceBEq, Nat.reduceEqDiff, Int.reduceLE, Int.reduceLT, Int.reduceNeg, Int.reduceAdd, Int.reduceSub, Int.reduceEq, Int.reduceMul, Int.reduceToNat, reduceIte]
  refine (c_search l d _ hl).mono ?_
  rintro _ _ ⟨rfl, rfl⟩
  have hpl := place_le l d
  cases ha : isAt l d with
  | true =>
    simp only [go_sem, Nat.reduceAdd, Nat.reduceSub, Nat.reduceMul, Nat.reduceLT, Nat.reduceLeDiff, Nat.reduceBEq, Nat.reduceEqDiff, Int.reduceLE, Int.reduceLT, Int.reduceNeg, Int.reduceAdd, Int.reduceSub, Int.reduceEq, Int.reduceMul, Int.reduceToNat, reduceIte]
    exact pureK_d0 _ _ _ (by simp [hasD, ha])
  | false =>
    simp only [go_sem, Nat.reduceAdd, Nat.reduceSub, Nat.reduceMul, Nat.reduceLT, Nat.reduceLeDiff, Nat.reduceBEq, Nat.reduceEqDiff, Int.reduceLE, Int.reduceLT, Int.reduceNeg, Int.reduceAdd, Int.reduceSub, Int.reduceEq, Int.reduceMul, Int.reduceToNat, reduceIte]
    refine ⟨fun h1 => ?_, fun h1 => ?_⟩
    · have hw : IntKind.i64.wrap ((place l d : Int) - 1) = ((place l d - 1 : Nat) : Int) := by rw [wrap_i64 _ (by omega) (by omega)]; omega
      have hlt : place l d - 1 < l.length := by omega
      simp only [go_sem, Nat.reduceAdd, Nat.reduceSub, Nat.reduceMul, Nat.reduceLT, Nat.reduceLeDiff, Nat.reduceBEq, Nat.reduceEqDiff, Int.reduceLE, Int.reduceLT, Int.reduceNeg, Int.reduceAdd, Int.reduceSub, Int.reduceEq, Int.reduceMul, Int.reduceToNat, reduceIte, h1, hw, getEnc encSpan hlt]
      refine pureK_d0 _ _ _ ?_
      have h0 : 0 < place l d := by omega
      simp [hasD, ha, h0, hlt]
    · simp only [go_sem, Nat.reduceAdd, Nat.reduceSub, Nat.reduceMul, Nat.reduceLT, Nat.reduceLeDiff, Nat.reduceBEq, Nat.reduceEqDiff, Int.reduceLE, Int.reduceLT, Int.reduceNeg, Int.reduceAdd, Int.reduceSub, Int.reduceEq, Int.reduceMul, Int.reduceToNat, reduceIte, h1]
      refine pureK_d0 _ _ _ ?_
      have h0 : place l d = 0 := by omega
      simp [hasD, ha, h0]

theorem c_or2 (a b : Bool) (H : List AObj) : ACalls Go.Proofs.Tryz.prog GT 206 [.d (.bool a), .d (.bool b)] H fun v H' => v = .d (.bool (a || b)) ∧ H' = H := by
  refine acalls_pure (fn := Go.Proofs.Tryz.f206) (c := _) 9 [.tmp 4] (by kernel_rfl) rfl (by kernel_rfl) rfl rfl (by simp) ?_
  cases a <;> (simp only [go_sem, Nat.reduceAdd, Nat.reduceSub, Nat.reduceMul, Nat.reduceLT, Nat.reduceLeDiff, Nat.reduceBEq, Nat.reduceEqDiff, Int.reduceLE, Int.reduceLT, Int.reduceNeg, Int.reduceAdd, Int.reduceSub, Int.reduceEq, Int.reduceMul, Int.reduceToNat, reduceIte]; exact pureK_d0 _ _ _ rfl)
theorem c_and2 (a b : Bool) (H : List AObj) : ACalls Go.Proofs.Tryz.prog GT 207 [.d (.bool a), .d (.bool b)] H fun v H' => v = .d (.bool (a && b)) ∧ H' = H := by
  refine acalls_pure (fn := Go.Proofs.Tryz.f207) (c := _) 9 [.tmp 4] (by kernel_rfl) rfl (by kernel_rfl) rfl rfl (by simp) ?_
  cases a <;> (simp only [go_sem, Nat.reduceAdd, Nat.reduceSub, Nat.reduceMul, Nat.reduceLT, Nat.reduceLeDiff, Nat.reduceBEq, Nat.reduceEqDiff, Int.reduceLE, Int.reduceLT, Int.reduceNeg, Int.reduceAdd, Int.reduceSub, Int.reduceEq, Int.reduceMul, Int.reduceToNat, reduceIte]; exact pureK_d0 _ _ _ rfl)

def contains (l : List GSpan) (d : Int) : Bool := hasD (norm l) d
theorem norm_len (l : List GSpan) : (norm l).length ≤ l.length := by
  have h1 := merge_len (sortS (keep l))
  have h2 := sortS_length (keep l)
  have h3 := keep_len l
  unfold norm; omega
theorem c_contains (l : List GSpan) (d : Int) (H : List AObj) (hcap : l.length * 16 ≤ 140737488355328) :
    ACalls Go.Proofs.Tryz.prog GT 34 [.d (.list (l.map encSpan)), .d (.int .i64 d)] H fun v H' => v = .d (.bool (contains l d)) ∧ H' = H := by
  have hn := norm_len l
  refine acalls_pure (fn := Go.Proofs.Tryz.f34) (c := _) 9 [.tmp 4] (by kernel_rfl) rfl (by kernel_rfl) rfl rfl (by simp) ?_
  simp only [go_sem, Nat.reduceAdd, Nat.reduceSub, Nat.reduceMul, Nat.reduceLT, Nat.reduceLeDiff, Nat.reduceBEq, Nat.reduceEqDiff, Int.reduceLE, Int.reduceLT, Int.reduceNeg, Int.reduceAdd, Int.reduceSub, Int.reduceEq, Int.reduceMul, Int.reduceToNat, reduceIte]
  refine (c_norm l _ hcap).mono ?_
  rintro _ _ ⟨rfl, rfl⟩
  simp only [go_sem, Nat.reduceAdd, Nat.reduceSub, Nat.reduceMul, Nat.reduceLT, Nat.reduceLeDiff, Nat.reduceBEq, Nat.reduceEqDiff, Int.reduceLE, Int.reduceLT, Int.reduceNeg, Int.reduceAdd, Int.reduceSub, Int.reduceEq, Int.reduceMul, Int.reduceToNat, reduceIte]
  refine (c_has _ d _ (by omega)).mono ?_
  rintro _ _ ⟨rfl, rfl⟩
  simp only [go_sem, Nat.reduceAdd, Nat.reduceSub, Nat.reduceMul, Nat.reduceLT, Nat.reduceLeDiff, Nat.reduceBEq, Nat.reduceEqDiff, Int.reduceLE, Int.reduceLT, Int.reduceNeg, Int.reduceAdd, Int.reduceSub, Int.reduceEq, Int.reduceMul, Int.reduceToNat, reduceIte]
  exact pureK_d0 _ _ _ rfl
end Go.Ab
