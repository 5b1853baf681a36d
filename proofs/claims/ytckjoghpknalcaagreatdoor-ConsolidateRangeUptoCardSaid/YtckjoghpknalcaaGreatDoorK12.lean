import Derived.Test.YtckjoghpknalcaaGreatDoorB3
import Derived.Test.YtckjoghpknalcaaGreatDoorA5
set_option linter.unusedVariables false
set_option linter.unusedSimpArgs false
set_option linter.unnecessarySimpa false
open Go
namespace Go.Ab
attribute [local go_sem] ents held Option.isSome_some Option.isSome_none Option.map_some Option.map_none List.length_map List.map_cons List.map_nil List.length_cons List.length_nil List.cons_append List.nil_append List.append_assoc true_and and_true true_or or_true eq_self decide_true decide_false Bool.not_true Bool.not_false not_true not_false Int.natCast_zero Nat.zero_add Bool.false_eq_true Bool.true_eq_false if_true if_false Bool.or_false Bool.or_true Bool.false_or Bool.true_or Bool.and_false Bool.false_and
set_option maxRecDepth 8000
set_option linter.unusedSimpArgs false
set_option linter.unusedVariables false
variable {GT : Globs}

theorem c_cloneSpan (l : List GSpan) (H : List AObj) (hcap : l.length * 16 ≤ 140737488355328) :
    ACalls Go.Proofs.Tryz.prog GT 235 [.d (.list (l.map encSpan))] H fun v H' => ∃ g xs, v = .ref H.length g 0 xs.length none ∧ H' = H ++ [.row 2 g false (xs.map fun x => .d (encSpan x))] ∧ xs = l := by
  have hcap2 : l.length ≤ 140737488355328 := by omega
  refine acalls_fresh (2) (encSpan) (fn := Go.Proofs.Tryz.f235) (c := _) 8 [.tmp 2] (by kernel_rfl) rfl (by kernel_rfl) rfl rfl (by simp) (by omega) ?_
  simp only [go_sem, Nat.reduceAdd, Nat.reduceSub, Nat.reduceMul, Nat.reduceLT, Nat.reduceLeDiff, Nat.reduceBEq, Nat.reduceEqDiff, Int.reduceLE, Int.reduceLT, Int.reduceNeg, Int.reduceAdd, Int.reduceSub, Int.reduceEq, Int.reduceMul, Int.reduceToNat, reduceIte]
  refine nop_eql (l.map encSpan) (by simp only [go_sem, Nat.reduceAdd, Nat.reduceSub, Nat.reduceMul, Nat.reduceLT, Nat.reduceLeDiff, Nat.reduceBEq, Nat.reduceEqDiff, Int.reduceLE, Int.reduceLT, Int.reduceNeg, Int.reduceAdd, Int.reduceSub, Int.reduceEq, Int.reduceMul, Int.reduceToNat, reduceIte]) (by simp only [go_sem, Nat.reduceAdd, Nat.reduceSub, Nat.reduceMul, Nat.reduceLT, Nat.reduceLeDiff, Nat.reduceBEq, Nat.reduceEqDiff, Int.reduceLE, Int.reduceLT, Int.reduceNeg, Int.reduceAdd, Int.reduceSub, Int.reduceEq, Int.reduceMul, Int.reduceToNat, reduceIte]) (by simp only [go_sem, Nat.reduceAdd, Nat.reduceSub, Nat.reduceMul, Nat.reduceLT, Nat.reduceLeDiff, Nat.reduceBEq, Nat.reduceEqDiff, Int.reduceLE, Int.reduceLT, Int.reduceNeg, Int.reduceAdd, Int.reduceSub, Int.reduceEq, Int.reduceMul, Int.reduceToNat, reduceIte]) ?_
  rintro b hb
  cases b with
  | true =>
    have h0 : l = [] := by simpa using hb rfl
    simp only [go_sem, Nat.reduceAdd, Nat.reduceSub, Nat.reduceMul, Nat.reduceLT, Nat.reduceLeDiff, Nat.reduceBEq, Nat.reduceEqDiff, Int.reduceLE, Int.reduceLT, Int.reduceNeg, Int.reduceAdd, Int.reduceSub, Int.reduceEq, Int.reduceMul, Int.reduceToNat, reduceIte]
    exact freshK_nils0 h0.symm
  | false =>
    simp only [go_sem, Nat.reduceAdd, Nat.reduceSub, Nat.reduceMul, Nat.reduceLT, Nat.reduceLeDiff, Nat.reduceBEq, Nat.reduceEqDiff, Int.reduceLE, Int.reduceLT, Int.reduceNeg, Int.reduceAdd, Int.reduceSub, Int.reduceEq, Int.reduceMul, Int.reduceToNat, reduceIte]
    refine bsl_own0 (by simp only [go_sem, Nat.reduceAdd, Nat.reduceSub, Nat.reduceMul, Nat.reduceLT, Nat.reduceLeDiff, Nat.reduceBEq, Nat.reduceEqDiff, Int.reduceLE, Int.reduceLT, Int.reduceNeg, Int.reduceAdd, Int.reduceSub, Int.reduceEq, Int.reduceMul, Int.reduceToNat, reduceIte]) (by simp only [go_sem, Nat.reduceAdd, Nat.reduceSub, Nat.reduceMul, Nat.reduceLT, Nat.reduceLeDiff, Nat.reduceBEq, Nat.reduceEqDiff, Int.reduceLE, Int.reduceLT, Int.reduceNeg, Int.reduceAdd, Int.reduceSub, Int.reduceEq, Int.reduceMul, Int.reduceToNat, reduceIte]) ?_
    have hm : (l.map encSpan).map AV.d = l.map fun x => AV.d (encSpan x) := by rw [List.map_map]; rfl
    by_cases h0 : l = []
    · subst h0
      simp only [List.map_nil]
      simp only [go_sem, Nat.reduceAdd, Nat.reduceSub, Nat.reduceMul, Nat.reduceLT, Nat.reduceLeDiff, Nat.reduceBEq, Nat.reduceEqDiff, Int.reduceLE, Int.reduceLT, Int.reduceNeg, Int.reduceAdd, Int.reduceSub, Int.reduceEq, Int.reduceMul, Int.reduceToNat, reduceIte, ap3_none]
      exact freshK_row (k := 0) (xs := []) rfl rfl (.inr rfl) rfl
    · have h1 : 0 < l.length := List.length_pos_iff.2 h0
      simp only [go_sem, Nat.reduceAdd, Nat.reduceSub, Nat.reduceMul, Nat.reduceLT, Nat.reduceLeDiff, Nat.reduceBEq, Nat.reduceEqDiff, Int.reduceLE, Int.reduceLT, Int.reduceNeg, Int.reduceAdd, Int.reduceSub, Int.reduceEq, Int.reduceMul, Int.reduceToNat, reduceIte, ap3_full, h1, hcap, hcap2, hm]
      exact freshK_row (k := 1) rfl rfl (.inl rfl) rfl

def ends (l : List GSpan) : List Int := l.flatMap fun x => [x.from_, x.to_]
theorem ends_len (l : List GSpan) : (ends l).length = l.length * 2 := by
  unfold ends
  induction l with
  | nil => rfl
  | cons x l ih => simp only [List.flatMap_cons, List.length_append, ih, List.length_cons, List.length_nil]; omega
theorem ends_take {l : List GSpan} {i : Nat} (h : i < l.length) : ends (l.take (i + 1)) = ends (l.take i) ++ [l[i].from_, l[i].to_] := by
  unfold ends
  rw [List.take_succ_eq_append_getElem h, List.flatMap_append]; simp
def cutsOf (a b : List GSpan) : List Int := Lib.compact (sortI (ends (a ++ b)))
def pieces (p : Int → Bool) (c : List Int) (n : Nat) : List GSpan := (List.range n).flatMap fun i => if p (c.getD i 0) then [⟨c.getD i 0, c.getD (i + 1) 0⟩] else []
theorem pieces_succ (p : Int → Bool) (c : List Int) (n : Nat) : pieces p c (n + 1) = pieces p c n ++ if p (c.getD n 0) then [⟨c.getD n 0, c.getD (n + 1) 0⟩] else [] := by
  unfold pieces
  rw [List.range_succ, List.flatMap_append]; simp
theorem pieces_len (p : Int → Bool) (c : List Int) (n : Nat) : (pieces p c n).length ≤ n := by
  induction n with
  | zero => simp [pieces]
  | succ n ih =>
    rw [pieces_succ, List.length_append]
    split
    · simp; omega
    · simp; omega
/-- the days for which f answers yes -/
def bothD (f : Bool → Bool → Bool) (a b : List GSpan) : List GSpan :=
  norm (pieces (fun d => f (hasD (norm a) d) (hasD (norm b) d)) (cutsOf (norm a) (norm b)) ((cutsOf (norm a) (norm b)).length - 1))
theorem compact_len (l : List Int) : (Lib.compact l).length ≤ l.length := by
  unfold Lib.compact Lib.compactUpTo
  rw [List.length_map]
  exact Nat.le_trans (List.length_filter_le _ _) (by simp)
theorem compact_mem (l : List Int) : ∀ x ∈ Lib.compact l, x ∈ l := by
  intro x hx
  unfold Lib.compact Lib.compactUpTo at hx
  simp only [List.mem_map, List.mem_filter, List.mem_range] at hx
  obtain ⟨j, ⟨hj, _⟩, rfl⟩ := hx
  rw [getElem!_pos l.toArray j (by simpa using hj)]
  simp
theorem cutsOf_len (a b : List GSpan) : (cutsOf a b).length ≤ (a.length + b.length) * 2 := by
  have h1 := compact_len (sortI (ends (a ++ b)))
  have h2 := (sortI_perm (ends (a ++ b))).length_eq
  rw [ends_len, List.length_append] at h2
  unfold cutsOf; omega

theorem c_both (fid : FuncId) (f : Bool → Bool → Bool) (hf : ∀ (a b : Bool) (M : List AObj), ACalls Go.Proofs.Tryz.prog GT fid [.d (.bool a), .d (.bool b)] M fun v H' => v = .d (.bool (f a b)) ∧ H' = M) (a b : List GSpan) (H : List AObj) (hcap : (a.length + b.length) * 64 ≤ 140737488355328) :
    ACalls Go.Proofs.Tryz.prog GT 205 [.d (.list (a.map encSpan)), .d (.list (b.map encSpan)), .d (.fn fid)] H fun v H' => v = .d (.list ((bothD f a b).map encSpan)) ∧ H' = H := by
  have hna := norm_len a
  have hnb := norm_len b
  refine acalls_pure (fn := Go.Proofs.Tryz.f205) (c := _) 68 [.tmp 6] (by kernel_rfl) rfl (by kernel_rfl) rfl rfl (by simp) ?_
  simp only [go_sem, Nat.reduceAdd, Nat.reduceSub, Nat.reduceMul, Nat.reduceLT, Nat.reduceLeDiff, Nat.reduceBEq, Nat.reduceEqDiff, Int.reduceLE, Int.reduceLT, Int.reduceNeg, Int.reduceAdd, Int.reduceSub, Int.reduceEq, Int.reduceMul, Int.reduceToNat, reduceIte]
  refine (c_norm a _ (by omega)).mono ?_
  rintro _ H2 ⟨rfl, hH⟩
  rw [hH]
  simp only [go_sem, Nat.reduceAdd, Nat.reduceSub, Nat.reduceMul, Nat.reduceLT, Nat.reduceLeDiff, Nat.reduceBEq, Nat.reduceEqDiff, Int.reduceLE, Int.reduceLT, Int.reduceNeg, Int.reduceAdd, Int.reduceSub, Int.reduceEq, Int.reduceMul, Int.reduceToNat, reduceIte]
  refine (c_norm b _ (by omega)).mono ?_
  rintro _ H3 ⟨rfl, hH3⟩
  rw [hH3]
  simp only [go_sem, Nat.reduceAdd, Nat.reduceSub, Nat.reduceMul, Nat.reduceLT, Nat.reduceLeDiff, Nat.reduceBEq, Nat.reduceEqDiff, Int.reduceLE, Int.reduceLT, Int.reduceNeg, Int.reduceAdd, Int.reduceSub, Int.reduceEq, Int.reduceMul, Int.reduceToNat, reduceIte]
  generalize hA : norm a = A at hna
  generalize hB : norm b = B at hnb
  have hAB : bothD f a b = norm (pieces (fun d => f (hasD A d) (hasD B d)) (cutsOf A B) ((cutsOf A B).length - 1)) := by rw [← hA, ← hB]; rfl
  rw [hAB]
  clear hAB hA hB
  refine (c_cloneSpan A _ (by omega)).mono ?_
  rintro _ _ ⟨g0, xs, rfl, rfl, hxs⟩
  rw [hxs]
  have hap : ((A.map fun x => AV.d (encSpan x)) ++ (B.map encSpan).map AV.d) = (A ++ B).map fun x => AV.d (encSpan x) := app_data A B encSpan
  have hc1 : (A.length + B.length) * 16 ≤ 140737488355328 := by omega
  have hc2 : A.length + B.length ≤ 140737488355328 := by omega
  simp only [go_sem, Nat.reduceAdd, Nat.reduceSub, Nat.reduceMul, Nat.reduceLT, Nat.reduceLeDiff, Nat.reduceBEq, Nat.reduceEqDiff, Int.reduceLE, Int.reduceLT, Int.reduceNeg, Int.reduceAdd, Int.reduceSub, Int.reduceEq, Int.reduceMul, Int.reduceToNat, reduceIte, hc1, hc2, hap]
  have hC : (A ++ B).length = A.length + B.length := List.length_append
  have hcuts : cutsOf A B = Lib.compact (sortI (ends (A ++ B))) := rfl
  generalize hCC : A ++ B = C at hC hcuts ⊢
  rw [← hC]
  refine ab_loopV (ι := {i : Nat // i ≤ C.length}) ⟨E 68 [(0, .d (.list (A.map encSpan))), (1, .d (.list (B.map encSpan))), (2, .d (.fn fid)), (7, .ref (H.length + 1) 0 0 0 none), (20, .ref H.length (g0 + 1) 0 C.length none), (21, .d (.int .i64 C.length)), (22, .d (.int .i64 0))], H ++ [AObj.row 2 (g0 + 1) false (C.map fun x => AV.d (encSpan x)), AObj.row 1 0 false []]⟩
    (fun i => ⟨E 68 [(0, .d (.list (A.map encSpan))), (1, .d (.list (B.map encSpan))), (2, .d (.fn fid)), (7, .ref (H.length + 1) i.1 0 (ends (C.take i.1)).length none), (20, .ref H.length (g0 + 1) 0 C.length none), (21, .d (.int .i64 C.length)), (22, .d (.int .i64 (i.1 : Int)))], H ++ [AObj.row 2 (g0 + 1) false (C.map fun x => AV.d (encSpan x)), AObj.row 1 i.1 false ((ends (C.take i.1)).map fun x => AV.d (D.int .i64 x))]⟩) (fun i => C.length - i.1) ⟨0, Nat.zero_le _⟩ ?_ ?_ ?_
  · refine drop_V1 1 (by omega) (by simp) ?_
    simp only [heldV, go_sem, Nat.reduceAdd, Nat.reduceSub, Nat.reduceMul, Nat.reduceLT, Nat.reduceLeDiff, Nat.reduceBEq, Nat.reduceEqDiff, Int.reduceLE, Int.reduceLT, Int.reduceNeg, Int.reduceAdd, Int.reduceSub, Int.reduceEq, Int.reduceMul, Int.reduceToNat, reduceIte]
    exact .inr ⟨0, by omega, rfl⟩
  · refine drop_E ?_
    simp only [go_sem, Nat.reduceAdd, Nat.reduceSub, Nat.reduceMul, Nat.reduceLT, Nat.reduceLeDiff, Nat.reduceBEq, Nat.reduceEqDiff, Int.reduceLE, Int.reduceLT, Int.reduceNeg, Int.reduceAdd, Int.reduceSub, Int.reduceEq, Int.reduceMul, Int.reduceToNat, reduceIte]
    rfl
  rintro ⟨i, hi⟩
  simp only [go_sem, Nat.reduceAdd, Nat.reduceSub, Nat.reduceMul, Nat.reduceLT, Nat.reduceLeDiff, Nat.reduceBEq, Nat.reduceEqDiff, Int.reduceLE, Int.reduceLT, Int.reduceNeg, Int.reduceAdd, Int.reduceSub, Int.reduceEq, Int.reduceMul, Int.reduceToNat, reduceIte]
  refine ⟨fun h1 => ?_, fun h1 => ?_⟩
  · have hlt : i < C.length := by omega
    have hel := ends_len (C.take i)
    have hel2 : (ends (C.take i)).length ≤ i * 2 := by rw [hel, List.length_take]; omega
    have hA1 : ((ends (C.take i)).length + 2) * 8 ≤ 140737488355328 := by omega
    have hA2 : (ends (C.take i)).length + 2 ≤ 140737488355328 := by omega
    simp only [go_sem, Nat.reduceAdd, Nat.reduceSub, Nat.reduceMul, Nat.reduceLT, Nat.reduceLeDiff, Nat.reduceBEq, Nat.reduceEqDiff, Int.reduceLE, Int.reduceLT, Int.reduceNeg, Int.reduceAdd, Int.reduceSub, Int.reduceEq, Int.reduceMul, Int.reduceToNat, reduceIte, get_data encSpan hlt, hlt]
    refine bsl_two (by simp only [go_sem, Nat.reduceAdd, Nat.reduceSub, Nat.reduceMul, Nat.reduceLT, Nat.reduceLeDiff, Nat.reduceBEq, Nat.reduceEqDiff, Int.reduceLE, Int.reduceLT, Int.reduceNeg, Int.reduceAdd, Int.reduceSub, Int.reduceEq, Int.reduceMul, Int.reduceToNat, reduceIte]) (by simp only [go_sem, Nat.reduceAdd, Nat.reduceSub, Nat.reduceMul, Nat.reduceLT, Nat.reduceLeDiff, Nat.reduceBEq, Nat.reduceEqDiff, Int.reduceLE, Int.reduceLT, Int.reduceNeg, Int.reduceAdd, Int.reduceSub, Int.reduceEq, Int.reduceMul, Int.reduceToNat, reduceIte]) (by simp only [go_sem, Nat.reduceAdd, Nat.reduceSub, Nat.reduceMul, Nat.reduceLT, Nat.reduceLeDiff, Nat.reduceBEq, Nat.reduceEqDiff, Int.reduceLE, Int.reduceLT, Int.reduceNeg, Int.reduceAdd, Int.reduceSub, Int.reduceEq, Int.reduceMul, Int.reduceToNat, reduceIte]) (by simp only [go_sem, Nat.reduceAdd, Nat.reduceSub, Nat.reduceMul, Nat.reduceLT, Nat.reduceLeDiff, Nat.reduceBEq, Nat.reduceEqDiff, Int.reduceLE, Int.reduceLT, Int.reduceNeg, Int.reduceAdd, Int.reduceSub, Int.reduceEq, Int.reduceMul, Int.reduceToNat, reduceIte]) ?_
    simp only [go_sem, Nat.reduceAdd, Nat.reduceSub, Nat.reduceMul, Nat.reduceLT, Nat.reduceLeDiff, Nat.reduceBEq, Nat.reduceEqDiff, Int.reduceLE, Int.reduceLT, Int.reduceNeg, Int.reduceAdd, Int.reduceSub, Int.reduceEq, Int.reduceMul, Int.reduceToNat, reduceIte, hA1, hA2, wrap_succ i (by omega)]
    have hk := ends_take hlt
    have e1 : ((ends (C.take i)).map (fun x => AV.d (D.int .i64 x)) ++ [AV.d (D.int .i64 C[i].from_), AV.d (D.int .i64 C[i].to_)]) = (ends (C.take (i + 1))).map fun x => AV.d (D.int .i64 x) := by rw [hk]; simp
    have e2 : (ends (C.take i)).length + 2 = (ends (C.take (i + 1))).length := by rw [hk]; simp
    rw [e1, e2]
    refine ⟨⟨i + 1, hlt⟩, by simp only; omega, drop_own rfl (keeps_own rfl clo_two) ?_⟩
    simp only [held2, cloA, go_sem, Nat.reduceAdd, Nat.reduceSub, Nat.reduceMul, Nat.reduceLT, Nat.reduceLeDiff, Nat.reduceBEq, Nat.reduceEqDiff, Int.reduceLE, Int.reduceLT, Int.reduceNeg, Int.reduceAdd, Int.reduceSub, Int.reduceEq, Int.reduceMul, Int.reduceToNat, reduceIte]
  · have hik : i = C.length := by omega
    subst hik
    have hel := ends_len C
    simp only [go_sem, Nat.reduceAdd, Nat.reduceSub, Nat.reduceMul, Nat.reduceLT, Nat.reduceLeDiff, Nat.reduceBEq, Nat.reduceEqDiff, Int.reduceLE, Int.reduceLT, Int.reduceNeg, Int.reduceAdd, Int.reduceSub, Int.reduceEq, Int.reduceMul, Int.reduceToNat, reduceIte, List.take_length]
    refine (c_sortInt (ends C) (H.length + 1) C.length (ends C).length _ (by simp only [go_sem, Nat.reduceAdd, Nat.reduceSub, Nat.reduceMul, Nat.reduceLT, Nat.reduceLeDiff, Nat.reduceBEq, Nat.reduceEqDiff, Int.reduceLE, Int.reduceLT, Int.reduceNeg, Int.reduceAdd, Int.reduceSub, Int.reduceEq, Int.reduceMul, Int.reduceToNat, reduceIte]) rfl (by omega)).mono ?_
    rintro _ _ ⟨rfl, rfl⟩
    have hsl := (sortI_perm (ends C)).length_eq
    simp only [go_sem, Nat.reduceAdd, Nat.reduceSub, Nat.reduceMul, Nat.reduceLT, Nat.reduceLeDiff, Nat.reduceBEq, Nat.reduceEqDiff, Int.reduceLE, Int.reduceLT, Int.reduceNeg, Int.reduceAdd, Int.reduceSub, Int.reduceEq, Int.reduceMul, Int.reduceToNat, reduceIte]
    rw [← hsl]
    refine (c_compact (sortI (ends C)) (H.length + 1) C.length (sortI (ends C)).length _ (by simp only [go_sem, Nat.reduceAdd, Nat.reduceSub, Nat.reduceMul, Nat.reduceLT, Nat.reduceLeDiff, Nat.reduceBEq, Nat.reduceEqDiff, Int.reduceLE, Int.reduceLT, Int.reduceNeg, Int.reduceAdd, Int.reduceSub, Int.reduceEq, Int.reduceMul, Int.reduceToNat, reduceIte]) rfl (by omega) (compact_len _) (compact_mem _)).mono ?_
    rintro _ _ ⟨rfl, rfl⟩
    have hrow : compRow (sortI (ends C)) = cutsOf A B ++ List.replicate ((sortI (ends C)).length - (cutsOf A B).length) 0 := by rw [hcuts]; rfl
    rw [← hcuts]
    have hcl := cutsOf_len A B
    generalize hc : cutsOf A B = c at hrow hcl ⊢
    generalize hr : compRow (sortI (ends C)) = row at hrow ⊢
    clear hc hcuts hr hsl hap
    simp only [go_sem, Nat.reduceAdd, Nat.reduceSub, Nat.reduceMul, Nat.reduceLT, Nat.reduceLeDiff, Nat.reduceBEq, Nat.reduceEqDiff, Int.reduceLE, Int.reduceLT, Int.reduceNeg, Int.reduceAdd, Int.reduceSub, Int.reduceEq, Int.reduceMul, Int.reduceToNat, reduceIte]
    have hget : ∀ k, k < c.length → (row.map fun x => AV.d (D.int .i64 x))[k]? = some (.d (.int .i64 (c.getD k 0))) := by
      intro k hk
      rw [hrow, List.map_append, List.getElem?_append_left (by simpa using hk)]
      simp [hk]
    have hcw : c.length ≤ 140737488355328 / 16 := by omega
    refine ab_loopV (ι := {i : Nat // i ≤ c.length - 1})
      ⟨E 68 [(0, .d (.list (A.map encSpan))), (1, .d (.list (B.map encSpan))), (2, .d (.fn fid)), (7, .ref (H.length + 1) C.length 0 c.length none), (10, .ref (H.length + 2) 0 0 0 none), (11, .d (.int .i64 1))],
        H ++ [AObj.row 2 (g0 + 1) false (C.map fun x => AV.d (encSpan x)), AObj.row 1 C.length false (row.map fun x => AV.d (D.int .i64 x)), AObj.row 2 0 false []]⟩
      (fun i => ⟨E 68 [(0, .d (.list (A.map encSpan))), (1, .d (.list (B.map encSpan))), (2, .d (.fn fid)), (7, .ref (H.length + 1) C.length 0 c.length none), (10, .ref (H.length + 2) (pieces (fun d => f (hasD A d) (hasD B d)) c i.1).length 0 (pieces (fun d => f (hasD A d) (hasD B d)) c i.1).length none), (11, .d (.int .i64 ((i.1 + 1 : Nat) : Int)))],
        H ++ [AObj.row 2 (g0 + 1) false (C.map fun x => AV.d (encSpan x)), AObj.row 1 C.length false (row.map fun x => AV.d (D.int .i64 x)), AObj.row 2 (pieces (fun d => f (hasD A d) (hasD B d)) c i.1).length false ((pieces (fun d => f (hasD A d) (hasD B d)) c i.1).map fun x => AV.d (encSpan x))]⟩)
      (fun i => c.length - 1 - i.1) ⟨0, Nat.zero_le _⟩ ?_ ?_ ?_
    · refine drop_V1 2 (by omega) (by simp) ?_
      simp only [heldV, go_sem, Nat.reduceAdd, Nat.reduceSub, Nat.reduceMul, Nat.reduceLT, Nat.reduceLeDiff, Nat.reduceBEq, Nat.reduceEqDiff, Int.reduceLE, Int.reduceLT, Int.reduceNeg, Int.reduceAdd, Int.reduceSub, Int.reduceEq, Int.reduceMul, Int.reduceToNat, reduceIte]
      exact .inr ⟨0, by omega, rfl⟩
    · refine drop_E ?_
      simp only [go_sem, Nat.reduceAdd, Nat.reduceSub, Nat.reduceMul, Nat.reduceLT, Nat.reduceLeDiff, Nat.reduceBEq, Nat.reduceEqDiff, Int.reduceLE, Int.reduceLT, Int.reduceNeg, Int.reduceAdd, Int.reduceSub, Int.reduceEq, Int.reduceMul, Int.reduceToNat, reduceIte]
      exact ⟨rfl, rfl⟩
    rintro ⟨i, hi⟩
    have hpl := pieces_len (fun d => f (hasD A d) (hasD B d)) c i
    have hps := pieces_succ (fun d => f (hasD A d) (hasD B d)) c i
    simp only [go_sem, Nat.reduceAdd, Nat.reduceSub, Nat.reduceMul, Nat.reduceLT, Nat.reduceLeDiff, Nat.reduceBEq, Nat.reduceEqDiff, Int.reduceLE, Int.reduceLT, Int.reduceNeg, Int.reduceAdd, Int.reduceSub, Int.reduceEq, Int.reduceMul, Int.reduceToNat, reduceIte]
    refine ⟨fun h1 => ?_, fun h1 => ?_⟩
    · have hlt : i < c.length - 1 := by omega
      have hic : i < c.length := by omega
      have hic1 : i + 1 < c.length := by omega
      have hw : IntKind.i64.wrap (((i + 1 : Nat) : Int) - 1) = ((i : Nat) : Int) := by rw [wrap_i64 _ (by omega) (by omega)]; omega
      have hw2 := wrap_succ (i + 1) (by omega)
      simp only [go_sem, Nat.reduceAdd, Nat.reduceSub, Nat.reduceMul, Nat.reduceLT, Nat.reduceLeDiff, Nat.reduceBEq, Nat.reduceEqDiff, Int.reduceLE, Int.reduceLT, Int.reduceNeg, Int.reduceAdd, Int.reduceSub, Int.reduceEq, Int.reduceMul, Int.reduceToNat, reduceIte, hw, hic, hget i hic]
      refine (c_has A _ _ (by omega)).mono ?_
      rintro _ H5 ⟨rfl, hH5⟩
      rw [hH5]
      simp only [go_sem, Nat.reduceAdd, Nat.reduceSub, Nat.reduceMul, Nat.reduceLT, Nat.reduceLeDiff, Nat.reduceBEq, Nat.reduceEqDiff, Int.reduceLE, Int.reduceLT, Int.reduceNeg, Int.reduceAdd, Int.reduceSub, Int.reduceEq, Int.reduceMul, Int.reduceToNat, reduceIte]
      refine (c_has B _ _ (by omega)).mono ?_
      rintro _ H6 ⟨rfl, hH6⟩
      rw [hH6]
      simp only [go_sem, Nat.reduceAdd, Nat.reduceSub, Nat.reduceMul, Nat.reduceLT, Nat.reduceLeDiff, Nat.reduceBEq, Nat.reduceEqDiff, Int.reduceLE, Int.reduceLT, Int.reduceNeg, Int.reduceAdd, Int.reduceSub, Int.reduceEq, Int.reduceMul, Int.reduceToNat, reduceIte]
      refine (hf _ _ _).mono ?_
      rintro _ H7 ⟨rfl, hH7⟩
      rw [hH7]
      cases hb : f (hasD A (c.getD i 0)) (hasD B (c.getD i 0)) with
      | true =>
        rw [if_pos hb] at hps
        have hA1 : ((pieces (fun d => f (hasD A d) (hasD B d)) c i).length + 1) * 16 ≤ 140737488355328 := by omega
        have hA2 : (pieces (fun d => f (hasD A d) (hasD B d)) c i).length + 1 ≤ 140737488355328 := by omega
        simp only [go_sem, Nat.reduceAdd, Nat.reduceSub, Nat.reduceMul, Nat.reduceLT, Nat.reduceLeDiff, Nat.reduceBEq, Nat.reduceEqDiff, Int.reduceLE, Int.reduceLT, Int.reduceNeg, Int.reduceAdd, Int.reduceSub, Int.reduceEq, Int.reduceMul, Int.reduceToNat, reduceIte, hb, hic1, hget (i + 1) hic1]
        refine bsl_one (by simp only [go_sem, Nat.reduceAdd, Nat.reduceSub, Nat.reduceMul, Nat.reduceLT, Nat.reduceLeDiff, Nat.reduceBEq, Nat.reduceEqDiff, Int.reduceLE, Int.reduceLT, Int.reduceNeg, Int.reduceAdd, Int.reduceSub, Int.reduceEq, Int.reduceMul, Int.reduceToNat, reduceIte]) (by simp only [go_sem, Nat.reduceAdd, Nat.reduceSub, Nat.reduceMul, Nat.reduceLT, Nat.reduceLeDiff, Nat.reduceBEq, Nat.reduceEqDiff, Int.reduceLE, Int.reduceLT, Int.reduceNeg, Int.reduceAdd, Int.reduceSub, Int.reduceEq, Int.reduceMul, Int.reduceToNat, reduceIte]) (by simp only [go_sem, Nat.reduceAdd, Nat.reduceSub, Nat.reduceMul, Nat.reduceLT, Nat.reduceLeDiff, Nat.reduceBEq, Nat.reduceEqDiff, Int.reduceLE, Int.reduceLT, Int.reduceNeg, Int.reduceAdd, Int.reduceSub, Int.reduceEq, Int.reduceMul, Int.reduceToNat, reduceIte]) ?_
        simp only [go_sem, Nat.reduceAdd, Nat.reduceSub, Nat.reduceMul, Nat.reduceLT, Nat.reduceLeDiff, Nat.reduceBEq, Nat.reduceEqDiff, Int.reduceLE, Int.reduceLT, Int.reduceNeg, Int.reduceAdd, Int.reduceSub, Int.reduceEq, Int.reduceMul, Int.reduceToNat, reduceIte, hA1, hA2, hw2]
        have e1 : ((pieces (fun d => f (hasD A d) (hasD B d)) c i).map (fun x => AV.d (encSpan x)) ++ [AV.d (D.agg [D.int .i64 (c.getD i 0), D.int .i64 (c.getD (i + 1) 0)])]) = (pieces (fun d => f (hasD A d) (hasD B d)) c (i + 1)).map fun x => AV.d (encSpan x) := by rw [hps]; simp [encSpan]
        have e2 : (pieces (fun d => f (hasD A d) (hasD B d)) c i).length + 1 = (pieces (fun d => f (hasD A d) (hasD B d)) c (i + 1)).length := by rw [hps]; simp
        rw [e1, e2]
        refine ⟨⟨i + 1, by omega⟩, by simp only; omega, drop_E ?_⟩
        simp only [go_sem, Nat.reduceAdd, Nat.reduceSub, Nat.reduceMul, Nat.reduceLT, Nat.reduceLeDiff, Nat.reduceBEq, Nat.reduceEqDiff, Int.reduceLE, Int.reduceLT, Int.reduceNeg, Int.reduceAdd, Int.reduceSub, Int.reduceEq, Int.reduceMul, Int.reduceToNat, reduceIte]
      | false =>
        rw [if_neg (by rw [hb]; simp), List.append_nil] at hps
        simp only [go_sem, Nat.reduceAdd, Nat.reduceSub, Nat.reduceMul, Nat.reduceLT, Nat.reduceLeDiff, Nat.reduceBEq, Nat.reduceEqDiff, Int.reduceLE, Int.reduceLT, Int.reduceNeg, Int.reduceAdd, Int.reduceSub, Int.reduceEq, Int.reduceMul, Int.reduceToNat, reduceIte, hb, hw2]
        refine ⟨⟨i + 1, by omega⟩, by simp only; omega, ?_⟩
        rw [hps]
        refine drop_E ?_
        simp only [go_sem, Nat.reduceAdd, Nat.reduceSub, Nat.reduceMul, Nat.reduceLT, Nat.reduceLeDiff, Nat.reduceBEq, Nat.reduceEqDiff, Int.reduceLE, Int.reduceLT, Int.reduceNeg, Int.reduceAdd, Int.reduceSub, Int.reduceEq, Int.reduceMul, Int.reduceToNat, reduceIte]
    · have hik : i = c.length - 1 := by omega
      subst hik
      simp only [go_sem, Nat.reduceAdd, Nat.reduceSub, Nat.reduceMul, Nat.reduceLT, Nat.reduceLeDiff, Nat.reduceBEq, Nat.reduceEqDiff, Int.reduceLE, Int.reduceLT, Int.reduceNeg, Int.reduceAdd, Int.reduceSub, Int.reduceEq, Int.reduceMul, Int.reduceToNat, reduceIte]
      refine acalls_frz1 (k := 2) (f := encSpan) (xs := pieces (fun d => f (hasD A d) (hasD B d)) c (c.length - 1)) rfl ?_
      rw [List.take_length]
      refine (c_norm _ _ (by omega)).mono ?_
      rintro _ _ ⟨rfl, rfl⟩
      simp only [go_sem, Nat.reduceAdd, Nat.reduceSub, Nat.reduceMul, Nat.reduceLT, Nat.reduceLeDiff, Nat.reduceBEq, Nat.reduceEqDiff, Int.reduceLE, Int.reduceLT, Int.reduceNeg, Int.reduceAdd, Int.reduceSub, Int.reduceEq, Int.reduceMul, Int.reduceToNat, reduceIte]
      exact pureK_d _ _ _ _ rfl
end Go.Ab
