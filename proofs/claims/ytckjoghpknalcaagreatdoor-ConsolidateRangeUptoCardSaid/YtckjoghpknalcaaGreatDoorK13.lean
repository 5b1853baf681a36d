import Derived.Test.YtckjoghpknalcaaGreatDoorK12
set_option linter.unusedVariables false
set_option linter.unusedSimpArgs false
set_option linter.unnecessarySimpa false
open Go
namespace Go.Ab
attribute [local go_sem] ents held Option.isSome_some Option.isSome_none Option.map_some Option.map_none List.length_map List.map_cons List.map_nil List.length_cons List.length_nil List.cons_append List.nil_append List.append_assoc true_and and_true true_or or_true eq_self decide_true decide_false Bool.not_true Bool.not_false not_true not_false Int.natCast_zero Nat.zero_add Bool.false_eq_true Bool.true_eq_false if_true if_false Bool.or_false Bool.or_true Bool.false_or Bool.true_or Bool.and_false Bool.false_and
open Go.Sort Go.Proofs
set_option maxRecDepth 8000
set_option linter.unusedSimpArgs false
set_option linter.unusedVariables false
variable {GT : Globs}

/-! normalized sets -/
def okSpan (x : GSpan) : Prop := 0 ≤ x.from_ ∧ x.from_ < x.to_ ∧ x.to_ ≤ 1048577
def Norm (l : List GSpan) : Prop := (∀ x ∈ l, okSpan x) ∧ l.Pairwise fun x y => x.to_ < y.from_
theorem Norm.len : ∀ {l : List GSpan}, Norm l → ∀ b : Int, b ≤ 1048577 → (∀ x ∈ l, b ≤ x.from_) → (l.length : Int) ≤ 1048577 - b
  | [], _, b, hb, _ => by simp; omega
  | x :: r, h, b, hb, hx => by
    obtain ⟨h1, h2⟩ := h
    rw [List.pairwise_cons] at h2
    obtain ⟨q1, q2, q3⟩ := h1 x (List.mem_cons_self ..)
    have hbx := hx x (List.mem_cons_self ..)
    have := Norm.len (l := r) ⟨fun y hy => h1 y (List.mem_cons_of_mem _ hy), h2.2⟩ x.to_ q3 fun y hy => by have := h2.1 y hy; omega
    simp only [List.length_cons]
    omega
theorem Norm.bound {l : List GSpan} (h : Norm l) : l.length ≤ 1048577 := by
  have := h.len 0 (by omega) fun x hx => (h.1 x hx).1
  omega
theorem mergeStep_norm {acc : List GSpan} {x : GSpan} (h : Norm acc) (hx : okSpan x) : Norm (mergeStep acc x) := by
  obtain ⟨h1, h2⟩ := h
  unfold mergeStep
  cases hl : acc.getLast? with
  | none =>
    have : acc = [] := List.getLast?_eq_none_iff.1 hl
    subst this
    exact ⟨by simpa using hx, by simp⟩
  | some y =>
    obtain ⟨ys, rfl⟩ := List.getLast?_eq_some_iff.1 hl
    have hy := h1 y (by simp)
    rw [List.pairwise_append] at h2
    obtain ⟨p1, _, p3⟩ := h2
    simp only
    split
    · rw [List.dropLast_concat]
      refine ⟨fun z hz => ?_, ?_⟩
      · rcases List.mem_append.1 hz with h | h
        · exact h1 z (List.mem_append_left _ h)
        · simp at h; subst h
          unfold okSpan at *
          simp only
          omega
      · rw [List.pairwise_append]
        refine ⟨p1, by simp, fun a ha b hb => ?_⟩
        simp at hb; subst hb
        exact p3 a ha y (by simp)
    · rename_i hc
      refine ⟨fun z hz => ?_, ?_⟩
      · rcases List.mem_append.1 hz with h | h
        · exact h1 z h
        · simp at h; subst h; exact hx
      · rw [List.pairwise_append]
        refine ⟨List.pairwise_append.2 ⟨p1, by simp, p3⟩, by simp, fun a ha b hb => ?_⟩
        simp at hb; subst hb
        rcases List.mem_append.1 ha with h | h
        · have := p3 a h y (by simp)
          unfold okSpan at *
          omega
        · simp at h; subst h; omega
theorem merge_norm : ∀ (rest acc : List GSpan), Norm acc → (∀ y ∈ rest, okSpan y) → Norm (rest.foldl mergeStep acc)
  | [], acc, h, _ => h
  | x :: r, acc, h, hr => by
    rw [List.foldl_cons]
    exact merge_norm r _ (mergeStep_norm h (hr x (List.mem_cons_self ..))) fun y hy => hr y (List.mem_cons_of_mem _ hy)
theorem keep_ok (l : List GSpan) : ∀ x ∈ keep l, okSpan x := by
  intro x hx
  unfold keep at hx
  simp only [List.mem_filter, List.mem_map, decide_eq_true_eq] at hx
  obtain ⟨⟨y, _, rfl⟩, h⟩ := hx
  unfold okSpan
  unfold clip at *
  simp only at *
  omega
theorem norm_norm (l : List GSpan) : Norm (norm l) := by
  unfold norm merge
  exact merge_norm _ _ ⟨by simp, by simp⟩ fun y hy => keep_ok l y ((sortS_sorts (keep l)).1.mem_iff.1 hy)
theorem norm_bound (l : List GSpan) : (norm l).length ≤ 1048577 := (norm_norm l).bound

/-! unions, intersections -/
def orB (a b : Bool) : Bool := a || b
def andB (a b : Bool) : Bool := a && b
theorem bothD_bound (f : Bool → Bool → Bool) (a b : List GSpan) : (bothD f a b).length ≤ 1048577 := norm_bound _
theorem c_union (a b : List GSpan) (H : List AObj) (hcap : (a.length + b.length) * 64 ≤ 140737488355328) :
    ACalls Go.Proofs.Tryz.prog GT 148 [.d (.list (a.map encSpan)), .d (.list (b.map encSpan))] H fun v H' => v = .d (.list ((bothD orB a b).map encSpan)) ∧ H' = H := by
  refine acalls_pure (fn := Go.Proofs.Tryz.f148) (c := _) 8 [.tmp 4] (by kernel_rfl) rfl (by kernel_rfl) rfl rfl (by simp) ?_
  simp only [go_sem, Nat.reduceAdd, Nat.reduceSub, Nat.reduceMul, Nat.reduceLT, Nat.reduceLeDiff, Nat.reduceBEq, Nat.reduceEqDiff, Int.reduceLE, Int.reduceLT, Int.reduceNeg, Int.reduceAdd, Int.reduceSub, Int.reduceEq, Int.reduceMul, Int.reduceToNat, reduceIte]
  refine (c_both _ orB (fun x y M => c_or2 x y M) a b _ hcap).mono ?_
  rintro _ _ ⟨rfl, rfl⟩
  simp only [go_sem, Nat.reduceAdd, Nat.reduceSub, Nat.reduceMul, Nat.reduceLT, Nat.reduceLeDiff, Nat.reduceBEq, Nat.reduceEqDiff, Int.reduceLE, Int.reduceLT, Int.reduceNeg, Int.reduceAdd, Int.reduceSub, Int.reduceEq, Int.reduceMul, Int.reduceToNat, reduceIte]
  exact pureK_d0 _ _ _ rfl
theorem c_inter (a b : List GSpan) (H : List AObj) (hcap : (a.length + b.length) * 64 ≤ 140737488355328) :
    ACalls Go.Proofs.Tryz.prog GT 151 [.d (.list (a.map encSpan)), .d (.list (b.map encSpan))] H fun v H' => v = .d (.list ((bothD andB a b).map encSpan)) ∧ H' = H := by
  refine acalls_pure (fn := Go.Proofs.Tryz.f151) (c := _) 8 [.tmp 4] (by kernel_rfl) rfl (by kernel_rfl) rfl rfl (by simp) ?_
  simp only [go_sem, Nat.reduceAdd, Nat.reduceSub, Nat.reduceMul, Nat.reduceLT, Nat.reduceLeDiff, Nat.reduceBEq, Nat.reduceEqDiff, Int.reduceLE, Int.reduceLT, Int.reduceNeg, Int.reduceAdd, Int.reduceSub, Int.reduceEq, Int.reduceMul, Int.reduceToNat, reduceIte]
  refine (c_both _ andB (fun x y M => c_and2 x y M) a b _ hcap).mono ?_
  rintro _ _ ⟨rfl, rfl⟩
  simp only [go_sem, Nat.reduceAdd, Nat.reduceSub, Nat.reduceMul, Nat.reduceLT, Nat.reduceLeDiff, Nat.reduceBEq, Nat.reduceEqDiff, Int.reduceLE, Int.reduceLT, Int.reduceNeg, Int.reduceAdd, Int.reduceSub, Int.reduceEq, Int.reduceMul, Int.reduceToNat, reduceIte]
  exact pureK_d0 _ _ _ rfl
def truncD (l : List GSpan) (d : Int) : List GSpan := bothD andB l [⟨0, d⟩]
def extendD (l : List GSpan) (d : Int) : List GSpan := bothD orB (truncD l d) [⟨d, 1048577⟩]
theorem mk_span (a b : Int) : D.agg [.int .i64 a, .int .i64 b] = encSpan ⟨a, b⟩ := rfl
theorem c_trunc (l : List GSpan) (d : Int) (H : List AObj) (hcap : l.length ≤ 2000000) :
    ACalls Go.Proofs.Tryz.prog GT 88 [.d (.list (l.map encSpan)), .d (.int .i64 d)] H fun v H' => v = .d (.list ((truncD l d).map encSpan)) ∧ H' = H := by
  refine acalls_pure (fn := Go.Proofs.Tryz.f88) (c := _) 10 [.tmp 4] (by kernel_rfl) rfl (by kernel_rfl) rfl rfl (by simp) ?_
  simp only [go_sem, Nat.reduceAdd, Nat.reduceSub, Nat.reduceMul, Nat.reduceLT, Nat.reduceLeDiff, Nat.reduceBEq, Nat.reduceEqDiff, Int.reduceLE, Int.reduceLT, Int.reduceNeg, Int.reduceAdd, Int.reduceSub, Int.reduceEq, Int.reduceMul, Int.reduceToNat, reduceIte]
  refine bsl_one (by simp only [go_sem, Nat.reduceAdd, Nat.reduceSub, Nat.reduceMul, Nat.reduceLT, Nat.reduceLeDiff, Nat.reduceBEq, Nat.reduceEqDiff, Int.reduceLE, Int.reduceLT, Int.reduceNeg, Int.reduceAdd, Int.reduceSub, Int.reduceEq, Int.reduceMul, Int.reduceToNat, reduceIte]) (by simp only [go_sem, Nat.reduceAdd, Nat.reduceSub, Nat.reduceMul, Nat.reduceLT, Nat.reduceLeDiff, Nat.reduceBEq, Nat.reduceEqDiff, Int.reduceLE, Int.reduceLT, Int.reduceNeg, Int.reduceAdd, Int.reduceSub, Int.reduceEq, Int.reduceMul, Int.reduceToNat, reduceIte]) (by simp only [go_sem, Nat.reduceAdd, Nat.reduceSub, Nat.reduceMul, Nat.reduceLT, Nat.reduceLeDiff, Nat.reduceBEq, Nat.reduceEqDiff, Int.reduceLE, Int.reduceLT, Int.reduceNeg, Int.reduceAdd, Int.reduceSub, Int.reduceEq, Int.reduceMul, Int.reduceToNat, reduceIte]) ?_
  simp only [go_sem, Nat.reduceAdd, Nat.reduceSub, Nat.reduceMul, Nat.reduceLT, Nat.reduceLeDiff, Nat.reduceBEq, Nat.reduceEqDiff, Int.reduceLE, Int.reduceLT, Int.reduceNeg, Int.reduceAdd, Int.reduceSub, Int.reduceEq, Int.reduceMul, Int.reduceToNat, reduceIte, mk_span]
  refine (c_inter l [⟨0, d⟩] _ (by simp only [List.length_cons, List.length_nil]; omega)).mono ?_
  rintro _ _ ⟨rfl, rfl⟩
  simp only [go_sem, Nat.reduceAdd, Nat.reduceSub, Nat.reduceMul, Nat.reduceLT, Nat.reduceLeDiff, Nat.reduceBEq, Nat.reduceEqDiff, Int.reduceLE, Int.reduceLT, Int.reduceNeg, Int.reduceAdd, Int.reduceSub, Int.reduceEq, Int.reduceMul, Int.reduceToNat, reduceIte]
  exact pureK_d0 _ _ _ rfl
theorem c_extend (l : List GSpan) (d : Int) (H : List AObj) (hcap : l.length ≤ 2000000) :
    ACalls Go.Proofs.Tryz.prog GT 86 [.d (.list (l.map encSpan)), .d (.int .i64 d)] H fun v H' => v = .d (.list ((extendD l d).map encSpan)) ∧ H' = H := by
  have hb := bothD_bound andB l [⟨0, d⟩]
  refine acalls_pure (fn := Go.Proofs.Tryz.f86) (c := _) 12 [.tmp 4] (by kernel_rfl) rfl (by kernel_rfl) rfl rfl (by simp) ?_
  simp only [go_sem, Nat.reduceAdd, Nat.reduceSub, Nat.reduceMul, Nat.reduceLT, Nat.reduceLeDiff, Nat.reduceBEq, Nat.reduceEqDiff, Int.reduceLE, Int.reduceLT, Int.reduceNeg, Int.reduceAdd, Int.reduceSub, Int.reduceEq, Int.reduceMul, Int.reduceToNat, reduceIte]
  refine (c_trunc l d _ hcap).mono ?_
  rintro _ _ ⟨rfl, rfl⟩
  simp only [go_sem, Nat.reduceAdd, Nat.reduceSub, Nat.reduceMul, Nat.reduceLT, Nat.reduceLeDiff, Nat.reduceBEq, Nat.reduceEqDiff, Int.reduceLE, Int.reduceLT, Int.reduceNeg, Int.reduceAdd, Int.reduceSub, Int.reduceEq, Int.reduceMul, Int.reduceToNat, reduceIte]
  refine bsl_one (by simp only [go_sem, Nat.reduceAdd, Nat.reduceSub, Nat.reduceMul, Nat.reduceLT, Nat.reduceLeDiff, Nat.reduceBEq, Nat.reduceEqDiff, Int.reduceLE, Int.reduceLT, Int.reduceNeg, Int.reduceAdd, Int.reduceSub, Int.reduceEq, Int.reduceMul, Int.reduceToNat, reduceIte]) (by simp only [go_sem, Nat.reduceAdd, Nat.reduceSub, Nat.reduceMul, Nat.reduceLT, Nat.reduceLeDiff, Nat.reduceBEq, Nat.reduceEqDiff, Int.reduceLE, Int.reduceLT, Int.reduceNeg, Int.reduceAdd, Int.reduceSub, Int.reduceEq, Int.reduceMul, Int.reduceToNat, reduceIte]) (by simp only [go_sem, Nat.reduceAdd, Nat.reduceSub, Nat.reduceMul, Nat.reduceLT, Nat.reduceLeDiff, Nat.reduceBEq, Nat.reduceEqDiff, Int.reduceLE, Int.reduceLT, Int.reduceNeg, Int.reduceAdd, Int.reduceSub, Int.reduceEq, Int.reduceMul, Int.reduceToNat, reduceIte]) ?_
  simp only [go_sem, Nat.reduceAdd, Nat.reduceSub, Nat.reduceMul, Nat.reduceLT, Nat.reduceLeDiff, Nat.reduceBEq, Nat.reduceEqDiff, Int.reduceLE, Int.reduceLT, Int.reduceNeg, Int.reduceAdd, Int.reduceSub, Int.reduceEq, Int.reduceMul, Int.reduceToNat, reduceIte, mk_span]
  refine (c_union (truncD l d) [⟨d, 1048577⟩] _ (by simp only [truncD, List.length_cons, List.length_nil]; omega)).mono ?_
  rintro _ _ ⟨rfl, rfl⟩
  simp only [go_sem, Nat.reduceAdd, Nat.reduceSub, Nat.reduceMul, Nat.reduceLT, Nat.reduceLeDiff, Nat.reduceBEq, Nat.reduceEqDiff, Int.reduceLE, Int.reduceLT, Int.reduceNeg, Int.reduceAdd, Int.reduceSub, Int.reduceEq, Int.reduceMul, Int.reduceToNat, reduceIte]
  exact pureK_d0 _ _ _ rfl

/-! the days of an item -/
def initialD (s : GStart) (l : List GDeed) : List GSpan :=
  if s.kind = 1 then extendD [] s.day else if s.kind = 3 then if (eventDay s.event l).2 = true then extendD [] (eventDay s.event l).1 else [] else []
theorem initialD_bound (s : GStart) (l : List GDeed) : (initialD s l).length ≤ 1048577 := by
  unfold initialD
  split
  · exact bothD_bound ..
  · split
    · split
      · exact bothD_bound ..
      · simp
    · simp
theorem c_initial (s : GStart) (l : List GDeed) (H : List AObj) : ACalls Go.Proofs.Tryz.prog GT 61 [.d (encStart s), .d (.list (l.map encDeed))] H fun v H' => v = .d (.list ((initialD s l).map encSpan)) ∧ H' = H := by
  refine acalls_pure (fn := Go.Proofs.Tryz.f61) (c := _) 26 [.tmp 4] (by kernel_rfl) rfl (by kernel_rfl) rfl rfl (by simp) ?_
  simp only [go_sem, Nat.reduceAdd, Nat.reduceSub, Nat.reduceMul, Nat.reduceLT, Nat.reduceLeDiff, Nat.reduceBEq, Nat.reduceEqDiff, Int.reduceLE, Int.reduceLT, Int.reduceNeg, Int.reduceAdd, Int.reduceSub, Int.reduceEq, Int.reduceMul, Int.reduceToNat, reduceIte]
  refine ⟨fun h1 => ?_, fun h1 => ?_⟩
  · simp only [go_sem, Nat.reduceAdd, Nat.reduceSub, Nat.reduceMul, Nat.reduceLT, Nat.reduceLeDiff, Nat.reduceBEq, Nat.reduceEqDiff, Int.reduceLE, Int.reduceLT, Int.reduceNeg, Int.reduceAdd, Int.reduceSub, Int.reduceEq, Int.reduceMul, Int.reduceToNat, reduceIte]
    refine (c_extend [] _ _ (by simp)).mono ?_
    rintro _ _ ⟨rfl, rfl⟩
    simp only [go_sem, Nat.reduceAdd, Nat.reduceSub, Nat.reduceMul, Nat.reduceLT, Nat.reduceLeDiff, Nat.reduceBEq, Nat.reduceEqDiff, Int.reduceLE, Int.reduceLT, Int.reduceNeg, Int.reduceAdd, Int.reduceSub, Int.reduceEq, Int.reduceMul, Int.reduceToNat, reduceIte]
    exact pureK_d _ _ _ _ (by simp [initialD, h1])
  · simp only [go_sem, Nat.reduceAdd, Nat.reduceSub, Nat.reduceMul, Nat.reduceLT, Nat.reduceLeDiff, Nat.reduceBEq, Nat.reduceEqDiff, Int.reduceLE, Int.reduceLT, Int.reduceNeg, Int.reduceAdd, Int.reduceSub, Int.reduceEq, Int.reduceMul, Int.reduceToNat, reduceIte]
    refine ⟨fun h2 => ?_, fun h2 => ?_⟩
    · simp only [go_sem, Nat.reduceAdd, Nat.reduceSub, Nat.reduceMul, Nat.reduceLT, Nat.reduceLeDiff, Nat.reduceBEq, Nat.reduceEqDiff, Int.reduceLE, Int.reduceLT, Int.reduceNeg, Int.reduceAdd, Int.reduceSub, Int.reduceEq, Int.reduceMul, Int.reduceToNat, reduceIte]
      refine (c_eventDay _ _ _).mono ?_
      rintro _ _ ⟨rfl, rfl⟩
      simp only [go_sem, Nat.reduceAdd, Nat.reduceSub, Nat.reduceMul, Nat.reduceLT, Nat.reduceLeDiff, Nat.reduceBEq, Nat.reduceEqDiff, Int.reduceLE, Int.reduceLT, Int.reduceNeg, Int.reduceAdd, Int.reduceSub, Int.reduceEq, Int.reduceMul, Int.reduceToNat, reduceIte]
      cases he : (eventDay s.event l).2 with
      | true =>
        simp only [go_sem, Nat.reduceAdd, Nat.reduceSub, Nat.reduceMul, Nat.reduceLT, Nat.reduceLeDiff, Nat.reduceBEq, Nat.reduceEqDiff, Int.reduceLE, Int.reduceLT, Int.reduceNeg, Int.reduceAdd, Int.reduceSub, Int.reduceEq, Int.reduceMul, Int.reduceToNat, reduceIte]
        refine (c_extend [] _ _ (by simp)).mono ?_
        rintro _ _ ⟨rfl, rfl⟩
        simp only [go_sem, Nat.reduceAdd, Nat.reduceSub, Nat.reduceMul, Nat.reduceLT, Nat.reduceLeDiff, Nat.reduceBEq, Nat.reduceEqDiff, Int.reduceLE, Int.reduceLT, Int.reduceNeg, Int.reduceAdd, Int.reduceSub, Int.reduceEq, Int.reduceMul, Int.reduceToNat, reduceIte]
        exact pureK_d _ _ _ _ (by simp [initialD, h1, h2, he])
      | false =>
        simp only [go_sem, Nat.reduceAdd, Nat.reduceSub, Nat.reduceMul, Nat.reduceLT, Nat.reduceLeDiff, Nat.reduceBEq, Nat.reduceEqDiff, Int.reduceLE, Int.reduceLT, Int.reduceNeg, Int.reduceAdd, Int.reduceSub, Int.reduceEq, Int.reduceMul, Int.reduceToNat, reduceIte]
        exact pureK_nils _ _ _ (by simp [initialD, h1, h2, he])
    · simp only [go_sem, Nat.reduceAdd, Nat.reduceSub, Nat.reduceMul, Nat.reduceLT, Nat.reduceLeDiff, Nat.reduceBEq, Nat.reduceEqDiff, Int.reduceLE, Int.reduceLT, Int.reduceNeg, Int.reduceAdd, Int.reduceSub, Int.reduceEq, Int.reduceMul, Int.reduceToNat, reduceIte]
      exact pureK_nils _ _ _ (by simp [initialD, h1, h2])

def turnD (k : Int) (days : List GSpan) (day : Int) : List GSpan := if k = 7 ∨ k = 9 then extendD days day else truncD days day
def dayStep (d : GDeed) (days : List GSpan) (o : GDeed) : List GSpan := if isTurn o.it.kind && refers o.it d.act d.item then turnD o.it.kind days o.it.day else days
def inForceD (a : GStart) (d : GDeed) (l : List GDeed) : List GSpan := if d.it.kind < 0 ∨ 6 < d.it.kind then [] else l.foldl (dayStep d) (initialD (effStart a d.it.start) l)
theorem days_bound (d : GDeed) : ∀ (l : List GDeed) (s : List GSpan), s.length ≤ 1048577 → (l.foldl (dayStep d) s).length ≤ 1048577
  | [], s, h => h
  | o :: l, s, h => by
    rw [List.foldl_cons]
    refine days_bound d l _ ?_
    unfold dayStep
    split
    · unfold turnD
      split
      · exact bothD_bound ..
      · exact bothD_bound ..
    · exact h
theorem c_turn (k : Int) (tv : AV) (ht : turnA k = some tv) (l : List GSpan) (d : Int) (H : List AObj) (hcap : l.length ≤ 2000000) : callV Go.Proofs.Tryz.prog GT tv [.d (.list (l.map encSpan)), .d (.int .i64 d)] H fun v H' => v = .d (.list ((turnD k l d).map encSpan)) ∧ H' = H := by
  unfold turnA at ht
  unfold turnD
  split at ht
  · rename_i h
    cases ht
    rw [if_pos h]
    exact c_extend l d H hcap
  · rename_i h
    rw [if_neg h]
    split at ht
    · cases ht
      exact c_trunc l d H hcap
    · cases ht

theorem c_inForce (a : GStart) (d : GDeed) (l : List GDeed) (H : List AObj) : ACalls Go.Proofs.Tryz.prog GT 45 [.d (encStart a), .d (encDeed d), .d (.list (l.map encDeed))] H fun v H' => v = .d (.list ((inForceD a d l).map encSpan)) ∧ H' = H := by
  refine acalls_ok (fun hok => ?_) (by kernel_rfl)
  obtain ⟨-, -, ⟨hl, -⟩, -⟩ := hok
  rw [List.length_map] at hl
  refine acalls_pure (fn := Go.Proofs.Tryz.f45) (c := _) 61 [.tmp 6] (by kernel_rfl) rfl (by kernel_rfl) rfl rfl (by simp) ?_
  simp only [go_sem, Nat.reduceAdd, Nat.reduceSub, Nat.reduceMul, Nat.reduceLT, Nat.reduceLeDiff, Nat.reduceBEq, Nat.reduceEqDiff, Int.reduceLE, Int.reduceLT, Int.reduceNeg, Int.reduceAdd, Int.reduceSub, Int.reduceEq, Int.reduceMul, Int.reduceToNat, reduceIte]
  refine ⟨fun h1 => ?_, fun h1 => ?_⟩
  · simp only [go_sem, Nat.reduceAdd, Nat.reduceSub, Nat.reduceMul, Nat.reduceLT, Nat.reduceLeDiff, Nat.reduceBEq, Nat.reduceEqDiff, Int.reduceLE, Int.reduceLT, Int.reduceNeg, Int.reduceAdd, Int.reduceSub, Int.reduceEq, Int.reduceMul, Int.reduceToNat, reduceIte, h1]
    exact pureK_nils _ _ _ (by simp [inForceD, h1])
  simp only [go_sem, Nat.reduceAdd, Nat.reduceSub, Nat.reduceMul, Nat.reduceLT, Nat.reduceLeDiff, Nat.reduceBEq, Nat.reduceEqDiff, Int.reduceLE, Int.reduceLT, Int.reduceNeg, Int.reduceAdd, Int.reduceSub, Int.reduceEq, Int.reduceMul, Int.reduceToNat, reduceIte, h1]
  refine ⟨fun h2 => ?_, fun h2 => ?_⟩
  · simp only [go_sem, Nat.reduceAdd, Nat.reduceSub, Nat.reduceMul, Nat.reduceLT, Nat.reduceLeDiff, Nat.reduceBEq, Nat.reduceEqDiff, Int.reduceLE, Int.reduceLT, Int.reduceNeg, Int.reduceAdd, Int.reduceSub, Int.reduceEq, Int.reduceMul, Int.reduceToNat, reduceIte, h2]
    exact pureK_nils _ _ _ (by simp [inForceD, h2])
  simp only [go_sem, Nat.reduceAdd, Nat.reduceSub, Nat.reduceMul, Nat.reduceLT, Nat.reduceLeDiff, Nat.reduceBEq, Nat.reduceEqDiff, Int.reduceLE, Int.reduceLT, Int.reduceNeg, Int.reduceAdd, Int.reduceSub, Int.reduceEq, Int.reduceMul, Int.reduceToNat, reduceIte, h2]
  refine (c_effStart _ _ _).mono ?_
  rintro _ H2 ⟨rfl, hH⟩
  rw [hH]
  simp only [go_sem, Nat.reduceAdd, Nat.reduceSub, Nat.reduceMul, Nat.reduceLT, Nat.reduceLeDiff, Nat.reduceBEq, Nat.reduceEqDiff, Int.reduceLE, Int.reduceLT, Int.reduceNeg, Int.reduceAdd, Int.reduceSub, Int.reduceEq, Int.reduceMul, Int.reduceToNat, reduceIte]
  refine (c_initial _ _ _).mono ?_
  rintro _ H3 ⟨rfl, hH3⟩
  rw [hH3]
  simp only [go_sem, Nat.reduceAdd, Nat.reduceSub, Nat.reduceMul, Nat.reduceLT, Nat.reduceLeDiff, Nat.reduceBEq, Nat.reduceEqDiff, Int.reduceLE, Int.reduceLT, Int.reduceNeg, Int.reduceAdd, Int.reduceSub, Int.reduceEq, Int.reduceMul, Int.reduceToNat, reduceIte, hl]
  have hsp : inForceD a d l = l.foldl (dayStep d) (initialD (effStart a d.it.start) l) := by unfold inForceD; rw [if_neg (by omega)]
  rw [hsp]
  have hib := initialD_bound (effStart a d.it.start) l
  generalize initialD (effStart a d.it.start) l = s at hib ⊢
  refine ab_loop (ι := {i : Nat // i ≤ l.length}) (fun i => ⟨E 61 [(2, .d (.list (l.map encDeed))), (4, .ptr (H.length + 1) 0 0 0), (7, .d (.list (((l.take i.1).foldl (dayStep d) s).map encSpan))), (29, .d (.list (l.map encDeed))), (30, .d (.int .i64 l.length)), (31, .d (.int .i64 (i.1 : Int)))],
    H ++ [AObj.row 3 0 false [AV.d (encStart a)], AObj.row 28 0 false [AV.d (encDeed d)]]⟩) (fun i => l.length - i.1) ⟨0, Nat.zero_le _⟩ (drop_E ?_) ?_
  · simp only [go_sem, Nat.reduceAdd, Nat.reduceSub, Nat.reduceMul, Nat.reduceLT, Nat.reduceLeDiff, Nat.reduceBEq, Nat.reduceEqDiff, Int.reduceLE, Int.reduceLT, Int.reduceNeg, Int.reduceAdd, Int.reduceSub, Int.reduceEq, Int.reduceMul, Int.reduceToNat, reduceIte]
    rfl
  rintro ⟨i, hi⟩
  have hdb := days_bound d (l.take i) s hib
  simp only [go_sem, Nat.reduceAdd, Nat.reduceSub, Nat.reduceMul, Nat.reduceLT, Nat.reduceLeDiff, Nat.reduceBEq, Nat.reduceEqDiff, Int.reduceLE, Int.reduceLT, Int.reduceNeg, Int.reduceAdd, Int.reduceSub, Int.reduceEq, Int.reduceMul, Int.reduceToNat, reduceIte]
  refine ⟨fun h3 => ?_, fun h3 => ?_⟩
  · have hlt : i < l.length := by omega
    have hfs : (l.take (i + 1)).foldl (dayStep d) s = dayStep d ((l.take i).foldl (dayStep d) s) l[i] := by rw [List.take_succ_eq_append_getElem hlt, List.foldl_append]; rfl
    simp only [go_sem, Nat.reduceAdd, Nat.reduceSub, Nat.reduceMul, Nat.reduceLT, Nat.reduceLeDiff, Nat.reduceBEq, Nat.reduceEqDiff, Int.reduceLE, Int.reduceLT, Int.reduceNeg, Int.reduceAdd, Int.reduceSub, Int.reduceEq, Int.reduceMul, Int.reduceToNat, reduceIte, getEnc encDeed hlt]
    refine ab_draw 10 (by kernel_rfl) (by kernel_rfl) (by kernel_rfl) ?_
    simp only [go_sem, Nat.reduceAdd, Nat.reduceSub, Nat.reduceMul, Nat.reduceLT, Nat.reduceLeDiff, Nat.reduceBEq, Nat.reduceEqDiff, Int.reduceLE, Int.reduceLT, Int.reduceNeg, Int.reduceAdd, Int.reduceSub, Int.reduceEq, Int.reduceMul, Int.reduceToNat, reduceIte]
    refine callq_map turnsM turnsM_d (fun M => c_turns M) ?_
    simp only [go_sem, Nat.reduceAdd, Nat.reduceSub, Nat.reduceMul, Nat.reduceLT, Nat.reduceLeDiff, Nat.reduceBEq, Nat.reduceEqDiff, Int.reduceLE, Int.reduceLT, Int.reduceNeg, Int.reduceAdd, Int.reduceSub, Int.reduceEq, Int.reduceMul, Int.reduceToNat, reduceIte, find_turn]
    cases ht : turnA l[i].it.kind with
    | none =>
      simp only [go_sem, Nat.reduceAdd, Nat.reduceSub, Nat.reduceMul, Nat.reduceLT, Nat.reduceLeDiff, Nat.reduceBEq, Nat.reduceEqDiff, Int.reduceLE, Int.reduceLT, Int.reduceNeg, Int.reduceAdd, Int.reduceSub, Int.reduceEq, Int.reduceMul, Int.reduceToNat, reduceIte, wrap_succ i (by omega)]
      refine ⟨⟨i + 1, hlt⟩, by simp only; omega, ?_⟩
      rw [hfs]
      have : dayStep d ((l.take i).foldl (dayStep d) s) l[i] = (l.take i).foldl (dayStep d) s := by unfold dayStep; simp [turnA_is, ht]
      rw [this]
      refine drop_own rfl (Keeps.refl _) ?_
      simp only [held2, cloA, go_sem, Nat.reduceAdd, Nat.reduceSub, Nat.reduceMul, Nat.reduceLT, Nat.reduceLeDiff, Nat.reduceBEq, Nat.reduceEqDiff, Int.reduceLE, Int.reduceLT, Int.reduceNeg, Int.reduceAdd, Int.reduceSub, Int.reduceEq, Int.reduceMul, Int.reduceToNat, reduceIte]
    | some tv =>
      simp only [go_sem, Nat.reduceAdd, Nat.reduceSub, Nat.reduceMul, Nat.reduceLT, Nat.reduceLeDiff, Nat.reduceBEq, Nat.reduceEqDiff, Int.reduceLE, Int.reduceLT, Int.reduceNeg, Int.reduceAdd, Int.reduceSub, Int.reduceEq, Int.reduceMul, Int.reduceToNat, reduceIte]
      refine (c_refers _ _ _ _).mono ?_
      rintro _ H4 ⟨rfl, hH4⟩
      rw [hH4]
      cases hr : refers l[i].it d.act d.item with
      | true =>
        simp only [go_sem, Nat.reduceAdd, Nat.reduceSub, Nat.reduceMul, Nat.reduceLT, Nat.reduceLeDiff, Nat.reduceBEq, Nat.reduceEqDiff, Int.reduceLE, Int.reduceLT, Int.reduceNeg, Int.reduceAdd, Int.reduceSub, Int.reduceEq, Int.reduceMul, Int.reduceToNat, reduceIte]
        refine callV_mono (c_turn _ tv ht _ _ _ (by omega)) ?_
        rintro _ H5 ⟨rfl, hH5⟩
        rw [hH5]
        simp only [go_sem, Nat.reduceAdd, Nat.reduceSub, Nat.reduceMul, Nat.reduceLT, Nat.reduceLeDiff, Nat.reduceBEq, Nat.reduceEqDiff, Int.reduceLE, Int.reduceLT, Int.reduceNeg, Int.reduceAdd, Int.reduceSub, Int.reduceEq, Int.reduceMul, Int.reduceToNat, reduceIte, wrap_succ i (by omega)]
        refine ⟨⟨i + 1, hlt⟩, by simp only; omega, ?_⟩
        rw [hfs]
        have : dayStep d ((l.take i).foldl (dayStep d) s) l[i] = turnD l[i].it.kind ((l.take i).foldl (dayStep d) s) l[i].it.day := by unfold dayStep; simp [turnA_is, ht, hr]
        rw [this]
        refine drop_own rfl (Keeps.refl _) ?_
        simp only [held2, cloA, go_sem, Nat.reduceAdd, Nat.reduceSub, Nat.reduceMul, Nat.reduceLT, Nat.reduceLeDiff, Nat.reduceBEq, Nat.reduceEqDiff, Int.reduceLE, Int.reduceLT, Int.reduceNeg, Int.reduceAdd, Int.reduceSub, Int.reduceEq, Int.reduceMul, Int.reduceToNat, reduceIte]
      | false =>
        simp only [go_sem, Nat.reduceAdd, Nat.reduceSub, Nat.reduceMul, Nat.reduceLT, Nat.reduceLeDiff, Nat.reduceBEq, Nat.reduceEqDiff, Int.reduceLE, Int.reduceLT, Int.reduceNeg, Int.reduceAdd, Int.reduceSub, Int.reduceEq, Int.reduceMul, Int.reduceToNat, reduceIte, wrap_succ i (by omega)]
        refine ⟨⟨i + 1, hlt⟩, by simp only; omega, ?_⟩
        rw [hfs]
        have : dayStep d ((l.take i).foldl (dayStep d) s) l[i] = (l.take i).foldl (dayStep d) s := by unfold dayStep; simp [hr]
        rw [this]
        refine drop_own rfl (Keeps.refl _) ?_
        simp only [held2, cloA, go_sem, Nat.reduceAdd, Nat.reduceSub, Nat.reduceMul, Nat.reduceLT, Nat.reduceLeDiff, Nat.reduceBEq, Nat.reduceEqDiff, Int.reduceLE, Int.reduceLT, Int.reduceNeg, Int.reduceAdd, Int.reduceSub, Int.reduceEq, Int.reduceMul, Int.reduceToNat, reduceIte]
  · rw [take_end h3]
    simp only [go_sem, Nat.reduceAdd, Nat.reduceSub, Nat.reduceMul, Nat.reduceLT, Nat.reduceLeDiff, Nat.reduceBEq, Nat.reduceEqDiff, Int.reduceLE, Int.reduceLT, Int.reduceNeg, Int.reduceAdd, Int.reduceSub, Int.reduceEq, Int.reduceMul, Int.reduceToNat, reduceIte]
    exact pureK_d _ _ _ _ rfl
end Go.Ab
