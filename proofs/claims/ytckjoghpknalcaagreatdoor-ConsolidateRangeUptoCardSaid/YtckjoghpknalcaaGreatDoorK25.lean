import Derived.Test.YtckjoghpknalcaaGreatDoorB6
set_option linter.unusedVariables false
set_option linter.unusedSimpArgs false
set_option linter.unnecessarySimpa false
open Go
namespace Go.Ab
attribute [local go_sem] ents held Option.isSome_some Option.isSome_none Option.map_some Option.map_none List.length_map List.map_cons List.map_nil List.length_cons List.length_nil List.cons_append List.nil_append List.append_assoc true_and and_true true_or or_true eq_self decide_true decide_false Bool.not_true Bool.not_false not_true not_false Int.natCast_zero Nat.zero_add Bool.false_eq_true Bool.true_eq_false if_true if_false Bool.or_false Bool.or_true Bool.false_or Bool.true_or Bool.and_false Bool.false_and
set_option maxRecDepth 8000
set_option maxHeartbeats 4000000
set_option linter.unusedSimpArgs false
set_option linter.unusedVariables false
variable {GT : Globs}

def unit0 : GUnit := ⟨⟨0, 0, 0⟩, 0, ⟨#[]⟩, [], [], []⟩
theorem unit0_def : encUnit unit0 = .agg [.int .i64 0, .int .i64 0, .int .i64 0, .int .i64 0, .str ⟨#[]⟩, .list [], .list [], .list []] := rfl
theorem c_empty (H : List AObj) : ACalls Go.Proofs.Tryz.prog GT 26 [] H fun v H' => v = .d (encUnit unit0) ∧ H' = H := by
  refine acalls_pure (fn := Go.Proofs.Tryz.f26) (c := _) 2 [.cell 0 30] (by kernel_rfl) rfl (by kernel_rfl) rfl rfl (by simp) ?_
  simp only [go_sem, Nat.reduceAdd, Nat.reduceSub, Nat.reduceMul, Nat.reduceLT, Nat.reduceLeDiff, Nat.reduceBEq, Nat.reduceEqDiff, Int.reduceLE, Int.reduceLT, Int.reduceNeg, Int.reduceAdd, Int.reduceSub, Int.reduceEq, Int.reduceMul, Int.reduceToNat, reduceIte]
  exact pureK_v _ _ _ _ (.d (encUnit unit0)) rfl rfl
theorem c_applyNone (u : GUnit) (H : List AObj) : ACalls Go.Proofs.Tryz.prog GT 25 [.d (encUnit u), .d (.list [])] H fun v H' => v = .tup [.d (encUnit u), .d (.list [])] ∧ H' = H := by
  refine acalls_pure (fn := Go.Proofs.Tryz.f25) (c := _) 43 [.cell 4 30, .tmp 5] (by kernel_rfl) rfl (by kernel_rfl) rfl rfl (by simp) ?_
  simp only [go_sem, Nat.reduceAdd, Nat.reduceSub, Nat.reduceMul, Nat.reduceLT, Nat.reduceLeDiff, Nat.reduceBEq, Nat.reduceEqDiff, Int.reduceLE, Int.reduceLT, Int.reduceNeg, Int.reduceAdd, Int.reduceSub, Int.reduceEq, Int.reduceMul, Int.reduceToNat, reduceIte]
  refine ab_loop (ι := Unit) (fun _ => ⟨E 43 [(2, .ptr H.length 0 0 0), (4, .ptr (H.length + 1) 0 0 0), (6, .nils), (12, .d (.int .i64 0)), (13, .d (.int .i64 0))], H ++ [AObj.row 8 0 false [AV.d (encUnit u)], AObj.row 8 0 false [.agg [.d (.int .i64 0), .d (.int .i64 0), .d (.int .i64 0), .d (.int .i64 0), .d (.str ⟨#[]⟩), .nils, .nils, .nils]]]⟩) (fun _ => 0) () (drop_E ?_) ?_
  · simp only [go_sem, Nat.reduceAdd, Nat.reduceSub, Nat.reduceMul, Nat.reduceLT, Nat.reduceLeDiff, Nat.reduceBEq, Nat.reduceEqDiff, Int.reduceLE, Int.reduceLT, Int.reduceNeg, Int.reduceAdd, Int.reduceSub, Int.reduceEq, Int.reduceMul, Int.reduceToNat, reduceIte]
  intro _
  simp only [go_sem, Nat.reduceAdd, Nat.reduceSub, Nat.reduceMul, Nat.reduceLT, Nat.reduceLeDiff, Nat.reduceBEq, Nat.reduceEqDiff, Int.reduceLE, Int.reduceLT, Int.reduceNeg, Int.reduceAdd, Int.reduceSub, Int.reduceEq, Int.reduceMul, Int.reduceToNat, reduceIte]
  exact pureK_v _ _ _ _ (.tup [.d (encUnit u), .d (.list [])]) (by simp [pureR, pureL, pureA]) rfl
theorem c_bookNone (H : List AObj) : ACalls Go.Proofs.Tryz.prog GT 15 [.d (.list [])] H fun v H' => v = .tup [.d (encUnit unit0), .d (.list [])] ∧ H' = H := by
  refine acalls_pure (fn := Go.Proofs.Tryz.f15) (c := _) 9 [.cell 2 30, .tmp 3] (by kernel_rfl) rfl (by kernel_rfl) rfl rfl (by simp) ?_
  simp only [go_sem, Nat.reduceAdd, Nat.reduceSub, Nat.reduceMul, Nat.reduceLT, Nat.reduceLeDiff, Nat.reduceBEq, Nat.reduceEqDiff, Int.reduceLE, Int.reduceLT, Int.reduceNeg, Int.reduceAdd, Int.reduceSub, Int.reduceEq, Int.reduceMul, Int.reduceToNat, reduceIte]
  refine (c_empty _).mono ?_
  rintro _ H2 ⟨rfl, hH⟩
  rw [hH]
  simp only [go_sem, Nat.reduceAdd, Nat.reduceSub, Nat.reduceMul, Nat.reduceLT, Nat.reduceLeDiff, Nat.reduceBEq, Nat.reduceEqDiff, Int.reduceLE, Int.reduceLT, Int.reduceNeg, Int.reduceAdd, Int.reduceSub, Int.reduceEq, Int.reduceMul, Int.reduceToNat, reduceIte]
  refine (c_applyNone _ _).mono ?_
  rintro _ H3 ⟨rfl, hH3⟩
  rw [hH3]
  simp only [go_sem, Nat.reduceAdd, Nat.reduceSub, Nat.reduceMul, Nat.reduceLT, Nat.reduceLeDiff, Nat.reduceBEq, Nat.reduceEqDiff, Int.reduceLE, Int.reduceLT, Int.reduceNeg, Int.reduceAdd, Int.reduceSub, Int.reduceEq, Int.reduceMul, Int.reduceToNat, reduceIte]
  exact pureK_tup2 _ _ _ _ _ rfl

def noneAt (day : Int) (l : List GGaz) : Prop := (l = [] ∨ day < 0 ∨ 1048577 ≤ day) ∧ (l.flatMap (·.acts)).length ≤ 1073741823 ∧ itemsN (l.flatMap (·.acts)) ≤ 1073741823
theorem c_rowNone (day : Int) (purpose : ByteArray) (l : List GGaz) (H : List AObj) (h : noneAt day l) : ACalls Go.Proofs.Tryz.prog GT 14 [.d (.int .i64 day), .d (.str purpose), .d (.list (l.map encGaz))] H fun v H' => v = .d (.list []) ∧ H' = H := by
  refine acalls_pure (fn := Go.Proofs.Tryz.f14) (c := _) 11 [.tmp 6] (by kernel_rfl) rfl (by kernel_rfl) rfl rfl (by simp) ?_
  simp only [go_sem, Nat.reduceAdd, Nat.reduceSub, Nat.reduceMul, Nat.reduceLT, Nat.reduceLeDiff, Nat.reduceBEq, Nat.reduceEqDiff, Int.reduceLE, Int.reduceLT, Int.reduceNeg, Int.reduceAdd, Int.reduceSub, Int.reduceEq, Int.reduceMul, Int.reduceToNat, reduceIte]
  refine (c_On_none day purpose l _ h.1 h.2.1 h.2.2).mono ?_
  rintro _ H2 ⟨rfl, hH⟩
  rw [hH]
  simp only [go_sem, Nat.reduceAdd, Nat.reduceSub, Nat.reduceMul, Nat.reduceLT, Nat.reduceLeDiff, Nat.reduceBEq, Nat.reduceEqDiff, Int.reduceLE, Int.reduceLT, Int.reduceNeg, Int.reduceAdd, Int.reduceSub, Int.reduceEq, Int.reduceMul, Int.reduceToNat, reduceIte]
  exact pureK_d0 _ _ _ rfl
theorem c_BookNone (day : Int) (purpose : ByteArray) (l : List GGaz) (H : List AObj) (h : noneAt day l) : ACalls Go.Proofs.Tryz.prog GT 6 [.d (.int .i64 day), .d (.str purpose), .d (.list (l.map encGaz))] H fun v H' => v = .d (encUnit unit0) ∧ H' = H := by
  refine acalls_pure (fn := Go.Proofs.Tryz.f6) (c := _) 18 [.cell 6 30] (by kernel_rfl) rfl (by kernel_rfl) rfl rfl (by simp) ?_
  simp only [go_sem, Nat.reduceAdd, Nat.reduceSub, Nat.reduceMul, Nat.reduceLT, Nat.reduceLeDiff, Nat.reduceBEq, Nat.reduceEqDiff, Int.reduceLE, Int.reduceLT, Int.reduceNeg, Int.reduceAdd, Int.reduceSub, Int.reduceEq, Int.reduceMul, Int.reduceToNat, reduceIte]
  refine (c_rowNone day purpose l _ h).mono ?_
  rintro _ H2 ⟨rfl, hH⟩
  rw [hH]
  simp only [go_sem, Nat.reduceAdd, Nat.reduceSub, Nat.reduceMul, Nat.reduceLT, Nat.reduceLeDiff, Nat.reduceBEq, Nat.reduceEqDiff, Int.reduceLE, Int.reduceLT, Int.reduceNeg, Int.reduceAdd, Int.reduceSub, Int.reduceEq, Int.reduceMul, Int.reduceToNat, reduceIte]
  refine (c_bookNone _).mono ?_
  rintro _ H3 ⟨rfl, hH3⟩
  rw [hH3]
  simp only [go_sem, Nat.reduceAdd, Nat.reduceSub, Nat.reduceMul, Nat.reduceLT, Nat.reduceLeDiff, Nat.reduceBEq, Nat.reduceEqDiff, Int.reduceLE, Int.reduceLT, Int.reduceNeg, Int.reduceAdd, Int.reduceSub, Int.reduceEq, Int.reduceMul, Int.reduceToNat, reduceIte]
  exact pureK_d _ _ _ _ rfl
theorem c_FailNone (day : Int) (purpose : ByteArray) (l : List GGaz) (H : List AObj) (h : noneAt day l) : ACalls Go.Proofs.Tryz.prog GT 8 [.d (.int .i64 day), .d (.str purpose), .d (.list (l.map encGaz))] H fun v H' => v = .d (.list []) ∧ H' = H := by
  refine acalls_pure (fn := Go.Proofs.Tryz.f8) (c := _) 18 [.tmp 6] (by kernel_rfl) rfl (by kernel_rfl) rfl rfl (by simp) ?_
  simp only [go_sem, Nat.reduceAdd, Nat.reduceSub, Nat.reduceMul, Nat.reduceLT, Nat.reduceLeDiff, Nat.reduceBEq, Nat.reduceEqDiff, Int.reduceLE, Int.reduceLT, Int.reduceNeg, Int.reduceAdd, Int.reduceSub, Int.reduceEq, Int.reduceMul, Int.reduceToNat, reduceIte]
  refine (c_rowNone day purpose l _ h).mono ?_
  rintro _ H2 ⟨rfl, hH⟩
  rw [hH]
  simp only [go_sem, Nat.reduceAdd, Nat.reduceSub, Nat.reduceMul, Nat.reduceLT, Nat.reduceLeDiff, Nat.reduceBEq, Nat.reduceEqDiff, Int.reduceLE, Int.reduceLT, Int.reduceNeg, Int.reduceAdd, Int.reduceSub, Int.reduceEq, Int.reduceMul, Int.reduceToNat, reduceIte]
  refine (c_bookNone _).mono ?_
  rintro _ H3 ⟨rfl, hH3⟩
  rw [hH3]
  simp only [go_sem, Nat.reduceAdd, Nat.reduceSub, Nat.reduceMul, Nat.reduceLT, Nat.reduceLeDiff, Nat.reduceBEq, Nat.reduceEqDiff, Int.reduceLE, Int.reduceLT, Int.reduceNeg, Int.reduceAdd, Int.reduceSub, Int.reduceEq, Int.reduceMul, Int.reduceToNat, reduceIte]
  exact pureK_d _ _ _ _ rfl
theorem c_RowsNone (H : List AObj) : ACalls Go.Proofs.Tryz.prog GT 16 [.d (.list []), .d (.list [])] H fun v H' => v = .d (.bool true) ∧ H' = H := by
  refine acalls_pure (fn := Go.Proofs.Tryz.f16) (c := _) 26 [.tmp 4] (by kernel_rfl) rfl (by kernel_rfl) rfl rfl (by simp) ?_
  simp only [go_sem, Nat.reduceAdd, Nat.reduceSub, Nat.reduceMul, Nat.reduceLT, Nat.reduceLeDiff, Nat.reduceBEq, Nat.reduceEqDiff, Int.reduceLE, Int.reduceLT, Int.reduceNeg, Int.reduceAdd, Int.reduceSub, Int.reduceEq, Int.reduceMul, Int.reduceToNat, reduceIte, List.length_nil, Int.natCast_zero]
  refine ab_loop (ι := Unit) (fun _ => ⟨E 26 [(0, .d (.list [])), (1, .d (.list [])), (5, .d (.int .i64 0))], H⟩) (fun _ => 0) () (drop_E ?_) ?_
  · simp only [go_sem, Nat.reduceAdd, Nat.reduceSub, Nat.reduceMul, Nat.reduceLT, Nat.reduceLeDiff, Nat.reduceBEq, Nat.reduceEqDiff, Int.reduceLE, Int.reduceLT, Int.reduceNeg, Int.reduceAdd, Int.reduceSub, Int.reduceEq, Int.reduceMul, Int.reduceToNat, reduceIte]
  intro _
  simp only [go_sem, Nat.reduceAdd, Nat.reduceSub, Nat.reduceMul, Nat.reduceLT, Nat.reduceLeDiff, Nat.reduceBEq, Nat.reduceEqDiff, Int.reduceLE, Int.reduceLT, Int.reduceNeg, Int.reduceAdd, Int.reduceSub, Int.reduceEq, Int.reduceMul, Int.reduceToNat, reduceIte]
  exact pureK_d0 _ _ _ rfl
theorem c_SameNone (H : List AObj) : ACalls Go.Proofs.Tryz.prog GT 7 [.d (encUnit unit0), .d (encUnit unit0)] H fun v H' => v = .d (.bool true) ∧ H' = H := by
  have hid : abin Go.Proofs.Tryz.prog .neq 26 (.d (encId unit0.id)) (.d (encId unit0.id)) = some (.d (.bool false)) := by kernel_rfl
  have hh : unit0.head = [] := rfl
  have hw : unit0.words = [] := rfl
  have hk : unit0.kids = [] := rfl
  refine acalls_pure (fn := Go.Proofs.Tryz.f7) (c := _) 69 [.tmp 4] (by kernel_rfl) rfl (by kernel_rfl) rfl rfl (by simp) ?_
  simp only [go_sem, Nat.reduceAdd, Nat.reduceSub, Nat.reduceMul, Nat.reduceLT, Nat.reduceLeDiff, Nat.reduceBEq, Nat.reduceEqDiff, Int.reduceLE, Int.reduceLT, Int.reduceNeg, Int.reduceAdd, Int.reduceSub, Int.reduceEq, Int.reduceMul, Int.reduceToNat, reduceIte, hid, hh]
  refine (c_RowsNone _).mono ?_
  rintro _ H2 ⟨rfl, hH⟩
  rw [hH]
  simp only [go_sem, Nat.reduceAdd, Nat.reduceSub, Nat.reduceMul, Nat.reduceLT, Nat.reduceLeDiff, Nat.reduceBEq, Nat.reduceEqDiff, Int.reduceLE, Int.reduceLT, Int.reduceNeg, Int.reduceAdd, Int.reduceSub, Int.reduceEq, Int.reduceMul, Int.reduceToNat, reduceIte, hw]
  refine (c_RowsNone _).mono ?_
  rintro _ H3 ⟨rfl, hH3⟩
  rw [hH3]
  simp only [go_sem, Nat.reduceAdd, Nat.reduceSub, Nat.reduceMul, Nat.reduceLT, Nat.reduceLeDiff, Nat.reduceBEq, Nat.reduceEqDiff, Int.reduceLE, Int.reduceLT, Int.reduceNeg, Int.reduceAdd, Int.reduceSub, Int.reduceEq, Int.reduceMul, Int.reduceToNat, reduceIte, hk, List.length_nil]
  refine ab_loop (ι := Unit) (fun _ => ⟨E 69 [(2, .ptr H.length 0 0 0), (5, .d (.int .i64 0))], H ++ [AObj.row 8 0 false [AV.d (encUnit unit0)], AObj.row 8 0 false [AV.d (encUnit unit0)]]⟩) (fun _ => 0) () (drop_E ?_) ?_
  · simp only [go_sem, Nat.reduceAdd, Nat.reduceSub, Nat.reduceMul, Nat.reduceLT, Nat.reduceLeDiff, Nat.reduceBEq, Nat.reduceEqDiff, Int.reduceLE, Int.reduceLT, Int.reduceNeg, Int.reduceAdd, Int.reduceSub, Int.reduceEq, Int.reduceMul, Int.reduceToNat, reduceIte]
  intro _
  simp only [go_sem, Nat.reduceAdd, Nat.reduceSub, Nat.reduceMul, Nat.reduceLT, Nat.reduceLeDiff, Nat.reduceBEq, Nat.reduceEqDiff, Int.reduceLE, Int.reduceLT, Int.reduceNeg, Int.reduceAdd, Int.reduceSub, Int.reduceEq, Int.reduceMul, Int.reduceToNat, reduceIte, hk, List.length_nil]
  exact pureK_d _ _ _ _ rfl

/-- THE LAW, the examples given -/
theorem c_range (aw : ACalls Go.Proofs.Tryz.prog GT 4 [] [] fun v _ => v = .d (.bool true)) (day : Int) (purpose : ByteArray) (l : List GGaz) (h1 : (l.flatMap (·.acts)).length ≤ 1073741823) (h2 : itemsN (l.flatMap (·.acts)) ≤ 1073741823) :
    ACalls Go.Proofs.Tryz.prog GT 3 [.d (.int .i64 day), .d (.str purpose), .d (.list (l.map encGaz))] [] fun v H' => v = .d (.bool true) ∧ H' = [] := by
  have hn0 : noneAt day [] := ⟨.inl rfl, by simp, by simp [itemsN]⟩
  have fin : ∀ L : List AObj, pureK [] (fun v => v = .d (.bool true)) (.d (.bool true)) L := fun L => ⟨L, .d (.bool true), rfl, by simp [pureR, pureA], rfl⟩
  refine acalls_pure (fn := Go.Proofs.Tryz.f3) (c := _) 48 [.tmp 6] (by kernel_rfl) rfl (by kernel_rfl) rfl rfl (by simp) ?_
  simp only [go_sem, Nat.reduceAdd, Nat.reduceSub, Nat.reduceMul, Nat.reduceLT, Nat.reduceLeDiff, Nat.reduceBEq, Nat.reduceEqDiff, Int.reduceLE, Int.reduceLT, Int.reduceNeg, Int.reduceAdd, Int.reduceSub, Int.reduceEq, Int.reduceMul, Int.reduceToNat, reduceIte]
  refine aw.mono ?_
  rintro _ H rfl
  simp only [go_sem, Nat.reduceAdd, Nat.reduceSub, Nat.reduceMul, Nat.reduceLT, Nat.reduceLeDiff, Nat.reduceBEq, Nat.reduceEqDiff, Int.reduceLE, Int.reduceLT, Int.reduceNeg, Int.reduceAdd, Int.reduceSub, Int.reduceEq, Int.reduceMul, Int.reduceToNat, reduceIte]
  refine (w_few30 _ _ _).mono ?_
  rintro _ H3 ⟨⟨b, rfl⟩, hH3⟩
  rw [hH3]
  cases b with
  | false =>
    simp only [go_sem, Nat.reduceAdd, Nat.reduceSub, Nat.reduceMul, Nat.reduceLT, Nat.reduceLeDiff, Nat.reduceBEq, Nat.reduceEqDiff, Int.reduceLE, Int.reduceLT, Int.reduceNeg, Int.reduceAdd, Int.reduceSub, Int.reduceEq, Int.reduceMul, Int.reduceToNat, reduceIte]
    exact fin _
  | true =>
    simp only [go_sem, Nat.reduceAdd, Nat.reduceSub, Nat.reduceMul, Nat.reduceLT, Nat.reduceLeDiff, Nat.reduceBEq, Nat.reduceEqDiff, Int.reduceLE, Int.reduceLT, Int.reduceNeg, Int.reduceAdd, Int.reduceSub, Int.reduceEq, Int.reduceMul, Int.reduceToNat, reduceIte]
    refine (c_BookNone day purpose [] _ hn0).mono ?_
    rintro _ H4 ⟨rfl, hH4⟩
    rw [hH4]
    simp only [go_sem, Nat.reduceAdd, Nat.reduceSub, Nat.reduceMul, Nat.reduceLT, Nat.reduceLeDiff, Nat.reduceBEq, Nat.reduceEqDiff, Int.reduceLE, Int.reduceLT, Int.reduceNeg, Int.reduceAdd, Int.reduceSub, Int.reduceEq, Int.reduceMul, Int.reduceToNat, reduceIte, ← unit0_def]
    refine (c_SameNone _).mono ?_
    rintro _ H5 ⟨rfl, hH5⟩
    rw [hH5]
    simp only [go_sem, Nat.reduceAdd, Nat.reduceSub, Nat.reduceMul, Nat.reduceLT, Nat.reduceLeDiff, Nat.reduceBEq, Nat.reduceEqDiff, Int.reduceLE, Int.reduceLT, Int.reduceNeg, Int.reduceAdd, Int.reduceSub, Int.reduceEq, Int.reduceMul, Int.reduceToNat, reduceIte]
    refine (c_FailNone day purpose [] _ hn0).mono ?_
    rintro _ H6 ⟨rfl, hH6⟩
    rw [hH6]
    simp only [go_sem, Nat.reduceAdd, Nat.reduceSub, Nat.reduceMul, Nat.reduceLT, Nat.reduceLeDiff, Nat.reduceBEq, Nat.reduceEqDiff, Int.reduceLE, Int.reduceLT, Int.reduceNeg, Int.reduceAdd, Int.reduceSub, Int.reduceEq, Int.reduceMul, Int.reduceToNat, reduceIte, List.length_nil]
    by_cases hd : 0 ≤ day ∧ day ≤ 1048576
    · obtain ⟨hd1, hd2⟩ := hd
      simp only [go_sem, Nat.reduceAdd, Nat.reduceSub, Nat.reduceMul, Nat.reduceLT, Nat.reduceLeDiff, Nat.reduceBEq, Nat.reduceEqDiff, Int.reduceLE, Int.reduceLT, Int.reduceNeg, Int.reduceAdd, Int.reduceSub, Int.reduceEq, Int.reduceMul, Int.reduceToNat, reduceIte, hd1, hd2]
      exact fin _
    · have hn : noneAt day l := ⟨by omega, h1, h2⟩
      have last : ∀ (F : Prop), F → F := fun _ h => h
      by_cases hd1 : 0 ≤ day
      · have hd2 : ¬ day ≤ 1048576 := fun h => hd ⟨hd1, h⟩
        simp only [go_sem, Nat.reduceAdd, Nat.reduceSub, Nat.reduceMul, Nat.reduceLT, Nat.reduceLeDiff, Nat.reduceBEq, Nat.reduceEqDiff, Int.reduceLE, Int.reduceLT, Int.reduceNeg, Int.reduceAdd, Int.reduceSub, Int.reduceEq, Int.reduceMul, Int.reduceToNat, reduceIte, hd1, hd2]
        refine ab_draw 15 (by kernel_rfl) (by kernel_rfl) (by kernel_rfl) ?_
        simp only [go_sem, Nat.reduceAdd, Nat.reduceSub, Nat.reduceMul, Nat.reduceLT, Nat.reduceLeDiff, Nat.reduceBEq, Nat.reduceEqDiff, Int.reduceLE, Int.reduceLT, Int.reduceNeg, Int.reduceAdd, Int.reduceSub, Int.reduceEq, Int.reduceMul, Int.reduceToNat, reduceIte]
        refine callq_pure (fun M => c_BookNone day purpose l M hn) ?_
        simp only [go_sem, Nat.reduceAdd, Nat.reduceSub, Nat.reduceMul, Nat.reduceLT, Nat.reduceLeDiff, Nat.reduceBEq, Nat.reduceEqDiff, Int.reduceLE, Int.reduceLT, Int.reduceNeg, Int.reduceAdd, Int.reduceSub, Int.reduceEq, Int.reduceMul, Int.reduceToNat, reduceIte]
        refine callq_pure (fun M => c_SameNone M) ?_
        simp only [go_sem, Nat.reduceAdd, Nat.reduceSub, Nat.reduceMul, Nat.reduceLT, Nat.reduceLeDiff, Nat.reduceBEq, Nat.reduceEqDiff, Int.reduceLE, Int.reduceLT, Int.reduceNeg, Int.reduceAdd, Int.reduceSub, Int.reduceEq, Int.reduceMul, Int.reduceToNat, reduceIte]
        refine callq_pure (fun M => c_FailNone day purpose l M hn) ?_
        simp only [go_sem, Nat.reduceAdd, Nat.reduceSub, Nat.reduceMul, Nat.reduceLT, Nat.reduceLeDiff, Nat.reduceBEq, Nat.reduceEqDiff, Int.reduceLE, Int.reduceLT, Int.reduceNeg, Int.reduceAdd, Int.reduceSub, Int.reduceEq, Int.reduceMul, Int.reduceToNat, reduceIte, List.length_nil]
        exact fin _
      · simp only [go_sem, Nat.reduceAdd, Nat.reduceSub, Nat.reduceMul, Nat.reduceLT, Nat.reduceLeDiff, Nat.reduceBEq, Nat.reduceEqDiff, Int.reduceLE, Int.reduceLT, Int.reduceNeg, Int.reduceAdd, Int.reduceSub, Int.reduceEq, Int.reduceMul, Int.reduceToNat, reduceIte, hd1]
        refine ab_draw 15 (by kernel_rfl) (by kernel_rfl) (by kernel_rfl) ?_
        simp only [go_sem, Nat.reduceAdd, Nat.reduceSub, Nat.reduceMul, Nat.reduceLT, Nat.reduceLeDiff, Nat.reduceBEq, Nat.reduceEqDiff, Int.reduceLE, Int.reduceLT, Int.reduceNeg, Int.reduceAdd, Int.reduceSub, Int.reduceEq, Int.reduceMul, Int.reduceToNat, reduceIte]
        refine callq_pure (fun M => c_BookNone day purpose l M hn) ?_
        simp only [go_sem, Nat.reduceAdd, Nat.reduceSub, Nat.reduceMul, Nat.reduceLT, Nat.reduceLeDiff, Nat.reduceBEq, Nat.reduceEqDiff, Int.reduceLE, Int.reduceLT, Int.reduceNeg, Int.reduceAdd, Int.reduceSub, Int.reduceEq, Int.reduceMul, Int.reduceToNat, reduceIte]
        refine callq_pure (fun M => c_SameNone M) ?_
        simp only [go_sem, Nat.reduceAdd, Nat.reduceSub, Nat.reduceMul, Nat.reduceLT, Nat.reduceLeDiff, Nat.reduceBEq, Nat.reduceEqDiff, Int.reduceLE, Int.reduceLT, Int.reduceNeg, Int.reduceAdd, Int.reduceSub, Int.reduceEq, Int.reduceMul, Int.reduceToNat, reduceIte]
        refine callq_pure (fun M => c_FailNone day purpose l M hn) ?_
        simp only [go_sem, Nat.reduceAdd, Nat.reduceSub, Nat.reduceMul, Nat.reduceLT, Nat.reduceLeDiff, Nat.reduceBEq, Nat.reduceEqDiff, Int.reduceLE, Int.reduceLT, Int.reduceNeg, Int.reduceAdd, Int.reduceSub, Int.reduceEq, Int.reduceMul, Int.reduceToNat, reduceIte, List.length_nil]
        exact fin _
end Go.Ab
