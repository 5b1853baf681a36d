/- K21 K22 K23 K24 -/
import Derived.Test.YtckjoghpknalcaaGreatDoorB5
import Derived.Test.YtckjoghpknalcaaGreatDoorA5
set_option linter.unusedVariables false
set_option linter.unusedSimpArgs false
set_option linter.unnecessarySimpa false
open Go
namespace Go.Ab
attribute [local go_sem] ents held Option.isSome_some Option.isSome_none Option.map_some Option.map_none List.length_map List.map_cons List.map_nil List.length_cons List.length_nil List.cons_append List.nil_append List.append_assoc true_and and_true true_or or_true eq_self decide_true decide_false Bool.not_true Bool.not_false not_true not_false Int.natCast_zero Nat.zero_add Bool.false_eq_true Bool.true_eq_false if_true if_false Bool.or_false Bool.or_true Bool.false_or Bool.true_or Bool.and_false Bool.false_and
set_option maxRecDepth 8000
set_option maxHeartbeats 4000000
set_option linter.unusedSimpArgs false
set_option linter.unusedVariables false
variable {GT : Globs}

/-! how many items -/
def itemsN : List GAct → Nat
  | [] => 0
  | a :: l => a.items.length + itemsN l
theorem itemsN_app : ∀ (l m : List GAct), itemsN (l ++ m) = itemsN l + itemsN m
  | [], m => by simp [itemsN]
  | a :: l, m => by simp only [List.cons_append, itemsN, itemsN_app l m]; omega
theorem itemsN_perm {l m : List GAct} (h : l.Perm m) : itemsN l = itemsN m := by
  induction h with
  | nil => rfl
  | cons x _ ih => simp only [itemsN, ih]
  | swap x y l => simp only [itemsN]; omega
  | trans _ _ h1 h2 => exact h1.trans h2
theorem itemsN_once : ∀ (l s : List GAct), itemsN (l.foldl once s) ≤ itemsN s + itemsN l
  | [], s => by simp [itemsN]
  | a :: l, s => by
    have h1 := itemsN_once l (once s a)
    have h2 : itemsN (once s a) ≤ itemsN s + a.items.length := by
      unfold once
      split
      · omega
      · rw [itemsN_app]; simp [itemsN]
    simp only [List.foldl_cons, itemsN]; omega
theorem itemsN_dedup (l : List GAct) : itemsN (dedup l) ≤ itemsN l := by have := itemsN_once l []; simpa [itemsN, dedup] using this
theorem itemsN_mem : ∀ {l : List GAct} {a : GAct}, a ∈ l → a.items.length ≤ itemsN l
  | b :: l, a, h => by
    simp only [itemsN]
    rcases List.mem_cons.1 h with rfl | h
    · omega
    · have := itemsN_mem h; omega

def fixD (c : Corr) (d : GDeed) : GDeed := match getC (d.act, d.item) c with
  | some x => if 0 ≤ d.it.kind ∧ d.it.kind ≤ 6 then { d with it := x } else d
  | none => d
def enactedOf (c : Corr) (ac : List GAct) : List GDeed := ac.flatMap fun a => (actItems a).map (fixD c)
def enacted (ac : List GAct) : List GDeed := enactedOf (corrOf ac) ac
theorem enactedOf_take {c : Corr} {ac : List GAct} {i : Nat} (h : i < ac.length) : enactedOf c (ac.take (i + 1)) = enactedOf c (ac.take i) ++ (actItems ac[i]).map (fixD c) := by
  unfold enactedOf
  rw [List.take_succ_eq_append_getElem h, List.flatMap_append]; simp
theorem actItems_len (a : GAct) : (actItems a).length = a.items.length := by simp [actItems]
theorem enactedOf_len (c : Corr) : ∀ ac : List GAct, (enactedOf c ac).length = itemsN ac
  | [] => rfl
  | a :: l => by
    have := enactedOf_len c l
    unfold enactedOf at *
    rw [List.flatMap_cons, List.length_append, this, List.length_map, actItems_len]; rfl
theorem itemsN_prefix {ac : List GAct} {i : Nat} (h : i < ac.length) : itemsN (ac.take i) + ac[i].items.length ≤ itemsN ac := by
  have e : ac = ac.take i ++ ac[i] :: ac.drop (i + 1) := by rw [← List.drop_eq_getElem_cons h, List.take_append_drop]
  have e2 : itemsN ac = itemsN (ac.take i) + (ac[i].items.length + itemsN (ac.drop (i + 1))) := by
    conv => lhs; rw [e]
    rw [itemsN_app]; rfl
  omega

theorem c_enacted (l : List GGaz) (H : List AObj) (hcap : (l.flatMap (·.acts)).length ≤ 1073741823) (hcap2 : itemsN (l.flatMap (·.acts)) ≤ 1073741823) :
    ACalls Go.Proofs.Tryz.prog GT 44 [.d (.list (l.map encGaz))] H fun v H' => (∃ ac, ActsOf l ac ∧ v = .d (.list ((enacted ac).map encDeed))) ∧ H' = H := by
  refine acalls_pure (fn := Go.Proofs.Tryz.f44) (c := _) 55 [.tmp 2] (by kernel_rfl) rfl (by kernel_rfl) rfl rfl (by simp) ?_
  simp only [go_sem, Nat.reduceAdd, Nat.reduceSub, Nat.reduceMul, Nat.reduceLT, Nat.reduceLeDiff, Nat.reduceBEq, Nat.reduceEqDiff, Int.reduceLE, Int.reduceLT, Int.reduceNeg, Int.reduceAdd, Int.reduceSub, Int.reduceEq, Int.reduceMul, Int.reduceToNat, reduceIte]
  refine (c_Acts l _ hcap).mono ?_
  rintro _ H2 ⟨⟨ac, hac, rfl⟩, hH⟩
  rw [hH]
  have hn : itemsN ac ≤ 1073741823 := by rw [itemsN_perm hac]; exact Nat.le_trans (itemsN_dedup _) hcap2
  have hal : ac.length ≤ 1073741823 := by rw [hac.length_eq]; exact Nat.le_trans (dedup_len _) hcap
  have hal2 : ac.length ≤ 9223372036854775807 := by omega
  simp only [go_sem, Nat.reduceAdd, Nat.reduceSub, Nat.reduceMul, Nat.reduceLT, Nat.reduceLeDiff, Nat.reduceBEq, Nat.reduceEqDiff, Int.reduceLE, Int.reduceLT, Int.reduceNeg, Int.reduceAdd, Int.reduceSub, Int.reduceEq, Int.reduceMul, Int.reduceToNat, reduceIte]
  refine (c_corrections ac _).mono ?_
  rintro _ _ ⟨rfl, rfl⟩
  have hE : enacted ac = enactedOf (corrOf ac) ac := rfl
  generalize corrOf ac = C at hE
  simp only [go_sem, Nat.reduceAdd, Nat.reduceSub, Nat.reduceMul, Nat.reduceLT, Nat.reduceLeDiff, Nat.reduceBEq, Nat.reduceEqDiff, Int.reduceLE, Int.reduceLT, Int.reduceNeg, Int.reduceAdd, Int.reduceSub, Int.reduceEq, Int.reduceMul, Int.reduceToNat, reduceIte, hal2]
  refine ab_loopV (ι := {i : Nat // i ≤ ac.length}) ⟨E 55 [(3, .ref (H.length + 1) 0 0 0 none), (5, .mp H.length), (16, .d (.list (ac.map encAct))), (17, .d (.int .i64 ac.length)), (18, .d (.int .i64 0))], H ++ [.map (corrM C), .row 28 0 false []]⟩
    (fun i => ⟨E 55 [(3, .ref (H.length + 1) (enactedOf C (ac.take i.1)).length 0 (enactedOf C (ac.take i.1)).length none), (5, .mp H.length), (16, .d (.list (ac.map encAct))), (17, .d (.int .i64 ac.length)), (18, .d (.int .i64 (i.1 : Int)))],
      H ++ [AObj.map (corrM C), AObj.row 28 (enactedOf C (ac.take i.1)).length false ((enactedOf C (ac.take i.1)).map fun x => AV.d (encDeed x))]⟩) (fun i => ac.length - i.1) ⟨0, Nat.zero_le _⟩ ?_ ?_ ?_
  · refine drop_V1 28 (by omega) (by simp) ?_
    simp only [heldV, go_sem, Nat.reduceAdd, Nat.reduceSub, Nat.reduceMul, Nat.reduceLT, Nat.reduceLeDiff, Nat.reduceBEq, Nat.reduceEqDiff, Int.reduceLE, Int.reduceLT, Int.reduceNeg, Int.reduceAdd, Int.reduceSub, Int.reduceEq, Int.reduceMul, Int.reduceToNat, reduceIte]
    exact .inr ⟨0, by omega, rfl⟩
  · refine drop_E ?_
    simp only [go_sem, Nat.reduceAdd, Nat.reduceSub, Nat.reduceMul, Nat.reduceLT, Nat.reduceLeDiff, Nat.reduceBEq, Nat.reduceEqDiff, Int.reduceLE, Int.reduceLT, Int.reduceNeg, Int.reduceAdd, Int.reduceSub, Int.reduceEq, Int.reduceMul, Int.reduceToNat, reduceIte]
    rfl
  rintro ⟨i, hi⟩
  simp only [go_sem, Nat.reduceAdd, Nat.reduceSub, Nat.reduceMul, Nat.reduceLT, Nat.reduceLeDiff, Nat.reduceBEq, Nat.reduceEqDiff, Int.reduceLE, Int.reduceLT, Int.reduceNeg, Int.reduceAdd, Int.reduceSub, Int.reduceEq, Int.reduceMul, Int.reduceToNat, reduceIte]
  refine ⟨fun h1 => ?_, fun h1 => ?_⟩
  · have hlt : i < ac.length := by omega
    have hil := itemsN_mem (List.getElem_mem hlt)
    have hnext := enactedOf_take (c := C) hlt
    have hpre := itemsN_prefix hlt
    have hDl := enactedOf_len C (ac.take i)
    simp only [go_sem, Nat.reduceAdd, Nat.reduceSub, Nat.reduceMul, Nat.reduceLT, Nat.reduceLeDiff, Nat.reduceBEq, Nat.reduceEqDiff, Int.reduceLE, Int.reduceLT, Int.reduceNeg, Int.reduceAdd, Int.reduceSub, Int.reduceEq, Int.reduceMul, Int.reduceToNat, reduceIte, getEnc encAct hlt]
    refine (c_actItems ac[i] _ (by omega)).mono ?_
    rintro _ H3 ⟨rfl, hH3⟩
    rw [hH3]
    have hail := actItems_len ac[i]
    have hail2 : (actItems ac[i]).length ≤ 9223372036854775807 := by omega
    simp only [go_sem, Nat.reduceAdd, Nat.reduceSub, Nat.reduceMul, Nat.reduceLT, Nat.reduceLeDiff, Nat.reduceBEq, Nat.reduceEqDiff, Int.reduceLE, Int.reduceLT, Int.reduceNeg, Int.reduceAdd, Int.reduceSub, Int.reduceEq, Int.reduceMul, Int.reduceToNat, reduceIte, hail2]
    generalize enactedOf C (ac.take i) = D at hnext hDl
    generalize hI : actItems ac[i] = I at hnext hail hail2
    obtain ⟨acc, hacc⟩ : ∃ acc : Nat → List GDeed, ∀ j, acc j = D ++ (I.take j).map (fixD C) := ⟨_, fun _ => rfl⟩
    have hacc0 : acc 0 = D := by rw [hacc]; simp
    have haccE : acc I.length = enactedOf C (ac.take (i + 1)) := by rw [hacc, List.take_length, hnext]
    refine ab_loop (ι := {j : Nat // j ≤ I.length}) (fun j => ⟨E 55 [(3, .ref (H.length + 1) (acc j.1).length 0 (acc j.1).length none), (5, .mp H.length), (16, .d (.list (ac.map encAct))), (17, .d (.int .i64 ac.length)), (18, .d (.int .i64 (i : Int))), (23, .d (.list (I.map encDeed))), (24, .d (.int .i64 I.length)), (25, .d (.int .i64 (j.1 : Int)))],
      H ++ [AObj.map (corrM C), AObj.row 28 (acc j.1).length false ((acc j.1).map fun x => AV.d (encDeed x)), AObj.row 7 0 false [AV.d (encAct (ac[i]))]]⟩) (fun j => I.length - j.1) ⟨0, Nat.zero_le _⟩ ?_ ?_
    · simp only [hacc0]
      refine drop_E ?_
      simp only [go_sem, Nat.reduceAdd, Nat.reduceSub, Nat.reduceMul, Nat.reduceLT, Nat.reduceLeDiff, Nat.reduceBEq, Nat.reduceEqDiff, Int.reduceLE, Int.reduceLT, Int.reduceNeg, Int.reduceAdd, Int.reduceSub, Int.reduceEq, Int.reduceMul, Int.reduceToNat, reduceIte]
    rintro ⟨j, hj⟩
    simp only [go_sem, Nat.reduceAdd, Nat.reduceSub, Nat.reduceMul, Nat.reduceLT, Nat.reduceLeDiff, Nat.reduceBEq, Nat.reduceEqDiff, Int.reduceLE, Int.reduceLT, Int.reduceNeg, Int.reduceAdd, Int.reduceSub, Int.reduceEq, Int.reduceMul, Int.reduceToNat, reduceIte]
    refine ⟨fun h3 => ?_, fun h3 => ?_⟩
    · have hltj : j < I.length := by omega
      have hS : acc (j + 1) = acc j ++ [fixD C I[j]] := by rw [hacc, hacc, List.take_succ_eq_append_getElem hltj, List.map_append, List.append_assoc]; rfl
      have hSl : (acc j).length ≤ 1073741823 := by rw [hacc]; simp; omega
      have hA1 : ((acc j).length + 1) * 392 ≤ 140737488355328 := by omega
      have hA2 : (acc j).length + 1 ≤ 140737488355328 := by omega
      have hfc := find_corr (I[j].act, I[j].item) C
      simp only [go_sem, Nat.reduceAdd, Nat.reduceSub, Nat.reduceMul, Nat.reduceLT, Nat.reduceLeDiff, Nat.reduceBEq, Nat.reduceEqDiff, Int.reduceLE, Int.reduceLT, Int.reduceNeg, Int.reduceAdd, Int.reduceSub, Int.reduceEq, Int.reduceMul, Int.reduceToNat, reduceIte, getEnc encDeed hltj]
      cases hgc : getC (I[j].act, I[j].item) C with
      | none =>
        rw [hgc] at hfc
        simp only [go_sem, Nat.reduceAdd, Nat.reduceSub, Nat.reduceMul, Nat.reduceLT, Nat.reduceLeDiff, Nat.reduceBEq, Nat.reduceEqDiff, Int.reduceLE, Int.reduceLT, Int.reduceNeg, Int.reduceAdd, Int.reduceSub, Int.reduceEq, Int.reduceMul, Int.reduceToNat, reduceIte, keyD_def, key_place, hfc]
        refine bsl_one (by simp only [go_sem, Nat.reduceAdd, Nat.reduceSub, Nat.reduceMul, Nat.reduceLT, Nat.reduceLeDiff, Nat.reduceBEq, Nat.reduceEqDiff, Int.reduceLE, Int.reduceLT, Int.reduceNeg, Int.reduceAdd, Int.reduceSub, Int.reduceEq, Int.reduceMul, Int.reduceToNat, reduceIte]) (by simp only [go_sem, Nat.reduceAdd, Nat.reduceSub, Nat.reduceMul, Nat.reduceLT, Nat.reduceLeDiff, Nat.reduceBEq, Nat.reduceEqDiff, Int.reduceLE, Int.reduceLT, Int.reduceNeg, Int.reduceAdd, Int.reduceSub, Int.reduceEq, Int.reduceMul, Int.reduceToNat, reduceIte]) (by simp only [go_sem, Nat.reduceAdd, Nat.reduceSub, Nat.reduceMul, Nat.reduceLT, Nat.reduceLeDiff, Nat.reduceBEq, Nat.reduceEqDiff, Int.reduceLE, Int.reduceLT, Int.reduceNeg, Int.reduceAdd, Int.reduceSub, Int.reduceEq, Int.reduceMul, Int.reduceToNat, reduceIte]) ?_
        simp only [go_sem, Nat.reduceAdd, Nat.reduceSub, Nat.reduceMul, Nat.reduceLT, Nat.reduceLeDiff, Nat.reduceBEq, Nat.reduceEqDiff, Int.reduceLE, Int.reduceLT, Int.reduceNeg, Int.reduceAdd, Int.reduceSub, Int.reduceEq, Int.reduceMul, Int.reduceToNat, reduceIte, hA1, hA2, wrap_succ j (by omega)]
        have hfx : fixD C I[j] = I[j] := by
          unfold fixD
          rw [hgc]

        have e1 : ((acc j).map (fun x => AV.d (encDeed x)) ++ [AV.d (encDeed (I[j]))]) = (acc (j + 1)).map fun x => AV.d (encDeed x) := by rw [hS, hfx]; simp
        have e2 : (acc j).length + 1 = (acc (j + 1)).length := by rw [hS]; simp
        rw [e1, e2]
        refine ⟨⟨j + 1, hltj⟩, by simp only; omega, drop_own rfl (keeps_own rfl ?_) ?_⟩
        · intro o ho
          simp only [List.mem_cons, List.not_mem_nil, or_false] at ho
          rcases ho with rfl | rfl | rfl
          · exact clo_corr _ _
          · exact clo_data ..
          · rfl
        · simp only [held2, cloA, go_sem, Nat.reduceAdd, Nat.reduceSub, Nat.reduceMul, Nat.reduceLT, Nat.reduceLeDiff, Nat.reduceBEq, Nat.reduceEqDiff, Int.reduceLE, Int.reduceLT, Int.reduceNeg, Int.reduceAdd, Int.reduceSub, Int.reduceEq, Int.reduceMul, Int.reduceToNat, reduceIte]
      | some x =>
        rw [hgc] at hfc
        simp only [go_sem, Nat.reduceAdd, Nat.reduceSub, Nat.reduceMul, Nat.reduceLT, Nat.reduceLeDiff, Nat.reduceBEq, Nat.reduceEqDiff, Int.reduceLE, Int.reduceLT, Int.reduceNeg, Int.reduceAdd, Int.reduceSub, Int.reduceEq, Int.reduceMul, Int.reduceToNat, reduceIte, keyD_def, key_place, hfc]
        refine (c_isAm _ _).mono ?_
        rintro _ H6 ⟨rfl, hH6⟩
        rw [hH6]
        cases h6 : decide (0 ≤ I[j].it.kind ∧ I[j].it.kind ≤ 6) with
        | true =>
          simp only [go_sem, Nat.reduceAdd, Nat.reduceSub, Nat.reduceMul, Nat.reduceLT, Nat.reduceLeDiff, Nat.reduceBEq, Nat.reduceEqDiff, Int.reduceLE, Int.reduceLT, Int.reduceNeg, Int.reduceAdd, Int.reduceSub, Int.reduceEq, Int.reduceMul, Int.reduceToNat, reduceIte]
          refine bsl_one (by simp only [go_sem, Nat.reduceAdd, Nat.reduceSub, Nat.reduceMul, Nat.reduceLT, Nat.reduceLeDiff, Nat.reduceBEq, Nat.reduceEqDiff, Int.reduceLE, Int.reduceLT, Int.reduceNeg, Int.reduceAdd, Int.reduceSub, Int.reduceEq, Int.reduceMul, Int.reduceToNat, reduceIte]) (by simp only [go_sem, Nat.reduceAdd, Nat.reduceSub, Nat.reduceMul, Nat.reduceLT, Nat.reduceLeDiff, Nat.reduceBEq, Nat.reduceEqDiff, Int.reduceLE, Int.reduceLT, Int.reduceNeg, Int.reduceAdd, Int.reduceSub, Int.reduceEq, Int.reduceMul, Int.reduceToNat, reduceIte]) (by simp only [go_sem, Nat.reduceAdd, Nat.reduceSub, Nat.reduceMul, Nat.reduceLT, Nat.reduceLeDiff, Nat.reduceBEq, Nat.reduceEqDiff, Int.reduceLE, Int.reduceLT, Int.reduceNeg, Int.reduceAdd, Int.reduceSub, Int.reduceEq, Int.reduceMul, Int.reduceToNat, reduceIte]) ?_
          simp only [go_sem, Nat.reduceAdd, Nat.reduceSub, Nat.reduceMul, Nat.reduceLT, Nat.reduceLeDiff, Nat.reduceBEq, Nat.reduceEqDiff, Int.reduceLE, Int.reduceLT, Int.reduceNeg, Int.reduceAdd, Int.reduceSub, Int.reduceEq, Int.reduceMul, Int.reduceToNat, reduceIte, hA1, hA2, wrap_succ j (by omega)]
          have hfx : fixD C I[j] = { I[j] with it := x } := by
            unfold fixD
            rw [hgc]
            simp only; rw [if_pos (by simpa using h6)]
          have e1 : ((acc j).map (fun x => AV.d (encDeed x)) ++ [AV.d (encDeed ({ I[j] with it := x }))]) = (acc (j + 1)).map fun x => AV.d (encDeed x) := by rw [hS, hfx]; simp
          have e2 : (acc j).length + 1 = (acc (j + 1)).length := by rw [hS]; simp
          rw [e1, e2]
          refine ⟨⟨j + 1, hltj⟩, by simp only; omega, drop_own rfl (keeps_own rfl ?_) ?_⟩
          · intro o ho
            simp only [List.mem_cons, List.not_mem_nil, or_false] at ho
            rcases ho with rfl | rfl | rfl
            · exact clo_corr _ _
            · exact clo_data ..
            · rfl
          · simp only [held2, cloA, go_sem, Nat.reduceAdd, Nat.reduceSub, Nat.reduceMul, Nat.reduceLT, Nat.reduceLeDiff, Nat.reduceBEq, Nat.reduceEqDiff, Int.reduceLE, Int.reduceLT, Int.reduceNeg, Int.reduceAdd, Int.reduceSub, Int.reduceEq, Int.reduceMul, Int.reduceToNat, reduceIte]
        | false =>
          simp only [go_sem, Nat.reduceAdd, Nat.reduceSub, Nat.reduceMul, Nat.reduceLT, Nat.reduceLeDiff, Nat.reduceBEq, Nat.reduceEqDiff, Int.reduceLE, Int.reduceLT, Int.reduceNeg, Int.reduceAdd, Int.reduceSub, Int.reduceEq, Int.reduceMul, Int.reduceToNat, reduceIte]
          refine bsl_one (by simp only [go_sem, Nat.reduceAdd, Nat.reduceSub, Nat.reduceMul, Nat.reduceLT, Nat.reduceLeDiff, Nat.reduceBEq, Nat.reduceEqDiff, Int.reduceLE, Int.reduceLT, Int.reduceNeg, Int.reduceAdd, Int.reduceSub, Int.reduceEq, Int.reduceMul, Int.reduceToNat, reduceIte]) (by simp only [go_sem, Nat.reduceAdd, Nat.reduceSub, Nat.reduceMul, Nat.reduceLT, Nat.reduceLeDiff, Nat.reduceBEq, Nat.reduceEqDiff, Int.reduceLE, Int.reduceLT, Int.reduceNeg, Int.reduceAdd, Int.reduceSub, Int.reduceEq, Int.reduceMul, Int.reduceToNat, reduceIte]) (by simp only [go_sem, Nat.reduceAdd, Nat.reduceSub, Nat.reduceMul, Nat.reduceLT, Nat.reduceLeDiff, Nat.reduceBEq, Nat.reduceEqDiff, Int.reduceLE, Int.reduceLT, Int.reduceNeg, Int.reduceAdd, Int.reduceSub, Int.reduceEq, Int.reduceMul, Int.reduceToNat, reduceIte]) ?_
          simp only [go_sem, Nat.reduceAdd, Nat.reduceSub, Nat.reduceMul, Nat.reduceLT, Nat.reduceLeDiff, Nat.reduceBEq, Nat.reduceEqDiff, Int.reduceLE, Int.reduceLT, Int.reduceNeg, Int.reduceAdd, Int.reduceSub, Int.reduceEq, Int.reduceMul, Int.reduceToNat, reduceIte, hA1, hA2, wrap_succ j (by omega)]
          have hfx : fixD C I[j] = I[j] := by
            unfold fixD
            rw [hgc]
            simp only; rw [if_neg (by simpa using h6)]
          have e1 : ((acc j).map (fun x => AV.d (encDeed x)) ++ [AV.d (encDeed (I[j]))]) = (acc (j + 1)).map fun x => AV.d (encDeed x) := by rw [hS, hfx]; simp
          have e2 : (acc j).length + 1 = (acc (j + 1)).length := by rw [hS]; simp
          rw [e1, e2]
          refine ⟨⟨j + 1, hltj⟩, by simp only; omega, drop_own rfl (keeps_own rfl ?_) ?_⟩
          · intro o ho
            simp only [List.mem_cons, List.not_mem_nil, or_false] at ho
            rcases ho with rfl | rfl | rfl
            · exact clo_corr _ _
            · exact clo_data ..
            · rfl
          · simp only [held2, cloA, go_sem, Nat.reduceAdd, Nat.reduceSub, Nat.reduceMul, Nat.reduceLT, Nat.reduceLeDiff, Nat.reduceBEq, Nat.reduceEqDiff, Int.reduceLE, Int.reduceLT, Int.reduceNeg, Int.reduceAdd, Int.reduceSub, Int.reduceEq, Int.reduceMul, Int.reduceToNat, reduceIte]
    · have hje : j = I.length := by omega
      subst hje
      simp only [go_sem, Nat.reduceAdd, Nat.reduceSub, Nat.reduceMul, Nat.reduceLT, Nat.reduceLeDiff, Nat.reduceBEq, Nat.reduceEqDiff, Int.reduceLE, Int.reduceLT, Int.reduceNeg, Int.reduceAdd, Int.reduceSub, Int.reduceEq, Int.reduceMul, Int.reduceToNat, reduceIte, wrap_succ i (by omega), haccE]
      refine ⟨⟨i + 1, hlt⟩, by simp only; omega, ?_⟩
      refine drop_own rfl (keeps_own rfl ?_) ?_
      · intro o ho
        simp only [List.mem_cons, List.not_mem_nil, or_false] at ho
        rcases ho with rfl | rfl
        · exact clo_corr _ _
        · exact clo_data ..
      · simp only [held2, cloA, go_sem, Nat.reduceAdd, Nat.reduceSub, Nat.reduceMul, Nat.reduceLT, Nat.reduceLeDiff, Nat.reduceBEq, Nat.reduceEqDiff, Int.reduceLE, Int.reduceLT, Int.reduceNeg, Int.reduceAdd, Int.reduceSub, Int.reduceEq, Int.reduceMul, Int.reduceToNat, reduceIte]
  · rw [take_end h1]
    simp only [go_sem, Nat.reduceAdd, Nat.reduceSub, Nat.reduceMul, Nat.reduceLT, Nat.reduceLeDiff, Nat.reduceBEq, Nat.reduceEqDiff, Int.reduceLE, Int.reduceLT, Int.reduceNeg, Int.reduceAdd, Int.reduceSub, Int.reduceEq, Int.reduceMul, Int.reduceToNat, reduceIte]
    refine pureK_row (k := 1) (R := enactedOf C ac) rfl ⟨ac, hac, ?_⟩
    rw [hE, List.take_length]
end Go.Ab

open Go
namespace Go.Ab
attribute [local go_sem] ents held Option.isSome_some Option.isSome_none Option.map_some Option.map_none List.length_map List.map_cons List.map_nil List.length_cons List.length_nil List.cons_append List.nil_append List.append_assoc true_and and_true true_or or_true eq_self decide_true decide_false Bool.not_true Bool.not_false not_true not_false Int.natCast_zero Nat.zero_add Bool.false_eq_true Bool.true_eq_false if_true if_false Bool.or_false Bool.or_true Bool.false_or Bool.true_or Bool.and_false Bool.false_and
set_option maxRecDepth 8000
set_option maxHeartbeats 4000000
set_option linter.unusedSimpArgs false
set_option linter.unusedVariables false
variable {GT : Globs}

/-! what counts on a day for a purpose -/
abbrev outD (H : List AObj) (b0 b1 : Nat) (s : List GDeed) : List AObj := outG 28 encDeed H b0 b1 s
def counts (day : Int) (purpose : ByteArray) (d : GDeed) (days : List GSpan) : Bool := (decide (d.it.for_ = ⟨#[]⟩) || decide (d.it.for_ = purpose)) && contains days day

theorem c_on1 (H L : List AObj) (b0 b1 bp bd : Nat) (h0 : b0 < H.length) (h1 : b1 < H.length) (hne : b0 ≠ b1) (hp0 : bp ≠ b0) (hp1 : bp ≠ b1) (hd0 : bd ≠ b0) (hd1 : bd ≠ b1) (day : Int) (purpose : ByteArray)
    (hgp : hget H bp = some (.row 1 0 false [.d (.str purpose)])) (hgd : hget H bd = some (.row 1 0 false [.d (.int .i64 day)])) (s : List GDeed) (hs : s.length ≤ 1073741824) (d : GDeed) (days : List GSpan) (hdays : days.length ≤ 1048577) :
    ACalls Go.Proofs.Tryz.prog GT 33 [.d (encDeed d), .d (.list (days.map encSpan)), .ptr bp 0 0 0, .ptr bd 0 0 0, .ptr b0 0 0 0] (outD H b0 b1 s ++ L) fun v H' => v = .tup [] ∧ H' = outD H b0 b1 (if counts day purpose d days then s ++ [d] else s) ++ L := by
  have hlp : bp < H.length := lt_of_get hgp
  have hld : bd < H.length := lt_of_get hgd
  have hc0 : b0 < (outD H b0 b1 s ++ L).length := by simp [outG_len]; omega
  have hc1 : b1 < (outD H b0 b1 s ++ L).length := by simp [outG_len]; omega
  have hcp : bp < (outD H b0 b1 s ++ L).length := by simp [outG_len]; omega
  have hcd : bd < (outD H b0 b1 s ++ L).length := by simp [outG_len]; omega
  have hg0 : hget (outD H b0 b1 s ++ L) b0 = some (.row 1 0 false [.ref b1 s.length 0 s.length none]) := by rw [hget_low _ _ (by rw [outG_len]; exact h0), outG_0 h0]
  have hg1 : hget (outD H b0 b1 s ++ L) b1 = some (.row 28 s.length false (s.map fun x => .d (encDeed x))) := by rw [hget_low _ _ (by rw [outG_len]; exact h1), outG_1 h1 hne]
  have hgp' : hget (outD H b0 b1 s ++ L) bp = some (.row 1 0 false [.d (.str purpose)]) := by rw [hget_low _ _ (by rw [outG_len]; exact hlp)]; unfold hget at *; rw [outG_2 hp0 hp1]; exact hgp
  have hgd' : hget (outD H b0 b1 s ++ L) bd = some (.row 1 0 false [.d (.int .i64 day)]) := by rw [hget_low _ _ (by rw [outG_len]; exact hld)]; unfold hget at *; rw [outG_2 hd0 hd1]; exact hgd
  have hstep : hset (hset (outD H b0 b1 s ++ L) b1 (.row 28 (s.length + 1) false ((s.map fun x => AV.d (encDeed x)) ++ [.d (encDeed d)]))) b0 (.row 1 0 false [.ref b1 (s.length + 1) 0 (s.length + 1) none]) = outD H b0 b1 (s ++ [d]) ++ L := by
    have e := outG_set (z := 28) (f := encDeed) (H := H) (l := s) (l' := s ++ [d]) hne
    simp only [List.length_append, List.length_cons, List.length_nil, Nat.zero_add, List.map_append, List.map_cons, List.map_nil] at e
    rw [hset_low _ _ _ (by rw [outG_len]; exact h1), hset_low _ _ _ (by simp [hset, outG_len]; exact h0), e]
  have hkeep : Keeps (outD H b0 b1 s ++ L) (outD H b0 b1 (s ++ [d]) ++ L) := by
    refine ⟨by simp [outG_len], fun b o hb => ?_⟩
    rcases Nat.lt_or_ge b H.length with hlt | hge
    · have := (keeps_outG (z := 28) (f := encDeed) (l := s) (l' := s ++ [d]) (L := []) (L' := []) h0 h1 hne rfl (by simp)).2 b o (by rw [List.append_nil]; rw [List.getElem?_append_left (by rw [outG_len]; exact hlt)] at hb; exact hb)
      rcases this with h | h
      · left
        rw [List.append_nil] at h
        rw [List.getElem?_append_left (by rw [outG_len]; exact hlt)]; exact h
      · right
        refine cloO_mono ?_ h
        simp
    · left
      rw [List.getElem?_append_right (by rw [outG_len]; exact hge), outG_len] at hb ⊢
      exact hb
  generalize hHH : outD H b0 b1 s ++ L = HH at *
  have no : counts day purpose d days = false → turnK HH (fun v H' => v = .tup [] ∧ H' = outD H b0 b1 (if counts day purpose d days then s ++ [d] else s) ++ L) (.tup []) (HH ++ [.row 28 0 false [.d (encDeed d)]]) := by
    intro h
    rw [h]
    exact turnK_unit (Keeps.refl _) ⟨rfl, hHH.symm⟩
  have hA1 : (s.length + 1) * 392 ≤ 140737488355328 := by omega
  have hA2 : s.length + 1 ≤ 140737488355328 := by omega
  have hc0' : b0 < (hset HH b1 (.row 28 (s.length + 1) false ((s.map fun x => AV.d (encDeed x)) ++ [.d (encDeed d)]))).length := by simpa [hset] using hc0
  have hc1' : b1 < (hset HH b1 (.row 28 (s.length + 1) false ((s.map fun x => AV.d (encDeed x)) ++ [.d (encDeed d)]))).length := by simpa [hset] using hc1
  have hg0' : hget (hset HH b1 (.row 28 (s.length + 1) false ((s.map fun x => AV.d (encDeed x)) ++ [.d (encDeed d)]))) b0 = some (.row 1 0 false [.ref b1 s.length 0 s.length none]) := by
    unfold hget hset; rw [List.getElem?_set_ne (fun e => hne e.symm)]; exact hg0
  have hg1' : hget (hset HH b1 (.row 28 (s.length + 1) false ((s.map fun x => AV.d (encDeed x)) ++ [.d (encDeed d)]))) b1 = some (.row 28 (s.length + 1) false ((s.map fun x => AV.d (encDeed x)) ++ [.d (encDeed d)])) := by
    unfold hget hset; rw [List.getElem?_set_self hc1]
  refine acalls_turn (fn := Go.Proofs.Tryz.f33) (c := _) 27 [] (by kernel_rfl) rfl (by kernel_rfl) rfl rfl (by simp) ?_
  simp only [go_sem, Nat.reduceAdd, Nat.reduceSub, Nat.reduceMul, Nat.reduceLT, Nat.reduceLeDiff, Nat.reduceBEq, Nat.reduceEqDiff, Int.reduceLE, Int.reduceLT, Int.reduceNeg, Int.reduceAdd, Int.reduceSub, Int.reduceEq, Int.reduceMul, Int.reduceToNat, reduceIte]
  refine ⟨fun h2 => ?_, fun h2 => ?_⟩
  · simp only [go_sem, Nat.reduceAdd, Nat.reduceSub, Nat.reduceMul, Nat.reduceLT, Nat.reduceLeDiff, Nat.reduceBEq, Nat.reduceEqDiff, Int.reduceLE, Int.reduceLT, Int.reduceNeg, Int.reduceAdd, Int.reduceSub, Int.reduceEq, Int.reduceMul, Int.reduceToNat, reduceIte, h2, hget_low _ _ hcd, hgd']
    refine (c_contains _ _ _ (by omega)).mono ?_
    rintro _ H6 ⟨rfl, hH6⟩
    rw [hH6]
    cases hcn : contains days day with
    | false =>
      simp only [go_sem, Nat.reduceAdd, Nat.reduceSub, Nat.reduceMul, Nat.reduceLT, Nat.reduceLeDiff, Nat.reduceBEq, Nat.reduceEqDiff, Int.reduceLE, Int.reduceLT, Int.reduceNeg, Int.reduceAdd, Int.reduceSub, Int.reduceEq, Int.reduceMul, Int.reduceToNat, reduceIte, h2]
      exact no (by simp [counts, hcn])
    | true =>
      have hct : counts day purpose d days = true := by simp [counts, hcn, h2]
      rw [hct]
      simp only [go_sem, Nat.reduceAdd, Nat.reduceSub, Nat.reduceMul, Nat.reduceLT, Nat.reduceLeDiff, Nat.reduceBEq, Nat.reduceEqDiff, Int.reduceLE, Int.reduceLT, Int.reduceNeg, Int.reduceAdd, Int.reduceSub, Int.reduceEq, Int.reduceMul, Int.reduceToNat, reduceIte, h2, hget_low _ _ hc0, hg0]
      refine bsl_one (by simp only [go_sem, Nat.reduceAdd, Nat.reduceSub, Nat.reduceMul, Nat.reduceLT, Nat.reduceLeDiff, Nat.reduceBEq, Nat.reduceEqDiff, Int.reduceLE, Int.reduceLT, Int.reduceNeg, Int.reduceAdd, Int.reduceSub, Int.reduceEq, Int.reduceMul, Int.reduceToNat, reduceIte]) (by simp only [go_sem, Nat.reduceAdd, Nat.reduceSub, Nat.reduceMul, Nat.reduceLT, Nat.reduceLeDiff, Nat.reduceBEq, Nat.reduceEqDiff, Int.reduceLE, Int.reduceLT, Int.reduceNeg, Int.reduceAdd, Int.reduceSub, Int.reduceEq, Int.reduceMul, Int.reduceToNat, reduceIte]) (by simp only [go_sem, Nat.reduceAdd, Nat.reduceSub, Nat.reduceMul, Nat.reduceLT, Nat.reduceLeDiff, Nat.reduceBEq, Nat.reduceEqDiff, Int.reduceLE, Int.reduceLT, Int.reduceNeg, Int.reduceAdd, Int.reduceSub, Int.reduceEq, Int.reduceMul, Int.reduceToNat, reduceIte]) ?_
      simp only [go_sem, Nat.reduceAdd, Nat.reduceSub, Nat.reduceMul, Nat.reduceLT, Nat.reduceLeDiff, Nat.reduceBEq, Nat.reduceEqDiff, Int.reduceLE, Int.reduceLT, Int.reduceNeg, Int.reduceAdd, Int.reduceSub, Int.reduceEq, Int.reduceMul, Int.reduceToNat, reduceIte, hA1, hA2, hget_low _ _ hc1, hg1, hset_low _ _ _ hc1, hget_low _ _ hc0', hg0', hg1', hset_low _ _ _ hc0', hget_low _ _ hc1']
      rw [hstep]
      exact turnK_unit hkeep ⟨rfl, rfl⟩
  · simp only [go_sem, Nat.reduceAdd, Nat.reduceSub, Nat.reduceMul, Nat.reduceLT, Nat.reduceLeDiff, Nat.reduceBEq, Nat.reduceEqDiff, Int.reduceLE, Int.reduceLT, Int.reduceNeg, Int.reduceAdd, Int.reduceSub, Int.reduceEq, Int.reduceMul, Int.reduceToNat, reduceIte, h2, hget_low _ _ hcp, hgp']
    refine ⟨fun h3 => ?_, fun h3 => ?_⟩
    · simp only [go_sem, Nat.reduceAdd, Nat.reduceSub, Nat.reduceMul, Nat.reduceLT, Nat.reduceLeDiff, Nat.reduceBEq, Nat.reduceEqDiff, Int.reduceLE, Int.reduceLT, Int.reduceNeg, Int.reduceAdd, Int.reduceSub, Int.reduceEq, Int.reduceMul, Int.reduceToNat, reduceIte, h2, h3, hget_low _ _ hcd, hgd']
      refine (c_contains _ _ _ (by omega)).mono ?_
      rintro _ H6 ⟨rfl, hH6⟩
      rw [hH6]
      cases hcn : contains days day with
      | false =>
        simp only [go_sem, Nat.reduceAdd, Nat.reduceSub, Nat.reduceMul, Nat.reduceLT, Nat.reduceLeDiff, Nat.reduceBEq, Nat.reduceEqDiff, Int.reduceLE, Int.reduceLT, Int.reduceNeg, Int.reduceAdd, Int.reduceSub, Int.reduceEq, Int.reduceMul, Int.reduceToNat, reduceIte, h2, h3]
        exact no (by simp [counts, hcn])
      | true =>
        have hct : counts day purpose d days = true := by simp [counts, hcn, h3]
        rw [hct]
        simp only [go_sem, Nat.reduceAdd, Nat.reduceSub, Nat.reduceMul, Nat.reduceLT, Nat.reduceLeDiff, Nat.reduceBEq, Nat.reduceEqDiff, Int.reduceLE, Int.reduceLT, Int.reduceNeg, Int.reduceAdd, Int.reduceSub, Int.reduceEq, Int.reduceMul, Int.reduceToNat, reduceIte, h2, h3, hget_low _ _ hc0, hg0]
        refine bsl_one (by simp only [go_sem, Nat.reduceAdd, Nat.reduceSub, Nat.reduceMul, Nat.reduceLT, Nat.reduceLeDiff, Nat.reduceBEq, Nat.reduceEqDiff, Int.reduceLE, Int.reduceLT, Int.reduceNeg, Int.reduceAdd, Int.reduceSub, Int.reduceEq, Int.reduceMul, Int.reduceToNat, reduceIte]) (by simp only [go_sem, Nat.reduceAdd, Nat.reduceSub, Nat.reduceMul, Nat.reduceLT, Nat.reduceLeDiff, Nat.reduceBEq, Nat.reduceEqDiff, Int.reduceLE, Int.reduceLT, Int.reduceNeg, Int.reduceAdd, Int.reduceSub, Int.reduceEq, Int.reduceMul, Int.reduceToNat, reduceIte]) (by simp only [go_sem, Nat.reduceAdd, Nat.reduceSub, Nat.reduceMul, Nat.reduceLT, Nat.reduceLeDiff, Nat.reduceBEq, Nat.reduceEqDiff, Int.reduceLE, Int.reduceLT, Int.reduceNeg, Int.reduceAdd, Int.reduceSub, Int.reduceEq, Int.reduceMul, Int.reduceToNat, reduceIte]) ?_
        simp only [go_sem, Nat.reduceAdd, Nat.reduceSub, Nat.reduceMul, Nat.reduceLT, Nat.reduceLeDiff, Nat.reduceBEq, Nat.reduceEqDiff, Int.reduceLE, Int.reduceLT, Int.reduceNeg, Int.reduceAdd, Int.reduceSub, Int.reduceEq, Int.reduceMul, Int.reduceToNat, reduceIte, hA1, hA2, hget_low _ _ hc1, hg1, hset_low _ _ _ hc1, hget_low _ _ hc0', hg0', hg1', hset_low _ _ _ hc0', hget_low _ _ hc1']
        rw [hstep]
        exact turnK_unit hkeep ⟨rfl, rfl⟩
    · simp only [go_sem, Nat.reduceAdd, Nat.reduceSub, Nat.reduceMul, Nat.reduceLT, Nat.reduceLeDiff, Nat.reduceBEq, Nat.reduceEqDiff, Int.reduceLE, Int.reduceLT, Int.reduceNeg, Int.reduceAdd, Int.reduceSub, Int.reduceEq, Int.reduceMul, Int.reduceToNat, reduceIte, h2, h3]
      exact no (by simp [counts, h2, h3])
end Go.Ab

open Go
namespace Go.Ab
attribute [local go_sem] ents held Option.isSome_some Option.isSome_none Option.map_some Option.map_none List.length_map List.map_cons List.map_nil List.length_cons List.length_nil List.cons_append List.nil_append List.append_assoc true_and and_true true_or or_true eq_self decide_true decide_false Bool.not_true Bool.not_false not_true not_false Int.natCast_zero Nat.zero_add Bool.false_eq_true Bool.true_eq_false if_true if_false Bool.or_false Bool.or_true Bool.false_or Bool.true_or Bool.and_false Bool.false_and
set_option maxRecDepth 8000
set_option maxHeartbeats 4000000
set_option linter.unusedSimpArgs false
set_option linter.unusedVariables false
variable {GT : Globs}

/-! the starts of acts -/
abbrev Starts := List (Int × GStart)
def setS (k : Int) (v : GStart) : Starts → Starts
  | [] => [(k, v)]
  | (k', u) :: r => if k = k' then (k, v) :: r else (k', u) :: setS k v r
def getS (k : Int) : Starts → Option GStart
  | [] => none
  | (k', u) :: r => if k = k' then some u else getS k r
def startsM (c : Starts) : List (D × AV) := c.map fun p => (.int .i64 p.1, .d (encStart p.2))
theorem find_start (k : Int) : ∀ c : Starts, findE Go.Proofs.Tryz.prog 3 (.int .i64 k) (startsM c) = some ((getS k c).map fun x => .d (encStart x))
  | [] => rfl
  | (k', u) :: r => by
    have ih := find_start k r
    unfold startsM at *
    rw [List.map_cons, findE_cons, eqD_int, ih]
    simp only [getS]
    by_cases h : k = k'
    · simp [h, fnd]
    · simp [h, fnd]
theorem set_start (k : Int) (v : GStart) : ∀ c : Starts, setE Go.Proofs.Tryz.prog 3 (.int .i64 k) (.d (encStart v)) (startsM c) = some (startsM (setS k v c))
  | [] => rfl
  | (k', u) :: r => by
    have ih := set_start k v r
    unfold startsM at *
    rw [List.map_cons, setE_cons, eqD_int, ih]
    simp only [setS]
    by_cases h : k = k'
    · subst h; simp [sst, sameD, sameS]
    · simp [h, sst]
theorem clo_start (n : Nat) (c : Starts) : cloO n (.map (startsM c)) = true := by simp [cloO, startsM, cloA]
def start0 : GStart := ⟨0, 0, ⟨#[]⟩⟩
theorem start0_def : D.agg [.int .i64 0, .int .i64 0, .str ⟨#[]⟩] = encStart start0 := rfl
def startsOf (ac : List GAct) : Starts := ac.foldl (fun c a => setS a.number a.start c) []
def startAt (k : Int) (c : Starts) : GStart := (getS k c).getD start0
def amends (d : GDeed) : Bool := decide (0 ≤ d.it.kind ∧ d.it.kind ≤ 6)
def onStep (day : Int) (purpose : ByteArray) (c : Starts) (all : List GDeed) (s : List GDeed) (d : GDeed) : List GDeed :=
  if amends d then if counts day purpose d (inForceD (startAt d.act c) d all) then s ++ [d] else s else s
def onD (day : Int) (purpose : ByteArray) (c : Starts) (all : List GDeed) : List GDeed := all.foldl (onStep day purpose c all) []
theorem onStep_len (day : Int) (purpose : ByteArray) (c : Starts) (all : List GDeed) : ∀ (l s : List GDeed), (l.foldl (onStep day purpose c all) s).length ≤ s.length + l.length
  | [], s => by simp
  | d :: l, s => by
    have := onStep_len day purpose c all l (onStep day purpose c all s d)
    have h2 : (onStep day purpose c all s d).length ≤ s.length + 1 := by
      unfold onStep; split
      · split
        · simp
        · omega
      · omega
    simp only [List.foldl_cons, List.length_cons]; omega
theorem inForceD_bound (a : GStart) (d : GDeed) (l : List GDeed) : (inForceD a d l).length ≤ 1048577 := by
  unfold inForceD
  split
  · simp
  · exact days_bound d l _ (initialD_bound _ _)

theorem c_changes (H : List AObj) (b0 b1 bp bd : Nat) (h0 : b0 < H.length) (h1 : b1 < H.length) (hne : b0 ≠ b1) (hp0 : bp ≠ b0) (hp1 : bp ≠ b1) (hd0 : bd ≠ b0) (hd1 : bd ≠ b1) (day : Int) (purpose : ByteArray)
    (hgp : hget H bp = some (.row 1 0 false [.d (.str purpose)])) (hgd : hget H bd = some (.row 1 0 false [.d (.int .i64 day)])) (l : List GGaz) (hcap : (l.flatMap (·.acts)).length ≤ 1073741823) (hcap2 : itemsN (l.flatMap (·.acts)) ≤ 1073741823) :
    ACalls Go.Proofs.Tryz.prog GT 32 [.d (.list (l.map encGaz)), .fn 33 [] [.ptr bp 0 0 0, .ptr bd 0 0 0, .ptr b0 0 0 0]] (outD H b0 b1 []) fun v H' => v = .tup [] ∧ ∃ ac ac2, ActsOf l ac ∧ ActsOf l ac2 ∧ H' = outD H b0 b1 (onD day purpose (startsOf ac) (enacted ac2)) := by
  have hlp : bp < H.length := lt_of_get hgp
  have hld : bd < H.length := lt_of_get hgd
  refine acalls_turn (fn := Go.Proofs.Tryz.f32) (c := _) 47 [] (by kernel_rfl) rfl (by kernel_rfl) rfl rfl (by simp) ?_
  simp only [go_sem, Nat.reduceAdd, Nat.reduceSub, Nat.reduceMul, Nat.reduceLT, Nat.reduceLeDiff, Nat.reduceBEq, Nat.reduceEqDiff, Int.reduceLE, Int.reduceLT, Int.reduceNeg, Int.reduceAdd, Int.reduceSub, Int.reduceEq, Int.reduceMul, Int.reduceToNat, reduceIte, outG_len, hget_outG, hget_outG0, hset_outG, hset_outG0]
  refine (c_Acts l _ hcap).mono ?_
  rintro _ H2 ⟨⟨ac, hac, rfl⟩, hH⟩
  rw [hH]
  have hal : ac.length ≤ 1073741823 := by rw [hac.length_eq]; exact Nat.le_trans (dedup_len _) hcap
  have hal2 : ac.length ≤ 9223372036854775807 := by omega
  simp only [go_sem, Nat.reduceAdd, Nat.reduceSub, Nat.reduceMul, Nat.reduceLT, Nat.reduceLeDiff, Nat.reduceBEq, Nat.reduceEqDiff, Int.reduceLE, Int.reduceLT, Int.reduceNeg, Int.reduceAdd, Int.reduceSub, Int.reduceEq, Int.reduceMul, Int.reduceToNat, reduceIte, outG_len, hget_outG, hget_outG0, hset_outG, hset_outG0, hal2]
  refine ab_loop (ι := {i : Nat // i ≤ ac.length}) (fun i => ⟨E 47 [(0, .d (.list (l.map encGaz))), (1, .fn 33 [] [.ptr bp 0 0 0, .ptr bd 0 0 0, .ptr b0 0 0 0]), (4, .mp H.length), (12, .d (.list (ac.map encAct))), (13, .d (.int .i64 ac.length)), (14, .d (.int .i64 (i.1 : Int)))],
    outD H b0 b1 [] ++ [AObj.map (startsM (startsOf (ac.take i.1)))]⟩) (fun i => ac.length - i.1) ⟨0, Nat.zero_le _⟩ (drop_E ?_) ?_
  · simp only [go_sem, Nat.reduceAdd, Nat.reduceSub, Nat.reduceMul, Nat.reduceLT, Nat.reduceLeDiff, Nat.reduceBEq, Nat.reduceEqDiff, Int.reduceLE, Int.reduceLT, Int.reduceNeg, Int.reduceAdd, Int.reduceSub, Int.reduceEq, Int.reduceMul, Int.reduceToNat, reduceIte]
  rintro ⟨i, hi⟩
  simp only [go_sem, Nat.reduceAdd, Nat.reduceSub, Nat.reduceMul, Nat.reduceLT, Nat.reduceLeDiff, Nat.reduceBEq, Nat.reduceEqDiff, Int.reduceLE, Int.reduceLT, Int.reduceNeg, Int.reduceAdd, Int.reduceSub, Int.reduceEq, Int.reduceMul, Int.reduceToNat, reduceIte]
  refine ⟨fun h2 => ?_, fun h2 => ?_⟩
  · have hlt : i < ac.length := by omega
    have hS : startsOf (ac.take (i + 1)) = setS ac[i].number ac[i].start (startsOf (ac.take i)) := by
      unfold startsOf; rw [List.take_succ_eq_append_getElem hlt, List.foldl_append]; rfl
    simp only [go_sem, Nat.reduceAdd, Nat.reduceSub, Nat.reduceMul, Nat.reduceLT, Nat.reduceLeDiff, Nat.reduceBEq, Nat.reduceEqDiff, Int.reduceLE, Int.reduceLT, Int.reduceNeg, Int.reduceAdd, Int.reduceSub, Int.reduceEq, Int.reduceMul, Int.reduceToNat, reduceIte, outG_len, hget_outG, hget_outG0, hset_outG, hset_outG0, getEnc encAct hlt, set_start, wrap_succ i (by omega)]
    refine ⟨⟨i + 1, hlt⟩, by simp only; omega, ?_⟩
    simp only [hS]
    refine drop_own rfl (keeps_outG h0 h1 hne rfl ?_) ?_
    · intro o ho
      simp only [List.mem_cons, List.not_mem_nil, or_false] at ho
      subst ho
      exact clo_start _ _
    · simp only [held2, cloA, go_sem, Nat.reduceAdd, Nat.reduceSub, Nat.reduceMul, Nat.reduceLT, Nat.reduceLeDiff, Nat.reduceBEq, Nat.reduceEqDiff, Int.reduceLE, Int.reduceLT, Int.reduceNeg, Int.reduceAdd, Int.reduceSub, Int.reduceEq, Int.reduceMul, Int.reduceToNat, reduceIte, outG_len]
      simp [cloL, cloA]; omega
  rw [take_end h2]
  simp only [go_sem, Nat.reduceAdd, Nat.reduceSub, Nat.reduceMul, Nat.reduceLT, Nat.reduceLeDiff, Nat.reduceBEq, Nat.reduceEqDiff, Int.reduceLE, Int.reduceLT, Int.reduceNeg, Int.reduceAdd, Int.reduceSub, Int.reduceEq, Int.reduceMul, Int.reduceToNat, reduceIte]
  refine (c_enacted l _ hcap hcap2).mono ?_
  rintro _ H3 ⟨⟨ac2, hac2, rfl⟩, hH3⟩
  rw [hH3]
  have hel : (enacted ac2).length ≤ 1073741823 := by
    have := enactedOf_len (corrOf ac2) ac2
    have h5 := itemsN_perm hac2
    have h6 := itemsN_dedup (l.flatMap (·.acts))
    unfold enacted; omega
  generalize hall : enacted ac2 = all at hel
  have hel2 : all.length ≤ 9223372036854775807 := by omega
  generalize hcs : startsOf ac = C
  simp only [go_sem, Nat.reduceAdd, Nat.reduceSub, Nat.reduceMul, Nat.reduceLT, Nat.reduceLeDiff, Nat.reduceBEq, Nat.reduceEqDiff, Int.reduceLE, Int.reduceLT, Int.reduceNeg, Int.reduceAdd, Int.reduceSub, Int.reduceEq, Int.reduceMul, Int.reduceToNat, reduceIte, outG_len, hget_outG, hget_outG0, hset_outG, hset_outG0, hel2]
  refine ab_loop (ι := {i : Nat // i ≤ all.length}) (fun i => ⟨E 47 [(1, .fn 33 [] [.ptr bp 0 0 0, .ptr bd 0 0 0, .ptr b0 0 0 0]), (4, .mp H.length), (7, .d (.list (all.map encDeed))), (26, .d (.list (all.map encDeed))), (27, .d (.int .i64 all.length)), (28, .d (.int .i64 (i.1 : Int)))],
    outD H b0 b1 ((all.take i.1).foldl (onStep day purpose C all) []) ++ [AObj.map (startsM C)]⟩) (fun i => all.length - i.1) ⟨0, Nat.zero_le _⟩ (drop_E ?_) ?_
  · simp only [go_sem, Nat.reduceAdd, Nat.reduceSub, Nat.reduceMul, Nat.reduceLT, Nat.reduceLeDiff, Nat.reduceBEq, Nat.reduceEqDiff, Int.reduceLE, Int.reduceLT, Int.reduceNeg, Int.reduceAdd, Int.reduceSub, Int.reduceEq, Int.reduceMul, Int.reduceToNat, reduceIte]
    try rfl
  rintro ⟨i, hi⟩
  simp only [go_sem, Nat.reduceAdd, Nat.reduceSub, Nat.reduceMul, Nat.reduceLT, Nat.reduceLeDiff, Nat.reduceBEq, Nat.reduceEqDiff, Int.reduceLE, Int.reduceLT, Int.reduceNeg, Int.reduceAdd, Int.reduceSub, Int.reduceEq, Int.reduceMul, Int.reduceToNat, reduceIte]
  refine ⟨fun h3 => ?_, fun h3 => ?_⟩
  · have hlt : i < all.length := by omega
    have hS : (all.take (i + 1)).foldl (onStep day purpose C all) [] = onStep day purpose C all ((all.take i).foldl (onStep day purpose C all) []) all[i] := by rw [List.take_succ_eq_append_getElem hlt, List.foldl_append]; rfl
    have hSl := onStep_len day purpose C all (all.take i) []
    rw [List.length_take] at hSl
    simp only [List.length_nil, Nat.zero_add] at hSl
    have hSl2 : ((all.take i).foldl (onStep day purpose C all) []).length ≤ 1073741823 := by omega
    generalize (all.take i).foldl (onStep day purpose C all) [] = S at hS hSl2
    clear hSl
    simp only [go_sem, Nat.reduceAdd, Nat.reduceSub, Nat.reduceMul, Nat.reduceLT, Nat.reduceLeDiff, Nat.reduceBEq, Nat.reduceEqDiff, Int.reduceLE, Int.reduceLT, Int.reduceNeg, Int.reduceAdd, Int.reduceSub, Int.reduceEq, Int.reduceMul, Int.reduceToNat, reduceIte, outG_len, hget_outG, hget_outG0, hset_outG, hset_outG0, getEnc encDeed hlt]
    refine (c_isAm _ _).mono ?_
    rintro _ H4 ⟨rfl, hH4⟩
    rw [hH4]
    cases ham : decide (0 ≤ all[i].it.kind ∧ all[i].it.kind ≤ 6) with
    | false =>
      simp only [go_sem, Nat.reduceAdd, Nat.reduceSub, Nat.reduceMul, Nat.reduceLT, Nat.reduceLeDiff, Nat.reduceBEq, Nat.reduceEqDiff, Int.reduceLE, Int.reduceLT, Int.reduceNeg, Int.reduceAdd, Int.reduceSub, Int.reduceEq, Int.reduceMul, Int.reduceToNat, reduceIte, outG_len, hget_outG, hget_outG0, hset_outG, hset_outG0, wrap_succ i (by omega)]
      have hq : onStep day purpose C all S all[i] = S := by unfold onStep amends; rw [ham]; rfl
      refine ⟨⟨i + 1, hlt⟩, by simp only; omega, ?_⟩
      simp only [hS, hq]
      refine drop_own rfl (keeps_outG h0 h1 hne rfl ?_) ?_
      · intro o ho
        simp only [List.mem_cons, List.not_mem_nil, or_false] at ho
        subst ho
        exact clo_start _ _
      · simp only [held2, cloA, go_sem, Nat.reduceAdd, Nat.reduceSub, Nat.reduceMul, Nat.reduceLT, Nat.reduceLeDiff, Nat.reduceBEq, Nat.reduceEqDiff, Int.reduceLE, Int.reduceLT, Int.reduceNeg, Int.reduceAdd, Int.reduceSub, Int.reduceEq, Int.reduceMul, Int.reduceToNat, reduceIte, outG_len]
        simp [cloL, cloA]; omega
    | true =>
      simp only [go_sem, Nat.reduceAdd, Nat.reduceSub, Nat.reduceMul, Nat.reduceLT, Nat.reduceLeDiff, Nat.reduceBEq, Nat.reduceEqDiff, Int.reduceLE, Int.reduceLT, Int.reduceNeg, Int.reduceAdd, Int.reduceSub, Int.reduceEq, Int.reduceMul, Int.reduceToNat, reduceIte]
      refine ab_draw 9 (by kernel_rfl) (by kernel_rfl) (by kernel_rfl) ?_
      have hfs := find_start all[i].act C
      cases hgc : getS all[i].act C with
      | none =>
        rw [hgc] at hfs
        simp only [go_sem, Nat.reduceAdd, Nat.reduceSub, Nat.reduceMul, Nat.reduceLT, Nat.reduceLeDiff, Nat.reduceBEq, Nat.reduceEqDiff, Int.reduceLE, Int.reduceLT, Int.reduceNeg, Int.reduceAdd, Int.reduceSub, Int.reduceEq, Int.reduceMul, Int.reduceToNat, reduceIte, outG_len, hget_outG, hget_outG0, hset_outG, hset_outG0, hfs, start0_def]
        refine callq_pure (fun M => c_inForce _ _ _ M) ?_
        simp only [go_sem, Nat.reduceAdd, Nat.reduceSub, Nat.reduceMul, Nat.reduceLT, Nat.reduceLeDiff, Nat.reduceBEq, Nat.reduceEqDiff, Int.reduceLE, Int.reduceLT, Int.reduceNeg, Int.reduceAdd, Int.reduceSub, Int.reduceEq, Int.reduceMul, Int.reduceToNat, reduceIte, outG_len, hget_outG, hget_outG0, hset_outG, hset_outG0]
        refine (c_on1 H _ b0 b1 bp bd h0 h1 hne hp0 hp1 hd0 hd1 day purpose hgp hgd S (by omega) _ _ (inForceD_bound _ _ _)).mono ?_
        rintro _ _ ⟨rfl, rfl⟩
        have hq : onStep day purpose C all S all[i] = (if counts day purpose all[i] (inForceD (startAt all[i].act C) all[i] all) then S ++ [all[i]] else S) := by
          unfold onStep amends; rw [if_pos ham]
        unfold startAt at hq
        rw [hgc] at hq
        simp only [Option.getD_some, Option.getD_none] at hq
        rw [← hq]
        simp only [go_sem, Nat.reduceAdd, Nat.reduceSub, Nat.reduceMul, Nat.reduceLT, Nat.reduceLeDiff, Nat.reduceBEq, Nat.reduceEqDiff, Int.reduceLE, Int.reduceLT, Int.reduceNeg, Int.reduceAdd, Int.reduceSub, Int.reduceEq, Int.reduceMul, Int.reduceToNat, reduceIte, outG_len, hget_outG, hget_outG0, hset_outG, hset_outG0, wrap_succ i (by omega)]
        refine ⟨⟨i + 1, hlt⟩, by simp only; omega, ?_⟩
        simp only [hS]
        refine drop_own rfl (keeps_outG h0 h1 hne rfl ?_) ?_
        · intro o ho
          simp only [List.mem_cons, List.not_mem_nil, or_false] at ho
          subst ho
          exact clo_start _ _
        · simp only [held2, cloA, go_sem, Nat.reduceAdd, Nat.reduceSub, Nat.reduceMul, Nat.reduceLT, Nat.reduceLeDiff, Nat.reduceBEq, Nat.reduceEqDiff, Int.reduceLE, Int.reduceLT, Int.reduceNeg, Int.reduceAdd, Int.reduceSub, Int.reduceEq, Int.reduceMul, Int.reduceToNat, reduceIte, outG_len]
          simp [cloL, cloA]; omega
      | some st =>
        rw [hgc] at hfs
        simp only [go_sem, Nat.reduceAdd, Nat.reduceSub, Nat.reduceMul, Nat.reduceLT, Nat.reduceLeDiff, Nat.reduceBEq, Nat.reduceEqDiff, Int.reduceLE, Int.reduceLT, Int.reduceNeg, Int.reduceAdd, Int.reduceSub, Int.reduceEq, Int.reduceMul, Int.reduceToNat, reduceIte, outG_len, hget_outG, hget_outG0, hset_outG, hset_outG0, hfs]
        refine callq_pure (fun M => c_inForce _ _ _ M) ?_
        simp only [go_sem, Nat.reduceAdd, Nat.reduceSub, Nat.reduceMul, Nat.reduceLT, Nat.reduceLeDiff, Nat.reduceBEq, Nat.reduceEqDiff, Int.reduceLE, Int.reduceLT, Int.reduceNeg, Int.reduceAdd, Int.reduceSub, Int.reduceEq, Int.reduceMul, Int.reduceToNat, reduceIte, outG_len, hget_outG, hget_outG0, hset_outG, hset_outG0]
        refine (c_on1 H _ b0 b1 bp bd h0 h1 hne hp0 hp1 hd0 hd1 day purpose hgp hgd S (by omega) _ _ (inForceD_bound _ _ _)).mono ?_
        rintro _ _ ⟨rfl, rfl⟩
        have hq : onStep day purpose C all S all[i] = (if counts day purpose all[i] (inForceD (startAt all[i].act C) all[i] all) then S ++ [all[i]] else S) := by
          unfold onStep amends; rw [if_pos ham]
        unfold startAt at hq
        rw [hgc] at hq
        simp only [Option.getD_some, Option.getD_none] at hq
        rw [← hq]
        simp only [go_sem, Nat.reduceAdd, Nat.reduceSub, Nat.reduceMul, Nat.reduceLT, Nat.reduceLeDiff, Nat.reduceBEq, Nat.reduceEqDiff, Int.reduceLE, Int.reduceLT, Int.reduceNeg, Int.reduceAdd, Int.reduceSub, Int.reduceEq, Int.reduceMul, Int.reduceToNat, reduceIte, outG_len, hget_outG, hget_outG0, hset_outG, hset_outG0, wrap_succ i (by omega)]
        refine ⟨⟨i + 1, hlt⟩, by simp only; omega, ?_⟩
        simp only [hS]
        refine drop_own rfl (keeps_outG h0 h1 hne rfl ?_) ?_
        · intro o ho
          simp only [List.mem_cons, List.not_mem_nil, or_false] at ho
          subst ho
          exact clo_start _ _
        · simp only [held2, cloA, go_sem, Nat.reduceAdd, Nat.reduceSub, Nat.reduceMul, Nat.reduceLT, Nat.reduceLeDiff, Nat.reduceBEq, Nat.reduceEqDiff, Int.reduceLE, Int.reduceLT, Int.reduceNeg, Int.reduceAdd, Int.reduceSub, Int.reduceEq, Int.reduceMul, Int.reduceToNat, reduceIte, outG_len]
          simp [cloL, cloA]; omega
  · rw [take_end h3]
    simp only [go_sem, Nat.reduceAdd, Nat.reduceSub, Nat.reduceMul, Nat.reduceLT, Nat.reduceLeDiff, Nat.reduceBEq, Nat.reduceEqDiff, Int.reduceLE, Int.reduceLT, Int.reduceNeg, Int.reduceAdd, Int.reduceSub, Int.reduceEq, Int.reduceMul, Int.reduceToNat, reduceIte]
    have := turnK_unit (L := [AObj.map (startsM C)]) (R := fun v H' => v = .tup [] ∧ ∃ ac ac2, ActsOf l ac ∧ ActsOf l ac2 ∧ H' = outD H b0 b1 (onD day purpose (startsOf ac) (enacted ac2))) (keeps_outG (z := 28) (f := encDeed) (L := []) (L' := []) (l := []) (l' := all.foldl (onStep day purpose C all) []) h0 h1 hne rfl (by simp)) ⟨rfl, ac, ac2, hac, hac2, by rw [hall, hcs]; simp [onD]⟩
    simpa using this
end Go.Ab

open Go
namespace Go.Ab
attribute [local go_sem] ents held Option.isSome_some Option.isSome_none Option.map_some Option.map_none List.length_map List.map_cons List.map_nil List.length_cons List.length_nil List.cons_append List.nil_append List.append_assoc true_and and_true true_or or_true eq_self decide_true decide_false Bool.not_true Bool.not_false not_true not_false Int.natCast_zero Nat.zero_add Bool.false_eq_true Bool.true_eq_false if_true if_false Bool.or_false Bool.or_true Bool.false_or Bool.true_or Bool.and_false Bool.false_and
set_option maxRecDepth 8000
set_option maxHeartbeats 4000000
set_option linter.unusedSimpArgs false
set_option linter.unusedVariables false
variable {GT : Globs}

theorem c_On (day : Int) (purpose : ByteArray) (l : List GGaz) (H : List AObj) (hcap : (l.flatMap (·.acts)).length ≤ 1073741823) (hcap2 : itemsN (l.flatMap (·.acts)) ≤ 1073741823) :
    ACalls Go.Proofs.Tryz.prog GT 24 [.d (.int .i64 day), .d (.str purpose), .d (.list (l.map encGaz))] H fun v H' => (∃ ac ac2, ActsOf l ac ∧ ActsOf l ac2 ∧ v = .d (.list ((onD day purpose (startsOf ac) (enacted ac2)).map encDeed))) ∧ H' = H := by
  refine acalls_pure (fn := Go.Proofs.Tryz.f24) (c := _) 12 [.tmp 6] (by kernel_rfl) rfl (by kernel_rfl) rfl rfl (by simp) ?_
  simp only [go_sem, Nat.reduceAdd, Nat.reduceSub, Nat.reduceMul, Nat.reduceLT, Nat.reduceLeDiff, Nat.reduceBEq, Nat.reduceEqDiff, Int.reduceLE, Int.reduceLT, Int.reduceNeg, Int.reduceAdd, Int.reduceSub, Int.reduceEq, Int.reduceMul, Int.reduceToNat, reduceIte]
  refine al_virt' 28 (by simp) (by omega) ?_
  simp only [go_sem, Nat.reduceAdd, Nat.reduceSub, Nat.reduceMul, Nat.reduceLT, Nat.reduceLeDiff, Nat.reduceBEq, Nat.reduceEqDiff, Int.reduceLE, Int.reduceLT, Int.reduceNeg, Int.reduceAdd, Int.reduceSub, Int.reduceEq, Int.reduceMul, Int.reduceToNat, reduceIte]
  generalize hHH : H ++ [AObj.row 1 0 false [.d (.int .i64 day)], AObj.row 1 0 false [.d (.str purpose)], AObj.row 1 0 false [.ref (H.length + 3) 0 0 0 none], AObj.row 28 0 false []] = HH
  have hgd : hget HH H.length = some (.row 1 0 false [.d (.int .i64 day)]) := by rw [← hHH, hget_own0]; rfl
  have hgp : hget HH (H.length + 1) = some (.row 1 0 false [.d (.str purpose)]) := by rw [← hHH, hget_own]; rfl
  have hlen : HH.length = H.length + 4 := by rw [← hHH]; simp
  have e0 : HH = outD HH (H.length + 2) (H.length + 3) [] := by
    have h1 : hset HH (H.length + 3) (.row 28 0 false []) = HH := hset_id (by rw [← hHH, hget_own]; rfl)
    have h2 : hset HH (H.length + 2) (.row 1 0 false [.ref (H.length + 3) 0 0 0 none]) = HH := hset_id (by rw [← hHH, hget_own]; rfl)
    unfold outD outG
    simp only [List.length_nil, List.map_nil]
    rw [h1, h2]
  have hch := c_changes (GT := GT) HH (H.length + 2) (H.length + 3) (H.length + 1) H.length (by omega) (by omega) (by omega) (by omega) (by omega) (by omega) (by omega) day purpose hgp hgd l hcap hcap2
  rw [← e0] at hch
  refine hch.mono ?_
  rintro _ H2 ⟨rfl, ac, ac2, hac, hac2, hH2⟩
  generalize hD : onD day purpose (startsOf ac) (enacted ac2) = D at hH2
  have e1 : outD HH (H.length + 2) (H.length + 3) D = H ++ [AObj.row 1 0 false [.d (.int .i64 day)], AObj.row 1 0 false [.d (.str purpose)], AObj.row 1 0 false [.ref (H.length + 3) D.length 0 D.length none], AObj.row 28 D.length false (D.map fun x => .d (encDeed x))] := by
    unfold outD outG
    rw [← hHH, hset_own, hset_own]
    rfl
  rw [hH2, e1]
  simp only [go_sem, Nat.reduceAdd, Nat.reduceSub, Nat.reduceMul, Nat.reduceLT, Nat.reduceLeDiff, Nat.reduceBEq, Nat.reduceEqDiff, Int.reduceLE, Int.reduceLT, Int.reduceNeg, Int.reduceAdd, Int.reduceSub, Int.reduceEq, Int.reduceMul, Int.reduceToNat, reduceIte]
  refine pureK_row (k := 3) (R := D) rfl ⟨ac, ac2, hac, hac2, ?_⟩
  rw [hD, List.take_length]

/-! days that are none -/
theorem bs_all' (p : Nat → Bool) (n : Nat) (hp : ∀ h, h < n → p h = true) : ∀ (k i j : Nat), j - i ≤ k → i ≤ j → j ≤ n → bs p i j = j := by
  intro k
  induction k with
  | zero => intro i j h1 h2 h3; rw [bs, if_neg (by omega)]; omega
  | succ k ih =>
    intro i j h1 h2 h3
    rw [bs]
    by_cases h : i < j
    · rw [if_pos h, if_pos (hp _ (by omega))]; exact ih _ _ (by omega) (by omega) (by omega)
    · rw [if_neg h]; omega
theorem contains_invalid (l : List GSpan) (d : Int) (h : d < 0 ∨ 1048577 ≤ d) : contains l d = false := by
  have hn := norm_norm l
  unfold contains
  generalize norm l = N at hn
  have hok : ∀ (k : Nat) x, N[k]? = some x → okSpan x := fun k x hx => hn.1 x (List.mem_of_getElem? hx)
  rcases h with h | h
  · have hb : ∀ k, before N d k = false := by
      intro k
      unfold before
      cases hx : N[k]? with
      | none => rfl
      | some x => have := hok k x hx; unfold okSpan at this; simp; omega
    have hp : place N d = 0 := bs_none _ hb _ _ _ (Nat.le_refl _) (Nat.zero_le _)
    unfold hasD isAt
    rw [hp]
    simp only [Nat.lt_irrefl, decide_false, Bool.false_and, Bool.or_false]
    cases hx : N[0]? with
    | none => rfl
    | some x => have := hok 0 x hx; unfold okSpan at this; simp; omega
  · have hb : ∀ k, k < N.length → before N d k = true := by
      intro k hk
      unfold before
      rw [List.getElem?_eq_getElem hk]
      have := hok k _ (List.getElem?_eq_getElem hk); unfold okSpan at this; simp; omega
    have hp : place N d = N.length := bs_all' _ N.length hb _ _ _ (Nat.le_refl _) (Nat.zero_le _) (Nat.le_refl _)
    unfold hasD isAt
    rw [hp]
    have h0 : N[N.length]? = none := by simp
    rw [h0]
    simp only [Bool.false_or]
    cases hx : N[N.length - 1]? with
    | none => simp
    | some x => have := hok _ x hx; unfold okSpan at this; simp; omega
theorem onD_invalid (day : Int) (purpose : ByteArray) (c : Starts) (all : List GDeed) (h : day < 0 ∨ 1048577 ≤ day) : onD day purpose c all = [] := by
  unfold onD
  have : ∀ l : List GDeed, l.foldl (onStep day purpose c all) [] = [] := by
    intro l
    induction l with
    | nil => rfl
    | cons d l ih =>
      rw [List.foldl_cons]
      have hs : onStep day purpose c all [] d = [] := by
        unfold onStep counts
        rw [contains_invalid _ _ h]
        simp
      rw [hs]; exact ih
  exact this all
theorem onD_none (day : Int) (purpose : ByteArray) (c : Starts) : onD day purpose c [] = [] := rfl
theorem c_On_none (day : Int) (purpose : ByteArray) (l : List GGaz) (H : List AObj) (h : l = [] ∨ day < 0 ∨ 1048577 ≤ day) (hcap : (l.flatMap (·.acts)).length ≤ 1073741823) (hcap2 : itemsN (l.flatMap (·.acts)) ≤ 1073741823) :
    ACalls Go.Proofs.Tryz.prog GT 24 [.d (.int .i64 day), .d (.str purpose), .d (.list (l.map encGaz))] H fun v H' => v = .d (.list []) ∧ H' = H := by
  refine (c_On day purpose l H hcap hcap2).mono ?_
  rintro _ _ ⟨⟨ac, ac2, hac, hac2, rfl⟩, rfl⟩
  refine ⟨?_, rfl⟩
  rcases h with h | h
  · subst h
    have : ac2 = [] := by
      unfold ActsOf at hac2
      exact List.perm_nil.1 hac2
    subst this
    rfl
  · rw [onD_invalid _ _ _ _ h]; rfl
end Go.Ab
