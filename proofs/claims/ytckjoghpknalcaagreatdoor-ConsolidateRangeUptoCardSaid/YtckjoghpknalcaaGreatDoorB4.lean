/- K14 K15 K16 -/
import Derived.Test.YtckjoghpknalcaaGreatDoorK13
set_option linter.unusedVariables false
set_option linter.unusedSimpArgs false
set_option linter.unnecessarySimpa false
open Go
namespace Go.Ab
attribute [local go_sem] ents held Option.isSome_some Option.isSome_none Option.map_some Option.map_none List.length_map List.map_cons List.map_nil List.length_cons List.length_nil List.cons_append List.nil_append List.append_assoc true_and and_true true_or or_true eq_self decide_true decide_false Bool.not_true Bool.not_false not_true not_false Int.natCast_zero Nat.zero_add Bool.false_eq_true Bool.true_eq_false if_true if_false Bool.or_false Bool.or_true Bool.false_or Bool.true_or Bool.and_false Bool.false_and
set_option maxRecDepth 8000
set_option linter.unusedSimpArgs false
set_option linter.unusedVariables false
variable {GT : Globs}

def cmpAct (a b : GAct) : Int := orI [cmpI a.day b.day, cmpI a.number b.number]
theorem c_cmpAct (a b : GAct) (H : List AObj) : ACalls Go.Proofs.Tryz.prog GT 55 [.d (encAct a), .d (encAct b)] H fun v H' => v = .d (.int .i64 (cmpAct a b)) ∧ H' = H := by
  refine acalls_pure (fn := Go.Proofs.Tryz.f55) (c := _) 17 [.tmp 4] (by kernel_rfl) rfl (by kernel_rfl) rfl rfl (by simp) ?_
  simp only [go_sem, Nat.reduceAdd, Nat.reduceSub, Nat.reduceMul, Nat.reduceLT, Nat.reduceLeDiff, Nat.reduceBEq, Nat.reduceEqDiff, Int.reduceLE, Int.reduceLT, Int.reduceNeg, Int.reduceAdd, Int.reduceSub, Int.reduceEq, Int.reduceMul, Int.reduceToNat, reduceIte]
  refine ab_draw 10 (by kernel_rfl) (by kernel_rfl) (by kernel_rfl) ?_
  simp only [go_sem, Nat.reduceAdd, Nat.reduceSub, Nat.reduceMul, Nat.reduceLT, Nat.reduceLeDiff, Nat.reduceBEq, Nat.reduceEqDiff, Int.reduceLE, Int.reduceLT, Int.reduceNeg, Int.reduceAdd, Int.reduceSub, Int.reduceEq, Int.reduceMul, Int.reduceToNat, reduceIte]
  refine callq_pure (fun M => c_cmp _ _ M) ?_
  simp only [go_sem, Nat.reduceAdd, Nat.reduceSub, Nat.reduceMul, Nat.reduceLT, Nat.reduceLeDiff, Nat.reduceBEq, Nat.reduceEqDiff, Int.reduceLE, Int.reduceLT, Int.reduceNeg, Int.reduceAdd, Int.reduceSub, Int.reduceEq, Int.reduceMul, Int.reduceToNat, reduceIte]
  refine callq_pure (fun M => c_cmp _ _ M) ?_
  simp only [go_sem, Nat.reduceAdd, Nat.reduceSub, Nat.reduceMul, Nat.reduceLT, Nat.reduceLeDiff, Nat.reduceBEq, Nat.reduceEqDiff, Int.reduceLE, Int.reduceLT, Int.reduceNeg, Int.reduceAdd, Int.reduceSub, Int.reduceEq, Int.reduceMul, Int.reduceToNat, reduceIte]
  refine bsl_two (by simp only [go_sem, Nat.reduceAdd, Nat.reduceSub, Nat.reduceMul, Nat.reduceLT, Nat.reduceLeDiff, Nat.reduceBEq, Nat.reduceEqDiff, Int.reduceLE, Int.reduceLT, Int.reduceNeg, Int.reduceAdd, Int.reduceSub, Int.reduceEq, Int.reduceMul, Int.reduceToNat, reduceIte]) (by simp only [go_sem, Nat.reduceAdd, Nat.reduceSub, Nat.reduceMul, Nat.reduceLT, Nat.reduceLeDiff, Nat.reduceBEq, Nat.reduceEqDiff, Int.reduceLE, Int.reduceLT, Int.reduceNeg, Int.reduceAdd, Int.reduceSub, Int.reduceEq, Int.reduceMul, Int.reduceToNat, reduceIte]) (by simp only [go_sem, Nat.reduceAdd, Nat.reduceSub, Nat.reduceMul, Nat.reduceLT, Nat.reduceLeDiff, Nat.reduceBEq, Nat.reduceEqDiff, Int.reduceLE, Int.reduceLT, Int.reduceNeg, Int.reduceAdd, Int.reduceSub, Int.reduceEq, Int.reduceMul, Int.reduceToNat, reduceIte]) (by simp only [go_sem, Nat.reduceAdd, Nat.reduceSub, Nat.reduceMul, Nat.reduceLT, Nat.reduceLeDiff, Nat.reduceBEq, Nat.reduceEqDiff, Int.reduceLE, Int.reduceLT, Int.reduceNeg, Int.reduceAdd, Int.reduceSub, Int.reduceEq, Int.reduceMul, Int.reduceToNat, reduceIte]) ?_
  simp only [go_sem, Nat.reduceAdd, Nat.reduceSub, Nat.reduceMul, Nat.reduceLT, Nat.reduceLeDiff, Nat.reduceBEq, Nat.reduceEqDiff, Int.reduceLE, Int.reduceLT, Int.reduceNeg, Int.reduceAdd, Int.reduceSub, Int.reduceEq, Int.reduceMul, Int.reduceToNat, reduceIte]
  refine (c_or [cmpI a.day b.day, cmpI a.number b.number] _).mono ?_
  rintro _ _ ⟨rfl, rfl⟩
  simp only [go_sem, Nat.reduceAdd, Nat.reduceSub, Nat.reduceMul, Nat.reduceLT, Nat.reduceLeDiff, Nat.reduceBEq, Nat.reduceEqDiff, Int.reduceLE, Int.reduceLT, Int.reduceNeg, Int.reduceAdd, Int.reduceSub, Int.reduceEq, Int.reduceMul, Int.reduceToNat, reduceIte]
  exact pureK_d _ _ _ _ rfl

/-- a heap in which one row of acts is said anew -/
def hAct (H : List AObj) (b g : Nat) (l : List GAct) : List AObj := hset H b (.row 7 g false (l.map fun x => .d (encAct x)))
theorem hAct_get {H : List AObj} {b g : Nat} {l : List GAct} (h : b < H.length) : hget (hAct H b g l) b = some (.row 7 g false (l.map fun x => .d (encAct x))) := by
  unfold hAct hget hset; rw [List.getElem?_set_self h]
theorem hAct_set {H : List AObj} {b g : Nat} {l l' : List GAct} : hset (hAct H b g l) b (.row 7 g false (l'.map fun x => .d (encAct x))) = hAct H b g l' := by
  unfold hAct hset; rw [List.set_set]
theorem swap_perm {l : List GAct} {i j : Nat} (hi : i < l.length) (hj : j < l.length) : ((l.set i l[j]).set j l[i]).Perm l := List.set_set_perm hi hj

theorem c_insSort (H : List AObj) (b g n : Nat) (hb : b < H.length) (l : List GAct) (hn : n = l.length) (hs : l.length ≤ 4611686018427387904) (lo hi : Nat) (hlo : lo ≤ l.length) (hhi : hi ≤ l.length) :
    ACalls Go.Proofs.Tryz.prog GT 146 [.ref b g 0 n none, .d (.int .i64 lo), .d (.int .i64 hi), .d (.fn 55)] (hAct H b g l) fun v H' => v = .tup [] ∧ ∃ l', l'.Perm l ∧ H' = hAct H b g l' := by
  subst hn
  refine acalls_all (fn := Go.Proofs.Tryz.f146) (c := _) 53 [] (by kernel_rfl) rfl (by kernel_rfl) rfl rfl (by simp) ?_
  simp only [go_sem, Nat.reduceAdd, Nat.reduceSub, Nat.reduceMul, Nat.reduceLT, Nat.reduceLeDiff, Nat.reduceBEq, Nat.reduceEqDiff, Int.reduceLE, Int.reduceLT, Int.reduceNeg, Int.reduceAdd, Int.reduceSub, Int.reduceEq, Int.reduceMul, Int.reduceToNat, reduceIte, wrap_succ lo (by omega)]
  refine ab_loop (ι := {p : Nat × List GAct // lo + 1 ≤ p.1 ∧ p.1 ≤ l.length + 1 ∧ p.2.Perm l})
    (fun p => ⟨E 53 [(0, .ref b g 0 l.length none), (1, .d (.int .i64 lo)), (2, .d (.int .i64 hi)), (3, .d (.fn 55)), (8, .d (.int .i64 (p.1.1 : Int)))], hAct H b g p.1.2⟩) (fun p => l.length + 1 - p.1.1) ⟨(lo + 1, l), Nat.le_refl _, by omega, .refl _⟩ (drop_E ?_) ?_
  · simp only [go_sem, Nat.reduceAdd, Nat.reduceSub, Nat.reduceMul, Nat.reduceLT, Nat.reduceLeDiff, Nat.reduceBEq, Nat.reduceEqDiff, Int.reduceLE, Int.reduceLT, Int.reduceNeg, Int.reduceAdd, Int.reduceSub, Int.reduceEq, Int.reduceMul, Int.reduceToNat, reduceIte]
  rintro ⟨⟨i, l1⟩, hi1, hi2, hp1⟩
  simp only at hi1 hi2 hp1
  have hl1 := hp1.length_eq
  simp only [go_sem, Nat.reduceAdd, Nat.reduceSub, Nat.reduceMul, Nat.reduceLT, Nat.reduceLeDiff, Nat.reduceBEq, Nat.reduceEqDiff, Int.reduceLE, Int.reduceLT, Int.reduceNeg, Int.reduceAdd, Int.reduceSub, Int.reduceEq, Int.reduceMul, Int.reduceToNat, reduceIte]
  refine ⟨fun h1 => ?_, fun h1 => ?_⟩
  rotate_left
  · simp only [go_sem, Nat.reduceAdd, Nat.reduceSub, Nat.reduceMul, Nat.reduceLT, Nat.reduceLeDiff, Nat.reduceBEq, Nat.reduceEqDiff, Int.reduceLE, Int.reduceLT, Int.reduceNeg, Int.reduceAdd, Int.reduceSub, Int.reduceEq, Int.reduceMul, Int.reduceToNat, reduceIte]
    exact ⟨l1, hp1, rfl⟩
  simp only [go_sem, Nat.reduceAdd, Nat.reduceSub, Nat.reduceMul, Nat.reduceLT, Nat.reduceLeDiff, Nat.reduceBEq, Nat.reduceEqDiff, Int.reduceLE, Int.reduceLT, Int.reduceNeg, Int.reduceAdd, Int.reduceSub, Int.reduceEq, Int.reduceMul, Int.reduceToNat, reduceIte]
  refine ab_loop (ι := {p : Nat × List GAct // lo ≤ p.1 ∧ p.1 < l.length ∧ p.2.Perm l})
    (fun p => ⟨E 53 [(0, .ref b g 0 l.length none), (1, .d (.int .i64 lo)), (2, .d (.int .i64 hi)), (3, .d (.fn 55)), (8, .d (.int .i64 (i : Int))), (9, .d (.int .i64 (p.1.1 : Int)))], hAct H b g p.1.2⟩) (fun p => p.1.1) ⟨(i, l1), by omega, by omega, hp1⟩ (drop_E ?_) ?_
  · simp only [go_sem, Nat.reduceAdd, Nat.reduceSub, Nat.reduceMul, Nat.reduceLT, Nat.reduceLeDiff, Nat.reduceBEq, Nat.reduceEqDiff, Int.reduceLE, Int.reduceLT, Int.reduceNeg, Int.reduceAdd, Int.reduceSub, Int.reduceEq, Int.reduceMul, Int.reduceToNat, reduceIte]
  rintro ⟨⟨j, l2⟩, hj1, hj2, hp2⟩
  simp only at hj1 hj2 hp2
  have hl2 := hp2.length_eq
  simp only [go_sem, Nat.reduceAdd, Nat.reduceSub, Nat.reduceMul, Nat.reduceLT, Nat.reduceLeDiff, Nat.reduceBEq, Nat.reduceEqDiff, Int.reduceLE, Int.reduceLT, Int.reduceNeg, Int.reduceAdd, Int.reduceSub, Int.reduceEq, Int.reduceMul, Int.reduceToNat, reduceIte]
  refine ab_draw 17 (by kernel_rfl) (by kernel_rfl) (by kernel_rfl) ?_
  simp only [go_sem, Nat.reduceAdd, Nat.reduceSub, Nat.reduceMul, Nat.reduceLT, Nat.reduceLeDiff, Nat.reduceBEq, Nat.reduceEqDiff, Int.reduceLE, Int.reduceLT, Int.reduceNeg, Int.reduceAdd, Int.reduceSub, Int.reduceEq, Int.reduceMul, Int.reduceToNat, reduceIte]
  refine ⟨fun h2 => ?_, fun h2 => ?_⟩
  · have hj0 : 0 < j := by omega
    have hw : IntKind.i64.wrap ((j : Int) - 1) = ((j - 1 : Nat) : Int) := by rw [wrap_i64 _ (by omega) (by omega)]; omega
    have hjl : j < l2.length := by omega
    have hjm : j - 1 < l.length := by omega
    have hjm2 : j - 1 < l2.length := by omega
    simp only [go_sem, Nat.reduceAdd, Nat.reduceSub, Nat.reduceMul, Nat.reduceLT, Nat.reduceLeDiff, Nat.reduceBEq, Nat.reduceEqDiff, Int.reduceLE, Int.reduceLT, Int.reduceNeg, Int.reduceAdd, Int.reduceSub, Int.reduceEq, Int.reduceMul, Int.reduceToNat, reduceIte, h2, hw, hAct_get hb, hj2, hjm, get_data encAct hjl, get_data encAct hjm2]
    refine callq_pure (fun M => c_cmpAct _ _ M) ?_
    simp only [go_sem, Nat.reduceAdd, Nat.reduceSub, Nat.reduceMul, Nat.reduceLT, Nat.reduceLeDiff, Nat.reduceBEq, Nat.reduceEqDiff, Int.reduceLE, Int.reduceLT, Int.reduceNeg, Int.reduceAdd, Int.reduceSub, Int.reduceEq, Int.reduceMul, Int.reduceToNat, reduceIte, h2]
    refine ⟨fun h3 => ?_, fun h3 => ?_⟩
    · simp only [go_sem, Nat.reduceAdd, Nat.reduceSub, Nat.reduceMul, Nat.reduceLT, Nat.reduceLeDiff, Nat.reduceBEq, Nat.reduceEqDiff, Int.reduceLE, Int.reduceLT, Int.reduceNeg, Int.reduceAdd, Int.reduceSub, Int.reduceEq, Int.reduceMul, Int.reduceToNat, reduceIte, h3]
      refine ab_drawF [2, 3, 4] 14 (by kernel_rfl) (by kernel_rfl) (by kernel_rfl) (by kernel_rfl) (by kernel_rfl) ?_
      have hq : j - 1 < (l2.set j l2[j - 1]).length := by simp; omega
      simp only [go_sem, Nat.reduceAdd, Nat.reduceSub, Nat.reduceMul, Nat.reduceLT, Nat.reduceLeDiff, Nat.reduceBEq, Nat.reduceEqDiff, Int.reduceLE, Int.reduceLT, Int.reduceNeg, Int.reduceAdd, Int.reduceSub, Int.reduceEq, Int.reduceMul, Int.reduceToNat, reduceIte, hw, hAct_get hb, hj2, hjm, get_data encAct hjl, get_data encAct hjm2, set_data l2 encAct, hAct_set, get_data encAct hq, set_data (l2.set j l2[j - 1]) encAct]
      refine ⟨⟨(j - 1, (l2.set j l2[j - 1]).set (j - 1) l2[j]), by simp only; omega, by simp only; omega, (swap_perm hjl hjm2).trans hp2⟩, by simp only; omega, drop_E ?_⟩
      simp only [go_sem, Nat.reduceAdd, Nat.reduceSub, Nat.reduceMul, Nat.reduceLT, Nat.reduceLeDiff, Nat.reduceBEq, Nat.reduceEqDiff, Int.reduceLE, Int.reduceLT, Int.reduceNeg, Int.reduceAdd, Int.reduceSub, Int.reduceEq, Int.reduceMul, Int.reduceToNat, reduceIte]
    · simp only [go_sem, Nat.reduceAdd, Nat.reduceSub, Nat.reduceMul, Nat.reduceLT, Nat.reduceLeDiff, Nat.reduceBEq, Nat.reduceEqDiff, Int.reduceLE, Int.reduceLT, Int.reduceNeg, Int.reduceAdd, Int.reduceSub, Int.reduceEq, Int.reduceMul, Int.reduceToNat, reduceIte, h3, wrap_succ i (by omega)]
      refine ⟨⟨(i + 1, l2), by simp only; omega, by simp only; omega, hp2⟩, by simp only; omega, drop_E ?_⟩
      simp only [go_sem, Nat.reduceAdd, Nat.reduceSub, Nat.reduceMul, Nat.reduceLT, Nat.reduceLeDiff, Nat.reduceBEq, Nat.reduceEqDiff, Int.reduceLE, Int.reduceLT, Int.reduceNeg, Int.reduceAdd, Int.reduceSub, Int.reduceEq, Int.reduceMul, Int.reduceToNat, reduceIte]
  · simp only [go_sem, Nat.reduceAdd, Nat.reduceSub, Nat.reduceMul, Nat.reduceLT, Nat.reduceLeDiff, Nat.reduceBEq, Nat.reduceEqDiff, Int.reduceLE, Int.reduceLT, Int.reduceNeg, Int.reduceAdd, Int.reduceSub, Int.reduceEq, Int.reduceMul, Int.reduceToNat, reduceIte, h2, wrap_succ i (by omega)]
    refine ⟨⟨(i + 1, l2), by simp only; omega, by simp only; omega, hp2⟩, by simp only; omega, drop_E ?_⟩
    simp only [go_sem, Nat.reduceAdd, Nat.reduceSub, Nat.reduceMul, Nat.reduceLT, Nat.reduceLeDiff, Nat.reduceBEq, Nat.reduceEqDiff, Int.reduceLE, Int.reduceLT, Int.reduceNeg, Int.reduceAdd, Int.reduceSub, Int.reduceEq, Int.reduceMul, Int.reduceToNat, reduceIte]
end Go.Ab

open Go
namespace Go.Ab
attribute [local go_sem] ents held Option.isSome_some Option.isSome_none Option.map_some Option.map_none List.length_map List.map_cons List.map_nil List.length_cons List.length_nil List.cons_append List.nil_append List.append_assoc true_and and_true true_or or_true eq_self decide_true decide_false Bool.not_true Bool.not_false not_true not_false Int.natCast_zero Nat.zero_add Bool.false_eq_true Bool.true_eq_false if_true if_false Bool.or_false Bool.or_true Bool.false_or Bool.true_or Bool.and_false Bool.false_and
set_option maxRecDepth 8000
set_option maxHeartbeats 4000000
set_option linter.unusedSimpArgs false
set_option linter.unusedVariables false
variable {GT : Globs}

theorem c_swapRange (H : List AObj) (b g n : Nat) (hb : b < H.length) (l : List GAct) (hn : n = l.length) (hs : l.length ≤ 4611686018427387904) (x y k : Nat) (fv : AV) (hf : coe fv = fv) (hx : x + k ≤ l.length) (hy : y + k ≤ l.length) :
    ACalls Go.Proofs.Tryz.prog GT 234 [.ref b g 0 n none, .d (.int .i64 x), .d (.int .i64 y), .d (.int .i64 k), fv] (hAct H b g l) fun v H' => v = .tup [] ∧ ∃ l', l'.Perm l ∧ H' = hAct H b g l' := by
  subst hn
  refine acalls_all (fn := Go.Proofs.Tryz.f234) (c := _) 38 [] (by kernel_rfl) rfl (by kernel_rfl) rfl rfl (by simp) ?_
  simp only [go_sem, Nat.reduceAdd, Nat.reduceSub, Nat.reduceMul, Nat.reduceLT, Nat.reduceLeDiff, Nat.reduceBEq, Nat.reduceEqDiff, Int.reduceLE, Int.reduceLT, Int.reduceNeg, Int.reduceAdd, Int.reduceSub, Int.reduceEq, Int.reduceMul, Int.reduceToNat, reduceIte]
  refine ab_loop (ι := {p : Nat × List GAct // p.1 ≤ k ∧ p.2.Perm l})
    (fun p => ⟨E 38 [(0, .ref b g 0 l.length none), (1, .d (.int .i64 x)), (2, .d (.int .i64 y)), (3, .d (.int .i64 k)), (10, .d (.int .i64 (p.1.1 : Int)))], hAct H b g p.1.2⟩) (fun p => k - p.1.1) ⟨(0, l), Nat.zero_le _, .refl _⟩ (drop_E ?_) ?_
  · simp only [go_sem, Nat.reduceAdd, Nat.reduceSub, Nat.reduceMul, Nat.reduceLT, Nat.reduceLeDiff, Nat.reduceBEq, Nat.reduceEqDiff, Int.reduceLE, Int.reduceLT, Int.reduceNeg, Int.reduceAdd, Int.reduceSub, Int.reduceEq, Int.reduceMul, Int.reduceToNat, reduceIte]
  rintro ⟨⟨i, l1⟩, hi1, hp1⟩
  simp only at hi1 hp1
  have hl1 := hp1.length_eq
  simp only [go_sem, Nat.reduceAdd, Nat.reduceSub, Nat.reduceMul, Nat.reduceLT, Nat.reduceLeDiff, Nat.reduceBEq, Nat.reduceEqDiff, Int.reduceLE, Int.reduceLT, Int.reduceNeg, Int.reduceAdd, Int.reduceSub, Int.reduceEq, Int.reduceMul, Int.reduceToNat, reduceIte]
  refine ⟨fun h1 => ?_, fun h1 => ?_⟩
  rotate_left
  · simp only [go_sem, Nat.reduceAdd, Nat.reduceSub, Nat.reduceMul, Nat.reduceLT, Nat.reduceLeDiff, Nat.reduceBEq, Nat.reduceEqDiff, Int.reduceLE, Int.reduceLT, Int.reduceNeg, Int.reduceAdd, Int.reduceSub, Int.reduceEq, Int.reduceMul, Int.reduceToNat, reduceIte]
    exact ⟨l1, hp1, rfl⟩
  have hwx : IntKind.i64.wrap ((x : Int) + (i : Int)) = ((x + i : Nat) : Int) := by rw [wrap_i64 _ (by omega) (by omega)]; omega
  have hwy : IntKind.i64.wrap ((y : Int) + (i : Int)) = ((y + i : Nat) : Int) := by rw [wrap_i64 _ (by omega) (by omega)]; omega
  have hx1 : x + i < l.length := by omega
  have hy1 : y + i < l.length := by omega
  have hx2 : x + i < l1.length := by omega
  have hy2 : y + i < l1.length := by omega
  have hy3 : y + i < (l1.set (x + i) l1[y + i]).length := by simp; omega
  simp only [go_sem, Nat.reduceAdd, Nat.reduceSub, Nat.reduceMul, Nat.reduceLT, Nat.reduceLeDiff, Nat.reduceBEq, Nat.reduceEqDiff, Int.reduceLE, Int.reduceLT, Int.reduceNeg, Int.reduceAdd, Int.reduceSub, Int.reduceEq, Int.reduceMul, Int.reduceToNat, reduceIte]
  refine ab_drawF [4, 5, 6, 7] 20 (by kernel_rfl) (by kernel_rfl) (by kernel_rfl) (by kernel_rfl) (by kernel_rfl) ?_
  simp only [go_sem, Nat.reduceAdd, Nat.reduceSub, Nat.reduceMul, Nat.reduceLT, Nat.reduceLeDiff, Nat.reduceBEq, Nat.reduceEqDiff, Int.reduceLE, Int.reduceLT, Int.reduceNeg, Int.reduceAdd, Int.reduceSub, Int.reduceEq, Int.reduceMul, Int.reduceToNat, reduceIte, hwx, hwy, hAct_get hb, hx1, hy1, get_data encAct hx2, get_data encAct hy2, set_data l1 encAct, hAct_set, get_data encAct hy3, set_data (l1.set (x + i) l1[y + i]) encAct, wrap_succ i (by omega)]
  refine ⟨⟨(i + 1, (l1.set (x + i) l1[y + i]).set (y + i) l1[x + i]), by simp only; omega, (swap_perm hx2 hy2).trans hp1⟩, by simp only; omega, drop_E ?_⟩
  simp only [go_sem, Nat.reduceAdd, Nat.reduceSub, Nat.reduceMul, Nat.reduceLT, Nat.reduceLeDiff, Nat.reduceBEq, Nat.reduceEqDiff, Int.reduceLE, Int.reduceLT, Int.reduceNeg, Int.reduceAdd, Int.reduceSub, Int.reduceEq, Int.reduceMul, Int.reduceToNat, reduceIte]

theorem c_rotate (H : List AObj) (b g n : Nat) (hb : b < H.length) (l : List GAct) (hn : n = l.length) (hs : l.length ≤ 1152921504606846976) (x m y : Nat) (fv : AV) (hf : coe fv = fv) (hcl : ∀ k, cloA k fv = true) (hx : x < m) (hm : m < y) (hy : y ≤ l.length) :
    ACalls Go.Proofs.Tryz.prog GT 204 [.ref b g 0 n none, .d (.int .i64 x), .d (.int .i64 m), .d (.int .i64 y), fv] (hAct H b g l) fun v H' => v = .tup [] ∧ ∃ l', l'.Perm l ∧ H' = hAct H b g l' := by
  subst hn
  have hw1 : IntKind.i64.wrap ((m : Int) - (x : Int)) = ((m - x : Nat) : Int) := by rw [wrap_i64 _ (by omega) (by omega)]; omega
  have hw2 : IntKind.i64.wrap ((y : Int) - (m : Int)) = ((y - m : Nat) : Int) := by rw [wrap_i64 _ (by omega) (by omega)]; omega
  refine acalls_all (fn := Go.Proofs.Tryz.f204) (c := _) 58 [] (by kernel_rfl) rfl (by kernel_rfl) rfl rfl (by simp) ?_
  simp only [go_sem, Nat.reduceAdd, Nat.reduceSub, Nat.reduceMul, Nat.reduceLT, Nat.reduceLeDiff, Nat.reduceBEq, Nat.reduceEqDiff, Int.reduceLE, Int.reduceLT, Int.reduceNeg, Int.reduceAdd, Int.reduceSub, Int.reduceEq, Int.reduceMul, Int.reduceToNat, reduceIte, hw1, hw2]
  refine ab_loop (ι := {p : Nat × Nat × List GAct // 0 < p.1 ∧ 0 < p.2.1 ∧ p.1 ≤ m ∧ m + p.2.1 ≤ l.length ∧ p.2.2.Perm l})
    (fun p => ⟨E 58 [(0, .ref b g 0 l.length none), (2, .d (.int .i64 m)), (4, fv), (10, .d (.int .i64 (p.1.1 : Int))), (11, .d (.int .i64 (p.1.2.1 : Int)))], hAct H b g p.1.2.2⟩) (fun p => p.1.1 + p.1.2.1) ⟨(m - x, y - m, l), by simp only; omega, by simp only; omega, by simp only; omega, by simp only; omega, .refl _⟩ (drop_E ?_) ?_
  · simp only [go_sem, Nat.reduceAdd, Nat.reduceSub, Nat.reduceMul, Nat.reduceLT, Nat.reduceLeDiff, Nat.reduceBEq, Nat.reduceEqDiff, Int.reduceLE, Int.reduceLT, Int.reduceNeg, Int.reduceAdd, Int.reduceSub, Int.reduceEq, Int.reduceMul, Int.reduceToNat, reduceIte]
  rintro ⟨⟨i, j, l1⟩, hi0, hj0, him, hjm, hp1⟩
  simp only at hi0 hj0 him hjm hp1
  have hl1 := hp1.length_eq
  have hwi : IntKind.i64.wrap ((m : Int) - (i : Int)) = ((m - i : Nat) : Int) := by rw [wrap_i64 _ (by omega) (by omega)]; omega
  have hwj : IntKind.i64.wrap ((m : Int) + (j : Int)) = ((m + j : Nat) : Int) := by rw [wrap_i64 _ (by omega) (by omega)]; omega
  simp only [go_sem, Nat.reduceAdd, Nat.reduceSub, Nat.reduceMul, Nat.reduceLT, Nat.reduceLeDiff, Nat.reduceBEq, Nat.reduceEqDiff, Int.reduceLE, Int.reduceLT, Int.reduceNeg, Int.reduceAdd, Int.reduceSub, Int.reduceEq, Int.reduceMul, Int.reduceToNat, reduceIte]
  refine ⟨fun h1 => ?_, fun h1 => ?_⟩
  · have hij : i = j := by omega
    simp only [go_sem, Nat.reduceAdd, Nat.reduceSub, Nat.reduceMul, Nat.reduceLT, Nat.reduceLeDiff, Nat.reduceBEq, Nat.reduceEqDiff, Int.reduceLE, Int.reduceLT, Int.reduceNeg, Int.reduceAdd, Int.reduceSub, Int.reduceEq, Int.reduceMul, Int.reduceToNat, reduceIte, hwi, hf]
    refine (c_swapRange H b g l.length hb l1 (by omega) (by omega) (m - i) m i fv hf (by omega) (by omega)).mono ?_
    rintro _ _ ⟨rfl, l2, hp2, rfl⟩
    simp only [go_sem, Nat.reduceAdd, Nat.reduceSub, Nat.reduceMul, Nat.reduceLT, Nat.reduceLeDiff, Nat.reduceBEq, Nat.reduceEqDiff, Int.reduceLE, Int.reduceLT, Int.reduceNeg, Int.reduceAdd, Int.reduceSub, Int.reduceEq, Int.reduceMul, Int.reduceToNat, reduceIte]
    exact ⟨l2, hp2.trans hp1, rfl⟩
  · have hne : i ≠ j := by omega
    simp only [go_sem, Nat.reduceAdd, Nat.reduceSub, Nat.reduceMul, Nat.reduceLT, Nat.reduceLeDiff, Nat.reduceBEq, Nat.reduceEqDiff, Int.reduceLE, Int.reduceLT, Int.reduceNeg, Int.reduceAdd, Int.reduceSub, Int.reduceEq, Int.reduceMul, Int.reduceToNat, reduceIte]
    refine ⟨fun h2 => ?_, fun h2 => ?_⟩
    · have hw3 : IntKind.i64.wrap ((i : Int) - (j : Int)) = ((i - j : Nat) : Int) := by rw [wrap_i64 _ (by omega) (by omega)]; omega
      simp only [go_sem, Nat.reduceAdd, Nat.reduceSub, Nat.reduceMul, Nat.reduceLT, Nat.reduceLeDiff, Nat.reduceBEq, Nat.reduceEqDiff, Int.reduceLE, Int.reduceLT, Int.reduceNeg, Int.reduceAdd, Int.reduceSub, Int.reduceEq, Int.reduceMul, Int.reduceToNat, reduceIte, hwi, hf]
      refine (c_swapRange H b g l.length hb l1 (by omega) (by omega) (m - i) m j fv hf (by omega) (by omega)).mono ?_
      rintro _ _ ⟨rfl, l2, hp2, rfl⟩
      simp only [go_sem, Nat.reduceAdd, Nat.reduceSub, Nat.reduceMul, Nat.reduceLT, Nat.reduceLeDiff, Nat.reduceBEq, Nat.reduceEqDiff, Int.reduceLE, Int.reduceLT, Int.reduceNeg, Int.reduceAdd, Int.reduceSub, Int.reduceEq, Int.reduceMul, Int.reduceToNat, reduceIte, hw3]
      refine ⟨⟨(i - j, j, l2), by simp only; omega, by simp only; omega, by simp only; omega, by simp only; omega, hp2.trans hp1⟩, by simp only; omega, drop_E ?_⟩
      simp only [go_sem, Nat.reduceAdd, Nat.reduceSub, Nat.reduceMul, Nat.reduceLT, Nat.reduceLeDiff, Nat.reduceBEq, Nat.reduceEqDiff, Int.reduceLE, Int.reduceLT, Int.reduceNeg, Int.reduceAdd, Int.reduceSub, Int.reduceEq, Int.reduceMul, Int.reduceToNat, reduceIte]
    · have hw3 : IntKind.i64.wrap ((j : Int) - (i : Int)) = ((j - i : Nat) : Int) := by rw [wrap_i64 _ (by omega) (by omega)]; omega
      have hw4 : IntKind.i64.wrap (((m + j : Nat) : Int) - (i : Int)) = ((m + j - i : Nat) : Int) := by rw [wrap_i64 _ (by omega) (by omega)]; omega
      simp only [go_sem, Nat.reduceAdd, Nat.reduceSub, Nat.reduceMul, Nat.reduceLT, Nat.reduceLeDiff, Nat.reduceBEq, Nat.reduceEqDiff, Int.reduceLE, Int.reduceLT, Int.reduceNeg, Int.reduceAdd, Int.reduceSub, Int.reduceEq, Int.reduceMul, Int.reduceToNat, reduceIte, hwi, hwj, hw4, hf]
      refine (c_swapRange H b g l.length hb l1 (by omega) (by omega) (m - i) (m + j - i) i fv hf (by omega) (by omega)).mono ?_
      rintro _ _ ⟨rfl, l2, hp2, rfl⟩
      simp only [go_sem, Nat.reduceAdd, Nat.reduceSub, Nat.reduceMul, Nat.reduceLT, Nat.reduceLeDiff, Nat.reduceBEq, Nat.reduceEqDiff, Int.reduceLE, Int.reduceLT, Int.reduceNeg, Int.reduceAdd, Int.reduceSub, Int.reduceEq, Int.reduceMul, Int.reduceToNat, reduceIte, hw3]
      refine ⟨⟨(i, j - i, l2), by simp only; omega, by simp only; omega, by simp only; omega, by simp only; omega, hp2.trans hp1⟩, by simp only; omega, drop_E ?_⟩
      simp only [go_sem, Nat.reduceAdd, Nat.reduceSub, Nat.reduceMul, Nat.reduceLT, Nat.reduceLeDiff, Nat.reduceBEq, Nat.reduceEqDiff, Int.reduceLE, Int.reduceLT, Int.reduceNeg, Int.reduceAdd, Int.reduceSub, Int.reduceEq, Int.reduceMul, Int.reduceToNat, reduceIte]

/-- what halving comes to -/
theorem half_w1 {i j : Nat} (h : i + j ≤ 9223372036854775807) : IntKind.i64.wrap ((i : Int) + (j : Int)) = ((i + j : Nat) : Int) := by rw [wrap_i64 _ (by omega) (by omega)]; omega
theorem half_w2 {i j : Nat} (h : i + j ≤ 9223372036854775807) : IntKind.u64.wrap ((i + j : Nat) : Int) = ((i + j : Nat) : Int) := wrap_u64 _ (by omega) (by omega)
theorem half_w3 {i j : Nat} (h : i + j ≤ 9223372036854775807) : IntKind.i64.wrap (((i + j : Nat) : Int) / 2) = (((i + j) / 2 : Nat) : Int) := by rw [wrap_i64 _ (by omega) (by omega)]; omega
theorem sub_w {i j : Nat} (h : j ≤ i) (h2 : i ≤ 9223372036854775807) : IntKind.i64.wrap ((i : Int) - (j : Int)) = ((i - j : Nat) : Int) := by rw [wrap_i64 _ (by omega) (by omega)]; omega

theorem c_symMerge (H : List AObj) (b g n : Nat) (hb : b < H.length) (hs : n ≤ 1152921504606846976) : ∀ (k : Nat) (l : List GAct) (lo m hi : Nat), n = l.length → hi - lo ≤ k → lo < m → m < hi → hi ≤ n →
    ACalls Go.Proofs.Tryz.prog GT 147 [.ref b g 0 n none, .d (.int .i64 lo), .d (.int .i64 m), .d (.int .i64 hi), .d (.fn 55)] (hAct H b g l) fun v H' => v = .tup [] ∧ ∃ l', l'.Perm l ∧ H' = hAct H b g l' := by
  intro k
  induction k with
  | zero => intro l lo m hi hn hk hlm hmh hhn; omega
  | succ k ih =>
  intro l lo m hi hn hk hlm hmh hhn
  subst hn
  have hw1 := sub_w (i := m) (j := lo) (by omega) (by omega)
  have hw2 := sub_w (i := hi) (j := m) (by omega) (by omega)
  refine acalls_all (fn := Go.Proofs.Tryz.f147) (c := _) 220 [] (by kernel_rfl) rfl (by kernel_rfl) rfl rfl (by simp) ?_
  simp only [go_sem, Nat.reduceAdd, Nat.reduceSub, Nat.reduceMul, Nat.reduceLT, Nat.reduceLeDiff, Nat.reduceBEq, Nat.reduceEqDiff, Int.reduceLE, Int.reduceLT, Int.reduceNeg, Int.reduceAdd, Int.reduceSub, Int.reduceEq, Int.reduceMul, Int.reduceToNat, reduceIte, hw1]
  refine ⟨fun h1 => ?_, fun h1 => ?_⟩
  · -- the first part is of one element
    simp only [go_sem, Nat.reduceAdd, Nat.reduceSub, Nat.reduceMul, Nat.reduceLT, Nat.reduceLeDiff, Nat.reduceBEq, Nat.reduceEqDiff, Int.reduceLE, Int.reduceLT, Int.reduceNeg, Int.reduceAdd, Int.reduceSub, Int.reduceEq, Int.reduceMul, Int.reduceToNat, reduceIte]
    refine ab_loop (ι := {p : Nat × Nat // m ≤ p.1 ∧ p.1 ≤ p.2 ∧ p.2 ≤ hi})
      (fun p => ⟨E 220 [(0, .ref b g 0 l.length none), (1, .d (.int .i64 lo)), (2, .d (.int .i64 m)), (3, .d (.int .i64 hi)), (4, .d (.fn 55)), (10, .d (.int .i64 (p.1.1 : Int))), (11, .d (.int .i64 (p.1.2 : Int)))], hAct H b g l⟩) (fun p => p.1.2 - p.1.1) ⟨(m, hi), Nat.le_refl _, by omega, Nat.le_refl _⟩ (drop_E ?_) ?_
    · simp only [go_sem, Nat.reduceAdd, Nat.reduceSub, Nat.reduceMul, Nat.reduceLT, Nat.reduceLeDiff, Nat.reduceBEq, Nat.reduceEqDiff, Int.reduceLE, Int.reduceLT, Int.reduceNeg, Int.reduceAdd, Int.reduceSub, Int.reduceEq, Int.reduceMul, Int.reduceToNat, reduceIte]
    rintro ⟨⟨i, j⟩, hi1, hi2, hi3⟩
    simp only at hi1 hi2 hi3
    simp only [go_sem, Nat.reduceAdd, Nat.reduceSub, Nat.reduceMul, Nat.reduceLT, Nat.reduceLeDiff, Nat.reduceBEq, Nat.reduceEqDiff, Int.reduceLE, Int.reduceLT, Int.reduceNeg, Int.reduceAdd, Int.reduceSub, Int.reduceEq, Int.reduceMul, Int.reduceToNat, reduceIte]
    refine ⟨fun h2 => ?_, fun h2 => ?_⟩
    · have hsum : i + j ≤ 9223372036854775807 := by omega
      have hq1 : (i + j) / 2 < l.length := by omega
      have hq2 : lo < l.length := by omega
      simp only [go_sem, Nat.reduceAdd, Nat.reduceSub, Nat.reduceMul, Nat.reduceLT, Nat.reduceLeDiff, Nat.reduceBEq, Nat.reduceEqDiff, Int.reduceLE, Int.reduceLT, Int.reduceNeg, Int.reduceAdd, Int.reduceSub, Int.reduceEq, Int.reduceMul, Int.reduceToNat, reduceIte, half_w1 hsum, half_w2 hsum, b_shr1 _ ((i + j : Nat) : Int) (by omega) (by omega), half_w3 hsum]
      refine ab_draw 11 (by kernel_rfl) (by kernel_rfl) (by kernel_rfl) ?_
      simp only [go_sem, Nat.reduceAdd, Nat.reduceSub, Nat.reduceMul, Nat.reduceLT, Nat.reduceLeDiff, Nat.reduceBEq, Nat.reduceEqDiff, Int.reduceLE, Int.reduceLT, Int.reduceNeg, Int.reduceAdd, Int.reduceSub, Int.reduceEq, Int.reduceMul, Int.reduceToNat, reduceIte, hAct_get hb, hq1, hq2, get_data encAct hq1, get_data encAct hq2]
      refine callq_pure (fun M => c_cmpAct _ _ M) ?_
      simp only [go_sem, Nat.reduceAdd, Nat.reduceSub, Nat.reduceMul, Nat.reduceLT, Nat.reduceLeDiff, Nat.reduceBEq, Nat.reduceEqDiff, Int.reduceLE, Int.reduceLT, Int.reduceNeg, Int.reduceAdd, Int.reduceSub, Int.reduceEq, Int.reduceMul, Int.reduceToNat, reduceIte]
      refine ⟨fun h3 => ?_, fun h3 => ?_⟩
      · simp only [go_sem, Nat.reduceAdd, Nat.reduceSub, Nat.reduceMul, Nat.reduceLT, Nat.reduceLeDiff, Nat.reduceBEq, Nat.reduceEqDiff, Int.reduceLE, Int.reduceLT, Int.reduceNeg, Int.reduceAdd, Int.reduceSub, Int.reduceEq, Int.reduceMul, Int.reduceToNat, reduceIte, wrap_succ ((i + j) / 2) (by omega)]
        refine ⟨⟨((i + j) / 2 + 1, j), by simp only; omega, by simp only; omega, hi3⟩, by simp only; omega, drop_E ?_⟩
        simp only [go_sem, Nat.reduceAdd, Nat.reduceSub, Nat.reduceMul, Nat.reduceLT, Nat.reduceLeDiff, Nat.reduceBEq, Nat.reduceEqDiff, Int.reduceLE, Int.reduceLT, Int.reduceNeg, Int.reduceAdd, Int.reduceSub, Int.reduceEq, Int.reduceMul, Int.reduceToNat, reduceIte]
      · simp only [go_sem, Nat.reduceAdd, Nat.reduceSub, Nat.reduceMul, Nat.reduceLT, Nat.reduceLeDiff, Nat.reduceBEq, Nat.reduceEqDiff, Int.reduceLE, Int.reduceLT, Int.reduceNeg, Int.reduceAdd, Int.reduceSub, Int.reduceEq, Int.reduceMul, Int.reduceToNat, reduceIte]
        refine ⟨⟨(i, (i + j) / 2), by simp only; omega, by simp only; omega, by simp only; omega⟩, by simp only; omega, drop_E ?_⟩
        simp only [go_sem, Nat.reduceAdd, Nat.reduceSub, Nat.reduceMul, Nat.reduceLT, Nat.reduceLeDiff, Nat.reduceBEq, Nat.reduceEqDiff, Int.reduceLE, Int.reduceLT, Int.reduceNeg, Int.reduceAdd, Int.reduceSub, Int.reduceEq, Int.reduceMul, Int.reduceToNat, reduceIte]
    · simp only [go_sem, Nat.reduceAdd, Nat.reduceSub, Nat.reduceMul, Nat.reduceLT, Nat.reduceLeDiff, Nat.reduceBEq, Nat.reduceEqDiff, Int.reduceLE, Int.reduceLT, Int.reduceNeg, Int.reduceAdd, Int.reduceSub, Int.reduceEq, Int.reduceMul, Int.reduceToNat, reduceIte]
      refine ab_loop (ι := {p : Nat × List GAct // lo ≤ p.1 ∧ p.1 ≤ hi ∧ p.2.Perm l})
        (fun p => ⟨E 220 [(0, .ref b g 0 l.length none), (10, .d (.int .i64 (i : Int))), (13, .d (.int .i64 (p.1.1 : Int)))], hAct H b g p.1.2⟩) (fun p => hi - p.1.1) ⟨(lo, l), Nat.le_refl _, by omega, .refl _⟩ (drop_E ?_) ?_
      · simp only [go_sem, Nat.reduceAdd, Nat.reduceSub, Nat.reduceMul, Nat.reduceLT, Nat.reduceLeDiff, Nat.reduceBEq, Nat.reduceEqDiff, Int.reduceLE, Int.reduceLT, Int.reduceNeg, Int.reduceAdd, Int.reduceSub, Int.reduceEq, Int.reduceMul, Int.reduceToNat, reduceIte]
      rintro ⟨⟨q, l1⟩, hq1, hq2, hp1⟩
      simp only at hq1 hq2 hp1
      have hl1 := hp1.length_eq
      have hwi : IntKind.i64.wrap ((i : Int) - 1) = ((i - 1 : Nat) : Int) := by rw [wrap_i64 _ (by omega) (by omega)]; omega
      simp only [go_sem, Nat.reduceAdd, Nat.reduceSub, Nat.reduceMul, Nat.reduceLT, Nat.reduceLeDiff, Nat.reduceBEq, Nat.reduceEqDiff, Int.reduceLE, Int.reduceLT, Int.reduceNeg, Int.reduceAdd, Int.reduceSub, Int.reduceEq, Int.reduceMul, Int.reduceToNat, reduceIte, hwi]
      refine ⟨fun h3 => ?_, fun h3 => ?_⟩
      · have hx1 : q < l.length := by omega
        have hy1 : q + 1 < l.length := by omega
        have hx2 : q < l1.length := by omega
        have hy2 : q + 1 < l1.length := by omega
        have hy3 : q + 1 < (l1.set q l1[q + 1]).length := by simp; omega
        have hwq := wrap_succ q (by omega)
        simp only [go_sem, Nat.reduceAdd, Nat.reduceSub, Nat.reduceMul, Nat.reduceLT, Nat.reduceLeDiff, Nat.reduceBEq, Nat.reduceEqDiff, Int.reduceLE, Int.reduceLT, Int.reduceNeg, Int.reduceAdd, Int.reduceSub, Int.reduceEq, Int.reduceMul, Int.reduceToNat, reduceIte]
        refine ab_drawF [2, 3, 4] 14 (by kernel_rfl) (by kernel_rfl) (by kernel_rfl) (by kernel_rfl) (by kernel_rfl) ?_
        simp only [go_sem, Nat.reduceAdd, Nat.reduceSub, Nat.reduceMul, Nat.reduceLT, Nat.reduceLeDiff, Nat.reduceBEq, Nat.reduceEqDiff, Int.reduceLE, Int.reduceLT, Int.reduceNeg, Int.reduceAdd, Int.reduceSub, Int.reduceEq, Int.reduceMul, Int.reduceToNat, reduceIte, hwq, hAct_get hb, hx1, hy1, get_data encAct hx2, get_data encAct hy2, set_data l1 encAct, hAct_set, get_data encAct hy3, set_data (l1.set q l1[q + 1]) encAct]
        refine ⟨⟨(q + 1, (l1.set q l1[q + 1]).set (q + 1) l1[q]), by simp only; omega, by simp only; omega, (swap_perm hx2 hy2).trans hp1⟩, by simp only; omega, drop_E ?_⟩
        simp only [go_sem, Nat.reduceAdd, Nat.reduceSub, Nat.reduceMul, Nat.reduceLT, Nat.reduceLeDiff, Nat.reduceBEq, Nat.reduceEqDiff, Int.reduceLE, Int.reduceLT, Int.reduceNeg, Int.reduceAdd, Int.reduceSub, Int.reduceEq, Int.reduceMul, Int.reduceToNat, reduceIte]
      · simp only [go_sem, Nat.reduceAdd, Nat.reduceSub, Nat.reduceMul, Nat.reduceLT, Nat.reduceLeDiff, Nat.reduceBEq, Nat.reduceEqDiff, Int.reduceLE, Int.reduceLT, Int.reduceNeg, Int.reduceAdd, Int.reduceSub, Int.reduceEq, Int.reduceMul, Int.reduceToNat, reduceIte]
        exact ⟨l1, hp1, rfl⟩
  simp only [go_sem, Nat.reduceAdd, Nat.reduceSub, Nat.reduceMul, Nat.reduceLT, Nat.reduceLeDiff, Nat.reduceBEq, Nat.reduceEqDiff, Int.reduceLE, Int.reduceLT, Int.reduceNeg, Int.reduceAdd, Int.reduceSub, Int.reduceEq, Int.reduceMul, Int.reduceToNat, reduceIte, hw2]
  refine ⟨fun h2 => ?_, fun h2 => ?_⟩
  · -- the second part is of one element
    simp only [go_sem, Nat.reduceAdd, Nat.reduceSub, Nat.reduceMul, Nat.reduceLT, Nat.reduceLeDiff, Nat.reduceBEq, Nat.reduceEqDiff, Int.reduceLE, Int.reduceLT, Int.reduceNeg, Int.reduceAdd, Int.reduceSub, Int.reduceEq, Int.reduceMul, Int.reduceToNat, reduceIte]
    refine ab_loop (ι := {p : Nat × Nat // lo ≤ p.1 ∧ p.1 ≤ p.2 ∧ p.2 ≤ m})
      (fun p => ⟨E 220 [(0, .ref b g 0 l.length none), (1, .d (.int .i64 lo)), (2, .d (.int .i64 m)), (3, .d (.int .i64 hi)), (4, .d (.fn 55)), (14, .d (.int .i64 (p.1.1 : Int))), (15, .d (.int .i64 (p.1.2 : Int)))], hAct H b g l⟩) (fun p => p.1.2 - p.1.1) ⟨(lo, m), Nat.le_refl _, by omega, Nat.le_refl _⟩ (drop_E ?_) ?_
    · simp only [go_sem, Nat.reduceAdd, Nat.reduceSub, Nat.reduceMul, Nat.reduceLT, Nat.reduceLeDiff, Nat.reduceBEq, Nat.reduceEqDiff, Int.reduceLE, Int.reduceLT, Int.reduceNeg, Int.reduceAdd, Int.reduceSub, Int.reduceEq, Int.reduceMul, Int.reduceToNat, reduceIte]
    rintro ⟨⟨i, j⟩, hi1, hi2, hi3⟩
    simp only at hi1 hi2 hi3
    simp only [go_sem, Nat.reduceAdd, Nat.reduceSub, Nat.reduceMul, Nat.reduceLT, Nat.reduceLeDiff, Nat.reduceBEq, Nat.reduceEqDiff, Int.reduceLE, Int.reduceLT, Int.reduceNeg, Int.reduceAdd, Int.reduceSub, Int.reduceEq, Int.reduceMul, Int.reduceToNat, reduceIte]
    refine ⟨fun h3 => ?_, fun h3 => ?_⟩
    · have hsum : i + j ≤ 9223372036854775807 := by omega
      have hq1 : (i + j) / 2 < l.length := by omega
      have hq2 : m < l.length := by omega
      simp only [go_sem, Nat.reduceAdd, Nat.reduceSub, Nat.reduceMul, Nat.reduceLT, Nat.reduceLeDiff, Nat.reduceBEq, Nat.reduceEqDiff, Int.reduceLE, Int.reduceLT, Int.reduceNeg, Int.reduceAdd, Int.reduceSub, Int.reduceEq, Int.reduceMul, Int.reduceToNat, reduceIte, half_w1 hsum, half_w2 hsum, b_shr1 _ ((i + j : Nat) : Int) (by omega) (by omega), half_w3 hsum]
      refine ab_draw 12 (by kernel_rfl) (by kernel_rfl) (by kernel_rfl) ?_
      simp only [go_sem, Nat.reduceAdd, Nat.reduceSub, Nat.reduceMul, Nat.reduceLT, Nat.reduceLeDiff, Nat.reduceBEq, Nat.reduceEqDiff, Int.reduceLE, Int.reduceLT, Int.reduceNeg, Int.reduceAdd, Int.reduceSub, Int.reduceEq, Int.reduceMul, Int.reduceToNat, reduceIte, hAct_get hb, hq1, hq2, get_data encAct hq1, get_data encAct hq2]
      refine callq_pure (fun M => c_cmpAct _ _ M) ?_
      simp only [go_sem, Nat.reduceAdd, Nat.reduceSub, Nat.reduceMul, Nat.reduceLT, Nat.reduceLeDiff, Nat.reduceBEq, Nat.reduceEqDiff, Int.reduceLE, Int.reduceLT, Int.reduceNeg, Int.reduceAdd, Int.reduceSub, Int.reduceEq, Int.reduceMul, Int.reduceToNat, reduceIte]
      refine ⟨fun h4 => ?_, fun h4 => ?_⟩
      · simp only [go_sem, Nat.reduceAdd, Nat.reduceSub, Nat.reduceMul, Nat.reduceLT, Nat.reduceLeDiff, Nat.reduceBEq, Nat.reduceEqDiff, Int.reduceLE, Int.reduceLT, Int.reduceNeg, Int.reduceAdd, Int.reduceSub, Int.reduceEq, Int.reduceMul, Int.reduceToNat, reduceIte]
        refine ⟨⟨(i, (i + j) / 2), by simp only; omega, by simp only; omega, by simp only; omega⟩, by simp only; omega, drop_E ?_⟩
        simp only [go_sem, Nat.reduceAdd, Nat.reduceSub, Nat.reduceMul, Nat.reduceLT, Nat.reduceLeDiff, Nat.reduceBEq, Nat.reduceEqDiff, Int.reduceLE, Int.reduceLT, Int.reduceNeg, Int.reduceAdd, Int.reduceSub, Int.reduceEq, Int.reduceMul, Int.reduceToNat, reduceIte]
      · simp only [go_sem, Nat.reduceAdd, Nat.reduceSub, Nat.reduceMul, Nat.reduceLT, Nat.reduceLeDiff, Nat.reduceBEq, Nat.reduceEqDiff, Int.reduceLE, Int.reduceLT, Int.reduceNeg, Int.reduceAdd, Int.reduceSub, Int.reduceEq, Int.reduceMul, Int.reduceToNat, reduceIte, wrap_succ ((i + j) / 2) (by omega)]
        refine ⟨⟨((i + j) / 2 + 1, j), by simp only; omega, by simp only; omega, hi3⟩, by simp only; omega, drop_E ?_⟩
        simp only [go_sem, Nat.reduceAdd, Nat.reduceSub, Nat.reduceMul, Nat.reduceLT, Nat.reduceLeDiff, Nat.reduceBEq, Nat.reduceEqDiff, Int.reduceLE, Int.reduceLT, Int.reduceNeg, Int.reduceAdd, Int.reduceSub, Int.reduceEq, Int.reduceMul, Int.reduceToNat, reduceIte]
    · simp only [go_sem, Nat.reduceAdd, Nat.reduceSub, Nat.reduceMul, Nat.reduceLT, Nat.reduceLeDiff, Nat.reduceBEq, Nat.reduceEqDiff, Int.reduceLE, Int.reduceLT, Int.reduceNeg, Int.reduceAdd, Int.reduceSub, Int.reduceEq, Int.reduceMul, Int.reduceToNat, reduceIte]
      refine ab_loop (ι := {p : Nat × List GAct // p.1 ≤ m ∧ p.2.Perm l})
        (fun p => ⟨E 220 [(0, .ref b g 0 l.length none), (14, .d (.int .i64 (i : Int))), (17, .d (.int .i64 (p.1.1 : Int)))], hAct H b g p.1.2⟩) (fun p => p.1.1) ⟨(m, l), Nat.le_refl _, .refl _⟩ (drop_E ?_) ?_
      · simp only [go_sem, Nat.reduceAdd, Nat.reduceSub, Nat.reduceMul, Nat.reduceLT, Nat.reduceLeDiff, Nat.reduceBEq, Nat.reduceEqDiff, Int.reduceLE, Int.reduceLT, Int.reduceNeg, Int.reduceAdd, Int.reduceSub, Int.reduceEq, Int.reduceMul, Int.reduceToNat, reduceIte]
      rintro ⟨⟨q, l1⟩, hq1, hp1⟩
      simp only at hq1 hp1
      have hl1 := hp1.length_eq
      simp only [go_sem, Nat.reduceAdd, Nat.reduceSub, Nat.reduceMul, Nat.reduceLT, Nat.reduceLeDiff, Nat.reduceBEq, Nat.reduceEqDiff, Int.reduceLE, Int.reduceLT, Int.reduceNeg, Int.reduceAdd, Int.reduceSub, Int.reduceEq, Int.reduceMul, Int.reduceToNat, reduceIte]
      refine ⟨fun h4 => ?_, fun h4 => ?_⟩
      · have hwq : IntKind.i64.wrap ((q : Int) - 1) = ((q - 1 : Nat) : Int) := by rw [wrap_i64 _ (by omega) (by omega)]; omega
        have hx1 : q < l.length := by omega
        have hy1 : q - 1 < l.length := by omega
        have hx2 : q < l1.length := by omega
        have hy2 : q - 1 < l1.length := by omega
        have hy3 : q - 1 < (l1.set q l1[q - 1]).length := by simp; omega
        simp only [go_sem, Nat.reduceAdd, Nat.reduceSub, Nat.reduceMul, Nat.reduceLT, Nat.reduceLeDiff, Nat.reduceBEq, Nat.reduceEqDiff, Int.reduceLE, Int.reduceLT, Int.reduceNeg, Int.reduceAdd, Int.reduceSub, Int.reduceEq, Int.reduceMul, Int.reduceToNat, reduceIte]
        refine ab_drawF [2, 3, 4] 14 (by kernel_rfl) (by kernel_rfl) (by kernel_rfl) (by kernel_rfl) (by kernel_rfl) ?_
        simp only [go_sem, Nat.reduceAdd, Nat.reduceSub, Nat.reduceMul, Nat.reduceLT, Nat.reduceLeDiff, Nat.reduceBEq, Nat.reduceEqDiff, Int.reduceLE, Int.reduceLT, Int.reduceNeg, Int.reduceAdd, Int.reduceSub, Int.reduceEq, Int.reduceMul, Int.reduceToNat, reduceIte, hwq, hAct_get hb, hx1, hy1, get_data encAct hx2, get_data encAct hy2, set_data l1 encAct, hAct_set, get_data encAct hy3, set_data (l1.set q l1[q - 1]) encAct]
        refine ⟨⟨(q - 1, (l1.set q l1[q - 1]).set (q - 1) l1[q]), by simp only; omega, (swap_perm hx2 hy2).trans hp1⟩, by simp only; omega, drop_E ?_⟩
        simp only [go_sem, Nat.reduceAdd, Nat.reduceSub, Nat.reduceMul, Nat.reduceLT, Nat.reduceLeDiff, Nat.reduceBEq, Nat.reduceEqDiff, Int.reduceLE, Int.reduceLT, Int.reduceNeg, Int.reduceAdd, Int.reduceSub, Int.reduceEq, Int.reduceMul, Int.reduceToNat, reduceIte]
      · simp only [go_sem, Nat.reduceAdd, Nat.reduceSub, Nat.reduceMul, Nat.reduceLT, Nat.reduceLeDiff, Nat.reduceBEq, Nat.reduceEqDiff, Int.reduceLE, Int.reduceLT, Int.reduceNeg, Int.reduceAdd, Int.reduceSub, Int.reduceEq, Int.reduceMul, Int.reduceToNat, reduceIte]
        exact ⟨l1, hp1, rfl⟩
  have hmid : (lo + hi) / 2 ≤ 9223372036854775807 := by omega
  have hsum0 : lo + hi ≤ 9223372036854775807 := by omega
  have hwn : IntKind.i64.wrap ((((lo + hi) / 2 : Nat) : Int) + (m : Int)) = (((lo + hi) / 2 + m : Nat) : Int) := half_w1 (by omega)
  have hwp : IntKind.i64.wrap ((((lo + hi) / 2 + m : Nat) : Int) - 1) = (((lo + hi) / 2 + m - 1 : Nat) : Int) := by rw [wrap_i64 _ (by omega) (by omega)]; omega
  simp only [go_sem, Nat.reduceAdd, Nat.reduceSub, Nat.reduceMul, Nat.reduceLT, Nat.reduceLeDiff, Nat.reduceBEq, Nat.reduceEqDiff, Int.reduceLE, Int.reduceLT, Int.reduceNeg, Int.reduceAdd, Int.reduceSub, Int.reduceEq, Int.reduceMul, Int.reduceToNat, reduceIte, half_w1 hsum0, half_w2 hsum0, b_shr1 _ ((lo + hi : Nat) : Int) (by omega) (by omega), half_w3 hsum0, hwn]
  refine ⟨fun h3 => ?_, fun h3 => ?_⟩
  · have hwst : IntKind.i64.wrap ((((lo + hi) / 2 + m : Nat) : Int) - (hi : Int)) = (((lo + hi) / 2 + m - hi : Nat) : Int) := sub_w (by omega) (by omega)
    simp only [go_sem, Nat.reduceAdd, Nat.reduceSub, Nat.reduceMul, Nat.reduceLT, Nat.reduceLeDiff, Nat.reduceBEq, Nat.reduceEqDiff, Int.reduceLE, Int.reduceLT, Int.reduceNeg, Int.reduceAdd, Int.reduceSub, Int.reduceEq, Int.reduceMul, Int.reduceToNat, reduceIte, hwst, hwp]
    obtain ⟨s0, hs0⟩ : ∃ s0, s0 = (lo + hi) / 2 + m - hi := ⟨_, rfl⟩
    obtain ⟨r0, hr0⟩ : ∃ r0, r0 = (lo + hi) / 2 := ⟨_, rfl⟩
    have hF : lo ≤ s0 ∧ s0 ≤ r0 ∧ r0 ≤ l.length ∧ (lo + hi) / 2 + m - s0 ≤ hi ∧ r0 ≤ (lo + hi) / 2 + m := by omega
    refine ab_loop (ι := {p : Nat × Nat × List GAct // s0 ≤ p.1 ∧ p.1 ≤ p.2.1 ∧ p.2.1 ≤ r0 ∧ p.2.2.Perm l})
      (fun p => ⟨E 220 [(0, .ref b g 0 l.length none), (1, .d (.int .i64 lo)), (2, .d (.int .i64 m)), (3, .d (.int .i64 hi)), (4, .d (.fn 55)), (18, .d (.int .i64 (((lo + hi) / 2 : Nat) : Int))), (19, .d (.int .i64 (((lo + hi) / 2 + m : Nat) : Int))), (20, .d (.int .i64 (p.1.1 : Int))), (21, .d (.int .i64 (p.1.2.1 : Int))), (22, .d (.int .i64 (((lo + hi) / 2 + m - 1 : Nat) : Int)))], hAct H b g p.1.2.2⟩) (fun p => p.1.2.1 - p.1.1) ⟨(s0, r0, l), Nat.le_refl _, hF.2.1, Nat.le_refl _, .refl _⟩ (drop_E ?_) ?_
    · simp only [go_sem, Nat.reduceAdd, Nat.reduceSub, Nat.reduceMul, Nat.reduceLT, Nat.reduceLeDiff, Nat.reduceBEq, Nat.reduceEqDiff, Int.reduceLE, Int.reduceLT, Int.reduceNeg, Int.reduceAdd, Int.reduceSub, Int.reduceEq, Int.reduceMul, Int.reduceToNat, reduceIte, hs0, hr0]
    clear hs0 hr0 h3 hwst
    obtain ⟨hF1, hF2, hF3, hF4, hF5⟩ := hF
    rintro ⟨⟨i, j, l1⟩, hi1, hi2, hi3, hp1⟩
    simp only at hi1 hi2 hi3 hp1
    have hl1 := hp1.length_eq
    simp only [go_sem, Nat.reduceAdd, Nat.reduceSub, Nat.reduceMul, Nat.reduceLT, Nat.reduceLeDiff, Nat.reduceBEq, Nat.reduceEqDiff, Int.reduceLE, Int.reduceLT, Int.reduceNeg, Int.reduceAdd, Int.reduceSub, Int.reduceEq, Int.reduceMul, Int.reduceToNat, reduceIte]
    refine ⟨fun h4 => ?_, fun h4 => ?_⟩
    · have hsum : i + j ≤ 9223372036854775807 := by omega
      have hwc : IntKind.i64.wrap ((((lo + hi) / 2 + m - 1 : Nat) : Int) - (((i + j) / 2 : Nat) : Int)) = (((lo + hi) / 2 + m - 1 - (i + j) / 2 : Nat) : Int) := sub_w (by omega) (by omega)
      have hq1 : (lo + hi) / 2 + m - 1 - (i + j) / 2 < l.length := by omega
      have hq2 : (i + j) / 2 < l.length := by omega
      have hq3 : (lo + hi) / 2 + m - 1 - (i + j) / 2 < l1.length := by omega
      have hq4 : (i + j) / 2 < l1.length := by omega
      simp only [go_sem, Nat.reduceAdd, Nat.reduceSub, Nat.reduceMul, Nat.reduceLT, Nat.reduceLeDiff, Nat.reduceBEq, Nat.reduceEqDiff, Int.reduceLE, Int.reduceLT, Int.reduceNeg, Int.reduceAdd, Int.reduceSub, Int.reduceEq, Int.reduceMul, Int.reduceToNat, reduceIte, half_w1 hsum, half_w2 hsum, b_shr1 _ ((i + j : Nat) : Int) (by omega) (by omega), half_w3 hsum]
      refine ab_draw 14 (by kernel_rfl) (by kernel_rfl) (by kernel_rfl) ?_
      simp only [go_sem, Nat.reduceAdd, Nat.reduceSub, Nat.reduceMul, Nat.reduceLT, Nat.reduceLeDiff, Nat.reduceBEq, Nat.reduceEqDiff, Int.reduceLE, Int.reduceLT, Int.reduceNeg, Int.reduceAdd, Int.reduceSub, Int.reduceEq, Int.reduceMul, Int.reduceToNat, reduceIte, hwc, hAct_get hb, hq1, hq2, get_data encAct hq3, get_data encAct hq4]
      refine callq_pure (fun M => c_cmpAct _ _ M) ?_
      simp only [go_sem, Nat.reduceAdd, Nat.reduceSub, Nat.reduceMul, Nat.reduceLT, Nat.reduceLeDiff, Nat.reduceBEq, Nat.reduceEqDiff, Int.reduceLE, Int.reduceLT, Int.reduceNeg, Int.reduceAdd, Int.reduceSub, Int.reduceEq, Int.reduceMul, Int.reduceToNat, reduceIte]
      refine ⟨fun h5 => ?_, fun h5 => ?_⟩
      · simp only [go_sem, Nat.reduceAdd, Nat.reduceSub, Nat.reduceMul, Nat.reduceLT, Nat.reduceLeDiff, Nat.reduceBEq, Nat.reduceEqDiff, Int.reduceLE, Int.reduceLT, Int.reduceNeg, Int.reduceAdd, Int.reduceSub, Int.reduceEq, Int.reduceMul, Int.reduceToNat, reduceIte]
        refine ⟨⟨(i, (i + j) / 2, l1), hi1, by simp only; omega, by simp only; omega, hp1⟩, by simp only; omega, drop_E ?_⟩
        simp only [go_sem, Nat.reduceAdd, Nat.reduceSub, Nat.reduceMul, Nat.reduceLT, Nat.reduceLeDiff, Nat.reduceBEq, Nat.reduceEqDiff, Int.reduceLE, Int.reduceLT, Int.reduceNeg, Int.reduceAdd, Int.reduceSub, Int.reduceEq, Int.reduceMul, Int.reduceToNat, reduceIte]
      · simp only [go_sem, Nat.reduceAdd, Nat.reduceSub, Nat.reduceMul, Nat.reduceLT, Nat.reduceLeDiff, Nat.reduceBEq, Nat.reduceEqDiff, Int.reduceLE, Int.reduceLT, Int.reduceNeg, Int.reduceAdd, Int.reduceSub, Int.reduceEq, Int.reduceMul, Int.reduceToNat, reduceIte, wrap_succ ((i + j) / 2) (by omega)]
        refine ⟨⟨((i + j) / 2 + 1, j, l1), by simp only; omega, by simp only; omega, hi3, hp1⟩, by simp only; omega, drop_E ?_⟩
        simp only [go_sem, Nat.reduceAdd, Nat.reduceSub, Nat.reduceMul, Nat.reduceLT, Nat.reduceLeDiff, Nat.reduceBEq, Nat.reduceEqDiff, Int.reduceLE, Int.reduceLT, Int.reduceNeg, Int.reduceAdd, Int.reduceSub, Int.reduceEq, Int.reduceMul, Int.reduceToNat, reduceIte]
    · have hij : i = j := by omega
      subst hij
      have hwe : IntKind.i64.wrap ((((lo + hi) / 2 + m : Nat) : Int) - (i : Int)) = (((lo + hi) / 2 + m - i : Nat) : Int) := sub_w (by omega) (by omega)
      obtain ⟨en, hen⟩ : ∃ en, en = (lo + hi) / 2 + m - i := ⟨_, rfl⟩
      obtain ⟨md, hmd⟩ : ∃ md, md = (lo + hi) / 2 := ⟨_, rfl⟩
      rw [← hen] at hwe
      have hmd1 : lo < md ∧ md < hi := by omega
      have hen1 : en ≤ hi := by omega
      simp only [← hmd] at hwe ⊢
      simp only [go_sem, Nat.reduceAdd, Nat.reduceSub, Nat.reduceMul, Nat.reduceLT, Nat.reduceLeDiff, Nat.reduceBEq, Nat.reduceEqDiff, Int.reduceLE, Int.reduceLT, Int.reduceNeg, Int.reduceAdd, Int.reduceSub, Int.reduceEq, Int.reduceMul, Int.reduceToNat, reduceIte, hwe]
      have finish : ∀ (l1 : List GAct), l1.Perm l → ∃ l', l'.Perm l ∧ hAct H b g l1 = hAct H b g l' := fun l1 h => ⟨l1, h, rfl⟩
      by_cases hA : (i : Int) < (m : Int) ∧ (m : Int) < (en : Int)
      · obtain ⟨hA1, hA2⟩ := hA
        simp only [go_sem, Nat.reduceAdd, Nat.reduceSub, Nat.reduceMul, Nat.reduceLT, Nat.reduceLeDiff, Nat.reduceBEq, Nat.reduceEqDiff, Int.reduceLE, Int.reduceLT, Int.reduceNeg, Int.reduceAdd, Int.reduceSub, Int.reduceEq, Int.reduceMul, Int.reduceToNat, reduceIte, hA1, hA2]
        refine (c_rotate H b g l.length hb l1 (by omega) (by omega) i m en (.d (.fn 55)) rfl (fun _ => rfl) (by omega) (by omega) (by omega)).mono ?_
        rintro _ _ ⟨rfl, l2, hp2, rfl⟩
        replace hp1 := hp2.trans hp1
        clear hp2 hl1
        have hl2 := hp1.length_eq
        by_cases hB : (lo : Int) < (i : Int) ∧ (i : Int) < (md : Int)
        · obtain ⟨hB1, hB2⟩ := hB
          simp only [go_sem, Nat.reduceAdd, Nat.reduceSub, Nat.reduceMul, Nat.reduceLT, Nat.reduceLeDiff, Nat.reduceBEq, Nat.reduceEqDiff, Int.reduceLE, Int.reduceLT, Int.reduceNeg, Int.reduceAdd, Int.reduceSub, Int.reduceEq, Int.reduceMul, Int.reduceToNat, reduceIte, hB1, hB2]
          refine (ih l2 lo i md (by omega) (by omega) (by omega) (by omega) (by omega)).mono ?_
          rintro _ _ ⟨rfl, l3, hp3, rfl⟩
          replace hp1 := hp3.trans hp1
          clear hp3 hl2
          have hl3 := hp1.length_eq
          by_cases hC : (md : Int) < (en : Int) ∧ (en : Int) < (hi : Int)
          · obtain ⟨hC1, hC2⟩ := hC
            simp only [go_sem, Nat.reduceAdd, Nat.reduceSub, Nat.reduceMul, Nat.reduceLT, Nat.reduceLeDiff, Nat.reduceBEq, Nat.reduceEqDiff, Int.reduceLE, Int.reduceLT, Int.reduceNeg, Int.reduceAdd, Int.reduceSub, Int.reduceEq, Int.reduceMul, Int.reduceToNat, reduceIte, hC1, hC2]
            refine (ih l3 md en hi (by omega) (by omega) (by omega) (by omega) (by omega)).mono ?_
            rintro _ _ ⟨rfl, l4, hp4, rfl⟩
            simp only [go_sem, Nat.reduceAdd, Nat.reduceSub, Nat.reduceMul, Nat.reduceLT, Nat.reduceLeDiff, Nat.reduceBEq, Nat.reduceEqDiff, Int.reduceLE, Int.reduceLT, Int.reduceNeg, Int.reduceAdd, Int.reduceSub, Int.reduceEq, Int.reduceMul, Int.reduceToNat, reduceIte]
            exact finish l4 (hp4.trans hp1)
          · by_cases hC1 : (md : Int) < (en : Int)
            · have hC2 : ¬ (en : Int) < (hi : Int) := fun h => hC ⟨hC1, h⟩
              simp only [go_sem, Nat.reduceAdd, Nat.reduceSub, Nat.reduceMul, Nat.reduceLT, Nat.reduceLeDiff, Nat.reduceBEq, Nat.reduceEqDiff, Int.reduceLE, Int.reduceLT, Int.reduceNeg, Int.reduceAdd, Int.reduceSub, Int.reduceEq, Int.reduceMul, Int.reduceToNat, reduceIte, hC1, hC2]
              exact finish l3 hp1
            · simp only [go_sem, Nat.reduceAdd, Nat.reduceSub, Nat.reduceMul, Nat.reduceLT, Nat.reduceLeDiff, Nat.reduceBEq, Nat.reduceEqDiff, Int.reduceLE, Int.reduceLT, Int.reduceNeg, Int.reduceAdd, Int.reduceSub, Int.reduceEq, Int.reduceMul, Int.reduceToNat, reduceIte, hC1]
              exact finish l3 hp1
        · obtain ⟨l3, hE⟩ : ∃ l3, l3 = l2 := ⟨l2, rfl⟩
          subst hE
          clear hl2
          by_cases hB1 : (lo : Int) < (i : Int)
          · have hB2 : ¬ (i : Int) < (md : Int) := fun h => hB ⟨hB1, h⟩
            simp only [go_sem, Nat.reduceAdd, Nat.reduceSub, Nat.reduceMul, Nat.reduceLT, Nat.reduceLeDiff, Nat.reduceBEq, Nat.reduceEqDiff, Int.reduceLE, Int.reduceLT, Int.reduceNeg, Int.reduceAdd, Int.reduceSub, Int.reduceEq, Int.reduceMul, Int.reduceToNat, reduceIte, hB1, hB2]
            have hl3 := hp1.length_eq
            by_cases hC : (md : Int) < (en : Int) ∧ (en : Int) < (hi : Int)
            · obtain ⟨hC1, hC2⟩ := hC
              simp only [go_sem, Nat.reduceAdd, Nat.reduceSub, Nat.reduceMul, Nat.reduceLT, Nat.reduceLeDiff, Nat.reduceBEq, Nat.reduceEqDiff, Int.reduceLE, Int.reduceLT, Int.reduceNeg, Int.reduceAdd, Int.reduceSub, Int.reduceEq, Int.reduceMul, Int.reduceToNat, reduceIte, hC1, hC2]
              refine (ih l3 md en hi (by omega) (by omega) (by omega) (by omega) (by omega)).mono ?_
              rintro _ _ ⟨rfl, l4, hp4, rfl⟩
              simp only [go_sem, Nat.reduceAdd, Nat.reduceSub, Nat.reduceMul, Nat.reduceLT, Nat.reduceLeDiff, Nat.reduceBEq, Nat.reduceEqDiff, Int.reduceLE, Int.reduceLT, Int.reduceNeg, Int.reduceAdd, Int.reduceSub, Int.reduceEq, Int.reduceMul, Int.reduceToNat, reduceIte]
              exact finish l4 (hp4.trans hp1)
            · by_cases hC1 : (md : Int) < (en : Int)
              · have hC2 : ¬ (en : Int) < (hi : Int) := fun h => hC ⟨hC1, h⟩
                simp only [go_sem, Nat.reduceAdd, Nat.reduceSub, Nat.reduceMul, Nat.reduceLT, Nat.reduceLeDiff, Nat.reduceBEq, Nat.reduceEqDiff, Int.reduceLE, Int.reduceLT, Int.reduceNeg, Int.reduceAdd, Int.reduceSub, Int.reduceEq, Int.reduceMul, Int.reduceToNat, reduceIte, hC1, hC2]
                exact finish l3 hp1
              · simp only [go_sem, Nat.reduceAdd, Nat.reduceSub, Nat.reduceMul, Nat.reduceLT, Nat.reduceLeDiff, Nat.reduceBEq, Nat.reduceEqDiff, Int.reduceLE, Int.reduceLT, Int.reduceNeg, Int.reduceAdd, Int.reduceSub, Int.reduceEq, Int.reduceMul, Int.reduceToNat, reduceIte, hC1]
                exact finish l3 hp1
          · simp only [go_sem, Nat.reduceAdd, Nat.reduceSub, Nat.reduceMul, Nat.reduceLT, Nat.reduceLeDiff, Nat.reduceBEq, Nat.reduceEqDiff, Int.reduceLE, Int.reduceLT, Int.reduceNeg, Int.reduceAdd, Int.reduceSub, Int.reduceEq, Int.reduceMul, Int.reduceToNat, reduceIte, hB1]
            have hl3 := hp1.length_eq
            by_cases hC : (md : Int) < (en : Int) ∧ (en : Int) < (hi : Int)
            · obtain ⟨hC1, hC2⟩ := hC
              simp only [go_sem, Nat.reduceAdd, Nat.reduceSub, Nat.reduceMul, Nat.reduceLT, Nat.reduceLeDiff, Nat.reduceBEq, Nat.reduceEqDiff, Int.reduceLE, Int.reduceLT, Int.reduceNeg, Int.reduceAdd, Int.reduceSub, Int.reduceEq, Int.reduceMul, Int.reduceToNat, reduceIte, hC1, hC2]
              refine (ih l3 md en hi (by omega) (by omega) (by omega) (by omega) (by omega)).mono ?_
              rintro _ _ ⟨rfl, l4, hp4, rfl⟩
              simp only [go_sem, Nat.reduceAdd, Nat.reduceSub, Nat.reduceMul, Nat.reduceLT, Nat.reduceLeDiff, Nat.reduceBEq, Nat.reduceEqDiff, Int.reduceLE, Int.reduceLT, Int.reduceNeg, Int.reduceAdd, Int.reduceSub, Int.reduceEq, Int.reduceMul, Int.reduceToNat, reduceIte]
              exact finish l4 (hp4.trans hp1)
            · by_cases hC1 : (md : Int) < (en : Int)
              · have hC2 : ¬ (en : Int) < (hi : Int) := fun h => hC ⟨hC1, h⟩
                simp only [go_sem, Nat.reduceAdd, Nat.reduceSub, Nat.reduceMul, Nat.reduceLT, Nat.reduceLeDiff, Nat.reduceBEq, Nat.reduceEqDiff, Int.reduceLE, Int.reduceLT, Int.reduceNeg, Int.reduceAdd, Int.reduceSub, Int.reduceEq, Int.reduceMul, Int.reduceToNat, reduceIte, hC1, hC2]
                exact finish l3 hp1
              · simp only [go_sem, Nat.reduceAdd, Nat.reduceSub, Nat.reduceMul, Nat.reduceLT, Nat.reduceLeDiff, Nat.reduceBEq, Nat.reduceEqDiff, Int.reduceLE, Int.reduceLT, Int.reduceNeg, Int.reduceAdd, Int.reduceSub, Int.reduceEq, Int.reduceMul, Int.reduceToNat, reduceIte, hC1]
                exact finish l3 hp1
      · obtain ⟨l2, hE⟩ : ∃ l2, l2 = l1 := ⟨l1, rfl⟩
        subst hE
        clear hl1
        by_cases hA1 : (i : Int) < (m : Int)
        · have hA2 : ¬ (m : Int) < (en : Int) := fun h => hA ⟨hA1, h⟩
          simp only [go_sem, Nat.reduceAdd, Nat.reduceSub, Nat.reduceMul, Nat.reduceLT, Nat.reduceLeDiff, Nat.reduceBEq, Nat.reduceEqDiff, Int.reduceLE, Int.reduceLT, Int.reduceNeg, Int.reduceAdd, Int.reduceSub, Int.reduceEq, Int.reduceMul, Int.reduceToNat, reduceIte, hA1, hA2]
          have hl2 := hp1.length_eq
          by_cases hB : (lo : Int) < (i : Int) ∧ (i : Int) < (md : Int)
          · obtain ⟨hB1, hB2⟩ := hB
            simp only [go_sem, Nat.reduceAdd, Nat.reduceSub, Nat.reduceMul, Nat.reduceLT, Nat.reduceLeDiff, Nat.reduceBEq, Nat.reduceEqDiff, Int.reduceLE, Int.reduceLT, Int.reduceNeg, Int.reduceAdd, Int.reduceSub, Int.reduceEq, Int.reduceMul, Int.reduceToNat, reduceIte, hB1, hB2]
            refine (ih l2 lo i md (by omega) (by omega) (by omega) (by omega) (by omega)).mono ?_
            rintro _ _ ⟨rfl, l3, hp3, rfl⟩
            replace hp1 := hp3.trans hp1
            clear hp3 hl2
            have hl3 := hp1.length_eq
            by_cases hC : (md : Int) < (en : Int) ∧ (en : Int) < (hi : Int)
            · obtain ⟨hC1, hC2⟩ := hC
              simp only [go_sem, Nat.reduceAdd, Nat.reduceSub, Nat.reduceMul, Nat.reduceLT, Nat.reduceLeDiff, Nat.reduceBEq, Nat.reduceEqDiff, Int.reduceLE, Int.reduceLT, Int.reduceNeg, Int.reduceAdd, Int.reduceSub, Int.reduceEq, Int.reduceMul, Int.reduceToNat, reduceIte, hC1, hC2]
              refine (ih l3 md en hi (by omega) (by omega) (by omega) (by omega) (by omega)).mono ?_
              rintro _ _ ⟨rfl, l4, hp4, rfl⟩
              simp only [go_sem, Nat.reduceAdd, Nat.reduceSub, Nat.reduceMul, Nat.reduceLT, Nat.reduceLeDiff, Nat.reduceBEq, Nat.reduceEqDiff, Int.reduceLE, Int.reduceLT, Int.reduceNeg, Int.reduceAdd, Int.reduceSub, Int.reduceEq, Int.reduceMul, Int.reduceToNat, reduceIte]
              exact finish l4 (hp4.trans hp1)
            · by_cases hC1 : (md : Int) < (en : Int)
              · have hC2 : ¬ (en : Int) < (hi : Int) := fun h => hC ⟨hC1, h⟩
                simp only [go_sem, Nat.reduceAdd, Nat.reduceSub, Nat.reduceMul, Nat.reduceLT, Nat.reduceLeDiff, Nat.reduceBEq, Nat.reduceEqDiff, Int.reduceLE, Int.reduceLT, Int.reduceNeg, Int.reduceAdd, Int.reduceSub, Int.reduceEq, Int.reduceMul, Int.reduceToNat, reduceIte, hC1, hC2]
                exact finish l3 hp1
              · simp only [go_sem, Nat.reduceAdd, Nat.reduceSub, Nat.reduceMul, Nat.reduceLT, Nat.reduceLeDiff, Nat.reduceBEq, Nat.reduceEqDiff, Int.reduceLE, Int.reduceLT, Int.reduceNeg, Int.reduceAdd, Int.reduceSub, Int.reduceEq, Int.reduceMul, Int.reduceToNat, reduceIte, hC1]
                exact finish l3 hp1
          · obtain ⟨l3, hE⟩ : ∃ l3, l3 = l2 := ⟨l2, rfl⟩
            subst hE
            clear hl2
            by_cases hB1 : (lo : Int) < (i : Int)
            · have hB2 : ¬ (i : Int) < (md : Int) := fun h => hB ⟨hB1, h⟩
              simp only [go_sem, Nat.reduceAdd, Nat.reduceSub, Nat.reduceMul, Nat.reduceLT, Nat.reduceLeDiff, Nat.reduceBEq, Nat.reduceEqDiff, Int.reduceLE, Int.reduceLT, Int.reduceNeg, Int.reduceAdd, Int.reduceSub, Int.reduceEq, Int.reduceMul, Int.reduceToNat, reduceIte, hB1, hB2]
              have hl3 := hp1.length_eq
              by_cases hC : (md : Int) < (en : Int) ∧ (en : Int) < (hi : Int)
              · obtain ⟨hC1, hC2⟩ := hC
                simp only [go_sem, Nat.reduceAdd, Nat.reduceSub, Nat.reduceMul, Nat.reduceLT, Nat.reduceLeDiff, Nat.reduceBEq, Nat.reduceEqDiff, Int.reduceLE, Int.reduceLT, Int.reduceNeg, Int.reduceAdd, Int.reduceSub, Int.reduceEq, Int.reduceMul, Int.reduceToNat, reduceIte, hC1, hC2]
                refine (ih l3 md en hi (by omega) (by omega) (by omega) (by omega) (by omega)).mono ?_
                rintro _ _ ⟨rfl, l4, hp4, rfl⟩
                simp only [go_sem, Nat.reduceAdd, Nat.reduceSub, Nat.reduceMul, Nat.reduceLT, Nat.reduceLeDiff, Nat.reduceBEq, Nat.reduceEqDiff, Int.reduceLE, Int.reduceLT, Int.reduceNeg, Int.reduceAdd, Int.reduceSub, Int.reduceEq, Int.reduceMul, Int.reduceToNat, reduceIte]
                exact finish l4 (hp4.trans hp1)
              · by_cases hC1 : (md : Int) < (en : Int)
                · have hC2 : ¬ (en : Int) < (hi : Int) := fun h => hC ⟨hC1, h⟩
                  simp only [go_sem, Nat.reduceAdd, Nat.reduceSub, Nat.reduceMul, Nat.reduceLT, Nat.reduceLeDiff, Nat.reduceBEq, Nat.reduceEqDiff, Int.reduceLE, Int.reduceLT, Int.reduceNeg, Int.reduceAdd, Int.reduceSub, Int.reduceEq, Int.reduceMul, Int.reduceToNat, reduceIte, hC1, hC2]
                  exact finish l3 hp1
                · simp only [go_sem, Nat.reduceAdd, Nat.reduceSub, Nat.reduceMul, Nat.reduceLT, Nat.reduceLeDiff, Nat.reduceBEq, Nat.reduceEqDiff, Int.reduceLE, Int.reduceLT, Int.reduceNeg, Int.reduceAdd, Int.reduceSub, Int.reduceEq, Int.reduceMul, Int.reduceToNat, reduceIte, hC1]
                  exact finish l3 hp1
            · simp only [go_sem, Nat.reduceAdd, Nat.reduceSub, Nat.reduceMul, Nat.reduceLT, Nat.reduceLeDiff, Nat.reduceBEq, Nat.reduceEqDiff, Int.reduceLE, Int.reduceLT, Int.reduceNeg, Int.reduceAdd, Int.reduceSub, Int.reduceEq, Int.reduceMul, Int.reduceToNat, reduceIte, hB1]
              have hl3 := hp1.length_eq
              by_cases hC : (md : Int) < (en : Int) ∧ (en : Int) < (hi : Int)
              · obtain ⟨hC1, hC2⟩ := hC
                simp only [go_sem, Nat.reduceAdd, Nat.reduceSub, Nat.reduceMul, Nat.reduceLT, Nat.reduceLeDiff, Nat.reduceBEq, Nat.reduceEqDiff, Int.reduceLE, Int.reduceLT, Int.reduceNeg, Int.reduceAdd, Int.reduceSub, Int.reduceEq, Int.reduceMul, Int.reduceToNat, reduceIte, hC1, hC2]
                refine (ih l3 md en hi (by omega) (by omega) (by omega) (by omega) (by omega)).mono ?_
                rintro _ _ ⟨rfl, l4, hp4, rfl⟩
                simp only [go_sem, Nat.reduceAdd, Nat.reduceSub, Nat.reduceMul, Nat.reduceLT, Nat.reduceLeDiff, Nat.reduceBEq, Nat.reduceEqDiff, Int.reduceLE, Int.reduceLT, Int.reduceNeg, Int.reduceAdd, Int.reduceSub, Int.reduceEq, Int.reduceMul, Int.reduceToNat, reduceIte]
                exact finish l4 (hp4.trans hp1)
              · by_cases hC1 : (md : Int) < (en : Int)
                · have hC2 : ¬ (en : Int) < (hi : Int) := fun h => hC ⟨hC1, h⟩
                  simp only [go_sem, Nat.reduceAdd, Nat.reduceSub, Nat.reduceMul, Nat.reduceLT, Nat.reduceLeDiff, Nat.reduceBEq, Nat.reduceEqDiff, Int.reduceLE, Int.reduceLT, Int.reduceNeg, Int.reduceAdd, Int.reduceSub, Int.reduceEq, Int.reduceMul, Int.reduceToNat, reduceIte, hC1, hC2]
                  exact finish l3 hp1
                · simp only [go_sem, Nat.reduceAdd, Nat.reduceSub, Nat.reduceMul, Nat.reduceLT, Nat.reduceLeDiff, Nat.reduceBEq, Nat.reduceEqDiff, Int.reduceLE, Int.reduceLT, Int.reduceNeg, Int.reduceAdd, Int.reduceSub, Int.reduceEq, Int.reduceMul, Int.reduceToNat, reduceIte, hC1]
                  exact finish l3 hp1
        · simp only [go_sem, Nat.reduceAdd, Nat.reduceSub, Nat.reduceMul, Nat.reduceLT, Nat.reduceLeDiff, Nat.reduceBEq, Nat.reduceEqDiff, Int.reduceLE, Int.reduceLT, Int.reduceNeg, Int.reduceAdd, Int.reduceSub, Int.reduceEq, Int.reduceMul, Int.reduceToNat, reduceIte, hA1]
          have hl2 := hp1.length_eq
          by_cases hB : (lo : Int) < (i : Int) ∧ (i : Int) < (md : Int)
          · obtain ⟨hB1, hB2⟩ := hB
            simp only [go_sem, Nat.reduceAdd, Nat.reduceSub, Nat.reduceMul, Nat.reduceLT, Nat.reduceLeDiff, Nat.reduceBEq, Nat.reduceEqDiff, Int.reduceLE, Int.reduceLT, Int.reduceNeg, Int.reduceAdd, Int.reduceSub, Int.reduceEq, Int.reduceMul, Int.reduceToNat, reduceIte, hB1, hB2]
            refine (ih l2 lo i md (by omega) (by omega) (by omega) (by omega) (by omega)).mono ?_
            rintro _ _ ⟨rfl, l3, hp3, rfl⟩
            replace hp1 := hp3.trans hp1
            clear hp3 hl2
            have hl3 := hp1.length_eq
            by_cases hC : (md : Int) < (en : Int) ∧ (en : Int) < (hi : Int)
            · obtain ⟨hC1, hC2⟩ := hC
              simp only [go_sem, Nat.reduceAdd, Nat.reduceSub, Nat.reduceMul, Nat.reduceLT, Nat.reduceLeDiff, Nat.reduceBEq, Nat.reduceEqDiff, Int.reduceLE, Int.reduceLT, Int.reduceNeg, Int.reduceAdd, Int.reduceSub, Int.reduceEq, Int.reduceMul, Int.reduceToNat, reduceIte, hC1, hC2]
              refine (ih l3 md en hi (by omega) (by omega) (by omega) (by omega) (by omega)).mono ?_
              rintro _ _ ⟨rfl, l4, hp4, rfl⟩
              simp only [go_sem, Nat.reduceAdd, Nat.reduceSub, Nat.reduceMul, Nat.reduceLT, Nat.reduceLeDiff, Nat.reduceBEq, Nat.reduceEqDiff, Int.reduceLE, Int.reduceLT, Int.reduceNeg, Int.reduceAdd, Int.reduceSub, Int.reduceEq, Int.reduceMul, Int.reduceToNat, reduceIte]
              exact finish l4 (hp4.trans hp1)
            · by_cases hC1 : (md : Int) < (en : Int)
              · have hC2 : ¬ (en : Int) < (hi : Int) := fun h => hC ⟨hC1, h⟩
                simp only [go_sem, Nat.reduceAdd, Nat.reduceSub, Nat.reduceMul, Nat.reduceLT, Nat.reduceLeDiff, Nat.reduceBEq, Nat.reduceEqDiff, Int.reduceLE, Int.reduceLT, Int.reduceNeg, Int.reduceAdd, Int.reduceSub, Int.reduceEq, Int.reduceMul, Int.reduceToNat, reduceIte, hC1, hC2]
                exact finish l3 hp1
              · simp only [go_sem, Nat.reduceAdd, Nat.reduceSub, Nat.reduceMul, Nat.reduceLT, Nat.reduceLeDiff, Nat.reduceBEq, Nat.reduceEqDiff, Int.reduceLE, Int.reduceLT, Int.reduceNeg, Int.reduceAdd, Int.reduceSub, Int.reduceEq, Int.reduceMul, Int.reduceToNat, reduceIte, hC1]
                exact finish l3 hp1
          · obtain ⟨l3, hE⟩ : ∃ l3, l3 = l2 := ⟨l2, rfl⟩
            subst hE
            clear hl2
            by_cases hB1 : (lo : Int) < (i : Int)
            · have hB2 : ¬ (i : Int) < (md : Int) := fun h => hB ⟨hB1, h⟩
              simp only [go_sem, Nat.reduceAdd, Nat.reduceSub, Nat.reduceMul, Nat.reduceLT, Nat.reduceLeDiff, Nat.reduceBEq, Nat.reduceEqDiff, Int.reduceLE, Int.reduceLT, Int.reduceNeg, Int.reduceAdd, Int.reduceSub, Int.reduceEq, Int.reduceMul, Int.reduceToNat, reduceIte, hB1, hB2]
              have hl3 := hp1.length_eq
              by_cases hC : (md : Int) < (en : Int) ∧ (en : Int) < (hi : Int)
              · obtain ⟨hC1, hC2⟩ := hC
                simp only [go_sem, Nat.reduceAdd, Nat.reduceSub, Nat.reduceMul, Nat.reduceLT, Nat.reduceLeDiff, Nat.reduceBEq, Nat.reduceEqDiff, Int.reduceLE, Int.reduceLT, Int.reduceNeg, Int.reduceAdd, Int.reduceSub, Int.reduceEq, Int.reduceMul, Int.reduceToNat, reduceIte, hC1, hC2]
                refine (ih l3 md en hi (by omega) (by omega) (by omega) (by omega) (by omega)).mono ?_
                rintro _ _ ⟨rfl, l4, hp4, rfl⟩
                simp only [go_sem, Nat.reduceAdd, Nat.reduceSub, Nat.reduceMul, Nat.reduceLT, Nat.reduceLeDiff, Nat.reduceBEq, Nat.reduceEqDiff, Int.reduceLE, Int.reduceLT, Int.reduceNeg, Int.reduceAdd, Int.reduceSub, Int.reduceEq, Int.reduceMul, Int.reduceToNat, reduceIte]
                exact finish l4 (hp4.trans hp1)
              · by_cases hC1 : (md : Int) < (en : Int)
                · have hC2 : ¬ (en : Int) < (hi : Int) := fun h => hC ⟨hC1, h⟩
                  simp only [go_sem, Nat.reduceAdd, Nat.reduceSub, Nat.reduceMul, Nat.reduceLT, Nat.reduceLeDiff, Nat.reduceBEq, Nat.reduceEqDiff, Int.reduceLE, Int.reduceLT, Int.reduceNeg, Int.reduceAdd, Int.reduceSub, Int.reduceEq, Int.reduceMul, Int.reduceToNat, reduceIte, hC1, hC2]
                  exact finish l3 hp1
                · simp only [go_sem, Nat.reduceAdd, Nat.reduceSub, Nat.reduceMul, Nat.reduceLT, Nat.reduceLeDiff, Nat.reduceBEq, Nat.reduceEqDiff, Int.reduceLE, Int.reduceLT, Int.reduceNeg, Int.reduceAdd, Int.reduceSub, Int.reduceEq, Int.reduceMul, Int.reduceToNat, reduceIte, hC1]
                  exact finish l3 hp1
            · simp only [go_sem, Nat.reduceAdd, Nat.reduceSub, Nat.reduceMul, Nat.reduceLT, Nat.reduceLeDiff, Nat.reduceBEq, Nat.reduceEqDiff, Int.reduceLE, Int.reduceLT, Int.reduceNeg, Int.reduceAdd, Int.reduceSub, Int.reduceEq, Int.reduceMul, Int.reduceToNat, reduceIte, hB1]
              have hl3 := hp1.length_eq
              by_cases hC : (md : Int) < (en : Int) ∧ (en : Int) < (hi : Int)
              · obtain ⟨hC1, hC2⟩ := hC
                simp only [go_sem, Nat.reduceAdd, Nat.reduceSub, Nat.reduceMul, Nat.reduceLT, Nat.reduceLeDiff, Nat.reduceBEq, Nat.reduceEqDiff, Int.reduceLE, Int.reduceLT, Int.reduceNeg, Int.reduceAdd, Int.reduceSub, Int.reduceEq, Int.reduceMul, Int.reduceToNat, reduceIte, hC1, hC2]
                refine (ih l3 md en hi (by omega) (by omega) (by omega) (by omega) (by omega)).mono ?_
                rintro _ _ ⟨rfl, l4, hp4, rfl⟩
                simp only [go_sem, Nat.reduceAdd, Nat.reduceSub, Nat.reduceMul, Nat.reduceLT, Nat.reduceLeDiff, Nat.reduceBEq, Nat.reduceEqDiff, Int.reduceLE, Int.reduceLT, Int.reduceNeg, Int.reduceAdd, Int.reduceSub, Int.reduceEq, Int.reduceMul, Int.reduceToNat, reduceIte]
                exact finish l4 (hp4.trans hp1)
              · by_cases hC1 : (md : Int) < (en : Int)
                · have hC2 : ¬ (en : Int) < (hi : Int) := fun h => hC ⟨hC1, h⟩
                  simp only [go_sem, Nat.reduceAdd, Nat.reduceSub, Nat.reduceMul, Nat.reduceLT, Nat.reduceLeDiff, Nat.reduceBEq, Nat.reduceEqDiff, Int.reduceLE, Int.reduceLT, Int.reduceNeg, Int.reduceAdd, Int.reduceSub, Int.reduceEq, Int.reduceMul, Int.reduceToNat, reduceIte, hC1, hC2]
                  exact finish l3 hp1
                · simp only [go_sem, Nat.reduceAdd, Nat.reduceSub, Nat.reduceMul, Nat.reduceLT, Nat.reduceLeDiff, Nat.reduceBEq, Nat.reduceEqDiff, Int.reduceLE, Int.reduceLT, Int.reduceNeg, Int.reduceAdd, Int.reduceSub, Int.reduceEq, Int.reduceMul, Int.reduceToNat, reduceIte, hC1]
                  exact finish l3 hp1
  · simp only [go_sem, Nat.reduceAdd, Nat.reduceSub, Nat.reduceMul, Nat.reduceLT, Nat.reduceLeDiff, Nat.reduceBEq, Nat.reduceEqDiff, Int.reduceLE, Int.reduceLT, Int.reduceNeg, Int.reduceAdd, Int.reduceSub, Int.reduceEq, Int.reduceMul, Int.reduceToNat, reduceIte, hwp]
    obtain ⟨s0, hs0⟩ : ∃ s0, s0 = lo := ⟨_, rfl⟩
    obtain ⟨r0, hr0⟩ : ∃ r0, r0 = m := ⟨_, rfl⟩
    have hF : lo ≤ s0 ∧ s0 ≤ r0 ∧ r0 ≤ l.length ∧ (lo + hi) / 2 + m - s0 ≤ hi ∧ r0 ≤ (lo + hi) / 2 + m := by omega
    refine ab_loop (ι := {p : Nat × Nat × List GAct // s0 ≤ p.1 ∧ p.1 ≤ p.2.1 ∧ p.2.1 ≤ r0 ∧ p.2.2.Perm l})
      (fun p => ⟨E 220 [(0, .ref b g 0 l.length none), (1, .d (.int .i64 lo)), (2, .d (.int .i64 m)), (3, .d (.int .i64 hi)), (4, .d (.fn 55)), (18, .d (.int .i64 (((lo + hi) / 2 : Nat) : Int))), (19, .d (.int .i64 (((lo + hi) / 2 + m : Nat) : Int))), (20, .d (.int .i64 (p.1.1 : Int))), (21, .d (.int .i64 (p.1.2.1 : Int))), (22, .d (.int .i64 (((lo + hi) / 2 + m - 1 : Nat) : Int)))], hAct H b g p.1.2.2⟩) (fun p => p.1.2.1 - p.1.1) ⟨(s0, r0, l), Nat.le_refl _, hF.2.1, Nat.le_refl _, .refl _⟩ (drop_E ?_) ?_
    · simp only [go_sem, Nat.reduceAdd, Nat.reduceSub, Nat.reduceMul, Nat.reduceLT, Nat.reduceLeDiff, Nat.reduceBEq, Nat.reduceEqDiff, Int.reduceLE, Int.reduceLT, Int.reduceNeg, Int.reduceAdd, Int.reduceSub, Int.reduceEq, Int.reduceMul, Int.reduceToNat, reduceIte, hs0, hr0]
    clear hs0 hr0 h3
    obtain ⟨hF1, hF2, hF3, hF4, hF5⟩ := hF
    rintro ⟨⟨i, j, l1⟩, hi1, hi2, hi3, hp1⟩
    simp only at hi1 hi2 hi3 hp1
    have hl1 := hp1.length_eq
    simp only [go_sem, Nat.reduceAdd, Nat.reduceSub, Nat.reduceMul, Nat.reduceLT, Nat.reduceLeDiff, Nat.reduceBEq, Nat.reduceEqDiff, Int.reduceLE, Int.reduceLT, Int.reduceNeg, Int.reduceAdd, Int.reduceSub, Int.reduceEq, Int.reduceMul, Int.reduceToNat, reduceIte]
    refine ⟨fun h4 => ?_, fun h4 => ?_⟩
    · have hsum : i + j ≤ 9223372036854775807 := by omega
      have hwc : IntKind.i64.wrap ((((lo + hi) / 2 + m - 1 : Nat) : Int) - (((i + j) / 2 : Nat) : Int)) = (((lo + hi) / 2 + m - 1 - (i + j) / 2 : Nat) : Int) := sub_w (by omega) (by omega)
      have hq1 : (lo + hi) / 2 + m - 1 - (i + j) / 2 < l.length := by omega
      have hq2 : (i + j) / 2 < l.length := by omega
      have hq3 : (lo + hi) / 2 + m - 1 - (i + j) / 2 < l1.length := by omega
      have hq4 : (i + j) / 2 < l1.length := by omega
      simp only [go_sem, Nat.reduceAdd, Nat.reduceSub, Nat.reduceMul, Nat.reduceLT, Nat.reduceLeDiff, Nat.reduceBEq, Nat.reduceEqDiff, Int.reduceLE, Int.reduceLT, Int.reduceNeg, Int.reduceAdd, Int.reduceSub, Int.reduceEq, Int.reduceMul, Int.reduceToNat, reduceIte, half_w1 hsum, half_w2 hsum, b_shr1 _ ((i + j : Nat) : Int) (by omega) (by omega), half_w3 hsum]
      refine ab_draw 14 (by kernel_rfl) (by kernel_rfl) (by kernel_rfl) ?_
      simp only [go_sem, Nat.reduceAdd, Nat.reduceSub, Nat.reduceMul, Nat.reduceLT, Nat.reduceLeDiff, Nat.reduceBEq, Nat.reduceEqDiff, Int.reduceLE, Int.reduceLT, Int.reduceNeg, Int.reduceAdd, Int.reduceSub, Int.reduceEq, Int.reduceMul, Int.reduceToNat, reduceIte, hwc, hAct_get hb, hq1, hq2, get_data encAct hq3, get_data encAct hq4]
      refine callq_pure (fun M => c_cmpAct _ _ M) ?_
      simp only [go_sem, Nat.reduceAdd, Nat.reduceSub, Nat.reduceMul, Nat.reduceLT, Nat.reduceLeDiff, Nat.reduceBEq, Nat.reduceEqDiff, Int.reduceLE, Int.reduceLT, Int.reduceNeg, Int.reduceAdd, Int.reduceSub, Int.reduceEq, Int.reduceMul, Int.reduceToNat, reduceIte]
      refine ⟨fun h5 => ?_, fun h5 => ?_⟩
      · simp only [go_sem, Nat.reduceAdd, Nat.reduceSub, Nat.reduceMul, Nat.reduceLT, Nat.reduceLeDiff, Nat.reduceBEq, Nat.reduceEqDiff, Int.reduceLE, Int.reduceLT, Int.reduceNeg, Int.reduceAdd, Int.reduceSub, Int.reduceEq, Int.reduceMul, Int.reduceToNat, reduceIte]
        refine ⟨⟨(i, (i + j) / 2, l1), hi1, by simp only; omega, by simp only; omega, hp1⟩, by simp only; omega, drop_E ?_⟩
        simp only [go_sem, Nat.reduceAdd, Nat.reduceSub, Nat.reduceMul, Nat.reduceLT, Nat.reduceLeDiff, Nat.reduceBEq, Nat.reduceEqDiff, Int.reduceLE, Int.reduceLT, Int.reduceNeg, Int.reduceAdd, Int.reduceSub, Int.reduceEq, Int.reduceMul, Int.reduceToNat, reduceIte]
      · simp only [go_sem, Nat.reduceAdd, Nat.reduceSub, Nat.reduceMul, Nat.reduceLT, Nat.reduceLeDiff, Nat.reduceBEq, Nat.reduceEqDiff, Int.reduceLE, Int.reduceLT, Int.reduceNeg, Int.reduceAdd, Int.reduceSub, Int.reduceEq, Int.reduceMul, Int.reduceToNat, reduceIte, wrap_succ ((i + j) / 2) (by omega)]
        refine ⟨⟨((i + j) / 2 + 1, j, l1), by simp only; omega, by simp only; omega, hi3, hp1⟩, by simp only; omega, drop_E ?_⟩
        simp only [go_sem, Nat.reduceAdd, Nat.reduceSub, Nat.reduceMul, Nat.reduceLT, Nat.reduceLeDiff, Nat.reduceBEq, Nat.reduceEqDiff, Int.reduceLE, Int.reduceLT, Int.reduceNeg, Int.reduceAdd, Int.reduceSub, Int.reduceEq, Int.reduceMul, Int.reduceToNat, reduceIte]
    · have hij : i = j := by omega
      subst hij
      have hwe : IntKind.i64.wrap ((((lo + hi) / 2 + m : Nat) : Int) - (i : Int)) = (((lo + hi) / 2 + m - i : Nat) : Int) := sub_w (by omega) (by omega)
      obtain ⟨en, hen⟩ : ∃ en, en = (lo + hi) / 2 + m - i := ⟨_, rfl⟩
      obtain ⟨md, hmd⟩ : ∃ md, md = (lo + hi) / 2 := ⟨_, rfl⟩
      rw [← hen] at hwe
      have hmd1 : lo < md ∧ md < hi := by omega
      have hen1 : en ≤ hi := by omega
      simp only [← hmd] at hwe ⊢
      simp only [go_sem, Nat.reduceAdd, Nat.reduceSub, Nat.reduceMul, Nat.reduceLT, Nat.reduceLeDiff, Nat.reduceBEq, Nat.reduceEqDiff, Int.reduceLE, Int.reduceLT, Int.reduceNeg, Int.reduceAdd, Int.reduceSub, Int.reduceEq, Int.reduceMul, Int.reduceToNat, reduceIte, hwe]
      have finish : ∀ (l1 : List GAct), l1.Perm l → ∃ l', l'.Perm l ∧ hAct H b g l1 = hAct H b g l' := fun l1 h => ⟨l1, h, rfl⟩
      by_cases hA : (i : Int) < (m : Int) ∧ (m : Int) < (en : Int)
      · obtain ⟨hA1, hA2⟩ := hA
        simp only [go_sem, Nat.reduceAdd, Nat.reduceSub, Nat.reduceMul, Nat.reduceLT, Nat.reduceLeDiff, Nat.reduceBEq, Nat.reduceEqDiff, Int.reduceLE, Int.reduceLT, Int.reduceNeg, Int.reduceAdd, Int.reduceSub, Int.reduceEq, Int.reduceMul, Int.reduceToNat, reduceIte, hA1, hA2]
        refine (c_rotate H b g l.length hb l1 (by omega) (by omega) i m en (.d (.fn 55)) rfl (fun _ => rfl) (by omega) (by omega) (by omega)).mono ?_
        rintro _ _ ⟨rfl, l2, hp2, rfl⟩
        replace hp1 := hp2.trans hp1
        clear hp2 hl1
        have hl2 := hp1.length_eq
        by_cases hB : (lo : Int) < (i : Int) ∧ (i : Int) < (md : Int)
        · obtain ⟨hB1, hB2⟩ := hB
          simp only [go_sem, Nat.reduceAdd, Nat.reduceSub, Nat.reduceMul, Nat.reduceLT, Nat.reduceLeDiff, Nat.reduceBEq, Nat.reduceEqDiff, Int.reduceLE, Int.reduceLT, Int.reduceNeg, Int.reduceAdd, Int.reduceSub, Int.reduceEq, Int.reduceMul, Int.reduceToNat, reduceIte, hB1, hB2]
          refine (ih l2 lo i md (by omega) (by omega) (by omega) (by omega) (by omega)).mono ?_
          rintro _ _ ⟨rfl, l3, hp3, rfl⟩
          replace hp1 := hp3.trans hp1
          clear hp3 hl2
          have hl3 := hp1.length_eq
          by_cases hC : (md : Int) < (en : Int) ∧ (en : Int) < (hi : Int)
          · obtain ⟨hC1, hC2⟩ := hC
            simp only [go_sem, Nat.reduceAdd, Nat.reduceSub, Nat.reduceMul, Nat.reduceLT, Nat.reduceLeDiff, Nat.reduceBEq, Nat.reduceEqDiff, Int.reduceLE, Int.reduceLT, Int.reduceNeg, Int.reduceAdd, Int.reduceSub, Int.reduceEq, Int.reduceMul, Int.reduceToNat, reduceIte, hC1, hC2]
            refine (ih l3 md en hi (by omega) (by omega) (by omega) (by omega) (by omega)).mono ?_
            rintro _ _ ⟨rfl, l4, hp4, rfl⟩
            simp only [go_sem, Nat.reduceAdd, Nat.reduceSub, Nat.reduceMul, Nat.reduceLT, Nat.reduceLeDiff, Nat.reduceBEq, Nat.reduceEqDiff, Int.reduceLE, Int.reduceLT, Int.reduceNeg, Int.reduceAdd, Int.reduceSub, Int.reduceEq, Int.reduceMul, Int.reduceToNat, reduceIte]
            exact finish l4 (hp4.trans hp1)
          · by_cases hC1 : (md : Int) < (en : Int)
            · have hC2 : ¬ (en : Int) < (hi : Int) := fun h => hC ⟨hC1, h⟩
              simp only [go_sem, Nat.reduceAdd, Nat.reduceSub, Nat.reduceMul, Nat.reduceLT, Nat.reduceLeDiff, Nat.reduceBEq, Nat.reduceEqDiff, Int.reduceLE, Int.reduceLT, Int.reduceNeg, Int.reduceAdd, Int.reduceSub, Int.reduceEq, Int.reduceMul, Int.reduceToNat, reduceIte, hC1, hC2]
              exact finish l3 hp1
            · simp only [go_sem, Nat.reduceAdd, Nat.reduceSub, Nat.reduceMul, Nat.reduceLT, Nat.reduceLeDiff, Nat.reduceBEq, Nat.reduceEqDiff, Int.reduceLE, Int.reduceLT, Int.reduceNeg, Int.reduceAdd, Int.reduceSub, Int.reduceEq, Int.reduceMul, Int.reduceToNat, reduceIte, hC1]
              exact finish l3 hp1
        · obtain ⟨l3, hE⟩ : ∃ l3, l3 = l2 := ⟨l2, rfl⟩
          subst hE
          clear hl2
          by_cases hB1 : (lo : Int) < (i : Int)
          · have hB2 : ¬ (i : Int) < (md : Int) := fun h => hB ⟨hB1, h⟩
            simp only [go_sem, Nat.reduceAdd, Nat.reduceSub, Nat.reduceMul, Nat.reduceLT, Nat.reduceLeDiff, Nat.reduceBEq, Nat.reduceEqDiff, Int.reduceLE, Int.reduceLT, Int.reduceNeg, Int.reduceAdd, Int.reduceSub, Int.reduceEq, Int.reduceMul, Int.reduceToNat, reduceIte, hB1, hB2]
            have hl3 := hp1.length_eq
            by_cases hC : (md : Int) < (en : Int) ∧ (en : Int) < (hi : Int)
            · obtain ⟨hC1, hC2⟩ := hC
              simp only [go_sem, Nat.reduceAdd, Nat.reduceSub, Nat.reduceMul, Nat.reduceLT, Nat.reduceLeDiff, Nat.reduceBEq, Nat.reduceEqDiff, Int.reduceLE, Int.reduceLT, Int.reduceNeg, Int.reduceAdd, Int.reduceSub, Int.reduceEq, Int.reduceMul, Int.reduceToNat, reduceIte, hC1, hC2]
              refine (ih l3 md en hi (by omega) (by omega) (by omega) (by omega) (by omega)).mono ?_
              rintro _ _ ⟨rfl, l4, hp4, rfl⟩
              simp only [go_sem, Nat.reduceAdd, Nat.reduceSub, Nat.reduceMul, Nat.reduceLT, Nat.reduceLeDiff, Nat.reduceBEq, Nat.reduceEqDiff, Int.reduceLE, Int.reduceLT, Int.reduceNeg, Int.reduceAdd, Int.reduceSub, Int.reduceEq, Int.reduceMul, Int.reduceToNat, reduceIte]
              exact finish l4 (hp4.trans hp1)
            · by_cases hC1 : (md : Int) < (en : Int)
              · have hC2 : ¬ (en : Int) < (hi : Int) := fun h => hC ⟨hC1, h⟩
                simp only [go_sem, Nat.reduceAdd, Nat.reduceSub, Nat.reduceMul, Nat.reduceLT, Nat.reduceLeDiff, Nat.reduceBEq, Nat.reduceEqDiff, Int.reduceLE, Int.reduceLT, Int.reduceNeg, Int.reduceAdd, Int.reduceSub, Int.reduceEq, Int.reduceMul, Int.reduceToNat, reduceIte, hC1, hC2]
                exact finish l3 hp1
              · simp only [go_sem, Nat.reduceAdd, Nat.reduceSub, Nat.reduceMul, Nat.reduceLT, Nat.reduceLeDiff, Nat.reduceBEq, Nat.reduceEqDiff, Int.reduceLE, Int.reduceLT, Int.reduceNeg, Int.reduceAdd, Int.reduceSub, Int.reduceEq, Int.reduceMul, Int.reduceToNat, reduceIte, hC1]
                exact finish l3 hp1
          · simp only [go_sem, Nat.reduceAdd, Nat.reduceSub, Nat.reduceMul, Nat.reduceLT, Nat.reduceLeDiff, Nat.reduceBEq, Nat.reduceEqDiff, Int.reduceLE, Int.reduceLT, Int.reduceNeg, Int.reduceAdd, Int.reduceSub, Int.reduceEq, Int.reduceMul, Int.reduceToNat, reduceIte, hB1]
            have hl3 := hp1.length_eq
            by_cases hC : (md : Int) < (en : Int) ∧ (en : Int) < (hi : Int)
            · obtain ⟨hC1, hC2⟩ := hC
              simp only [go_sem, Nat.reduceAdd, Nat.reduceSub, Nat.reduceMul, Nat.reduceLT, Nat.reduceLeDiff, Nat.reduceBEq, Nat.reduceEqDiff, Int.reduceLE, Int.reduceLT, Int.reduceNeg, Int.reduceAdd, Int.reduceSub, Int.reduceEq, Int.reduceMul, Int.reduceToNat, reduceIte, hC1, hC2]
              refine (ih l3 md en hi (by omega) (by omega) (by omega) (by omega) (by omega)).mono ?_
              rintro _ _ ⟨rfl, l4, hp4, rfl⟩
              simp only [go_sem, Nat.reduceAdd, Nat.reduceSub, Nat.reduceMul, Nat.reduceLT, Nat.reduceLeDiff, Nat.reduceBEq, Nat.reduceEqDiff, Int.reduceLE, Int.reduceLT, Int.reduceNeg, Int.reduceAdd, Int.reduceSub, Int.reduceEq, Int.reduceMul, Int.reduceToNat, reduceIte]
              exact finish l4 (hp4.trans hp1)
            · by_cases hC1 : (md : Int) < (en : Int)
              · have hC2 : ¬ (en : Int) < (hi : Int) := fun h => hC ⟨hC1, h⟩
                simp only [go_sem, Nat.reduceAdd, Nat.reduceSub, Nat.reduceMul, Nat.reduceLT, Nat.reduceLeDiff, Nat.reduceBEq, Nat.reduceEqDiff, Int.reduceLE, Int.reduceLT, Int.reduceNeg, Int.reduceAdd, Int.reduceSub, Int.reduceEq, Int.reduceMul, Int.reduceToNat, reduceIte, hC1, hC2]
                exact finish l3 hp1
              · simp only [go_sem, Nat.reduceAdd, Nat.reduceSub, Nat.reduceMul, Nat.reduceLT, Nat.reduceLeDiff, Nat.reduceBEq, Nat.reduceEqDiff, Int.reduceLE, Int.reduceLT, Int.reduceNeg, Int.reduceAdd, Int.reduceSub, Int.reduceEq, Int.reduceMul, Int.reduceToNat, reduceIte, hC1]
                exact finish l3 hp1
      · obtain ⟨l2, hE⟩ : ∃ l2, l2 = l1 := ⟨l1, rfl⟩
        subst hE
        clear hl1
        by_cases hA1 : (i : Int) < (m : Int)
        · have hA2 : ¬ (m : Int) < (en : Int) := fun h => hA ⟨hA1, h⟩
          simp only [go_sem, Nat.reduceAdd, Nat.reduceSub, Nat.reduceMul, Nat.reduceLT, Nat.reduceLeDiff, Nat.reduceBEq, Nat.reduceEqDiff, Int.reduceLE, Int.reduceLT, Int.reduceNeg, Int.reduceAdd, Int.reduceSub, Int.reduceEq, Int.reduceMul, Int.reduceToNat, reduceIte, hA1, hA2]
          have hl2 := hp1.length_eq
          by_cases hB : (lo : Int) < (i : Int) ∧ (i : Int) < (md : Int)
          · obtain ⟨hB1, hB2⟩ := hB
            simp only [go_sem, Nat.reduceAdd, Nat.reduceSub, Nat.reduceMul, Nat.reduceLT, Nat.reduceLeDiff, Nat.reduceBEq, Nat.reduceEqDiff, Int.reduceLE, Int.reduceLT, Int.reduceNeg, Int.reduceAdd, Int.reduceSub, Int.reduceEq, Int.reduceMul, Int.reduceToNat, reduceIte, hB1, hB2]
            refine (ih l2 lo i md (by omega) (by omega) (by omega) (by omega) (by omega)).mono ?_
            rintro _ _ ⟨rfl, l3, hp3, rfl⟩
            replace hp1 := hp3.trans hp1
            clear hp3 hl2
            have hl3 := hp1.length_eq
            by_cases hC : (md : Int) < (en : Int) ∧ (en : Int) < (hi : Int)
            · obtain ⟨hC1, hC2⟩ := hC
              simp only [go_sem, Nat.reduceAdd, Nat.reduceSub, Nat.reduceMul, Nat.reduceLT, Nat.reduceLeDiff, Nat.reduceBEq, Nat.reduceEqDiff, Int.reduceLE, Int.reduceLT, Int.reduceNeg, Int.reduceAdd, Int.reduceSub, Int.reduceEq, Int.reduceMul, Int.reduceToNat, reduceIte, hC1, hC2]
              refine (ih l3 md en hi (by omega) (by omega) (by omega) (by omega) (by omega)).mono ?_
              rintro _ _ ⟨rfl, l4, hp4, rfl⟩
              simp only [go_sem, Nat.reduceAdd, Nat.reduceSub, Nat.reduceMul, Nat.reduceLT, Nat.reduceLeDiff, Nat.reduceBEq, Nat.reduceEqDiff, Int.reduceLE, Int.reduceLT, Int.reduceNeg, Int.reduceAdd, Int.reduceSub, Int.reduceEq, Int.reduceMul, Int.reduceToNat, reduceIte]
              exact finish l4 (hp4.trans hp1)
            · by_cases hC1 : (md : Int) < (en : Int)
              · have hC2 : ¬ (en : Int) < (hi : Int) := fun h => hC ⟨hC1, h⟩
                simp only [go_sem, Nat.reduceAdd, Nat.reduceSub, Nat.reduceMul, Nat.reduceLT, Nat.reduceLeDiff, Nat.reduceBEq, Nat.reduceEqDiff, Int.reduceLE, Int.reduceLT, Int.reduceNeg, Int.reduceAdd, Int.reduceSub, Int.reduceEq, Int.reduceMul, Int.reduceToNat, reduceIte, hC1, hC2]
                exact finish l3 hp1
              · simp only [go_sem, Nat.reduceAdd, Nat.reduceSub, Nat.reduceMul, Nat.reduceLT, Nat.reduceLeDiff, Nat.reduceBEq, Nat.reduceEqDiff, Int.reduceLE, Int.reduceLT, Int.reduceNeg, Int.reduceAdd, Int.reduceSub, Int.reduceEq, Int.reduceMul, Int.reduceToNat, reduceIte, hC1]
                exact finish l3 hp1
          · obtain ⟨l3, hE⟩ : ∃ l3, l3 = l2 := ⟨l2, rfl⟩
            subst hE
            clear hl2
            by_cases hB1 : (lo : Int) < (i : Int)
            · have hB2 : ¬ (i : Int) < (md : Int) := fun h => hB ⟨hB1, h⟩
              simp only [go_sem, Nat.reduceAdd, Nat.reduceSub, Nat.reduceMul, Nat.reduceLT, Nat.reduceLeDiff, Nat.reduceBEq, Nat.reduceEqDiff, Int.reduceLE, Int.reduceLT, Int.reduceNeg, Int.reduceAdd, Int.reduceSub, Int.reduceEq, Int.reduceMul, Int.reduceToNat, reduceIte, hB1, hB2]
              have hl3 := hp1.length_eq
              by_cases hC : (md : Int) < (en : Int) ∧ (en : Int) < (hi : Int)
              · obtain ⟨hC1, hC2⟩ := hC
                simp only [go_sem, Nat.reduceAdd, Nat.reduceSub, Nat.reduceMul, Nat.reduceLT, Nat.reduceLeDiff, Nat.reduceBEq, Nat.reduceEqDiff, Int.reduceLE, Int.reduceLT, Int.reduceNeg, Int.reduceAdd, Int.reduceSub, Int.reduceEq, Int.reduceMul, Int.reduceToNat, reduceIte, hC1, hC2]
                refine (ih l3 md en hi (by omega) (by omega) (by omega) (by omega) (by omega)).mono ?_
                rintro _ _ ⟨rfl, l4, hp4, rfl⟩
                simp only [go_sem, Nat.reduceAdd, Nat.reduceSub, Nat.reduceMul, Nat.reduceLT, Nat.reduceLeDiff, Nat.reduceBEq, Nat.reduceEqDiff, Int.reduceLE, Int.reduceLT, Int.reduceNeg, Int.reduceAdd, Int.reduceSub, Int.reduceEq, Int.reduceMul, Int.reduceToNat, reduceIte]
                exact finish l4 (hp4.trans hp1)
              · by_cases hC1 : (md : Int) < (en : Int)
                · have hC2 : ¬ (en : Int) < (hi : Int) := fun h => hC ⟨hC1, h⟩
                  simp only [go_sem, Nat.reduceAdd, Nat.reduceSub, Nat.reduceMul, Nat.reduceLT, Nat.reduceLeDiff, Nat.reduceBEq, Nat.reduceEqDiff, Int.reduceLE, Int.reduceLT, Int.reduceNeg, Int.reduceAdd, Int.reduceSub, Int.reduceEq, Int.reduceMul, Int.reduceToNat, reduceIte, hC1, hC2]
                  exact finish l3 hp1
                · simp only [go_sem, Nat.reduceAdd, Nat.reduceSub, Nat.reduceMul, Nat.reduceLT, Nat.reduceLeDiff, Nat.reduceBEq, Nat.reduceEqDiff, Int.reduceLE, Int.reduceLT, Int.reduceNeg, Int.reduceAdd, Int.reduceSub, Int.reduceEq, Int.reduceMul, Int.reduceToNat, reduceIte, hC1]
                  exact finish l3 hp1
            · simp only [go_sem, Nat.reduceAdd, Nat.reduceSub, Nat.reduceMul, Nat.reduceLT, Nat.reduceLeDiff, Nat.reduceBEq, Nat.reduceEqDiff, Int.reduceLE, Int.reduceLT, Int.reduceNeg, Int.reduceAdd, Int.reduceSub, Int.reduceEq, Int.reduceMul, Int.reduceToNat, reduceIte, hB1]
              have hl3 := hp1.length_eq
              by_cases hC : (md : Int) < (en : Int) ∧ (en : Int) < (hi : Int)
              · obtain ⟨hC1, hC2⟩ := hC
                simp only [go_sem, Nat.reduceAdd, Nat.reduceSub, Nat.reduceMul, Nat.reduceLT, Nat.reduceLeDiff, Nat.reduceBEq, Nat.reduceEqDiff, Int.reduceLE, Int.reduceLT, Int.reduceNeg, Int.reduceAdd, Int.reduceSub, Int.reduceEq, Int.reduceMul, Int.reduceToNat, reduceIte, hC1, hC2]
                refine (ih l3 md en hi (by omega) (by omega) (by omega) (by omega) (by omega)).mono ?_
                rintro _ _ ⟨rfl, l4, hp4, rfl⟩
                simp only [go_sem, Nat.reduceAdd, Nat.reduceSub, Nat.reduceMul, Nat.reduceLT, Nat.reduceLeDiff, Nat.reduceBEq, Nat.reduceEqDiff, Int.reduceLE, Int.reduceLT, Int.reduceNeg, Int.reduceAdd, Int.reduceSub, Int.reduceEq, Int.reduceMul, Int.reduceToNat, reduceIte]
                exact finish l4 (hp4.trans hp1)
              · by_cases hC1 : (md : Int) < (en : Int)
                · have hC2 : ¬ (en : Int) < (hi : Int) := fun h => hC ⟨hC1, h⟩
                  simp only [go_sem, Nat.reduceAdd, Nat.reduceSub, Nat.reduceMul, Nat.reduceLT, Nat.reduceLeDiff, Nat.reduceBEq, Nat.reduceEqDiff, Int.reduceLE, Int.reduceLT, Int.reduceNeg, Int.reduceAdd, Int.reduceSub, Int.reduceEq, Int.reduceMul, Int.reduceToNat, reduceIte, hC1, hC2]
                  exact finish l3 hp1
                · simp only [go_sem, Nat.reduceAdd, Nat.reduceSub, Nat.reduceMul, Nat.reduceLT, Nat.reduceLeDiff, Nat.reduceBEq, Nat.reduceEqDiff, Int.reduceLE, Int.reduceLT, Int.reduceNeg, Int.reduceAdd, Int.reduceSub, Int.reduceEq, Int.reduceMul, Int.reduceToNat, reduceIte, hC1]
                  exact finish l3 hp1
        · simp only [go_sem, Nat.reduceAdd, Nat.reduceSub, Nat.reduceMul, Nat.reduceLT, Nat.reduceLeDiff, Nat.reduceBEq, Nat.reduceEqDiff, Int.reduceLE, Int.reduceLT, Int.reduceNeg, Int.reduceAdd, Int.reduceSub, Int.reduceEq, Int.reduceMul, Int.reduceToNat, reduceIte, hA1]
          have hl2 := hp1.length_eq
          by_cases hB : (lo : Int) < (i : Int) ∧ (i : Int) < (md : Int)
          · obtain ⟨hB1, hB2⟩ := hB
            simp only [go_sem, Nat.reduceAdd, Nat.reduceSub, Nat.reduceMul, Nat.reduceLT, Nat.reduceLeDiff, Nat.reduceBEq, Nat.reduceEqDiff, Int.reduceLE, Int.reduceLT, Int.reduceNeg, Int.reduceAdd, Int.reduceSub, Int.reduceEq, Int.reduceMul, Int.reduceToNat, reduceIte, hB1, hB2]
            refine (ih l2 lo i md (by omega) (by omega) (by omega) (by omega) (by omega)).mono ?_
            rintro _ _ ⟨rfl, l3, hp3, rfl⟩
            replace hp1 := hp3.trans hp1
            clear hp3 hl2
            have hl3 := hp1.length_eq
            by_cases hC : (md : Int) < (en : Int) ∧ (en : Int) < (hi : Int)
            · obtain ⟨hC1, hC2⟩ := hC
              simp only [go_sem, Nat.reduceAdd, Nat.reduceSub, Nat.reduceMul, Nat.reduceLT, Nat.reduceLeDiff, Nat.reduceBEq, Nat.reduceEqDiff, Int.reduceLE, Int.reduceLT, Int.reduceNeg, Int.reduceAdd, Int.reduceSub, Int.reduceEq, Int.reduceMul, Int.reduceToNat, reduceIte, hC1, hC2]
              refine (ih l3 md en hi (by omega) (by omega) (by omega) (by omega) (by omega)).mono ?_
              rintro _ _ ⟨rfl, l4, hp4, rfl⟩
              simp only [go_sem, Nat.reduceAdd, Nat.reduceSub, Nat.reduceMul, Nat.reduceLT, Nat.reduceLeDiff, Nat.reduceBEq, Nat.reduceEqDiff, Int.reduceLE, Int.reduceLT, Int.reduceNeg, Int.reduceAdd, Int.reduceSub, Int.reduceEq, Int.reduceMul, Int.reduceToNat, reduceIte]
              exact finish l4 (hp4.trans hp1)
            · by_cases hC1 : (md : Int) < (en : Int)
              · have hC2 : ¬ (en : Int) < (hi : Int) := fun h => hC ⟨hC1, h⟩
                simp only [go_sem, Nat.reduceAdd, Nat.reduceSub, Nat.reduceMul, Nat.reduceLT, Nat.reduceLeDiff, Nat.reduceBEq, Nat.reduceEqDiff, Int.reduceLE, Int.reduceLT, Int.reduceNeg, Int.reduceAdd, Int.reduceSub, Int.reduceEq, Int.reduceMul, Int.reduceToNat, reduceIte, hC1, hC2]
                exact finish l3 hp1
              · simp only [go_sem, Nat.reduceAdd, Nat.reduceSub, Nat.reduceMul, Nat.reduceLT, Nat.reduceLeDiff, Nat.reduceBEq, Nat.reduceEqDiff, Int.reduceLE, Int.reduceLT, Int.reduceNeg, Int.reduceAdd, Int.reduceSub, Int.reduceEq, Int.reduceMul, Int.reduceToNat, reduceIte, hC1]
                exact finish l3 hp1
          · obtain ⟨l3, hE⟩ : ∃ l3, l3 = l2 := ⟨l2, rfl⟩
            subst hE
            clear hl2
            by_cases hB1 : (lo : Int) < (i : Int)
            · have hB2 : ¬ (i : Int) < (md : Int) := fun h => hB ⟨hB1, h⟩
              simp only [go_sem, Nat.reduceAdd, Nat.reduceSub, Nat.reduceMul, Nat.reduceLT, Nat.reduceLeDiff, Nat.reduceBEq, Nat.reduceEqDiff, Int.reduceLE, Int.reduceLT, Int.reduceNeg, Int.reduceAdd, Int.reduceSub, Int.reduceEq, Int.reduceMul, Int.reduceToNat, reduceIte, hB1, hB2]
              have hl3 := hp1.length_eq
              by_cases hC : (md : Int) < (en : Int) ∧ (en : Int) < (hi : Int)
              · obtain ⟨hC1, hC2⟩ := hC
                simp only [go_sem, Nat.reduceAdd, Nat.reduceSub, Nat.reduceMul, Nat.reduceLT, Nat.reduceLeDiff, Nat.reduceBEq, Nat.reduceEqDiff, Int.reduceLE, Int.reduceLT, Int.reduceNeg, Int.reduceAdd, Int.reduceSub, Int.reduceEq, Int.reduceMul, Int.reduceToNat, reduceIte, hC1, hC2]
                refine (ih l3 md en hi (by omega) (by omega) (by omega) (by omega) (by omega)).mono ?_
                rintro _ _ ⟨rfl, l4, hp4, rfl⟩
                simp only [go_sem, Nat.reduceAdd, Nat.reduceSub, Nat.reduceMul, Nat.reduceLT, Nat.reduceLeDiff, Nat.reduceBEq, Nat.reduceEqDiff, Int.reduceLE, Int.reduceLT, Int.reduceNeg, Int.reduceAdd, Int.reduceSub, Int.reduceEq, Int.reduceMul, Int.reduceToNat, reduceIte]
                exact finish l4 (hp4.trans hp1)
              · by_cases hC1 : (md : Int) < (en : Int)
                · have hC2 : ¬ (en : Int) < (hi : Int) := fun h => hC ⟨hC1, h⟩
                  simp only [go_sem, Nat.reduceAdd, Nat.reduceSub, Nat.reduceMul, Nat.reduceLT, Nat.reduceLeDiff, Nat.reduceBEq, Nat.reduceEqDiff, Int.reduceLE, Int.reduceLT, Int.reduceNeg, Int.reduceAdd, Int.reduceSub, Int.reduceEq, Int.reduceMul, Int.reduceToNat, reduceIte, hC1, hC2]
                  exact finish l3 hp1
                · simp only [go_sem, Nat.reduceAdd, Nat.reduceSub, Nat.reduceMul, Nat.reduceLT, Nat.reduceLeDiff, Nat.reduceBEq, Nat.reduceEqDiff, Int.reduceLE, Int.reduceLT, Int.reduceNeg, Int.reduceAdd, Int.reduceSub, Int.reduceEq, Int.reduceMul, Int.reduceToNat, reduceIte, hC1]
                  exact finish l3 hp1
            · simp only [go_sem, Nat.reduceAdd, Nat.reduceSub, Nat.reduceMul, Nat.reduceLT, Nat.reduceLeDiff, Nat.reduceBEq, Nat.reduceEqDiff, Int.reduceLE, Int.reduceLT, Int.reduceNeg, Int.reduceAdd, Int.reduceSub, Int.reduceEq, Int.reduceMul, Int.reduceToNat, reduceIte, hB1]
              have hl3 := hp1.length_eq
              by_cases hC : (md : Int) < (en : Int) ∧ (en : Int) < (hi : Int)
              · obtain ⟨hC1, hC2⟩ := hC
                simp only [go_sem, Nat.reduceAdd, Nat.reduceSub, Nat.reduceMul, Nat.reduceLT, Nat.reduceLeDiff, Nat.reduceBEq, Nat.reduceEqDiff, Int.reduceLE, Int.reduceLT, Int.reduceNeg, Int.reduceAdd, Int.reduceSub, Int.reduceEq, Int.reduceMul, Int.reduceToNat, reduceIte, hC1, hC2]
                refine (ih l3 md en hi (by omega) (by omega) (by omega) (by omega) (by omega)).mono ?_
                rintro _ _ ⟨rfl, l4, hp4, rfl⟩
                simp only [go_sem, Nat.reduceAdd, Nat.reduceSub, Nat.reduceMul, Nat.reduceLT, Nat.reduceLeDiff, Nat.reduceBEq, Nat.reduceEqDiff, Int.reduceLE, Int.reduceLT, Int.reduceNeg, Int.reduceAdd, Int.reduceSub, Int.reduceEq, Int.reduceMul, Int.reduceToNat, reduceIte]
                exact finish l4 (hp4.trans hp1)
              · by_cases hC1 : (md : Int) < (en : Int)
                · have hC2 : ¬ (en : Int) < (hi : Int) := fun h => hC ⟨hC1, h⟩
                  simp only [go_sem, Nat.reduceAdd, Nat.reduceSub, Nat.reduceMul, Nat.reduceLT, Nat.reduceLeDiff, Nat.reduceBEq, Nat.reduceEqDiff, Int.reduceLE, Int.reduceLT, Int.reduceNeg, Int.reduceAdd, Int.reduceSub, Int.reduceEq, Int.reduceMul, Int.reduceToNat, reduceIte, hC1, hC2]
                  exact finish l3 hp1
                · simp only [go_sem, Nat.reduceAdd, Nat.reduceSub, Nat.reduceMul, Nat.reduceLT, Nat.reduceLeDiff, Nat.reduceBEq, Nat.reduceEqDiff, Int.reduceLE, Int.reduceLT, Int.reduceNeg, Int.reduceAdd, Int.reduceSub, Int.reduceEq, Int.reduceMul, Int.reduceToNat, reduceIte, hC1]
                  exact finish l3 hp1
end Go.Ab

open Go
namespace Go.Ab
attribute [local go_sem] ents held Option.isSome_some Option.isSome_none Option.map_some Option.map_none List.length_map List.map_cons List.map_nil List.length_cons List.length_nil List.cons_append List.nil_append List.append_assoc true_and and_true true_or or_true eq_self decide_true decide_false Bool.not_true Bool.not_false not_true not_false Int.natCast_zero Nat.zero_add Bool.false_eq_true Bool.true_eq_false if_true if_false Bool.or_false Bool.or_true Bool.false_or Bool.true_or Bool.and_false Bool.false_and
set_option maxRecDepth 8000
set_option maxHeartbeats 4000000
set_option linter.unusedSimpArgs false
set_option linter.unusedVariables false
variable {GT : Globs}

theorem add_w {i j : Nat} (h : i + j ≤ 9223372036854775807) : IntKind.i64.wrap ((i : Int) + (j : Int)) = ((i + j : Nat) : Int) := half_w1 h

theorem c_stable (H : List AObj) (b g n : Nat) (hb : b < H.length) (l : List GAct) (hn : n = l.length) (hs : l.length ≤ 1099511627776) :
    ACalls Go.Proofs.Tryz.prog GT 84 [.ref b g 0 n none, .d (.int .i64 n), .d (.fn 55)] (hAct H b g l) fun v H' => v = .tup [] ∧ ∃ l', l'.Perm l ∧ H' = hAct H b g l' := by
  subst hn
  refine acalls_all (fn := Go.Proofs.Tryz.f84) (c := _) 63 [] (by kernel_rfl) rfl (by kernel_rfl) rfl rfl (by simp) ?_
  simp only [go_sem, Nat.reduceAdd, Nat.reduceSub, Nat.reduceMul, Nat.reduceLT, Nat.reduceLeDiff, Nat.reduceBEq, Nat.reduceEqDiff, Int.reduceLE, Int.reduceLT, Int.reduceNeg, Int.reduceAdd, Int.reduceSub, Int.reduceEq, Int.reduceMul, Int.reduceToNat, reduceIte]
  refine ab_loop (ι := {p : Nat × List GAct // p.1 ≤ l.length ∧ p.2.Perm l})
    (fun p => ⟨E 63 [(0, .ref b g 0 l.length none), (1, .d (.int .i64 l.length)), (2, .d (.fn 55)), (6, .d (.int .i64 20)), (7, .d (.int .i64 (p.1.1 : Int))), (8, .d (.int .i64 ((p.1.1 + 20 : Nat) : Int)))], hAct H b g p.1.2⟩) (fun p => l.length - p.1.1) ⟨(0, l), Nat.zero_le _, .refl _⟩ (drop_E ?_) ?_
  · simp only [go_sem, Nat.reduceAdd, Nat.reduceSub, Nat.reduceMul, Nat.reduceLT, Nat.reduceLeDiff, Nat.reduceBEq, Nat.reduceEqDiff, Int.reduceLE, Int.reduceLT, Int.reduceNeg, Int.reduceAdd, Int.reduceSub, Int.reduceEq, Int.reduceMul, Int.reduceToNat, reduceIte]
    rfl
  rintro ⟨⟨a, l1⟩, ha, hp1⟩
  simp only at ha hp1
  have hl1 := hp1.length_eq
  simp only [go_sem, Nat.reduceAdd, Nat.reduceSub, Nat.reduceMul, Nat.reduceLT, Nat.reduceLeDiff, Nat.reduceBEq, Nat.reduceEqDiff, Int.reduceLE, Int.reduceLT, Int.reduceNeg, Int.reduceAdd, Int.reduceSub, Int.reduceEq, Int.reduceMul, Int.reduceToNat, reduceIte]
  refine ⟨fun h1 => ?_, fun h1 => ?_⟩
  · simp only [go_sem, Nat.reduceAdd, Nat.reduceSub, Nat.reduceMul, Nat.reduceLT, Nat.reduceLeDiff, Nat.reduceBEq, Nat.reduceEqDiff, Int.reduceLE, Int.reduceLT, Int.reduceNeg, Int.reduceAdd, Int.reduceSub, Int.reduceEq, Int.reduceMul, Int.reduceToNat, reduceIte]
    refine (c_insSort H b g l.length hb l1 (by omega) (by omega) a (a + 20) (by omega) (by omega)).mono ?_
    rintro _ _ ⟨rfl, l2, hp2, rfl⟩
    have hw : IntKind.i64.wrap (((a + 20 : Nat) : Int) + 20) = ((a + 20 + 20 : Nat) : Int) := add_w (j := 20) (by omega)
    simp only [go_sem, Nat.reduceAdd, Nat.reduceSub, Nat.reduceMul, Nat.reduceLT, Nat.reduceLeDiff, Nat.reduceBEq, Nat.reduceEqDiff, Int.reduceLE, Int.reduceLT, Int.reduceNeg, Int.reduceAdd, Int.reduceSub, Int.reduceEq, Int.reduceMul, Int.reduceToNat, reduceIte, hw]
    refine ⟨⟨(a + 20, l2), by simp only; omega, hp2.trans hp1⟩, by simp only; omega, drop_E ?_⟩
    simp only [go_sem, Nat.reduceAdd, Nat.reduceSub, Nat.reduceMul, Nat.reduceLT, Nat.reduceLeDiff, Nat.reduceBEq, Nat.reduceEqDiff, Int.reduceLE, Int.reduceLT, Int.reduceNeg, Int.reduceAdd, Int.reduceSub, Int.reduceEq, Int.reduceMul, Int.reduceToNat, reduceIte]
  · simp only [go_sem, Nat.reduceAdd, Nat.reduceSub, Nat.reduceMul, Nat.reduceLT, Nat.reduceLeDiff, Nat.reduceBEq, Nat.reduceEqDiff, Int.reduceLE, Int.reduceLT, Int.reduceNeg, Int.reduceAdd, Int.reduceSub, Int.reduceEq, Int.reduceMul, Int.reduceToNat, reduceIte]
    refine (c_insSort H b g l.length hb l1 (by omega) (by omega) a l.length (by omega) (by omega)).mono ?_
    rintro _ _ ⟨rfl, l2, hp2, rfl⟩
    replace hp1 := hp2.trans hp1
    clear hp2 hl1
    simp only [go_sem, Nat.reduceAdd, Nat.reduceSub, Nat.reduceMul, Nat.reduceLT, Nat.reduceLeDiff, Nat.reduceBEq, Nat.reduceEqDiff, Int.reduceLE, Int.reduceLT, Int.reduceNeg, Int.reduceAdd, Int.reduceSub, Int.reduceEq, Int.reduceMul, Int.reduceToNat, reduceIte]
    refine ab_loop (ι := {p : Nat × List GAct // 20 ≤ p.1 ∧ p.1 ≤ 2199023255552 ∧ p.2.Perm l})
      (fun p => ⟨E 63 [(0, .ref b g 0 l.length none), (1, .d (.int .i64 l.length)), (2, .d (.fn 55)), (6, .d (.int .i64 (p.1.1 : Int)))], hAct H b g p.1.2⟩) (fun p => 4398046511104 - p.1.1) ⟨(20, l2), Nat.le_refl _, by simp only; omega, hp1⟩ (drop_E ?_) ?_
    · simp only [go_sem, Nat.reduceAdd, Nat.reduceSub, Nat.reduceMul, Nat.reduceLT, Nat.reduceLeDiff, Nat.reduceBEq, Nat.reduceEqDiff, Int.reduceLE, Int.reduceLT, Int.reduceNeg, Int.reduceAdd, Int.reduceSub, Int.reduceEq, Int.reduceMul, Int.reduceToNat, reduceIte]
      rfl
    rintro ⟨⟨bs, l3⟩, hbs, hbs2, hp3⟩
    simp only at hbs hbs2 hp3
    have hl3 := hp3.length_eq
    simp only [go_sem, Nat.reduceAdd, Nat.reduceSub, Nat.reduceMul, Nat.reduceLT, Nat.reduceLeDiff, Nat.reduceBEq, Nat.reduceEqDiff, Int.reduceLE, Int.reduceLT, Int.reduceNeg, Int.reduceAdd, Int.reduceSub, Int.reduceEq, Int.reduceMul, Int.reduceToNat, reduceIte]
    refine ⟨fun h2 => ?_, fun h2 => ?_⟩
    rotate_left
    · simp only [go_sem, Nat.reduceAdd, Nat.reduceSub, Nat.reduceMul, Nat.reduceLT, Nat.reduceLeDiff, Nat.reduceBEq, Nat.reduceEqDiff, Int.reduceLE, Int.reduceLT, Int.reduceNeg, Int.reduceAdd, Int.reduceSub, Int.reduceEq, Int.reduceMul, Int.reduceToNat, reduceIte]
      exact ⟨l3, hp3, rfl⟩
    have hw2 : IntKind.i64.wrap (2 * (bs : Int)) = ((2 * bs : Nat) : Int) := by rw [wrap_i64 _ (by omega) (by omega)]; omega
    have hw3 : IntKind.i64.wrap ((bs : Int) * 2) = ((bs * 2 : Nat) : Int) := by rw [wrap_i64 _ (by omega) (by omega)]; omega
    simp only [go_sem, Nat.reduceAdd, Nat.reduceSub, Nat.reduceMul, Nat.reduceLT, Nat.reduceLeDiff, Nat.reduceBEq, Nat.reduceEqDiff, Int.reduceLE, Int.reduceLT, Int.reduceNeg, Int.reduceAdd, Int.reduceSub, Int.reduceEq, Int.reduceMul, Int.reduceToNat, reduceIte, hw2]
    refine ab_loop (ι := {p : Nat × List GAct // p.1 ≤ l.length ∧ p.2.Perm l})
      (fun p => ⟨E 63 [(0, .ref b g 0 l.length none), (1, .d (.int .i64 l.length)), (2, .d (.fn 55)), (6, .d (.int .i64 (bs : Int))), (7, .d (.int .i64 (p.1.1 : Int))), (8, .d (.int .i64 ((p.1.1 + 2 * bs : Nat) : Int)))], hAct H b g p.1.2⟩) (fun p => l.length - p.1.1) ⟨(0, l3), Nat.zero_le _, hp3⟩ (drop_E ?_) ?_
    · simp only [go_sem, Nat.reduceAdd, Nat.reduceSub, Nat.reduceMul, Nat.reduceLT, Nat.reduceLeDiff, Nat.reduceBEq, Nat.reduceEqDiff, Int.reduceLE, Int.reduceLT, Int.reduceNeg, Int.reduceAdd, Int.reduceSub, Int.reduceEq, Int.reduceMul, Int.reduceToNat, reduceIte]
    rintro ⟨⟨a2, l4⟩, ha2, hp4⟩
    simp only at ha2 hp4
    have hl4 := hp4.length_eq
    have hwm := add_w (i := a2) (j := bs) (by omega)
    have hwb := add_w (i := a2 + 2 * bs) (j := 2 * bs) (by omega)
    simp only [go_sem, Nat.reduceAdd, Nat.reduceSub, Nat.reduceMul, Nat.reduceLT, Nat.reduceLeDiff, Nat.reduceBEq, Nat.reduceEqDiff, Int.reduceLE, Int.reduceLT, Int.reduceNeg, Int.reduceAdd, Int.reduceSub, Int.reduceEq, Int.reduceMul, Int.reduceToNat, reduceIte]
    refine ⟨fun h3 => ?_, fun h3 => ?_⟩
    · simp only [go_sem, Nat.reduceAdd, Nat.reduceSub, Nat.reduceMul, Nat.reduceLT, Nat.reduceLeDiff, Nat.reduceBEq, Nat.reduceEqDiff, Int.reduceLE, Int.reduceLT, Int.reduceNeg, Int.reduceAdd, Int.reduceSub, Int.reduceEq, Int.reduceMul, Int.reduceToNat, reduceIte, hwm]
      refine (c_symMerge H b g l.length hb (by omega) l.length l4 a2 (a2 + bs) (a2 + 2 * bs) (by omega) (by omega) (by omega) (by omega) (by omega)).mono ?_
      rintro _ _ ⟨rfl, l5, hp5, rfl⟩
      simp only [go_sem, Nat.reduceAdd, Nat.reduceSub, Nat.reduceMul, Nat.reduceLT, Nat.reduceLeDiff, Nat.reduceBEq, Nat.reduceEqDiff, Int.reduceLE, Int.reduceLT, Int.reduceNeg, Int.reduceAdd, Int.reduceSub, Int.reduceEq, Int.reduceMul, Int.reduceToNat, reduceIte, hw2, hwb]
      refine ⟨⟨(a2 + 2 * bs, l5), by simp only; omega, hp5.trans hp4⟩, by simp only; omega, drop_E ?_⟩
      simp only [go_sem, Nat.reduceAdd, Nat.reduceSub, Nat.reduceMul, Nat.reduceLT, Nat.reduceLeDiff, Nat.reduceBEq, Nat.reduceEqDiff, Int.reduceLE, Int.reduceLT, Int.reduceNeg, Int.reduceAdd, Int.reduceSub, Int.reduceEq, Int.reduceMul, Int.reduceToNat, reduceIte]
    · simp only [go_sem, Nat.reduceAdd, Nat.reduceSub, Nat.reduceMul, Nat.reduceLT, Nat.reduceLeDiff, Nat.reduceBEq, Nat.reduceEqDiff, Int.reduceLE, Int.reduceLT, Int.reduceNeg, Int.reduceAdd, Int.reduceSub, Int.reduceEq, Int.reduceMul, Int.reduceToNat, reduceIte, hwm]
      refine ⟨fun h4 => ?_, fun h4 => ?_⟩
      · simp only [go_sem, Nat.reduceAdd, Nat.reduceSub, Nat.reduceMul, Nat.reduceLT, Nat.reduceLeDiff, Nat.reduceBEq, Nat.reduceEqDiff, Int.reduceLE, Int.reduceLT, Int.reduceNeg, Int.reduceAdd, Int.reduceSub, Int.reduceEq, Int.reduceMul, Int.reduceToNat, reduceIte]
        refine (c_symMerge H b g l.length hb (by omega) l.length l4 a2 (a2 + bs) l.length (by omega) (by omega) (by omega) (by omega) (by omega)).mono ?_
        rintro _ _ ⟨rfl, l5, hp5, rfl⟩
        simp only [go_sem, Nat.reduceAdd, Nat.reduceSub, Nat.reduceMul, Nat.reduceLT, Nat.reduceLeDiff, Nat.reduceBEq, Nat.reduceEqDiff, Int.reduceLE, Int.reduceLT, Int.reduceNeg, Int.reduceAdd, Int.reduceSub, Int.reduceEq, Int.reduceMul, Int.reduceToNat, reduceIte, hw3]
        refine ⟨⟨(bs * 2, l5), by simp only; omega, by simp only; omega, hp5.trans hp4⟩, by simp only; omega, drop_E ?_⟩
        simp only [go_sem, Nat.reduceAdd, Nat.reduceSub, Nat.reduceMul, Nat.reduceLT, Nat.reduceLeDiff, Nat.reduceBEq, Nat.reduceEqDiff, Int.reduceLE, Int.reduceLT, Int.reduceNeg, Int.reduceAdd, Int.reduceSub, Int.reduceEq, Int.reduceMul, Int.reduceToNat, reduceIte]
      · simp only [go_sem, Nat.reduceAdd, Nat.reduceSub, Nat.reduceMul, Nat.reduceLT, Nat.reduceLeDiff, Nat.reduceBEq, Nat.reduceEqDiff, Int.reduceLE, Int.reduceLT, Int.reduceNeg, Int.reduceAdd, Int.reduceSub, Int.reduceEq, Int.reduceMul, Int.reduceToNat, reduceIte, hw3]
        refine ⟨⟨(bs * 2, l4), by simp only; omega, by simp only; omega, hp4⟩, by simp only; omega, drop_E ?_⟩
        simp only [go_sem, Nat.reduceAdd, Nat.reduceSub, Nat.reduceMul, Nat.reduceLT, Nat.reduceLeDiff, Nat.reduceBEq, Nat.reduceEqDiff, Int.reduceLE, Int.reduceLT, Int.reduceNeg, Int.reduceAdd, Int.reduceSub, Int.reduceEq, Int.reduceMul, Int.reduceToNat, reduceIte]

theorem c_sortStable (H : List AObj) (b g n : Nat) (hb : b < H.length) (l : List GAct) (hn : n = l.length) (hs : l.length ≤ 1099511627776) :
    ACalls Go.Proofs.Tryz.prog GT 54 [.ref b g 0 n none, .d (.fn 55)] (hAct H b g l) fun v H' => v = .tup [] ∧ ∃ l', l'.Perm l ∧ H' = hAct H b g l' := by
  refine acalls_all (fn := Go.Proofs.Tryz.f54) (c := _) 9 [] (by kernel_rfl) rfl (by kernel_rfl) rfl rfl (by simp) ?_
  simp only [go_sem, Nat.reduceAdd, Nat.reduceSub, Nat.reduceMul, Nat.reduceLT, Nat.reduceLeDiff, Nat.reduceBEq, Nat.reduceEqDiff, Int.reduceLE, Int.reduceLT, Int.reduceNeg, Int.reduceAdd, Int.reduceSub, Int.reduceEq, Int.reduceMul, Int.reduceToNat, reduceIte, hAct_get hb]
  refine (c_stable H b g n hb l hn hs).mono ?_
  rintro _ _ ⟨rfl, l2, hp2, rfl⟩
  simp only [go_sem, Nat.reduceAdd, Nat.reduceSub, Nat.reduceMul, Nat.reduceLT, Nat.reduceLeDiff, Nat.reduceBEq, Nat.reduceEqDiff, Int.reduceLE, Int.reduceLT, Int.reduceNeg, Int.reduceAdd, Int.reduceSub, Int.reduceEq, Int.reduceMul, Int.reduceToNat, reduceIte]
  exact ⟨l2, hp2, rfl⟩
end Go.Ab
