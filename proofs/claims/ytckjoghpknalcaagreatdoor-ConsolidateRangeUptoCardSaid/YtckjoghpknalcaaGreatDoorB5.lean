/- K17 K18 K19 K20 -/
import Derived.Test.YtckjoghpknalcaaGreatDoorB4
import Derived.Test.YtckjoghpknalcaaGreatDoorB1
set_option linter.unusedVariables false
set_option linter.unusedSimpArgs false
set_option linter.unnecessarySimpa false
open Go
namespace Go.Ab
attribute [local go_sem] ents held Option.isSome_some Option.isSome_none Option.map_some Option.map_none List.length_map List.map_cons List.map_nil List.length_cons List.length_nil List.cons_append List.nil_append List.append_assoc true_and and_true true_or or_true eq_self decide_true decide_false Bool.not_true Bool.not_false not_true not_false Int.natCast_zero Nat.zero_add Bool.false_eq_true Bool.true_eq_false if_true if_false Bool.or_false Bool.or_true Bool.false_or Bool.true_or Bool.and_false Bool.false_and
set_option maxRecDepth 8000
set_option maxHeartbeats 4000000
set_option linter.unusedSimpArgs false
set_option linter.unusedVariables false
variable {GT : Globs}

/-! a variable of acts and its row -/
def outH (H : List AObj) (b0 b1 : Nat) (l : List GAct) : List AObj := hset (hset H b1 (.row 7 l.length false (l.map fun x => .d (encAct x)))) b0 (.row 1 0 false [.ref b1 l.length 0 l.length none])
section
variable {H : List AObj} {b0 b1 : Nat} {l l' : List GAct}
theorem outH_len : (outH H b0 b1 l).length = H.length := by simp [outH, hset]
theorem hget_out (L : List AObj) (k : Nat) : hget (outH H b0 b1 l ++ L) (H.length + k) = L[k]? := by rw [← outH_len (H := H) (b0 := b0) (b1 := b1) (l := l)]; exact hget_own _ _ _
theorem hget_out0 (L : List AObj) : hget (outH H b0 b1 l ++ L) H.length = L[0]? := hget_out L 0
theorem hset_out (L : List AObj) (k : Nat) (o : AObj) : hset (outH H b0 b1 l ++ L) (H.length + k) o = outH H b0 b1 l ++ L.set k o := by rw [← outH_len (H := H) (b0 := b0) (b1 := b1) (l := l)]; exact hset_own _ _ _ _
theorem hset_out0 (L : List AObj) (o : AObj) : hset (outH H b0 b1 l ++ L) H.length o = outH H b0 b1 l ++ L.set 0 o := hset_out L 0 o
theorem outH_0 (h0 : b0 < H.length) : hget (outH H b0 b1 l) b0 = some (.row 1 0 false [.ref b1 l.length 0 l.length none]) := by
  unfold outH hget hset; rw [List.getElem?_set_self (by simpa using h0)]
theorem outH_1 (h1 : b1 < H.length) (hne : b0 ≠ b1) : hget (outH H b0 b1 l) b1 = some (.row 7 l.length false (l.map fun x => .d (encAct x))) := by
  unfold outH hget hset; rw [List.getElem?_set_ne hne, List.getElem?_set_self h1]
theorem outH_2 {b : Nat} (hn0 : b ≠ b0) (hn1 : b ≠ b1) : (outH H b0 b1 l)[b]? = H[b]? := by
  unfold outH hset; rw [List.getElem?_set_ne (fun e => hn0 e.symm), List.getElem?_set_ne (fun e => hn1 e.symm)]
theorem outH_set (hne : b0 ≠ b1) : hset (hset (outH H b0 b1 l) b1 (.row 7 l'.length false (l'.map fun x => .d (encAct x)))) b0 (.row 1 0 false [.ref b1 l'.length 0 l'.length none]) = outH H b0 b1 l' := by
  unfold outH hset
  apply List.ext_getElem?
  intro k
  simp only [List.getElem?_set, List.length_set]
  by_cases e0 : b0 = k
  · simp [e0]
  · by_cases e1 : b1 = k
    · simp [e0, e1]
    · simp [e0, e1]
theorem keeps_out {L L' : List AObj} (h0 : b0 < H.length) (h1 : b1 < H.length) (hne : b0 ≠ b1) (hl : L'.length = L.length) (h : ∀ o ∈ L', cloO (H.length + L'.length) o = true) : Keeps (outH H b0 b1 l ++ L) (outH H b0 b1 l' ++ L') := by
  refine ⟨by simp [outH_len, hl], fun b o hb => ?_⟩
  rw [List.length_append, outH_len]
  rcases Nat.lt_or_ge b H.length with hlt | hge
  · rw [List.getElem?_append_left (by rw [outH_len]; exact hlt)] at hb ⊢
    by_cases e0 : b = b0
    · subst e0
      have := outH_0 (b1 := b1) (l := l') h0
      unfold hget at this
      rw [this] at hb; cases hb
      right
      simp [cloO, cloL, cloA]; omega
    · by_cases e1 : b = b1
      · subst e1
        have := outH_1 (l := l') h1 hne
        unfold hget at this
        rw [this] at hb; cases hb
        right; exact clo_data ..
      · left
        rw [outH_2 e0 e1] at hb ⊢
        exact hb
  · right
    rw [List.getElem?_append_right (by rw [outH_len]; exact hge)] at hb
    exact h o (List.mem_of_getElem? hb)
end

theorem turnK_unit {H0 H2 L : List AObj} {R : AV → List AObj → Prop} (hk : Keeps H0 H2) (h : R (.tup []) H2) : turnK H0 R (.tup []) (H2 ++ L) := ⟨H2, L, .tup [], rfl, hk, by simp [pureR, pureL], h⟩
theorem turnK_unit0 {H0 H2 : List AObj} {R : AV → List AObj → Prop} (hk : Keeps H0 H2) (h : R (.tup []) H2) : turnK H0 R (.tup []) H2 := ⟨H2, [], .tup [], (List.append_nil _).symm, hk, by simp [pureR, pureL], h⟩

theorem c_acts1 (H L : List AObj) (b0 b1 : Nat) (h0 : b0 < H.length) (h1 : b1 < H.length) (hne : b0 ≠ b1) (l : List GAct) (hl : l.length ≤ 1073741824) (x : GAct) (again : Bool) :
    ACalls Go.Proofs.Tryz.prog GT 53 [.d (encAct x), .d (.bool again), .ptr b0 0 0 0] (outH H b0 b1 l ++ L) fun v H' => v = .tup [] ∧ H' = outH H b0 b1 (if again then l else l ++ [x]) ++ L := by
  have hc0 : b0 < (outH H b0 b1 l ++ L).length := by simp [outH_len]; omega
  have hc1 : b1 < (outH H b0 b1 l ++ L).length := by simp [outH_len]; omega
  have hg0 : hget (outH H b0 b1 l ++ L) b0 = some (.row 1 0 false [.ref b1 l.length 0 l.length none]) := by rw [hget_low _ _ (by rw [outH_len]; exact h0), outH_0 h0]
  have hg1 : hget (outH H b0 b1 l ++ L) b1 = some (.row 7 l.length false (l.map fun x => .d (encAct x))) := by rw [hget_low _ _ (by rw [outH_len]; exact h1), outH_1 h1 hne]
  have hstep : hset (hset (outH H b0 b1 l ++ L) b1 (.row 7 (l.length + 1) false ((l.map fun x => AV.d (encAct x)) ++ [.d (encAct x)]))) b0 (.row 1 0 false [.ref b1 (l.length + 1) 0 (l.length + 1) none]) = outH H b0 b1 (l ++ [x]) ++ L := by
    have e := outH_set (H := H) (l := l) (l' := l ++ [x]) hne
    simp only [List.length_append, List.length_cons, List.length_nil, Nat.zero_add, List.map_append, List.map_cons, List.map_nil] at e
    rw [hset_low _ _ _ (by rw [outH_len]; exact h1), hset_low _ _ _ (by simp [hset, outH_len]; exact h0), e]
  have hkeep : Keeps (outH H b0 b1 l ++ L) (outH H b0 b1 (l ++ [x]) ++ L) := by
    refine ⟨by simp [outH_len], fun b o hb => ?_⟩
    rcases Nat.lt_or_ge b H.length with hlt | hge
    · have := (keeps_out (l := l) (l' := l ++ [x]) (L := []) (L' := []) h0 h1 hne rfl (by simp)).2 b o (by rw [List.append_nil]; rw [List.getElem?_append_left (by rw [outH_len]; exact hlt)] at hb; exact hb)
      rcases this with h | h
      · left
        rw [List.append_nil] at h
        rw [List.getElem?_append_left (by rw [outH_len]; exact hlt)]; exact h
      · right
        refine cloO_mono ?_ h
        simp
    · left
      rw [List.getElem?_append_right (by rw [outH_len]; exact hge), outH_len] at hb ⊢
      exact hb
  generalize hHH : outH H b0 b1 l ++ L = HH at *
  refine acalls_turn (fn := Go.Proofs.Tryz.f53) (c := _) 11 [] (by kernel_rfl) rfl (by kernel_rfl) rfl rfl (by simp) ?_
  simp only [go_sem, Nat.reduceAdd, Nat.reduceSub, Nat.reduceMul, Nat.reduceLT, Nat.reduceLeDiff, Nat.reduceBEq, Nat.reduceEqDiff, Int.reduceLE, Int.reduceLT, Int.reduceNeg, Int.reduceAdd, Int.reduceSub, Int.reduceEq, Int.reduceMul, Int.reduceToNat, reduceIte]
  cases again with
  | true =>
    simp only [go_sem, Nat.reduceAdd, Nat.reduceSub, Nat.reduceMul, Nat.reduceLT, Nat.reduceLeDiff, Nat.reduceBEq, Nat.reduceEqDiff, Int.reduceLE, Int.reduceLT, Int.reduceNeg, Int.reduceAdd, Int.reduceSub, Int.reduceEq, Int.reduceMul, Int.reduceToNat, reduceIte]
    exact turnK_unit (Keeps.refl _) ⟨rfl, hHH.symm⟩
  | false =>
    have hA1 : (l.length + 1) * 88 ≤ 140737488355328 := by omega
    have hA2 : l.length + 1 ≤ 140737488355328 := by omega
    simp only [go_sem, Nat.reduceAdd, Nat.reduceSub, Nat.reduceMul, Nat.reduceLT, Nat.reduceLeDiff, Nat.reduceBEq, Nat.reduceEqDiff, Int.reduceLE, Int.reduceLT, Int.reduceNeg, Int.reduceAdd, Int.reduceSub, Int.reduceEq, Int.reduceMul, Int.reduceToNat, reduceIte, hget_low _ _ hc0, hg0]
    refine bsl_one (by simp only [go_sem, Nat.reduceAdd, Nat.reduceSub, Nat.reduceMul, Nat.reduceLT, Nat.reduceLeDiff, Nat.reduceBEq, Nat.reduceEqDiff, Int.reduceLE, Int.reduceLT, Int.reduceNeg, Int.reduceAdd, Int.reduceSub, Int.reduceEq, Int.reduceMul, Int.reduceToNat, reduceIte]) (by simp only [go_sem, Nat.reduceAdd, Nat.reduceSub, Nat.reduceMul, Nat.reduceLT, Nat.reduceLeDiff, Nat.reduceBEq, Nat.reduceEqDiff, Int.reduceLE, Int.reduceLT, Int.reduceNeg, Int.reduceAdd, Int.reduceSub, Int.reduceEq, Int.reduceMul, Int.reduceToNat, reduceIte]) (by simp only [go_sem, Nat.reduceAdd, Nat.reduceSub, Nat.reduceMul, Nat.reduceLT, Nat.reduceLeDiff, Nat.reduceBEq, Nat.reduceEqDiff, Int.reduceLE, Int.reduceLT, Int.reduceNeg, Int.reduceAdd, Int.reduceSub, Int.reduceEq, Int.reduceMul, Int.reduceToNat, reduceIte]) ?_
    have hc0' : b0 < (hset HH b1 (.row 7 (l.length + 1) false ((l.map fun x => AV.d (encAct x)) ++ [.d (encAct x)]))).length := by simpa [hset] using hc0
    have hg0' : hget (hset HH b1 (.row 7 (l.length + 1) false ((l.map fun x => AV.d (encAct x)) ++ [.d (encAct x)]))) b0 = some (.row 1 0 false [.ref b1 l.length 0 l.length none]) := by
      unfold hget hset; rw [List.getElem?_set_ne (fun e => hne e.symm)]; exact hg0
    have hg1' : hget (hset HH b1 (.row 7 (l.length + 1) false ((l.map fun x => AV.d (encAct x)) ++ [.d (encAct x)]))) b1 = some (.row 7 (l.length + 1) false ((l.map fun x => AV.d (encAct x)) ++ [.d (encAct x)])) := by
      unfold hget hset; rw [List.getElem?_set_self hc1]
    have hc1' : b1 < (hset HH b1 (.row 7 (l.length + 1) false ((l.map fun x => AV.d (encAct x)) ++ [.d (encAct x)]))).length := by simpa [hset] using hc1
    simp only [go_sem, Nat.reduceAdd, Nat.reduceSub, Nat.reduceMul, Nat.reduceLT, Nat.reduceLeDiff, Nat.reduceBEq, Nat.reduceEqDiff, Int.reduceLE, Int.reduceLT, Int.reduceNeg, Int.reduceAdd, Int.reduceSub, Int.reduceEq, Int.reduceMul, Int.reduceToNat, reduceIte, hA1, hA2, hget_low _ _ hc1, hg1, hset_low _ _ _ hc1, hget_low _ _ hc0', hg0', hg1', hset_low _ _ _ hc0', hget_low _ _ hc1']
    rw [hstep]
    exact turnK_unit hkeep ⟨rfl, rfl⟩

/-! each act once -/
def once (s : List GAct) (a : GAct) : List GAct := if a.number ∈ s.map (·.number) then s else s ++ [a]
def dedup (l : List GAct) : List GAct := l.foldl once []
theorem dedup_take {l : List GAct} {i : Nat} (h : i < l.length) : dedup (l.take (i + 1)) = once (dedup (l.take i)) l[i] := by
  unfold dedup; rw [List.take_succ_eq_append_getElem h, List.foldl_append]; rfl
theorem dedup_app (l m : List GAct) : dedup (l ++ m) = m.foldl once (dedup l) := by unfold dedup; rw [List.foldl_append]
theorem once_len (s : List GAct) : ∀ l : List GAct, (l.foldl once s).length ≤ s.length + l.length
  | [] => by simp
  | a :: l => by
    have := once_len (once s a) l
    have h2 : (once s a).length ≤ s.length + 1 := by unfold once; split <;> simp
    simp only [List.foldl_cons, List.length_cons]; omega
/-- what 'seen' holds -/
def seenM (l : List GAct) : List (D × AV) := l.map fun a => (.int .i64 a.number, .d (.bool true))
theorem find_seen (k : Int) : ∀ l : List GAct, findE Go.Proofs.Tryz.prog 3 (.int .i64 k) (seenM l) = some (if k ∈ l.map (·.number) then some (.d (.bool true)) else none)
  | [] => rfl
  | a :: l => by
    have ih := find_seen k l
    unfold seenM at *
    rw [List.map_cons, findE_cons, eqD_int, ih]
    by_cases h : k = a.number
    · simp [h, fnd]
    · simp [h, fnd]
theorem set_seen (k : Int) : ∀ l : List GAct, setE Go.Proofs.Tryz.prog 3 (.int .i64 k) (.d (.bool true)) (seenM l) = some (if k ∈ l.map (·.number) then seenM l else seenM l ++ [(.int .i64 k, .d (.bool true))])
  | [] => rfl
  | a :: l => by
    have ih := set_seen k l
    unfold seenM at *
    rw [List.map_cons, setE_cons, eqD_int, ih]
    by_cases h : k = a.number
    · subst h; simp [sst, sameD, sameS]
    · simp only [h, decide_false, sst_false, Option.map_some, List.map_cons, List.mem_cons, false_or]
      split <;> rfl
theorem seen_once (s : List GAct) (a : GAct) : (if a.number ∈ s.map (·.number) then seenM s else seenM s ++ [(.int .i64 a.number, .d (.bool true))]) = seenM (once s a) := by
  unfold once
  split
  · rfl
  · unfold seenM; simp
theorem clo_seen (n : Nat) (l : List GAct) : cloO n (.map (seenM l)) = true := by
  simp [cloO, seenM, cloA]

theorem prefix_len {l : List GGaz} {i j : Nat} (hi : i < l.length) : ((l.take i).flatMap (·.acts) ++ (l[i].acts).take j).length ≤ (l.flatMap (·.acts)).length := by
  have e : l = l.take i ++ l[i] :: l.drop (i + 1) := by rw [← List.drop_eq_getElem_cons hi, List.take_append_drop]
  have e2 : (l.flatMap (·.acts)).length = ((l.take i).flatMap (·.acts)).length + ((l[i].acts).length + ((l.drop (i + 1)).flatMap (·.acts)).length) := by
    conv => lhs; rw [e]
    rw [List.flatMap_append, List.length_append, List.flatMap_cons, List.length_append]
  rw [e2, List.length_append, List.length_take]
  omega
theorem flatActs_take {l : List GGaz} {i : Nat} (h : i < l.length) : (l.take (i + 1)).flatMap (·.acts) = (l.take i).flatMap (·.acts) ++ l[i].acts := by
  rw [List.take_succ_eq_append_getElem h, List.flatMap_append]; simp
theorem dedup_len (l : List GAct) : (dedup l).length ≤ l.length := by have := once_len [] l; simpa [dedup] using this

theorem c_every (H : List AObj) (b0 b1 : Nat) (h0 : b0 < H.length) (h1 : b1 < H.length) (hne : b0 ≠ b1) (l : List GGaz) (hcap : (l.flatMap (·.acts)).length ≤ 1073741823) :
    ACalls Go.Proofs.Tryz.prog GT 52 [.d (.list (l.map encGaz)), .fn 53 [] [.ptr b0 0 0 0]] (outH H b0 b1 []) fun v H' => v = .tup [] ∧ H' = outH H b0 b1 (dedup (l.flatMap (·.acts))) := by
  refine acalls_ok (fun hok => ?_) (by kernel_rfl)
  obtain ⟨⟨hl, hx⟩, -⟩ := hok
  rw [List.length_map] at hl
  have hlen : ∀ s, (outH H b0 b1 s).length = H.length := fun s => outH_len
  refine acalls_turn (fn := Go.Proofs.Tryz.f52) (c := _) 35 [] (by kernel_rfl) rfl (by kernel_rfl) rfl rfl (by simp) ?_
  simp only [go_sem, Nat.reduceAdd, Nat.reduceSub, Nat.reduceMul, Nat.reduceLT, Nat.reduceLeDiff, Nat.reduceBEq, Nat.reduceEqDiff, Int.reduceLE, Int.reduceLT, Int.reduceNeg, Int.reduceAdd, Int.reduceSub, Int.reduceEq, Int.reduceMul, Int.reduceToNat, reduceIte, hl, outH_len, hget_out, hget_out0, hset_out, hset_out0]
  refine ab_loop (ι := {i : Nat // i ≤ l.length}) (fun i => ⟨E 35 [(1, .fn 53 [] [.ptr b0 0 0 0]), (4, .mp H.length), (10, .d (.list (l.map encGaz))), (11, .d (.int .i64 l.length)), (12, .d (.int .i64 (i.1 : Int)))],
    outH H b0 b1 (dedup ((l.take i.1).flatMap (·.acts))) ++ [AObj.map (seenM (dedup ((l.take i.1).flatMap (·.acts))))]⟩) (fun i => l.length - i.1) ⟨0, Nat.zero_le _⟩ (drop_E ?_) ?_
  · simp only [go_sem, Nat.reduceAdd, Nat.reduceSub, Nat.reduceMul, Nat.reduceLT, Nat.reduceLeDiff, Nat.reduceBEq, Nat.reduceEqDiff, Int.reduceLE, Int.reduceLT, Int.reduceNeg, Int.reduceAdd, Int.reduceSub, Int.reduceEq, Int.reduceMul, Int.reduceToNat, reduceIte, outH_len, hget_out, hget_out0, hset_out, hset_out0]
  rintro ⟨i, hi⟩
  simp only [go_sem, Nat.reduceAdd, Nat.reduceSub, Nat.reduceMul, Nat.reduceLT, Nat.reduceLeDiff, Nat.reduceBEq, Nat.reduceEqDiff, Int.reduceLE, Int.reduceLT, Int.reduceNeg, Int.reduceAdd, Int.reduceSub, Int.reduceEq, Int.reduceMul, Int.reduceToNat, reduceIte, outH_len, hget_out, hget_out0, hset_out, hset_out0]
  refine ⟨fun h2 => ?_, fun h2 => ?_⟩
  · have hlt : i < l.length := by omega
    have hg := okGaz (okL_get hx hlt)
    simp only [go_sem, Nat.reduceAdd, Nat.reduceSub, Nat.reduceMul, Nat.reduceLT, Nat.reduceLeDiff, Nat.reduceBEq, Nat.reduceEqDiff, Int.reduceLE, Int.reduceLT, Int.reduceNeg, Int.reduceAdd, Int.reduceSub, Int.reduceEq, Int.reduceMul, Int.reduceToNat, reduceIte, getEnc encGaz hlt, hg, outH_len, hget_out, hget_out0, hset_out, hset_out0]
    have hD : ∀ j, (l[i].acts.take j).foldl once (dedup ((l.take i).flatMap (·.acts))) = dedup ((l.take i).flatMap (·.acts) ++ l[i].acts.take j) := fun j => (dedup_app _ _).symm
    have hbd : ∀ j, ((l[i].acts.take j).foldl once (dedup ((l.take i).flatMap (·.acts)))).length ≤ 1073741823 := fun j => by
      rw [hD]
      have h3 := dedup_len ((l.take i).flatMap (·.acts) ++ l[i].acts.take j)
      have h4 := prefix_len (j := j) hlt
      omega
    have hnext : dedup ((l.take (i + 1)).flatMap (·.acts)) = (l[i].acts.take l[i].acts.length).foldl once (dedup ((l.take i).flatMap (·.acts))) := by
      rw [hD, List.take_length, ← flatActs_take hlt]
    generalize dedup ((l.take i).flatMap (·.acts)) = D at hD hbd hnext
    clear hD
    refine ab_loop (ι := {j : Nat // j ≤ l[i].acts.length}) (fun j => ⟨E 35 [(1, .fn 53 [] [.ptr b0 0 0 0]), (4, .mp H.length), (10, .d (.list (l.map encGaz))), (11, .d (.int .i64 l.length)), (12, .d (.int .i64 (i : Int))), (17, .d (.list (l[i].acts.map encAct))), (18, .d (.int .i64 l[i].acts.length)), (19, .d (.int .i64 (j.1 : Int)))],
      outH H b0 b1 ((l[i].acts.take j.1).foldl once D) ++ [AObj.map (seenM ((l[i].acts.take j.1).foldl once D)), AObj.row 4 0 false [AV.d (encGaz (l[i]))]]⟩) (fun j => l[i].acts.length - j.1) ⟨0, Nat.zero_le _⟩ (drop_E ?_) ?_
    · simp only [go_sem, Nat.reduceAdd, Nat.reduceSub, Nat.reduceMul, Nat.reduceLT, Nat.reduceLeDiff, Nat.reduceBEq, Nat.reduceEqDiff, Int.reduceLE, Int.reduceLT, Int.reduceNeg, Int.reduceAdd, Int.reduceSub, Int.reduceEq, Int.reduceMul, Int.reduceToNat, reduceIte, outH_len, hget_out, hget_out0, hset_out, hset_out0]
    rintro ⟨j, hj⟩
    simp only [go_sem, Nat.reduceAdd, Nat.reduceSub, Nat.reduceMul, Nat.reduceLT, Nat.reduceLeDiff, Nat.reduceBEq, Nat.reduceEqDiff, Int.reduceLE, Int.reduceLT, Int.reduceNeg, Int.reduceAdd, Int.reduceSub, Int.reduceEq, Int.reduceMul, Int.reduceToNat, reduceIte, outH_len, hget_out, hget_out0, hset_out, hset_out0]
    refine ⟨fun h3 => ?_, fun h3 => ?_⟩
    · have hltj : j < l[i].acts.length := by omega
      have hb := hbd j
      have hS : (l[i].acts.take (j + 1)).foldl once D = once ((l[i].acts.take j).foldl once D) l[i].acts[j] := by rw [List.take_succ_eq_append_getElem hltj, List.foldl_append]; rfl
      generalize hSS : (l[i].acts.take j).foldl once D = S at hb hS
      have hf := find_seen l[i].acts[j].number S
      have hse := set_seen l[i].acts[j].number S
      rw [seen_once] at hse
      by_cases hm : l[i].acts[j].number ∈ S.map (·.number)
      · rw [if_pos hm] at hf
        have ho : once S l[i].acts[j] = S := by unfold once; rw [if_pos hm]
        simp only [go_sem, Nat.reduceAdd, Nat.reduceSub, Nat.reduceMul, Nat.reduceLT, Nat.reduceLeDiff, Nat.reduceBEq, Nat.reduceEqDiff, Int.reduceLE, Int.reduceLT, Int.reduceNeg, Int.reduceAdd, Int.reduceSub, Int.reduceEq, Int.reduceMul, Int.reduceToNat, reduceIte, outH_len, hget_out, hget_out0, hset_out, hset_out0, getEnc encAct hltj, hf]
        refine (c_acts1 H _ b0 b1 h0 h1 hne S (by omega) _ true).mono ?_
        rintro _ _ ⟨rfl, rfl⟩
        simp only [if_true]
        simp only [go_sem, Nat.reduceAdd, Nat.reduceSub, Nat.reduceMul, Nat.reduceLT, Nat.reduceLeDiff, Nat.reduceBEq, Nat.reduceEqDiff, Int.reduceLE, Int.reduceLT, Int.reduceNeg, Int.reduceAdd, Int.reduceSub, Int.reduceEq, Int.reduceMul, Int.reduceToNat, reduceIte, outH_len, hget_out, hget_out0, hset_out, hset_out0, hse, wrap_succ j (by omega)]
        refine ⟨⟨j + 1, hltj⟩, by simp only; omega, ?_⟩
        simp only [hS, ho]
        refine drop_own rfl (keeps_out h0 h1 hne rfl ?_) ?_
        · intro o ho
          simp only [List.mem_cons, List.not_mem_nil, or_false] at ho
          rcases ho with rfl | rfl
          · exact clo_seen _ _
          · rfl
        · simp only [held2, cloA, go_sem, Nat.reduceAdd, Nat.reduceSub, Nat.reduceMul, Nat.reduceLT, Nat.reduceLeDiff, Nat.reduceBEq, Nat.reduceEqDiff, Int.reduceLE, Int.reduceLT, Int.reduceNeg, Int.reduceAdd, Int.reduceSub, Int.reduceEq, Int.reduceMul, Int.reduceToNat, reduceIte, outH_len, hget_out, hget_out0, hset_out, hset_out0]
          simp [cloL, cloA]; omega
      · rw [if_neg hm] at hf
        have ho : once S l[i].acts[j] = S ++ [l[i].acts[j]] := by unfold once; rw [if_neg hm]
        simp only [go_sem, Nat.reduceAdd, Nat.reduceSub, Nat.reduceMul, Nat.reduceLT, Nat.reduceLeDiff, Nat.reduceBEq, Nat.reduceEqDiff, Int.reduceLE, Int.reduceLT, Int.reduceNeg, Int.reduceAdd, Int.reduceSub, Int.reduceEq, Int.reduceMul, Int.reduceToNat, reduceIte, outH_len, hget_out, hget_out0, hset_out, hset_out0, getEnc encAct hltj, hf]
        refine (c_acts1 H _ b0 b1 h0 h1 hne S (by omega) _ false).mono ?_
        rintro _ _ ⟨rfl, rfl⟩
        simp only [Bool.false_eq_true, if_false]
        simp only [go_sem, Nat.reduceAdd, Nat.reduceSub, Nat.reduceMul, Nat.reduceLT, Nat.reduceLeDiff, Nat.reduceBEq, Nat.reduceEqDiff, Int.reduceLE, Int.reduceLT, Int.reduceNeg, Int.reduceAdd, Int.reduceSub, Int.reduceEq, Int.reduceMul, Int.reduceToNat, reduceIte, outH_len, hget_out, hget_out0, hset_out, hset_out0, hse, wrap_succ j (by omega)]
        refine ⟨⟨j + 1, hltj⟩, by simp only; omega, ?_⟩
        simp only [hS, ho]
        refine drop_own rfl (keeps_out h0 h1 hne rfl ?_) ?_
        · intro o ho
          simp only [List.mem_cons, List.not_mem_nil, or_false] at ho
          rcases ho with rfl | rfl
          · exact clo_seen _ _
          · rfl
        · simp only [held2, cloA, go_sem, Nat.reduceAdd, Nat.reduceSub, Nat.reduceMul, Nat.reduceLT, Nat.reduceLeDiff, Nat.reduceBEq, Nat.reduceEqDiff, Int.reduceLE, Int.reduceLT, Int.reduceNeg, Int.reduceAdd, Int.reduceSub, Int.reduceEq, Int.reduceMul, Int.reduceToNat, reduceIte, outH_len, hget_out, hget_out0, hset_out, hset_out0]
          simp [cloL, cloA]; omega
    · have hje : j = l[i].acts.length := by omega
      subst hje
      simp only [go_sem, Nat.reduceAdd, Nat.reduceSub, Nat.reduceMul, Nat.reduceLT, Nat.reduceLeDiff, Nat.reduceBEq, Nat.reduceEqDiff, Int.reduceLE, Int.reduceLT, Int.reduceNeg, Int.reduceAdd, Int.reduceSub, Int.reduceEq, Int.reduceMul, Int.reduceToNat, reduceIte, outH_len, hget_out, hget_out0, hset_out, hset_out0, wrap_succ i (by omega)]
      refine ⟨⟨i + 1, hlt⟩, by simp only; omega, ?_⟩
      simp only [hnext]
      refine drop_own rfl (keeps_out h0 h1 hne rfl ?_) ?_
      · intro o ho
        simp only [List.mem_cons, List.not_mem_nil, or_false] at ho
        subst ho
        exact clo_seen _ _
      · simp only [held2, cloA, go_sem, Nat.reduceAdd, Nat.reduceSub, Nat.reduceMul, Nat.reduceLT, Nat.reduceLeDiff, Nat.reduceBEq, Nat.reduceEqDiff, Int.reduceLE, Int.reduceLT, Int.reduceNeg, Int.reduceAdd, Int.reduceSub, Int.reduceEq, Int.reduceMul, Int.reduceToNat, reduceIte, outH_len, hget_out, hget_out0, hset_out, hset_out0]
        simp [cloL, cloA]; omega
  · rw [take_end h2]
    simp only [go_sem, Nat.reduceAdd, Nat.reduceSub, Nat.reduceMul, Nat.reduceLT, Nat.reduceLeDiff, Nat.reduceBEq, Nat.reduceEqDiff, Int.reduceLE, Int.reduceLT, Int.reduceNeg, Int.reduceAdd, Int.reduceSub, Int.reduceEq, Int.reduceMul, Int.reduceToNat, reduceIte, outH_len, hget_out, hget_out0, hset_out, hset_out0]
    have := turnK_unit (L := [AObj.map (seenM (dedup (l.flatMap (·.acts))))]) (R := fun v H' => v = .tup [] ∧ H' = outH H b0 b1 (dedup (l.flatMap (·.acts)))) (keeps_out (L := []) (L' := []) (l := []) (l' := dedup (l.flatMap (·.acts))) h0 h1 hne rfl (by simp)) ⟨rfl, by simp⟩
    simpa using this
end Go.Ab

open Go
namespace Go.Ab
attribute [local go_sem] ents held Option.isSome_some Option.isSome_none Option.map_some Option.map_none List.length_map List.map_cons List.map_nil List.length_cons List.length_nil List.cons_append List.nil_append List.append_assoc true_and and_true true_or or_true eq_self decide_true decide_false Bool.not_true Bool.not_false not_true not_false Int.natCast_zero Nat.zero_add Bool.false_eq_true Bool.true_eq_false if_true if_false Bool.or_false Bool.or_true Bool.false_or Bool.true_or Bool.and_false Bool.false_and
set_option maxRecDepth 8000
set_option maxHeartbeats 4000000
set_option linter.unusedSimpArgs false
set_option linter.unusedVariables false
variable {GT : Globs}

theorem hset_id {H : List AObj} {b : Nat} {o : AObj} (h : hget H b = some o) : hset H b o = H := hset_same h
theorem c_sortStable' (H : List AObj) (b g n : Nat) (l : List GAct) (hg : hget H b = some (.row 7 g false (l.map fun x => .d (encAct x)))) (hn : n = l.length) (hs : l.length ≤ 1099511627776) :
    ACalls Go.Proofs.Tryz.prog GT 54 [.ref b g 0 n none, .d (.fn 55)] H fun v H' => v = .tup [] ∧ ∃ l' : List GAct, l'.Perm l ∧ H' = hset H b (.row 7 g false (l'.map fun x => .d (encAct x))) := by
  have h := c_sortStable (GT := GT) H b g n (lt_of_get hg) l hn hs
  have e : hAct H b g l = H := hset_id hg
  rw [e] at h
  exact h

/-- the acts that count, in whatever order -/
def ActsOf (l : List GGaz) (ac : List GAct) : Prop := ac.Perm (dedup (l.flatMap (·.acts)))
theorem c_Acts (l : List GGaz) (H : List AObj) (hcap : (l.flatMap (·.acts)).length ≤ 1073741823) :
    ACalls Go.Proofs.Tryz.prog GT 37 [.d (.list (l.map encGaz))] H fun v H' => (∃ ac, ActsOf l ac ∧ v = .d (.list (ac.map encAct))) ∧ H' = H := by
  have hdl := dedup_len (l.flatMap (·.acts))
  refine acalls_pure (fn := Go.Proofs.Tryz.f37) (c := _) 10 [.tmp 2] (by kernel_rfl) rfl (by kernel_rfl) rfl rfl (by simp) ?_
  simp only [go_sem, Nat.reduceAdd, Nat.reduceSub, Nat.reduceMul, Nat.reduceLT, Nat.reduceLeDiff, Nat.reduceBEq, Nat.reduceEqDiff, Int.reduceLE, Int.reduceLT, Int.reduceNeg, Int.reduceAdd, Int.reduceSub, Int.reduceEq, Int.reduceMul, Int.reduceToNat, reduceIte]
  refine al_virt 7 (by omega) ?_
  simp only [go_sem, Nat.reduceAdd, Nat.reduceSub, Nat.reduceMul, Nat.reduceLT, Nat.reduceLeDiff, Nat.reduceBEq, Nat.reduceEqDiff, Int.reduceLE, Int.reduceLT, Int.reduceNeg, Int.reduceAdd, Int.reduceSub, Int.reduceEq, Int.reduceMul, Int.reduceToNat, reduceIte]
  have e0 : H ++ [AObj.row 1 0 false [.ref (H.length + 1) 0 0 0 none], AObj.row 7 0 false []] = outH (H ++ [AObj.row 1 0 false [.ref (H.length + 1) 0 0 0 none], AObj.row 7 0 false []]) H.length (H.length + 1) [] := by
    unfold outH
    simp only [List.length_nil, List.map_nil]
    rw [hset_own, hset_own0]
    rfl
  have hev := c_every (GT := GT) (H ++ [AObj.row 1 0 false [.ref (H.length + 1) 0 0 0 none], AObj.row 7 0 false []]) H.length (H.length + 1) (by simp) (by simp) (by omega) l hcap
  rw [← e0] at hev
  refine hev.mono ?_
  rintro _ _ ⟨rfl, rfl⟩
  generalize hD : dedup (l.flatMap (·.acts)) = D at hdl
  have e1 : outH (H ++ [AObj.row 1 0 false [.ref (H.length + 1) 0 0 0 none], AObj.row 7 0 false []]) H.length (H.length + 1) D = H ++ [AObj.row 1 0 false [.ref (H.length + 1) D.length 0 D.length none], AObj.row 7 D.length false (D.map fun x => .d (encAct x))] := by
    unfold outH
    rw [hset_own, hset_own0]
    rfl
  rw [e1]
  simp only [go_sem, Nat.reduceAdd, Nat.reduceSub, Nat.reduceMul, Nat.reduceLT, Nat.reduceLeDiff, Nat.reduceBEq, Nat.reduceEqDiff, Int.reduceLE, Int.reduceLT, Int.reduceNeg, Int.reduceAdd, Int.reduceSub, Int.reduceEq, Int.reduceMul, Int.reduceToNat, reduceIte]
  refine (c_sortStable' _ (H.length + 1) D.length D.length D (by simp only [go_sem, Nat.reduceAdd, Nat.reduceSub, Nat.reduceMul, Nat.reduceLT, Nat.reduceLeDiff, Nat.reduceBEq, Nat.reduceEqDiff, Int.reduceLE, Int.reduceLT, Int.reduceNeg, Int.reduceAdd, Int.reduceSub, Int.reduceEq, Int.reduceMul, Int.reduceToNat, reduceIte]) rfl (by omega)).mono ?_
  rintro _ _ ⟨rfl, ac, hp, rfl⟩
  have hlen := hp.length_eq
  simp only [go_sem, Nat.reduceAdd, Nat.reduceSub, Nat.reduceMul, Nat.reduceLT, Nat.reduceLeDiff, Nat.reduceBEq, Nat.reduceEqDiff, Int.reduceLE, Int.reduceLT, Int.reduceNeg, Int.reduceAdd, Int.reduceSub, Int.reduceEq, Int.reduceMul, Int.reduceToNat, reduceIte]
  refine pureK_row (k := 1) (R := ac) rfl ⟨ac, ?_, ?_⟩
  · unfold ActsOf; rw [hD]; exact hp
  · rw [← hlen, List.take_length]
end Go.Ab

open Go
namespace Go.Ab
attribute [local go_sem] ents held Option.isSome_some Option.isSome_none Option.map_some Option.map_none List.length_map List.map_cons List.map_nil List.length_cons List.length_nil List.cons_append List.nil_append List.append_assoc true_and and_true true_or or_true eq_self decide_true decide_false Bool.not_true Bool.not_false not_true not_false Int.natCast_zero Nat.zero_add Bool.false_eq_true Bool.true_eq_false if_true if_false Bool.or_false Bool.or_true Bool.false_or Bool.true_or Bool.and_false Bool.false_and
set_option maxRecDepth 8000
set_option maxHeartbeats 4000000
set_option linter.unusedSimpArgs false
set_option linter.unusedVariables false
variable {GT : Globs}

/-! the items of an act -/
def deedOf (a : GAct) (i : Nat) (it : GItem) : GDeed := ⟨a.number, i, a.day, it⟩
def actItems (a : GAct) : List GDeed := a.items.mapIdx (deedOf a)
theorem allD_item (it : GItem) : allD (AV.cells (.d (encItem it))) = some (encItem it).cells := by
  rw [encItem_def]; rfl
theorem deed_mk (a b c : Int) (it : GItem) : D.agg (.int .i64 a :: .int .i64 b :: .int .i64 c :: (encItem it).cells) = encDeed ⟨a, b, c, it⟩ := by
  rw [encItem_def]; rfl
theorem mapIdx_take {α β : Type} {l : List α} {f : Nat → α → β} {i : Nat} (h : i < l.length) : (l.take (i + 1)).mapIdx f = (l.take i).mapIdx f ++ [f i l[i]] := by
  rw [List.take_succ_eq_append_getElem h, List.mapIdx_append]
  simp [Nat.min_eq_left (Nat.le_of_lt h)]

theorem c_actItems (a : GAct) (H : List AObj) (hcap : a.items.length ≤ 1073741823) : ACalls Go.Proofs.Tryz.prog GT 60 [.d (encAct a)] H fun v H' => v = .d (.list ((actItems a).map encDeed)) ∧ H' = H := by
  have hl : a.items.length ≤ 9223372036854775807 := by omega
  refine acalls_pure (fn := Go.Proofs.Tryz.f60) (c := _) 26 [.tmp 2] (by kernel_rfl) rfl (by kernel_rfl) rfl rfl (by simp) ?_
  simp only [go_sem, Nat.reduceAdd, Nat.reduceSub, Nat.reduceMul, Nat.reduceLT, Nat.reduceLeDiff, Nat.reduceBEq, Nat.reduceEqDiff, Int.reduceLE, Int.reduceLT, Int.reduceNeg, Int.reduceAdd, Int.reduceSub, Int.reduceEq, Int.reduceMul, Int.reduceToNat, reduceIte, hl]
  refine ab_loopV (ι := {i : Nat // i ≤ a.items.length}) ⟨E 26 [(1, .ptr H.length 0 0 0), (3, .ref (H.length + 1) 0 0 0 none), (7, .d (.list (a.items.map encItem))), (8, .d (.int .i64 a.items.length)), (9, .d (.int .i64 0))], H ++ [.row 7 0 false [.d (encAct a)], .row 28 0 false []]⟩
    (fun i => ⟨E 26 [(1, .ptr H.length 0 0 0), (3, .ref (H.length + 1) i.1 0 ((a.items.take i.1).mapIdx (deedOf a)).length none), (7, .d (.list (a.items.map encItem))), (8, .d (.int .i64 a.items.length)), (9, .d (.int .i64 (i.1 : Int)))],
      H ++ [AObj.row 7 0 false [AV.d (encAct a)], AObj.row 28 i.1 false (((a.items.take i.1).mapIdx (deedOf a)).map fun x => AV.d (encDeed x))]⟩) (fun i => a.items.length - i.1) ⟨0, Nat.zero_le _⟩ ?_ ?_ ?_
  · refine drop_V1 28 (by omega) (by simp) ?_
    simp only [heldV, go_sem, Nat.reduceAdd, Nat.reduceSub, Nat.reduceMul, Nat.reduceLT, Nat.reduceLeDiff, Nat.reduceBEq, Nat.reduceEqDiff, Int.reduceLE, Int.reduceLT, Int.reduceNeg, Int.reduceAdd, Int.reduceSub, Int.reduceEq, Int.reduceMul, Int.reduceToNat, reduceIte]
    exact .inr ⟨0, by omega, rfl⟩
  · refine drop_E ?_
    simp only [go_sem, Nat.reduceAdd, Nat.reduceSub, Nat.reduceMul, Nat.reduceLT, Nat.reduceLeDiff, Nat.reduceBEq, Nat.reduceEqDiff, Int.reduceLE, Int.reduceLT, Int.reduceNeg, Int.reduceAdd, Int.reduceSub, Int.reduceEq, Int.reduceMul, Int.reduceToNat, reduceIte]
    rfl
  rintro ⟨i, hi⟩
  have hlm : ((a.items.take i).mapIdx (deedOf a)).length = i := by simp; omega
  simp only [go_sem, Nat.reduceAdd, Nat.reduceSub, Nat.reduceMul, Nat.reduceLT, Nat.reduceLeDiff, Nat.reduceBEq, Nat.reduceEqDiff, Int.reduceLE, Int.reduceLT, Int.reduceNeg, Int.reduceAdd, Int.reduceSub, Int.reduceEq, Int.reduceMul, Int.reduceToNat, reduceIte]
  refine ⟨fun h1 => ?_, fun h1 => ?_⟩
  · have hlt : i < a.items.length := by omega
    have hk := mapIdx_take (f := deedOf a) hlt
    have hA1 : (((a.items.take i).mapIdx (deedOf a)).length + 1) * 392 ≤ 140737488355328 := by omega
    have hA2 : ((a.items.take i).mapIdx (deedOf a)).length + 1 ≤ 140737488355328 := by omega
    simp only [go_sem, Nat.reduceAdd, Nat.reduceSub, Nat.reduceMul, Nat.reduceLT, Nat.reduceLeDiff, Nat.reduceBEq, Nat.reduceEqDiff, Int.reduceLE, Int.reduceLT, Int.reduceNeg, Int.reduceAdd, Int.reduceSub, Int.reduceEq, Int.reduceMul, Int.reduceToNat, reduceIte, getEnc encItem hlt, allD_item, deed_mk, List.append_nil]
    refine bsl_one (by simp only [go_sem, Nat.reduceAdd, Nat.reduceSub, Nat.reduceMul, Nat.reduceLT, Nat.reduceLeDiff, Nat.reduceBEq, Nat.reduceEqDiff, Int.reduceLE, Int.reduceLT, Int.reduceNeg, Int.reduceAdd, Int.reduceSub, Int.reduceEq, Int.reduceMul, Int.reduceToNat, reduceIte]) (by simp only [go_sem, Nat.reduceAdd, Nat.reduceSub, Nat.reduceMul, Nat.reduceLT, Nat.reduceLeDiff, Nat.reduceBEq, Nat.reduceEqDiff, Int.reduceLE, Int.reduceLT, Int.reduceNeg, Int.reduceAdd, Int.reduceSub, Int.reduceEq, Int.reduceMul, Int.reduceToNat, reduceIte]) (by simp only [go_sem, Nat.reduceAdd, Nat.reduceSub, Nat.reduceMul, Nat.reduceLT, Nat.reduceLeDiff, Nat.reduceBEq, Nat.reduceEqDiff, Int.reduceLE, Int.reduceLT, Int.reduceNeg, Int.reduceAdd, Int.reduceSub, Int.reduceEq, Int.reduceMul, Int.reduceToNat, reduceIte]) ?_
    simp only [go_sem, Nat.reduceAdd, Nat.reduceSub, Nat.reduceMul, Nat.reduceLT, Nat.reduceLeDiff, Nat.reduceBEq, Nat.reduceEqDiff, Int.reduceLE, Int.reduceLT, Int.reduceNeg, Int.reduceAdd, Int.reduceSub, Int.reduceEq, Int.reduceMul, Int.reduceToNat, reduceIte, hA1, hA2, wrap_succ i (by omega)]
    have e1 : (((a.items.take i).mapIdx (deedOf a)).map (fun x => AV.d (encDeed x)) ++ [AV.d (encDeed { act := a.number, item := (i : Int), day := a.day, it := a.items[i] })]) = ((a.items.take (i + 1)).mapIdx (deedOf a)).map fun x => AV.d (encDeed x) := by rw [hk]; simp [deedOf]
    have e2 : ((a.items.take i).mapIdx (deedOf a)).length + 1 = ((a.items.take (i + 1)).mapIdx (deedOf a)).length := by rw [hk]; simp
    rw [e1, e2]
    refine ⟨⟨i + 1, hlt⟩, by simp only; omega, drop_own rfl (keeps_own rfl ?_) ?_⟩
    · intro o ho
      simp only [List.mem_cons, List.not_mem_nil, or_false] at ho
      rcases ho with rfl | rfl
      · rfl
      · exact clo_data ..
    · simp only [held2, cloA, go_sem, Nat.reduceAdd, Nat.reduceSub, Nat.reduceMul, Nat.reduceLT, Nat.reduceLeDiff, Nat.reduceBEq, Nat.reduceEqDiff, Int.reduceLE, Int.reduceLT, Int.reduceNeg, Int.reduceAdd, Int.reduceSub, Int.reduceEq, Int.reduceMul, Int.reduceToNat, reduceIte]
  · have hik : i = a.items.length := by omega
    subst hik
    simp only [go_sem, Nat.reduceAdd, Nat.reduceSub, Nat.reduceMul, Nat.reduceLT, Nat.reduceLeDiff, Nat.reduceBEq, Nat.reduceEqDiff, Int.reduceLE, Int.reduceLT, Int.reduceNeg, Int.reduceAdd, Int.reduceSub, Int.reduceEq, Int.reduceMul, Int.reduceToNat, reduceIte, List.take_length]
    refine pureK_row (k := 1) (R := actItems a) rfl ?_
    unfold actItems
    rw [List.take_length]
end Go.Ab

open Go
namespace Go.Ab
attribute [local go_sem] ents held Option.isSome_some Option.isSome_none Option.map_some Option.map_none List.length_map List.map_cons List.map_nil List.length_cons List.length_nil List.cons_append List.nil_append List.append_assoc true_and and_true true_or or_true eq_self decide_true decide_false Bool.not_true Bool.not_false not_true not_false Int.natCast_zero Nat.zero_add Bool.false_eq_true Bool.true_eq_false if_true if_false Bool.or_false Bool.or_true Bool.false_or Bool.true_or Bool.and_false Bool.false_and
set_option maxRecDepth 8000
set_option maxHeartbeats 4000000
set_option linter.unusedSimpArgs false
set_option linter.unusedVariables false
variable {GT : Globs}

/-! corrections: what replaces which item -/
abbrev Corr := List ((Int × Int) × GItem)
def setC (k : Int × Int) (v : GItem) : Corr → Corr
  | [] => [(k, v)]
  | (k', u) :: r => if k = k' then (k, v) :: r else (k', u) :: setC k v r
def getC (k : Int × Int) : Corr → Option GItem
  | [] => none
  | (k', u) :: r => if k = k' then some u else getC k r
def keyD (k : Int × Int) : D := .agg [.int .i64 k.1, .int .i64 k.2]
def corrM (c : Corr) : List (D × AV) := c.map fun p => (keyD p.1, .d (encItem p.2))
theorem keyD_def (a b : Int) : D.agg [.int .i64 a, .int .i64 b] = keyD (a, b) := rfl
theorem eqD_place (a b : Int × Int) : eqD Go.Proofs.Tryz.prog 125 (keyD a) (keyD b) = some (decide (a = b)) := by
  have : eqD Go.Proofs.Tryz.prog 125 (keyD a) (keyD b) = some ((a.1 == b.1) && ((a.2 == b.2) && true)) := by kernel_rfl
  rw [this]
  congr 1
  obtain ⟨a1, a2⟩ := a
  obtain ⟨b1, b2⟩ := b
  by_cases h1 : a1 = b1 <;> by_cases h2 : a2 = b2 <;> simp [h1, h2]
theorem key_place (a : Int × Int) : keyOK Go.Proofs.Tryz.prog 125 (keyD a) = true := by
  have h : keyT Go.Proofs.Tryz.prog 100 125 = true := by kernel_rfl
  simp only [keyOK, h, eqD_place, Option.isSome_some, Bool.and_self]
theorem find_corr (k : Int × Int) : ∀ c : Corr, findE Go.Proofs.Tryz.prog 125 (keyD k) (corrM c) = some ((getC k c).map fun x => .d (encItem x))
  | [] => rfl
  | (k', u) :: r => by
    have ih := find_corr k r
    unfold corrM at *
    rw [List.map_cons, findE_cons, eqD_place, ih]
    simp only [getC]
    by_cases h : k = k'
    · simp [h, fnd]
    · simp [h, fnd]
theorem set_corr (k : Int × Int) (v : GItem) : ∀ c : Corr, setE Go.Proofs.Tryz.prog 125 (keyD k) (.d (encItem v)) (corrM c) = some (corrM (setC k v c))
  | [] => rfl
  | (k', u) :: r => by
    have ih := set_corr k v r
    unfold corrM at *
    rw [List.map_cons, setE_cons, eqD_place, ih]
    simp only [setC]
    by_cases h : k = k'
    · subst h; simp [sst, sameD, sameL, sameS, keyD]
    · simp [h, sst]

def corr1 (c : Corr) (x : GItem) : Corr := match x.by_ with
  | y :: _ => if x.kind = 11 ∧ 0 ≤ y.kind ∧ y.kind ≤ 6 then setC (x.act, x.item) y c else c
  | [] => c
def corrA (c : Corr) (a : GAct) : Corr := a.items.foldl corr1 c
def corrOf (l : List GAct) : Corr := l.foldl corrA []
theorem clo_corr (n : Nat) (c : Corr) : cloO n (.map (corrM c)) = true := by simp [cloO, corrM, cloA]

theorem c_corrections (l : List GAct) (H : List AObj) : ACalls Go.Proofs.Tryz.prog GT 59 [.d (.list (l.map encAct))] H fun v H' => v = .mp H.length ∧ H' = H ++ [.map (corrM (corrOf l))] := by
  refine acalls_ok (fun hok => ?_) (by kernel_rfl)
  obtain ⟨⟨hl, hx⟩, -⟩ := hok
  rw [List.length_map] at hl
  refine acalls_all (fn := Go.Proofs.Tryz.f59) (c := _) 52 [.tmp 2] (by kernel_rfl) rfl (by kernel_rfl) rfl rfl (by simp) ?_
  simp only [go_sem, Nat.reduceAdd, Nat.reduceSub, Nat.reduceMul, Nat.reduceLT, Nat.reduceLeDiff, Nat.reduceBEq, Nat.reduceEqDiff, Int.reduceLE, Int.reduceLT, Int.reduceNeg, Int.reduceAdd, Int.reduceSub, Int.reduceEq, Int.reduceMul, Int.reduceToNat, reduceIte, hl]
  refine ab_loop (ι := {i : Nat // i ≤ l.length}) (fun i => ⟨E 52 [(3, .mp H.length), (9, .d (.list (l.map encAct))), (10, .d (.int .i64 l.length)), (11, .d (.int .i64 (i.1 : Int)))], H ++ [AObj.map (corrM (corrOf (l.take i.1)))]⟩) (fun i => l.length - i.1) ⟨0, Nat.zero_le _⟩ (drop_E ?_) ?_
  · simp only [go_sem, Nat.reduceAdd, Nat.reduceSub, Nat.reduceMul, Nat.reduceLT, Nat.reduceLeDiff, Nat.reduceBEq, Nat.reduceEqDiff, Int.reduceLE, Int.reduceLT, Int.reduceNeg, Int.reduceAdd, Int.reduceSub, Int.reduceEq, Int.reduceMul, Int.reduceToNat, reduceIte]
  rintro ⟨i, hi⟩
  simp only [go_sem, Nat.reduceAdd, Nat.reduceSub, Nat.reduceMul, Nat.reduceLT, Nat.reduceLeDiff, Nat.reduceBEq, Nat.reduceEqDiff, Int.reduceLE, Int.reduceLT, Int.reduceNeg, Int.reduceAdd, Int.reduceSub, Int.reduceEq, Int.reduceMul, Int.reduceToNat, reduceIte]
  refine ⟨fun h2 => ?_, fun h2 => ?_⟩
  · have hlt : i < l.length := by omega
    have hg := okAct (okL_get hx hlt)
    have hnext : corrOf (l.take (i + 1)) = (l[i].items.take l[i].items.length).foldl corr1 (corrOf (l.take i)) := by
      rw [List.take_length]
      unfold corrOf
      rw [List.take_succ_eq_append_getElem hlt, List.foldl_append]; rfl
    simp only [go_sem, Nat.reduceAdd, Nat.reduceSub, Nat.reduceMul, Nat.reduceLT, Nat.reduceLeDiff, Nat.reduceBEq, Nat.reduceEqDiff, Int.reduceLE, Int.reduceLT, Int.reduceNeg, Int.reduceAdd, Int.reduceSub, Int.reduceEq, Int.reduceMul, Int.reduceToNat, reduceIte, getEnc encAct hlt, hg]
    generalize corrOf (l.take i) = C at hnext
    refine ab_loop (ι := {j : Nat // j ≤ l[i].items.length}) (fun j => ⟨E 52 [(3, .mp H.length), (9, .d (.list (l.map encAct))), (10, .d (.int .i64 l.length)), (11, .d (.int .i64 (i : Int))), (16, .d (.list (l[i].items.map encItem))), (17, .d (.int .i64 l[i].items.length)), (18, .d (.int .i64 (j.1 : Int)))],
      H ++ [AObj.map (corrM ((l[i].items.take j.1).foldl corr1 C)), AObj.row 7 0 false [AV.d (encAct (l[i]))]]⟩) (fun j => l[i].items.length - j.1) ⟨0, Nat.zero_le _⟩ (drop_E ?_) ?_
    · simp only [go_sem, Nat.reduceAdd, Nat.reduceSub, Nat.reduceMul, Nat.reduceLT, Nat.reduceLeDiff, Nat.reduceBEq, Nat.reduceEqDiff, Int.reduceLE, Int.reduceLT, Int.reduceNeg, Int.reduceAdd, Int.reduceSub, Int.reduceEq, Int.reduceMul, Int.reduceToNat, reduceIte]
    rintro ⟨j, hj⟩
    simp only [go_sem, Nat.reduceAdd, Nat.reduceSub, Nat.reduceMul, Nat.reduceLT, Nat.reduceLeDiff, Nat.reduceBEq, Nat.reduceEqDiff, Int.reduceLE, Int.reduceLT, Int.reduceNeg, Int.reduceAdd, Int.reduceSub, Int.reduceEq, Int.reduceMul, Int.reduceToNat, reduceIte]
    refine ⟨fun h3 => ?_, fun h3 => ?_⟩
    · have hltj : j < l[i].items.length := by omega
      have hS : (l[i].items.take (j + 1)).foldl corr1 C = corr1 ((l[i].items.take j).foldl corr1 C) l[i].items[j] := by rw [List.take_succ_eq_append_getElem hltj, List.foldl_append]; rfl
      have hby := encItem_by (okL_get hg.2.2.2 hltj)
      generalize hSS : (l[i].items.take j).foldl corr1 C = S at hS
      simp only [go_sem, Nat.reduceAdd, Nat.reduceSub, Nat.reduceMul, Nat.reduceLT, Nat.reduceLeDiff, Nat.reduceBEq, Nat.reduceEqDiff, Int.reduceLE, Int.reduceLT, Int.reduceNeg, Int.reduceAdd, Int.reduceSub, Int.reduceEq, Int.reduceMul, Int.reduceToNat, reduceIte, getEnc encItem hltj]
      refine ⟨fun h4 => ?_, fun h4 => ?_⟩
      · simp only [go_sem, Nat.reduceAdd, Nat.reduceSub, Nat.reduceMul, Nat.reduceLT, Nat.reduceLeDiff, Nat.reduceBEq, Nat.reduceEqDiff, Int.reduceLE, Int.reduceLT, Int.reduceNeg, Int.reduceAdd, Int.reduceSub, Int.reduceEq, Int.reduceMul, Int.reduceToNat, reduceIte, h4, hby]
        refine ⟨fun h5 => ?_, fun h5 => ?_⟩
        · have hb0 : 0 < l[i].items[j].by_.length := by omega
          obtain ⟨y, r, hyr⟩ : ∃ y r, l[i].items[j].by_ = y :: r := by
            cases hb : l[i].items[j].by_ with
            | nil => rw [hb] at hb0; cases hb0
            | cons y r => exact ⟨y, r, rfl⟩
          have hy0 : l[i].items[j].by_[0] = y := by simp [hyr]
          simp only [go_sem, Nat.reduceAdd, Nat.reduceSub, Nat.reduceMul, Nat.reduceLT, Nat.reduceLeDiff, Nat.reduceBEq, Nat.reduceEqDiff, Int.reduceLE, Int.reduceLT, Int.reduceNeg, Int.reduceAdd, Int.reduceSub, Int.reduceEq, Int.reduceMul, Int.reduceToNat, reduceIte, h4, h5, hby, getEnc encItem hb0]
          refine (c_isAm _ _).mono ?_
          rintro _ H6 ⟨rfl, hH6⟩
          rw [hH6]
          rw [hy0]
          cases h6 : decide (0 ≤ y.kind ∧ y.kind ≤ 6) with
          | true =>
            simp only [go_sem, Nat.reduceAdd, Nat.reduceSub, Nat.reduceMul, Nat.reduceLT, Nat.reduceLeDiff, Nat.reduceBEq, Nat.reduceEqDiff, Int.reduceLE, Int.reduceLT, Int.reduceNeg, Int.reduceAdd, Int.reduceSub, Int.reduceEq, Int.reduceMul, Int.reduceToNat, reduceIte, h4]
            refine ab_draw 10 (by kernel_rfl) (by kernel_rfl) (by kernel_rfl) ?_
            simp only [go_sem, Nat.reduceAdd, Nat.reduceSub, Nat.reduceMul, Nat.reduceLT, Nat.reduceLeDiff, Nat.reduceBEq, Nat.reduceEqDiff, Int.reduceLE, Int.reduceLT, Int.reduceNeg, Int.reduceAdd, Int.reduceSub, Int.reduceEq, Int.reduceMul, Int.reduceToNat, reduceIte, h4, getEnc encItem hb0]
            simp only [go_sem, Nat.reduceAdd, Nat.reduceSub, Nat.reduceMul, Nat.reduceLT, Nat.reduceLeDiff, Nat.reduceBEq, Nat.reduceEqDiff, Int.reduceLE, Int.reduceLT, Int.reduceNeg, Int.reduceAdd, Int.reduceSub, Int.reduceEq, Int.reduceMul, Int.reduceToNat, reduceIte, keyD_def, key_place, set_corr, wrap_succ j (by omega)]
            refine ⟨⟨j + 1, hltj⟩, by simp only; omega, ?_⟩
            simp only [hS]
            have hc1 : corr1 S l[i].items[j] = setC (l[i].items[j].act, l[i].items[j].item) (l[i].items[j].by_[0]) S := by
              unfold corr1
              rw [hy0, hyr]
              simp only
              rw [if_pos ⟨h4, by simpa using h6⟩]
            simp only [hc1]
            refine drop_own rfl (keeps_own rfl ?_) ?_
            · intro o ho
              simp only [List.mem_cons, List.not_mem_nil, or_false] at ho
              rcases ho with rfl | rfl
              · exact clo_corr _ _
              · rfl
            · simp only [held2, cloA, go_sem, Nat.reduceAdd, Nat.reduceSub, Nat.reduceMul, Nat.reduceLT, Nat.reduceLeDiff, Nat.reduceBEq, Nat.reduceEqDiff, Int.reduceLE, Int.reduceLT, Int.reduceNeg, Int.reduceAdd, Int.reduceSub, Int.reduceEq, Int.reduceMul, Int.reduceToNat, reduceIte]
          | false =>
            simp only [go_sem, Nat.reduceAdd, Nat.reduceSub, Nat.reduceMul, Nat.reduceLT, Nat.reduceLeDiff, Nat.reduceBEq, Nat.reduceEqDiff, Int.reduceLE, Int.reduceLT, Int.reduceNeg, Int.reduceAdd, Int.reduceSub, Int.reduceEq, Int.reduceMul, Int.reduceToNat, reduceIte, h4, wrap_succ j (by omega)]
            refine ⟨⟨j + 1, hltj⟩, by simp only; omega, ?_⟩
            simp only [hS]
            have hc1 : corr1 S l[i].items[j] = S := by
              unfold corr1
              rw [hyr]
              simp only
              rw [if_neg (fun h => by simp [h.2] at h6)]
            simp only [hc1]
            refine drop_own rfl (keeps_own rfl ?_) ?_
            · intro o ho
              simp only [List.mem_cons, List.not_mem_nil, or_false] at ho
              rcases ho with rfl | rfl
              · exact clo_corr _ _
              · rfl
            · simp only [held2, cloA, go_sem, Nat.reduceAdd, Nat.reduceSub, Nat.reduceMul, Nat.reduceLT, Nat.reduceLeDiff, Nat.reduceBEq, Nat.reduceEqDiff, Int.reduceLE, Int.reduceLT, Int.reduceNeg, Int.reduceAdd, Int.reduceSub, Int.reduceEq, Int.reduceMul, Int.reduceToNat, reduceIte]
        · simp only [go_sem, Nat.reduceAdd, Nat.reduceSub, Nat.reduceMul, Nat.reduceLT, Nat.reduceLeDiff, Nat.reduceBEq, Nat.reduceEqDiff, Int.reduceLE, Int.reduceLT, Int.reduceNeg, Int.reduceAdd, Int.reduceSub, Int.reduceEq, Int.reduceMul, Int.reduceToNat, reduceIte, h4, h5, wrap_succ j (by omega)]
          refine ⟨⟨j + 1, hltj⟩, by simp only; omega, ?_⟩
          simp only [hS]
          have hc1 : corr1 S l[i].items[j] = S := by
            unfold corr1
            rw [List.length_eq_zero_iff.1 (show l[i].items[j].by_.length = 0 by omega)]
          simp only [hc1]
          refine drop_own rfl (keeps_own rfl ?_) ?_
          · intro o ho
            simp only [List.mem_cons, List.not_mem_nil, or_false] at ho
            rcases ho with rfl | rfl
            · exact clo_corr _ _
            · rfl
          · simp only [held2, cloA, go_sem, Nat.reduceAdd, Nat.reduceSub, Nat.reduceMul, Nat.reduceLT, Nat.reduceLeDiff, Nat.reduceBEq, Nat.reduceEqDiff, Int.reduceLE, Int.reduceLT, Int.reduceNeg, Int.reduceAdd, Int.reduceSub, Int.reduceEq, Int.reduceMul, Int.reduceToNat, reduceIte]
      · simp only [go_sem, Nat.reduceAdd, Nat.reduceSub, Nat.reduceMul, Nat.reduceLT, Nat.reduceLeDiff, Nat.reduceBEq, Nat.reduceEqDiff, Int.reduceLE, Int.reduceLT, Int.reduceNeg, Int.reduceAdd, Int.reduceSub, Int.reduceEq, Int.reduceMul, Int.reduceToNat, reduceIte, h4, wrap_succ j (by omega)]
        refine ⟨⟨j + 1, hltj⟩, by simp only; omega, ?_⟩
        simp only [hS]
        have hc1 : corr1 S l[i].items[j] = S := by
          unfold corr1
          split
          · rw [if_neg (fun h => h4 h.1)]
          · rfl
        simp only [hc1]
        refine drop_own rfl (keeps_own rfl ?_) ?_
        · intro o ho
          simp only [List.mem_cons, List.not_mem_nil, or_false] at ho
          rcases ho with rfl | rfl
          · exact clo_corr _ _
          · rfl
        · simp only [held2, cloA, go_sem, Nat.reduceAdd, Nat.reduceSub, Nat.reduceMul, Nat.reduceLT, Nat.reduceLeDiff, Nat.reduceBEq, Nat.reduceEqDiff, Int.reduceLE, Int.reduceLT, Int.reduceNeg, Int.reduceAdd, Int.reduceSub, Int.reduceEq, Int.reduceMul, Int.reduceToNat, reduceIte]
    · have hje : j = l[i].items.length := by omega
      subst hje
      simp only [go_sem, Nat.reduceAdd, Nat.reduceSub, Nat.reduceMul, Nat.reduceLT, Nat.reduceLeDiff, Nat.reduceBEq, Nat.reduceEqDiff, Int.reduceLE, Int.reduceLT, Int.reduceNeg, Int.reduceAdd, Int.reduceSub, Int.reduceEq, Int.reduceMul, Int.reduceToNat, reduceIte, wrap_succ i (by omega)]
      refine ⟨⟨i + 1, hlt⟩, by simp only; omega, ?_⟩
      simp only [hnext]
      refine drop_own rfl (keeps_own rfl ?_) ?_
      · intro o ho
        simp only [List.mem_cons, List.not_mem_nil, or_false] at ho
        subst ho
        exact clo_corr _ _
      · simp only [held2, cloA, go_sem, Nat.reduceAdd, Nat.reduceSub, Nat.reduceMul, Nat.reduceLT, Nat.reduceLeDiff, Nat.reduceBEq, Nat.reduceEqDiff, Int.reduceLE, Int.reduceLT, Int.reduceNeg, Int.reduceAdd, Int.reduceSub, Int.reduceEq, Int.reduceMul, Int.reduceToNat, reduceIte]
  · rw [take_end h2]
    simp only [go_sem, Nat.reduceAdd, Nat.reduceSub, Nat.reduceMul, Nat.reduceLT, Nat.reduceLeDiff, Nat.reduceBEq, Nat.reduceEqDiff, Int.reduceLE, Int.reduceLT, Int.reduceNeg, Int.reduceAdd, Int.reduceSub, Int.reduceEq, Int.reduceMul, Int.reduceToNat, reduceIte]
end Go.Ab
