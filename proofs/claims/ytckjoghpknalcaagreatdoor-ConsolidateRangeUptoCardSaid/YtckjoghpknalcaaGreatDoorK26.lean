/- What the runs at given data take as known: Clone at empty slices; tables of calls. -/
import Derived.Test.YtckjoghpknalcaaGreatDoorK25
import Derived.Test.YtckjoghpknalcaaGreatDoorA9
set_option linter.unusedVariables false
set_option linter.unusedSimpArgs false
set_option linter.unnecessarySimpa false
open Go
namespace Go.Ab
attribute [local go_sem] ents held Option.isSome_some Option.isSome_none Option.map_some Option.map_none List.length_map List.map_cons List.map_nil List.length_cons List.length_nil List.cons_append List.nil_append List.append_assoc true_and and_true true_or or_true eq_self decide_true decide_false Bool.not_true Bool.not_false not_true not_false Int.natCast_zero Nat.zero_add Bool.false_eq_true Bool.true_eq_false if_true if_false Bool.or_false Bool.or_true Bool.false_or Bool.true_or Bool.and_false Bool.false_and
set_option maxRecDepth 8000
set_option linter.unusedSimpArgs false
set_option linter.unusedVariables false
variable {GT : Globs}

theorem freshG_nils0 {α : Type} {H : List AObj} {z : Nat} {f : α → D} {R : Nat → List α → Prop} (h : R 0 []) : freshG H z f R .nils H := ⟨[], by simp, .inl ⟨rfl, h⟩⟩
theorem freshG_row {α : Type} {H L : List AObj} {z : Nat} {f : α → D} {R : Nat → List α → Prop} {k g n : Nat} {cap : Option Nat} {xs : List α} (hL : L[k]? = some (.row z g false (xs.map fun x => .d (f x)))) (hn : n = xs.length) (hc : cap = none ∨ cap = some n) (h : R g xs) : freshG H z f R (.ref (H.length + k) g 0 n cap) (H ++ L) :=
  ⟨L, rfl, .inr ⟨k, g, n, cap, xs, rfl, hL, hn, hc, h⟩⟩

theorem c_cloneSpan0 (H : List AObj) : ACalls Go.Proofs.Tryz.prog GT 235 [.d (.list [])] H fun v H' => v = .ref H.length 0 0 0 none ∧ H' = H ++ [.row 2 0 false []] := by
  refine ACalls.mono (R := fun v H' => ∃ g xs, v = .ref H.length g 0 xs.length none ∧ H' = H ++ [.row 2 g false (xs.map fun x => .d (encSpan x))] ∧ (g = 0 ∧ xs = [])) ?_ (by rintro v H' ⟨g, xs, rfl, rfl, rfl, rfl⟩; exact ⟨rfl, rfl⟩)
  refine acalls_freshG (2) (encSpan) (fn := Go.Proofs.Tryz.f235) (c := _) 8 [.tmp 2] (by kernel_rfl) rfl (by kernel_rfl) rfl rfl (by simp) (by omega) ?_
  simp only [go_sem, Nat.reduceAdd, Nat.reduceSub, Nat.reduceMul, Nat.reduceLT, Nat.reduceLeDiff, Nat.reduceBEq, Nat.reduceEqDiff, Int.reduceLE, Int.reduceLT, Int.reduceNeg, Int.reduceAdd, Int.reduceSub, Int.reduceEq, Int.reduceMul, Int.reduceToNat, reduceIte]
  refine nop_eql [] (by simp only [go_sem, Nat.reduceAdd, Nat.reduceSub, Nat.reduceMul, Nat.reduceLT, Nat.reduceLeDiff, Nat.reduceBEq, Nat.reduceEqDiff, Int.reduceLE, Int.reduceLT, Int.reduceNeg, Int.reduceAdd, Int.reduceSub, Int.reduceEq, Int.reduceMul, Int.reduceToNat, reduceIte]) (by simp only [go_sem, Nat.reduceAdd, Nat.reduceSub, Nat.reduceMul, Nat.reduceLT, Nat.reduceLeDiff, Nat.reduceBEq, Nat.reduceEqDiff, Int.reduceLE, Int.reduceLT, Int.reduceNeg, Int.reduceAdd, Int.reduceSub, Int.reduceEq, Int.reduceMul, Int.reduceToNat, reduceIte]) (by simp only [go_sem, Nat.reduceAdd, Nat.reduceSub, Nat.reduceMul, Nat.reduceLT, Nat.reduceLeDiff, Nat.reduceBEq, Nat.reduceEqDiff, Int.reduceLE, Int.reduceLT, Int.reduceNeg, Int.reduceAdd, Int.reduceSub, Int.reduceEq, Int.reduceMul, Int.reduceToNat, reduceIte]) ?_
  rintro b hb
  cases b with
  | true =>
    simp only [go_sem, Nat.reduceAdd, Nat.reduceSub, Nat.reduceMul, Nat.reduceLT, Nat.reduceLeDiff, Nat.reduceBEq, Nat.reduceEqDiff, Int.reduceLE, Int.reduceLT, Int.reduceNeg, Int.reduceAdd, Int.reduceSub, Int.reduceEq, Int.reduceMul, Int.reduceToNat, reduceIte]
    exact freshG_nils0 ⟨rfl, rfl⟩
  | false =>
    simp only [go_sem, Nat.reduceAdd, Nat.reduceSub, Nat.reduceMul, Nat.reduceLT, Nat.reduceLeDiff, Nat.reduceBEq, Nat.reduceEqDiff, Int.reduceLE, Int.reduceLT, Int.reduceNeg, Int.reduceAdd, Int.reduceSub, Int.reduceEq, Int.reduceMul, Int.reduceToNat, reduceIte]
    refine bsl_own0 (by simp only [go_sem, Nat.reduceAdd, Nat.reduceSub, Nat.reduceMul, Nat.reduceLT, Nat.reduceLeDiff, Nat.reduceBEq, Nat.reduceEqDiff, Int.reduceLE, Int.reduceLT, Int.reduceNeg, Int.reduceAdd, Int.reduceSub, Int.reduceEq, Int.reduceMul, Int.reduceToNat, reduceIte]) (by simp only [go_sem, Nat.reduceAdd, Nat.reduceSub, Nat.reduceMul, Nat.reduceLT, Nat.reduceLeDiff, Nat.reduceBEq, Nat.reduceEqDiff, Int.reduceLE, Int.reduceLT, Int.reduceNeg, Int.reduceAdd, Int.reduceSub, Int.reduceEq, Int.reduceMul, Int.reduceToNat, reduceIte]) ?_
    simp only [go_sem, Nat.reduceAdd, Nat.reduceSub, Nat.reduceMul, Nat.reduceLT, Nat.reduceLeDiff, Nat.reduceBEq, Nat.reduceEqDiff, Int.reduceLE, Int.reduceLT, Int.reduceNeg, Int.reduceAdd, Int.reduceSub, Int.reduceEq, Int.reduceMul, Int.reduceToNat, reduceIte, ap3_none]
    exact freshG_row (k := 0) (xs := []) rfl rfl (.inr rfl) ⟨rfl, rfl⟩
theorem c_cloneWord0 (H : List AObj) : ACalls Go.Proofs.Tryz.prog GT 145 [.d (.list [])] H fun v H' => v = .ref H.length 0 0 0 none ∧ H' = H ++ [.row 4 0 false []] := by
  refine ACalls.mono (R := fun v H' => ∃ g xs, v = .ref H.length g 0 xs.length none ∧ H' = H ++ [.row 4 g false (xs.map fun x => .d (encWord x))] ∧ (g = 0 ∧ xs = [])) ?_ (by rintro v H' ⟨g, xs, rfl, rfl, rfl, rfl⟩; exact ⟨rfl, rfl⟩)
  refine acalls_freshG (4) (encWord) (fn := Go.Proofs.Tryz.f145) (c := _) 8 [.tmp 2] (by kernel_rfl) rfl (by kernel_rfl) rfl rfl (by simp) (by omega) ?_
  simp only [go_sem, Nat.reduceAdd, Nat.reduceSub, Nat.reduceMul, Nat.reduceLT, Nat.reduceLeDiff, Nat.reduceBEq, Nat.reduceEqDiff, Int.reduceLE, Int.reduceLT, Int.reduceNeg, Int.reduceAdd, Int.reduceSub, Int.reduceEq, Int.reduceMul, Int.reduceToNat, reduceIte]
  refine nop_eql [] (by simp only [go_sem, Nat.reduceAdd, Nat.reduceSub, Nat.reduceMul, Nat.reduceLT, Nat.reduceLeDiff, Nat.reduceBEq, Nat.reduceEqDiff, Int.reduceLE, Int.reduceLT, Int.reduceNeg, Int.reduceAdd, Int.reduceSub, Int.reduceEq, Int.reduceMul, Int.reduceToNat, reduceIte]) (by simp only [go_sem, Nat.reduceAdd, Nat.reduceSub, Nat.reduceMul, Nat.reduceLT, Nat.reduceLeDiff, Nat.reduceBEq, Nat.reduceEqDiff, Int.reduceLE, Int.reduceLT, Int.reduceNeg, Int.reduceAdd, Int.reduceSub, Int.reduceEq, Int.reduceMul, Int.reduceToNat, reduceIte]) (by simp only [go_sem, Nat.reduceAdd, Nat.reduceSub, Nat.reduceMul, Nat.reduceLT, Nat.reduceLeDiff, Nat.reduceBEq, Nat.reduceEqDiff, Int.reduceLE, Int.reduceLT, Int.reduceNeg, Int.reduceAdd, Int.reduceSub, Int.reduceEq, Int.reduceMul, Int.reduceToNat, reduceIte]) ?_
  rintro b hb
  cases b with
  | true =>
    simp only [go_sem, Nat.reduceAdd, Nat.reduceSub, Nat.reduceMul, Nat.reduceLT, Nat.reduceLeDiff, Nat.reduceBEq, Nat.reduceEqDiff, Int.reduceLE, Int.reduceLT, Int.reduceNeg, Int.reduceAdd, Int.reduceSub, Int.reduceEq, Int.reduceMul, Int.reduceToNat, reduceIte]
    exact freshG_nils0 ⟨rfl, rfl⟩
  | false =>
    simp only [go_sem, Nat.reduceAdd, Nat.reduceSub, Nat.reduceMul, Nat.reduceLT, Nat.reduceLeDiff, Nat.reduceBEq, Nat.reduceEqDiff, Int.reduceLE, Int.reduceLT, Int.reduceNeg, Int.reduceAdd, Int.reduceSub, Int.reduceEq, Int.reduceMul, Int.reduceToNat, reduceIte]
    refine bsl_own0 (by simp only [go_sem, Nat.reduceAdd, Nat.reduceSub, Nat.reduceMul, Nat.reduceLT, Nat.reduceLeDiff, Nat.reduceBEq, Nat.reduceEqDiff, Int.reduceLE, Int.reduceLT, Int.reduceNeg, Int.reduceAdd, Int.reduceSub, Int.reduceEq, Int.reduceMul, Int.reduceToNat, reduceIte]) (by simp only [go_sem, Nat.reduceAdd, Nat.reduceSub, Nat.reduceMul, Nat.reduceLT, Nat.reduceLeDiff, Nat.reduceBEq, Nat.reduceEqDiff, Int.reduceLE, Int.reduceLT, Int.reduceNeg, Int.reduceAdd, Int.reduceSub, Int.reduceEq, Int.reduceMul, Int.reduceToNat, reduceIte]) ?_
    simp only [go_sem, Nat.reduceAdd, Nat.reduceSub, Nat.reduceMul, Nat.reduceLT, Nat.reduceLeDiff, Nat.reduceBEq, Nat.reduceEqDiff, Int.reduceLE, Int.reduceLT, Int.reduceNeg, Int.reduceAdd, Int.reduceSub, Int.reduceEq, Int.reduceMul, Int.reduceToNat, reduceIte, ap3_none]
    exact freshG_row (k := 0) (xs := []) rfl rfl (.inr rfl) ⟨rfl, rfl⟩
theorem c_cloneUnit0 (H : List AObj) : ACalls Go.Proofs.Tryz.prog GT 176 [.d (.list [])] H fun v H' => v = .ref H.length 0 0 0 none ∧ H' = H ++ [.row 8 0 false []] := by
  refine ACalls.mono (R := fun v H' => ∃ g xs, v = .ref H.length g 0 xs.length none ∧ H' = H ++ [.row 8 g false (xs.map fun x => .d (encUnit x))] ∧ (g = 0 ∧ xs = [])) ?_ (by rintro v H' ⟨g, xs, rfl, rfl, rfl, rfl⟩; exact ⟨rfl, rfl⟩)
  refine acalls_freshG (8) (encUnit) (fn := Go.Proofs.Tryz.f176) (c := _) 8 [.tmp 2] (by kernel_rfl) rfl (by kernel_rfl) rfl rfl (by simp) (by omega) ?_
  simp only [go_sem, Nat.reduceAdd, Nat.reduceSub, Nat.reduceMul, Nat.reduceLT, Nat.reduceLeDiff, Nat.reduceBEq, Nat.reduceEqDiff, Int.reduceLE, Int.reduceLT, Int.reduceNeg, Int.reduceAdd, Int.reduceSub, Int.reduceEq, Int.reduceMul, Int.reduceToNat, reduceIte]
  refine nop_eql [] (by simp only [go_sem, Nat.reduceAdd, Nat.reduceSub, Nat.reduceMul, Nat.reduceLT, Nat.reduceLeDiff, Nat.reduceBEq, Nat.reduceEqDiff, Int.reduceLE, Int.reduceLT, Int.reduceNeg, Int.reduceAdd, Int.reduceSub, Int.reduceEq, Int.reduceMul, Int.reduceToNat, reduceIte]) (by simp only [go_sem, Nat.reduceAdd, Nat.reduceSub, Nat.reduceMul, Nat.reduceLT, Nat.reduceLeDiff, Nat.reduceBEq, Nat.reduceEqDiff, Int.reduceLE, Int.reduceLT, Int.reduceNeg, Int.reduceAdd, Int.reduceSub, Int.reduceEq, Int.reduceMul, Int.reduceToNat, reduceIte]) (by simp only [go_sem, Nat.reduceAdd, Nat.reduceSub, Nat.reduceMul, Nat.reduceLT, Nat.reduceLeDiff, Nat.reduceBEq, Nat.reduceEqDiff, Int.reduceLE, Int.reduceLT, Int.reduceNeg, Int.reduceAdd, Int.reduceSub, Int.reduceEq, Int.reduceMul, Int.reduceToNat, reduceIte]) ?_
  rintro b hb
  cases b with
  | true =>
    simp only [go_sem, Nat.reduceAdd, Nat.reduceSub, Nat.reduceMul, Nat.reduceLT, Nat.reduceLeDiff, Nat.reduceBEq, Nat.reduceEqDiff, Int.reduceLE, Int.reduceLT, Int.reduceNeg, Int.reduceAdd, Int.reduceSub, Int.reduceEq, Int.reduceMul, Int.reduceToNat, reduceIte]
    exact freshG_nils0 ⟨rfl, rfl⟩
  | false =>
    simp only [go_sem, Nat.reduceAdd, Nat.reduceSub, Nat.reduceMul, Nat.reduceLT, Nat.reduceLeDiff, Nat.reduceBEq, Nat.reduceEqDiff, Int.reduceLE, Int.reduceLT, Int.reduceNeg, Int.reduceAdd, Int.reduceSub, Int.reduceEq, Int.reduceMul, Int.reduceToNat, reduceIte]
    refine bsl_own0 (by simp only [go_sem, Nat.reduceAdd, Nat.reduceSub, Nat.reduceMul, Nat.reduceLT, Nat.reduceLeDiff, Nat.reduceBEq, Nat.reduceEqDiff, Int.reduceLE, Int.reduceLT, Int.reduceNeg, Int.reduceAdd, Int.reduceSub, Int.reduceEq, Int.reduceMul, Int.reduceToNat, reduceIte]) (by simp only [go_sem, Nat.reduceAdd, Nat.reduceSub, Nat.reduceMul, Nat.reduceLT, Nat.reduceLeDiff, Nat.reduceBEq, Nat.reduceEqDiff, Int.reduceLE, Int.reduceLT, Int.reduceNeg, Int.reduceAdd, Int.reduceSub, Int.reduceEq, Int.reduceMul, Int.reduceToNat, reduceIte]) ?_
    simp only [go_sem, Nat.reduceAdd, Nat.reduceSub, Nat.reduceMul, Nat.reduceLT, Nat.reduceLeDiff, Nat.reduceBEq, Nat.reduceEqDiff, Int.reduceLE, Int.reduceLT, Int.reduceNeg, Int.reduceAdd, Int.reduceSub, Int.reduceEq, Int.reduceMul, Int.reduceToNat, reduceIte, ap3_none]
    exact freshG_row (k := 0) (xs := []) rfl rfl (.inr rfl) ⟨rfl, rfl⟩

/-! tables -/
structure Ent where
  f : FuncId
  args : List AV
  H : List AObj
  v : AV
  H2 : List AObj
def tabs : List Ent → CallF
  | [] => fun _ _ _ => none
  | e :: l => fun f args H => if Nat.beq e.f f = true then if (idemAL e.args args && idemOL e.H H) = true then some (e.v, e.H2) else tabs l f args H else tabs l f args H
theorem tabs_sound {P : Program} : ∀ {l : List Ent}, (∀ e ∈ l, ACalls P GT e.f e.args e.H fun a K => a = e.v ∧ K = e.H2) → CSound P GT (tabs l)
  | [], _ => fun g args H v H' h => by simp [tabs] at h
  | e :: l, hs => fun g args H v H' h => by
    have ih := tabs_sound (l := l) fun e he => hs e (List.mem_cons_of_mem _ he)
    unfold tabs at h
    split at h
    · rename_i hf
      split at h
      · rename_i hc
        cases h
        simp only [Bool.and_eq_true] at hc
        have h1 := Nat.eq_of_beq_eq_true hf
        have h2 := idemAL_eq _ _ hc.1
        have h3 := idemOL_eq _ _ hc.2
        subst h1 h2 h3
        exact hs e (List.mem_cons_self ..)
      · exact ih _ _ _ _ _ h
    · exact ih _ _ _ _ _ h
def orC (a b : CallF) : CallF := fun f args H => match a f args H with
  | some r => some r
  | none => b f args H
theorem orC_sound {P : Program} {a b : CallF} (ha : CSound P GT a) (hb : CSound P GT b) : CSound P GT (orC a b) := fun g args H v H' h => by
  unfold orC at h
  split at h
  · rename_i r hr; cases h; exact ha _ _ _ _ _ hr
  · exact hb _ _ _ _ _ h

/-- Clone at nothing -/
def cl0 (f : FuncId) : Option Nat :=
  if Nat.beq f 235 = true then some 2
  else if Nat.beq f 145 = true then some 4
  else if Nat.beq f 176 = true then some 8
  else none
def isCl (f : FuncId) : Bool := (cl0 f).isSome || Nat.beq f 39 || Nat.beq f 183
def kn0 : CallF := fun f args H => match cl0 f with
  | some z => match args with
    | [.d (.list [])] => some (.ref H.length 0 0 0 none, H ++ [.row z 0 false []])
    | _ => none
  | none => none
theorem kn0_sound : CSound Go.Proofs.Tryz.prog GT kn0 := fun g args H v H' h => by
  unfold kn0 at h
  split at h
  · rename_i z hz
    split at h
    · cases h
      unfold cl0 at hz
      split at hz
      · rename_i hf; cases hz; rw [Nat.eq_of_beq_eq_true hf]; exact c_cloneSpan0 H
      · split at hz
        · rename_i hf; cases hz; rw [Nat.eq_of_beq_eq_true hf]; exact c_cloneWord0 H
        · split at hz
          · rename_i hf; cases hz; rw [Nat.eq_of_beq_eq_true hf]; exact c_cloneUnit0 H
          · cases hz
    · cases h
  · cases h
/-- the program's variables -/
def GT0 : Globs := [(0, [.fn 318, .fn 319]),
  (1, [.list [.int .i64 1, .int .i64 2], .list [.int .i64 2], .list [.int .i64 3, .int .i64 4, .int .i64 7], .list [.int .i64 3, .int .i64 4, .int .i64 7], .list [.int .i64 5], .list [.int .i64 6], .list [], .list []]),
  (4, [.str ⟨⟨[98, 111, 111, 107]⟩⟩, .str ⟨⟨[112, 97, 114, 116]⟩⟩, .str ⟨⟨[115, 101, 99, 116, 105, 111, 110]⟩⟩, .str ⟨⟨[112, 97, 114, 97, 103, 114, 97, 112, 104]⟩⟩, .str ⟨⟨[116, 97, 98, 108, 101]⟩⟩, .str ⟨⟨[114, 111, 119]⟩⟩, .str ⟨⟨[99, 101, 108, 108]⟩⟩, .str ⟨⟨[110, 111, 116, 101]⟩⟩])]
end Go.Ab
