import Derived.Test.YtckjoghpknalcaaGreatDoorK7
set_option linter.unusedVariables false
set_option linter.unusedSimpArgs false
set_option linter.unnecessarySimpa false
namespace Go.Ab
open Go.Sort Go.RowKit Go.Lib Go.Proofs
set_option linter.unusedVariables false
variable {GT : Globs}

theorem putRow_ints (w : World) (c off : Nat) (d : List Int) : putRow (Value.int .i64) w c off d.toArray = putRow id w c off (d.map (Value.int .i64)).toArray := by
  unfold putRow
  refine mapBlock_congr w c _ _ fun cur e fr _ => ?_
  unfold Go.Sort.putCells
  apply Array.ext_getElem?
  intro k
  simp only [Array.getElem?_mapIdx]
  congr 1
  funext x
  by_cases h : off ≤ k ∧ k < off + d.length
  · have h1 : off ≤ k ∧ k < off + d.toArray.size := by simpa using h
    have h2 : off ≤ k ∧ k < off + (d.map (Value.int .i64)).toArray.size := by simpa using h
    rw [if_pos h1, if_pos h2]
    have h3 : k - off < d.toArray.size := by omega
    have h4 : k - off < (d.map (Value.int .i64)).toArray.size := by omega
    rw [getElem!_pos d.toArray (k - off) h3, getElem!_pos (d.map (Value.int .i64)).toArray (k - off) h4]
    simp
  · have h1 : ¬ (off ≤ k ∧ k < off + d.toArray.size) := by simpa using h
    have h2 : ¬ (off ≤ k ∧ k < off + (d.map (Value.int .i64)).toArray.size) := by simpa using h
    rw [if_neg h1, if_neg h2]

theorem holds_ints {w : World} {c off : Nat} {d : List Int} (h : Holds id w c off (d.map (Value.int .i64)).toArray) : Holds (Value.int .i64) w c off d.toArray := by
  intro j hj
  have hj' : j < d.length := by simpa using hj
  have := h j (by simpa using hj')
  rw [getElem!_pos (d.map (Value.int .i64)).toArray j (by simpa using hj')] at this
  rw [getElem!_pos d.toArray j hj]
  simpa using this

def sortI (l : List Int) : List Int := l.mergeSort fun x y => decide (x ≤ y)
theorem sortI_perm (l : List Int) : (sortI l).Perm l := List.mergeSort_perm l _

theorem c_sortInt (l : List Int) (b g n : Nat) (H : List AObj) (hb : hget H b = some (.row 1 g false (l.map fun x => .d (.int .i64 x)))) (hn : n = l.length) (hs : l.length < 4611686018427387904) :
    ACalls Go.Proofs.Tryz.prog GT 236 [.ref b g 0 n none] H fun v H' => v = .tup [] ∧ H' = hset H b (.row 1 g false ((sortI l).map fun x => .d (.int .i64 x))) := by
  refine ⟨by kernel_rfl, fun w own vs hR hl hargs => ?_⟩
  match vs, hl with
  | [v0], _ =>
  have h0 := hargs 0 v0 _ rfl rfl
  unfold hget at hb
  have hA : ∀ x : Int, (AV.d (.int .i64 x)).cells = ([x]).map fun n => .d (.int .i64 n) := fun x => rfl
  rcases ref_lies hb (by simpa using hn) h0 with ⟨c, off, cap, ho, rfl, hcap, hmax, hoff⟩ | ⟨ho, rfl, hx, hn0⟩
  · subst hn
    have hF : ∀ a : List Int, (a.map (Value.int .i64)).toArray.size = a.length * 1 := fun a => by simp
    have hv : ∀ (a : List Int) (i : Nat) (x : Int) (j : Nat) (n : Int), a[i]? = some x → ([x])[j]? = some n → ((a.map (Value.int .i64)).toArray)[i * 1 + j]? = some (.int .i64 n) := by
      intro a i x j n hi hj
      match j, hj with
      | 0, hj => simp at hj; subst hj; simp [hi]
      | j + 1, hj => simp at hj
    have hoff' : ∀ a : List Int, a.length = l.length → off = 0 ∨ (a.map (Value.int .i64)).toArray.size = 0 := by
      intro a ha
      rcases hoff with h | h
      · exact .inl h
      · right
        have : l.length = 0 := by simpa using congrArg List.length h
        rw [hF, ha, this]
    have hH := holds_ints (ints_holds (ints := fun x : Int => [x]) hA (fun _ => rfl) hR ho hb (hF l) (hoff' l rfl) (hv l))
    have hrg := ints_range (ints := fun x : Int => [x]) hA hR ho hb
    have hcon := Any.slices_Sort_int Go.Proofs.Tryz.sortInt c off cap l w hH (hR.lt ho) hs
    refine hcon.mono ?_
    rintro e w' ⟨rfl, q, os, rfl⟩
    have hlen : (sortI l).length = l.length := (sortI_perm l).length_eq
    obtain ⟨r1, r2⟩ := ints_step (ints := fun x : Int => [x]) (l' := sortI l) hA (fun _ => rfl) hR ho hb (F := ((sortI l).map (Value.int .i64)).toArray) (by rw [hF, hlen]) (hoff' _ hlen) hlen (fun x hx => hrg x ((sortI_perm l).mem_iff.1 hx)) (hv _) q os
    rw [← putRow_ints] at r1 r2
    exact ⟨_, _, _, own, rfl, r1, r2, .tup [] [] rfl (fun j v c hv => by simp at hv), rfl, rfl⟩
  · have hl0 : l = [] := by simpa using hx
    subst hl0 hn0
    refine (Any.slices_Sort_int_none Go.Proofs.Tryz.sortInt none 0 w).mono ?_
    rintro e w' ⟨rfl, rfl⟩
    have e0 : sortI [] = [] := List.length_eq_zero_iff.1 (sortI_perm []).length_eq
    refine ⟨_, _, _, own, rfl, hR, .refl _ _ _, .tup [] [] rfl (fun j v c hv => by simp at hv), rfl, ?_⟩
    rw [e0]
    exact (hset_same hb).symm

/-- the row that slices.Compact leaves -/
def compRow (l : List Int) : List Int := Lib.compact l ++ List.replicate (l.length - (Lib.compact l).length) 0
theorem c_compact (l : List Int) (b g n : Nat) (H : List AObj) (hb : hget H b = some (.row 1 g false (l.map fun x => .d (.int .i64 x)))) (hn : n = l.length) (hs : l.length < 4611686018427387904) (hlen : (Lib.compact l).length ≤ l.length) (hmem : ∀ x ∈ Lib.compact l, x ∈ l) :
    ACalls Go.Proofs.Tryz.prog GT 237 [.ref b g 0 n none] H fun v H' => v = .ref b g 0 (Lib.compact l).length none ∧ H' = hset H b (.row 1 g false ((compRow l).map fun x => .d (.int .i64 x))) := by
  refine ⟨by kernel_rfl, fun w own vs hR hl hargs => ?_⟩
  match vs, hl with
  | [v0], _ =>
  have h0 := hargs 0 v0 _ rfl rfl
  unfold hget at hb
  have hA : ∀ x : Int, (AV.d (.int .i64 x)).cells = ([x]).map fun n => .d (.int .i64 n) := fun x => rfl
  have hcl : (compRow l).length = l.length := by simp [compRow]; omega
  rcases ref_lies hb (by simpa using hn) h0 with ⟨c, off, cap, ho, rfl, hcap, hmax, hoff⟩ | ⟨ho, rfl, hx, hn0⟩
  · subst hn
    have hF : ∀ a : List Int, (a.map (Value.int .i64)).toArray.size = a.length * 1 := fun a => by simp
    have hv : ∀ (a : List Int) (i : Nat) (x : Int) (j : Nat) (n : Int), a[i]? = some x → ([x])[j]? = some n → ((a.map (Value.int .i64)).toArray)[i * 1 + j]? = some (.int .i64 n) := by
      intro a i x j n hi hj
      match j, hj with
      | 0, hj => simp at hj; subst hj; simp [hi]
      | j + 1, hj => simp at hj
    have hoff' : ∀ a : List Int, a.length = l.length → off = 0 ∨ (a.map (Value.int .i64)).toArray.size = 0 := by
      intro a ha
      rcases hoff with h | h
      · exact .inl h
      · right
        have : l.length = 0 := by simpa using congrArg List.length h
        rw [hF, ha, this]
    have hH := holds_ints (ints_holds (ints := fun x : Int => [x]) hA (fun _ => rfl) hR ho hb (hF l) (hoff' l rfl) (hv l))
    have hrg := ints_range (ints := fun x : Int => [x]) hA hR ho hb
    have hcon := Any.slices_Compact_int Go.Proofs.Tryz.compactInt c off cap l w hH (by omega) hcap
    refine hcon.mono ?_
    rintro e w' ⟨rfl, q, rfl⟩
    obtain ⟨r1, r2⟩ := ints_step (ints := fun x : Int => [x]) (l' := compRow l) hA (fun _ => rfl) hR ho hb (F := ((compRow l).map (Value.int .i64)).toArray) (by rw [hF, hcl]) (hoff' _ hcl) hcl (fun x hx n hn => by
      simp only [List.mem_singleton] at hn
      subst hn
      rcases List.mem_append.1 hx with h | h
      · exact hrg n (hmem n h) n (by simp)
      · have := (List.mem_replicate.1 h).2
        subst this
        exact ⟨by decide, by decide⟩) (hv _) q #[]
    rw [← putRow_ints, grow_empty] at r1 r2
    refine ⟨_, .ref b g 0 (Lib.compact l).length none, _, own, rfl, r1, r2, ?_, rfl, rfl⟩
    have h0' := h0.pass r2.1
    cases h0' with
    | ref _ _ _ _ _ c' z' fz xs' capc off' sz ho' hb' hin hcap' hmax' hk hoff'' hs' hsz =>
      exact .ref b g 0 _ none c z' fz xs' cap off sz ho' hb' (by omega) (by omega) hmax' hk hoff'' hs' hsz
    | stale _ _ _ _ _ _ o hb' hg => exact .stale _ b g 0 _ none o hb' hg
  · have hl0 : l = [] := by simpa using hx
    subst hl0 hn0
    have hc0 : (Lib.compact ([] : List Int)).length = 0 := by simpa using hlen
    refine (Any.slices_Compact_int_empty Go.Proofs.Tryz.compactInt none 0 w).mono ?_
    rintro e w' ⟨rfl, rfl⟩
    have e0 : compRow [] = [] := List.length_eq_zero_iff.1 (by simpa using hcl)
    refine ⟨_, .ref b g 0 (Lib.compact ([] : List Int)).length none, _, own, rfl, hR, .refl _ _ _, ?_, rfl, ?_⟩
    · rw [hc0]; exact h0
    rw [e0]
    exact (hset_same hb).symm
end Go.Ab
