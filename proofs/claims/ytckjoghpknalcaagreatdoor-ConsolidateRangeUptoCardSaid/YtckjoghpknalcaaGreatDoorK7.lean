import Derived.Test.YtckjoghpknalcaaGreatDoorLayB
import Derived.Test.YtckjoghpknalcaaGreatDoorB2
import Derived.Test.YtckjoghpknalcaaGreatDoorA6
set_option linter.unusedVariables false
set_option linter.unusedSimpArgs false
set_option linter.unnecessarySimpa false
namespace Go.Proofs
open Go.Shelf Go.RowKit Go.Lib Go.Sort

set_option maxHeartbeats 1000000 in
/-- the comparison of two spans by their first days -/
theorem Tryz.byFrom (x y : Int × Int) (W : World) : Calls Tryz.prog 68 #[.agg #[.int .i64 x.1, .int .i64 x.2], .agg #[.int .i64 y.1, .int .i64 y.2]] W fun e w' => e = .returned (.int .i64 (Lib.compareInt x.1 y.1)) ∧ ∃ q os', w' = grow (W.drewN q) os' := by
  have hcon := fun W' => AnyG.cmp_Compare_int Tryz.cmpInt x.1 y.1 W'
  change ∀ W', Calls Tryz.prog 57 _ _ _ at hcon
  generalize Lib.compareInt x.1 y.1 = r at hcon ⊢
  go_enter Tryz.func68, Tryz.ntmps68
  go_wp2_with (go_at_call 57; refine (hcon _).mono ?_; rintro e w' ⟨rfl, rfl⟩)
  go_ret
  exact ⟨rfl, 0, _, by rw [alloc_eq_grow, alloc_eq_grow, grow_grow]; rfl⟩
end Go.Proofs

namespace Go.Ab
open Go.Sort Go.RowKit Go.Lib Go.Proofs
set_option linter.unusedVariables false
variable {GT : Globs}

instance : Inhabited GSpan := ⟨⟨0, 0⟩⟩
def vSpan (x : GSpan) : List Value := [.int .i64 x.from_, .int .i64 x.to_]
def cSpan (x y : GSpan) : Int := Lib.compareInt x.from_ y.from_
theorem ltSpan (x y : GSpan) : ltOf cSpan x y = decide (x.from_ < y.from_) := by
  unfold ltOf cSpan Lib.compareInt
  by_cases h1 : x.from_ < y.from_
  · simp [h1]
  · by_cases h2 : y.from_ < x.from_ <;> simp [h1, h2]
theorem swoSpan : SWO (ltOf cSpan) where
  irrefl x := by rw [ltSpan]; simp
  trans x y z h1 h2 := by rw [ltSpan] at *; simp at *; omega
  ntrans x y z h1 h2 := by rw [ltSpan] at *; simp at *; omega
/-- the spans in the order that slices.SortFunc gives -/
def sortS (l : List GSpan) : List GSpan := (pdq (ltOf cSpan) l.toArray 0 l.length (Lib.bitLen l.length) true true).toList

theorem sortS_is (l : List GSpan) : (pdq (ltOf cSpan) l.toArray 0 l.toArray.size (Lib.bitLen l.toArray.size) true true) = (sortS l).toArray := by simp [sortS]
theorem sortS_sorts (l : List GSpan) : (sortS l).Perm l ∧ SortedIn (ltOf cSpan) 0 l.length (sortS l).toArray := by
  have h := pdq_sorts (ltOf cSpan) swoSpan l.toArray 0 l.toArray.size (Lib.bitLen l.toArray.size) true true (Nat.zero_le _) (Nat.le_refl _) (Or.inl rfl)
  rw [sortS_is] at h
  exact ⟨by simpa using perm_all h.1, by simpa using h.2⟩
theorem sortS_length (l : List GSpan) : (sortS l).length = l.length := (sortS_sorts l).1.length_eq

theorem c_sortSpan (l : List GSpan) (b g n : Nat) (H : List AObj) (hb : hget H b = some (.row 2 g false (l.map fun x => .d (encSpan x)))) (hn : n = l.length) (hs : l.length < 4611686018427387904) :
    ACalls Go.Proofs.Tryz.prog GT 67 [.ref b g 0 n none, .d (.fn 68)] H fun v H' => v = .tup [] ∧ H' = hset H b (.row 2 g false ((sortS l).map fun x => .d (encSpan x))) := by
  refine ⟨by kernel_rfl, fun w own vs hR hl hargs => ?_⟩
  match vs, hl with
  | [v0, v1], _ =>
  have h0 := hargs 0 v0 _ rfl rfl
  have h1 := hargs 1 v1 _ rfl rfl
  obtain rfl : v1 = .func (.func 68) #[] #[] := by
    have := h1.d_inv
    cases this; rfl
  unfold hget at hb
  have hA : ∀ x : GSpan, (AV.d (encSpan x)).cells = ([x.from_, x.to_]).map fun n => .d (.int .i64 n) := fun x => rfl
  rcases ref_lies hb (by simpa using hn) h0 with ⟨c, off, cap, ho, rfl, hcap, hmax, hoff⟩ | ⟨ho, rfl, hx, hn0⟩
  · subst hn
    have hF : ∀ a : List GSpan, (flatK vSpan 2 a.toArray).size = a.length * 2 := fun a => by simp
    have hv : ∀ (a : List GSpan) (i : Nat) (x : GSpan) (j : Nat) (n : Int), a[i]? = some x → ([x.from_, x.to_])[j]? = some n → (flatK vSpan 2 a.toArray)[i * 2 + j]? = some (.int .i64 n) := by
      intro a i x j n hi hj
      refine flatK_get (fun _ => rfl) (by simpa using hi) ?_
      have : vSpan x = ([x.from_, x.to_]).map (Value.int .i64) := rfl
      rw [this, List.getElem?_map, hj]; rfl
    have hoff' : ∀ a : List GSpan, a.length = l.length → off = 0 ∨ (flatK vSpan 2 a.toArray).size = 0 := by
      intro a ha
      rcases hoff with h | h
      · exact .inl h
      · right
        have : l.length = 0 := by simpa using congrArg List.length h
        rw [hF, ha, this]
    have hH : HoldsK vSpan 2 w c off l.toArray := ints_holds hA (fun _ => rfl) hR ho hb (hF l) (hoff' l rfl) (hv l)
    have hrg := ints_range hA hR ho hb
    have eg : ∀ args w, (callFunc 68 args).run Go.Proofs.Tryz.prog w = .ok (.enter 68 args) w := enters_of Go.Proofs.Tryz.func68 (by kernel_rfl) rfl
    have hcmp : CmpLays Go.Proofs.Tryz.prog 68 #[] vSpan 2 cSpan c off l.toArray.size w := fun _ _ _ _ x y => Go.Proofs.Tryz.byFrom (x.from_, x.to_) (y.from_, y.to_) _
    have hcon := AnyQ.slices_SortFunc_eq Go.Proofs.Tryz.sortSpan 2 Go.Proofs.Tryz.isAgg136 Go.Proofs.Tryz.sizeOf136 vSpan (fun _ => rfl) (fun x v hv => by simp [vSpan] at hv; rcases hv with rfl | rfl <;> rfl) cSpan swoSpan 68 #[] c off cap l.toArray w eg hcmp hH (hR.lt ho) (by simpa using hs)
    rw [sortS_is] at hcon
    have hsz : l.toArray.size = l.length := by simp
    rw [hsz] at hcon
    refine hcon.mono ?_
    rintro e w' ⟨rfl, q, os, rfl⟩
    obtain ⟨r1, r2⟩ := ints_step (l' := sortS l) hA (fun _ => rfl) hR ho hb (F := flatK vSpan 2 (sortS l).toArray) (by rw [hF, sortS_length]) (hoff' _ (sortS_length l)) (sortS_length l) (fun x hx => hrg x ((sortS_sorts l).1.mem_iff.1 hx)) (hv _) q os
    exact ⟨_, _, _, own, rfl, r1, r2, .tup [] [] rfl (fun j v c hv => by simp at hv), rfl, rfl⟩
  · have hl0 : l = [] := by simpa using hx
    subst hl0 hn0
    refine (AnyF.slices_SortFunc_none Go.Proofs.Tryz.sortSpan none 0 _ w).mono ?_
    rintro e w' ⟨rfl, rfl⟩
    have e0 : sortS [] = [] := List.length_eq_zero_iff.1 (sortS_length [])
    refine ⟨_, _, _, own, rfl, hR, .refl _ _ _, .tup [] [] rfl (fun j v c hv => by simp at hv), rfl, ?_⟩
    rw [e0]
    exact (hset_same hb).symm
end Go.Ab
