/- The shelf's contracts over rows, as contracts over abstract rows. Rows whose cells are numbers, at the shelf. -/
import Derived.Test.YtckjoghpknalcaaGreatDoorA4
import Derived.Shelf.SlSortCmp.WholeK
import Derived.Shelf.SlSortCmp.NoneTotal
import Derived.Test.YtckjoghpknalcaaGreatDoorA5
set_option linter.unusedVariables false
set_option linter.unusedSimpArgs false
set_option linter.unnecessarySimpa false
namespace Go.Ab
open Go.Sort

variable {P : Program} {GT : Globs}

/-- blocks that nobody knows of -/
theorem grow_rel {h : Array Obj} {own : Nat → Slot} {H : List AObj} (hR : RelH GT h own H) (os : Array Obj) : RelH GT (h ++ os) own H ∧ Pass h own H (h ++ os) own H := by
  have hget : ∀ c, c < h.size → (h ++ os)[c]? = h[c]? := fun c hc => Array.getElem?_append_left hc
  have hp : Pass h own H (h ++ os) own H := by
    refine ⟨by simp, fun c hc => ⟨⟨by have := hc.1; simp; omega, hc.2⟩, hget c hc.1⟩, fun b o hb => ⟨o, hb, Nat.le_refl _, ?_⟩, fun c n hn => ?_⟩
    · cases o with
      | row z g fz xs => exact ⟨fz, xs, g, rfl, fun _ => ⟨rfl, .inr rfl, fun _ h => h⟩⟩
      | map es => exact ⟨⟨es, rfl⟩, .inr rfl⟩
      | iter s p => exact ⟨⟨p, rfl⟩, .inr rfl⟩
    · unfold rowSize at *
      rcases Nat.lt_or_ge c h.size with hlt | hge
      · rw [hget c hlt]; exact hn
      · rw [Array.getElem?_eq_none hge] at hn; cases hn
  exact ⟨⟨hR.out, hR.inj, fun b c o ho hb => (hR.obj b c o ho hb).pass hp (hget c (hR.lt ho)), hR.virt, fun g cs hg => (hR.glob g cs hg).pass hp⟩, hp⟩

theorem heap_putRow (w : World) (q c off : Nat) (F : Array Value) {cur : Array Value} {e : TypeId} (hc : w.heap[c]? = some (.cells cur e (0, 0))) :
    (putRow id (Go.Sort.ahead w q) c off F).heap = w.heap.setIfInBounds c (.cells (Go.Sort.putCells id off F cur) e (0, 0)) := by
  unfold putRow mapBlock
  show w.heap.modify c _ = _
  apply Array.ext_getElem?
  intro k
  rw [Array.getElem?_modify]
  by_cases hk : c = k
  · subst hk
    have hlt := (Array.getElem?_eq_some_iff.1 hc).1
    rw [if_pos rfl, hc, Array.getElem?_setIfInBounds_self_of_lt hlt]; rfl
  · rw [if_neg hk, Array.getElem?_setIfInBounds_ne hk]

/-- A ROW LAID ANEW, and blocks that nobody knows of -/
theorem row_step {w : World} {own : Nat → Slot} {H : List AObj} {b c z g off : Nat} {xs xs' : List AV} {F : Array Value} (hR : RelH GT w.heap own H) (ho : own b = .at c) (hb : H[b]? = some (.row z g false xs)) (hF : F.size = xs.length * z) (hoff : off = 0 ∨ F.size = 0)
    (hl : xs'.length = xs.length) (hu : ∀ x ∈ xs', x.cells.length = z) (hv : ∀ (i : Nat) x' (j : Nat) a, xs'[i]? = some x' → x'.cells[j]? = some a → ∃ v, F[i * z + j]? = some v ∧ one v = true ∧ VR w own H v a) (q : Nat) (os : Array Obj) :
    RelH GT (grow (putRow id (Go.Sort.ahead w q) c off F) os).heap own (H.set b (.row z g false xs')) ∧ Mv w own H (grow (putRow id (Go.Sort.ahead w q) c off F) os) own (H.set b (.row z g false xs')) := by
  obtain ⟨cur, e, hc, hsz, hz, hxz, hx⟩ := hR.obj b c _ ho hb
  have hgr : Grows (own b) (own b) (.row z g false xs) (.row z g false xs') := ⟨false, xs', g, rfl, fun _ => ⟨hl, .inr rfl, fun hvv _ => by rw [ho] at hvv; cases hvv⟩⟩
  have hszo : ∀ n, sizeO (.cells cur e (0, 0)) = some n → sizeO (.cells (Go.Sort.putCells id off F cur) e (0, 0)) = some n := by
    intro n hn
    simp only [sizeO, Option.some.injEq] at hn ⊢
    rw [← hn]; simp [Go.Sort.putCells]
  have hp := set_pass (o' := .row z g false xs') (ob' := .cells (Go.Sort.putCells id off F cur) e (0, 0)) hR.inj ho hb rfl hc (Nat.le_refl _) hgr hszo
  have hR1 := set_rel (o' := .row z g false xs') (ob' := .cells (Go.Sort.putCells id off F cur) e (0, 0)) hR ho hb rfl hc (Nat.le_refl _) hgr hszo fun hp hc' => by
    refine ⟨_, e, hc', ?_, hz, hu, fun i x' j a hi hj => ?_⟩
    · rw [hl]; simpa [Go.Sort.putCells] using hsz
    · obtain ⟨v, h1, h2, h3⟩ := hv i x' j a hi hj
      refine ⟨v, ?_, h2, h3.pass hp⟩
      have hilt := (List.getElem?_eq_some_iff.1 hi).1
      have hjlt := (List.getElem?_eq_some_iff.1 hj).1
      have hjz : j < z := by rw [hu x' (List.mem_of_getElem? hi)] at hjlt; exact hjlt
      have hk : i * z + j < F.size := by
        have : (i + 1) * z ≤ xs'.length * z := Nat.mul_le_mul_right z hilt
        rw [Nat.add_mul] at this
        rw [hF, ← hl]; omega
      have h0 : off = 0 := by rcases hoff with h | h <;> omega
      subst h0
      have hk2 : i * z + j < cur.size := by omega
      simp only [Go.Sort.putCells, Array.getElem?_mapIdx, Array.getElem?_eq_getElem hk2, Option.map_some, Nat.zero_le, Nat.zero_add, true_and, if_pos hk, Nat.sub_zero, id]
      rw [← h1, Array.getElem?_eq_getElem hk, getElem!_pos F _ hk]
  have hheap : (grow (putRow id (Go.Sort.ahead w q) c off F) os).heap = w.heap.setIfInBounds c (.cells (Go.Sort.putCells id off F cur) e (0, 0)) ++ os := by
    show (putRow id (Go.Sort.ahead w q) c off F).heap ++ os = _
    rw [heap_putRow w q c off F hc]
  obtain ⟨s1, s2⟩ := grow_rel hR1 os
  unfold Mv
  rw [hheap]
  exact ⟨s1, hp.trans s2, fun _ _ h => h, ⟨rfl, rfl⟩⟩

/-- what a row's block holds -/
theorem row_holds {w : World} {own : Nat → Slot} {H : List AObj} {b c z g off : Nat} {fz : Bool} {xs : List AV} {F : Array Value} (hR : RelH GT w.heap own H) (ho : own b = .at c) (hb : H[b]? = some (.row z g fz xs)) (hF : F.size = xs.length * z) (hoff : off = 0 ∨ F.size = 0)
    (hv : ∀ (i : Nat) x (j : Nat) a v, xs[i]? = some x → x.cells[j]? = some a → VR w own H v a → F[i * z + j]? = some v) : Holds id w c off F := by
  intro k hk
  obtain ⟨cur, e, hc, hsz, hz, hxz, hx⟩ := hR.obj b c _ ho hb
  have h0 : off = 0 := by rcases hoff with h | h <;> omega
  subst h0
  have hi : k / z < xs.length := by
    rw [hF] at hk
    exact (Nat.div_lt_iff_lt_mul hz).2 hk
  have hj : k % z < z := Nat.mod_lt _ hz
  have hxi := List.getElem?_eq_getElem hi
  have hxc := hxz _ (List.mem_of_getElem? hxi)
  have hcj : (xs[k / z]).cells[k % z]? = some ((xs[k / z]).cells[k % z]'(by omega)) := List.getElem?_eq_getElem (by omega)
  obtain ⟨v, h1, h2, h3⟩ := hx _ _ _ _ hxi hcj
  have h4 := hv _ _ _ _ v hxi hcj h3
  have hdm : k / z * z + k % z = k := by rw [Nat.mul_comm]; exact Nat.div_add_mod k z
  rw [hdm] at h1 h4
  have h5 : F[k]! = v := by
    rw [getElem!_pos F k hk]
    rw [Array.getElem?_eq_getElem hk] at h4
    exact Option.some.inj h4
  refine ⟨?_, ?_⟩
  · simp only [World.cell?, hc, Nat.zero_add, h5, id]
    simpa using h1
  · simp [World.frozen?, hc]

end Go.Ab

namespace Go.Ab
open Go.Sort Go.Proofs Go.RowKit

variable {P : Program} {GT : Globs} {α : Type}

section
variable {w : World} {own : Nat → Slot} {H : List AObj} {b c z g off : Nat} {fz : Bool} {l l' : List α} {F : Array Value} {ints : α → List Int} {encA : α → AV}

theorem ints_range (hA : ∀ x, (encA x).cells = (ints x).map fun n => .d (.int .i64 n)) (hR : RelH GT w.heap own H) (ho : own b = .at c) (hb : H[b]? = some (.row z g fz (l.map encA))) : ∀ x ∈ l, ∀ n ∈ ints x, IntKind.min .i64 ≤ n ∧ n ≤ IntKind.max .i64 := by
  intro x hx n hn
  obtain ⟨cur, e, hc, hsz, hz, hxz, hxx⟩ := hR.obj b c _ ho hb
  obtain ⟨i, hi, rfl⟩ := List.getElem_of_mem hx
  obtain ⟨j, hj, rfl⟩ := List.getElem_of_mem hn
  obtain ⟨v, _, _, h3⟩ := hxx i (encA l[i]) j (.d (.int .i64 (ints l[i])[j])) (by simp [hi]) (by rw [hA]; simp [hj])
  have := h3.d_inv
  cases this with
  | int k n hn => exact hn

theorem ints_holds (hA : ∀ x, (encA x).cells = (ints x).map fun n => .d (.int .i64 n)) (hz : ∀ x, (ints x).length = z) (hR : RelH GT w.heap own H) (ho : own b = .at c) (hb : H[b]? = some (.row z g fz (l.map encA))) (hF : F.size = l.length * z) (hoff : off = 0 ∨ F.size = 0)
    (hv : ∀ (i : Nat) x (j : Nat) n, l[i]? = some x → (ints x)[j]? = some n → F[i * z + j]? = some (.int .i64 n)) : Holds id w c off F := by
  refine row_holds hR ho hb (by simpa using hF) hoff fun i x j a v hi hj hr => ?_
  simp only [List.getElem?_map, Option.map_eq_some_iff] at hi
  obtain ⟨y, hy, rfl⟩ := hi
  rw [hA] at hj
  simp only [List.getElem?_map, Option.map_eq_some_iff] at hj
  obtain ⟨n, hn, rfl⟩ := hj
  have := hr.d_inv
  cases this
  exact hv i y j n hy hn

theorem ints_step (hA : ∀ x, (encA x).cells = (ints x).map fun n => .d (.int .i64 n)) (hz : ∀ x, (ints x).length = z) (hR : RelH GT w.heap own H) (ho : own b = .at c) (hb : H[b]? = some (.row z g false (l.map encA))) (hF : F.size = l.length * z) (hoff : off = 0 ∨ F.size = 0) (hl : l'.length = l.length)
    (hr : ∀ x ∈ l', ∀ n ∈ ints x, IntKind.min .i64 ≤ n ∧ n ≤ IntKind.max .i64) (hv : ∀ (i : Nat) x (j : Nat) n, l'[i]? = some x → (ints x)[j]? = some n → F[i * z + j]? = some (.int .i64 n)) (q : Nat) (os : Array Obj) :
    RelH GT (grow (putRow id (Go.Sort.ahead w q) c off F) os).heap own (H.set b (.row z g false (l'.map encA))) ∧ Mv w own H (grow (putRow id (Go.Sort.ahead w q) c off F) os) own (H.set b (.row z g false (l'.map encA))) := by
  refine row_step hR ho hb (by simpa using hF) hoff (by simpa using hl) (fun x hx => ?_) (fun i x j a hi hj => ?_) q os
  · simp only [List.mem_map] at hx
    obtain ⟨y, _, rfl⟩ := hx
    rw [hA]; simp [hz]
  · simp only [List.getElem?_map, Option.map_eq_some_iff] at hi
    obtain ⟨y, hy, rfl⟩ := hi
    rw [hA] at hj
    simp only [List.getElem?_map, Option.map_eq_some_iff] at hj
    obtain ⟨n, hn, rfl⟩ := hj
    exact ⟨_, hv i y j n hy hn, rfl, .d _ _ (.int _ _ (hr y (List.mem_of_getElem? hy) n (List.mem_of_getElem? hn)))⟩
end

/-- where a whole row lies -/
theorem ref_lies {w : World} {own : Nat → Slot} {H : List AObj} {b z g n : Nat} {xs : List AV} {v : Value} (hb : H[b]? = some (.row z g false xs)) (hn : n = xs.length) (h : VR w own H v (.ref b g 0 n none)) :
    (∃ c off cap, own b = .at c ∧ v = .slice (some ⟨c, off, none⟩) n cap ∧ n ≤ cap ∧ cap ≤ maxN ∧ (off = 0 ∨ xs = [])) ∨ (own b = .virt ∧ v = .slice none 0 0 ∧ xs = [] ∧ n = 0) := by
  cases h with
  | ref _ _ _ _ _ c z' fz xs' capc off sz ho hb' hin hcap hmax hk hoff hs hsz =>
    rw [hb] at hb'; cases hb'
    refine .inl ⟨c, off, capc, ho, rfl, hcap, hmax, ?_⟩
    rcases hoff with h | h
    · left; omega
    · right
      have : xs.length = 0 := by omega
      exact List.length_eq_zero_iff.1 this
  | virt _ _ z' fz cap ho hb' hk => rw [hb] at hb'; cases hb'; exact .inr ⟨ho, rfl, rfl, rfl⟩
  | stale _ _ _ _ _ _ o hb' hg => rw [hb] at hb'; cases hb'; exact absurd hg (Nat.lt_irrefl _)

theorem flatK_get {k : Nat} {enc : α → List Value} [Inhabited α] {d : Array α} {i j : Nat} {x : α} {v : Value} (hk : ∀ x, (enc x).length = k) (hi : d.toList[i]? = some x) (hj : (enc x)[j]? = some v) : (flatK enc k d)[i * k + j]? = some v := by
  have hjk : j < k := by have := (List.getElem?_eq_some_iff.1 hj).1; rw [hk] at this; exact this
  have hil : i < d.size := by have := (List.getElem?_eq_some_iff.1 hi).1; simpa using this
  have hlt : i * k + j < d.size * k := by
    have : (i + 1) * k ≤ d.size * k := Nat.mul_le_mul_right k hil
    rw [Nat.add_mul] at this; omega
  have hs : i * k + j < (flatK enc k d).size := by rw [size_flatK]; exact hlt
  rw [Array.getElem?_eq_getElem hs]
  have h1 := get_flatK enc k d (i * k + j) hlt
  rw [getElem!_pos (flatK enc k d) (i * k + j) hs] at h1
  rw [h1]
  have e1 : (i * k + j) / k = i := by
    rw [Nat.mul_comm, Nat.mul_add_div (by omega), Nat.div_eq_of_lt hjk]; rfl
  have e2 : (i * k + j) % k = j := by rw [Nat.mul_comm, Nat.mul_add_mod, Nat.mod_eq_of_lt hjk]
  rw [e1, e2]
  have hx : d[i]! = x := by
    rw [getElem!_pos d i hil]
    rw [Array.getElem?_toList, Array.getElem?_eq_getElem hil] at hi
    exact Option.some.inj hi
  rw [hx]
  have hjl := (List.getElem?_eq_some_iff.1 hj).1
  rw [getElem!_pos (enc x) j hjl]
  rw [List.getElem?_eq_getElem hjl] at hj
  exact hj

theorem perm_all [Inhabited α] {d d' : Array α} (h : PermIn 0 d.size d d') : d'.toList.Perm d.toList := by
  obtain ⟨h1, _, h3⟩ := h
  have e1 : d'.extract 0 d.size = d' := by rw [← h1]; simp
  have e2 : d.extract 0 d.size = d := by simp
  rw [e1, e2] at h3
  exact h3

end Go.Ab
