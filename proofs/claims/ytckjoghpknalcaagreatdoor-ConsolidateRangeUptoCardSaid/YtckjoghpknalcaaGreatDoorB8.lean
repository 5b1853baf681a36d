/- From a world that meets the row's condition to the abstract heap; what the call leaves. How much there is of it: lists counted. -/
import Derived.Test.YtckjoghpknalcaaGreatDoorB7
import Derived.Test.YtckjoghpknalcaaGreatDoorK28
import Derived.Lib.LaidU8
import Derived.LaidMore
import Derived.LaidSub
set_option linter.unusedVariables false
set_option linter.unusedSimpArgs false
set_option linter.unnecessarySimpa false
namespace Go.Ab
set_option maxRecDepth 100000
set_option linter.unusedVariables false

/-- the types of plain data -/
def Ts : List TypeId := [3, 9, 156, 52, 26, 79, 81, 27, 59, 51, 50, 30, 28, 55, 53, 57, 60, 62, 22, 323, 258]
theorem Ts_ok : okTs Go.Proofs.Tryz.prog Ts = true := by kernel_rfl

theorem still0 {w : World} {c : Nat} (h : c < w.heap.size) : Still w.heap (fun _ => .no) [] c := ⟨h, fun b o hb _ => by cases hb⟩
theorem var_heap {P : Program} {w : World} {name : String} {g : Nat} {cs : Array Value} (hn : P.globalNamed name = some g) (h : w.var? P name = some cs) : ∃ t f, w.heap[g]? = some (.cells cs t f) := by
  unfold World.var? at h
  rw [hn] at h
  simp only [Option.bind_some] at h
  split at h
  · rename_i cs' t f he; cases h; exact ⟨t, f, he⟩
  · cases h
theorem glob_cells {w : World} {g : Nat} {cs : Array Value} {t : TypeId} {f : Nat × Nat} {ds : List D} (hh : w.heap[g]? = some (.cells cs t f)) (hl : ds.length = cs.size)
    (hr : ∀ (j : Nat) v c, cs.toList[j]? = some v → ds[j]? = some c → one v = true ∧ Rep w.heap (fun c => c < w.heap.size) v c) : RepA w.heap (Still w.heap (fun _ => .no) []) (fun _ => .no) [] (.pointer (some ⟨g, 0, none⟩)) (.cptr ds) := by
  have key : ∀ (j : Nat) c, ds[j]? = some c → ∃ v, cs[j]? = some v ∧ one v = true ∧ Rep w.heap (fun c => c < w.heap.size) v c := fun j c hj => by
    have hlt := (List.getElem?_eq_some_iff.1 hj).1
    obtain ⟨v, hv⟩ : ∃ v, cs[j]? = some v := ⟨_, Array.getElem?_eq_getElem (by omega)⟩
    obtain ⟨h1, h2⟩ := hr j v c (by simpa using hv) hj
    exact ⟨_, hv, h1, h2⟩
  refine .cptr g 0 ds (still0 (Array.getElem?_eq_some_iff.1 hh).1) (fun j => (cs[j]?).getD .nilFunc) (fun j c hj => ?_) (fun j c hj => ?_)
  · obtain ⟨v, h1, h2, _⟩ := key j c hj
    rw [h1]
    exact ⟨by simp only [cellAt, hh, Nat.zero_add]; exact h1, h2⟩
  · obtain ⟨v, h1, _, h3⟩ := key j c hj
    rw [h1]
    exact h3.pass fun c hc => ⟨still0 hc, rfl⟩
theorem glob_data {w : World} {name : String} {g : Nat} {t : TypeId} {d : DataW Unit} (hr : Lib.VarReads Go.Proofs.Tryz.prog w name d) (hn : Go.Proofs.Tryz.prog.globalNamed name = some g) (ht : (Go.Proofs.Tryz.prog.globals[g]?).map (·.type) = some t) (htT : t ∈ Ts) :
    RepA w.heap (Still w.heap (fun _ => .no) []) (fun _ => .no) [] (.pointer (some ⟨g, 0, none⟩)) (.cptr (toD d).cells) := by
  obtain ⟨g', t', cs, fuel, p, h1, h2, h3, h4⟩ := hr
  obtain rfl := Option.some.inj (hn.symm.trans h1)
  obtain rfl := Option.some.inj (ht.symm.trans h2)
  obtain ⟨_, _, hh⟩ := var_heap hn h3
  obtain ⟨hg, _⟩ := trod_good Ts_ok _ _ _ _ _ htT h4
  exact glob_cells hh (by simpa using hg.1) hg.2
theorem glob_order {w : World} (h : funcsAt Go.Proofs.Tryz.prog w "pandect/syntax.order" (.agg [.iface "func" (.lit (.string [112, 97, 110, 100, 101, 99, 116, 47, 115, 121, 110, 116, 97, 120, 46, 111, 114, 100, 101, 114, 36, 49])), .iface "func" (.lit (.string [112, 97, 110, 100, 101, 99, 116, 47, 115, 121, 110, 116, 97, 120, 46, 111, 114, 100, 101, 114, 36, 50]))])) :
    RepA w.heap (Still w.heap (fun _ => .no) []) (fun _ => .no) [] (.pointer (some ⟨0, 0, none⟩)) (.cptr [.fn 318, .fn 319]) := by
  obtain ⟨g, t, cs, fuel, p, hg, ht, hv, hd⟩ := h
  obtain rfl := Option.some.inj ((show Go.Proofs.Tryz.prog.globalNamed "pandect/syntax.order" = some 0 by kernel_rfl).symm.trans hg)
  obtain rfl := Option.some.inj ((show (Go.Proofs.Tryz.prog.globals[0]?).map (·.type) = some 142 by kernel_rfl).symm.trans ht)
  have hd' : DataW.trod (funcToken Go.Proofs.Tryz.prog) Go.Proofs.Tryz.prog w 0 (fun _ => true) true fuel 142 cs.toList = some (.agg [.held [112, 97, 110, 100, 101, 99, 116, 47, 115, 121, 110, 116, 97, 120, 46, 111, 114, 100, 101, 114, 36, 49], .held [112, 97, 110, 100, 101, 99, 116, 47, 115, 121, 110, 116, 97, 120, 46, 111, 114, 100, 101, 114, 36, 50]], p) := hd
  obtain ⟨xs, n, _, hx, hlen, hxl, hget⟩ := DataW.trod_struct Go.Proofs.Tryz.underlying142 hd'
  have hl2 : cs.toList.length = 2 := hlen.trans (by kernel_rfl)
  obtain ⟨v0, v1, hcs⟩ : ∃ v0 v1, cs.toList = [v0, v1] := by
    match cs.toList, hl2 with
    | [a, b], _ => exact ⟨a, b, rfl⟩
  obtain ⟨x0, x1, rfl⟩ : ∃ x0 x1, xs = [x0, x1] := by
    match xs, hxl with
    | [a, b], _ => exact ⟨a, b, rfl⟩
  have g0 := hget 0 _ rfl
  have g1 := hget 1 _ rfl
  rw [hcs] at g0 g1
  simp only [Prod.mk.injEq, DataW.agg.injEq, List.map_cons, List.map_nil, List.cons.injEq, and_true] at hx
  obtain ⟨⟨e0, e1⟩, _⟩ := hx
  have k0 : DataW.trod (funcToken Go.Proofs.Tryz.prog) Go.Proofs.Tryz.prog w 0 (fun _ => true) true n 140 [v0] = some (x0.1, x0.2) := g0
  have k1 : DataW.trod (funcToken Go.Proofs.Tryz.prog) Go.Proofs.Tryz.prog w 0 (fun _ => true) true n 74 [v1] = some (x1.1, x1.2) := g1
  rw [← e0] at k0
  rw [← e1] at k1
  obtain rfl := func_of_trod (f0 := 318) Go.Proofs.Tryz.underlying140 (by kernel_rfl) k0
  obtain rfl := func_of_trod (f0 := 319) Go.Proofs.Tryz.underlying74 (by kernel_rfl) k1
  obtain ⟨_, _, hh⟩ := var_heap hg hv
  refine glob_cells hh (by rw [← Array.length_toList, hcs]; rfl) fun j v c hj hc => ?_
  rw [hcs] at hj
  match j with
  | 0 => simp at hj hc; subst hj hc; exact ⟨rfl, .fn _⟩
  | 1 => simp at hj hc; subst hj hc; exact ⟨rfl, .fn _⟩
  | j + 2 => simp at hj
/-- what the law's call comes to and leaves -/
theorem range_calls {w : World} (hR : RelH GT0 w.heap (fun _ => .no) []) (day : Int) (purpose : ByteArray) (l : List GGaz) (h1 : (l.flatMap (·.acts)).length ≤ 1073741823) (h2 : itemsN (l.flatMap (·.acts)) ≤ 1073741823) {v0 v1 v2 : Value}
    (r0 : Rep w.heap (fun c => c < w.heap.size) v0 (.int .i64 day)) (r1 : Rep w.heap (fun c => c < w.heap.size) v1 (.str purpose)) (r2 : Rep w.heap (fun c => c < w.heap.size) v2 (.list (l.map encGaz))) :
    Calls Go.Proofs.Tryz.prog 3 #[v0, v1, v2] w fun e w' => e = .returned (.bool true) ∧ w'.os = w.os ∧ w'.output = w.output ∧ w.heap.size ≤ w'.heap.size ∧ ∀ c, c < w.heap.size → w'.heap[c]? = w.heap[c]? := by
  have up : ∀ {v : Value} {x : D}, Rep w.heap (fun c => c < w.heap.size) v x → VR w (fun _ => .no) [] v (.d x) := fun r => .d _ _ (r.pass fun c hc => ⟨still0 hc, rfl⟩)
  refine ((c_range0 day purpose l h1 h2).2 w (fun _ => .no) [v0, v1, v2] hR rfl fun j v a hv ha => ?_).mono ?_
  · match j with
    | 0 => simp at hv ha; subst hv ha; exact up r0
    | 1 => simp at hv ha; subst hv ha; exact up r1
    | 2 => simp at hv ha; subst hv ha; exact up r2
    | j + 3 => simp at hv
  · rintro e w' ⟨v, a, H', own', rfl, q1, q2, q3, rfl, rfl⟩
    refine ⟨?_, q2.2.2.os, q2.2.2.output, q2.1.size, fun c hc => (q2.1.still c (still0 hc)).2⟩
    have := q3.d_inv
    cases this
    rfl
end Go.Ab

namespace Go.Ab
mutual
def nD : D → Nat
  | .list xs => nDs xs + 1
  | .agg cs => nDs cs
  | _ => 1
def nDs : List D → Nat
  | [] => 0
  | x :: l => nD x + nDs l
end
theorem nDs_app : ∀ (l m : List D), nDs (l ++ m) = nDs l + nDs m
  | [], m => by simp [nDs]
  | x :: l, m => by simp only [List.cons_append, nDs, nDs_app l m]; omega
theorem nD_cells (d : D) : nDs d.cells = nD d := by
  cases d <;> simp [D.cells, nDs, nD]
theorem nDs_len {α : Type} (f : α → D) (hf : ∀ x, 1 ≤ nD (f x)) : ∀ l : List α, l.length ≤ nDs (l.map f)
  | [] => by simp
  | x :: l => by
    have := nDs_len f hf l
    have := hf x
    simp only [List.map_cons, nDs, List.length_cons]; omega
theorem nD_item (x : GItem) : 1 ≤ nD (encItem x) := by
  rw [encItem_def]; simp only [nD, nDs]; omega
theorem nD_act (x : GAct) : x.items.length + 1 ≤ nD (encAct x) := by
  have := nDs_len encItem nD_item x.items
  rw [encAct_def]; simp only [nD, nDs]; omega
theorem acts_le : ∀ l : List GAct, l.length ≤ nDs (l.map encAct) ∧ itemsN l ≤ nDs (l.map encAct)
  | [] => by simp [itemsN]
  | a :: l => by
    have h1 := acts_le l
    have h2 := nD_act a
    simp only [List.map_cons, nDs, List.length_cons, itemsN]
    omega
theorem gaz_le : ∀ l : List GGaz, (l.flatMap (·.acts)).length ≤ nDs (l.map encGaz) ∧ itemsN (l.flatMap (·.acts)) ≤ nDs (l.map encGaz)
  | [] => by simp [itemsN]
  | g :: l => by
    have h1 := gaz_le l
    have h2 := acts_le g.acts
    have h3 : nDs (g.acts.map encAct) ≤ nD (encGaz g) := by rw [encGaz_def]; simp only [nD, nDs]; omega
    simp only [List.flatMap_cons, List.map_cons, nDs, List.length_append, itemsN_app]
    omega
end Go.Ab
