/- Regions in order; what may be forgotten; code. Rows that nobody writes any more are data; a row may be data from its birth. Code; bodies; what a call gives back. -/
import Derived.Test.YtckjoghpknalcaaGreatDoorA2
set_option linter.unusedVariables false
set_option linter.unusedSimpArgs false
set_option linter.unnecessarySimpa false
namespace Go.Ab

variable {P : Program} {GT : Globs}

/-- what holds behind a piece of code -/
def Post (GT : Globs) (w : World) (own : Nat → Slot) (st : AS) (Q : Exit → AS → Prop) : Exit → Act → World → Prop := fun e a' w' =>
  ∃ own' st', Mv w own st.heap w' own' st'.heap ∧ RelS GT w' own' st' a' ∧ Q e st'

theorem Post.trans {w w1 : World} {own own1 : Nat → Slot} {st st1 : AS} {Q : Exit → AS → Prop} (hm : Mv w own st.heap w1 own1 st1.heap) {e : Exit} {a' : Act} {w' : World} (h : Post GT w1 own1 st1 Q e a' w') : Post GT w own st Q e a' w' := by
  obtain ⟨own', st', h1, h2, h3⟩ := h
  exact ⟨own', st', hm.trans h1, h2, h3⟩

theorem gval_bool {ops : Array Oper} {st : AS} {a : Act} {w : World} {own : Nat → Slot} (hS : RelS GT w own st a) {j : Nat} {b : Bool} (hb : gval ops st.tmps j = .d (.bool b)) : yielded ops a.tmps j = some b := by
  unfold gval at hb
  unfold yielded
  cases hd : (ops[j]?).bind (·.dst) with
  | none => rw [hd] at hb; cases hb
  | some d =>
    rw [hd] at hb
    simp only at hb
    have ht := hS.tmps d
    rw [hb] at ht
    have hlt : d < a.tmps.size := by
      rw [hS.size]
      rcases Nat.lt_or_ge d st.tmps.length with h | h
      · exact h
      · rw [lget_ge _ _ h] at hb; cases hb
    have := ht.d_inv
    generalize hv : a.tmps.getD d undef = v at this
    cases this
    have e : a.tmps[d]? = some (.bool b) := by
      rw [Array.getElem?_eq_getElem hlt]; rw [← hv]; simp [Array.getD, hlt]
    simp [e]
theorem gval_none {ops : Array Oper} {st : AS} {a : Act} {w : World} {own : Nat → Slot} (hS : RelS GT w own st a) {j : Nat} (hb : gval ops st.tmps j = .tup []) : yielded ops a.tmps j = none := by
  unfold gval at hb
  unfold yielded
  cases hd : (ops[j]?).bind (·.dst) with
  | none => rfl
  | some d =>
    rw [hd] at hb
    simp only at hb
    have ht := hS.tmps d
    rw [hb] at ht
    have hlt : d < a.tmps.size := by
      rw [hS.size]
      rcases Nat.lt_or_ge d st.tmps.length with h | h
      · exact h
      · rw [lget_ge _ _ h] at hb; cases hb
    generalize hv : a.tmps.getD d undef = v at ht
    cases ht with
    | tup us _ _ _ =>
      have e : a.tmps[d]? = some (.tuple us.toArray) := by
        rw [Array.getElem?_eq_getElem hlt]; rw [show a.tmps[d] = a.tmps.getD d undef by simp [Array.getD, hlt], hv]
      simp [e]

theorem RelS.skip {st : AS} {a : Act} {w : World} {own : Nat → Slot} (hS : RelS GT w own st a) (dst : Option Tmp) : RelS GT w own (st.put dst (.tup []) st.heap) (a.put dst undef) :=
  hS.put hS.heap (.refl _ _ _) dst (.tup [] [] rfl fun j v c hv => by simp at hv)

theorem aops_sound {ops : Array Oper} {K : AS → Prop} {Q : Exit → AS → Prop} (hK : ∀ st, K st → Q .normal st) : ∀ (l : List Oper) (st : AS) (w : World) (own : Nat → Slot) (a : Act), aops P GT ops l K st → RelS GT w own st a →
    ∀ Qc : Exit → Act → World → Prop, (∀ e a' w', Post GT w own st Q e a' w' → Qc e a' w') → wpList P ops Qc l a w
  | [], st, w, own, a, h, hS, Qc, hQ => hQ _ _ _ ⟨own, st, .refl _ _ _, hS, hK st h⟩
  | o :: rest, st, w, own, a, h, hS, Qc, hQ => by
    have step : aop P GT o (aops P GT ops rest K) st → o.wp P a w (wpList P ops Qc rest) Qc := fun h =>
      aop_sound h hS fun a' w' own' st' hm hS' hK' => aops_sound hK rest st' w' own' a' hK' hS' Qc fun e a2 w2 hp => hQ e a2 w2 (hp.trans hm)
    have skip : aops P GT ops rest K (st.put o.dst (.tup []) st.heap) → wpList P ops Qc rest (a.put o.dst undef) w := fun h =>
      aops_sound hK rest (st.put o.dst (.tup []) st.heap) w own (a.put o.dst undef) h (hS.skip o.dst) Qc fun e a2 w2 hp => hQ e a2 w2 hp
    simp only [aops] at h
    split at h
    · rename_i hg
      have hw : Region.wanted o (yielded ops a.tmps) = true := by simp [Region.wanted, hg]
      simp only [wpList, hw, if_true]
      exact .inl (step h)
    · rename_i j want hg
      split at h
      · rename_i b hb
        have hy := gval_bool hS hb
        by_cases hbw : b = want
        · rw [if_pos hbw] at h
          have hw : Region.wanted o (yielded ops a.tmps) = true := by simp [Region.wanted, hg, hy, hbw]
          simp only [wpList, hw, if_true]
          exact .inl (step h)
        · rw [if_neg hbw] at h
          have hw : Region.wanted o (yielded ops a.tmps) = false := by simp [Region.wanted, hg, hy, hbw]
          simp only [wpList, hw, Bool.false_eq_true, if_false]
          exact skip h
      · rename_i hb
        have hy := gval_none hS hb
        have hw : Region.wanted o (yielded ops a.tmps) = false := by simp [Region.wanted, hg, hy]
        simp only [wpList, hw, Bool.false_eq_true, if_false]
        exact skip h
      · exact h.elim

-- what refers to blocks below n alone
mutual
def cloA (n : Nat) : AV → Bool
  | .ref b _ _ _ _ => decide (b < n)
  | .ptr b _ _ _ => decide (b < n)
  | .mp b => decide (b < n)
  | .it b => decide (b < n)
  | .fn _ f c => cloL n f && cloL n c
  | .agg cs => cloL n cs
  | .tup vs => cloL n vs
  | _ => true
def cloL (n : Nat) : List AV → Bool
  | [] => true
  | a :: l => cloA n a && cloL n l
end
def cloO (n : Nat) : AObj → Bool
  | .row _ _ _ xs => cloL n xs
  | .map es => es.all fun p => cloA n p.2
  | .iter _ _ => true

theorem cloL_spec {n : Nat} : ∀ {l : List AV}, cloL n l = true ↔ ∀ a ∈ l, cloA n a = true
  | [] => by simp [cloL]
  | a :: l => by simp [cloL, cloL_spec (l := l)]

theorem cloA_cells {n : Nat} {a : AV} (h : cloA n a = true) : ∀ c ∈ a.cells, cloA n c = true := by
  intro c hc
  cases a with
  | agg cs => simp only [cloA] at h; exact cloL_spec.1 h c hc
  | d x =>
    cases x with
    | agg ds => simp only [AV.cells, List.mem_map] at hc; obtain ⟨d, _, rfl⟩ := hc; rfl
    | _ => simp only [AV.cells, List.mem_singleton] at hc; subst hc; rfl
  | _ => simp only [AV.cells, List.mem_singleton] at hc; subst hc; exact h

theorem lt_of_get {H : List AObj} {b : Nat} {o : AObj} (h : H[b]? = some o) : b < H.length := (List.getElem?_eq_some_iff.1 h).1

theorem RepA.clo {h : Array Obj} {S : Nat → Prop} {own : Nat → Slot} {H : List AObj} {v : Value} {a : AV} (r : RepA h S own H v a) : cloA H.length a = true := by
  induction r with
  | ref b g i n cap c z fz xs capc off sz ho hb => simpa [cloA] using lt_of_get hb
  | virt b g z fz cap ho hb => simpa [cloA] using lt_of_get hb
  | stale v b g i n cap o hb => simpa [cloA] using lt_of_get hb
  | ptr b g i f c z fz xs ho hb => simpa [cloA] using lt_of_get hb
  | stalep v b g i f o hb => simpa [cloA] using lt_of_get hb
  | mp b c es ho hb => simpa [cloA] using lt_of_get hb
  | it b c s pos ho hb => simpa [cloA] using lt_of_get hb
  | fn f fs cs first caps hl1 hl2 _ _ ih1 ih2 =>
    simp only [cloA, Bool.and_eq_true]
    constructor
    · refine cloL_spec.2 fun a ha => ?_
      obtain ⟨j, hj, rfl⟩ := List.getElem_of_mem ha
      exact ih1 j (fs[j]'(by omega)) _ (List.getElem?_eq_getElem _) (List.getElem?_eq_getElem hj)
    · refine cloL_spec.2 fun a ha => ?_
      obtain ⟨j, hj, rfl⟩ := List.getElem_of_mem ha
      exact ih2 j (cs[j]'(by omega)) _ (List.getElem?_eq_getElem _) (List.getElem?_eq_getElem hj)
  | agg vs cs hl _ _ ih =>
    simp only [cloA]
    refine cloL_spec.2 fun a ha => ?_
    obtain ⟨j, hj, rfl⟩ := List.getElem_of_mem ha
    exact ih j (vs[j]'(by omega)) _ (List.getElem?_eq_getElem _) (List.getElem?_eq_getElem hj)
  | tup vs cs hl _ ih =>
    simp only [cloA]
    refine cloL_spec.2 fun a ha => ?_
    obtain ⟨j, hj, rfl⟩ := List.getElem_of_mem ha
    exact ih j (vs[j]'(by omega)) _ (List.getElem?_eq_getElem _) (List.getElem?_eq_getElem hj)
  | _ => rfl

theorem RepA.shrink {h : Array Obj} {S S' : Nat → Prop} {own own3 : Nat → Slot} {H1 H' : List AObj} {n' : Nat} (hS : ∀ c, S c → S' c) (hpre : ∀ b, b < n' → H1[b]? = H'[b]?) (how : ∀ b, b < n' → own b ≠ .no → own3 b = own b) {v : Value} {a : AV}
    (r : RepA h S own H1 v a) : cloA n' a = true → RepA h S' own3 H' v a := by
  have hS2 : ∀ c, S c → S' c ∧ h[c]? = h[c]? := fun c hc => ⟨hS c hc, rfl⟩
  induction r with
  | d v x hx => exact fun _ => .d v x (hx.pass hS2)
  | nils => exact fun _ => .nils
  | ref b g i n cap c z fz xs capc off sz ho hb hin hcap hmax hk hoff hs hsz =>
    intro hc
    have hlt : b < n' := by simpa [cloA] using hc
    exact .ref b g i n cap c z fz xs capc off sz ((how b hlt (by rw [ho]; simp)).trans ho) ((hpre b hlt).symm.trans hb) hin hcap hmax hk hoff hs hsz
  | virt b g z fz cap ho hb hk =>
    intro hc
    have hlt : b < n' := by simpa [cloA] using hc
    exact .virt b g z fz cap ((how b hlt (by rw [ho]; simp)).trans ho) ((hpre b hlt).symm.trans hb) hk
  | stale v b g i n cap o hb hg =>
    intro hc
    have hlt : b < n' := by simpa [cloA] using hc
    exact .stale v b g i n cap o ((hpre b hlt).symm.trans hb) hg
  | ptr b g i f c z fz xs ho hb hi hf =>
    intro hc
    have hlt : b < n' := by simpa [cloA] using hc
    exact .ptr b g i f c z fz xs ((how b hlt (by rw [ho]; simp)).trans ho) ((hpre b hlt).symm.trans hb) hi hf
  | stalep v b g i f o hb hg =>
    intro hc
    have hlt : b < n' := by simpa [cloA] using hc
    exact .stalep v b g i f o ((hpre b hlt).symm.trans hb) hg
  | cptr b off cs hb f hc hr => exact fun _ => .cptr b off cs (hS b hb) f hc fun j c hj => (hr j c hj).pass hS2
  | fn f fs cs first caps hl1 hl2 _ _ ih1 ih2 =>
    intro hc
    simp only [cloA, Bool.and_eq_true] at hc
    exact .fn f fs cs first caps hl1 hl2 (fun j v a hv ha => ih1 j v a hv ha (cloL_spec.1 hc.1 a (List.mem_of_getElem? ha))) (fun j v a hv ha => ih2 j v a hv ha (cloL_spec.1 hc.2 a (List.mem_of_getElem? ha)))
  | mp b c es ho hb =>
    intro hc
    have hlt : b < n' := by simpa [cloA] using hc
    exact .mp b c es ((how b hlt (by rw [ho]; simp)).trans ho) ((hpre b hlt).symm.trans hb)
  | it b c s pos ho hb =>
    intro hc
    have hlt : b < n' := by simpa [cloA] using hc
    exact .it b c s pos ((how b hlt (by rw [ho]; simp)).trans ho) ((hpre b hlt).symm.trans hb)
  | agg vs cs hl h1 _ ih =>
    intro hc
    simp only [cloA] at hc
    exact .agg vs cs hl h1 fun j v a hv ha => ih j v a hv ha (cloL_spec.1 hc a (List.mem_of_getElem? ha))
  | tup vs cs hl _ ih =>
    intro hc
    simp only [cloA] at hc
    exact .tup vs cs hl fun j v a hv ha => ih j v a hv ha (cloL_spec.1 hc a (List.mem_of_getElem? ha))
  | np => exact fun _ => .np
  | nf => exact fun _ => .nf
  | un v => exact fun _ => .un v

theorem ObjRel.shrink {h : Array Obj} {S S' : Nat → Prop} {own own3 : Nat → Slot} {H1 H' : List AObj} {n' : Nat} (hS : ∀ c, S c → S' c) (hpre : ∀ b, b < n' → H1[b]? = H'[b]?) (how : ∀ b, b < n' → own b ≠ .no → own3 b = own b) {c : Nat} {o : AObj}
    (r : ObjRel h S own H1 c o) (hc : cloO n' o = true) : ObjRel h S' own3 H' c o := by
  cases o with
  | row z g fz xs =>
    obtain ⟨cur, t, h1, h2, h3, h4, hx⟩ := r
    refine ⟨cur, t, h1, h2, h3, h4, fun i x j a hi hj => ?_⟩
    obtain ⟨v, q1, q2, q3⟩ := hx i x j a hi hj
    exact ⟨v, q1, q2, q3.shrink hS hpre how (cloA_cells (cloL_spec.1 hc x (List.mem_of_getElem? hi)) a (List.mem_of_getElem? hj))⟩
  | map es =>
    obtain ⟨ents, clock, h1, h2, hx⟩ := r
    refine ⟨ents, clock, h1, h2, fun i x k v hi hj => ?_⟩
    obtain ⟨q1, q2⟩ := hx i x k v hi hj
    simp only [cloO, List.all_eq_true] at hc
    exact ⟨q1.pass fun c hc => ⟨hS c hc, rfl⟩, q2.shrink hS hpre how (hc (k, v) (List.mem_of_getElem? hj))⟩
  | iter s pos => exact r

/-- the last blocks may be forgotten: those that stay are as at the beginning, or refer to nothing that goes -/
def Keeps (H0 H' : List AObj) : Prop := H'.length = H0.length ∧ ∀ (b : Nat) (o : AObj), H'[b]? = some o → H0[b]? = some o ∨ cloO H'.length o = true

theorem ObjRel.clo {h : Array Obj} {S : Nat → Prop} {own : Nat → Slot} {H : List AObj} {c : Nat} {o : AObj} (r : ObjRel h S own H c o) : cloO H.length o = true := by
  cases o with
  | row z g fz xs =>
    obtain ⟨cur, t, h1, h2, h3, h4, hx⟩ := r
    refine cloL_spec.2 fun x hx' => ?_
    obtain ⟨i, hi, rfl⟩ := List.getElem_of_mem hx'
    cases hg : isAg xs[i] with
    | false =>
      have hcs := cells_single hg
      obtain ⟨v, _, _, h⟩ := hx i xs[i] 0 xs[i] (List.getElem?_eq_getElem hi) (by rw [hcs]; rfl)
      exact h.clo
    | true =>
      have hall : ∀ a ∈ (xs[i]).cells, cloA H.length a = true := by
        intro a ha
        obtain ⟨j, hj, rfl⟩ := List.getElem_of_mem ha
        obtain ⟨v, _, _, h⟩ := hx i xs[i] j _ (List.getElem?_eq_getElem hi) (List.getElem?_eq_getElem hj)
        exact h.clo
      generalize xs[i] = x at *
      cases x with
      | agg cs => simp only [cloA]; exact cloL_spec.2 hall
      | d y => rfl
      | _ => simp [isAg] at hg
  | map es =>
    obtain ⟨ents, clock, h1, h2, hx⟩ := r
    simp only [cloO, List.all_eq_true]
    intro p hp
    obtain ⟨i, hi, rfl⟩ := List.getElem_of_mem hp
    exact (hx i (ents[i]'(by omega)) _ _ (Array.getElem?_eq_getElem _) (List.getElem?_eq_getElem hi)).2.clo
  | iter s pos => rfl

def cut (n : Nat) (own : Nat → Slot) : Nat → Slot := fun b => if b < n then own b else .no

theorem drop_rel {w0 w : World} {own0 own : Nat → Slot} {H0 H' L : List AObj} (hR0 : RelH GT w0.heap own0 H0) (hR : RelH GT w.heap own (H' ++ L)) (hm : Mv w0 own0 H0 w own (H' ++ L)) (hk : Keeps H0 H') :
    RelH GT w.heap (cut H'.length own) H' ∧ Mv w0 own0 H0 w (cut H'.length own) H' ∧ ∀ v a, RepA w.heap (Still w.heap own (H' ++ L)) own (H' ++ L) v a → cloA H'.length a = true → RepA w.heap (Still w.heap (cut H'.length own) H') (cut H'.length own) H' v a := by
  have hpre : ∀ b, b < H'.length → (H' ++ L)[b]? = H'[b]? := fun b hb => List.getElem?_append_left hb
  have how : ∀ b, b < H'.length → cut H'.length own b = own b := fun b hb => if_pos hb
  have hS : ∀ c, Still w.heap own (H' ++ L) c → Still w.heap (cut H'.length own) H' c := fun c hc => ⟨hc.1, fun b o ho hb => by
    have hlt := lt_of_get hb
    rw [how b hlt] at ho
    exact hc.2 b o ho ((hpre b hlt).trans hb)⟩
  have hat : ∀ b s, cut H'.length own b = s → s ≠ .no → b < H'.length ∧ own b = s := by
    intro b s hb hs
    unfold cut at hb
    split at hb
    · rename_i hlt; exact ⟨hlt, hb⟩
    · exact (hs hb.symm).elim
  refine ⟨⟨fun b hb => if_neg (by omega), fun b b' c hb hb' => hR.inj b b' c (hat b _ hb (by simp)).2 (hat b' _ hb' (by simp)).2, fun b c o ho hb => ?_, fun b hb => ?_, fun g cs hg => ?_⟩, ⟨⟨hm.1.size, fun c hc => ?_, fun b o hb => ?_, hm.1.rows⟩, fun b hb hn => ?_, hm.2.2⟩, fun v a r hc => r.shrink hS hpre (fun b hb _ => how b hb) hc⟩
  · obtain ⟨hlt, ho'⟩ := hat b _ ho (by simp)
    refine (hR.obj b c o ho' ((hpre b hlt).trans hb)).shrink hS hpre (fun b hb _ => how b hb) ?_
    rcases hk.2 b o hb with h1 | h1
    · have hlt0 : b < H0.length := lt_of_get h1
      cases hs : own0 b with
      | no => have := hm.2.1 b hlt0 hs; rw [this] at ho'; cases ho'
      | virt =>
        obtain ⟨z, g, fz, h2, _⟩ := hR0.virt b hs
        rw [h1] at h2; cases h2
        rfl
      | «at» c0 =>
        have := (hR0.obj b c0 o hs h1).clo
        rwa [← hk.1] at this
    · exact h1
  · obtain ⟨hlt, hb'⟩ := hat b _ hb (by simp)
    obtain ⟨z, g, fz, h1, h2⟩ := hR.virt b hb'
    exact ⟨z, g, fz, (hpre b hlt).symm.trans h1, h2⟩
  · exact (hR.glob g cs hg).shrink hS hpre (fun b hb _ => how b hb) rfl
  · obtain ⟨h1, h2⟩ := hm.1.still c hc
    exact ⟨hS c h1, h2⟩
  · obtain ⟨o', h1, h2, h3⟩ := hm.1.ext b o hb
    have hlt : b < H'.length := by rw [hk.1]; exact lt_of_get hb
    exact ⟨o', (hpre b hlt).symm.trans h1, h2, by rw [how b hlt]; exact h3⟩
  · rw [how b (by rw [hk.1]; exact hb)]; exact hm.2.1 b hb hn

end Go.Ab

namespace Go.Ab

variable {P : Program} {GT : Globs}

def pureL (f : AV → Option D) : List AV → Option (List D)
  | [] => some []
  | a :: l => match f a, pureL f l with
    | some x, some xs => some (x :: xs)
    | _, _ => none
/-- the datum that a value comes to if the rows that 'ok' lets are written no more -/
def pureA (ok : Nat → Bool) (H : List AObj) : Nat → AV → Option D
  | _, .d x => some x
  | _, .nils => some (.list [])
  | n + 1, .agg cs => (pureL (pureA ok H n) cs).map .agg
  | n + 1, .ref b g i m _ => match hget H b with
    | some (.row _ g' _ xs) => if g' = g ∧ ok b = true then (pureL (pureA ok H n) ((xs.drop i).take m)).map .list else none
    | _ => none
  | _, _ => none

theorem pureL_get {f : AV → Option D} : ∀ {l : List AV} {ds : List D}, pureL f l = some ds → ds.length = l.length ∧ ∀ (j : Nat) c, ds[j]? = some c → ∃ a, l[j]? = some a ∧ f a = some c
  | [], ds, h => by simp [pureL] at h; subst h; exact ⟨rfl, fun j c hc => by simp at hc⟩
  | a :: l, ds, h => by
    unfold pureL at h
    split at h
    · rename_i x xs h1 h2
      cases h
      obtain ⟨q1, q2⟩ := pureL_get h2
      refine ⟨by simp [q1], fun j c hc => ?_⟩
      cases j with
      | zero => simp at hc; subst hc; exact ⟨a, rfl, h1⟩
      | succ j => simpa using q2 j c (by simpa using hc)
    · cases h
theorem pureL_map (f : AV → Option D) (hf : ∀ x, f (.d x) = some x) : ∀ l : List D, pureL f (l.map .d) = some l
  | [] => rfl
  | a :: l => by simp [pureL, hf, pureL_map f hf l]
theorem pureL_append (f : AV → Option D) : ∀ (l m : List AV), pureL f (l ++ m) = match pureL f l, pureL f m with | some a, some b => some (a ++ b) | _, _ => none
  | [], m => by simp only [List.nil_append, pureL]; cases pureL f m <;> rfl
  | a :: l, m => by
    simp only [List.cons_append, pureL, pureL_append f l m]
    cases f a <;> cases pureL f l <;> cases pureL f m <;> rfl

theorem pureA_cells {ok : Nat → Bool} {H : List AObj} : ∀ {n : Nat} {e : AV} {x : D}, pureA ok H n e = some x → x.cells.length = e.cells.length ∧ ∀ (j : Nat) c, x.cells[j]? = some c → ∃ k a, k ≤ n ∧ e.cells[j]? = some a ∧ pureA ok H k a = some c := by
  intro n e x h
  have single : ∀ y, x = .list y → e.cells = [e] → x.cells.length = e.cells.length ∧ ∀ (j : Nat) c, x.cells[j]? = some c → ∃ k a, k ≤ n ∧ e.cells[j]? = some a ∧ pureA ok H k a = some c := by
    rintro y rfl he
    refine ⟨by rw [he]; rfl, fun j c hc => ?_⟩
    cases j with
    | zero => simp [D.cells] at hc; subst hc; exact ⟨n, e, Nat.le_refl _, by rw [he]; rfl, h⟩
    | succ j => simp [D.cells] at hc
  unfold pureA at h
  split at h
  · rename_i y
    cases h
    cases x with
    | agg cs => exact ⟨by simp [AV.cells, D.cells], fun j c hc => ⟨n, .d c, Nat.le_refl _, by simp only [D.cells] at hc; simp [AV.cells, hc], by unfold pureA; rfl⟩⟩
    | _ =>
      refine ⟨rfl, fun j c hc => ?_⟩
      cases j with
      | zero => simp [D.cells] at hc; subst hc; exact ⟨n, _, Nat.le_refl _, rfl, by unfold pureA; rfl⟩
      | succ j => simp [D.cells] at hc
  · cases h; exact single [] rfl rfl
  · rename_i n' cs
    simp only [Option.map_eq_some_iff] at h
    obtain ⟨ds, h1, rfl⟩ := h
    obtain ⟨q1, q2⟩ := pureL_get h1
    refine ⟨q1, fun j c hc => ?_⟩
    obtain ⟨a, ha, hp⟩ := q2 j c hc
    exact ⟨n', a, Nat.le_succ _, ha, hp⟩
  · split at h
    · split at h
      · simp only [Option.map_eq_some_iff] at h
        obtain ⟨ds, h1, rfl⟩ := h
        exact single ds rfl rfl
      · cases h
    · cases h
  · cases h

theorem pure_rep {h : Array Obj} {own : Nat → Slot} {H : List AObj} {S' : Nat → Prop} {ok : Nat → Bool} (hR : RelH GT h own H) (hS : ∀ c, Still h own H c → S' c) (hok : ∀ b c, ok b = true → own b = .at c → S' c) :
    ∀ (n : Nat) {v : Value} {a : AV} {x : D}, RepA h (Still h own H) own H v a → pureA ok H n a = some x → Rep h S' v x := by
  intro n
  induction n using Nat.strongRecOn with
  | _ n ih =>
    intro v a x r hp
    unfold pureA at hp
    split at hp
    · cases hp
      exact r.d_inv.pass fun c hc => ⟨hS c hc, rfl⟩
    · cases hp
      have := r.nils_inv; subst this; exact .nil
    · rename_i n' cs
      simp only [Option.map_eq_some_iff] at hp
      obtain ⟨ds, h1, rfl⟩ := hp
      obtain ⟨q1, q2⟩ := pureL_get h1
      cases r with
      | agg vs _ hl h1' hr =>
        refine .agg vs ds (by rw [q1]; exact hl) h1' fun j u c hu hc => ?_
        obtain ⟨a, ha, hpa⟩ := q2 j c hc
        exact ih n' (Nat.lt_succ_self _) (hr j u a hu ha) hpa
    · rename_i n' b g i m cap
      split at hp
      · rename_i z g' fz xs hb
        split at hp
        · rename_i hg
          obtain ⟨rfl, hokb⟩ := hg
          simp only [Option.map_eq_some_iff] at hp
          obtain ⟨ds, h1, rfl⟩ := hp
          obtain ⟨q1, q2⟩ := pureL_get h1
          unfold hget at hb
          cases r with
          | ref _ _ _ _ _ c z2 fz2 xs2 capc off sz ho hb2 hin hcap hmax hk hoff hs hsz =>
            rw [hb] at hb2; cases hb2
            obtain ⟨cur, e, e1, e2, e3, e4, e5⟩ := hR.obj b c _ ho hb
            have hlen : ((xs.drop i).take m).length = m := by simp; omega
            rw [hlen] at q1
            have hget : ∀ (k : Nat) y, ((xs.drop i).take m)[k]? = some y → xs[i + k]? = some y := by
              intro k y hy
              have hk : k < m := by
                have := (List.getElem?_eq_some_iff.1 hy).1; omega
              rw [List.getElem?_take, if_pos hk, List.getElem?_drop] at hy
              exact hy
            have hcap0 : ∀ (k : Nat) y, ds[k]? = some y → off = i * z := by
              intro k y hy
              rcases hoff with h0 | h0
              · exact h0
              · have := (List.getElem?_eq_some_iff.1 hy).1; omega
            have key : ∀ (k : Nat) y (j : Nat) u, ds[k]? = some y → y.cells[j]? = some u → ∃ w, cellAt h c (off + k * z + j) = some w ∧ one w = true ∧ Rep h S' w u := by
              intro k y j u hy hu
              obtain ⟨a, ha, hpa⟩ := q2 k y hy
              obtain ⟨q3, q4⟩ := pureA_cells hpa
              obtain ⟨k2, a2, hk2, ha2, hpa2⟩ := q4 j u hu
              obtain ⟨w, w1, w2, w3⟩ := e5 (i + k) a j a2 (hget k a ha) ha2
              refine ⟨w, ?_, w2, ih k2 (by omega) w3 hpa2⟩
              rw [hcap0 k y hy, show i * z + k * z + j = (i + k) * z + j by rw [Nat.add_mul]]
              unfold cellAt; rw [e1]; exact w1
            refine .slice c off capc z ds m q1.symm (hok b c hokb ho) hcap hmax (fun y hy => ?_) (fun k j => (cellAt h c (off + k * z + j)).getD undef) (fun k y j u hy hu => ?_) (fun k y j u hy hu => ?_)
            · obtain ⟨k, hk, rfl⟩ := List.getElem_of_mem hy
              obtain ⟨a, ha, hpa⟩ := q2 k _ (List.getElem?_eq_getElem hk)
              rw [(pureA_cells hpa).1]
              exact e4 a (List.mem_of_getElem? (hget k a ha))
            · obtain ⟨w, w1, w2, _⟩ := key k y j u hy hu
              simp only [w1, Option.getD_some]; exact ⟨trivial, w2⟩
            · obtain ⟨w, w1, _, w3⟩ := key k y j u hy hu
              simp only [w1, Option.getD_some]; exact w3
          | virt _ _ z2 fz2 _ ho hb2 hk =>
            rw [hb] at hb2; cases hb2
            simp [pureL] at h1; subst h1
            exact .nil
          | stale _ _ _ _ _ _ o hb2 hg2 => rw [hb] at hb2; cases hb2; exact absurd hg2 (Nat.lt_irrefl _)
        · cases hp
      · cases hp
    · cases hp


def isBuild : Op → Bool
  | .buildSlice .. => true
  | _ => false
/-- behind a row that is data from its birth -/
def relK (st : AS) (d : Option Tmp) (K : AS → Prop) : AS → Prop := fun st' =>
  ∃ v N x, st' = st.put d v (st.heap ++ N) ∧ pureA (fun b => decide (st.heap.length ≤ b)) (st.heap ++ N) 50 v = some x ∧ K (st.put d (.d x) st.heap)
/-- a variable that holds a slice -/
def isAllocS (P : Program) : Op → Bool
  | .alloc t => (elemT P t).isSome
  | _ => false
/-- behind a variable that holds a nil slice: that slice is a row of one's own, which lies nowhere yet -/
def virtK (st : AS) (d : Option Tmp) (K : AS → Prop) : AS → Prop := fun st' =>
  ∃ z, 0 < z ∧ st' = st.put d (.ptr st.heap.length 0 0 0) (st.heap ++ [.row 1 0 false [.nils]]) ∧ K (st.put d (.ptr st.heap.length 0 0 0) (st.heap ++ [.row 1 0 false [.ref (st.heap.length + 1) 0 0 0 none], .row z 0 false []]))
def aopB (P : Program) (GT : Globs) (o : Oper) (K : AS → Prop) (st : AS) : Prop := aop P GT o K st ∨ (isBuild o.op = true ∧ aop P GT o (relK st o.dst K) st) ∨ (isAllocS P o.op = true ∧ aop P GT o (virtK st o.dst K) st)
theorem aopB_not {o : Oper} {K : AS → Prop} {st : AS} (h : isBuild o.op = false) (h2 : isAllocS P o.op = false := by rfl) : aopB P GT o K st = aop P GT o K st := by simp [aopB, h, h2]

/-- rows that lie nowhere yet and stand for nil slices -/
theorem virts_rel : ∀ (zs : List Nat) {w : World} {own : Nat → Slot} {H : List AObj}, RelH GT w.heap own H → (∀ z ∈ zs, 0 < z) →
    ∃ own', RelH GT w.heap own' (H ++ zs.map fun z => .row z 0 false []) ∧ Mv w own H w own' (H ++ zs.map fun z => .row z 0 false []) ∧ ∀ (k : Nat) z, zs[k]? = some z → own' (H.length + k) = .virt
  | [], w, own, H, hR, _ => ⟨own, by simpa using hR, by simpa using Mv.refl w own H, fun k z hz => by simp at hz⟩
  | z :: zs, w, own, H, hR, hz => by
    obtain ⟨hR1, hp1⟩ := ext_rel hR [.row z 0 false []]
    have hb : (H ++ [AObj.row z 0 false []])[H.length]? = some (.row z 0 false []) := by simp
    obtain ⟨hR2, hp2⟩ := virt_rel hR1 (hR.out _ (Nat.le_refl _)) hb (hz z (List.mem_cons_self ..))
    have hm : Mv w own H w (upd own H.length .virt) (H ++ [AObj.row z 0 false []]) := ⟨hp1.trans hp2, fun b hb hn => by rw [upd_ne _ _ (by omega)]; exact hn, .refl _⟩
    obtain ⟨own', q1, q2, q3⟩ := virts_rel zs hR2 fun z' hz' => hz z' (List.mem_cons_of_mem _ hz')
    have e : H ++ (z :: zs).map (fun z => AObj.row z 0 false []) = (H ++ [AObj.row z 0 false []]) ++ zs.map fun z => .row z 0 false [] := by simp
    rw [e]
    refine ⟨own', q1, hm.trans q2, fun k z' hk => ?_⟩
    cases k with
    | zero =>
      obtain ⟨o', h1, _, fz', xs', g', h2, h3⟩ := q2.1.ext H.length _ hb
      rw [List.getElem?_append_left (by simp), hb] at h1
      cases h1
      cases h2
      rcases (h3 rfl).2.1 with h4 | h4
      · rw [upd_eq] at h4; cases h4
      · rw [Nat.add_zero, h4, upd_eq]
    | succ k =>
      have := q3 k z' (by simpa using hk)
      rw [List.length_append] at this
      simpa [Nat.add_assoc, Nat.add_comm 1 k] using this

/-- what a row's cells stand for may be said otherwise -/
theorem turn_rel {w : World} {own : Nat → Slot} {H : List AObj} (hR : RelH GT w.heap own H) {b z g : Nat} {fz : Bool} {xs xs' : List AV} (hb : H[b]? = some (.row z g fz xs)) (hl : xs'.length = xs.length) (hu : ∀ x ∈ xs', x.cells.length = z)
    (hv : ∀ (i : Nat) x' (j : Nat) a', xs'[i]? = some x' → x'.cells[j]? = some a' → ∃ x a, xs[i]? = some x ∧ x.cells[j]? = some a ∧ ∀ v, RepA w.heap (Still w.heap own H) own H v a → RepA w.heap (Still w.heap own H) own H v a') :
    RelH GT w.heap own (H.set b (.row z g fz xs')) ∧ Mv w own H w own (H.set b (.row z g fz xs')) := by
  have hlt := lt_of_get hb
  have hget : ∀ x, x ≠ b → (H.set b (.row z g fz xs'))[x]? = H[x]? := fun x hx => List.getElem?_set_ne (fun e => hx e.symm)
  have hself : (H.set b (.row z g fz xs'))[b]? = some (.row z g fz xs') := List.getElem?_set_self hlt
  have hp : Pass w.heap own H w.heap own (H.set b (.row z g fz xs')) := by
    refine ⟨Nat.le_refl _, fun c hc => ⟨⟨hc.1, fun b' o ho hb' => ?_⟩, rfl⟩, fun b' o hb' => ?_, fun _ _ h => h⟩
    · by_cases e : b' = b
      · subst e; rw [hself] at hb'; cases hb'; exact hc.2 b' (.row z g fz xs) ho hb
      · rw [hget _ e] at hb'; exact hc.2 b' o ho hb'
    · by_cases e : b' = b
      · subst e
        rw [hb] at hb'; cases hb'
        exact ⟨_, hself, Nat.le_refl _, fz, xs', g, rfl, fun _ => ⟨hl, .inr rfl, fun _ hx => by subst hx; exact List.length_eq_zero_iff.1 hl⟩⟩
      · refine ⟨o, (hget _ e).trans hb', Nat.le_refl _, ?_⟩
        cases o with
        | row z g fz xs => exact ⟨fz, xs, g, rfl, fun _ => ⟨rfl, .inr rfl, fun _ h => h⟩⟩
        | map es => exact ⟨⟨es, rfl⟩, .inr rfl⟩
        | iter s p => exact ⟨⟨p, rfl⟩, .inr rfl⟩
  refine ⟨⟨fun x hx => hR.out x (by simpa using hx), hR.inj, fun x c o ho hx => ?_, fun x hx => ?_, fun g cs hg => (hR.glob g cs hg).pass hp⟩, hp, fun _ _ h => h, .refl _⟩
  · by_cases e : x = b
    · subst e
      rw [hself] at hx; cases hx
      obtain ⟨cur, t, h1, h2, h3, h4, h5⟩ := hR.obj x c _ ho hb
      refine ⟨cur, t, h1, by rw [hl]; exact h2, h3, hu, fun i x' j a' hi hj => ?_⟩
      obtain ⟨x0, a, q1, q2, q3⟩ := hv i x' j a' hi hj
      obtain ⟨v, r1, r2, r3⟩ := h5 i x0 j a q1 q2
      exact ⟨v, r1, r2, (q3 v r3).pass hp⟩
    · rw [hget _ e] at hx; exact (hR.obj x c o ho hx).pass hp rfl
  · by_cases e : x = b
    · subst e
      obtain ⟨z', g', fz', h1, h2⟩ := hR.virt x hx
      rw [hb] at h1; cases h1
      have := List.length_eq_zero_iff.1 (hl.trans rfl)
      subst this
      exact ⟨z, g, fz, hself, h2⟩
    · rw [hget _ e]; exact hR.virt x hx

theorem Keeps.refl (H : List AObj) : Keeps H H := ⟨rfl, fun _ _ h => .inl h⟩

theorem still_cut {h : Array Obj} {own : Nat → Slot} {H L : List AObj} {c : Nat} (hc : Still h own (H ++ L) c) : Still h (cut H.length own) H c := ⟨hc.1, fun b o ho hb => by
  have hb' : b < H.length := lt_of_get hb
  simp only [cut, if_pos hb'] at ho
  exact hc.2 b o ho (by rw [List.getElem?_append_left hb']; exact hb)⟩
theorem gone_still {h : Array Obj} {own : Nat → Slot} {H L : List AObj} (r1 : RelH GT h own (H ++ L)) {b c : Nat} (hok : decide (H.length ≤ b) = true) (ho : own b = .at c) : Still h (cut H.length own) H c := by
  refine ⟨r1.lt ho, fun b' o ho' hb' => ?_⟩
  have hb1 : b' < H.length := lt_of_get hb'
  simp only [cut, if_pos hb1] at ho'
  have := r1.inj b b' c ho ho'
  simp only [decide_eq_true_eq] at hok
  omega

theorem aopB_sound {o : Oper} {K : AS → Prop} {st : AS} {w : World} {own : Nat → Slot} {a : Act} (h : aopB P GT o K st) (hS : RelS GT w own st a) {next : Act → World → Prop} {Q : Exit → Act → World → Prop}
    (hn : ∀ a' w' own' st', Mv w own st.heap w' own' st'.heap → RelS GT w' own' st' a' → K st' → next a' w') : o.wp P a w next Q := by
  rcases h with h | ⟨_, h⟩ | ⟨_, h⟩
  · exact aop_sound h hS hn
  rotate_left
  · refine aop_sound h hS fun a' w' own' st' hm hS' hk => ?_
    obtain ⟨z, hz, rfl, hK⟩ := hk
    have hH : ∀ (dd : Option Tmp) v H', (st.put dd v H').heap = H' := fun dd v H' => rfl
    have hR1 := hS'.heap
    rw [hH] at hR1 hm
    obtain ⟨own2, r1, r2, r3⟩ := virts_rel [z] hR1 (by simpa using hz)
    simp only [List.map_cons, List.map_nil] at r1 r2
    have hv : own2 (st.heap.length + 1) = .virt := by have := r3 0 z rfl; simpa using this
    have hlen : st.heap.length < (st.heap ++ [AObj.row 1 0 false [.nils]] ++ [AObj.row z 0 false []]).length := by simp
    have hb0 : (st.heap ++ [AObj.row 1 0 false [.nils]] ++ [AObj.row z 0 false []])[st.heap.length]? = some (.row 1 0 false [.nils]) := by simp
    have hb1 : (st.heap ++ [AObj.row 1 0 false [.nils]] ++ [AObj.row z 0 false []])[st.heap.length + 1]? = some (.row z 0 false []) := by simp
    obtain ⟨s1, s2⟩ := turn_rel (xs' := [.ref (st.heap.length + 1) 0 0 0 none]) r1 hb0 rfl (by simp [AV.cells]) (by
      intro i x' j a' hi hj
      match i, hi with
      | 0, hi =>
        simp at hi; subst hi
        match j, hj with
        | 0, hj =>
          simp [AV.cells] at hj; subst hj
          refine ⟨.nils, .nils, rfl, rfl, fun v hv0 => ?_⟩
          have := hv0.nils_inv
          subst this
          exact .virt _ 0 z false none hv hb1 (.inl rfl)
        | j + 1, hj => simp [AV.cells] at hj
      | i + 1, hi => simp at hi)
    have e : (st.heap ++ [AObj.row 1 0 false [.nils]] ++ [AObj.row z 0 false []]).set st.heap.length (.row 1 0 false [.ref (st.heap.length + 1) 0 0 0 none]) = st.heap ++ [AObj.row 1 0 false [.ref (st.heap.length + 1) 0 0 0 none], AObj.row z 0 false []] := by
      rw [List.append_assoc, List.set_append_right _ _ (Nat.le_refl _)]; simp
    rw [e] at s1 s2
    have r2' : Mv w' own' (st.heap ++ [AObj.row 1 0 false [.nils]]) w' own2 (st.heap ++ [AObj.row 1 0 false [.nils]] ++ [AObj.row z 0 false []]) := r2
    refine hn a' w' own2 _ ((hm.trans r2').trans s2) ⟨s1, ?_, fun t => ?_, hS'.defers⟩ hK
    · rw [hS'.size]; cases o.dst <;> rfl
    · exact ((hS'.tmps t).pass r2'.1).pass s2.1
  · refine aop_sound h hS fun a' w' own' st' hm hS' hk => ?_
    obtain ⟨v, N, x, rfl, hp, hK⟩ := hk
    obtain ⟨q1, q2, q3⟩ := drop_rel hS.heap hS'.heap hm (Keeps.refl st.heap)
    refine hn a' w' (cut st.heap.length own') (st.put o.dst (.d x) st.heap) q2 ⟨q1, ?_, fun t => ?_, hS'.defers⟩ hK
    · rw [hS'.size]
      cases o.dst <;> simp [AS.put, lset_length]
    · have ht := hS'.tmps t
      have key : ∀ d', o.dst = d' → VR w' (cut st.heap.length own') st.heap (a'.tmps.getD t undef) (lget (st.put d' (.d x) st.heap).tmps t) := by
        intro d' hd
        rw [hd] at ht
        cases d' with
        | none => exact q3 _ _ ht (hS.tmps t).clo
        | some d =>
          simp only [AS.put] at ht ⊢
          by_cases e : d = t
          · subst e
            by_cases hlt : d < st.tmps.length
            · rw [lget_lset_eq _ _ _ hlt] at ht ⊢
              exact .d _ _ (pure_rep hS'.heap (fun c hc => still_cut hc) (fun b c hok ho => gone_still hS'.heap hok ho) 50 ht hp)
            · rw [lget_ge (lset st.tmps d (.d x)) d (by rw [lset_length]; exact Nat.not_lt.1 hlt)]; exact RepA.un _
          · rw [lget_lset_ne _ _ _ _ e] at ht ⊢
            exact q3 _ _ ht (hS.tmps t).clo
      exact key _ rfl

def aops2 (P : Program) (GT : Globs) (ops : Array Oper) : List Oper → (AS → Prop) → AS → Prop
  | [], K, st => K st
  | o :: rest, K, st => match o.guard with
    | none => aopB P GT o (aops2 P GT ops rest K) st
    | some (j, want) => match gval ops st.tmps j with
      | .d (.bool b) => if b = want then aopB P GT o (aops2 P GT ops rest K) st else aops2 P GT ops rest K (st.put o.dst (.tup []) st.heap)
      | .tup [] => aops2 P GT ops rest K (st.put o.dst (.tup []) st.heap)
      | _ => False

theorem aops2_sound {ops : Array Oper} {K : AS → Prop} {Q : Exit → AS → Prop} (hK : ∀ st, K st → Q .normal st) : ∀ (l : List Oper) (st : AS) (w : World) (own : Nat → Slot) (a : Act), aops2 P GT ops l K st → RelS GT w own st a →
    ∀ Qc : Exit → Act → World → Prop, (∀ e a' w', Post GT w own st Q e a' w' → Qc e a' w') → wpList P ops Qc l a w
  | [], st, w, own, a, h, hS, Qc, hQ => hQ _ _ _ ⟨own, st, .refl _ _ _, hS, hK st h⟩
  | o :: rest, st, w, own, a, h, hS, Qc, hQ => by
    have step : aopB P GT o (aops2 P GT ops rest K) st → o.wp P a w (wpList P ops Qc rest) Qc := fun h =>
      aopB_sound h hS fun a' w' own' st' hm hS' hK' => aops2_sound hK rest st' w' own' a' hK' hS' Qc fun e a2 w2 hp => hQ e a2 w2 (hp.trans hm)
    have skip : aops2 P GT ops rest K (st.put o.dst (.tup []) st.heap) → wpList P ops Qc rest (a.put o.dst undef) w := fun h =>
      aops2_sound hK rest (st.put o.dst (.tup []) st.heap) w own (a.put o.dst undef) h (hS.skip o.dst) Qc fun e a2 w2 hp => hQ e a2 w2 hp
    simp only [aops2] at h
    split at h
    · rename_i hg
      have hw : Region.wanted o (yielded ops a.tmps) = true := by simp [Region.wanted, hg]
      simp only [wpList, hw, if_true]
      exact .inl (step h)
    · rename_i j want hg
      split at h
      · rename_i b hb
        have hy := gval_bool hS hb
        by_cases hbw : b = want
        · rw [if_pos hbw] at h
          have hw : Region.wanted o (yielded ops a.tmps) = true := by simp [Region.wanted, hg, hy, hbw]
          simp only [wpList, hw, if_true]
          exact .inl (step h)
        · rw [if_neg hbw] at h
          have hw : Region.wanted o (yielded ops a.tmps) = false := by simp [Region.wanted, hg, hy, hbw]
          simp only [wpList, hw, Bool.false_eq_true, if_false]
          exact skip h
      · rename_i hb
        have hy := gval_none hS hb
        have hw : Region.wanted o (yielded ops a.tmps) = false := by simp [Region.wanted, hg, hy]
        simp only [wpList, hw, Bool.false_eq_true, if_false]
        exact skip h
      · exact h.elim

end Go.Ab

namespace Go.Ab

variable {P : Program} {GT : Globs}

/-- a state that says less than st, reached from st0: the same heap, or the last blocks forgotten -/
def Drop (st0 st st3 : AS) : Prop :=
  st3.tmps.length = st.tmps.length ∧
  ((st3.heap = st.heap ∧ ∀ t, lget st3.tmps t = .un ∨ lget st3.tmps t = lget st.tmps t) ∨
   ((∃ L, st.heap = st3.heap ++ L) ∧ Keeps st0.heap st3.heap ∧ ∀ t, lget st3.tmps t = .un ∨ (lget st3.tmps t = lget st.tmps t ∧ cloA st3.heap.length (lget st3.tmps t) = true)) ∨
   (∃ zs : List Nat, (∀ z ∈ zs, 0 < z) ∧ st3.heap = st.heap ++ zs.map (fun z => .row z 0 false []) ∧
     ∀ t, lget st3.tmps t = .un ∨ lget st3.tmps t = lget st.tmps t ∨ (lget st.tmps t = .nils ∧ ∃ k, k < zs.length ∧ lget st3.tmps t = .ref (st.heap.length + k) 0 0 0 none)))

theorem Drop.refl (st0 st : AS) : Drop st0 st st := ⟨rfl, .inl ⟨rfl, fun _ => .inr rfl⟩⟩

theorem Drop.sound {st0 st st3 : AS} {w0 w : World} {own0 own : Nat → Slot} {a : Act} (hd : Drop st0 st st3) (hR0 : RelH GT w0.heap own0 st0.heap) (hS : RelS GT w own st a) (hm : Mv w0 own0 st0.heap w own st.heap) :
    ∃ own3, RelS GT w own3 st3 a ∧ Mv w0 own0 st0.heap w own3 st3.heap := by
  obtain ⟨tm, H⟩ := st
  obtain ⟨tm3, H3⟩ := st3
  obtain ⟨hl, ⟨h1, h2⟩ | ⟨⟨L, h1⟩, h2, h3⟩ | ⟨zs, hz, h1, h2⟩⟩ := hd
  · simp only at hl h1 h2
    subst h1
    refine ⟨own, ⟨hS.heap, by rw [hS.size]; exact hl.symm, fun t => ?_, hS.defers⟩, hm⟩
    rcases h2 t with h | h
    · simp only [h]; exact .un _
    · simp only [h]; exact hS.tmps t
  · simp only at hl h1 h2 h3
    subst h1
    obtain ⟨q1, q2, q3⟩ := drop_rel hR0 hS.heap hm h2
    refine ⟨cut H3.length own, ⟨q1, by rw [hS.size]; exact hl.symm, fun t => ?_, hS.defers⟩, q2⟩
    rcases h3 t with h | ⟨h, hc⟩
    · simp only [h]; exact .un _
    · refine q3 _ _ ?_ hc
      simp only [h]; exact hS.tmps t
  · simp only at hl h1 h2
    subst h1
    obtain ⟨own', q1, q2, q3⟩ := virts_rel zs hS.heap hz
    refine ⟨own', ⟨q1, by rw [hS.size]; exact hl.symm, fun t => ?_, hS.defers⟩, hm.trans q2⟩
    rcases h2 t with h | h | ⟨h, k, hk, h'⟩
    · simp only [h]; exact .un _
    · simp only [h]; exact (hS.tmps t).pass q2.1
    · simp only [h']
      have ht := hS.tmps t
      simp only [h] at ht
      have hzk : zs[k]? = some zs[k] := List.getElem?_eq_getElem hk
      have := ht.nils_inv
      rw [this]
      exact .virt _ 0 zs[k] false none (q3 k _ hzk) (by rw [List.getElem?_append_right (by omega)]; simp [hk]) (.inl rfl)

/-- a region whose order is open -/
def ADraw (P : Program) (GT : Globs) (id : Nat) (ops : Array Oper) (K : AS → Prop) (st : AS) : Prop :=
  ∀ (own : Nat → Slot) (a : Act) (w : World), RelS GT w own st a → (Code.region id ops true).wp P (fun e a' w' => e = .normal ∧ ∃ own' st', Mv w own st.heap w' own' st'.heap ∧ RelS GT w' own' st' a' ∧ K st') a w

def aw (P : Program) (GT : Globs) : Code → (Exit → AS → Prop) → AS → Prop
  | .skip, Q, st => Q .normal st
  | .label _, Q, st => Q .normal st
  | .exit id, Q, st => Q (.exit id) st
  | .goto l, Q, st => Q (.goto l) st
  | .ret, Q, st => Q .ret st
  | .seq a b, Q, st => aw P GT a (fun e st' => match e with | .normal => aw P GT b Q st' | e => Q e st') st
  | .region id ops true, Q, st => ADraw P GT id ops (Q .normal) st
  | .region _ ops false, Q, st => aops2 P GT ops ops.toList (Q .normal) st
  | .cond c a b, Q, st => match ev GT st.tmps c with
    | .d (.bool t) => if t then aw P GT a Q st else aw P GT b Q st
    | _ => False
  | .block id c, Q, st => aw P GT c (fun e st' => match e with | .exit id' => if id' = id then Q .normal st' else Q (.exit id') st' | e => Q e st') st
  | .loop c, Q, st => ∃ st1, Drop st st st1 ∧ ∃ (ι : Type) (I : ι → AS) (μ : ι → Nat) (i0 : ι), Drop st1 st1 (I i0) ∧
      ∀ i, aw P GT c (fun e st' => match e with | .normal => ∃ j, μ j < μ i ∧ Drop st1 st' (I j) | e => ∃ st3, Drop st1 st' st3 ∧ Q e st3) (I i)
  | _, _, _ => False

theorem aw_sound : ∀ (c : Code) (Q : Exit → AS → Prop) (st : AS), aw P GT c Q st → ∀ (own : Nat → Slot) (a : Act) (w : World), RelS GT w own st a → c.wp P (Post GT w own st Q) a w
  | .skip, Q, st, h, own, a, w, hS => wp_skip ⟨own, st, .refl _ _ _, hS, h⟩
  | .label _, Q, st, h, own, a, w, hS => wp_label ⟨own, st, .refl _ _ _, hS, h⟩
  | .exit id, Q, st, h, own, a, w, hS => wp_exit ⟨own, st, .refl _ _ _, hS, h⟩
  | .goto l, Q, st, h, own, a, w, hS => wp_goto ⟨own, st, .refl _ _ _, hS, h⟩
  | .ret, Q, st, h, own, a, w, hS => wp_ret ⟨own, st, .refl _ _ _, hS, h⟩
  | .seq x y, Q, st, h, own, a, w, hS => by
    refine wp_seq (wp_mono (aw_sound x _ st h own a w hS) ?_)
    rintro e a' w' ⟨own', st', h1, h2, h3⟩
    cases e with
    | normal => exact wp_mono (aw_sound y Q st' h3 own' a' w' h2) fun e a2 w2 hp => hp.trans h1
    | _ => exact ⟨own', st', h1, h2, h3⟩
  | .region id ops true, Q, st, h, own, a, w, hS => by
    refine wp_mono (h own a w hS) ?_
    rintro e a' w' ⟨rfl, own', st', h1, h2, h3⟩
    exact ⟨own', st', h1, h2, h3⟩
  | .region id ops false, Q, st, h, own, a, w, hS => wp_region_list (aops2_sound (fun _ h => h) _ st w own a h hS _ fun _ _ _ hp => hp)
  | .cond c x y, Q, st, h, own, a, w, hS => by
    unfold aw at h
    have hc := hS.eval c
    split at h
    · rename_i t he
      rw [he] at hc
      have hv : a.eval c = .bool t := by
        have := hc.d_inv
        generalize a.eval c = v at this
        cases this; rfl
      cases t with
      | true => exact wp_cond_true hv (aw_sound x Q st (by simpa using h) own a w hS)
      | false => exact wp_cond_false hv (aw_sound y Q st (by simpa using h) own a w hS)
    · exact h.elim
  | .block id c, Q, st, h, own, a, w, hS => by
    refine wp_block (wp_mono (aw_sound c _ st h own a w hS) ?_)
    rintro e a' w' ⟨own', st', h1, h2, h3⟩
    cases e with
    | exit id' =>
      simp only [Exit.inBlock]
      simp only at h3
      by_cases hid : id' = id
      · rw [if_pos hid] at h3 ⊢; exact ⟨own', st', h1, h2, h3⟩
      · rw [if_neg hid] at h3 ⊢; exact ⟨own', st', h1, h2, h3⟩
    | _ => exact ⟨own', st', h1, h2, h3⟩
  | .loop c, Q, st, h, own, a, w, hS => by
    obtain ⟨st1, hd1, ι, I, μ, i0, h0, hstep⟩ := h
    obtain ⟨own1, hS1, hm1⟩ := hd1.sound hS.heap hS (.refl _ _ _)
    suffices hsuf : (Code.loop c).wp P (Post GT w own1 st1 Q) a w from wp_mono hsuf fun e a2 w2 hp => hp.trans hm1
    clear hd1 hm1 hS
    revert hS1 h0 hstep
    generalize st1 = st
    generalize own1 = own
    intro h0 hstep hS
    let Inv : Act → World → Nat → Prop := fun a' w' n => ∃ i own', μ i = n ∧ RelS GT w' own' (I i) a' ∧ Mv w own st.heap w' own' (I i).heap
    have hex : ∀ a' w', (∃ n, Inv a' w' n) → ∃ n, Inv a' w' n ∧ ∀ m, Inv a' w' m → n ≤ m := by
      intro a' w' ⟨n, hn⟩
      induction n using Nat.strongRecOn with
      | _ n ih =>
        by_cases hm : ∃ m, m < n ∧ Inv a' w' m
        · obtain ⟨m, hlt, hm⟩ := hm; exact ih m hlt hm
        · exact ⟨n, hn, fun m hm' => by
            rcases Nat.lt_or_ge m n with h | h
            · exact (hm ⟨m, h, hm'⟩).elim
            · exact h⟩
    let M : Act → World → Nat := fun a' w' => open Classical in if h : ∃ n, Inv a' w' n then Classical.choose (hex a' w' h) else 0
    have hM : ∀ a' w' (h : ∃ n, Inv a' w' n), Inv a' w' (M a' w') ∧ ∀ m, Inv a' w' m → M a' w' ≤ m := by
      intro a' w' h
      have := Classical.choose_spec (hex a' w' h)
      simp only [M, dif_pos h]
      exact this
    refine wp_loop (fun a' w' => ∃ n, Inv a' w' n) M ?_ ?_
    · obtain ⟨own3, q1, q2⟩ := h0.sound hS.heap hS (.refl _ _ _)
      exact ⟨_, i0, own3, rfl, q1, q2⟩
    · intro a' w' hI
      obtain ⟨⟨i, own', hi, hS', hm'⟩, _⟩ := hM a' w' hI
      refine wp_mono (aw_sound c _ (I i) (hstep i) own' a' w' hS') ?_
      rintro e a2 w2 ⟨own2, st2, h1, h2, h3⟩
      cases e with
      | normal =>
        obtain ⟨j, hj, hd⟩ := h3
        obtain ⟨own3, q1, q2⟩ := hd.sound hS.heap h2 (hm'.trans h1)
        have hin : Inv a2 w2 (μ j) := ⟨j, own3, rfl, q1, q2⟩
        refine ⟨⟨_, hin⟩, Nat.lt_of_le_of_lt ((hM a2 w2 ⟨_, hin⟩).2 _ hin) (by rw [← hi]; exact hj)⟩
      | _ =>
        obtain ⟨st3, hd, hq⟩ := h3
        obtain ⟨own3, q1, q2⟩ := hd.sound hS.heap h2 (hm'.trans h1)
        exact ⟨own3, st3, q2, q1, hq⟩
  | .rangeFunc .., _, _, h, _, _, _, _ => h.elim
  | .scope _, _, _, h, _, _, _, _ => h.elim
  | .refuse _, _, _, h, _, _, _, _ => h.elim

/-- the values of the result variables -/
noncomputable def resV (P : Program) (st : AS) : ResultVar → Option AV
  | .tmp t => some (lget st.tmps t)
  | .cell a t => aload P st.heap t (lget st.tmps a)
noncomputable def resVs (P : Program) (st : AS) : List ResultVar → Option (List AV)
  | [] => some []
  | r :: rs => match resV P st r, resVs P st rs with
    | some v, some vs => some (v :: vs)
    | _, _ => none
def tupOf : List AV → AV
  | [v] => v
  | vs => .tup vs

def runVar (tmps : Array Value) : ResultVar → Sem Value
  | .tmp t => pure (tmps.getD t undef)
  | .cell a t => do loadVar t (← asAddr (tmps.getD a undef))

theorem runVar_sound {st : AS} {a : Act} {w : World} {own : Nat → Slot} (hS : RelS GT w own st a) {r : ResultVar} {v : AV} (hr : resV P st r = some v) : ∃ cv, (runVar a.tmps r).run P w = .ok cv w ∧ VR w own st.heap cv v := by
  cases r with
  | tmp t =>
    simp only [resV, Option.some.injEq] at hr
    subst hr
    exact ⟨a.tmps.getD t undef, rfl, hS.tmps t⟩
  | cell ad t =>
    simp only [resV] at hr
    obtain ⟨cv, h1, h4⟩ := load_val (Hi := st.heap) (fun b o h => h) hS.heap (hS.tmps ad) hr
    refine ⟨cv, ?_, h4⟩
    show (Sem.run P (do loadVar t (← asAddr (a.tmps.getD ad undef))) w) = _
    generalize a.tmps.getD ad undef = v at h1 ⊢
    cases v with
    | pointer p =>
      cases p with
      | some p => simpa [Instr.loadAt, Instr.sureAddr, asAddr] using h1
      | none => simp [Instr.loadAt, Instr.sureAddr, stuck, Sem.run] at h1
    | _ => simp [Instr.loadAt, Instr.sureAddr, stuck, Sem.run] at h1

theorem runVars_sound {st : AS} {a : Act} {w : World} {own : Nat → Slot} (hS : RelS GT w own st a) : ∀ (rs : List ResultVar) (vs : List AV), resVs P st rs = some vs →
    ∃ cvs : List Value, (rs.mapM (runVar a.tmps)).run P w = .ok cvs w ∧ cvs.length = vs.length ∧ ∀ (j : Nat) v x, cvs[j]? = some v → vs[j]? = some x → VR w own st.heap v x
  | [], vs, h => by simp [resVs] at h; subst h; exact ⟨[], by simp, rfl, fun j v x hv => by simp at hv⟩
  | r :: rs, vs, h => by
    unfold resVs at h
    split at h
    · rename_i v vs' h1 h2
      cases h
      obtain ⟨cv, e1, e2⟩ := runVar_sound hS h1
      obtain ⟨cvs, e3, e4, e5⟩ := runVars_sound hS rs vs' h2
      refine ⟨cv :: cvs, by simp [List.mapM_cons, e1, e3], by simp [e4], fun j u x hu hx => ?_⟩
      cases j with
      | zero => simp at hu hx; subst hu; subst hx; exact e2
      | succ j => exact e5 j u x (by simpa using hu) (by simpa using hx)
    · cases h

theorem results_run {fn : Func} {st : AS} {a : Act} {w : World} {own : Nat → Slot} (hS : RelS GT w own st a) {vs : List AV} (h : resVs P st fn.results.toList = some vs) :
    ∃ cv, (results fn a.tmps).run P w = .ok cv w ∧ VR w own st.heap cv (tupOf vs) := by
  obtain ⟨cvs, h1, h2, h3⟩ := runVars_sound hS _ _ h
  have hrun : (fn.results.mapM (runVar a.tmps)).run P w = .ok cvs.toArray w := by
    rw [Array.mapM_eq_mapM_toList]; simp [h1]
  have hres : (results fn a.tmps).run P w = .ok (if h : cvs.toArray.size = 1 then cvs.toArray[0] else .tuple cvs.toArray) w := by
    have e : results fn a.tmps = (do let vs ← fn.results.mapM (runVar a.tmps); pure (if h : vs.size = 1 then vs[0] else .tuple vs)) := by
      unfold results
      congr 1
    rw [e, Sem.run_bind, hrun]; rfl
  refine ⟨_, hres, ?_⟩
  match cvs, vs, h2, h3 with
  | [], [], _, _ => exact .tup [] [] rfl fun j v x hv => by simp at hv
  | [c], [v], _, h3 => exact h3 0 c v rfl rfl
  | c :: c2 :: cs, v :: v2 :: vs, h2, h3 =>
    have : ¬ ((c :: c2 :: cs).toArray.size = 1) := by simp
    rw [dif_neg this]
    exact .tup _ _ h2 h3

/-- what a body must come to -/
def rets (P : Program) (fn : Func) (R : AV → List AObj → Prop) : Exit → AS → Prop := fun e st =>
  match e with
  | .normal => ∃ vs, resVs P st fn.results.toList = some vs ∧ R (tupOf vs) st.heap
  | .ret => ∃ vs, resVs P st fn.results.toList = some vs ∧ R (tupOf vs) st.heap
  | _ => False

def enterTmps (fn : Func) (args : List AV) : List AV := args ++ List.replicate (fn.ntmps - args.length) (.tup [])

/-- ENTERING A FUNCTION -/
theorem acalls_enter {f : FuncId} {fn : Func} {c : Code} {args : List AV} {H : List AObj} {R : AV → List AObj → Prop} (hf : P.funcs[f]? = some fn) (hb : fn.body = some c) (hc : callable P f = true)
    (st1 : AS) (hd : Drop ⟨enterTmps fn args, H⟩ ⟨enterTmps fn args, H⟩ st1)
    (h : aw P GT c (rets P fn fun v H1 => ∃ H2 v2, R v2 H2 ∧ ∀ (w0 w : World) (own0 own : Nat → Slot), RelH GT w0.heap own0 H → RelH GT w.heap own H1 → Mv w0 own0 H w own H1 →
      ∃ own2, RelH GT w.heap own2 H2 ∧ Mv w0 own0 H w own2 H2 ∧ ∀ cv, VR w own H1 cv v → VR w own2 H2 cv v2) st1) : ACalls P GT f args H R := by
  refine ⟨hc, fun w own vs hR hl hargs => calls_of_wp hf hb ?_⟩
  have hS : RelS GT w own ⟨enterTmps fn args, H⟩ { tmps := vs.toArray ++ Array.replicate (fn.ntmps - vs.toArray.size) undef, defers := [] } := by
    refine ⟨hR, by simp [enterTmps, hl], fun t => ?_, rfl⟩
    try simp only [enterTmps]
    have hll : ∀ (l : List AV) (t : Nat) a, l[t]? = some a → lget l t = a := by
      intro l
      induction l with
      | nil => intro t a h; simp at h
      | cons x l ih =>
        intro t a h
        cases t with
        | zero => simpa [lget_nil, lget_cz, lget_cs] using h
        | succ t => exact ih t a (by simpa using h)
    rcases Nat.lt_or_ge t args.length with hlt | hge
    · have e1 : (args ++ List.replicate (fn.ntmps - args.length) (AV.tup []))[t]? = some args[t] := by rw [List.getElem?_append_left hlt]; exact List.getElem?_eq_getElem hlt
      rw [hll _ _ _ e1]
      have hlt2 : t < vs.length := by omega
      have e2 : (vs.toArray ++ Array.replicate (fn.ntmps - vs.toArray.size) undef).getD t undef = vs[t] := by
        have hb2 : t < vs.toArray.size := by simpa using hlt2
        rw [Array.getD_eq_getD_getElem?, Array.getElem?_append_left hb2]
        simp [hlt2]
      rw [e2]
      exact hargs t _ _ (List.getElem?_eq_getElem hlt2) (List.getElem?_eq_getElem hlt)
    · rcases Nat.lt_or_ge t (args.length + (fn.ntmps - args.length)) with hlt2 | hge2
      · have e1 : (args ++ List.replicate (fn.ntmps - args.length) (AV.tup []))[t]? = some (.tup []) := by rw [List.getElem?_append_right hge, List.getElem?_replicate, if_pos (by omega)]
        rw [hll _ _ _ e1]
        have e2 : (vs.toArray ++ Array.replicate (fn.ntmps - vs.toArray.size) undef).getD t undef = .tuple #[] := by
          simp only [Array.getD_eq_getD_getElem?]
          rw [Array.getElem?_append_right (by simp; omega)]
          simp only [Array.getElem?_replicate]
          split <;> rfl
        rw [e2]
        exact .tup [] [] rfl fun j v c hv => by simp at hv
      · rw [lget_ge _ _ (by simp; omega)]; exact .un _
  obtain ⟨own3, hS3, hm3⟩ := hd.sound hR hS (.refl _ _ _)
  refine wp_mono (aw_sound c _ _ h own3 _ w hS3) ?_
  rintro e a' w' ⟨own', st', hm, hS', hq⟩
  replace hm := hm3.trans hm
  have fin : (∃ vs, resVs P st' fn.results.toList = some vs ∧ ∃ H2 v2, R v2 H2 ∧ ∀ (w0 w : World) (own0 own : Nat → Slot), RelH GT w0.heap own0 H → RelH GT w.heap own st'.heap → Mv w0 own0 H w own st'.heap →
      ∃ own2, RelH GT w.heap own2 H2 ∧ Mv w0 own0 H w own2 H2 ∧ ∀ cv, VR w own st'.heap cv (tupOf vs) → VR w own2 H2 cv v2) →
      a'.defers = [] ∧ ∃ v, (results fn a'.tmps).run P w' = .ok v w' ∧ ∃ v_1 a H' own', Ending.returned v = .returned v_1 ∧ RelH GT w'.heap own' H' ∧ Mv w own H w' own' H' ∧ VR w' own' H' v_1 a ∧ R a H' := by
    rintro ⟨vs', h1, H2, v2, h2, h3⟩
    obtain ⟨cv, hr, hv⟩ := results_run hS' h1
    obtain ⟨own2, q1, q2, q3⟩ := h3 w w' own own' hR hS'.heap hm
    exact ⟨hS'.defers, cv, hr, cv, v2, H2, own2, rfl, q1, q2, q3 cv hv, h2⟩
  cases e with
  | normal => exact fin hq
  | ret => exact fin hq
  | _ => exact hq.elim

end Go.Ab
