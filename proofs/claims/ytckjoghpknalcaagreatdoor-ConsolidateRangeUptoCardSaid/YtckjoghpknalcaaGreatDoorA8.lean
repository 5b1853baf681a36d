/- The abstract run as a computation, II: results cut to data, regions whose order is open. -/
import Derived.Test.YtckjoghpknalcaaGreatDoorA5
set_option linter.unusedVariables false
set_option linter.unusedSimpArgs false
set_option linter.unnecessarySimpa false
namespace Go.Ab

/-- what a function gives at data, whatever the heap -/
inductive Kd where
  | pure (x : D)
  | mp (es : List (D × AV))

def dataL : List AV → Bool
  | [] => true
  | .d _ :: r => dataL r
  | _ :: _ => false
mutual
def scal : D → Bool
  | .int _ _ => true
  | .bool _ => true
  | .str _ => true
  | .fn _ => true
  | .agg cs => scalL cs
  | .list _ => false
def scalL : List D → Bool
  | [] => true
  | x :: r => scal x && scalL r
end

/-! the same? -/
mutual
def idemD : D → D → Bool
  | .int k n, .int k' n' => decide (k = k') && decide (n = n')
  | .bool b, .bool b' => b == b'
  | .str s, .str s' => decide (s.data.toList = s'.data.toList)
  | .list xs, .list ys => idemDL xs ys
  | .agg xs, .agg ys => idemDL xs ys
  | .fn f, .fn f' => f == f'
  | _, _ => false
def idemDL : List D → List D → Bool
  | [], [] => true
  | x :: xs, y :: ys => idemD x y && idemDL xs ys
  | _, _ => false
end
mutual
def idemA : AV → AV → Bool
  | .d x, .d y => idemD x y
  | .nils, .nils => true
  | .ref b g i n c, .ref b' g' i' n' c' => b == b' && g == g' && i == i' && n == n' && c == c'
  | .ptr b g i f, .ptr b' g' i' f' => b == b' && g == g' && i == i' && f == f'
  | .cptr cs, .cptr cs' => idemDL cs cs'
  | .fn f a c, .fn f' a' c' => f == f' && idemAL a a' && idemAL c c'
  | .mp b, .mp b' => b == b'
  | .it b, .it b' => b == b'
  | .agg xs, .agg ys => idemAL xs ys
  | .tup xs, .tup ys => idemAL xs ys
  | .np, .np => true
  | .nf, .nf => true
  | .un, .un => true
  | _, _ => false
def idemAL : List AV → List AV → Bool
  | [], [] => true
  | x :: xs, y :: ys => idemA x y && idemAL xs ys
  | _, _ => false
end
def idemE : List (D × AV) → List (D × AV) → Bool
  | [], [] => true
  | x :: xs, y :: ys => idemD x.1 y.1 && idemA x.2 y.2 && idemE xs ys
  | _, _ => false
def idemO : AObj → AObj → Bool
  | .row z g f xs, .row z' g' f' xs' => z == z' && g == g' && f == f' && idemAL xs xs'
  | .map es, .map es' => idemE es es'
  | .iter s p, .iter s' p' => decide (s.data.toList = s'.data.toList) && p == p'
  | _, _ => false
def idemOL : List AObj → List AObj → Bool
  | [], [] => true
  | x :: xs, y :: ys => idemO x y && idemOL xs ys
  | _, _ => false
def idemS (s t : AS) : Bool := idemAL s.tmps t.tmps && idemOL s.heap t.heap

def keepsB (H0 H' : List AObj) : Bool := H'.length == H0.length && H'.all (cloO H'.length)
/-- the result as data, and the function's own blocks forgotten, where that can be -/
def purge (H : List AObj) (v : AV) (H1 : List AObj) : AV × List AObj :=
  if keepsB H (H1.take H.length) = true then match pureR (fun b => decide (H.length ≤ b)) H1 50 v with
    | some x => (x, H1.take H.length)
    | none => (v, H1)
  else (v, H1)

variable {P : Program} {GT : Globs}
/-! from the empty heap to whatever heap -/
theorem scal_rep {h h' : Array Obj} {S S' : Nat → Prop} {v : Value} {x : D} (r : Rep h S v x) : scal x = true → Rep h' S' v x := by
  induction r with
  | int k n hn => exact fun _ => .int k n hn
  | bool b => exact fun _ => .bool b
  | str s hs => exact fun _ => .str s hs
  | fn f => exact fun _ => .fn f
  | agg vs cs hl h1 _ ih =>
    intro h
    have hs : ∀ {l : List D}, scalL l = true → ∀ c ∈ l, scal c = true := by
      intro l
      induction l with
      | nil => intro _ c hc; cases hc
      | cons x l ih =>
        intro h c hc
        simp only [scalL, Bool.and_eq_true] at h
        rcases List.mem_cons.1 hc with e | e
        · rw [e]; exact h.1
        · exact ih h.2 c e
    exact .agg vs cs hl h1 fun j v c hv hc => ih j v c hv hc (hs h c (List.mem_of_getElem? hc))
  | nil => intro h; cases h
  | emp a => intro h; cases h
  | slice => intro h; cases h

theorem dataL_get {l : List AV} (h : dataL l = true) {j : Nat} {a : AV} (ha : l[j]? = some a) : ∃ x, a = .d x := by
  induction l generalizing j with
  | nil => simp at ha
  | cons y l ih =>
    cases y with
    | d x =>
      cases j with
      | zero => simp at ha; exact ⟨x, ha.symm⟩
      | succ j => exact ih h (by simpa using ha)
    | _ => cases h

def isScal : D × AV → Bool
  | (k, .d x) => scal k && scal x
  | _ => false
theorem lift0 {g : FuncId} {args : List AV} {v : AV} {H' : List AObj} (h : ACalls P GT g args [] fun a K => a = v ∧ K = H') (hd : dataL args = true) (M : List AObj) (w : World) (own : Nat → Slot) (vs : List Value) (hR : RelH GT w.heap own M) (hl : vs.length = args.length)
    (ha : ∀ (j : Nat) v a, vs[j]? = some v → args[j]? = some a → VR w own M v a) :
    Calls P g vs.toArray w fun e w' => ∃ v' own', e = .returned v' ∧ RelH GT w'.heap own' H' ∧ VR w' own' H' v' v ∧ w.heap.size ≤ w'.heap.size ∧ (∀ c, c < w.heap.size → w'.heap[c]? = w.heap[c]?) ∧ (∀ b c o, own' b = .at c → H'[b]? = some o → o.fz = false → w.heap.size ≤ c) ∧ Kp w w' := by
  have hS : ∀ c, Still w.heap own M c → Still w.heap (fun _ => .no) [] c ∧ w.heap[c]? = w.heap[c]? := fun c hc => ⟨⟨hc.1, fun b o ho _ => by cases ho⟩, rfl⟩
  have hR0 : RelH GT w.heap (fun _ => .no) [] := by
    refine ⟨fun _ _ => rfl, ?_, ?_, ?_, ?_⟩
    · intro b b' c hb; cases hb
    · intro b c o hb; cases hb
    · intro b hb; cases hb
    · intro g cs hg
      have := hR.glob g cs hg
      obtain ⟨b, o, f, e, hb, hc, hr⟩ := this.cptr_inv
      cases e
      exact .cptr g 0 cs (hS g hb).1 f hc fun j c hj => (hr j c hj).pass hS
  refine (h.2 w (fun _ => .no) vs hR0 hl fun j u a hu hj => ?_).mono ?_
  · obtain ⟨x, rfl⟩ := dataL_get hd hj
    exact .d _ _ ((ha j u _ hu hj).d_inv.pass hS)
  · rintro e w' ⟨v', a, K, own', rfl, q1, q2, q3, rfl, rfl⟩
    have hst : ∀ c, c < w.heap.size → Still w.heap (fun _ => .no) [] c := fun c hc => ⟨hc, fun b o ho _ => by cases ho⟩
    refine ⟨v', own', rfl, q1, q3, q2.1.size, fun c hc => (q2.1.still c (hst c hc)).2, fun b c o hb ho hf => ?_, q2.2.2⟩
    rcases Nat.lt_or_ge c w.heap.size with hlt | hge
    · have := (q2.1.still c (hst c hlt)).1.2 b o hb ho
      rw [hf] at this; cases this
    · exact hge

theorem grown_rows {h h' : Array Obj} (hs : ∀ c, c < h.size → h'[c]? = h[c]?) (c n : Nat) (hn : rowSize h c = some n) : rowSize h' c = some n := by
  have hlt : c < h.size := by
    unfold rowSize at hn
    rcases Nat.lt_or_ge c h.size with q | q
    · exact q
    · rw [Array.getElem?_eq_none q] at hn; cases hn
  unfold rowSize at *
  rw [hs c hlt]; exact hn

theorem lift_scal {g : FuncId} {args : List AV} {x : D} (h : ACalls P GT g args [] fun a K => a = .d x ∧ K = []) (hd : dataL args = true) (hx : scal x = true) (M : List AObj) : ACalls P GT g args M fun a K => a = .d x ∧ K = M := by
  refine ⟨h.1, fun w own vs hR hl ha => (lift0 h hd M w own vs hR hl ha).mono ?_⟩
  rintro e w' ⟨v', own', rfl, q1, q2, q3, q4, _, hkp⟩
  have hp : Pass w.heap own M w'.heap own M := ⟨q3, fun c hc => ⟨⟨Nat.lt_of_lt_of_le hc.1 q3, hc.2⟩, q4 c hc.1⟩, fun b o ho => by
    refine ⟨o, ho, Nat.le_refl _, ?_⟩
    cases o with
    | row z g fz xs => exact ⟨fz, xs, g, rfl, fun _ => ⟨rfl, .inr rfl, fun _ h => h⟩⟩
    | map es => exact ⟨⟨es, rfl⟩, .inr rfl⟩
    | iter s p => exact ⟨⟨p, rfl⟩, .inr rfl⟩, grown_rows q4⟩
  exact ⟨v', .d x, M, own, rfl, ⟨hR.out, hR.inj, fun b c o hb ho => (hR.obj b c o hb ho).pass hp (q4 c (hR.lt hb)), hR.virt, fun g cs hg => (hR.glob g cs hg).pass hp⟩, ⟨hp, fun _ _ h => h, hkp⟩, .d _ _ (scal_rep q2.d_inv hx), rfl, rfl⟩

theorem lift_map {g : FuncId} {args : List AV} {es : List (D × AV)} (h : ACalls P GT g args [] fun a K => a = .mp 0 ∧ K = [.map es]) (hd : dataL args = true) (hx : es.all isScal = true) (M : List AObj) : ACalls P GT g args M fun a K => a = .mp M.length ∧ K = M ++ [.map es] := by
  refine ⟨h.1, fun w own vs hR hl ha => (lift0 h hd M w own vs hR hl ha).mono ?_⟩
  rintro e w' ⟨v', own', rfl, q1, q2, q3, q4, q5, hkp⟩
  cases q2 with
  | mp _ c es' ho hb =>
  have hc := q5 0 c (.map es) ho rfl rfl
  obtain ⟨ents, clock, e1, e2, e3⟩ := q1.obj 0 c (.map es) ho rfl
  have hclt : c < w'.heap.size := (Array.getElem?_eq_some_iff.1 e1).1
  have hcn : ∀ b d, own b = .at d → d ≠ c := fun b d hb hd => by have := hR.lt hb; omega
  have hlow : ∀ b o, M[b]? = some o → b < M.length := fun b o hb => (List.getElem?_eq_some_iff.1 hb).1
  have hget : ∀ b, b < M.length → (M ++ [AObj.map es])[b]? = M[b]? := fun b hb => List.getElem?_append_left hb
  have hlast : (M ++ [AObj.map es])[M.length]? = some (.map es) := by simp
  have hpast : ∀ b o, (M ++ [AObj.map es])[b]? = some o → b ≠ M.length → M[b]? = some o := by
    intro b o hb hne
    have := (List.getElem?_eq_some_iff.1 hb).1
    rw [List.length_append, List.length_singleton] at this
    rw [← hget b (by omega)]; exact hb
  have hp : Pass w.heap own M w'.heap (upd own M.length (.at c)) (M ++ [.map es]) := by
    refine ⟨q3, fun d hd => ⟨⟨Nat.lt_of_lt_of_le hd.1 q3, fun b o hb hbo => ?_⟩, q4 d hd.1⟩, fun b o hbo => ?_, grown_rows q4⟩
    · by_cases e : b = M.length
      · subst e; rw [upd_eq] at hb; cases hb; have := hd.1; omega
      · rw [upd_ne _ _ e] at hb
        exact hd.2 b o hb (hpast b o hbo e)
    · have hb := hlow b o hbo
      refine ⟨o, (hget b hb).trans hbo, Nat.le_refl _, ?_⟩
      rw [upd_ne _ _ (by omega)]
      cases o with
      | row z g fz xs => exact ⟨fz, xs, g, rfl, fun _ => ⟨rfl, .inr rfl, fun _ h => h⟩⟩
      | map es => exact ⟨⟨es, rfl⟩, .inr rfl⟩
      | iter s p => exact ⟨⟨p, rfl⟩, .inr rfl⟩
  refine ⟨.map (some c), .mp M.length, M ++ [.map es], upd own M.length (.at c), rfl, ⟨fun b hb => ?_, fun b b' d hb hb' => ?_, fun b d o hb hbo => ?_, fun b hb => ?_, fun g cs hg => (hR.glob g cs hg).pass hp⟩, ⟨hp, fun b hb hn => by rw [upd_ne _ _ (by omega)]; exact hn, hkp⟩, .mp _ c es (upd_eq _ _ _) hlast, rfl, rfl⟩
  · rw [List.length_append, List.length_singleton] at hb
    rw [upd_ne _ _ (by omega)]
    exact hR.out b (by omega)
  · by_cases e : b = M.length <;> by_cases e' : b' = M.length
    · rw [e, e']
    · subst e; rw [upd_eq] at hb; cases hb; rw [upd_ne _ _ e'] at hb'; exact (hcn b' c hb' rfl).elim
    · subst e'; rw [upd_eq] at hb'; cases hb'; rw [upd_ne _ _ e] at hb; exact (hcn b c hb rfl).elim
    · rw [upd_ne _ _ e] at hb; rw [upd_ne _ _ e'] at hb'; exact hR.inj b b' d hb hb'
  · by_cases e : b = M.length
    · subst e
      rw [upd_eq] at hb
      cases hb
      rw [hlast] at hbo
      cases hbo
      refine ⟨ents, clock, e1, e2, fun i e k v hi hk => ?_⟩
      obtain ⟨r1, r2⟩ := e3 i e k v hi hk
      have hs := List.all_eq_true.1 hx _ (List.mem_of_getElem? hk)
      cases v with
      | d x =>
        simp only [isScal, Bool.and_eq_true] at hs
        exact ⟨scal_rep r1 hs.1, .d _ _ (scal_rep r2.d_inv hs.2)⟩
      | _ => simp [isScal] at hs
    · rw [upd_ne _ _ e] at hb
      exact (hR.obj b d o hb (hpast b o hbo e)).pass hp (q4 d (hR.lt hb))
  · by_cases e : b = M.length
    · subst e; rw [upd_eq] at hb; cases hb
    · rw [upd_ne _ _ e] at hb
      obtain ⟨z, g, fz, h1, h2⟩ := hR.virt b hb
      exact ⟨z, g, fz, (hget b (hlow b _ h1)).trans h1, h2⟩
end Go.Ab
namespace Go.Ab
variable (P : Program) (GT : Globs)

def kdC (cl : CallF) (g : FuncId) (as : List AV) : Option Kd :=
  if dataL as = true then match cl g as [] with
    | some (.d x, []) => if scal x = true then some (.pure x) else none
    | some (.mp 0, [.map es]) => if es.all isScal = true then some (.mp es) else none
    | _ => none
  else none

noncomputable def xdop (cl : CallF) (o : Oper) (st : AS) : Option (AV × List AObj) :=
  match callOf o.op with
  | some (f, args) => match ev GT st.tmps f with
    | .d (.fn g) => match kdC cl g (args.toList.map fun x => coe (ev GT st.tmps x)) with
      | some (.pure x) => some (.d x, [])
      | some (.mp es) => some (.mp st.heap.length, [.map es])
      | none => none
    | .fn g fs cs => match kdC cl g (fs ++ (args.toList.map fun x => coe (ev GT st.tmps x)) ++ cs) with
      | some (.pure x) => some (.d x, [])
      | _ => none
    | _ => none
  | none => qop P GT st.tmps st.heap o.op

noncomputable def xdstep (cl : CallF) (ops : Array Oper) (o : Oper) (st : AS) : Option (AV × List AObj) := match o.guard with
  | none => xdop P GT cl o st
  | some (j, want) => match gval ops st.tmps j with
    | .d (.bool b) => if b = want then xdop P GT cl o st else some (.tup [], [])
    | .tup [] => some (.tup [], [])
    | _ => none
/-- the quiet operations ahead -/
noncomputable def xrunD (cl : CallF) (ops : Array Oper) : List Oper → AS → List (AV × List AObj)
  | [], _ => []
  | o :: rest, st => match xdstep P GT cl ops o st with
    | some (v, N) => (v, N) :: xrunD cl ops rest (st.put o.dst v (st.heap ++ N))
    | none => []

/-- whichever operation comes up, and every time the same -/
noncomputable def xany (cl : CallF) (ops : Array Oper) : Nat → Array Bool → AS → Option AS
  | 0, l, st => if (Region.ready .any ops l).isEmpty = true then some st else none
  | n + 1, l, st => match (Region.ready .any ops l).find? (takeable ops l) with
    | some f => match ops[f]? with
      | some o => match qop P GT st.tmps st.heap o.op with
        | some (v, N) => xany cl ops n (l.setIfInBounds f true) (st.put o.dst v (st.heap ++ N))
        | none => none
      | none => none
    | none => match Region.ready .any ops l with
      | [] => some st
      | i :: is => match (match ops[i]? with | some o => (xops P GT cl ops [o] st).bind (xany cl ops n (l.setIfInBounds i true)) | none => none) with
        | some r => if (is.all fun j => match (match ops[j]? with | some o => (xops P GT cl ops [o] st).bind (xany cl ops n (l.setIfInBounds j true)) | none => none) with
            | some r' => idemS r' r
            | none => false) = true then some r else none
        | none => none

def floatsOf (ops : Array Oper) (m : Nat) : List Nat := if m = ops.size then [] else (List.range m).filter fun j => !(sweep ops m (odeps ops m)).contains j

noncomputable def xdraw (cl : CallF) : DrawF := fun _ ops st =>
  let rs := xrunD P GT cl ops ops.toList st
  let m := rs.length
  let fl := floatsOf ops m
  if P.follows .mixedOrders = true ∧ drawOK ops m = true ∧ sufOK ops m fl = true ∧ floatOK ops m [] fl = true ∧ (fl = [] ∨ Region.noSelect ops = true) then
    xops P GT cl ops (ops.toList.drop m) (finD (ops.toList.take m) st rs)
  else if P.follows .mixedOrders = true ∧ Region.noSelect ops = true then xany P GT cl ops ops.size (Array.replicate ops.size false) st
  else none

noncomputable def zcall (kn : CallF) (raw : FuncId → Bool) : Nat → CallF
  | 0 => fun _ _ _ => none
  | n + 1 => fun f args H => match kn f args H with
    | some r => some r
    | none => match P.funcs[f]? with
        | some fn => match fn.body with
          | some c => if callable P f = true then match xrun P GT (zcall kn raw n) (xdraw P GT (zcall kn raw n)) n c ⟨enterTmps fn args, H⟩ with
              | some (.normal, st) => match resVs P st fn.results.toList with | some vs => some (if raw f = true then (tupOf vs, st.heap) else purge H (tupOf vs) st.heap) | none => none
              | some (.ret, st) => match resVs P st fn.results.toList with | some vs => some (if raw f = true then (tupOf vs, st.heap) else purge H (tupOf vs) st.heap) | none => none
              | _ => none
            else none
          | none => none
        | none => none

variable {P GT}
/-! soundness -/
mutual
theorem idemD_eq : ∀ (x y : D), idemD x y = true → x = y
  | .int k n, .int k' n', h => by simp only [idemD, Bool.and_eq_true, decide_eq_true_eq] at h; rw [h.1, h.2]
  | .bool b, .bool b', h => by simp only [idemD, beq_iff_eq] at h; rw [h]
  | .str s, .str s', h => by
    simp only [idemD, decide_eq_true_eq] at h
    obtain ⟨⟨l⟩⟩ := s; obtain ⟨⟨l'⟩⟩ := s'
    simp only at h; rw [h]
  | .list xs, .list ys, h => by simp only [idemD] at h; rw [idemDL_eq xs ys h]
  | .agg xs, .agg ys, h => by simp only [idemD] at h; rw [idemDL_eq xs ys h]
  | .fn f, .fn f', h => by simp only [idemD, beq_iff_eq] at h; rw [h]
  | .int .., .bool _, h | .int .., .str _, h | .int .., .list _, h | .int .., .agg _, h | .int .., .fn _, h => by simp [idemD] at h
  | .bool _, .int .., h | .bool _, .str _, h | .bool _, .list _, h | .bool _, .agg _, h | .bool _, .fn _, h => by simp [idemD] at h
  | .str _, .int .., h | .str _, .bool _, h | .str _, .list _, h | .str _, .agg _, h | .str _, .fn _, h => by simp [idemD] at h
  | .list _, .int .., h | .list _, .bool _, h | .list _, .str _, h | .list _, .agg _, h | .list _, .fn _, h => by simp [idemD] at h
  | .agg _, .int .., h | .agg _, .bool _, h | .agg _, .str _, h | .agg _, .list _, h | .agg _, .fn _, h => by simp [idemD] at h
  | .fn _, .int .., h | .fn _, .bool _, h | .fn _, .str _, h | .fn _, .list _, h | .fn _, .agg _, h => by simp [idemD] at h
theorem idemDL_eq : ∀ (x y : List D), idemDL x y = true → x = y
  | [], [], _ => rfl
  | x :: xs, y :: ys, h => by simp only [idemDL, Bool.and_eq_true] at h; rw [idemD_eq x y h.1, idemDL_eq xs ys h.2]
  | [], _ :: _, h => by simp [idemDL] at h
  | _ :: _, [], h => by simp [idemDL] at h
end
mutual
theorem idemA_eq : ∀ (x y : AV), idemA x y = true → x = y := by
  intro x
  cases x with
  | d x => intro y h; cases y <;> simp only [idemA, Bool.false_eq_true] at h; rw [idemD_eq _ _ h]
  | nils => intro y h; cases y <;> simp [idemA] at h; rfl
  | ref b g i n c => intro y h; cases y <;> simp [idemA] at h; obtain ⟨⟨⟨⟨rfl, rfl⟩, rfl⟩, rfl⟩, rfl⟩ := h; rfl
  | ptr b g i f => intro y h; cases y <;> simp [idemA] at h; obtain ⟨⟨⟨rfl, rfl⟩, rfl⟩, rfl⟩ := h; rfl
  | cptr cs => intro y h; cases y <;> simp only [idemA, Bool.false_eq_true] at h; rw [idemDL_eq _ _ h]
  | fn f a c => intro y h; cases y <;> simp only [idemA, Bool.false_eq_true, Bool.and_eq_true, beq_iff_eq] at h; obtain ⟨⟨rfl, h1⟩, h2⟩ := h; rw [idemAL_eq _ _ h1, idemAL_eq _ _ h2]
  | mp b => intro y h; cases y <;> simp [idemA] at h; rw [h]
  | it b => intro y h; cases y <;> simp [idemA] at h; rw [h]
  | agg xs => intro y h; cases y <;> simp only [idemA, Bool.false_eq_true] at h; rw [idemAL_eq _ _ h]
  | tup xs => intro y h; cases y <;> simp only [idemA, Bool.false_eq_true] at h; rw [idemAL_eq _ _ h]
  | np => intro y h; cases y <;> simp [idemA] at h; rfl
  | nf => intro y h; cases y <;> simp [idemA] at h; rfl
  | un => intro y h; cases y <;> simp [idemA] at h; rfl
theorem idemAL_eq : ∀ (x y : List AV), idemAL x y = true → x = y
  | [], [], _ => rfl
  | x :: xs, y :: ys, h => by simp only [idemAL, Bool.and_eq_true] at h; rw [idemA_eq x y h.1, idemAL_eq xs ys h.2]
  | [], _ :: _, h => by simp [idemAL] at h
  | _ :: _, [], h => by simp [idemAL] at h
end
theorem idemE_eq : ∀ (x y : List (D × AV)), idemE x y = true → x = y
  | [], [], _ => rfl
  | (a, b) :: xs, (c, d) :: ys, h => by simp only [idemE, Bool.and_eq_true] at h; rw [idemD_eq a c h.1.1, idemA_eq b d h.1.2, idemE_eq xs ys h.2]
  | [], _ :: _, h => by simp [idemE] at h
  | _ :: _, [], h => by simp [idemE] at h
theorem idemO_eq (x y : AObj) (h : idemO x y = true) : x = y := by
  cases x <;> cases y <;> simp only [idemO, Bool.false_eq_true, Bool.and_eq_true, beq_iff_eq] at h
  · obtain ⟨⟨⟨rfl, rfl⟩, rfl⟩, h⟩ := h; rw [idemAL_eq _ _ h]
  · rw [idemE_eq _ _ h]
  · simp only [decide_eq_true_eq] at h
    rename_i s p s' p'
    obtain ⟨⟨l⟩⟩ := s; obtain ⟨⟨l'⟩⟩ := s'
    simp only at h
    rw [h.1, h.2]
theorem idemOL_eq : ∀ (x y : List AObj), idemOL x y = true → x = y
  | [], [], _ => rfl
  | x :: xs, y :: ys, h => by simp only [idemOL, Bool.and_eq_true] at h; rw [idemO_eq x y h.1, idemOL_eq xs ys h.2]
  | [], _ :: _, h => by simp [idemOL] at h
  | _ :: _, [], h => by simp [idemOL] at h
theorem idemS_eq {s t : AS} (h : idemS s t = true) : s = t := by
  simp only [idemS, Bool.and_eq_true] at h
  obtain ⟨a, b⟩ := s; obtain ⟨c, d⟩ := t
  simp only at h
  rw [idemAL_eq _ _ h.1, idemOL_eq _ _ h.2]

theorem xany_sound {cl : CallF} (hc : CSound P GT cl) {ops : Array Oper} {K : AS → Prop} : ∀ {n : Nat} {l : Array Bool} {st r : AS}, xany P GT cl ops n l st = some r → K r → anyR P GT ops K n l st
  | 0, l, st, r, h, hk => by
    unfold xany at h
    split at h
    · rename_i he; cases h; exact ⟨by simpa using he, hk⟩
    · cases h
  | n + 1, l, st, r, h, hk => by
    unfold xany at h
    unfold anyR
    split at h
    · rename_i f hf
      simp only [hf]
      split at h
      · rename_i o ho
        simp only [ho]
        split at h
        · rename_i v N hq
          exact ⟨v, N, hq, xany_sound hc h hk⟩
        · cases h
      · cases h
    · rename_i hf
      simp only [hf]
      have step : ∀ i r', (match ops[i]? with | some o => (xops P GT cl ops [o] st).bind (xany P GT cl ops n (l.setIfInBounds i true)) | none => none) = some r' → r' = r →
          (match ops[i]? with | some o => aops2 P GT ops [o] (anyR P GT ops K n (l.setIfInBounds i true)) st | none => False) := by
        intro i r' h' e
        rw [e] at h'
        split at h'
        · rename_i o ho
          simp only [Option.bind_eq_some_iff] at h'
          obtain ⟨s, h1, h2⟩ := h'
          exact xops_sound hc h1 (xany_sound hc h2 hk)
        · cases h'
      split at h
      · rename_i hr
        cases h
        exact ⟨fun _ => hk, by rw [hr]; intro i hi; cases hi⟩
      · rename_i i is hr
        split at h
        · rename_i r0 h0
          split at h
          · rename_i hall
            cases h
            refine ⟨fun e => (by rw [hr] at e; cases e), fun j hj => ?_⟩
            rw [hr] at hj
            rcases List.mem_cons.1 hj with e | e
            · subst e; exact step _ _ h0 rfl
            · have h1 := List.all_eq_true.1 hall j e
              split at h1
              · rename_i r' h2; exact step _ _ h2 (idemS_eq h1)
              · cases h1
          · cases h
        · cases h

theorem kdC_sound {cl : CallF} (hc : CSound P GT cl) {g : FuncId} {as : List AV} {k : Kd} (h : kdC cl g as = some k) (M : List AObj) : match k with
    | .pure x => ACalls P GT g as M fun a K => a = .d x ∧ K = M
    | .mp es => (∀ e ∈ es, ∃ x, e.2 = .d x) ∧ ACalls P GT g as M fun a K => a = .mp M.length ∧ K = M ++ [.map es] := by
  unfold kdC at h
  split at h
  · rename_i hd
    split at h
    · rename_i x hx
      split at h
      · rename_i hs; cases h; exact lift_scal (hc _ _ _ _ _ hx) hd hs M
      · cases h
    · rename_i es hx
      split at h
      · rename_i hs
        cases h
        refine ⟨fun e he => ?_, lift_map (hc _ _ _ _ _ hx) hd hs M⟩
        have := List.all_eq_true.1 hs e he
        obtain ⟨k, v⟩ := e
        cases v with
        | d x => exact ⟨x, rfl⟩
        | _ => simp [isScal] at this
      · cases h
    · cases h
  · cases h

theorem xdop_sound {cl : CallF} (hc : CSound P GT cl) {o : Oper} {st : AS} {v : AV} {N : List AObj} (h : xdop P GT cl o st = some (v, N)) : DOp P GT o st v N := by
  unfold xdop at h
  split at h
  · rename_i f args hcal
    split at h
    · rename_i g hg
      split at h
      · rename_i x hk
        cases h
        exact .inr (.inl ⟨rfl, f, args, hcal, g, [], [], .inl ⟨hg, rfl, rfl⟩, fun M => by simpa using kdC_sound hc hk (st.heap ++ M)⟩)
      · rename_i es hk
        cases h
        exact .inr (.inr ⟨es, rfl, rfl, (kdC_sound hc hk []).1, f, args, hcal, g, hg, fun M => (kdC_sound hc hk (st.heap ++ M)).2⟩)
      · cases h
    · rename_i g fs cs hg
      split at h
      · rename_i x hk
        cases h
        exact .inr (.inl ⟨rfl, f, args, hcal, g, fs, cs, .inr hg, fun M => kdC_sound hc hk (st.heap ++ M)⟩)
      · cases h
    · cases h
  · rename_i hcal; exact .inl ⟨hcal, h⟩

theorem xrunD_sound {cl : CallF} (hc : CSound P GT cl) {ops : Array Oper} : ∀ {l : List Oper} {st : AS}, runD P GT ops (l.take (xrunD P GT cl ops l st).length) st (xrunD P GT cl ops l st)
  | [], st => rfl
  | o :: rest, st => by
    unfold xrunD
    split
    · rename_i v N hv
      refine ⟨v, N, _, rfl, ?_, xrunD_sound hc⟩
      unfold xdstep at hv
      unfold DStep
      split at hv
      · rename_i hg; simp only [hg]; exact xdop_sound hc hv
      · rename_i j want hg
        simp only [hg]
        split at hv
        · rename_i b hb
          simp only [hb]
          split at hv
          · rename_i e; rw [if_pos e]; exact xdop_sound hc hv
          · rename_i e; rw [if_neg e]; cases hv; exact ⟨rfl, rfl⟩
        · rename_i hb; simp only [hb]; cases hv; exact ⟨rfl, rfl⟩
        · cases hv
    · exact rfl
theorem xrunD_len {cl : CallF} {ops : Array Oper} : ∀ {l : List Oper} {st : AS}, (xrunD P GT cl ops l st).length ≤ l.length
  | [], st => Nat.le_refl _
  | o :: rest, st => by
    unfold xrunD
    split
    · simp only [List.length_cons]; exact Nat.succ_le_succ xrunD_len
    · simp

theorem xdraw_sound {cl : CallF} (hc : CSound P GT cl) : DSound P GT (xdraw P GT cl) := by
  intro id ops st st' h
  unfold xdraw at h
  simp only at h
  split at h
  · rename_i hcond
    obtain ⟨h1, h2, h3, h4, h5⟩ := hcond
    have hrun := xrunD_sound hc (ops := ops) (l := ops.toList) (st := st)
    have hle := xrunD_len (P := P) (GT := GT) (cl := cl) (ops := ops) (l := ops.toList) (st := st)
    generalize xrunD P GT cl ops ops.toList st = rs at *
    have hfin := finD_eq (ops := ops) (m := rs.length) (st := st) (rs := rs) (ops.toList.take rs.length) [] [] rs (by simp) rfl rfl (by rw [List.length_take]; omega)
    have hlen : (ops.toList.take rs.length).length = rs.length := by rw [List.length_take]; omega
    simp only [List.nil_append, List.length_nil, hlen] at hfin
    have hst : (⟨tmS st.tmps ops rs (fun _ => true) 0, heapS st.heap rs 0⟩ : AS) = st := by simp [tmS, heapS]
    rw [hst] at hfin
    rw [hfin] at h
    exact draw_sound (id := id) h1 h2 h3 h4 h5 hrun (xops_sound hc h rfl)
  · split at h
    · rename_i hcond
      exact any_sound hcond.1 hcond.2 (xany_sound hc h rfl)
    · cases h

theorem zcall_sound {kn : CallF} {raw : FuncId → Bool} (hk : CSound P GT kn) : ∀ n, CSound P GT (zcall P GT kn raw n)
  | 0 => fun g args H v H' h => by simp [zcall] at h
  | n + 1 => fun g args H v H' h => by
    unfold zcall at h
    split at h
    · rename_i r hr
      cases h
      exact hk _ _ _ _ _ hr
    · split at h
      · rename_i fn hf
        split at h
        · rename_i c hb
          split at h
          · rename_i hcal
            have ih := zcall_sound (raw := raw) hk n
            refine acalls_enter hf hb hcal _ (.refl _ _) ?_
            have fin : ∀ {st : AS} {vs}, resVs P st fn.results.toList = some vs → some (if raw g = true then (tupOf vs, st.heap) else purge H (tupOf vs) st.heap) = some (v, H') → ∃ vs, resVs P st fn.results.toList = some vs ∧ ∃ H2 v2, (v2 = v ∧ H2 = H') ∧
                ∀ (w0 w : World) (own0 own : Nat → Slot), RelH GT w0.heap own0 H → RelH GT w.heap own st.heap → Mv w0 own0 H w own st.heap → ∃ own2, RelH GT w.heap own2 H2 ∧ Mv w0 own0 H w own2 H2 ∧ ∀ cv, VR w own st.heap cv (tupOf vs) → VR w own2 H2 cv v2 := by
              intro st vs h1 h2
              have plain : some (tupOf vs, st.heap) = some (v, H') → ∃ vs, resVs P st fn.results.toList = some vs ∧ ∃ H2 v2, (v2 = v ∧ H2 = H') ∧
                ∀ (w0 w : World) (own0 own : Nat → Slot), RelH GT w0.heap own0 H → RelH GT w.heap own st.heap → Mv w0 own0 H w own st.heap → ∃ own2, RelH GT w.heap own2 H2 ∧ Mv w0 own0 H w own2 H2 ∧ ∀ cv, VR w own st.heap cv (tupOf vs) → VR w own2 H2 cv v2 := fun h2 => by
                cases h2
                exact ⟨vs, h1, st.heap, tupOf vs, ⟨rfl, rfl⟩, fun w0 w own0 own _ hr hm => ⟨own, hr, hm, fun cv hv => hv⟩⟩
              split at h2
              · exact plain h2
              · unfold purge at h2
                split at h2
                · rename_i hkp
                  split at h2
                  · rename_i x hx
                    cases h2
                    unfold keepsB at hkp
                    simp only [Bool.and_eq_true, beq_iff_eq, List.all_eq_true] at hkp
                    obtain ⟨k1, k2⟩ := hkp
                    have hsplit : st.heap = st.heap.take H.length ++ st.heap.drop H.length := (List.take_append_drop _ _).symm
                    have hkeep : Keeps H (st.heap.take H.length) := ⟨k1, fun b o ho => .inr (by exact k2 o (List.mem_of_getElem? ho))⟩
                    refine ⟨vs, h1, st.heap.take H.length, v, ⟨rfl, rfl⟩, fun w0 w own0 own r0 r1 hm => ?_⟩
                    rw [hsplit] at r1 hm
                    obtain ⟨q1, q2, q3⟩ := drop_rel r0 r1 hm hkeep
                    refine ⟨cut (st.heap.take H.length).length own, q1, q2, fun cv hv => ?_⟩
                    rw [hsplit] at hx
                    rw [hsplit] at hv
                    refine pureR_rep r1 (fun c hc => still_cut hc) (fun b c hok ho => gone_still r1 ?_ ho) hv hx
                    rw [k1]; exact hok
                  · exact plain h2
                · exact plain h2
            split at h
            · rename_i st hx
              split at h
              · rename_i vs hv
                exact xrun_sound ih (xdraw_sound ih) c hx (fin hv h)
              · cases h
            · rename_i st hx
              split at h
              · rename_i vs hv
                exact xrun_sound ih (xdraw_sound ih) c hx (fin hv h)
              · cases h
            · cases h
          · cases h
        · cases h
      · cases h
end Go.Ab
