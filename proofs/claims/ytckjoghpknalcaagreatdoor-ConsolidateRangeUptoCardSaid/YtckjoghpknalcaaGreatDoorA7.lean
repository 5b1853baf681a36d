/- The run laid out for rewriting: frames as lists of what is known, one rule an operation. One rule an operation. Rows that nobody writes any more are data: results of functions. What every datum keeps to; a call's arguments may be taken to keep to it. Rules for values: loads, fields, elements, rows, stores. -/
import Derived.Test.YtckjoghpknalcaaGreatDoorA3
import Derived.IntWalk
set_option linter.unusedVariables false
set_option linter.unusedSimpArgs false
set_option linter.unnecessarySimpa false
namespace Go.Ab

universe u
variable {P : Program} {GT : Globs}

/-- an equation that a rewriting is to name -/
theorem pf {α : Sort u} {a b : α} (h : a = b) : a = b := h

/-! monotony -/
theorem aop_mono {o : Oper} {K K' : AS → Prop} (h : ∀ st, K st → K' st) {st : AS} (hp : aop P GT o K st) : aop P GT o K' st := by
  unfold aop at hp ⊢
  split at hp
  · split at hp
    · exact hp.mono fun _ _ => h _
    · exact hp.mono fun _ _ => h _
    · exact hp.elim
  · split at hp
    · exact h _ hp
    · split at hp
      · exact h _ hp
      · split at hp
        · exact fun v hv => h _ (hp v hv)
        · exact hp.elim

theorem aopB_mono {o : Oper} {K K' : AS → Prop} (h : ∀ st, K st → K' st) {st : AS} (hp : aopB P GT o K st) : aopB P GT o K' st := by
  rcases hp with hp | ⟨hb, hp⟩ | ⟨hb, hp⟩
  · exact .inl (aop_mono h hp)
  · exact .inr (.inl ⟨hb, aop_mono (fun st' ⟨v, N, x, h1, h2, h3⟩ => ⟨v, N, x, h1, h2, h _ h3⟩) hp⟩)
  · exact .inr (.inr ⟨hb, aop_mono (fun st' ⟨z, h1, h2, h3⟩ => ⟨z, h1, h2, h _ h3⟩) hp⟩)

theorem aops_mono {ops : Array Oper} {K K' : AS → Prop} (h : ∀ st, K st → K' st) : ∀ {l : List Oper} {st : AS}, aops2 P GT ops l K st → aops2 P GT ops l K' st
  | [], _, hp => h _ hp
  | o :: rest, st, hp => by
    unfold aops2 at hp ⊢
    split at hp
    · exact aopB_mono (fun _ h' => aops_mono h h') hp
    · split at hp
      · split at hp
        · rename_i hb; rw [if_pos hb]; exact aopB_mono (fun _ h' => aops_mono h h') hp
        · rename_i hb; rw [if_neg hb]; exact aops_mono h hp
      · exact aops_mono h hp
      · exact hp.elim

theorem aw_mono : ∀ {c : Code} {Q Q' : Exit → AS → Prop}, (∀ e st, Q e st → Q' e st) → ∀ {st : AS}, aw P GT c Q st → aw P GT c Q' st
  | .skip, _, _, h, _, hp => h _ _ hp
  | .label _, _, _, h, _, hp => h _ _ hp
  | .exit _, _, _, h, _, hp => h _ _ hp
  | .goto _, _, _, h, _, hp => h _ _ hp
  | .ret, _, _, h, _, hp => h _ _ hp
  | .seq a b, Q, Q', h, st, hp => by
    unfold aw at hp ⊢
    refine aw_mono (fun e st' he => ?_) hp
    cases e with
    | normal => exact aw_mono h he
    | _ => exact h _ _ he
  | .region id ops true, Q, Q', h, st, hp => by
    unfold aw at hp ⊢
    intro own a w hS
    refine wp_mono (hp own a w hS) ?_
    rintro e a' w' ⟨h1, own', st', h2, h3, h4⟩
    exact ⟨h1, own', st', h2, h3, h _ _ h4⟩
  | .region id ops false, Q, Q', h, st, hp => by
    unfold aw at hp ⊢
    exact aops_mono (fun st' => h _ _) hp
  | .cond c a b, Q, Q', h, st, hp => by
    unfold aw at hp ⊢
    split at hp
    · rename_i t _
      cases t with
      | true => exact aw_mono h hp
      | false => exact aw_mono h hp
    · exact hp.elim
  | .block id c, Q, Q', h, st, hp => by
    unfold aw at hp ⊢
    refine aw_mono (fun e st' he => ?_) hp
    cases e with
    | exit id' =>
      simp only at he ⊢
      by_cases hid : id' = id
      · rw [if_pos hid] at he ⊢; exact h _ _ he
      · rw [if_neg hid] at he ⊢; exact h _ _ he
    | _ => exact h _ _ he
  | .loop c, Q, Q', h, st, hp => by
    unfold aw at hp ⊢
    obtain ⟨st1, hd1, ι, I, μ, i0, h0, hstep⟩ := hp
    refine ⟨st1, hd1, ι, I, μ, i0, h0, fun i => aw_mono (fun e st' he => ?_) (hstep i)⟩
    cases e with
    | normal => exact he
    | _ => obtain ⟨st3, h1, h2⟩ := he; exact ⟨st3, h1, h _ _ h2⟩
  | .rangeFunc .., _, _, _, _, hp => hp.elim
  | .scope _, _, _, _, _, hp => hp.elim
  | .refuse _, _, _, _, _, hp => hp.elim

/-! frames -/
def eget : List (Nat × AV) → Nat → AV
  | [], _ => .un
  | (a, v) :: l, t => if a = t then v else eget l t
@[go_sem] theorem eget_hit (a : Nat) (v : AV) (l : List (Nat × AV)) : eget ((a, v) :: l) a = v := by simp [eget]
@[go_sem] theorem eget_miss (a t : Nat) (v : AV) (l : List (Nat × AV)) (h : (a == t) = false) : eget ((a, v) :: l) t = eget l t := by
  simp only [beq_eq_false_iff_ne, ne_eq] at h; simp [eget, h]
@[go_sem] theorem eget_nil (t : Nat) : eget [] t = .un := pf rfl

def E (n : Nat) (l : List (Nat × AV)) : List AV := (List.range n).map (eget l)
@[go_sem] theorem E_length (n : Nat) (l : List (Nat × AV)) : (E n l).length = n := by simp [E]
theorem lget_eq : ∀ (l : List AV) (t : Nat), lget l t = (l[t]?).getD .un
  | [], _ => by simp [lget_nil, lget_cz, lget_cs]
  | a :: l, 0 => by simp [lget_nil, lget_cz, lget_cs]
  | a :: l, t + 1 => by simp [lget_nil, lget_cz, lget_cs, lget_eq l t]
theorem lget_E (n : Nat) (l : List (Nat × AV)) (t : Nat) : lget (E n l) t = if t < n then eget l t else .un := by
  rw [lget_eq]
  by_cases h : t < n
  · simp [E, h]
  · simp only [E, if_neg h]
    rw [List.getElem?_eq_none (by simpa using h)]; rfl
theorem list_ext_lget {l m : List AV} (hl : l.length = m.length) (h : ∀ t, t < l.length → lget l t = lget m t) : l = m := by
  apply List.ext_getElem hl
  intro i h1 h2
  have := h i h1
  rw [lget_eq, lget_eq, List.getElem?_eq_getElem h1, List.getElem?_eq_getElem h2] at this
  simpa using this
theorem lset_E (n : Nat) (l : List (Nat × AV)) (d : Nat) (v : AV) : lset (E n l) d v = E n ((d, v) :: l) := by
  refine list_ext_lget (by simp [lset_length, E_length]) fun t ht => ?_
  rw [lset_length, E_length] at ht
  by_cases h : d = t
  · subst h
    rw [lget_lset_eq _ _ _ (by rw [E_length]; exact ht), lget_E, if_pos ht, eget_hit]
  · rw [lget_lset_ne _ _ _ _ h, lget_E, lget_E, if_pos ht, if_pos ht]
    simp [eget, h]

/-- entries of a call's arguments -/
def ents : Nat → List AV → List (Nat × AV)
  | _, [] => []
  | k, a :: l => (k, a) :: ents (k + 1) l

theorem eget_ents : ∀ (l : List AV) (k t : Nat), eget (ents k l) t = if k ≤ t then lget l (t - k) else .un
  | [], k, t => by simp [ents, eget, lget_nil, lget_cz, lget_cs]
  | a :: l, k, t => by
    simp only [ents, eget]
    by_cases h : k = t
    · subst h; simp [lget_nil, lget_cz, lget_cs]
    · rw [if_neg h, eget_ents l (k + 1) t]
      by_cases h2 : k + 1 ≤ t
      · rw [if_pos h2, if_pos (by omega)]
        obtain ⟨m, rfl⟩ : ∃ m, t = k + 1 + m := ⟨t - (k + 1), by omega⟩
        rw [show k + 1 + m - (k + 1) = m by omega, show k + 1 + m - k = m + 1 by omega]; rfl
      · rw [if_neg h2, if_neg (by omega)]

/-! a smaller state is reached by forgetting -/
theorem drop_enter (fn : Func) (args : List AV) (H : List AObj) (h : args.length ≤ fn.ntmps) : Drop ⟨enterTmps fn args, H⟩ ⟨enterTmps fn args, H⟩ ⟨E fn.ntmps (ents 0 args), H⟩ := by
  refine ⟨by simp [E_length, enterTmps]; omega, .inl ⟨rfl, fun t => ?_⟩⟩
  simp only
  rw [lget_E, eget_ents]
  by_cases ht : t < fn.ntmps
  · rw [if_pos ht, if_pos (Nat.zero_le _), Nat.sub_zero]
    by_cases ha : t < args.length
    · right
      rw [lget_eq, lget_eq, enterTmps, List.getElem?_append_left ha]
    · left; exact lget_ge _ _ (by omega)
  · left; rw [if_neg ht]

def held (l : List (Nat × AV)) : List (Nat × AV) → Prop
  | [] => True
  | (t, v) :: r => eget l t = v ∧ held l r
theorem eget_held {l : List (Nat × AV)} : ∀ {l3 : List (Nat × AV)}, held l l3 → ∀ t, eget l3 t = .un ∨ eget l3 t = eget l t
  | [], _, t => .inl rfl
  | (a, v) :: r, h, t => by
    simp only [eget]
    by_cases e : a = t
    · subst e; rw [if_pos rfl]; exact .inr h.1.symm
    · rw [if_neg e]; exact eget_held h.2 t

theorem drop_E {st0 : AS} {n : Nat} {l l3 : List (Nat × AV)} {H : List AObj} (h : held l l3) : Drop st0 ⟨E n l, H⟩ ⟨E n l3, H⟩ := by
  refine ⟨by simp [E_length], .inl ⟨rfl, fun t => ?_⟩⟩
  simp only [lget_E]
  split
  · exact eget_held h t
  · exact .inl rfl

def held2 (m : Nat) (l : List (Nat × AV)) : List (Nat × AV) → Prop
  | [] => True
  | (t, v) :: r => eget l t = v ∧ cloA m v = true ∧ held2 m l r
theorem eget_held2 {m : Nat} {l : List (Nat × AV)} : ∀ {l3 : List (Nat × AV)}, held2 m l l3 → ∀ t, eget l3 t = .un ∨ (eget l3 t = eget l t ∧ cloA m (eget l3 t) = true)
  | [], _, t => .inl rfl
  | (a, v) :: r, h, t => by
    simp only [eget]
    by_cases e : a = t
    · subst e; rw [if_pos rfl]; exact .inr ⟨h.1.symm, h.2.1⟩
    · rw [if_neg e]; exact eget_held2 h.2.2 t

theorem drop_E2 {st0 : AS} {n : Nat} {l l3 : List (Nat × AV)} {H3 L : List AObj} (hk : Keeps st0.heap H3) (h : held2 H3.length l l3) : Drop st0 ⟨E n l, H3 ++ L⟩ ⟨E n l3, H3⟩ := by
  refine ⟨by simp [E_length], .inr (.inl ⟨⟨L, rfl⟩, hk, fun t => ?_⟩)⟩
  simp only [lget_E]
  split
  · exact eget_held2 h t
  · exact .inl rfl

/-- nil slices become rows of one's own that lie nowhere yet -/
def heldV (m k : Nat) (l : List (Nat × AV)) : List (Nat × AV) → Prop
  | [] => True
  | (t, v) :: r => (eget l t = v ∨ eget l t = .nils ∧ ∃ j, j < k ∧ v = .ref (m + j) 0 0 0 none) ∧ heldV m k l r
theorem eget_heldV {m k : Nat} {l : List (Nat × AV)} : ∀ {l3 : List (Nat × AV)}, heldV m k l l3 → ∀ t, eget l3 t = .un ∨ eget l3 t = eget l t ∨ (eget l t = .nils ∧ ∃ j, j < k ∧ eget l3 t = .ref (m + j) 0 0 0 none)
  | [], _, t => .inl rfl
  | (a, v) :: r, h, t => by
    simp only [eget]
    by_cases e : a = t
    · subst e
      rw [if_pos rfl]
      rcases h.1 with h1 | ⟨h1, j, hj, h2⟩
      · exact .inr (.inl h1.symm)
      · exact .inr (.inr ⟨h1, j, hj, h2⟩)
    · rw [if_neg e]; exact eget_heldV h.2 t
theorem drop_V {st0 : AS} {n : Nat} {l l3 : List (Nat × AV)} {H : List AObj} (zs : List Nat) (hz : ∀ z ∈ zs, 0 < z) (h : heldV H.length zs.length l l3) : Drop st0 ⟨E n l, H⟩ ⟨E n l3, H ++ zs.map fun z => .row z 0 false []⟩ := by
  refine ⟨by simp [E_length], .inr (.inr ⟨zs, hz, rfl, fun t => ?_⟩)⟩
  simp only [lget_E]
  split
  · exact eget_heldV h t
  · exact .inl rfl

/-! what follows a piece of code -/
def seqQ (B : AS → Prop) (Q : Exit → AS → Prop) : Exit → AS → Prop := fun e st => match e with | .normal => B st | e => Q e st
def blkQ (id : Nat) (Q : Exit → AS → Prop) : Exit → AS → Prop := fun e st => match e with | .exit id' => if id' = id then Q .normal st else Q (.exit id') st | e => Q e st
/-- behind a turn of a loop -/
def loopQ {ι : Type} (st0 : AS) (I : ι → AS) (μ : ι → Nat) (i : ι) (Q : Exit → AS → Prop) : Exit → AS → Prop := fun e st => match e with
  | .normal => ∃ j, μ j < μ i ∧ Drop st0 st (I j)
  | e => Q e st

@[go_sem] theorem seqQ_normal (B : AS → Prop) (Q : Exit → AS → Prop) (st : AS) : seqQ B Q .normal st = B st := pf rfl
@[go_sem] theorem seqQ_ret (B : AS → Prop) (Q : Exit → AS → Prop) (st : AS) : seqQ B Q .ret st = Q .ret st := pf rfl
@[go_sem] theorem seqQ_exit (B : AS → Prop) (Q : Exit → AS → Prop) (st : AS) (i : Nat) : seqQ B Q (.exit i) st = Q (.exit i) st := pf rfl
@[go_sem] theorem seqQ_goto (B : AS → Prop) (Q : Exit → AS → Prop) (st : AS) (i) : seqQ B Q (.goto i) st = Q (.goto i) st := pf rfl
@[go_sem] theorem blkQ_normal (i : Nat) (Q : Exit → AS → Prop) (st : AS) : blkQ i Q .normal st = Q .normal st := pf rfl
@[go_sem] theorem blkQ_ret (i : Nat) (Q : Exit → AS → Prop) (st : AS) : blkQ i Q .ret st = Q .ret st := pf rfl
@[go_sem] theorem blkQ_goto (i : Nat) (Q : Exit → AS → Prop) (st : AS) (l) : blkQ i Q (.goto l) st = Q (.goto l) st := pf rfl
@[go_sem] theorem blkQ_exit (i : Nat) (Q : Exit → AS → Prop) (st : AS) : blkQ i Q (.exit i) st = Q .normal st := by simp [blkQ]
@[go_sem] theorem blkQ_exit' (i j : Nat) (Q : Exit → AS → Prop) (st : AS) (h : (j == i) = false) : blkQ i Q (.exit j) st = Q (.exit j) st := by
  simp only [beq_eq_false_iff_ne, ne_eq] at h; simp [blkQ, h]
@[go_sem] theorem loopQ_normal {ι : Type} (st0 : AS) (I : ι → AS) (μ : ι → Nat) (i : ι) (Q : Exit → AS → Prop) (st : AS) : loopQ st0 I μ i Q .normal st = ∃ j, μ j < μ i ∧ Drop st0 st (I j) := pf rfl
@[go_sem] theorem loopQ_ret {ι : Type} (st0 : AS) (I : ι → AS) (μ : ι → Nat) (i : ι) (Q : Exit → AS → Prop) (st : AS) : loopQ st0 I μ i Q .ret st = Q .ret st := pf rfl
@[go_sem] theorem loopQ_exit {ι : Type} (st0 : AS) (I : ι → AS) (μ : ι → Nat) (i : ι) (Q : Exit → AS → Prop) (st : AS) (k : Nat) : loopQ st0 I μ i Q (.exit k) st = Q (.exit k) st := pf rfl

/-- a branch; what follows is held back until the branch is decided -/
def branch (v : AV) (A B : AS → Prop) (st : AS) : Prop := match v with | .d (.bool t) => if t then A st else B st | _ => False
def branchP (p : Prop) (A B : AS → Prop) (st : AS) : Prop := (p → A st) ∧ (¬p → B st)
@[go_sem] theorem branch_true (A B : AS → Prop) (st : AS) : branch (.d (.bool true)) A B st = A st := pf rfl
@[go_sem] theorem branch_false (A B : AS → Prop) (st : AS) : branch (.d (.bool false)) A B st = B st := pf rfl
theorem branch_bool (b : Bool) (A B : AS → Prop) (st : AS) : branch (.d (.bool b)) A B st = branchP (b = true) A B st := by cases b <;> simp [branch, branchP]
@[go_sem] theorem branch_decide (p : Prop) [Decidable p] (A B : AS → Prop) (st : AS) : branch (.d (.bool (decide p))) A B st = branchP p A B st := by rw [branch_bool]; simp
@[go_sem] theorem branch_not (b : Bool) (A B : AS → Prop) (st : AS) : branch (.d (.bool (!b))) A B st = branch (.d (.bool b)) B A st := by cases b <;> rfl
@[go_sem] theorem branchP_true (A B : AS → Prop) (st : AS) : branchP True A B st = A st := by simp [branchP]
@[go_sem] theorem branchP_false (A B : AS → Prop) (st : AS) : branchP False A B st = B st := by simp [branchP]
@[go_sem] theorem branchP_not (p : Prop) (A B : AS → Prop) (st : AS) : branchP (¬p) A B st = branchP p B A st := by
  unfold branchP; apply propext; constructor
  · rintro ⟨h1, h2⟩; exact ⟨fun h => h2 fun hn => hn h, h1⟩
  · rintro ⟨h1, h2⟩; exact ⟨h2, fun h => h1 (Classical.not_not.1 h)⟩

/-! a region, operation by operation -/
def dget : List (Nat × Tmp) → Nat → Option Tmp
  | [], _ => none
  | (a, v) :: l, t => if a = t then some v else dget l t

def gate (v : AV) (want : Bool) (A B : AS → Prop) (st : AS) : Prop := match v with | .d (.bool b) => if b = want then A st else B st | .tup [] => B st | _ => False
@[go_sem] theorem gate_t (b : Bool) (A B : AS → Prop) (st : AS) : gate (.d (.bool b)) true A B st = branch (.d (.bool b)) A B st := by cases b <;> simp [gate, branch]
@[go_sem] theorem gate_f (b : Bool) (A B : AS → Prop) (st : AS) : gate (.d (.bool b)) false A B st = branch (.d (.bool b)) B A st := by cases b <;> simp [gate, branch]
@[go_sem] theorem gate_none (w : Bool) (A B : AS → Prop) (st : AS) : gate (.tup []) w A B st = B st := pf rfl
/-- an operation that is not run -/
def skipd (d : Option Tmp) (F : AS → Prop) (st : AS) : Prop := F (st.put d (.tup []) st.heap)

def putd (st : AS) (d : Option Tmp) (v : AV) : AS := st.put d v st.heap

/-- the operations from here on; ds: where the earlier ones put what they yielded, the latest first, k of them -/
def reg (P : Program) (GT : Globs) (ds : List (Nat × Tmp)) (k : Nat) : List Oper → (AS → Prop) → AS → Prop
  | [], K, st => K st
  | o :: rest, K, st => match o.guard with
    | none => aopB P GT o (reg P GT (match o.dst with | some d => (k, d) :: ds | none => ds) (k + 1) rest K) st
    | some (j, want) => match dget ds j with
      | some t => gate (lget st.tmps t) want (aopB P GT o (reg P GT (match o.dst with | some d => (k, d) :: ds | none => ds) (k + 1) rest K))
          (skipd o.dst (reg P GT (match o.dst with | some d => (k, d) :: ds | none => ds) (k + 1) rest K)) st
      | none => False

theorem reg_sound {ops : Array Oper} : ∀ {rest pre : List Oper} {ds : List (Nat × Tmp)} {K : AS → Prop} {st : AS}, ops.toList = pre ++ rest → (∀ j t, dget ds j = some t → (ops[j]?).bind (·.dst) = some t) →
    reg P GT ds pre.length rest K st → aops2 P GT ops rest K st
  | [], pre, ds, K, st, he, hd, h => h
  | o :: rest, pre, ds, K, st, he, hd, h => by
    have ho : ops[pre.length]? = some o := by
      rw [← Array.getElem?_toList, he, List.getElem?_append_right (Nat.le_refl _)]; simp
    have hd' : ∀ j t, dget (match o.dst with | some d => (pre.length, d) :: ds | none => ds) j = some t → (ops[j]?).bind (·.dst) = some t := by
      intro j t hj
      split at hj
      · rename_i d hdst
        simp only [dget] at hj
        split at hj
        · rename_i e; subst e; cases hj; rw [ho]; exact hdst
        · exact hd j t hj
      · exact hd j t hj
    have next : ∀ st', reg P GT (match o.dst with | some d => (pre.length, d) :: ds | none => ds) (pre.length + 1) rest K st' → aops2 P GT ops rest K st' := fun st' h' =>
      reg_sound (pre := pre ++ [o]) (by simp [he]) hd' (by simpa using h')
    unfold reg at h
    unfold aops2
    split at h
    · rename_i hg; (try simp only [hg]); exact aopB_mono next h
    · rename_i j want hg
      try simp only [hg]
      split at h
      · rename_i t ht
        have hgv : gval ops st.tmps j = lget st.tmps t := by unfold gval; rw [hd j t ht]
        rw [hgv]
        unfold gate at h
        split at h
        · rename_i b hb
          simp only [hb]
          by_cases hbw : b = want
          · rw [if_pos hbw] at h ⊢; exact aopB_mono next h
          · rw [if_neg hbw] at h ⊢; exact next _ h
        · rename_i hb; simp only [hb]; exact next _ h
        · exact h.elim
      · exact h.elim

/-! THE RUN, laid out -/
def ab (P : Program) (GT : Globs) : Code → (Exit → AS → Prop) → AS → Prop
  | .skip, Q, st => Q .normal st
  | .label _, Q, st => Q .normal st
  | .exit id, Q, st => Q (.exit id) st
  | .goto l, Q, st => Q (.goto l) st
  | .ret, Q, st => Q .ret st
  | .seq a b, Q, st => ab P GT a (seqQ (ab P GT b Q) Q) st
  | .region id ops true, Q, st => ADraw P GT id ops (Q .normal) st
  | .region _ ops false, Q, st => reg P GT [] 0 ops.toList (Q .normal) st
  | .cond c a b, Q, st => branch (ev GT st.tmps c) (ab P GT a Q) (ab P GT b Q) st
  | .block id c, Q, st => ab P GT c (blkQ id Q) st
  | .loop c, Q, st => ∃ st1, Drop st st st1 ∧ ∃ (ι : Type) (I : ι → AS) (μ : ι → Nat) (i0 : ι), Drop st1 st1 (I i0) ∧ ∀ i, ab P GT c (loopQ st1 I μ i Q) (I i)
  | _, _, _ => False

theorem ab_sound : ∀ {c : Code} {Q : Exit → AS → Prop} {st : AS}, ab P GT c Q st → aw P GT c Q st
  | .skip, _, _, h => h
  | .label _, _, _, h => h
  | .exit _, _, _, h => h
  | .goto _, _, _, h => h
  | .ret, _, _, h => h
  | .seq a b, Q, st, h => by
    unfold aw
    refine aw_mono (fun e st' he => ?_) (ab_sound (c := a) h)
    cases e with
    | normal => exact ab_sound (c := b) he
    | _ => exact he
  | .region id ops true, Q, st, h => h
  | .region id ops false, Q, st, h => reg_sound (pre := []) rfl (fun j t h => by simp [dget] at h) h
  | .cond c a b, Q, st, h => by
    unfold ab branch at h
    unfold aw
    split at h
    · rename_i t he
      try simp only [he]
      cases t with
      | true => exact ab_sound (c := a) h
      | false => exact ab_sound (c := b) h
    · exact h.elim
  | .block id c, Q, st, h => by
    unfold aw
    exact aw_mono (fun e st' he => he) (ab_sound (c := c) h)
  | .loop c, Q, st, h => by
    unfold ab at h
    obtain ⟨st1, hd1, ι, I, μ, i0, h0, hs⟩ := h
    unfold aw
    refine ⟨st1, hd1, ι, I, μ, i0, h0, fun i => aw_mono (fun e st' he => ?_) (ab_sound (c := c) (hs i))⟩
    cases e with
    | normal => exact he
    | _ => exact ⟨st', .refl _ _, he⟩
  | .rangeFunc .., _, _, h => h.elim
  | .scope _, _, _, h => h.elim
  | .refuse _, _, _, h => h.elim

@[go_sem] theorem ab_skip (Q : Exit → AS → Prop) (st : AS) : ab P GT .skip Q st = Q .normal st := pf rfl
@[go_sem] theorem ab_label (l) (Q : Exit → AS → Prop) (st : AS) : ab P GT (.label l) Q st = Q .normal st := pf rfl
@[go_sem] theorem ab_exit (i) (Q : Exit → AS → Prop) (st : AS) : ab P GT (.exit i) Q st = Q (.exit i) st := pf rfl
@[go_sem] theorem ab_goto (i) (Q : Exit → AS → Prop) (st : AS) : ab P GT (.goto i) Q st = Q (.goto i) st := pf rfl
@[go_sem] theorem ab_ret (Q : Exit → AS → Prop) (st : AS) : ab P GT .ret Q st = Q .ret st := pf rfl
@[go_sem] theorem ab_seq (a b : Code) (Q : Exit → AS → Prop) (st : AS) : ab P GT (.seq a b) Q st = ab P GT a (seqQ (ab P GT b Q) Q) st := pf rfl
@[go_sem] theorem ab_block (i : Nat) (c : Code) (Q : Exit → AS → Prop) (st : AS) : ab P GT (.block i c) Q st = ab P GT c (blkQ i Q) st := pf rfl
@[go_sem] theorem ab_cond (c : Operand) (a b : Code) (Q : Exit → AS → Prop) (tm : List AV) (H : List AObj) : ab P GT (.cond c a b) Q ⟨tm, H⟩ = branch (ev GT tm c) (ab P GT a Q) (ab P GT b Q) ⟨tm, H⟩ := pf rfl
@[go_sem] theorem ab_region (id : Nat) (ops : List Oper) (Q : Exit → AS → Prop) (st : AS) : ab P GT (.region id ops.toArray false) Q st = reg P GT [] 0 ops (Q .normal) st := pf rfl
/-- THE LOOP -/
theorem ab_loop {ι : Type} (I : ι → AS) (μ : ι → Nat) (i0 : ι) {c : Code} {Q : Exit → AS → Prop} {st : AS} (h0 : Drop st st (I i0)) (h : ∀ i, ab P GT c (loopQ st I μ i Q) (I i)) : ab P GT (.loop c) Q st := ⟨st, .refl _ _, ι, I, μ, i0, h0, h⟩
/-- the loop from a state that says less, or where nil slices are rows of one's own -/
theorem ab_loopV {ι : Type} (st1 : AS) (I : ι → AS) (μ : ι → Nat) (i0 : ι) {c : Code} {Q : Exit → AS → Prop} {st : AS} (hd : Drop st st st1) (h0 : Drop st1 st1 (I i0)) (h : ∀ i, ab P GT c (loopQ st1 I μ i Q) (I i)) : ab P GT (.loop c) Q st := ⟨st1, hd, ι, I, μ, i0, h0, h⟩

end Go.Ab

namespace Go.Ab

variable {P : Program} {GT : Globs}


/-- one operation and what follows -/
def aopd (P : Program) (GT : Globs) (d : Option Tmp) (op : Op) (F : AS → Prop) (st : AS) : Prop := aopB P GT { dst := d, op := op, type := 0, pos := "", after := #[], guard := none } F st

def gateT (t : Option Tmp) (want : Bool) (A B : AS → Prop) (st : AS) : Prop := match t with | some t => gate (lget st.tmps t) want A B st | none => False
@[go_sem] theorem gateT_some (t n : Nat) (l : List (Nat × AV)) (H : List AObj) (w : Bool) (A B : AS → Prop) (h : t < n) : gateT (some t) w A B ⟨E n l, H⟩ = gate (eget l t) w A B ⟨E n l, H⟩ := by
  simp [gateT, lget_E, h]
@[go_sem] theorem dget_hit (a : Nat) (v : Tmp) (l : List (Nat × Tmp)) : dget ((a, v) :: l) a = some v := by simp [dget]
@[go_sem] theorem dget_miss (a t : Nat) (v : Tmp) (l : List (Nat × Tmp)) (h : (a == t) = false) : dget ((a, v) :: l) t = dget l t := by
  simp only [beq_eq_false_iff_ne, ne_eq] at h; simp [dget, h]

@[go_sem] theorem reg_nil (ds : List (Nat × Tmp)) (k : Nat) (K : AS → Prop) (st : AS) : reg P GT ds k [] K st = K st := pf rfl
@[go_sem] theorem reg_cons (ds : List (Nat × Tmp)) (k : Nat) (d : Tmp) (op : Op) (ty : TypeId) (p : String) (af : Array Edge) (rest : List Oper) (K : AS → Prop) (st : AS) :
    reg P GT ds k ({ dst := some d, op := op, type := ty, pos := p, after := af, guard := none } :: rest) K st = aopd P GT (some d) op (reg P GT ((k, d) :: ds) (k + 1) rest K) st := rfl
@[go_sem] theorem reg_cons0 (ds : List (Nat × Tmp)) (k : Nat) (op : Op) (ty : TypeId) (p : String) (af : Array Edge) (rest : List Oper) (K : AS → Prop) (st : AS) :
    reg P GT ds k ({ dst := none, op := op, type := ty, pos := p, after := af, guard := none } :: rest) K st = aopd P GT none op (reg P GT ds (k + 1) rest K) st := rfl
@[go_sem] theorem reg_consg (ds : List (Nat × Tmp)) (k : Nat) (d : Tmp) (op : Op) (ty : TypeId) (p : String) (af : Array Edge) (j : Nat) (w : Bool) (rest : List Oper) (K : AS → Prop) (st : AS) :
    reg P GT ds k ({ dst := some d, op := op, type := ty, pos := p, after := af, guard := some (j, w) } :: rest) K st =
      gateT (dget ds j) w (aopd P GT (some d) op (reg P GT ((k, d) :: ds) (k + 1) rest K)) (skipd (some d) (reg P GT ((k, d) :: ds) (k + 1) rest K)) st := by
  show (match dget ds j with
    | some t => gate (lget st.tmps t) w (aopd P GT (some d) op (reg P GT ((k, d) :: ds) (k + 1) rest K)) (skipd (some d) (reg P GT ((k, d) :: ds) (k + 1) rest K)) st
    | none => False) = _
  unfold gateT
  cases dget ds j <;> rfl
@[go_sem] theorem reg_consg0 (ds : List (Nat × Tmp)) (k : Nat) (op : Op) (ty : TypeId) (p : String) (af : Array Edge) (j : Nat) (w : Bool) (rest : List Oper) (K : AS → Prop) (st : AS) :
    reg P GT ds k ({ dst := none, op := op, type := ty, pos := p, after := af, guard := some (j, w) } :: rest) K st =
      gateT (dget ds j) w (aopd P GT none op (reg P GT ds (k + 1) rest K)) (skipd none (reg P GT ds (k + 1) rest K)) st := by
  show (match dget ds j with
    | some t => gate (lget st.tmps t) w (aopd P GT none op (reg P GT ds (k + 1) rest K)) (skipd none (reg P GT ds (k + 1) rest K)) st
    | none => False) = _
  unfold gateT
  cases dget ds j <;> rfl

@[go_sem] theorem put_some (n : Nat) (l : List (Nat × AV)) (H H' : List AObj) (d : Nat) (v : AV) : AS.put ⟨E n l, H⟩ (some d) v H' = ⟨E n ((d, v) :: l), H'⟩ := by simp [AS.put, lset_E]
@[go_sem] theorem skipd_some (n : Nat) (l : List (Nat × AV)) (H : List AObj) (d : Nat) (F : AS → Prop) : skipd (some d) F ⟨E n l, H⟩ = F ⟨E n ((d, .tup []) :: l), H⟩ := by simp [skipd, AS.put, lset_E]
@[go_sem] theorem skipd_none (n : Nat) (l : List (Nat × AV)) (H : List AObj) (F : AS → Prop) : skipd none F ⟨E n l, H⟩ = F ⟨E n l, H⟩ := pf rfl
@[go_sem] theorem put_none (n : Nat) (l : List (Nat × AV)) (H H' : List AObj) (v : AV) : AS.put ⟨E n l, H⟩ none v H' = ⟨E n l, H'⟩ := pf rfl

/-! values -/
@[go_sem] theorem ev_tmp (n : Nat) (l : List (Nat × AV)) (t : Nat) (h : t < n) : ev GT (E n l) (.tmp t) = eget l t := by simp [ev, lget_E, h]
@[go_sem] theorem ev_func (tm : List AV) (f : FuncId) : ev GT tm (.func f) = .d (.fn f) := pf rfl
@[go_sem] theorem ev_global (tm : List AV) (g : Nat) : ev GT tm (.global g) = glob GT g := pf rfl
@[go_sem] theorem ev_bool (tm : List AV) (b : Bool) : ev GT tm (.const (.bool b)) = .d (.bool b) := pf rfl
@[go_sem] theorem ev_i64 (tm : List AV) (n : Int) (h1 : -9223372036854775808 ≤ n) (h2 : n ≤ 9223372036854775807) : ev GT tm (.const (.int .i64 n)) = .d (.int .i64 n) := by
  have : IntKind.min .i64 ≤ n ∧ n ≤ IntKind.max .i64 := ⟨h1, h2⟩
  show (if _ then _ else _) = _
  rw [if_pos this]
@[go_sem] theorem ev_u8 (tm : List AV) (n : Int) (h1 : 0 ≤ n) (h2 : n ≤ 255) : ev GT tm (.const (.int .u8 n)) = .d (.int .u8 n) := by
  have : IntKind.min .u8 ≤ n ∧ n ≤ IntKind.max .u8 := ⟨h1, h2⟩
  show (if _ then _ else _) = _
  rw [if_pos this]
@[go_sem] theorem ev_u64 (tm : List AV) (n : Int) (h1 : 0 ≤ n) (h2 : n ≤ 18446744073709551615) : ev GT tm (.const (.int .u64 n)) = .d (.int .u64 n) := by
  have : IntKind.min .u64 ≤ n ∧ n ≤ IntKind.max .u64 := ⟨h1, h2⟩
  show (if _ then _ else _) = _
  rw [if_pos this]
@[go_sem] theorem ev_i32 (tm : List AV) (n : Int) (h1 : -2147483648 ≤ n) (h2 : n ≤ 2147483647) : ev GT tm (.const (.int .i32 n)) = .d (.int .i32 n) := by
  have : IntKind.min .i32 ≤ n ∧ n ≤ IntKind.max .i32 := ⟨h1, h2⟩
  show (if _ then _ else _) = _
  rw [if_pos this]
@[go_sem] theorem ev_nils (tm : List AV) : ev GT tm (.const (.slice none 0 0)) = .nils := pf rfl
@[go_sem] theorem ev_np (tm : List AV) : ev GT tm (.const (.pointer none)) = .np := pf rfl
@[go_sem] theorem ev_undef (tm : List AV) : ev GT tm (.const (.tuple #[])) = .tup [] := pf rfl

@[go_sem] theorem wrap_i64 (n : Int) (h1 : -9223372036854775808 ≤ n) (h2 : n ≤ 9223372036854775807) : IntKind.i64.wrap n = n := IntWalk.i64_in n ⟨h1, h2⟩
@[go_sem] theorem wrap_u8 (n : Int) (h1 : 0 ≤ n) (h2 : n ≤ 255) : IntKind.u8.wrap n = n := IntWalk.u8_in n ⟨h1, h2⟩
@[go_sem] theorem wrap_u64 (n : Int) (h1 : 0 ≤ n) (h2 : n ≤ 18446744073709551615) : IntKind.u64.wrap n = n := IntWalk.u64_in n ⟨h1, h2⟩
@[go_sem] theorem wrap_i32 (n : Int) (h1 : -2147483648 ≤ n) (h2 : n ≤ 2147483647) : IntKind.i32.wrap n = n := IntWalk.i32_in n ⟨h1, h2⟩

/-! what an operation yields -/
def qv (r : Option AV) (d : Option Tmp) (F : AS → Prop) (st : AS) : Prop := match r with | some v => F (st.put d v st.heap) | none => False
def qn (r : Option (AV × List AObj)) (d : Option Tmp) (F : AS → Prop) (st : AS) : Prop := match r with | some (v, N) => F (st.put d v (st.heap ++ N)) | none => False
def qh (r : Option (AV × List AObj)) (d : Option Tmp) (F : AS → Prop) (st : AS) : Prop := match r with | some (v, H) => F (st.put d v H) | none => False
@[go_sem] theorem qv_some (v : AV) (d : Option Tmp) (F : AS → Prop) (tm : List AV) (H : List AObj) : qv (some v) d F ⟨tm, H⟩ = F (AS.put ⟨tm, H⟩ d v H) := pf rfl
@[go_sem] theorem qn_some (v : AV) (N : List AObj) (d : Option Tmp) (F : AS → Prop) (tm : List AV) (H : List AObj) : qn (some (v, N)) d F ⟨tm, H⟩ = F (AS.put ⟨tm, H⟩ d v (H ++ N)) := pf rfl
@[go_sem] theorem qh_some (v : AV) (H' : List AObj) (d : Option Tmp) (F : AS → Prop) (tm : List AV) (H : List AObj) : qh (some (v, H')) d F ⟨tm, H⟩ = F (AS.put ⟨tm, H⟩ d v H') := pf rfl

section
variable (d : Option Tmp) (F : AS → Prop) (tm : List AV) (H : List AObj)

theorem aop_q {o : Op} {r : Option (AV × List AObj)} (hc : callOf o = none) (hq : qop P GT tm H o = r) (hl : r = none → lop P GT tm H o = none) (hn : r = none → nop P GT tm H o = none) (hb : isBuild o = false := by rfl) (hb2 : isAllocS P o = false := by rfl) : aopd P GT d o F ⟨tm, H⟩ = qn r d F ⟨tm, H⟩ := by
  unfold aopd; rw [aopB_not hb hb2]; unfold aop qn
  simp only [hc, hq]
  cases r with
  | some p => obtain ⟨v, N⟩ := p; rfl
  | none => simp only [hl rfl, hn rfl]
theorem qn_map (r : Option AV) : qn (r.map (·, [])) d F ⟨tm, H⟩ = qv r d F ⟨tm, H⟩ := by
  cases r with
  | none => rfl
  | some v => simp [qn, qv]

@[go_sem] theorem r_move (x : Operand) : aopd P GT d (.move x) F ⟨tm, H⟩ = F (AS.put ⟨tm, H⟩ d (ev GT tm x) H) := by
  rw [aop_q (r := some (ev GT tm x, [])) d F tm H rfl rfl (by simp) (by simp)]; simp [qn]
@[go_sem] theorem r_assign (x : Operand) : aopd P GT d (.assign x) F ⟨tm, H⟩ = F (AS.put ⟨tm, H⟩ d (ev GT tm x) H) := by
  rw [aop_q (r := some (ev GT tm x, [])) d F tm H rfl rfl (by simp) (by simp)]; simp [qn]
def apick (c a b : AV) : Option AV := match c with
  | .d (.bool t) => match a, b with
    | .d (.bool x), .d (.bool y) => some (.d (.bool (if t then x else y)))
    | x, y => some (if t then x else y)
  | _ => none
@[go_sem] theorem apick_true (a b : AV) : apick (.d (.bool true)) a b = some a := by
  unfold apick; simp only
  split
  · rfl
  · simp
@[go_sem] theorem apick_false (a b : AV) : apick (.d (.bool false)) a b = some b := by
  unfold apick; simp only
  split
  · rfl
  · simp
@[go_sem] theorem apick_bool (c x y : Bool) : apick (.d (.bool c)) (.d (.bool x)) (.d (.bool y)) = some (.d (.bool (if c then x else y))) := pf rfl
@[go_sem] theorem r_pick (c a b : Operand) : aopd P GT d (.pick c a b) F ⟨tm, H⟩ = qv (apick (ev GT tm c) (ev GT tm a) (ev GT tm b)) d F ⟨tm, H⟩ := by
  have : qop P GT tm H (.pick c a b) = (apick (ev GT tm c) (ev GT tm a) (ev GT tm b)).map (·, []) := by
    simp only [qop, apick]
    generalize ev GT tm c = u
    generalize ev GT tm a = v
    generalize ev GT tm b = w
    cases u with
    | d x => cases x with
      | bool t => cases v with
        | d x => cases x with
          | bool t2 => cases w with
            | d x => cases x <;> rfl
            | _ => rfl
          | _ => rfl
        | _ => rfl
      | _ => rfl
    | _ => rfl
  rw [aop_q d F tm H rfl this (fun _ => rfl) (fun _ => rfl), qn_map]
def abox (H : List AObj) (z : Nat) (a : AV) : Option (AV × List AObj) := if okv H a = true ∧ a.cells.length = z ∧ 0 < z then some (.ptr H.length 0 0 0, [.row z 0 false [a]]) else none
@[go_sem] theorem r_box (t : TypeId) (x : Operand) : aopd P GT d (.box t x) F ⟨tm, H⟩ = qn (abox H (tcells P t) (ev GT tm x)) d F ⟨tm, H⟩ := aop_q d F tm H rfl rfl (fun _ => rfl) (fun _ => rfl)
def aalloc (H : List AObj) (z : Nat) : Option AV → Option (AV × List AObj)
  | some a => if a.cells.length = z ∧ 0 < z ∧ a.cells.all (okv H) = true ∧ okv H a = true then some (.ptr H.length 0 0 0, [.row z 0 false [a]]) else none
  | none => none
@[go_sem] theorem r_alloc (t : TypeId) (h : (elemT P t).isSome = false) : aopd P GT d (.alloc t) F ⟨tm, H⟩ = qn (aalloc H (tcells P t) (tzero P t)) d F ⟨tm, H⟩ := aop_q d F tm H rfl rfl (fun _ => rfl) (fun _ => rfl) rfl h
/-- a variable that holds a slice: its nil slice may be a row of one's own -/
def alP (r : Option (AV × List AObj)) (d : Option Tmp) (F : AS → Prop) (st : AS) : Prop := qn r d F st ∨ (match r with
  | some (v, N) => ∃ z, 0 < z ∧ st.put d v (st.heap ++ N) = st.put d (.ptr st.heap.length 0 0 0) (st.heap ++ [.row 1 0 false [.nils]]) ∧ F (st.put d (.ptr st.heap.length 0 0 0) (st.heap ++ [.row 1 0 false [.ref (st.heap.length + 1) 0 0 0 none], .row z 0 false []]))
  | none => False)
theorem al_own {r : Option (AV × List AObj)} {d : Option Tmp} {F : AS → Prop} {st : AS} (h : qn r d F st) : alP r d F st := .inl h
theorem al_virt (z : Nat) {d : Option Tmp} {F : AS → Prop} {tm : List AV} {H : List AObj} (hz : 0 < z) (h : F (AS.put ⟨tm, H⟩ d (.ptr H.length 0 0 0) (H ++ [.row 1 0 false [.ref (H.length + 1) 0 0 0 none], .row z 0 false []]))) :
    alP (some (.ptr H.length 0 0 0, [.row 1 0 false [.nils]])) d F ⟨tm, H⟩ := .inr ⟨z, hz, rfl, h⟩
@[go_sem] theorem r_allocS (t : TypeId) (h : (elemT P t).isSome = true) : aopd P GT d (.alloc t) F ⟨tm, H⟩ = alP (aalloc H (tcells P t) (tzero P t)) d F ⟨tm, H⟩ := by
  have hq : qop P GT tm H (.alloc t) = aalloc H (tcells P t) (tzero P t) := rfl
  unfold aopd aopB aop alP qn virtK
  simp only [callOf, hq, isBuild, isAllocS, h, true_and, Bool.false_eq_true, false_and, false_or]
  cases hr : aalloc H (tcells P t) (tzero P t) with
  | none => simp [lop, nop]
  | some p =>
    obtain ⟨v, N⟩ := p
    rfl
@[go_sem] theorem r_load (t : TypeId) (x : Operand) : aopd P GT d (.load t x) F ⟨tm, H⟩ = qv (aload P H t (ev GT tm x)) d F ⟨tm, H⟩ := by
  rw [aop_q d F tm H rfl rfl (fun _ => rfl) (fun _ => rfl)]; exact qn_map d F tm H _
@[go_sem] theorem r_fieldAddr (s : TypeId) (x : Operand) (f : Nat) : aopd P GT d (.fieldAddr s x f) F ⟨tm, H⟩ = qv (afield P H s f (ev GT tm x)) d F ⟨tm, H⟩ := by
  rw [aop_q d F tm H rfl rfl (fun _ => rfl) (fun _ => rfl)]; exact qn_map d F tm H _
@[go_sem] theorem r_indexAddr (t : TypeId) (x i : Operand) (h : elemOK P t = true) : aopd P GT d (.indexAddr t x i) F ⟨tm, H⟩ = qv (aindexAddr P H t (ev GT tm x) (ev GT tm i)) d F ⟨tm, H⟩ := by
  rw [aop_q (r := (aindexAddr P H t (ev GT tm x) (ev GT tm i)).map (·, [])) d F tm H rfl (by simp [qop, h]) (fun _ => rfl) (fun _ => rfl), qn_map]
@[go_sem] theorem r_index (t : TypeId) (x i : Operand) : aopd P GT d (.index t x i) F ⟨tm, H⟩ = qv (aindex P t (ev GT tm x) (ev GT tm i)) d F ⟨tm, H⟩ := by
  rw [aop_q d F tm H rfl rfl (fun _ => rfl) (fun _ => rfl)]; exact qn_map d F tm H _
def afieldV (P : Program) (s f : Nat) (a : AV) : Option AV := match finfo P s f with
    | some (off, ty) => match tagg P ty with
      | some ag => if isAg a = true ∧ tcells P ty ≠ 0 then subA ag a off (tcells P ty) else none
      | none => none
    | none => none
@[go_sem] theorem r_field (s : TypeId) (x : Operand) (f : Nat) : aopd P GT d (.field s x f) F ⟨tm, H⟩ = qv (afieldV P s f (ev GT tm x)) d F ⟨tm, H⟩ := by
  have : qop P GT tm H (.field s x f) = (afieldV P s f (ev GT tm x)).map (·, []) := by
    simp only [qop, afieldV]
    cases finfo P s f with
    | none => rfl
    | some p =>
      obtain ⟨off, ty⟩ := p
      simp only
      cases tagg P ty with
      | none => rfl
      | some ag =>
        simp only
        by_cases hh : isAg (ev GT tm x) = true ∧ tcells P ty ≠ 0
        · rw [if_pos hh, if_pos hh]
        · rw [if_neg hh, if_neg hh]; rfl
  rw [aop_q d F tm H rfl this (fun _ => rfl) (fun _ => rfl), qn_map]
def asl (P : Program) (H : List AObj) (t : TypeId) (x : AV) (lo hi mx : Option AV) : Option AV := match x with
    | .ref b g i n c => asliceRef P H t (.ref b g i n c) lo hi mx
    | a => aslice P t a lo hi mx
@[go_sem] theorem r_slice (t : TypeId) (x : Operand) (lo hi : Option Operand) (h : elemOK P t = true) : aopd P GT d (.slice t x lo hi none) F ⟨tm, H⟩ = qv (asl P H t (ev GT tm x) (lo.map (ev GT tm)) (hi.map (ev GT tm)) none) d F ⟨tm, H⟩ := by
  have : qop P GT tm H (.slice t x lo hi none) = (asl P H t (ev GT tm x) (lo.map (ev GT tm)) (hi.map (ev GT tm)) none).map (·, []) := by
    simp only [qop, asl, h]
    cases ev GT tm x <;> rfl
  rw [aop_q d F tm H rfl this (fun _ => rfl) (fun _ => rfl), qn_map]
@[go_sem] theorem r_slice3 (t : TypeId) (x : Operand) (lo : Option Operand) (hi mx : Operand) (h : elemOK P t = true) : aopd P GT d (.slice t x lo (some hi) (some mx)) F ⟨tm, H⟩ = qv (asl P H t (ev GT tm x) (lo.map (ev GT tm)) (some (ev GT tm hi)) (some (ev GT tm mx))) d F ⟨tm, H⟩ := by
  have : qop P GT tm H (.slice t x lo (some hi) (some mx)) = (asl P H t (ev GT tm x) (lo.map (ev GT tm)) (some (ev GT tm hi)) (some (ev GT tm mx))).map (·, []) := by
    simp only [qop, asl, h]
    cases ev GT tm x <;> rfl
  rw [aop_q d F tm H rfl this (fun _ => rfl) (fun _ => rfl), qn_map]
def anot : AV → Option AV
  | .d (.bool b) => some (.d (.bool !b))
  | _ => none
@[go_sem] theorem anot_b (b : Bool) : anot (.d (.bool b)) = some (.d (.bool !b)) := pf rfl
@[go_sem] theorem r_not (t : TypeId) (x : Operand) : aopd P GT d (.unOp .not t x) F ⟨tm, H⟩ = qv (anot (ev GT tm x)) d F ⟨tm, H⟩ := by
  have : qop P GT tm H (.unOp .not t x) = (anot (ev GT tm x)).map (·, []) := by
    simp only [qop]
    generalize ev GT tm x = a
    cases a with
    | d x => cases x <;> rfl
    | _ => rfl
  rw [aop_q d F tm H rfl this (fun _ => rfl) (fun _ => rfl), qn_map]
theorem r_makeFunc (f : FuncId) (fs cs : Array Operand) : aopd P GT d (.makeFunc (.func f) fs cs) F ⟨tm, H⟩ = F (AS.put ⟨tm, H⟩ d (if fs.size + cs.size = 0 then .d (.fn f) else .fn f (fs.toList.map (ev GT tm)) (cs.toList.map (ev GT tm))) H) := by
  rw [aop_q (r := some (if fs.size + cs.size = 0 then .d (.fn f) else .fn f (fs.toList.map (ev GT tm)) (cs.toList.map (ev GT tm)), [])) d F tm H rfl rfl (by simp) (by simp)]; simp [qn]
def aextract (a : AV) (i : Nat) : Option AV := match a with
  | .tup vs => vs[i]?
  | _ => none
@[go_sem] theorem aextract_tup (vs : List AV) (i : Nat) : aextract (.tup vs) i = vs[i]? := pf rfl
@[go_sem] theorem r_extract (x : Operand) (i : Nat) : aopd P GT d (.extract x i) F ⟨tm, H⟩ = qv (aextract (ev GT tm x) i) d F ⟨tm, H⟩ := by
  have : qop P GT tm H (.extract x i) = (aextract (ev GT tm x) i).map (·, []) := by
    simp only [qop, aextract]
    cases ev GT tm x <;> rfl
  rw [aop_q d F tm H rfl this (fun _ => rfl) (fun _ => rfl), qn_map]
def anil (H : List AObj) : AV → Option AV
    | .ptr b g i f => if okv H (.ptr b g i f) = true then some (.ptr b g i f) else none
    | .cptr cs => some (.cptr cs)
    | .fn f fs cs => some (.fn f fs cs)
    | .d (.fn f) => some (.d (.fn f))
    | _ => none
@[go_sem] theorem r_nilCheck (x : Operand) : aopd P GT d (.nilCheck x) F ⟨tm, H⟩ = qv (anil H (ev GT tm x)) d F ⟨tm, H⟩ := by
  have : qop P GT tm H (.nilCheck x) = (anil H (ev GT tm x)).map (·, []) := by
    simp only [qop, anil]
    generalize ev GT tm x = a
    cases a with
    | d x => cases x <;> rfl
    | ptr => simp only; split <;> rfl
    | _ => rfl
  rw [aop_q d F tm H rfl this (fun _ => rfl) (fun _ => rfl), qn_map]
def abuild (P : Program) (H : List AObj) (t : TypeId) (vs : List (Nat × AV)) : Option AV := match tzero P t with
    | some a => if a.cells.length = tcells P t ∧ isAg a = true ∧ a.cells.all (okv H) = true ∧ okv H a = true ∧ (vs.all fun p => okv H p.2) = true then
        match placesT P t with
        | some pl => (fillA (pl[·]?) a.cells vs).map mkA
        | none => none else none
    | none => none
@[go_sem] theorem r_build (t : TypeId) (parts : Array (Nat × Operand)) : aopd P GT d (.build t parts) F ⟨tm, H⟩ = qv (abuild P H t (parts.toList.map fun p => (p.1, ev GT tm p.2))) d F ⟨tm, H⟩ := by
  have : qop P GT tm H (.build t parts) = (abuild P H t (parts.toList.map fun p => (p.1, ev GT tm p.2))).map (·, []) := by
    simp only [qop, abuild, List.all_map, Function.comp_def]
    cases tzero P t with
    | none => rfl
    | some a =>
      simp only
      split
      · cases placesT P t with
        | none => rfl
        | some pl => simp only [Option.map_map]; rfl
      · rfl
  rw [aop_q d F tm H rfl this (fun _ => rfl) (fun _ => rfl), qn_map]
def abuildS (P : Program) (H : List AObj) (len : Nat) (vs : List (Nat × AV)) : Option TypeId → Option (AV × List AObj)
    | some e => if vs.length = len ∧ 0 < tcells P e ∧ zeroOK P H e = true ∧ len * tcells P e ≤ 16777216 ∧ (vs.all fun p => okv H p.2) = true then
        match rowOf (tcells P e) 0 vs with
        | some xs => some (.ref H.length 0 0 len (some len), [.row (tcells P e) 0 false xs])
        | none => none else none
    | none => none
/-- a row built: one's own, or data from its birth -/
def bslP (r : Option (AV × List AObj)) (d : Option Tmp) (F : AS → Prop) (st : AS) : Prop := qn r d F st ∨ ∃ v N x, (match r with | some (v', N') => st.put d v' (st.heap ++ N') = st.put d v (st.heap ++ N) | none => False) ∧ pureA (fun b => decide (st.heap.length ≤ b)) (st.heap ++ N) 50 v = some x ∧ F (st.put d (.d x) st.heap)
theorem bsl_row {r : Option (AV × List AObj)} {d : Option Tmp} {F : AS → Prop} {st : AS} (h : qn r d F st) : bslP r d F st := .inl h
theorem bsl_data {d : Option Tmp} {F : AS → Prop} {st : AS} {v : AV} {N : List AObj} (x : D) (h1 : pureA (fun b => decide (st.heap.length ≤ b)) (st.heap ++ N) 50 v = some x) (h : F (st.put d (.d x) st.heap)) : bslP (some (v, N)) d F st := .inr ⟨v, N, x, rfl, h1, h⟩
@[go_sem] theorem r_buildSlice (t : TypeId) (len : Nat) (parts : Array (Nat × Operand)) : aopd P GT d (.buildSlice t len parts) F ⟨tm, H⟩ = bslP (abuildS P H len (parts.toList.map fun p => (p.1, ev GT tm p.2)) (elemT P t)) d F ⟨tm, H⟩ := by
  have hq : qop P GT tm H (.buildSlice t len parts) = abuildS P H len (parts.toList.map fun p => (p.1, ev GT tm p.2)) (elemT P t) := by
    simp only [qop, abuildS, List.all_map, Function.comp_def, List.length_map, Array.length_toList]
    cases elemT P t <;> rfl
  unfold aopd aopB aop bslP qn relK
  simp only [callOf, hq, isBuild, isAllocS, true_and, Bool.false_eq_true, false_and, or_false]
  cases hr : abuildS P H len (parts.toList.map fun p => (p.1, ev GT tm p.2)) (elemT P t) with
  | none => simp [lop, nop]
  | some p =>
    obtain ⟨v, N⟩ := p
    rfl
def alenC (P : Program) (H : List AObj) (t : TypeId) (x : AV) := alen P H t x
@[go_sem] theorem r_len (x : Operand) (t : TypeId) : aopd P GT d (.call { callee := .builtin .len, args := #[x], argTypes := #[t] }) F ⟨tm, H⟩ = qv (alen P H t (ev GT tm x)) d F ⟨tm, H⟩ := by
  have : qop P GT tm H (.call { callee := .builtin .len, args := #[x], argTypes := #[t] }) = (alen P H t (ev GT tm x)).map (·, []) := rfl
  rw [aop_q d F tm H rfl this (fun _ => rfl) (fun _ => rfl), qn_map]
/-- a comparison, or a slice's against nil -/
def qb (r : Option AV) (d : Option Tmp) (F : AS → Prop) (st : AS) (alt : Prop) : Prop := match r with | some v => F (st.put d v st.heap) | none => alt
@[go_sem] theorem qb_some (v : AV) (alt : Prop) : qb (some v) d F ⟨tm, H⟩ alt = F (AS.put ⟨tm, H⟩ d v H) := pf rfl
@[go_sem] theorem qb_none (alt : Prop) : qb none d F ⟨tm, H⟩ alt = alt := pf rfl
def nopP (P : Program) (GT : Globs) (tm : List AV) (H : List AObj) (o : Op) (d : Option Tmp) (F : AS → Prop) : Prop := match nop P GT tm H o with
  | some pr => ∀ v, pr v → F (AS.put ⟨tm, H⟩ d v H)
  | none => False
@[go_sem] theorem r_binOp (op : BinOp) (t : TypeId) (x y : Operand) (yt : TypeId) : aopd P GT d (.binOp op t x y yt) F ⟨tm, H⟩ = qb (abin P op t (ev GT tm x) (ev GT tm y)) d F ⟨tm, H⟩ (nopP P GT tm H (.binOp op t x y yt) d F) := by
  have : qop P GT tm H (.binOp op t x y yt) = (abin P op t (ev GT tm x) (ev GT tm y)).map (·, []) := rfl
  unfold aopd; rw [aopB_not rfl]; unfold aop qb nopP
  simp only [callOf, this, lop]
  cases abin P op t (ev GT tm x) (ev GT tm y) with
  | some v => simp [AS.put]
  | none => rfl
/-- what follows a call -/
def callK (d : Option Tmp) (F : AS → Prop) (tm : List AV) : AV → List AObj → Prop := fun v H' => F (AS.put ⟨tm, []⟩ d v H')
@[go_sem] theorem callK_some (n : Nat) (l : List (Nat × AV)) (t : Nat) (v : AV) (H' : List AObj) : callK (some t) F (E n l) v H' = F ⟨E n ((t, v) :: l), H'⟩ := by simp [callK, AS.put, lset_E]
@[go_sem] theorem callK_none (n : Nat) (l : List (Nat × AV)) (v : AV) (H' : List AObj) : callK none F (E n l) v H' = F ⟨E n l, H'⟩ := pf rfl
/-- a call that a value names -/
def callV (P : Program) (GT : Globs) (v : AV) (args : List AV) (H : List AObj) (R : AV → List AObj → Prop) : Prop := match v with
    | .d (.fn g) => ACalls P GT g args H R
    | .fn g fs cs => ACalls P GT g (fs ++ args ++ cs) H R
    | _ => False
@[go_sem] theorem callV_fn (g : FuncId) (args : List AV) (R : AV → List AObj → Prop) : callV P GT (.d (.fn g)) args H R = ACalls P GT g args H R := pf rfl
@[go_sem] theorem callV_cl (g : FuncId) (fs cs args : List AV) (R : AV → List AObj → Prop) : callV P GT (.fn g fs cs) args H R = ACalls P GT g (fs ++ args ++ cs) H R := pf rfl
@[go_sem] theorem r_call (f : Operand) (args : Array Operand) (ats : Array TypeId) : aopd P GT d (.call { callee := .value f, args := args, argTypes := ats }) F ⟨tm, H⟩ =
    callV P GT (ev GT tm f) (args.toList.map fun x => coe (ev GT tm x)) H (callK d F tm) := by
  unfold aopd; rw [aopB_not rfl]; unfold aop callV callK
  simp only [callOf]
  cases ev GT tm f with
  | d x => cases x <;> rfl
  | _ => rfl
@[go_sem] theorem r_store (t : TypeId) (p x : Operand) : aopd P GT d (.store t p x) F ⟨tm, H⟩ = qh (lop P GT tm H (.store t p x)) d F ⟨tm, H⟩ := by
  unfold aopd; rw [aopB_not rfl]; unfold aop qh
  simp only [callOf, qop]
  cases lop P GT tm H (.store t p x) <;> rfl
@[go_sem] theorem r_append (s x : Operand) (t t' : TypeId) (h : (elemT P t').isSome = true ∨ strT P t' = true) : aopd P GT d (.call { callee := .builtin .append, args := #[s, x], argTypes := #[t, t'] }) F ⟨tm, H⟩ = qh (aappend P H t (ev GT tm s) (ev GT tm x)) d F ⟨tm, H⟩ := by
  have : lop P GT tm H (.call { callee := .builtin .append, args := #[s, x], argTypes := #[t, t'] }) = aappend P H t (ev GT tm s) (ev GT tm x) := by
    simp only [lop]; rw [if_pos h]
  unfold aopd; rw [aopB_not rfl]; unfold aop qh
  rw [this]
  simp only [callOf, qop]
  cases aappend P H t (ev GT tm s) (ev GT tm x) <;> rfl
end

/-! arithmetic -/
theorem ba_beq (a b : ByteArray) : (a == b) = decide (a = b) := by
  rcases a with ⟨a⟩; rcases b with ⟨b⟩
  have : ((⟨a⟩ : ByteArray) == ⟨b⟩) = (a == b) := rfl
  rw [this]
  by_cases h : a = b
  · subst h; simp
  · simp [h]
@[go_sem] theorem b_add (t : TypeId) (k : IntKind) (a b : Int) : abin P .add t (.d (.int k a)) (.d (.int k b)) = some (.d (.int k (k.wrap (a + b)))) := by simp [abin]
@[go_sem] theorem b_sub (t : TypeId) (k : IntKind) (a b : Int) : abin P .sub t (.d (.int k a)) (.d (.int k b)) = some (.d (.int k (k.wrap (a - b)))) := by simp [abin]
@[go_sem] theorem b_mul (t : TypeId) (k : IntKind) (a b : Int) : abin P .mul t (.d (.int k a)) (.d (.int k b)) = some (.d (.int k (k.wrap (a * b)))) := by simp [abin]
@[go_sem] theorem b_eql (t : TypeId) (k : IntKind) (a b : Int) : abin P .eql t (.d (.int k a)) (.d (.int k b)) = some (.d (.bool (decide (a = b)))) := by simp [abin]; rfl
@[go_sem] theorem b_neq (t : TypeId) (k : IntKind) (a b : Int) : abin P .neq t (.d (.int k a)) (.d (.int k b)) = some (.d (.bool (!decide (a = b)))) := by simp [abin]; rfl
@[go_sem] theorem b_lss (t : TypeId) (k : IntKind) (a b : Int) : abin P .lss t (.d (.int k a)) (.d (.int k b)) = some (.d (.bool (decide (a < b)))) := by simp [abin]
@[go_sem] theorem b_leq (t : TypeId) (k : IntKind) (a b : Int) : abin P .leq t (.d (.int k a)) (.d (.int k b)) = some (.d (.bool (decide (a ≤ b)))) := by simp [abin]
@[go_sem] theorem b_gtr (t : TypeId) (k : IntKind) (a b : Int) : abin P .gtr t (.d (.int k a)) (.d (.int k b)) = some (.d (.bool (decide (b < a)))) := by simp [abin]
@[go_sem] theorem b_geq (t : TypeId) (k : IntKind) (a b : Int) : abin P .geq t (.d (.int k a)) (.d (.int k b)) = some (.d (.bool (decide (b ≤ a)))) := by simp [abin]
@[go_sem] theorem b_eqs (t : TypeId) (a b : ByteArray) : abin P .eql t (.d (.str a)) (.d (.str b)) = some (.d (.bool (decide (a = b)))) := by
  have : (a == b) = decide (a = b) := ba_beq a b
  simp [abin, this]
@[go_sem] theorem b_neqs (t : TypeId) (a b : ByteArray) : abin P .neq t (.d (.str a)) (.d (.str b)) = some (.d (.bool (!decide (a = b)))) := by
  have : (a != b) = !decide (a = b) := by rw [← ba_beq a b]; rfl
  simp [abin, this]
@[go_sem] theorem b_quo (t : TypeId) (k : IntKind) (a b : Int) (h : (b == 0) = false) : abin P .quo t (.d (.int k a)) (.d (.int k b)) = some (.d (.int k (k.wrap (a.tdiv b)))) := by
  simp only [beq_eq_false_iff_ne, ne_eq] at h; simp [abin, h]
@[go_sem] theorem b_rem (t : TypeId) (k : IntKind) (a b : Int) (h : (b == 0) = false) (h1 : k.min ≤ a.tmod b) (h2 : a.tmod b ≤ k.max) : abin P .rem t (.d (.int k a)) (.d (.int k b)) = some (.d (.int k (a.tmod b))) := by
  simp only [beq_eq_false_iff_ne, ne_eq] at h; simp [abin, h, h1, h2]
theorem b_shr1 (t : TypeId) (a : Int) (h1 : 0 ≤ a) (h2 : a ≤ 18446744073709551615) : abin P .shr t (.d (.int .u64 a)) (.d (.int .u64 1)) = some (.d (.int .u64 (a / 2))) := by
  have e : a.fdiv (2 ^ (min (1 : Int).toNat IntKind.u64.bits)) = a / 2 := by
    have : min (1 : Int).toNat IntKind.u64.bits = 1 := rfl
    rw [this]; simp only [Int.pow_one, Int.pow_succ, Int.pow_zero, Int.one_mul]
    rw [Int.fdiv_eq_ediv_of_nonneg _ (by omega)]
  simp only [abin, if_true, e]
  rw [if_neg (by omega), if_pos ⟨by simp [IntKind.min, IntKind.signed]; omega, by simp [IntKind.max, IntKind.signed, IntKind.bits]; omega⟩]
@[go_sem] theorem l_list (H : List AObj) (t : TypeId) (xs : List D) (h : (elemT P t).isSome = true) (hl : xs.length ≤ 9223372036854775807) : alen P H t (.d (.list xs)) = some (.d (.int .i64 xs.length)) := by
  simp [alen, h, maxN, hl]
@[go_sem] theorem l_nils (H : List AObj) (t : TypeId) (h : (elemT P t).isSome = true) : alen P H t .nils = some (.d (.int .i64 0)) := by simp [alen, h]
@[go_sem] theorem l_str (H : List AObj) (t : TypeId) (s : ByteArray) (h : strT P t = true) : alen P H t (.d (.str s)) = some (.d (.int .i64 s.size)) := by simp [alen, h]

end Go.Ab

namespace Go.Ab

variable {P : Program} {GT : Globs}

/-- the same for what a function gives back -/
def pureR (ok : Nat → Bool) (H : List AObj) (n : Nat) : AV → Option AV
  | .tup vs => (pureL (pureA ok H n) vs).map fun ds => .tup (ds.map .d)
  | a => (pureA ok H n a).map .d

theorem pureR_rep {h : Array Obj} {own own' : Nat → Slot} {H H' : List AObj} {S' : Nat → Prop} {ok : Nat → Bool} (hR : RelH GT h own H) (hS : ∀ c, Still h own H c → S' c) (hok : ∀ b c, ok b = true → own b = .at c → S' c)
    {n : Nat} {v : Value} {a x : AV} (r : RepA h (Still h own H) own H v a) (hp : pureR ok H n a = some x) : RepA h S' own' H' v x := by
  unfold pureR at hp
  split at hp
  · rename_i vs
    simp only [Option.map_eq_some_iff] at hp
    obtain ⟨ds, h1, rfl⟩ := hp
    obtain ⟨q1, q2⟩ := pureL_get h1
    cases r with
    | tup us _ hl hr =>
      refine .tup us _ (by simp [q1, hl]) fun j u c hu hc => ?_
      simp only [List.getElem?_map, Option.map_eq_some_iff] at hc
      obtain ⟨y, hy, rfl⟩ := hc
      obtain ⟨a, ha, hpa⟩ := q2 j y hy
      exact .d _ _ (pure_rep hR hS hok n (hr j u a hu ha) hpa)
  · simp only [Option.map_eq_some_iff] at hp
    obtain ⟨y, h1, rfl⟩ := hp
    exact .d _ _ (pure_rep hR hS hok n r h1)

/-- behind a body -/
def retQ (P : Program) (rs : List ResultVar) (K : AV → List AObj → Prop) : Exit → AS → Prop := fun e st => match e with
  | .normal => ∃ vs, resVs P st rs = some vs ∧ K (tupOf vs) st.heap
  | .ret => ∃ vs, resVs P st rs = some vs ∧ K (tupOf vs) st.heap
  | _ => False

@[go_sem] theorem retQ_0 (K : AV → List AObj → Prop) (st : AS) : retQ P [] K .ret st = K (.tup []) st.heap := by simp [retQ, resVs, tupOf]
@[go_sem] theorem retQ_0n (K : AV → List AObj → Prop) (st : AS) : retQ P [] K .normal st = K (.tup []) st.heap := by simp [retQ, resVs, tupOf]
@[go_sem] theorem retQ_1 (t : Tmp) (K : AV → List AObj → Prop) (n : Nat) (l : List (Nat × AV)) (H : List AObj) (h : t < n) : retQ P [.tmp t] K .ret ⟨E n l, H⟩ = K (eget l t) H := by
  simp [retQ, resVs, resV, tupOf, lget_E, h]
@[go_sem] theorem retQ_2 (t u : Tmp) (K : AV → List AObj → Prop) (n : Nat) (l : List (Nat × AV)) (H : List AObj) (h : t < n) (h2 : u < n) : retQ P [.tmp t, .tmp u] K .ret ⟨E n l, H⟩ = K (.tup [eget l t, eget l u]) H := by
  simp [retQ, resVs, resV, tupOf, lget_E, h, h2]
@[go_sem] theorem retQ_3 (t u s : Tmp) (K : AV → List AObj → Prop) (n : Nat) (l : List (Nat × AV)) (H : List AObj) (h : t < n) (h2 : u < n) (h3 : s < n) : retQ P [.tmp t, .tmp u, .tmp s] K .ret ⟨E n l, H⟩ = K (.tup [eget l t, eget l u, eget l s]) H := by
  simp [retQ, resVs, resV, tupOf, lget_E, h, h2, h3]
theorem retQ_cells (rs : List ResultVar) (K : AV → List AObj → Prop) (st : AS) : retQ P rs K .ret st = ∃ vs, resVs P st rs = some vs ∧ K (tupOf vs) st.heap := rfl

/-- data, the heap as it was -/
def pureK (H : List AObj) (R : AV → Prop) : AV → List AObj → Prop := fun v H1 => ∃ L x, H1 = H ++ L ∧ pureR (fun b => decide (H.length ≤ b)) H1 50 v = some x ∧ R x


/-- A FUNCTION THAT GIVES DATA and leaves the caller's blocks as they were -/
theorem acalls_pure {f : FuncId} {fn : Func} {c : Code} {args : List AV} {H : List AObj} {R : AV → Prop} (n : Nat) (rs : List ResultVar) (hf : P.funcs[f]? = some fn) (hb : fn.body = some c) (hc : callable P f = true) (hn : fn.ntmps = n) (hrs : fn.results.toList = rs) (ha : args.length ≤ n)
    (h : ab P GT c (retQ P rs (pureK H R)) ⟨E n (ents 0 args), H⟩) : ACalls P GT f args H fun v H' => R v ∧ H' = H := by
  subst hn hrs
  refine acalls_enter hf hb hc _ (drop_enter fn args H ha) (aw_mono ?_ (ab_sound h))
  have fin : ∀ st : AS, (∃ vs, resVs P st fn.results.toList = some vs ∧ pureK H R (tupOf vs) st.heap) → ∃ vs, resVs P st fn.results.toList = some vs ∧
      (fun v H1 => ∃ H2 v2, (R v2 ∧ H2 = H) ∧ ∀ (w0 w : World) (own0 own : Nat → Slot), RelH GT w0.heap own0 H → RelH GT w.heap own H1 → Mv w0 own0 H w own H1 →
      ∃ own2, RelH GT w.heap own2 H2 ∧ Mv w0 own0 H w own2 H2 ∧ ∀ cv, VR w own H1 cv v → VR w own2 H2 cv v2) (tupOf vs) st.heap := by
    rintro ⟨tm, H1⟩ ⟨vs, h1, L, x, h2, h3, h4⟩
    simp only at h2
    subst h2
    refine ⟨vs, h1, H, x, ⟨h4, rfl⟩, fun w0 w own0 own r0 r1 hm => ?_⟩
    obtain ⟨q1, q2, q3⟩ := drop_rel r0 r1 hm (Keeps.refl H)
    refine ⟨cut H.length own, q1, q2, fun cv hv => ?_⟩
    have hlt : ∀ c, Still w.heap own (H ++ L) c → Still w.heap (cut H.length own) H c := fun c hc => ⟨hc.1, fun b o ho hb => by
      have hb' : b < H.length := lt_of_get hb
      simp only [cut, if_pos hb'] at ho
      exact hc.2 b o ho (by rw [List.getElem?_append_left hb']; exact hb)⟩
    refine pureR_rep r1 hlt (fun b c hok ho => ⟨r1.lt ho, fun b' o ho' hb' => ?_⟩) hv h3
    have hb1 : b' < H.length := lt_of_get hb'
    simp only [cut, if_pos hb1] at ho'
    have := r1.inj b b' c ho ho'
    simp only [decide_eq_true_eq] at hok
    omega
  intro e st he
  cases e with
  | normal => exact fin st he
  | ret => exact fin st he
  | _ => exact he.elim

end Go.Ab

namespace Go.Ab

variable {P : Program} {GT : Globs}

mutual
def okD : D → Prop
  | .int k n => k.min ≤ n ∧ n ≤ k.max
  | .bool _ => True
  | .str s => s.size ≤ 9223372036854775807
  | .fn _ => True
  | .agg cs => okL cs
  | .list xs => xs.length ≤ 9223372036854775807 ∧ okL xs
def okL : List D → Prop
  | [] => True
  | x :: xs => okD x ∧ okL xs
end
theorem okL_iff : ∀ {l : List D}, okL l ↔ ∀ x ∈ l, okD x
  | [] => by simp [okL]
  | x :: l => by simp [okL, okL_iff (l := l)]

theorem okD_cells {x : D} (h : ∀ c ∈ x.cells, okD c) : okD x := by
  cases x with
  | agg cs => simp only [okD]; exact okL_iff.2 h
  | _ => exact h _ (by simp [D.cells])

theorem Rep.ok {h : Array Obj} {S : Nat → Prop} {v : Value} {x : D} (r : Rep h S v x) : okD x := by
  induction r with
  | int k n hn => simpa [okD] using hn
  | bool b => simp [okD]
  | str s hs => simpa [okD, maxN] using hs
  | fn f => simp [okD]
  | agg vs cs hl h1 hr ih =>
    simp only [okD]
    refine okL_iff.2 fun c hc => ?_
    obtain ⟨j, hj, rfl⟩ := List.getElem_of_mem hc
    exact ih j (vs[j]'(by omega)) _ (List.getElem?_eq_getElem _) (List.getElem?_eq_getElem hj)
  | nil => simp [okD, okL]
  | emp a => simp [okD, okL]
  | slice b off cap z xs n hn hb hcap hmax hz f hc hr ih =>
    simp only [okD]
    refine ⟨by simp only [maxN] at hmax; omega, okL_iff.2 fun x hx => okD_cells fun c hcc => ?_⟩
    obtain ⟨i, hi, rfl⟩ := List.getElem_of_mem hx
    obtain ⟨j, hj, rfl⟩ := List.getElem_of_mem hcc
    exact ih i _ j _ (List.getElem?_eq_getElem hi) (List.getElem?_eq_getElem hj)

def okArgs : List AV → Prop
  | [] => True
  | .d x :: l => okD x ∧ okArgs l
  | _ :: l => okArgs l
theorem okArgs_of : ∀ {l : List AV}, (∀ x, AV.d x ∈ l → okD x) → okArgs l
  | [], _ => trivial
  | a :: l, h => by
    have ih := okArgs_of (l := l) fun x hx => h x (List.mem_cons_of_mem _ hx)
    cases a with
    | d x => exact ⟨h x (List.mem_cons_self ..), ih⟩
    | _ => exact ih

/-- a contract may take its arguments to keep to their types' bounds -/
theorem acalls_ok {f : FuncId} {args : List AV} {H : List AObj} {R : AV → List AObj → Prop} (h : okArgs args → ACalls P GT f args H R) (hc : callable P f = true) : ACalls P GT f args H R := by
  refine ⟨hc, fun w own vs hR hl hargs => ?_⟩
  refine (h (okArgs_of fun x hx => ?_)).2 w own vs hR hl hargs
  obtain ⟨j, hj, hjx⟩ := List.getElem_of_mem hx
  have hlt : j < vs.length := by omega
  exact (hargs j vs[j] _ (List.getElem?_eq_getElem hlt) (by rw [List.getElem?_eq_getElem hj, hjx])).d_inv.ok

end Go.Ab

namespace Go.Ab

variable {P : Program} {GT : Globs}

/-! the heap: the caller's blocks and then one's own -/
@[go_sem] theorem hget_own (H L : List AObj) (k : Nat) : hget (H ++ L) (H.length + k) = L[k]? := by
  unfold hget; rw [List.getElem?_append_right (by omega)]; congr 1; omega
@[go_sem] theorem hget_own0 (H L : List AObj) : hget (H ++ L) H.length = L[0]? := hget_own H L 0
@[go_sem] theorem hset_own (H L : List AObj) (k : Nat) (o : AObj) : hset (H ++ L) (H.length + k) o = H ++ L.set k o := by
  unfold hset; rw [List.set_append_right _ _ (by omega)]; congr 2; omega
@[go_sem] theorem hset_own0 (H L : List AObj) (o : AObj) : hset (H ++ L) H.length o = H ++ L.set 0 o := hset_own H L 0 o
attribute [go_sem] List.getElem?_cons_zero List.getElem?_cons_succ List.getElem?_nil List.set_cons_zero List.set_cons_succ List.length_append

/-! sizes -/
@[go_sem] theorem cells_int (k : IntKind) (n : Int) : (D.int k n).cells = [.int k n] := pf rfl
@[go_sem] theorem cells_bool (b : Bool) : (D.bool b).cells = [.bool b] := pf rfl
@[go_sem] theorem cells_str (s : ByteArray) : (D.str s).cells = [.str s] := pf rfl
@[go_sem] theorem cells_list (l : List D) : (D.list l).cells = [.list l] := pf rfl
@[go_sem] theorem cells_fn (f : FuncId) : (D.fn f).cells = [.fn f] := pf rfl
@[go_sem] theorem cells_agg (l : List D) : (D.agg l).cells = l := pf rfl
/-- how many cells -/
def csz (v : AV) : Nat := v.cells.length
@[go_sem] theorem csz_d (x : D) : csz (.d x) = x.cells.length := by cases x <;> simp [csz, AV.cells, D.cells]
@[go_sem] theorem csz_nils : csz .nils = 1 := pf rfl
@[go_sem] theorem csz_np : csz .np = 1 := pf rfl
@[go_sem] theorem csz_nf : csz .nf = 1 := pf rfl
@[go_sem] theorem csz_ref (b g i n : Nat) (c : Option Nat) : csz (.ref b g i n c) = 1 := pf rfl
@[go_sem] theorem csz_ptr (b g i f : Nat) : csz (.ptr b g i f) = 1 := pf rfl
@[go_sem] theorem csz_cptr (cs : List D) : csz (.cptr cs) = 1 := pf rfl
@[go_sem] theorem csz_fn (f : FuncId) (a b : List AV) : csz (.fn f a b) = 1 := pf rfl
@[go_sem] theorem csz_mp (b : Nat) : csz (.mp b) = 1 := pf rfl
@[go_sem] theorem csz_it (b : Nat) : csz (.it b) = 1 := pf rfl
@[go_sem] theorem csz_agg (cs : List AV) : csz (.agg cs) = cs.length := pf rfl

/-! what may be stored -/
@[go_sem] theorem okv_d (H : List AObj) (x : D) : okv H (.d x) = true := pf rfl
@[go_sem] theorem okv_nils (H : List AObj) : okv H .nils = true := pf rfl
@[go_sem] theorem okv_np (H : List AObj) : okv H .np = true := pf rfl
@[go_sem] theorem okv_nf (H : List AObj) : okv H .nf = true := pf rfl
@[go_sem] theorem okv_cptr (H : List AObj) (cs : List D) : okv H (.cptr cs) = true := pf rfl
@[go_sem] theorem okv_fn (H : List AObj) (f : FuncId) (a b : List AV) : okv H (.fn f a b) = true := pf rfl
@[go_sem] theorem okv_mp (H : List AObj) (b : Nat) : okv H (.mp b) = true := pf rfl
@[go_sem] theorem okv_it (H : List AObj) (b : Nat) : okv H (.it b) = true := pf rfl
@[go_sem] theorem okv_agg (H : List AObj) (cs : List AV) : okv H (.agg cs) = true := pf rfl
def okG (o : Option AObj) (g : Nat) : Bool := match o with | some o => o.gen == g | none => false
@[go_sem] theorem okv_ref (H : List AObj) (b g i n : Nat) (c : Option Nat) : okv H (.ref b g i n c) = okG (hget H b) g := pf rfl
@[go_sem] theorem okv_ptr (H : List AObj) (b g i f : Nat) : okv H (.ptr b g i f) = okG (hget H b) g := pf rfl
@[go_sem] theorem okG_row (z g : Nat) (fz : Bool) (xs : List AV) : okG (some (.row z g fz xs)) g = true := by simp [okG, AObj.gen]

/-! variables of one's own -/
@[go_sem] theorem abox_v (H : List AObj) (z : Nat) (a : AV) (h : okv H a = true) (h1 : csz a = z) (h2 : 0 < z) : abox H z a = some (.ptr H.length 0 0 0, [.row z 0 false [a]]) := by
  unfold csz at h1; simp [abox, h, h1, h2]
/-- of data, nil slices and nil pointers alone -/
def plain1 : AV → Bool
  | .d _ => true
  | .nils => true
  | .np => true
  | .nf => true
  | _ => false
def plainZ : AV → Bool
  | .agg cs => cs.all plain1
  | a => plain1 a
@[go_sem] theorem plain1_d (x : D) : plain1 (.d x) = true := pf rfl
@[go_sem] theorem plain1_nils : plain1 .nils = true := pf rfl
@[go_sem] theorem plain1_np : plain1 .np = true := pf rfl
@[go_sem] theorem plain1_nf : plain1 .nf = true := pf rfl
@[go_sem] theorem plainZ_d (x : D) : plainZ (.d x) = true := pf rfl
@[go_sem] theorem plainZ_nils : plainZ .nils = true := pf rfl
@[go_sem] theorem plainZ_np : plainZ .np = true := pf rfl
@[go_sem] theorem plainZ_nf : plainZ .nf = true := pf rfl
@[go_sem] theorem plainZ_agg (cs : List AV) : plainZ (.agg cs) = cs.all plain1 := pf rfl
attribute [go_sem] List.all_cons List.all_nil Bool.and_true Bool.true_and
theorem plain1_ok {H : List AObj} {a : AV} (h : plain1 a = true) : okv H a = true := by cases a <;> first | rfl | cases h
theorem plainZ_ok {H : List AObj} {a : AV} (h : plainZ a = true) : okv H a = true ∧ a.cells.all (okv H) = true := by
  cases a with
  | d x => exact ⟨rfl, by cases x <;> simp [AV.cells, okv]⟩
  | agg cs =>
    refine ⟨rfl, ?_⟩
    simp only [plainZ_agg, List.all_eq_true] at h
    simp only [AV.cells, List.all_eq_true]
    exact fun x hx => plain1_ok (h x hx)
  | nils => exact ⟨rfl, rfl⟩
  | np => exact ⟨rfl, rfl⟩
  | nf => exact ⟨rfl, rfl⟩
  | _ => cases h
@[go_sem] theorem aalloc_v (H : List AObj) (z : Nat) (a : AV) (h : plainZ a = true) (h1 : csz a = z) (h2 : 0 < z) : aalloc H z (some a) = some (.ptr H.length 0 0 0, [.row z 0 false [a]]) := by
  unfold csz at h1; simp [aalloc, plainZ_ok h, h1, h2]

/-! loads -/
def ldP (o : Option AObj) (ag : Option Bool) (n g i f : Nat) : Option AV := match o with
  | some (.row _ g' _ xs) => if g' = g then match xs[i]?, ag with | some e, some ag => if n = 0 then none else subA ag e f n | _, _ => none else none
  | _ => none
@[go_sem] theorem aload_ptr (H : List AObj) (t : TypeId) (b g i f : Nat) : aload P H t (.ptr b g i f) = ldP (hget H b) (tagg P t) (tcells P t) g i f := pf rfl
def sb (e : Option AV) (ag : Bool) (f n : Nat) : Option AV := match e with | some e => subA ag e f n | none => none
@[go_sem] theorem ldP_row (z g n i f : Nat) (fz : Bool) (xs : List AV) (ag : Bool) (h : 0 < n) : ldP (some (.row z g fz xs)) (some ag) n g i f = sb xs[i]? ag f n := by
  have : n ≠ 0 := by omega
  unfold ldP sb
  simp only [if_true]
  cases xs[i]? <;> simp [this]
@[go_sem] theorem sb_some (e : AV) (ag : Bool) (f n : Nat) : sb (some e) ag f n = subA ag e f n := pf rfl
@[go_sem] theorem subA_one (e : AV) (f n : Nat) : subA false e f n = e.cells[f]? := pf rfl
@[go_sem] theorem subA_all (e : AV) (n : Nat) (h : csz e = n) (h2 : isAg e = true) : subA true e 0 n = some e := by unfold csz at h; simp [subA, h, h2]
@[go_sem] theorem isAg_agg (cs : List AV) : isAg (.agg cs) = true := pf rfl
@[go_sem] theorem isAg_dagg (cs : List D) : isAg (.d (.agg cs)) = true := pf rfl
theorem subA_part (e : AV) (f n : Nat) (h : f ≠ 0 ∨ csz e ≠ n) (h2 : f + n ≤ csz e) : subA true e f n = some (mkA ((e.cells.drop f).take n)) := by
  unfold csz at h h2
  simp only [subA, if_true]
  rw [if_neg (by rintro ⟨a, b, _⟩; rcases h with h | h; exact h a; exact h b), if_pos h2]
@[go_sem] theorem subA_aggD (cs : List D) (f n : Nat) (h : f + n ≤ cs.length) (h1 : (f == 0 && cs.length == n) = false) : subA true (.d (.agg cs)) f n = some (mkA (((cs.map .d).drop f).take n)) := by
  refine subA_part _ _ _ ?_ ?_
  · simp only [csz_d, cells_agg]; simp only [Bool.and_eq_false_iff, beq_eq_false_iff_ne, ne_eq] at h1; exact h1
  · simpa [csz_d, cells_agg] using h
@[go_sem] theorem subA_aggA (cs : List AV) (f n : Nat) (h : f + n ≤ cs.length) (h1 : (f == 0 && cs.length == n) = false) : subA true (.agg cs) f n = some (mkA ((cs.drop f).take n)) := by
  refine subA_part _ _ _ ?_ ?_
  · simp only [csz_agg]; simp only [Bool.and_eq_false_iff, beq_eq_false_iff_ne, ne_eq] at h1; exact h1
  · simpa [csz_agg] using h
@[go_sem] theorem avcells_agg (cs : List AV) : AV.cells (.agg cs) = cs := pf rfl
@[go_sem] theorem avcells_dagg (cs : List D) : AV.cells (.d (.agg cs)) = cs.map .d := pf rfl
@[go_sem] theorem avcells_int (k : IntKind) (n : Int) : AV.cells (.d (.int k n)) = [.d (.int k n)] := pf rfl
@[go_sem] theorem avcells_bool (b : Bool) : AV.cells (.d (.bool b)) = [.d (.bool b)] := pf rfl
@[go_sem] theorem avcells_str (s : ByteArray) : AV.cells (.d (.str s)) = [.d (.str s)] := pf rfl
@[go_sem] theorem avcells_list (l : List D) : AV.cells (.d (.list l)) = [.d (.list l)] := pf rfl
@[go_sem] theorem avcells_fn (f : FuncId) : AV.cells (.d (.fn f)) = [.d (.fn f)] := pf rfl
@[go_sem] theorem avcells_nils : AV.cells .nils = [.nils] := pf rfl
@[go_sem] theorem avcells_np : AV.cells .np = [.np] := pf rfl
@[go_sem] theorem avcells_nf : AV.cells .nf = [.nf] := pf rfl
@[go_sem] theorem avcells_ref (b g i n : Nat) (c : Option Nat) : AV.cells (.ref b g i n c) = [.ref b g i n c] := pf rfl
@[go_sem] theorem avcells_ptr (b g i f : Nat) : AV.cells (.ptr b g i f) = [.ptr b g i f] := pf rfl
@[go_sem] theorem avcells_clo (f : FuncId) (a b : List AV) : AV.cells (.fn f a b) = [.fn f a b] := pf rfl
@[go_sem] theorem avcells_mp (b : Nat) : AV.cells (.mp b) = [.mp b] := pf rfl
@[go_sem] theorem avcells_it (b : Nat) : AV.cells (.it b) = [.it b] := pf rfl
attribute [go_sem] List.drop_zero List.drop_succ_cons List.take_zero List.take_succ_cons List.drop_nil List.take_nil
/-- putting cells together -/
@[go_sem] theorem mkA_def (cs : List AV) : mkA cs = (match allD cs with | some ds => .d (.agg ds) | none => .agg cs) := pf rfl
@[go_sem] theorem allD_nil : allD [] = some [] := pf rfl
@[go_sem] theorem allD_d (x : D) (l : List AV) : allD (.d x :: l) = (allD l).map (x :: ·) := pf rfl
@[go_sem] theorem allD_nils (l : List AV) : allD (.nils :: l) = none := pf rfl
@[go_sem] theorem allD_ref (b g i n : Nat) (c : Option Nat) (l : List AV) : allD (.ref b g i n c :: l) = none := pf rfl
@[go_sem] theorem allD_np (l : List AV) : allD (.np :: l) = none := pf rfl
@[go_sem] theorem allD_nf (l : List AV) : allD (.nf :: l) = none := pf rfl
@[go_sem] theorem allD_ptr (b g i f : Nat) (l : List AV) : allD (.ptr b g i f :: l) = none := pf rfl
@[go_sem] theorem allD_clo (f : FuncId) (a b : List AV) (l : List AV) : allD (.fn f a b :: l) = none := pf rfl
@[go_sem] theorem allD_mp (b : Nat) (l : List AV) : allD (.mp b :: l) = none := pf rfl
@[go_sem] theorem allD_it (b : Nat) (l : List AV) : allD (.it b :: l) = none := pf rfl

def ldC (ag : Option Bool) (n : Nat) (cs : List D) : Option AV := if n = 0 then none else match ag with
    | some true => if n ≤ cs.length then some (.d (.agg (cs.take n))) else none
    | some false => cs.head?.map .d
    | none => none
@[go_sem] theorem aload_cptr (H : List AObj) (t : TypeId) (cs : List D) : aload P H t (.cptr cs) = ldC (tagg P t) (tcells P t) cs := pf rfl
@[go_sem] theorem ldC_one (x : D) (cs : List D) : ldC (some false) 1 (x :: cs) = some (.d x) := pf rfl

/-! fields -/
def afP (fi : Option (Nat × TypeId)) (n : Option Nat) (o : Option AObj) (b g i k : Nat) : Option AV := match fi, n, o with
  | some (off, _), some n, some (.row z g' _ _) => if n = 0 then none else if g' = g then if k + off < z then some (.ptr b g i (k + off)) else none else none
  | _, _, _ => none
@[go_sem] theorem afield_ptr (H : List AObj) (s f : Nat) (b g i k : Nat) : afield P H s f (.ptr b g i k) = afP (finfo P s f) ((finfo P s f).map fun p => tcells P p.2) (hget H b) b g i k := by
  unfold afield afP
  cases finfo P s f with
  | none => rfl
  | some p =>
    simp only [Option.map_some]
    split
    · rename_i h0
      cases hget H b with
      | none => rfl
      | some o => cases o <;> simp [h0]
    · rename_i h0
      cases hget H b with
      | none => rfl
      | some o => cases o <;> simp [h0]
@[go_sem] theorem afP_row (off ty n z g : Nat) (fz : Bool) (xs : List AV) (b i k : Nat) (h : 0 < n) (h2 : k + off < z) : afP (some (off, ty)) (some n) (some (.row z g fz xs)) b g i k = some (.ptr b g i (k + off)) := by
  have : n ≠ 0 := by omega
  simp [afP, this, h2]
def afC (fi : Option (Nat × TypeId)) (n : Option Nat) (cs : List D) : Option AV := match fi, n with
  | some (off, _), some n => if n = 0 then none else some (.cptr (cs.drop off))
  | _, _ => none
@[go_sem] theorem afield_cptr (H : List AObj) (s f : Nat) (cs : List D) : afield P H s f (.cptr cs) = afC (finfo P s f) ((finfo P s f).map fun p => tcells P p.2) cs := by
  unfold afield afC
  cases finfo P s f <;> rfl
@[go_sem] theorem afC_some (off ty n : Nat) (cs : List D) (h : 0 < n) : afC (some (off, ty)) (some n) cs = some (.cptr (cs.drop off)) := by
  have : n ≠ 0 := by omega
  simp [afC, this]
attribute [go_sem] List.drop_drop
def afV (fi : Option (Nat × TypeId)) (ag : Option Bool) (n : Option Nat) (a : AV) : Option AV := match fi, ag, n with
  | some (off, _), some ag, some n => if isAg a = true ∧ n ≠ 0 then subA ag a off n else none
  | _, _, _ => none
@[go_sem] theorem afieldV_def (s f : Nat) (a : AV) : afieldV P s f a = afV (finfo P s f) ((finfo P s f).bind fun p => tagg P p.2) ((finfo P s f).map fun p => tcells P p.2) a := by
  unfold afieldV afV
  cases finfo P s f with
  | none => rfl
  | some p =>
    simp only [Option.bind_some, Option.map_some]
    cases tagg P p.2 <;> rfl
attribute [go_sem] Option.bind_some
@[go_sem] theorem afV_some (off ty n : Nat) (ag : Bool) (a : AV) (h : 0 < n) (h2 : isAg a = true) : afV (some (off, ty)) (some ag) (some n) a = subA ag a off n := by
  have : n ≠ 0 := by omega
  simp [afV, this, h2]

/-! elements -/
def aiL (P : Program) (e : Option TypeId) (y : Option D) (xs : List D) : Option AV := match e, y with | some e, some y => if uni (tcells P e) xs = true then some (.cptr y.cells) else none | _, _ => none
@[go_sem] theorem aindexAddr_list (H : List AObj) (t : TypeId) (xs : List D) (k : IntKind) (n : Nat) : aindexAddr P H t (.d (.list xs)) (.d (.int k (n : Int))) = aiL P (elemT P t) xs[n]? xs := by
  unfold aindexAddr aiL
  cases elemT P t with
  | some e => simp; cases xs[n]? <;> simp
  | none =>
    simp only
    cases arrT P t with
    | none => rfl
    | some p => simp
@[go_sem] theorem aiL_some (e : TypeId) (y : D) (xs : List D) (h : uni (tcells P e) xs = true) : aiL P (some e) (some y) xs = some (.cptr y.cells) := by simp [aiL, h]

/-! stores -/
def stP (H : List AObj) (v : AV) (n : Nat) (b g i f : Nat) : Option AObj → Option (AV × List AObj)
  | some (.row z g' false xs) => if g' = g then match xs[i]? with
          | some e => if okv H v = true ∧ v.cells.length = n ∧ f + n ≤ z ∧ n ≠ 0 then some (.tup [], hset H b (.row z g false (xs.set i (putA e f v)))) else none
          | none => none
        else none
  | _ => none
def stV (P : Program) (H : List AObj) (t : TypeId) (p v : AV) : Option (AV × List AObj) := match p with
  | .ptr b g i f => stP H v (tcells P t) b g i f (hget H b)
  | _ => none
@[go_sem] theorem lop_store (tm : List AV) (H : List AObj) (t : TypeId) (p x : Operand) : lop P GT tm H (.store t p x) = stV P H t (ev GT tm p) (ev GT tm x) := by
  simp only [lop, stV]
  cases ev GT tm p with
  | ptr b g i f =>
    simp only [stP]
    cases hget H b with
    | none => rfl
    | some o => cases o with
      | map es => rfl
      | iter s p => rfl
      | row z g' fz xs => cases fz <;> rfl
  | _ => rfl
@[go_sem] theorem stV_ptr (H : List AObj) (t : TypeId) (v : AV) (b g i f : Nat) : stV P H t (.ptr b g i f) v = stP H v (tcells P t) b g i f (hget H b) := pf rfl
def stE (H : List AObj) (v : AV) (z b g i f : Nat) (xs : List AV) (e : Option AV) : Option (AV × List AObj) := match e with
  | some e => some (.tup [], hset H b (.row z g false (xs.set i (putA e f v))))
  | none => none
@[go_sem] theorem stP_row (H : List AObj) (v : AV) (n b g i f z : Nat) (xs : List AV) (h : okv H v = true) (h1 : csz v = n) (h2 : f + n ≤ z) (h3 : 0 < n) : stP H v n b g i f (some (.row z g false xs)) = stE H v z b g i f xs xs[i]? := by
  unfold csz at h1
  have : n ≠ 0 := by omega
  unfold stP stE
  simp only [if_true]
  cases xs[i]? <;> simp [h, h1, h2, this]
@[go_sem] theorem stE_some (H : List AObj) (v : AV) (z b g i f : Nat) (xs : List AV) (e : AV) : stE H v z b g i f xs (some e) = some (.tup [], hset H b (.row z g false (xs.set i (putA e f v)))) := pf rfl
@[go_sem] theorem putA_all (e v : AV) (f : Nat) (h : (csz v == csz e) = true) : putA e f v = v := by
  simp only [csz, beq_iff_eq] at h; simp [putA, h]
theorem putA_part (e v : AV) (f : Nat) (h : (csz v == csz e) = false) : putA e f v = mkA (e.cells.take f ++ v.cells ++ e.cells.drop (f + csz v)) := by
  simp only [csz, beq_eq_false_iff_ne, ne_eq] at h; simp [putA, h, csz]
@[go_sem] theorem putA_agg (cs : List AV) (v : AV) (f : Nat) (h : (csz v == cs.length) = false) : putA (.agg cs) f v = mkA (cs.take f ++ v.cells ++ cs.drop (f + csz v)) := putA_part _ _ _ h
@[go_sem] theorem putA_dagg (cs : List D) (v : AV) (f : Nat) (h : (csz v == cs.length) = false) : putA (.d (.agg cs)) f v = mkA ((cs.map .d).take f ++ v.cells ++ (cs.map .d).drop (f + csz v)) := putA_part _ _ _ (by simpa [csz_d, cells_agg] using h)

/-! at the end -/
@[go_sem] theorem pureR_d (ok : Nat → Bool) (H : List AObj) (n : Nat) (x : D) : pureR ok H n (.d x) = some (.d x) := by simp [pureR, pureA]
@[go_sem] theorem pureR_nils (ok : Nat → Bool) (H : List AObj) (n : Nat) : pureR ok H n .nils = some (.d (.list [])) := by simp [pureR, pureA]
@[go_sem] theorem pureR_tup (ok : Nat → Bool) (H : List AObj) (n : Nat) (vs : List AV) : pureR ok H n (.tup vs) = (pureL (pureA ok H n) vs).map fun ds => .tup (ds.map .d) := pf rfl
theorem pureK_d (H L : List AObj) (R : AV → Prop) (x : D) (h : R (.d x)) : pureK H R (.d x) (H ++ L) := ⟨L, .d x, rfl, by simp [pureR, pureA], h⟩
theorem pureK_d0 (H : List AObj) (R : AV → Prop) (x : D) (h : R (.d x)) : pureK H R (.d x) H := ⟨[], .d x, (List.append_nil H).symm, by simp [pureR, pureA], h⟩

end Go.Ab
