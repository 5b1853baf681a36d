/- The loud operations: store, map entries, append, copy. append and copy. append. append and copy, whole; every loud operation. copy; every loud operation. Calls, regions in order, code, bodies. -/
import Derived.Test.YtckjoghpknalcaaGreatDoorA1
import Derived.Laws.Append
import Derived.Laws.AppendOwn
import Derived.Lib.TrimU
import Derived.Scope
set_option linter.unusedVariables false
set_option linter.unusedSimpArgs false
set_option linter.unnecessarySimpa false
namespace Go.Ab

variable {P : Program} {GT : Globs} {w : World} {own : Nat → Slot} {H : List AObj}

theorem LX.of {s : Sem Unit} {H' : List AObj} {w' : World} {own' : Nat → Slot} (hr : s.run P w = .ok () w') (h1 : RelH GT w'.heap own' H') (h2 : Pass w.heap own H w'.heap own' H')
    (hk : Kp w w' := by first | exact Kp.refl _ | assumption | exact ⟨by assumption, by assumption⟩ | exact ⟨rfl, rfl⟩)
    (ha : ∀ b, b < H.length → own b = .no → own' b = .no := by exact fun _ _ h => h) : LX P GT w own H (do s; pure .skip) (.tup []) H' :=
  ⟨undef, w', own', .inr ⟨by simp [hr], rfl⟩, h1, h2, .tup [] [] rfl fun j v c hv => by simp at hv, ha, hk⟩
theorem LX.val {s : Sem Value} {H' : List AObj} {w' : World} {own' : Nat → Slot} {cv : Value} {v : AV} (hr : s.run P w = .ok cv w') (h1 : RelH GT w'.heap own' H') (h2 : Pass w.heap own H w'.heap own' H') (h3 : VR w' own' H' cv v)
    (hk : Kp w w' := by first | exact Kp.refl _ | assumption | exact ⟨by assumption, by assumption⟩ | exact ⟨rfl, rfl⟩)
    (ha : ∀ b, b < H.length → own b = .no → own' b = .no := by first | exact fun _ _ h => h | exact abs_upd (.inr (Nat.le_refl _)) | exact abs_upd (.inl (by simp [*]))) :
    LX P GT w own H (do pure (.value (← s))) v H' :=
  ⟨cv, w', own', .inl (by simp [hr]), h1, h2, h3, ha, hk⟩

theorem putA_cells {e v : AV} {f : Nat} (hf : f + v.cells.length ≤ e.cells.length) : (putA e f v).cells = e.cells.take f ++ v.cells ++ e.cells.drop (f + v.cells.length) := by
  unfold putA
  split
  · rename_i h
    have : f = 0 := by omega
    subst this
    simp only [List.take_zero, List.nil_append, Nat.zero_add]
    rw [List.drop_eq_nil_of_le (by omega), List.append_nil]
  · exact mkA_cells _

theorem store_sound (hR : RelH GT w.heap own H) {t : TypeId} {b g i f z : Nat} {xs : List AV} {e v : AV} {cp cv : Value} (hp : VR w own H cp (.ptr b g i f)) (hv : VR w own H cv v) (hb : hget H b = some (.row z g false xs))
    (he : xs[i]? = some e) (hk : okv H v = true) (hl : v.cells.length = tcells P t) (hf : f + tcells P t ≤ z) (h0 : tcells P t ≠ 0) :
    LX P GT w own H (do Instr.storeAt t cp cv; pure .skip) (.tup []) (hset H b (.row z g false (xs.set i (putA e f v)))) := by
  obtain ⟨c, ho, rfl, hi, hfz⟩ := hp.ptr_inv hb
  have hobj := hR.obj b c _ ho hb
  have hc0 := hv.to_cells hk
  obtain ⟨cur, ty, hc, hsz, hz0, hxz, hx⟩ := hobj
  have hez := hxz e (List.mem_of_getElem? he)
  have hcl : cv.cells.toList.length = tcells P t := by rw [hc0.1, hl]
  have hrow : (i + 1) * z ≤ xs.length * z := Nat.mul_le_mul_right z hi
  rw [Nat.add_mul] at hrow
  obtain ⟨w', hr, hw, hwo, hwp⟩ := run_storeCells (P := P) cv.cells.toList w cur (i * z + f) 0 hc (by omega) hc0.all_one
  simp only [Nat.add_zero] at hw
  have hgr : Grows (own b) (own b) (.row z g false xs) (.row z g false (xs.set i (putA e f v))) := ⟨false, _, g, rfl, fun _ => ⟨by simp, .inr rfl, fun hv' => by rw [ho] at hv'; cases hv'⟩⟩
  have hsz2 : ∀ n, sizeO (.cells cur ty (0, 0)) = some n → sizeO (.cells (putCells cur (i * z + f) cv.cells.toList) ty (0, 0)) = some n := by
    intro n hn; simp only [sizeO] at *; rw [putCells_size]; exact hn
  have hpc := putA_cells (e := e) (v := v) (f := f) (by omega)
  have hkp : Kp w w' := ⟨hwo, hwp⟩
  refine LX.of (w' := w') (own' := own) ?_ ?_ ?_
  · rw [Array.length_toList] at hcl
    simp only [Instr.storeAt, Instr.sureAddr, Sem.run_bind, Sem.run_pure, Result.andThen_ok, storeVar, run_size rfl h0, hcl, ne_eq, not_true_eq_false, if_false]
    exact hr
  · rw [hw]
    refine set_rel hR ho hb rfl hc (Nat.le_refl _) hgr hsz2 fun hps hc' => ?_
    refine ⟨_, ty, hc', by rw [putCells_size]; simpa using hsz, hz0, fun x hx' => ?_, fun i' x j a hi' hj => ?_⟩
    · rcases List.mem_or_eq_of_mem_set hx' with h | h
      · exact hxz x h
      · subst h; rw [hpc]; simp; omega
    · rw [putCells_get _ _ _ _ (by omega)]
      by_cases e1 : i = i'
      · subst e1
        rw [List.getElem?_set_self hi] at hi'; cases hi'
        rw [hpc] at hj
        by_cases h1 : j < f
        · rw [if_neg (by omega)]
          rw [List.append_assoc, List.getElem?_append_left (by simp; omega), List.getElem?_take, if_pos h1] at hj
          obtain ⟨u, q1, q2, q3⟩ := hx i e j a he hj
          exact ⟨u, q1, q2, q3.pass hps⟩
        · by_cases h2 : j < f + v.cells.length
          · rw [if_pos (by omega)]
            rw [List.getElem?_append_left (by simp; omega), List.getElem?_append_right (by simp; omega)] at hj
            have e3 : i * z + j - (i * z + f) = j - f := by omega
            rw [e3]
            have hlt : j - f < cv.cells.toList.length := by omega
            have : j - (e.cells.take f).length = j - f := by simp; omega
            rw [this] at hj
            obtain ⟨q1, q2⟩ := hc0.2 (j - f) _ a (List.getElem?_eq_getElem hlt) hj
            exact ⟨_, List.getElem?_eq_getElem hlt, q1, q2.pass hps⟩
          · rw [if_neg (by omega)]
            rw [List.getElem?_append_right (by simp; omega), List.getElem?_drop] at hj
            have : f + v.cells.length + (j - (e.cells.take f ++ v.cells).length) = j := by simp; omega
            rw [this] at hj
            obtain ⟨u, q1, q2, q3⟩ := hx i e j a he hj
            exact ⟨u, q1, q2, q3.pass hps⟩
      · rw [List.getElem?_set_ne e1] at hi'
        have hxz' := hxz x (List.mem_of_getElem? hi')
        have hjz : j < z := by have := (List.getElem?_eq_some_iff.1 hj).1; omega
        have hne : ¬ (i * z + f ≤ i' * z + j ∧ i' * z + j < i * z + f + cv.cells.toList.length) := by
          rcases Nat.lt_or_gt_of_ne e1 with h | h
          · have : (i + 1) * z ≤ i' * z := Nat.mul_le_mul_right z h
            rw [Nat.add_mul] at this; omega
          · have : (i' + 1) * z ≤ i * z := Nat.mul_le_mul_right z h
            rw [Nat.add_mul] at this; omega
        rw [if_neg hne]
        obtain ⟨u, q1, q2, q3⟩ := hx i' x j a hi' hj
        exact ⟨u, q1, q2, q3.pass hps⟩
  · rw [hw]; exact set_pass hR.inj ho hb rfl hc (Nat.le_refl _) hgr hsz2

theorem run_setObj {c : Nat} {ents : Array MapEntry} {clock : Nat} {o : Obj} (h : w.heap[c]? = some (.map ents clock)) : (setObj c o).run P w = .ok () { w with heap := w.heap.setIfInBounds c o } := by
  simp [setObj, Sem.run, h]

theorem sameS_spec {a b : D} (h : sameS a b = true) : a = b := by
  cases a <;> cases b <;> simp_all [sameS]
theorem sameL_spec : ∀ {a b : List D}, sameL a b = true → a = b
  | [], [], _ => rfl
  | x :: a, y :: b, h => by
    simp only [sameL, Bool.and_eq_true] at h
    rw [sameS_spec h.1, sameL_spec h.2]
  | [], _ :: _, h => by simp [sameL] at h
  | _ :: _, [], h => by simp [sameL] at h
theorem sameD_spec {a b : D} (h : sameD a b = true) : a = b := by
  unfold sameD at h
  split at h
  · rw [sameL_spec h]
  · exact sameS_spec h

theorem sameBits_single {n : Nat} {d : D} (hd : sameS d d = true) {u v : Value} {h : Array Obj} {S : Nat → Prop} (hu : Rep h S u d) (hv : Rep h S v d) : Instr.sameBits n u v = true := by
  cases hu <;> cases hv <;> simp_all [sameS, Instr.sameBits, beq_toListBytes]

theorem sameBits_sound {d : D} (hd : sameD d d = true) {u v : Value} (hu : Rep w.heap (Still w.heap own H) u d) (hv : Rep w.heap (Still w.heap own H) v d) : Instr.sameBits 10000 u v = true := by
  cases d with
  | agg cs =>
    obtain ⟨us, rfl, h1'⟩ := (RepA.d (own := own) (H := H) _ _ hu).ag_inv rfl
    obtain ⟨vs, rfl, h2'⟩ := (RepA.d (own := own) (H := H) _ _ hv).ag_inv rfl
    have h1 : CD w own H us cs := h1'
    have h2 : CD w own H vs cs := h2'
    clear h1' h2'
    have l1 : us.length = cs.length := by simpa using h1.1
    have l2 : vs.length = cs.length := by simpa using h2.1
    have hd' : sameL cs cs = true := hd
    simp only [Instr.sameBits, Bool.and_eq_true, beq_iff_eq]
    refine ⟨by simp; omega, ?_⟩
    clear hu hv hd
    induction cs generalizing us vs with
    | nil =>
      have : us = [] := by simpa using l1
      subst this; simp
    | cons c cs ih =>
      match us, vs, l1, l2 with
      | u :: us, v :: vs, l1, l2 =>
        simp only [sameL, Bool.and_eq_true] at hd'
        have a := (Cells.head h1).2.d_inv
        have b := (Cells.head h2).2.d_inv
        simp only [List.zip_cons_cons, List.all_cons, Bool.and_eq_true]
        exact ⟨sameBits_single hd'.1 a b, ih us vs (Cells.tail h1) (Cells.tail h2) (by simpa using l1) (by simpa using l2) hd'.2⟩
  | _ => exact sameBits_single (by exact hd) hu hv

theorem sameD_refl {a b : D} (h : sameD a b = true) : sameD a a = true := by
  have := sameD_spec h; subst this; exact h

theorem ents_put {h h' : Array Obj} {own' : Nat → Slot} {H H' : List AObj} (hp : Pass h own H h' own' H') {ents : Array MapEntry} {es : List (D × AV)}
    (hx : ∀ (i : Nat) e k v, ents[i]? = some e → es[i]? = some (k, v) → Rep h (Still h own H) e.key k ∧ RepA h (Still h own H) own H e.val v) :
    ∀ (i : Nat) e k v, ents[i]? = some e → es[i]? = some (k, v) → Rep h' (Still h' own' H') e.key k ∧ RepA h' (Still h' own' H') own' H' e.val v :=
  fun i e k v h1 h2 => let ⟨a, b⟩ := hx i e k v h1 h2; ⟨a.pass hp.still, b.pass hp⟩

theorem mapset_sound (hR : RelH GT w.heap own H) {t : TypeId} {m k x v : AV} {cm ck cx : Value} {H' : List AObj} (hm : VR w own H cm m) (hk : VR w own H ck k) (hx : VR w own H cx x) (hq : amapset P H t m k x = some (v, H')) :
    LX P GT w own H (do Instr.mapUpdate t cm ck cx; pure .skip) v H' := by
  unfold amapset at hq
  split at hq
  · rename_i kt et hmt
    split at hq
    · rename_i b kd
      split at hq
      · rename_i es hb
        split at hq
        · rename_i hc
          obtain ⟨hko, hkx⟩ := hc
          obtain ⟨es', hs, e⟩ := map_some hq
          cases e
          obtain ⟨c, es2, ho, hb', rfl⟩ := hm.mp_inv
          have hb0 : H[b]? = some (.map es) := hb
          rw [hb0] at hb'; cases hb'
          obtain ⟨ents, clock, h1, h2, h3⟩ := hR.obj b c _ ho hb0
          have hents : Ents w.heap (Still w.heap own H) ents.toList es := ⟨by simpa using h2, fun j e p e1 e2 => (h3 j e p.1 p.2 (by simpa using e1) e2).1⟩
          have hkr := hk.d_inv
          have hgr : ∀ es2, Grows (own b) (own b) (.map es) (.map es2) := fun es2 => ⟨⟨es2, rfl⟩, .inr rfl⟩
          have hsz2 : ∀ ents2 clock2 n, sizeO (.map ents clock) = some n → sizeO (.map ents2 clock2) = some n := by intro _ _ n hn; simp [sizeO] at hn
          rcases setE_I hs with ⟨h4, rfl⟩ | ⟨j, k', u, h4, h5, h6, rfl⟩
          · have hfk := run_findKey (P := P) (keyOK_some hko) hkr h4 hents
            refine LX.of (w' := { w with heap := w.heap.setIfInBounds c (.map (ents.push { key := ck, val := cx, born := clock }) (clock + 1)) }) (own' := own) (hk := ⟨rfl, rfl⟩) ?_ ?_ ?_
            · simp [Instr.mapUpdate, run_under (mapT_spec hmt), run_getObj h1, run_checkKey hko hkr, hfk, hit, run_setObj h1]
            · refine set_rel hR ho hb0 rfl h1 (Nat.le_refl _) (hgr _) (hsz2 _ _) fun hps hc' => ?_
              refine ⟨_, _, hc', by simp [h2], fun i e k v e1 e2 => ?_⟩
              rw [Array.getElem?_push] at e1
              split at e1
              · rename_i hi
                cases e1
                rw [hi, h2, List.getElem?_append_right (Nat.le_refl _)] at e2
                simp at e2
                obtain ⟨rfl, rfl⟩ := e2
                exact ⟨hkr.pass hps.still, hx.pass hps⟩
              · have hlt := (Array.getElem?_eq_some_iff.1 e1).1
                rw [List.getElem?_append_left (by omega)] at e2
                exact ents_put hps h3 i e k v e1 e2
            · exact set_pass hR.inj ho hb0 rfl h1 (Nat.le_refl _) (hgr _) (hsz2 _ _)
          · have hfk := run_findKey (P := P) (keyOK_some hko) hkr h4 hents
            have hj : j < ents.size := by rw [h2]; exact (List.getElem?_eq_some_iff.1 h5).1
            obtain ⟨hold, _⟩ := h3 j ents[j] k' u (Array.getElem?_eq_getElem hj) h5
            have hhit : hit ents.toList 0 (some j) = some (j, ents[j].val) := by simp [hit, hj]
            rw [hhit] at hfk
            have hkk := sameD_spec h6
            subst hkk
            have hbits := sameBits_sound (own := own) (H := H) h6 hold hkr
            have hstay : (Instr.keyThatStays ents[j].key ck).run P w = .ok ck w := by simp [Instr.keyThatStays, hbits]
            refine LX.of (w' := { w with heap := w.heap.setIfInBounds c (.map (ents.modify j fun e => { e with key := ck, val := cx }) clock) }) (own' := own) (hk := ⟨rfl, rfl⟩) ?_ ?_ ?_
            · simp [Instr.mapUpdate, run_under (mapT_spec hmt), run_getObj h1, run_checkKey hko hkr, hfk, hj, hstay, run_setObj h1]
            · refine set_rel hR ho hb0 rfl h1 (Nat.le_refl _) (hgr _) (hsz2 _ _) fun hps hc' => ?_
              refine ⟨_, _, hc', by simp [h2], fun i e k v e1 e2 => ?_⟩
              rw [Array.getElem?_modify] at e1
              by_cases hij : j = i
              · subst hij
                rw [if_pos rfl] at e1
                simp [hj] at e1
                subst e1
                rw [List.getElem?_set_self (by omega)] at e2
                simp at e2
                obtain ⟨rfl, rfl⟩ := e2
                exact ⟨hkr.pass hps.still, hx.pass hps⟩
              · rw [if_neg hij] at e1
                rw [List.getElem?_set_ne hij] at e2
                exact ents_put hps h3 i e k v e1 e2
            · exact set_pass hR.inj ho hb0 rfl h1 (Nat.le_refl _) (hgr _) (hsz2 _ _)
        · cases hq
      · cases hq
    · cases hq
  · cases hq

end Go.Ab

namespace Go.Ab

variable {P : Program} {GT : Globs} {w : World} {own : Nat → Slot} {H : List AObj}

theorem flat_drop {z : Nat} : ∀ {xs : List AV}, (∀ x ∈ xs, x.cells.length = z) → ∀ i, (xs.drop i).flatMap AV.cells = (xs.flatMap AV.cells).drop (i * z)
  | [], _, i => by simp
  | x :: xs, _, 0 => by simp
  | x :: xs, hz, i + 1 => by
    have h := hz x (by simp)
    simp only [List.drop_succ_cons, List.flatMap_cons]
    have e : (i + 1) * z = x.cells.length + i * z := by rw [Nat.add_mul, h]; omega
    rw [flat_drop (fun y hy => hz y (by simp [hy])) i, e, ← List.drop_drop, List.drop_left]
theorem flat_take {z : Nat} : ∀ {xs : List AV}, (∀ x ∈ xs, x.cells.length = z) → ∀ i, (xs.take i).flatMap AV.cells = (xs.flatMap AV.cells).take (i * z)
  | [], _, i => by simp
  | x :: xs, _, 0 => by simp
  | x :: xs, hz, i + 1 => by
    have h := hz x (by simp)
    simp only [List.take_succ_cons, List.flatMap_cons]
    have e : (i + 1) * z = x.cells.length + i * z := by rw [Nat.add_mul, h]; omega
    rw [flat_take (fun y hy => hz y (by simp [hy])) i, e, List.take_length_add_append]

/-- all the cells of a row -/
theorem row_cells {h : Array Obj} {S : Nat → Prop} {c z g : Nat} {fz : Bool} {xs : List AV} (ho : ObjRel h S own H c (.row z g fz xs)) :
    ∃ cur e, h[c]? = some (.cells cur e (0, 0)) ∧ xs.length * z ≤ cur.size ∧ 0 < z ∧ (∀ x ∈ xs, x.cells.length = z) ∧ Cells h S own H (cur.toList.take (xs.length * z)) (xs.flatMap AV.cells) := by
  obtain ⟨cur, e, hc, hl, hz0, hz, hx⟩ := ho
  refine ⟨cur, e, hc, hl, hz0, hz, ?_, fun q v a hv ha => ?_⟩
  · rw [flat_len hz]; simp; omega
  · have hq : q < xs.length * z := by have := (List.getElem?_eq_some_iff.1 ha).1; rwa [flat_len hz] at this
    rw [List.getElem?_take, if_pos hq] at hv
    have hqi : q / z < xs.length := (Nat.div_lt_iff_lt_mul hz0).2 hq
    have hqj : q % z < z := Nat.mod_lt _ hz0
    have e1 : q / z * z + q % z = q := Nat.div_add_mod' q z
    have hf := flat_get hz (List.getElem?_eq_getElem hqi) hqj
    rw [e1, ha] at hf
    obtain ⟨u, h1, h2, h3⟩ := hx _ _ _ a (List.getElem?_eq_getElem hqi) hf.symm
    rw [e1] at h1
    have : v = u := by simp at hv; rw [hv] at h1; exact Option.some.inj h1
    subst this
    exact ⟨h2, h3⟩

/-- what is appended, on the machine -/
def Src (P : Program) (w : World) (own : Nat → Slot) (H : List AObj) (z : Nat) (cx : Value) (ys : List AV) : Prop :=
  ∃ us : List Value, (Builtin.lenOf cx).run P w = .ok ys.length w ∧ (∀ (w' : World) (n : Nat), w'.heap = w.heap → n ≤ ys.length → (Builtin.firstCells z n cx).run P w' = .ok (us.take (n * z)).toArray w') ∧
    Cells w.heap (Still w.heap own H) own H us (ys.flatMap AV.cells) ∧ ∀ y ∈ ys, y.cells.length = z

theorem src_slice {z b off cap : Nat} {ys : List AV} {us : List Value} (hz : ∀ y ∈ ys, y.cells.length = z) (hc : Cells w.heap (Still w.heap own H) own H us (ys.flatMap AV.cells))
    (hl : ∀ j u, us[j]? = some u → cellAt w.heap b (off + j) = some u) : Src P w own H z (.slice (some ⟨b, off, none⟩) ys.length cap) ys := by
  refine ⟨us, by simp [Builtin.lenOf], fun w' n hw hn => ?_, hc, hz⟩
  have hul : us.length = ys.length * z := by rw [hc.1, flat_len hz]
  have hle : n * z ≤ ys.length * z := Nat.mul_le_mul_right z hn
  have := run_loadMany (P := P) (w := w') (b := b) (o := off) (us.take (n * z)) (fun j u hj => by
    rw [hw]
    rw [List.getElem?_take] at hj
    split at hj
    · exact hl j u hj
    · cases hj)
  simp only [Builtin.firstCells]
  rwa [List.length_take, Nat.min_eq_left (by omega)] at this

theorem src_sound (hR : RelH GT w.heap own H) {z : Nat} (hz0 : 0 < z) {x : AV} {cx : Value} {ys : List AV} (hx : VR w own H cx x) (hs : srcs H z x = some ys) : Src P w own H z cx ys := by
  unfold srcs at hs
  split at hs
  · cases hs
    obtain rfl := hx.nils_inv
    exact ⟨[], by simp [Builtin.lenOf], fun w' n hw hn => by simp [Builtin.firstCells], .nil, by simp⟩
  · rename_i xs
    split at hs
    · rename_i hu
      cases hs
      have hzz := uni_spec hu
      have hz' : ∀ y ∈ xs.map AV.d, y.cells.length = z := by
        intro y hy
        simp only [List.mem_map] at hy
        obtain ⟨d, hd, rfl⟩ := hy
        have := hzz d hd
        cases d <;> simpa [AV.cells, D.cells] using this
      have hcells : ∀ d : D, (AV.d d).cells = d.cells.map .d := by intro d; cases d <;> rfl
      rcases hx.d_inv.list_inv with ⟨rfl, rfl⟩ | ⟨b, off, cap, z', f, rfl, hS, hcap, hmax, hz2, hc, hr⟩ | ⟨a, rfl, rfl⟩
      rotate_left 2
      · refine ⟨[], by simp [Builtin.lenOf], fun w' n hw hn => ?_, .nil, by simp⟩
        obtain rfl : n = 0 := by simpa using hn
        simp [Builtin.firstCells, loadCells, loadCellsFrom]
      · exact ⟨[], by simp [Builtin.lenOf], fun w' n hw hn => by simp [Builtin.firstCells], .nil, by simp⟩
      · have key : ∀ q, q < xs.length * z → ∃ c, ((xs.map AV.d).flatMap AV.cells)[q]? = some (.d c) ∧ cellAt w.heap b (off + q) = some (f (q / z) (q % z)) ∧ one (f (q / z) (q % z)) = true ∧ Rep w.heap (Still w.heap own H) (f (q / z) (q % z)) c := by
          intro q hq
          have hqi : q / z < xs.length := (Nat.div_lt_iff_lt_mul hz0).2 hq
          have hqj : q % z < z := Nat.mod_lt _ hz0
          have e1 : q / z * z + q % z = q := Nat.div_add_mod' q z
          have hxi := List.getElem?_eq_getElem hqi
          have hlen := hzz _ (List.getElem_mem hqi)
          have hlen2 := hz2 _ (List.getElem_mem hqi)
          have hxj : (xs[q / z]).cells[q % z]? = some ((xs[q / z]).cells[q % z]'(by omega)) := List.getElem?_eq_getElem _
          have hf := flat_get hz' (i := q / z) (x := .d xs[q / z]) (j := q % z) (by simp [hxi]) hqj
          rw [e1, hcells, List.getElem?_map, hxj] at hf
          obtain ⟨h1, h2⟩ := hc _ _ _ _ hxi hxj
          have hzeq : z' = z := by omega
          rw [hzeq, Nat.add_assoc, e1] at h1
          exact ⟨_, hf, h1, h2, hr _ _ _ _ hxi hxj⟩
        have := src_slice (P := P) (w := w) (own := own) (H := H) (b := b) (off := off) (cap := cap) (ys := xs.map .d) (us := (List.range (xs.length * z)).map fun q => f (q / z) (q % z)) hz' ⟨by rw [flat_len hz']; simp, fun q v a hv ha => by
            have hq : q < xs.length * z := by have := (List.getElem?_eq_some_iff.1 ha).1; rw [flat_len hz'] at this; simpa using this
            obtain ⟨c, h1, h2, h3, h4⟩ := key q hq
            rw [h1] at ha; cases ha
            simp [List.getElem?_range hq] at hv
            subst hv
            exact ⟨h3, .d _ _ h4⟩⟩ (fun j u hj => by
            have hq : j < xs.length * z := by have := (List.getElem?_eq_some_iff.1 hj).1; simpa using this
            obtain ⟨c, h1, h2, h3, h4⟩ := key j hq
            simp [List.getElem?_range hq] at hj
            rw [← hj]; exact h2)
        simpa using this
    · cases hs
  · rename_i b g i n cap
    split at hs
    · rename_i z' g' fz xs hb
      split at hs
      · rename_i hc
        obtain ⟨rfl, rfl⟩ := hc
        cases hs
        rcases hx.ref_inv hb with ⟨c, capc, off, sz, ho, rfl, hin, hcap, hmax, hk, hoff, hs, hsz⟩ | ⟨ho, rfl, rfl, rfl, rfl, hk⟩
        · obtain ⟨cur, e, hcur, hl, _, hz, hcells⟩ := row_cells (hR.obj b c _ ho hb)
          have hzd : ∀ y ∈ (xs.drop i).take n, y.cells.length = z' := fun y hy => hz y (List.mem_of_mem_drop (List.mem_of_mem_take hy))
          have hlen : ((xs.drop i).take n).length = n := by simp; omega
          have hcc := (hcells.drop (i * z')).take (n * z')
          have e2 : ((xs.drop i).take n).flatMap AV.cells = ((xs.flatMap AV.cells).drop (i * z')).take (n * z') := by
            rw [flat_take (fun y hy => hz y (List.mem_of_mem_drop hy)), flat_drop hz]
          rw [← e2] at hcc
          have := src_slice (P := P) (w := w) (own := own) (H := H) (b := c) (off := off) (cap := capc) hzd hcc (fun j u hj => by
            have hn0 : j < n * z' := by
              have := (List.getElem?_eq_some_iff.1 hj).1; simp at this; omega
            have hoff' : off = i * z' := by
              rcases hoff with h | h
              · exact h
              · have : n = 0 := by omega
                subst this; omega
            rw [List.getElem?_take, if_pos hn0, List.getElem?_drop, List.getElem?_take] at hj
            split at hj
            · rw [hoff']
              simp only [cellAt, hcur]
              simpa using hj
            · cases hj)
          rwa [hlen] at this
        · exact ⟨[], by simp [Builtin.lenOf], fun w' n hw hn => by simp [Builtin.firstCells], by simpa using Cells.nil, by simp⟩
      · cases hs
    · cases hs
  · rename_i s
    split at hs
    · rename_i hz1
      subst hz1
      cases hs
      cases hx.d_inv with
      | str _ hss =>
      have hz' : ∀ y ∈ s.data.toList.map (fun b => AV.d (.int .u8 b.toNat)), y.cells.length = 1 := by
        intro y hy
        simp only [List.mem_map] at hy
        obtain ⟨d, hd, rfl⟩ := hy
        rfl
      refine ⟨s.data.toList.map fun b => Value.int .u8 b.toNat, by simp only [Builtin.lenOf, Sem.run_pure, List.length_map, Array.length_toList]; rfl, fun w' n hw hn => ?_, ⟨by rw [flat_len hz']; simp, fun q v a hv ha => ?_⟩, hz'⟩
      · simp only [Builtin.firstCells, Sem.run_pure, Nat.mul_one]
        congr 1
        apply Array.ext'
        simp [ByteArray.data_extract, List.map_take]
      · have hq : q < s.data.toList.length := by have := (List.getElem?_eq_some_iff.1 hv).1; simpa using this
        have hf := flat_get hz' (i := q) (x := .d (.int .u8 (s.data.toList[q]).toNat)) (j := 0) (by simp [List.getElem?_eq_getElem hq]) (by omega)
        simp only [Nat.mul_one, Nat.add_zero] at hf
        rw [ha] at hf
        simp [AV.cells] at hf
        simp [List.getElem?_eq_getElem hq] at hv
        subst hf; subst hv
        refine ⟨rfl, .int _ _ ⟨by simp [IntKind.min, IntKind.signed], ?_⟩⟩
        have := (s.data[q]).toNat_lt; simp [IntKind.max, IntKind.signed, IntKind.bits]; omega
    · cases hs
  · cases hs

end Go.Ab

namespace Go.Ab

variable {P : Program} {GT : Globs} {w : World} {own : Nat → Slot} {H : List AObj}

def srcT (P : Program) (t' : TypeId) : Prop := (elemT P t').isSome = true ∨ strT P t' = true
theorem srcT_cases {t' : TypeId} (h : srcT P t') : (∃ e', P.underlying t' = some (.slice e')) ∨ P.underlying t' = some .string := by
  rcases h with h | h
  · obtain ⟨e, he⟩ := Option.isSome_iff_exists.1 h
    exact .inl ⟨e, elemT_spec he⟩
  · exact .inr (strT_spec h)

theorem zeroCells_len (z : Array Value) (n : Nat) : (Builtin.zeroCells z n).toList.length = n * z.size := by simp [Builtin.zeroCells]

/-- append within the capacity -/
theorem run_append_in {t t' ty e : TypeId} (he : elemT P t = some e) (hz : tcells P e ≠ 0) (ht' : srcT P t') {c off n capc : Nat} {cx : Value} {ys : List AV} {us : List Value}
    (hlen : (Builtin.lenOf cx).run P w = .ok ys.length w) (hfirst : (Builtin.firstCells (tcells P e) ys.length cx).run P w = .ok us.toArray w) (hfit : n + ys.length ≤ capc) :
    (Builtin.append_ #[t, t'] ty #[.slice (some ⟨c, off, none⟩) n capc, cx]).run P w =
      ((storeCells ⟨c, off + n * tcells P e, none⟩ us).run P w).andThen fun _ w' => .ok (.slice (some ⟨c, off, none⟩) (n + ys.length) capc) w' := by
  rcases srcT_cases ht' with ⟨e', h'⟩ | h' <;>
    simp [Builtin.append_, run_under (elemT_spec he), run_size rfl hz, run_under h', hlen, hfirst, hfit, addr_add]

theorem run_append_in_nil {t t' ty e : TypeId} (he : elemT P t = some e) (hz : tcells P e ≠ 0) (ht' : srcT P t') {cx : Value} {us : List Value}
    (hlen : (Builtin.lenOf cx).run P w = .ok 0 w) (hfirst : (Builtin.firstCells (tcells P e) 0 cx).run P w = .ok us.toArray w) :
    (Builtin.append_ #[t, t'] ty #[.slice none 0 0, cx]).run P w = .ok (.slice none 0 0) w := by
  rcases srcT_cases ht' with ⟨e', h'⟩ | h' <;>
    simp [Builtin.append_, run_under (elemT_spec he), run_size rfl hz, run_under h', hlen, hfirst]

theorem run_append_emp {t t' ty e : TypeId} (he : elemT P t = some e) (hz : tcells P e ≠ 0) (ht' : srcT P t') {a : Addr} {cx : Value}
    (hlen : (Builtin.lenOf cx).run P w = .ok 0 w) (hfirst : (Builtin.firstCells (tcells P e) 0 cx).run P w = .ok ([] : List Value).toArray w) :
    (Builtin.append_ #[t, t'] ty #[.slice (some a) 0 0, cx]).run P w = .ok (.slice (some a) 0 0) w := by
  rcases srcT_cases ht' with ⟨e', h'⟩ | h' <;>
    simp [Builtin.append_, run_under (elemT_spec he), run_size rfl hz, run_under h', hlen, hfirst, storeCells]

/-- append that grows -/
theorem run_append_grow {t t' ty e : TypeId} (he : elemT P t = some e) (hz : tcells P e ≠ 0) (ht' : srcT P t') {a : AV} (hza : tzero P e = some a) (hzc : ∀ i v, P.info? e = some i → i.zero = some v → v.cells.size = tcells P e)
    {base : Option Addr} {n capc m : Nat} {cx : Value} {os us : List Value} (hlen : (Builtin.lenOf cx).run P w = .ok m w) (hfirst : ∀ w', w'.heap = w.heap → (Builtin.firstCells (tcells P e) m cx).run P w' = .ok us.toArray w')
    (hold : ∀ w', w'.heap = w.heap → (Builtin.firstCells (tcells P e) n (.slice base n capc)).run P w' = .ok os.toArray w') (hgrow : capc < n + m) (hb : (n + m) * tbytes P e ≤ 140737488355328) (hm : n + m ≤ 140737488355328) :
    ∃ (cap' : Nat) (rest : List Value) (w' : World), n + m ≤ cap' ∧ cap' ≤ maxN ∧ rest.length = (cap' - (n + m)) * tcells P e ∧ (w'.heap = w.heap.push (.cells (os ++ us ++ rest).toArray e) ∧ w'.os = w.os ∧ w'.output = w.output) ∧
      (Builtin.append_ #[t, t'] ty #[.slice base n capc, cx]).run P w = .ok (.slice (some ⟨w.heap.size, 0, none⟩) (n + m) cap') w' := by
  obtain ⟨i, v, hi, hv, _⟩ := tzero_spec hza
  have hby : i.bytes = tbytes P e := by simp [tbytes, hi]
  have hzs := hzc i v hi hv
  have hg := growslice_fits (bytes := i.bytes) hgrow (by rw [hby]; exact hb)
  have hn1 : ¬ (281474976710656 < Builtin.nextslicecap (n + m) capc * i.bytes) := by omega
  have hn2 : ¬ (9223372036854775807 < ((n : Int) + (m : Int))) := by omega
  have hn3 : ¬ (n + m ≤ capc) := by omega
  have hge := grownCap_ge w (n + m) capc e
  have hle := grownCap_le_maxLen w (n + m) capc e (by unfold maxLen; omega)
  have hfo := hold w.drew rfl
  have hfu := hfirst w.drew rfl
  refine ⟨grownCap w (n + m) capc e, (Builtin.zeroCells v.cells (grownCap w (n + m) capc e - (n + m))).toList, w.drew.alloc (.cells (os.toArray ++ us.toArray ++ Builtin.zeroCells v.cells (grownCap w (n + m) capc e - (n + m))) e), hge, by unfold maxLen at hle; unfold maxN; omega, by rw [zeroCells_len, hzs], ?_, ?_⟩
  · have harr : os.toArray ++ us.toArray ++ Builtin.zeroCells v.cells (grownCap w (n + m) capc e - (n + m)) = (os ++ us ++ (Builtin.zeroCells v.cells (grownCap w (n + m) capc e - (n + m))).toList).toArray := by apply Array.ext'; simp
    rw [harr]
    exact ⟨rfl, rfl, rfl⟩
  · rcases srcT_cases ht' with ⟨e', h'⟩ | h' <;>
      (simp [Builtin.append_, run_under (elemT_spec he), run_size rfl hz, run_under h', hlen, hn3, run_info hi, hn1, hn2, hfo, hfu, run_zero hi hv, newRow, newObj, Sem.run, Question.forced, grownCap]; congr 2; apply Array.ext'; simp)

/-- a new block at the heap's end, of what the run has there -/
theorem ext_rel {h : Array Obj} (hR : RelH GT h own H) (N : List AObj) : RelH GT h own (H ++ N) ∧ Pass h own H h own (H ++ N) := by
  have hp : Pass h own H h own (H ++ N) := by
    refine ⟨Nat.le_refl _, fun c hc => ⟨⟨hc.1, fun b o ho hb => ?_⟩, rfl⟩, fun b o hb => ?_, fun _ _ h => h⟩
    · obtain ⟨o', ho'⟩ := hR.has (b := b) (by rw [ho]; simp)
      have hlt := (List.getElem?_eq_some_iff.1 ho').1
      rw [List.getElem?_append_left hlt] at hb
      exact hc.2 b o ho hb
    · have hlt := (List.getElem?_eq_some_iff.1 hb).1
      refine ⟨o, by rw [List.getElem?_append_left hlt]; exact hb, Nat.le_refl _, ?_⟩
      cases o with
      | row z g fz xs => exact ⟨fz, xs, g, rfl, fun _ => ⟨rfl, .inr rfl, fun _ h => h⟩⟩
      | map es => exact ⟨⟨es, rfl⟩, .inr rfl⟩
      | iter s p => exact ⟨⟨p, rfl⟩, .inr rfl⟩
  refine ⟨⟨fun b hb => hR.out b (by simp at hb; omega), hR.inj, fun b c o ho hb => ?_, fun b hb => ?_, fun g cs hg => (hR.glob g cs hg).pass hp⟩, hp⟩
  · obtain ⟨o', ho'⟩ := hR.has (b := b) (by rw [ho]; simp)
    have hlt := (List.getElem?_eq_some_iff.1 ho').1
    rw [List.getElem?_append_left hlt] at hb
    exact (hR.obj b c o ho hb).pass hp rfl
  · obtain ⟨z, g, fz, h1, h2⟩ := hR.virt b hb
    have hlt := (List.getElem?_eq_some_iff.1 h1).1
    exact ⟨z, g, fz, by rw [List.getElem?_append_left hlt]; exact h1, h2⟩

/-- an abstract row that stands for a nil slice -/
theorem virt_rel {h : Array Obj} {b z : Nat} (hR : RelH GT h own H) (hno : own b = .no) (hb : H[b]? = some (.row z 0 false [])) (hz : 0 < z) :
    RelH GT h (upd own b .virt) H ∧ Pass h own H h (upd own b .virt) H := by
  have hp : Pass h own H h (upd own b .virt) H := by
    refine ⟨Nat.le_refl _, fun c hc => ⟨⟨hc.1, fun b' o ho hb' => ?_⟩, rfl⟩, fun b' o hb' => ⟨o, hb', Nat.le_refl _, ?_⟩, fun _ _ h => h⟩
    · by_cases e : b' = b
      · subst e; rw [upd_eq] at ho; cases ho
      · rw [upd_ne _ _ e] at ho; exact hc.2 b' o ho hb'
    · have hk : own b' = .no ∨ upd own b .virt b' = own b' := by
        by_cases e : b' = b
        · subst e; exact .inl hno
        · exact .inr (upd_ne _ _ e)
      cases o with
      | row z g fz xs => exact ⟨fz, xs, g, rfl, fun _ => ⟨rfl, hk, fun _ h => h⟩⟩
      | map es => exact ⟨⟨es, rfl⟩, hk⟩
      | iter s p => exact ⟨⟨p, rfl⟩, hk⟩
  refine ⟨⟨fun b' hb' => ?_, fun x y c hx hy => ?_, fun b' c o ho hb' => ?_, fun b' hb' => ?_, fun g cs hg => (hR.glob g cs hg).pass hp⟩, hp⟩
  · have hlt := (List.getElem?_eq_some_iff.1 hb).1
    rw [upd_ne _ _ (by omega)]; exact hR.out b' hb'
  · by_cases e : x = b
    · subst e; rw [upd_eq] at hx; cases hx
    · by_cases e' : y = b
      · subst e'; rw [upd_eq] at hy; cases hy
      · rw [upd_ne _ _ e] at hx; rw [upd_ne _ _ e'] at hy; exact hR.inj x y c hx hy
  · by_cases e : b' = b
    · subst e; rw [upd_eq] at ho; cases ho
    · rw [upd_ne _ _ e] at ho; exact (hR.obj b' c o ho hb').pass hp rfl
  · by_cases e : b' = b
    · subst e; exact ⟨z, 0, false, hb, hz⟩
    · rw [upd_ne _ _ e] at hb'; exact hR.virt b' hb'

end Go.Ab

namespace Go.Ab

variable {P : Program} {GT : Globs} {w : World} {own : Nat → Slot} {H : List AObj}

/-- a row that has got a new block of the machine, and a new generation -/
theorem move_pass {h : Array Obj} {b z g : Nat} {fz : Bool} {xs xs' : List AV} (hb : H[b]? = some (.row z g fz xs)) (ob : Obj) :
    Pass h own H (h.push ob) (upd own b (.at h.size)) (H.set b (.row z (g + 1) false xs')) where
  size := by simp
  still c hc := by
    refine ⟨⟨by have := hc.1; simp; omega, fun b' o ho hb' => ?_⟩, push_same hc.1⟩
    by_cases e : b' = b
    · subst e; rw [upd_eq] at ho; cases ho; exact absurd hc.1 (Nat.lt_irrefl _)
    · rw [upd_ne _ _ e] at ho
      rw [List.getElem?_set_ne (fun x => e x.symm)] at hb'
      exact hc.2 b' o ho hb'
  ext b' o hb' := by
    by_cases e : b' = b
    · subst e
      rw [hb] at hb'; cases hb'
      have hlt := (List.getElem?_eq_some_iff.1 hb).1
      exact ⟨_, by rw [List.getElem?_set_self hlt], by simp [AObj.gen], false, xs', g + 1, rfl, fun e => by omega⟩
    · refine ⟨o, by rw [List.getElem?_set_ne (fun x => e x.symm)]; exact hb', Nat.le_refl _, ?_⟩
      rw [upd_ne _ _ e]
      cases o with
      | row z g fz xs => exact ⟨fz, xs, g, rfl, fun _ => ⟨rfl, .inr rfl, fun _ h => h⟩⟩
      | map es => exact ⟨⟨es, rfl⟩, .inr rfl⟩
      | iter s p => exact ⟨⟨p, rfl⟩, .inr rfl⟩
  rows c n hn := by
    unfold rowSize at *
    cases e : h[c]? with
    | none => simp [e] at hn
    | some ob =>
      have hc : c < h.size := (Array.getElem?_eq_some_iff.1 e).1
      rw [push_same hc]; exact hn

theorem move_rel {h : Array Obj} {b z g : Nat} {fz : Bool} {xs xs' : List AV} (hR : RelH GT h own H) (hb : H[b]? = some (.row z g fz xs)) (ob : Obj)
    (hnew : Pass h own H (h.push ob) (upd own b (.at h.size)) (H.set b (.row z (g + 1) false xs')) →
      ObjRel (h.push ob) (Still (h.push ob) (upd own b (.at h.size)) (H.set b (.row z (g + 1) false xs'))) (upd own b (.at h.size)) (H.set b (.row z (g + 1) false xs')) h.size (.row z (g + 1) false xs')) :
    RelH GT (h.push ob) (upd own b (.at h.size)) (H.set b (.row z (g + 1) false xs')) := by
  have hp := move_pass (own := own) (h := h) (xs' := xs') hb ob
  have hlt := (List.getElem?_eq_some_iff.1 hb).1
  refine ⟨fun b' hb' => ?_, fun x y c hx hy => ?_, fun b' c o ho hb' => ?_, fun b' hv => ?_, fun g cs hg => (hR.glob g cs hg).pass hp⟩
  · simp at hb'
    rw [upd_ne _ _ (by omega)]; exact hR.out b' hb'
  · by_cases e : x = b <;> by_cases e' : y = b
    · rw [e, e']
    · subst e; rw [upd_eq] at hx; cases hx; rw [upd_ne _ _ e'] at hy; exact absurd (hR.lt hy) (Nat.lt_irrefl _)
    · subst e'; rw [upd_eq] at hy; cases hy; rw [upd_ne _ _ e] at hx; exact absurd (hR.lt hx) (Nat.lt_irrefl _)
    · rw [upd_ne _ _ e] at hx; rw [upd_ne _ _ e'] at hy; exact hR.inj x y c hx hy
  · by_cases e : b' = b
    · subst e
      rw [upd_eq] at ho; cases ho
      rw [List.getElem?_set_self hlt] at hb'; cases hb'
      exact hnew hp
    · rw [upd_ne _ _ e] at ho
      rw [List.getElem?_set_ne (fun x => e x.symm)] at hb'
      exact (hR.obj b' c o ho hb').pass hp (push_same (hR.lt ho))
  · by_cases e : b' = b
    · subst e; rw [upd_eq] at hv; cases hv
    · rw [upd_ne _ _ e] at hv
      obtain ⟨z, g, fz, h1, h2⟩ := hR.virt b' hv
      exact ⟨z, g, fz, by rw [List.getElem?_set_ne (fun x => e x.symm)]; exact h1, h2⟩

theorem bump_rel {h : Array Obj} {b z g : Nat} {fz : Bool} (hR : RelH GT h own H) (hb : H[b]? = some (.row z g fz [])) (hv : own b = .virt) :
    RelH GT h own (H.set b (.row z (g + 1) false [])) ∧ Pass h own H h own (H.set b (.row z (g + 1) false [])) := by
  have hlt := (List.getElem?_eq_some_iff.1 hb).1
  have hp : Pass h own H h own (H.set b (.row z (g + 1) false [])) := by
    refine ⟨Nat.le_refl _, fun c hc => ⟨⟨hc.1, fun b' o ho hb' => ?_⟩, rfl⟩, fun b' o hb' => ?_, fun _ _ h => h⟩
    · by_cases e : b' = b
      · subst e; rw [hv] at ho; cases ho
      · rw [List.getElem?_set_ne (fun x => e x.symm)] at hb'; exact hc.2 b' o ho hb'
    · by_cases e : b' = b
      · subst e
        rw [hb] at hb'; cases hb'
        exact ⟨_, by rw [List.getElem?_set_self hlt], by simp [AObj.gen], false, [], g + 1, rfl, fun e => by omega⟩
      · refine ⟨o, by rw [List.getElem?_set_ne (fun x => e x.symm)]; exact hb', Nat.le_refl _, ?_⟩
        cases o with
        | row z g fz xs => exact ⟨fz, xs, g, rfl, fun _ => ⟨rfl, .inr rfl, fun _ h => h⟩⟩
        | map es => exact ⟨⟨es, rfl⟩, .inr rfl⟩
        | iter s p => exact ⟨⟨p, rfl⟩, .inr rfl⟩
  refine ⟨⟨fun b' hb' => hR.out b' (by simpa using hb'), hR.inj, fun b' c o ho hb' => ?_, fun b' hv' => ?_, fun g cs hg => (hR.glob g cs hg).pass hp⟩, hp⟩
  · have hne : b' ≠ b := by intro e; subst e; rw [hv] at ho; cases ho
    rw [List.getElem?_set_ne (fun x => hne x.symm)] at hb'
    exact (hR.obj b' c o ho hb').pass hp rfl
  · by_cases e : b' = b
    · subst e
      obtain ⟨z', g', fz', h1, h2⟩ := hR.virt b' hv'
      rw [hb] at h1; cases h1
      exact ⟨z, g + 1, false, by rw [List.getElem?_set_self hlt], h2⟩
    · obtain ⟨z', g', fz', h1, h2⟩ := hR.virt b' hv'
      exact ⟨z', g', fz', by rw [List.getElem?_set_ne (fun x => e x.symm)]; exact h1, h2⟩

theorem Src.take_all {z : Nat} {ys : List AV} {us : List Value} (hc : Cells w.heap (Still w.heap own H) own H us (ys.flatMap AV.cells)) (hz : ∀ y ∈ ys, y.cells.length = z) : us.take (ys.length * z) = us :=
  List.take_of_length_le (by rw [hc.1, flat_len hz]; exact Nat.le_refl _)

/-- a grown row: its cells -/
theorem grown_obj {h : Array Obj} {S : Nat → Prop} {own' : Nat → Slot} {H' : List AObj} {xs ys : List AV} {os us rest : List Value} {z g c : Nat} {e : TypeId} (hz : ∀ x ∈ xs ++ ys, x.cells.length = z) (hz0 : 0 < z)
    (ho : Cells h S own' H' os (xs.flatMap AV.cells)) (hu : Cells h S own' H' us (ys.flatMap AV.cells)) (hh : h[c]? = some (.cells (os ++ us ++ rest).toArray e (0, 0))) :
    ObjRel h S own' H' c (.row z g false (xs ++ ys)) :=
  row_rel (us := os ++ us) (rest := rest) hz hz0 (by rw [List.flatMap_append]; exact ho.append hu) hh (by simp)

theorem tzero_size {e : TypeId} {a : AV} {K : List AObj} (hz : tzero P e = some a) (hk : zeroOK P K e = true) : ∀ i v, P.info? e = some i → i.zero = some v → v.cells.size = tcells P e := by
  intro i v hi hv
  obtain ⟨i', v', hi', hv', rfl⟩ := tzero_spec hz
  rw [hi] at hi'; cases hi'
  rw [hv] at hv'; cases hv'
  simp only [zeroOK, hz, Bool.and_eq_true, beq_iff_eq] at hk
  have := ((zeroA_rep (h := #[]) (S := fun _ => False) (own := fun _ => .no) (H := K) hk.2).to_cells hk.1.2).1
  rw [Array.length_toList] at this; omega

/-- where the cells of a row of the run's own begin -/
theorem ref_cells (hR : RelH GT w.heap own H) {b z g : Nat} {fz : Bool} {xs : List AV} {c : Nat} (hb : H[b]? = some (.row z g fz xs)) (ho : own b = .at c) {off i n capc : Nat} (hoff : off = i * z ∨ capc = 0) (hn : n ≤ capc) (hin : i + n ≤ xs.length) :
    ∃ os : List Value, os.length = n * z ∧ Cells w.heap (Still w.heap own H) own H os (((xs.drop i).take n).flatMap AV.cells) ∧
      ∀ w' : World, w'.heap = w.heap → (Builtin.firstCells z n (.slice (some ⟨c, off, none⟩) n capc)).run P w' = .ok os.toArray w' := by
  obtain ⟨cur, e, hcur, hl, hz0, hz, hcells⟩ := row_cells (hR.obj b c _ ho hb)
  have hzd : ∀ y ∈ (xs.drop i).take n, y.cells.length = z := fun y hy => hz y (List.mem_of_mem_drop (List.mem_of_mem_take hy))
  have hlen : ((xs.drop i).take n).length = n := by simp; omega
  have hcc := (hcells.drop (i * z)).take (n * z)
  have e2 : ((xs.drop i).take n).flatMap AV.cells = ((xs.flatMap AV.cells).drop (i * z)).take (n * z) := by
    rw [flat_take (fun y hy => hz y (List.mem_of_mem_drop hy)), flat_drop hz]
  rw [← e2] at hcc
  have hol := hcc.1
  rw [flat_len hzd, hlen] at hol
  refine ⟨_, hol, hcc, fun w' hw => ?_⟩
  have := run_loadMany (P := P) (w := w') (b := c) (o := off) (((cur.toList.take (xs.length * z)).drop (i * z)).take (n * z)) (fun j u hj => by
    rw [hw]
    have hn0 : j < n * z := by rw [← hol]; exact (List.getElem?_eq_some_iff.1 hj).1
    have hoff' : off = i * z := by
      rcases hoff with h | h
      · exact h
      · have : n = 0 := by omega
        subst this; omega
    rw [List.getElem?_take, if_pos hn0, List.getElem?_drop, List.getElem?_take] at hj
    split at hj
    · rw [hoff']
      simp only [cellAt, hcur]
      simpa using hj
    · cases hj)
  rw [hol] at this
  simpa [Builtin.firstCells] using this

/-- stores of elements from p on, on the machine and on the abstract side -/
theorem put_elems (hR : RelH GT w.heap own H) {b z g g' c p : Nat} {xs ys : List AV} (hb : H[b]? = some (.row z g false xs)) (ho : own b = .at c) {us : List Value} (hz : ∀ y ∈ ys, y.cells.length = z)
    (hu : Cells w.heap (Still w.heap own H) own H us (ys.flatMap AV.cells)) (hp : p ≤ xs.length) (hfit : ∀ n, rowSize w.heap c = some n → p * z + us.length ≤ n) (hg : g ≤ g') (hgl : g' = g → p + ys.length ≤ xs.length) :
    ∃ w', (storeCells ⟨c, p * z, none⟩ us).run P w = .ok () w' ∧ RelH GT w'.heap own (H.set b (.row z g' false (xs.take p ++ ys ++ xs.drop (p + ys.length)))) ∧
      Pass w.heap own H w'.heap own (H.set b (.row z g' false (xs.take p ++ ys ++ xs.drop (p + ys.length)))) ∧ rowSize w'.heap c = rowSize w.heap c ∧ Kp w w' := by
  have hobj := hR.obj b c _ ho hb
  obtain ⟨cur, e, hcur, hl, hz0, hzx, hcells⟩ := row_cells hobj
  have hsz : rowSize w.heap c = some cur.size := by simp [rowSize, hcur, sizeO]
  have hfit' := hfit _ hsz
  obtain ⟨w', hr, hw, hwo, hwp⟩ := run_storeCells (P := P) us w cur (p * z) 0 hcur (by simpa using hfit') hu.all_one
  simp only [Nat.add_zero] at hw
  have hgr : Grows (own b) (own b) (.row z g false xs) (.row z g' false (xs.take p ++ ys ++ xs.drop (p + ys.length))) :=
    ⟨false, _, g', rfl, fun e => ⟨by have := hgl e; simp; omega, .inr rfl, fun hv' => by rw [ho] at hv'; cases hv'⟩⟩
  have hsz2 : ∀ n, sizeO (.cells cur e (0, 0)) = some n → sizeO (.cells (putCells cur (p * z) us) e (0, 0)) = some n := by
    intro n hn; simp only [sizeO] at *; rw [putCells_size]; exact hn
  refine ⟨w', hr, ?_, ?_, ?_, ⟨hwo, hwp⟩⟩
  · rw [hw]
    exact set_rel hR ho hb rfl hcur hg hgr hsz2 fun hps hc' =>
      row_put (fun v a h => h.pass hps) hobj hcur hz (hu.pass hps) hp hfit' hc'
  · rw [hw]; exact set_pass hR.inj ho hb rfl hcur hg hgr hsz2
  · rw [hw]
    have hlt := (Array.getElem?_eq_some_iff.1 hcur).1
    simp [rowSize, hcur, Array.getElem?_setIfInBounds_self_of_lt hlt, sizeO, putCells_size]

theorem append_ref (hR : RelH GT w.heap own H) {t t' ty e : TypeId} {b g i n : Nat} {cap : Option Nat} {a v : AV} {cs cx : Value} {ys : List AV} {us : List Value} {H' : List AObj} (ht' : srcT P t') (hs : VR w own H cs (.ref b g i n cap))
    (he : elemT P t = some e) (hz0 : 0 < tcells P e) (hza : tzero P e = some a) (hzc : ∀ i v, P.info? e = some i → i.zero = some v → v.cells.size = tcells P e) (hlen : (Builtin.lenOf cx).run P w = .ok ys.length w)
    (hful : ∀ w', w'.heap = w.heap → (Builtin.firstCells (tcells P e) ys.length cx).run P w' = .ok us.toArray w') (hcu : Cells w.heap (Still w.heap own H) own H us (ys.flatMap AV.cells)) (hyz : ∀ y ∈ ys, y.cells.length = tcells P e)
    (hq : (match hget H b with
        | some (.row z g' fz xs) =>
          if g' = g ∧ z = tcells P e ∧ (n + ys.length) * tbytes P e ≤ 140737488355328 ∧ n + ys.length ≤ 140737488355328 then
            match cap with
            | none =>
              if fz = false ∧ i = 0 ∧ n = xs.length then some (AV.ref b (g + 1) 0 (n + ys.length) none, hset H b (.row z (g + 1) false (xs ++ ys)))
              else if fz = false ∧ i + n + ys.length ≤ xs.length then some (.ref b g i (n + ys.length) none, hset H b (.row z g false (xs.take (i + n) ++ ys ++ xs.drop (i + n + ys.length))))
              else none
            | some k =>
              if k < n + ys.length then some (.ref H.length 0 0 (n + ys.length) none, H ++ [.row z 0 false ((xs.drop i).take n ++ ys)])
              else if fz = false ∧ i + n + ys.length ≤ xs.length then some (.ref b g i (n + ys.length) (some k), hset H b (.row z g false (xs.take (i + n) ++ ys ++ xs.drop (i + n + ys.length))))
              else none
          else none
        | _ => none) = some (v, H')) :
    LX P GT w own H (do pure (.value (← Builtin.append_ #[t, t'] ty #[cs, cx]))) v H' := by
  have hz : tcells P e ≠ 0 := by omega
  have hul : us.length = ys.length * tcells P e := by rw [hcu.1, flat_len hyz]
  split at hq
  · rename_i z g' fz xs hb
    split at hq
    · rename_i hc
      obtain ⟨rfl, rfl, hby, hbn⟩ := hc
      have hb0 : H[b]? = some (.row (tcells P e) g' fz xs) := hb
      have hinplace : ∀ (c capc off sz : Nat), own b = .at c → cs = .slice (some ⟨c, off, none⟩) n capc → i + n ≤ xs.length → n ≤ capc → capc ≤ maxN → (off = i * tcells P e ∨ capc = 0) → rowSize w.heap c = some sz →
          ((i + capc) * tcells P e ≤ sz ∨ capc = 0) → n + ys.length ≤ capc → fz = false → i + n + ys.length ≤ xs.length → (capo : Option Nat) → (capo = none ∧ xs.length ≤ i + capc ∨ capo = some capc) →
          LX P GT w own H (do pure (.value (← Builtin.append_ #[t, t'] ty #[cs, cx]))) (.ref b g' i (n + ys.length) capo) (hset H b (.row (tcells P e) g' false (xs.take (i + n) ++ ys ++ xs.drop (i + n + ys.length)))) := by
        intro c capc off sz ho hcs hin hcap hmax hoff hs2 hsz hfit hfz hfit2 capo hk
        subst hfz; subst hcs
        obtain ⟨w', h1, h2, h3, h4, hkp⟩ := put_elems (P := P) (p := i + n) (g' := g') hR hb0 ho hyz hcu (by omega) (fun m hm => by
          rw [hs2] at hm; cases hm
          rw [hul, ← Nat.add_mul]
          rcases hsz with h | h
          · exact Nat.le_trans (Nat.mul_le_mul_right _ (by omega)) h
          · obtain ⟨cur, e', hcur, hl, _⟩ := row_cells (hR.obj b c _ ho hb0)
            have : rowSize w.heap c = some cur.size := by simp [rowSize, hcur, sizeO]
            rw [this] at hs2; cases hs2
            exact Nat.le_trans (Nat.mul_le_mul_right _ (by omega)) hl) (Nat.le_refl _) (fun _ => by omega)
        refine .val (w' := w') (own' := own) (cv := .slice (some ⟨c, off, none⟩) (n + ys.length) capc) ?_ h2 h3 ?_
        · rw [run_append_in he hz ht' hlen (hful w rfl) hfit]
          have hst : (storeCells ⟨c, off + n * tcells P e, none⟩ us).run P w = .ok () w' := by
            rcases hoff with rfl | h
            · rw [← Nat.add_mul]; exact h1
            · have : us = [] := by rw [← List.length_eq_zero_iff, hul]; have : ys.length = 0 := by omega
                                   simp [this]
              subst this
              simpa [storeCells] using h1
          rw [hst]; rfl
        · have hlt := (List.getElem?_eq_some_iff.1 hb0).1
          exact .ref b g' i _ capo c _ false _ capc off sz ho (List.getElem?_set_self hlt) (by simp; omega) hfit hmax (by
            rcases hk with ⟨h1, h2⟩ | h
            · exact .inl ⟨h1, by simp only [List.length_append, List.length_take, List.length_drop]; omega⟩
            · exact .inr h) hoff (h4.trans hs2) hsz
      split at hq
      · split at hq
        · rename_i hc
          obtain ⟨rfl, rfl, hnx⟩ := hc
          cases hq
          have hlt := (List.getElem?_eq_some_iff.1 hb0).1
          rcases hs.ref_inv hb0 with ⟨c, capc, off, sz, ho, rfl, hin, hcap, hmax, hk, hoff, hs2, hsz⟩ | ⟨ho, rfl, _, rfl, rfl, _⟩
          · by_cases hfit : n + ys.length ≤ capc
            · obtain ⟨w', h1, h2, h3, h4, hkp⟩ := put_elems (P := P) (p := n) (g' := g' + 1) hR hb0 ho hyz hcu (by omega) (fun m hm => by
                rw [hs2] at hm; cases hm
                rw [hul, ← Nat.add_mul]
                rcases hsz with h | h
                · exact Nat.le_trans (Nat.mul_le_mul_right _ (by omega)) h
                · obtain ⟨cur, e', hcur, hl, _⟩ := row_cells (hR.obj b c _ ho hb0)
                  have : rowSize w.heap c = some cur.size := by simp [rowSize, hcur, sizeO]
                  rw [this] at hs2; cases hs2
                  exact Nat.le_trans (Nat.mul_le_mul_right _ (by omega)) hl) (by omega) (fun h => by omega)
              have e1 : xs.take n ++ ys ++ xs.drop (n + ys.length) = xs ++ ys := by
                rw [List.take_of_length_le (by omega), List.drop_eq_nil_of_le (by omega), List.append_nil]
              rw [e1] at h2 h3
              refine .val (w' := w') (own' := own) (cv := .slice (some ⟨c, off, none⟩) (n + ys.length) capc) ?_ h2 h3 ?_
              · rw [run_append_in he hz ht' hlen (hful w rfl) hfit]
                have hst : (storeCells ⟨c, off + n * tcells P e, none⟩ us).run P w = .ok () w' := by
                  rcases hoff with rfl | h
                  · simpa using h1
                  · have : us = [] := by rw [← List.length_eq_zero_iff, hul]; have : ys.length = 0 := by omega
                                         simp [this]
                    subst this
                    simpa [storeCells] using h1
                rw [hst]; rfl
              · exact .ref b (g' + 1) 0 _ none c _ false _ capc off sz ho (List.getElem?_set_self hlt) (by simp; omega) hfit hmax (.inl ⟨rfl, by simp; omega⟩) hoff (h4.trans hs2) hsz
            · obtain ⟨os, hol, hco, hfo⟩ := ref_cells (P := P) hR hb0 ho hoff hcap hin
              have e0 : (xs.drop 0).take n = xs := by rw [List.drop_zero, List.take_of_length_le (by omega)]
              rw [e0] at hco
              obtain ⟨cap', rest, w', h1, h2, h3, ⟨h4, h4o, h4p⟩, h5⟩ := run_append_grow (ty := ty) he hz ht' hza hzc hlen hful hfo (by omega) hby hbn
              obtain ⟨_, _, _, _, _, hzx, _⟩ := row_cells (hR.obj b c _ ho hb0)
              have hob : RelH GT (w.heap.push (.cells (os ++ us ++ rest).toArray e (0, 0))) (upd own b (.at w.heap.size)) (H.set b (.row (tcells P e) (g' + 1) false (xs ++ ys))) :=
                move_rel hR hb0 _ fun hps => grown_obj (rest := rest) (e := e) (fun x hx => by
                  rcases List.mem_append.1 hx with h | h
                  · exact hzx x h
                  · exact hyz x h) hz0 (hco.pass hps) (hcu.pass hps) (by simp)
              refine .val (w' := w') (own' := upd own b (.at w.heap.size)) h5 (by rw [h4]; exact hob) (by rw [h4]; exact move_pass hb0 _) ?_
              refine .ref b (g' + 1) 0 _ none w.heap.size _ false _ cap' 0 (os ++ us ++ rest).length (upd_eq _ _ _) (List.getElem?_set_self hlt) (by simp; omega) h1 h2 (.inl ⟨rfl, by simp; omega⟩) (.inl (by simp)) ?_ ?_
              · rw [h4]; simp [rowSize, sizeO]
              · left
                simp only [List.length_append, h3, hul, hol, Nat.zero_add, ← Nat.add_mul]
                exact Nat.mul_le_mul_right _ (by omega)
          · by_cases hy0 : ys = []
            · subst hy0
              have hu0 : us = [] := by simpa using hul
              subst hu0
              obtain ⟨h2, h3⟩ := bump_rel hR hb0 ho
              exact .val (run_append_in_nil he hz ht' hlen (hful w rfl)) h2 h3 (.virt b (g' + 1) _ false none ho (List.getElem?_set_self hlt) (.inl rfl))
            · have hm : 0 < ys.length := List.length_pos_iff.2 hy0
              obtain ⟨cap', rest, w', h1, h2, h3, ⟨h4, h4o, h4p⟩, h5⟩ := run_append_grow (ty := ty) (base := none) (n := 0) (capc := 0) (os := []) he hz ht' hza hzc hlen hful (fun w' _ => by simp [Builtin.firstCells]) (by omega) hby hbn
              have hob : RelH GT (w.heap.push (.cells ([] ++ us ++ rest).toArray e (0, 0))) (upd own b (.at w.heap.size)) (H.set b (.row (tcells P e) (g' + 1) false ([] ++ ys))) :=
                move_rel hR hb0 _ fun hps => grown_obj (xs := []) (os := []) (rest := rest) (e := e) (by simpa using hyz) hz0 .nil (hcu.pass hps) (by simp)
              refine .val (w' := w') (own' := upd own b (.at w.heap.size)) h5 (by rw [h4]; exact hob) (by rw [h4]; exact move_pass hb0 _) ?_
              refine .ref b (g' + 1) 0 _ none w.heap.size _ false _ cap' 0 (([] : List Value) ++ us ++ rest).length (upd_eq _ _ _) (List.getElem?_set_self hlt) (by simp) h1 h2 (.inl ⟨rfl, by simp at h1 ⊢; omega⟩) (.inl (by simp)) ?_ ?_
              · rw [h4]; simp [rowSize, sizeO]
              · left
                simp only [List.nil_append, List.length_append, h3, hul, Nat.zero_add, ← Nat.add_mul]
                exact Nat.mul_le_mul_right _ (by omega)
        · split at hq
          · rename_i hc
            cases hq
            rcases hs.ref_inv hb0 with ⟨c, capc, off, sz, ho, rfl, hin, hcap, hmax, hk, hoff, hs2, hsz⟩ | ⟨ho, rfl, rfl, rfl, rfl, _⟩
            · rcases hk with ⟨_, hk⟩ | hk
              · exact hinplace c capc off sz ho rfl hin hcap hmax hoff hs2 hsz (by omega) hc.1 hc.2 none (.inl ⟨rfl, hk⟩)
              · cases hk
            · rename_i hne
              exact absurd ⟨hc.1, rfl, rfl⟩ hne
          · cases hq
      · rename_i k
        split at hq
        · rename_i hgrow
          cases hq
          have hno : own H.length = .no := hR.out _ (Nat.le_refl _)
          obtain ⟨hR1, hp1⟩ := ext_rel hR [.row (tcells P e) 0 false ((xs.drop i).take n ++ ys)]
          have hbn2 : (H ++ [AObj.row (tcells P e) 0 false ((xs.drop i).take n ++ ys)])[H.length]? = some (.row (tcells P e) 0 false ((xs.drop i).take n ++ ys)) := by simp
          have key : ∀ (base : Option Addr) (capc : Nat) (os : List Value), cs = .slice base n capc → capc = k → os.length = n * tcells P e → ((xs.drop i).take n).length = n → (∀ x ∈ (xs.drop i).take n, x.cells.length = tcells P e) →
              Cells w.heap (Still w.heap own H) own H os (((xs.drop i).take n).flatMap AV.cells) → (∀ w' : World, w'.heap = w.heap → (Builtin.firstCells (tcells P e) n (.slice base n capc)).run P w' = .ok os.toArray w') →
              LX P GT w own H (do pure (.value (← Builtin.append_ #[t, t'] ty #[cs, cx]))) (.ref H.length 0 0 (n + ys.length) none) (H ++ [.row (tcells P e) 0 false ((xs.drop i).take n ++ ys)]) := by
            intro base capc os hcs hck hol hxl hxz hco hfo
            subst hcs; subst hck
            obtain ⟨cap', rest, w', h1, h2, h3, ⟨h4, h4o, h4p⟩, h5⟩ := run_append_grow (ty := ty) he hz ht' hza hzc hlen hful hfo hgrow hby hbn
            have hpa := alloc_pass (own := own) (Hx := H ++ [AObj.row (tcells P e) 0 false ((xs.drop i).take n ++ ys)]) (h := w.heap) (.cells (os ++ us ++ rest).toArray e (0, 0)) hno
            have hob := alloc_rel hR1 _ hno _ hbn2 (grown_obj (rest := rest) (g := 0) (c := w.heap.size) (e := e) (fun x hx => by
              rcases List.mem_append.1 hx with h | h
              · exact hxz x h
              · exact hyz x h) hz0 ((hco.pass hp1).pass hpa) ((hcu.pass hp1).pass hpa) (by simp))
            refine .val (w' := w') (own' := upd own H.length (.at w.heap.size)) h5 (by rw [h4]; exact hob) (by rw [h4]; exact hp1.trans hpa) ?_
            refine .ref _ 0 0 _ none w.heap.size _ false _ cap' 0 (os ++ us ++ rest).length (upd_eq _ _ _) hbn2 (by rw [List.length_append, hxl]; omega) h1 h2 (.inl ⟨rfl, by rw [List.length_append, hxl]; omega⟩) (.inl (by simp)) ?_ ?_
            · rw [h4]; simp [rowSize, sizeO]
            · left
              simp only [List.length_append, h3, hul, hol, Nat.zero_add, ← Nat.add_mul]
              exact Nat.mul_le_mul_right _ (by omega)
          rcases hs.ref_inv hb0 with ⟨c, capc, off, sz, ho, rfl, hin, hcap, hmax, hk, hoff, hs2, hsz⟩ | ⟨ho, rfl, rfl, rfl, rfl, hk⟩
          · rcases hk with ⟨hk, _⟩ | hk
            · cases hk
            · cases hk
              obtain ⟨os, hol, hco, hfo⟩ := ref_cells (P := P) hR hb0 ho hoff hcap hin
              obtain ⟨_, _, _, _, _, hzx, _⟩ := row_cells (hR.obj b c _ ho hb0)
              exact key _ _ os rfl rfl hol (by simp; omega) (fun x hx => hzx x (List.mem_of_mem_drop (List.mem_of_mem_take hx))) hco hfo
          · rcases hk with hk | hk
            · cases hk
            · cases hk
              exact key none 0 [] rfl rfl (by simp) (by simp) (by simp) (by simpa using Cells.nil) (fun w' _ => by simp [Builtin.firstCells])
        · split at hq
          · rename_i hng hc
            cases hq
            rcases hs.ref_inv hb0 with ⟨c, capc, off, sz, ho, rfl, hin, hcap, hmax, hk, hoff, hs2, hsz⟩ | ⟨ho, rfl, rfl, rfl, rfl, hk⟩
            · rcases hk with ⟨hk, _⟩ | hk
              · cases hk
              · cases hk
                exact hinplace c k off sz ho rfl hin hcap hmax hoff hs2 hsz (by omega) hc.1 hc.2 (some k) (.inr rfl)
            · have hy0 : ys = [] := by have := hc.2; simp at this; exact this
              subst hy0
              have hu0 : us = [] := by simpa using hul
              subst hu0
              have hlt := (List.getElem?_eq_some_iff.1 hb0).1
              have e1 : hset H b (.row (tcells P e) g' false (([] : List AV).take (0 + 0) ++ [] ++ ([] : List AV).drop (0 + 0 + ([] : List AV).length))) = H := by
                simp only [hset]
                apply List.ext_getElem?
                intro j
                by_cases hj : b = j
                · subst hj; rw [List.getElem?_set_self hlt, hb0, hc.1]; simp
                · rw [List.getElem?_set_ne hj]
              rw [e1]
              exact .val (run_append_in_nil he hz ht' hlen (hful w rfl)) hR (.refl _ _ _) (.virt b g' _ fz (some k) ho hb0 (by rcases hk with h | h <;> simp_all))
          · cases hq
    · cases hq
  · cases hq

theorem append_sound (hR : RelH GT w.heap own H) {t t' ty : TypeId} {s x v : AV} {cs cx : Value} {H' : List AObj} (ht' : srcT P t') (hs : VR w own H cs s) (hx : VR w own H cx x) (hq : aappend P H t s x = some (v, H')) :
    LX P GT w own H (do pure (.value (← Builtin.append_ #[t, t'] ty #[cs, cx]))) v H' := by
  unfold aappend at hq
  split at hq
  · cases hq
  · rename_i e he
    split at hq
    · cases hq
    · rename_i ys hys
      split at hq
      · rename_i hc0
        obtain ⟨hz0, hzok⟩ := hc0
        have hz : tcells P e ≠ 0 := by omega
        obtain ⟨a, hza⟩ : ∃ a, tzero P e = some a := by
          cases h : tzero P e with
          | none => simp [zeroOK, h] at hzok
          | some a => exact ⟨a, rfl⟩
        have hzc := tzero_size hza hzok
        obtain ⟨us, hlen, hfirst, hcu, hyz⟩ := src_sound (P := P) hR hz0 hx hys
        have hall := Src.take_all hcu hyz
        have hful : ∀ w', w'.heap = w.heap → (Builtin.firstCells (tcells P e) ys.length cx).run P w' = .ok us.toArray w' := fun w' hw => by
          have := hfirst w' ys.length hw (Nat.le_refl _); rwa [hall] at this
        have hul : us.length = ys.length * tcells P e := by rw [hcu.1, flat_len hyz]
        split at hq
        · rename_i xs
          split at hq
          · rename_i hy0
            cases hq
            subst hy0
            have hu0 : us = [] := by simpa using hul
            subst hu0
            rcases hs.d_inv.list_inv with ⟨rfl, rfl⟩ | ⟨b, off, cap, z, f, rfl, hS, hcap, _⟩ | ⟨a0, rfl, rfl⟩
            rotate_left 2
            · exact .val (run_append_emp he hz ht' hlen (hful w rfl)) hR (.refl _ _ _) hs
            · exact .val (run_append_in_nil he hz ht' hlen (hful w rfl)) hR (.refl _ _ _) hs
            · refine .val (w' := w) (own' := own) ?_ hR (.refl _ _ _) hs
              rw [run_append_in (ys := []) he hz ht' hlen (hful w rfl) (by simpa using hcap)]
              simp [storeCells]
          · cases hq
        · split at hq
          · rename_i hb
            cases hq
            obtain rfl := hs.nils_inv
            have hno : own H.length = .no := hR.out _ (Nat.le_refl _)
            obtain ⟨hR1, hp1⟩ := ext_rel hR [.row (tcells P e) 0 false ys]
            have hbn : (H ++ [AObj.row (tcells P e) 0 false ys])[H.length]? = some (.row (tcells P e) 0 false ys) := by simp
            by_cases hy0 : ys = []
            · subst hy0
              have hu0 : us = [] := by simpa using hul
              subst hu0
              obtain ⟨hR2, hp2⟩ := virt_rel hR1 hno hbn hz0
              exact .val (run_append_in_nil he hz ht' hlen (hful w rfl)) hR2 (hp1.trans hp2) (.virt _ 0 _ false none (upd_eq _ _ _) hbn (.inl rfl))
            · have hm : 0 < ys.length := List.length_pos_iff.2 hy0
              obtain ⟨cap', rest, w', h1, h2, h3, ⟨h4, h4o, h4p⟩, h5⟩ := run_append_grow (ty := ty) (base := none) (n := 0) (capc := 0) (os := []) he hz ht' hza hzc hlen hful (fun w' _ => by simp [Builtin.firstCells]) (by omega) (by simpa using hb.1) (by simpa using hb.2)
              have hpa := alloc_pass (own := own) (Hx := H ++ [AObj.row (tcells P e) 0 false ys]) (h := w.heap) (.cells ([] ++ us ++ rest).toArray e (0, 0)) hno
              have hcu' := (hcu.pass hp1).pass hpa
              have hobj := grown_obj (xs := []) (os := []) (us := us) (rest := rest) (g := 0) (c := w.heap.size) (e := e) (z := tcells P e) (by simpa using hyz) hz0 .nil hcu' (by simp)
              have hR2 := alloc_rel hR1 _ hno _ hbn hobj
              rw [Nat.zero_add] at h5
              refine .val (w' := w') (own' := upd own H.length (.at w.heap.size)) h5 (by rw [h4]; exact hR2) (by rw [h4]; exact hp1.trans hpa) ?_
              refine .ref _ 0 0 ys.length none w.heap.size (tcells P e) false ys cap' 0 (([] : List Value) ++ us ++ rest).length (upd_eq _ _ _) hbn (by omega) (by omega) h2 (.inl ⟨rfl, by omega⟩) (.inl (by simp)) ?_ ?_
              · rw [h4]; simp [rowSize, sizeO]
              · left
                simp only [List.nil_append, List.length_append, h3, hul, Nat.zero_add, ← Nat.add_mul]
                exact Nat.mul_le_mul_right _ (by omega)
          · cases hq
        · rename_i b g i n cap
          exact append_ref hR ht' hs he hz0 hza hzc hlen hful hcu hyz hq
        · cases hq
      · cases hq

end Go.Ab

namespace Go.Ab

variable {P : Program} {GT : Globs} {w : World} {own : Nat → Slot} {H : List AObj}

theorem hset_same {b : Nat} {o : AObj} (hb : H[b]? = some o) : H.set b o = H := by
  apply List.ext_getElem?
  intro j
  by_cases hj : b = j
  · subst hj; rw [List.getElem?_set_self (List.getElem?_eq_some_iff.1 hb).1, hb]
  · rw [List.getElem?_set_ne hj]

theorem copy_sound (hR : RelH GT w.heap own H) {t t' ty : TypeId} {s x v : AV} {cs cx : Value} {H' : List AObj} (hs : VR w own H cs s) (hx : VR w own H cx x) (hq : acopy P H t s x = some (v, H')) :
    LX P GT w own H (do pure (.value (← Builtin.copy_ #[t, t'] ty #[cs, cx]))) v H' := by
  unfold acopy at hq
  split at hq
  · rename_i e he
    split at hq
    · rename_i b g i n cap ys hys
      split at hq
      · rename_i z g' xs hb
        split at hq
        · rename_i hc
          obtain ⟨rfl, rfl, hyl, hz0⟩ := hc
          cases hq
          have hz : tcells P e ≠ 0 := by omega
          have hb0 : H[b]? = some (.row (tcells P e) g' false xs) := hb
          obtain ⟨us, hlen, hfirst, hcu, hyz⟩ := src_sound (P := P) hR hz0 hx hys
          have hm : min ys.length n ≤ ys.length := Nat.min_le_left _ _
          have hfm := hfirst w (min ys.length n) rfl hm
          have hcm : Cells w.heap (Still w.heap own H) own H (us.take (min ys.length n * tcells P e)) ((ys.take (min ys.length n)).flatMap AV.cells) := by
            rw [flat_take hyz]; exact hcu.take _
          have hyz' : ∀ y ∈ ys.take (min ys.length n), y.cells.length = tcells P e := fun y hy => hyz y (List.mem_of_mem_take hy)
          have hul : (us.take (min ys.length n * tcells P e)).length = (min ys.length n) * tcells P e := by
            rw [hcm.1, flat_len hyz', List.length_take, Nat.min_eq_left hm]
          have hint : IntKind.min .i64 ≤ ((min ys.length n : Nat) : Int) ∧ ((min ys.length n : Nat) : Int) ≤ IntKind.max .i64 := by
            unfold maxN at hyl; simp [IntKind.min, IntKind.max, IntKind.signed, IntKind.bits]; omega
          have hnm : Nat.min ys.length n = min ys.length n := rfl
          rcases hs.ref_inv hb0 with ⟨c, capc, off, sz, ho, rfl, hin, hcap, hmax, hk, hoff, hs2, hsz⟩ | ⟨ho, rfl, rfl, rfl, rfl, _⟩
          · obtain ⟨w', h1, h2, h3, _, hkp⟩ := put_elems (P := P) (p := i) (g' := g') hR hb0 ho hyz' hcm (by omega) (fun m hm2 => by
              rw [hs2] at hm2; cases hm2
              rw [hul, ← Nat.add_mul]
              rcases hsz with h | h
              · exact Nat.le_trans (Nat.mul_le_mul_right _ (by omega)) h
              · obtain ⟨cur, e', hcur, hl, _⟩ := row_cells (hR.obj b c _ ho hb0)
                have : rowSize w.heap c = some cur.size := by simp [rowSize, hcur, sizeO]
                rw [this] at hs2; cases hs2
                exact Nat.le_trans (Nat.mul_le_mul_right _ (by omega)) hl) (Nat.le_refl _) (fun _ => by simp; omega)
            refine .val (w' := w') (own' := own) (cv := .int .i64 (min ys.length n : Nat)) ?_ h2 h3 (.int _ _ hint)
            have hst : (storeCells ⟨c, off, none⟩ (us.take (min ys.length n * tcells P e))).run P w = .ok () w' := by
              rcases hoff with rfl | h
              · exact h1
              · have h0 : min ys.length n = 0 := by omega
                rw [h0] at h1 ⊢
                simpa [storeCells] using h1
            simp only [Builtin.copy_, Sem.run_bind, Sem.run_pure, Result.andThen_ok, List.getElem?_toArray, List.getElem?_cons_zero, List.getElem?_cons_succ, run_under (elemT_spec he), hlen, run_size rfl hz, hnm, hfm, hst, goInt]
          · have hs0 : hset H b (.row (tcells P e) g' false (([] : List AV).take 0 ++ ys.take (min ys.length 0) ++ ([] : List AV).drop (0 + (ys.take (min ys.length 0)).length))) = H := by
              simp only [hset]
              rw [show ([] : List AV).take 0 ++ ys.take (min ys.length 0) ++ ([] : List AV).drop (0 + (ys.take (min ys.length 0)).length) = [] by simp]
              exact hset_same hb0
            rw [hs0]
            refine .val (w' := w) (own' := own) (cv := .int .i64 (min ys.length 0 : Nat)) ?_ hR (.refl _ _ _) (.int _ _ hint)
            simp only [Builtin.copy_, Sem.run_bind, Sem.run_pure, Result.andThen_ok, List.getElem?_toArray, List.getElem?_cons_zero, List.getElem?_cons_succ, run_under (elemT_spec he), hlen, run_size rfl hz, hnm, hfm, goInt]
        · cases hq
      · cases hq
    · cases hq
  · cases hq

theorem clear_sound (hR : RelH GT w.heap own H) {t ty : TypeId} {s v : AV} {cs : Value} {H' : List AObj} (hs : VR w own H cs s) (hq : aclear P H t s = some (v, H')) :
    LX P GT w own H (do pure (.value (← Builtin.clear_ #[t] ty #[cs]))) v H' := by
  unfold aclear at hq
  split at hq
  · rename_i e he
    split at hq
    · rename_i b g i n cap a hza
      split at hq
      · rename_i z g' xs hb
        split at hq
        · rename_i hc
          obtain ⟨rfl, rfl, hz0, hin0, hzok⟩ := hc
          cases hq
          have hb0 : H[b]? = some (.row (tcells P e) g' false xs) := hb
          have hsize := tzero_size hza hzok
          obtain ⟨ii, zv, hi, hv, rfl⟩ := tzero_spec hza
          have hvz : zv.cells.size = tcells P e := hsize ii zv hi hv
          simp only [zeroOK, hza, Bool.and_eq_true, beq_iff_eq] at hzok
          have hr := (zeroA_rep (h := w.heap) (S := Still w.heap own H) (own := own) (H := H) hzok.2).to_cells hzok.1.2
          have hl := hzok.1.1
          have hflat : ∀ x ∈ List.replicate n (zeroA zv), x.cells.length = tcells P e := fun x hx => by rw [(List.mem_replicate.1 hx).2]; exact hl
          have hcu : Cells w.heap (Still w.heap own H) own H (Builtin.zeroCells zv.cells n).toList ((List.replicate n (zeroA zv)).flatMap AV.cells) := by
            refine ⟨by rw [flat_len hflat]; simp [Builtin.zeroCells, hvz], fun j u b hu hb' => ?_⟩
            have hj : j < n * tcells P e := by
              have := (List.getElem?_eq_some_iff.1 hb').1; rw [flat_len hflat] at this; simpa using this
            rw [flat_replicate_get hl _ _ hj] at hb'
            have hlt : j % zv.cells.size < zv.cells.size := Nat.mod_lt _ (by omega)
            have : u = zv.cells[j % zv.cells.size] := by
              simp only [Builtin.zeroCells, Array.toList_map, List.getElem?_map, Option.map_eq_some_iff] at hu
              obtain ⟨j', hj', rfl⟩ := hu
              rw [Array.toList_range, List.getElem?_range (by rw [hvz]; exact hj)] at hj'
              cases hj'
              rw [getElem!_pos zv.cells _ hlt]
            subst this
            rw [← hvz] at hb'
            exact hr.2 (j % zv.cells.size) _ b (by simp [hlt]) hb'
          have hul : (Builtin.zeroCells zv.cells n).toList.length = n * tcells P e := by simp [Builtin.zeroCells, hvz]
          rcases hs.ref_inv hb0 with ⟨c, capc, off, sz, ho, rfl, hin, hcap, hmax, hk, hoff, hs2, hsz⟩ | ⟨ho, rfl, rfl, rfl, rfl, _⟩
          · obtain ⟨w', h1, h2, h3, _, hkp⟩ := put_elems (P := P) (p := i) (g' := g') hR hb0 ho hflat hcu (by omega) (fun m hm2 => by
              rw [hs2] at hm2; cases hm2
              rw [hul, ← Nat.add_mul]
              rcases hsz with h | h
              · exact Nat.le_trans (Nat.mul_le_mul_right _ (by omega)) h
              · obtain ⟨cur, e', hcur, hl, _⟩ := row_cells (hR.obj b c _ ho hb0)
                have : rowSize w.heap c = some cur.size := by simp [rowSize, hcur, sizeO]
                rw [this] at hs2; cases hs2
                exact Nat.le_trans (Nat.mul_le_mul_right _ (by omega)) hl) (Nat.le_refl _) (fun _ => by simp; omega)
            rw [List.length_replicate] at h2 h3
            by_cases hn : n = 0
            · subst hn
              have e1 : hset H b (.row (tcells P e) g' false (xs.take i ++ List.replicate 0 (zeroA zv) ++ xs.drop (i + 0))) = H := by
                simp only [hset, List.replicate_zero, List.append_nil, Nat.add_zero, List.take_append_drop]
                exact hset_same hb0
              rw [e1]
              refine .val (w' := w) (own' := own) (cv := .tuple #[]) ?_ hR (.refl _ _ _) (.tup [] [] rfl fun j v c hv => by simp at hv)
              simp [Builtin.clear_, run_under (elemT_spec he)]
            · refine .val (w' := w') (own' := own) (cv := .tuple #[]) ?_ h2 h3 (.tup [] [] rfl fun j v c hv => by simp at hv)
              have hst : (storeCells ⟨c, off, none⟩ (Builtin.zeroCells zv.cells n).toList).run P w = .ok () w' := by
                rcases hoff with rfl | h
                · exact h1
                · exact absurd (by omega) hn
              obtain ⟨m, rfl⟩ : ∃ m, n = m + 1 := ⟨n - 1, by omega⟩
              simp only [Builtin.clear_, Sem.run_bind, Sem.run_pure, Result.andThen_ok, List.getElem?_toArray, List.getElem?_cons_zero, run_under (elemT_spec he), run_zero hi hv, hst]
          · have hs0 : hset H b (.row (tcells P e) g' false (([] : List AV).take 0 ++ List.replicate 0 (zeroA zv) ++ ([] : List AV).drop (0 + 0))) = H := by
              simp only [hset]
              exact hset_same hb0
            rw [hs0]
            refine .val (w' := w) (own' := own) (cv := .tuple #[]) ?_ hR (.refl _ _ _) (.tup [] [] rfl fun j v c hv => by simp at hv)
            simp [Builtin.clear_, run_under (elemT_spec he)]
        · cases hq
      · cases hq
    · cases hq
  · cases hq

theorem lop_sound {tm : List AV} {o : Oper} {ρ : Operand → Value} {v : AV} {H' : List AObj} (hR : RelH GT w.heap own H) (hev : ∀ x ∈ o.op.operands, VR w own H (ρ x) (ev GT tm x)) (hq : lop P GT tm H o.op = some (v, H')) :
    LX P GT w own H (execOp ρ o) v H' := by
  unfold execOp
  generalize o.op = op at *
  cases op with
  | store t p x =>
    have hp := hev p (by simp [Op.operands])
    have hx := hev x (by simp [Op.operands])
    simp only [lop] at hq
    split at hq
    · rename_i b g i f e1
      rw [e1] at hp
      split at hq
      · rename_i z g' xs hb
        split at hq
        · rename_i hg; subst hg
          split at hq
          · rename_i e he
            split at hq
            · rename_i hc
              cases hq
              exact store_sound hR hp hx hb he hc.1 hc.2.1 hc.2.2.1 hc.2.2.2
            · cases hq
          · cases hq
        · cases hq
      · cases hq
    · cases hq
  | mapUpdate t m k x => exact mapset_sound hR (hev m (by simp [Op.operands])) (hev k (by simp [Op.operands])) (hev x (by simp [Op.operands])) hq
  | insert t m k x => exact mapset_sound hR (hev m (by simp [Op.operands])) (hev k (by simp [Op.operands])) (hev x (by simp [Op.operands])) hq
  | call c =>
    obtain ⟨callee, args, tys⟩ := c
    simp only [lop] at hq
    split at hq
    · split at hq
      · rename_i s x t t' ea et
        split at hq
        · rename_i ht'
          have ea' : args = #[s, x] := by cases args; simp_all
          have et' : tys = #[t, t'] := by cases tys; simp_all
          subst ea'; subst et'
          obtain ⟨cv, w', own', h1, h2⟩ := append_sound (ty := o.type) hR ht' (hev s (by simp [Op.operands, Call.operands])) (hev x (by simp [Op.operands, Call.operands])) hq
          exact ⟨cv, w', own', by simpa [resolve, invoke, builtin] using h1, h2⟩
        · cases hq
      · cases hq
    · split at hq
      · rename_i s x t t' ea et
        have ea' : args = #[s, x] := by cases args; simp_all
        have et' : tys = #[t, t'] := by cases tys; simp_all
        subst ea'; subst et'
        obtain ⟨cv, w', own', h1, h2⟩ := copy_sound (t' := t') (ty := o.type) hR (hev s (by simp [Op.operands, Call.operands])) (hev x (by simp [Op.operands, Call.operands])) hq
        exact ⟨cv, w', own', by simpa [resolve, invoke, builtin] using h1, h2⟩
      · cases hq
    · split at hq
      · rename_i s t ea et
        have ea' : args = #[s] := by cases args; simp_all
        have et' : tys = #[t] := by cases tys; simp_all
        subst ea'; subst et'
        obtain ⟨cv, w', own', h1, h2⟩ := clear_sound (ty := o.type) hR (hev s (by simp [Op.operands, Call.operands])) hq
        exact ⟨cv, w', own', by simpa [resolve, invoke, builtin] using h1, h2⟩
      · cases hq
    · cases hq
  | next x str =>
    have hx := hev x (by simp [Op.operands])
    cases str with
    | false => simp [lop] at hq
    | true =>
      simp only [lop] at hq
      split at hq
      · rename_i b e1
        rw [e1] at hx
        split at hq
        · rename_i s pos hb
          obtain ⟨c, s', pos', ho, hb', hv⟩ := hx.it_inv
          have hb0 : H[b]? = some (.iter s pos) := hb
          rw [hb0] at hb'; cases hb'
          obtain ⟨h1, hsz⟩ := hR.obj b c _ ho hb0
          split at hq
          · rename_i hlt
            cases hq
            have hr : (Instr.next (ρ x) true o.type).run P w = .ok (.tuple #[.bool true, .int .i64 pos, .int .i32 (Utf8.decode s pos).1]) { w with heap := w.heap.setIfInBounds c (.stringIter s (pos + (Utf8.decode s pos).2)) } := by
              rw [hv]
              simp only [Instr.next, getObj, setObj, Sem.run_bind, Sem.run, h1, Result.andThen, hlt, if_true]
              simp [goInt]
            refine LX.val (hk := ⟨rfl, rfl⟩) hr (set_rel hR ho hb0 rfl h1 (Nat.le_refl _) ⟨⟨_, rfl⟩, .inr rfl⟩ (fun n hn => by simp [sizeO] at hn) fun hps hc' => ⟨hc', hsz⟩) (set_pass hR.inj ho hb0 rfl h1 (Nat.le_refl _) ⟨⟨_, rfl⟩, .inr rfl⟩ (fun n hn => by simp [sizeO] at hn)) ?_
            have hrune := Lib.rune_le s pos
            unfold maxN at hsz
            refine .tup [.bool true, .int .i64 pos, .int .i32 (Utf8.decode s pos).1] _ rfl fun j v c hv hc => ?_
            match j with
            | 0 => simp at hv hc; subst hv hc; exact .d _ _ (.bool _)
            | 1 => simp at hv hc; subst hv hc; exact .d _ _ (.int _ _ (by simp only [IntKind.min, IntKind.max, IntKind.signed, IntKind.bits]; constructor <;> simp <;> omega))
            | 2 => simp at hv hc; subst hv hc; exact .d _ _ (.int _ _ (by simp only [IntKind.min, IntKind.max, IntKind.signed, IntKind.bits]; constructor <;> simp <;> omega))
            | j + 3 => simp at hv
          · rename_i hlt
            cases hq
            have hr : (Instr.next (ρ x) true o.type).run P w = .ok (.tuple #[.bool false]) w := by
              rw [hv]
              simp [Instr.next, getObj, Sem.run, h1, hlt]
            refine LX.val hr hR (.refl _ _ _) (.tup [.bool false] _ rfl fun j v c hv hc => ?_)
            match j with
            | 0 => simp at hv hc; subst hv hc; exact .d _ _ (.bool _)
            | j + 1 => simp at hv
        · cases hq
      · cases hq
  | _ => simp [lop] at hq

end Go.Ab

namespace Go.Ab

variable (P : Program) (GT : Globs)

def callable (f : FuncId) : Bool := match P.funcs[f]? with | some fn => fn.body.isSome && fn.name != "runtime.NumGoroutine" | none => false

/-- what a piece of code leaves: as Pass, and a block that lay nowhere lies nowhere -/
def Mv (w : World) (own : Nat → Slot) (H : List AObj) (w' : World) (own' : Nat → Slot) (H' : List AObj) : Prop :=
  Pass w.heap own H w'.heap own' H' ∧ (∀ b, b < H.length → own b = .no → own' b = .no) ∧ Kp w w'
theorem Mv.refl (w : World) (own : Nat → Slot) (H : List AObj) : Mv w own H w own H := ⟨.refl _ _ _, fun _ _ h => h, .refl _⟩
theorem Mv.trans {h h' h'' : World} {own own' own'' : Nat → Slot} {H H' H'' : List AObj} (p : Mv h own H h' own' H') (q : Mv h' own' H' h'' own'' H'') : Mv h own H h'' own'' H'' :=
  ⟨p.1.trans q.1, fun b hb hn => q.2.1 b (by obtain ⟨o, ho, _⟩ := p.1.ext b H[b] (List.getElem?_eq_getElem hb); exact (List.getElem?_eq_some_iff.1 ho).1) (p.2.1 b hb hn), p.2.2.trans q.2.2⟩

/-- THE CONTRACT: called with values that stand for 'args' in a heap that stands for H, f returns a value that stands for one with R -/
def ACalls (f : FuncId) (args : List AV) (H : List AObj) (R : AV → List AObj → Prop) : Prop :=
  callable P f = true ∧ ∀ (w : World) (own : Nat → Slot) (vs : List Value), RelH GT w.heap own H → vs.length = args.length → (∀ (j : Nat) v a, vs[j]? = some v → args[j]? = some a → VR w own H v a) →
    Calls P f vs.toArray w fun e w' => ∃ v a H' own', e = .returned v ∧ RelH GT w'.heap own' H' ∧ Mv w own H w' own' H' ∧ VR w' own' H' v a ∧ R a H'

variable {P GT}
theorem ACalls.mono {f : FuncId} {args : List AV} {H : List AObj} {R R' : AV → List AObj → Prop} (h : ACalls P GT f args H R) (hr : ∀ v H', R v H' → R' v H') : ACalls P GT f args H R' :=
  ⟨h.1, fun w own vs h1 h2 h3 => (h.2 w own vs h1 h2 h3).mono fun _ _ ⟨v, a, H', own', e, q1, q2, q3, q4⟩ => ⟨v, a, H', own', e, q1, q2, q3, hr _ _ q4⟩⟩

theorem allN_spec : ∀ {cs : List AV} {ds : List D} {us : List Value} {h : Array Obj} {S : Nat → Prop} {own : Nat → Slot} {H : List AObj}, allN cs = some ds → Cells h S own H us cs → Cells h S own H us (ds.map .d)
  | [], ds, us, _, _, _, _, h, hc => by simp [allN] at h; subst h; exact hc
  | .d x :: r, ds, us, _, _, _, _, h, hc => by
    simp only [allN, Option.map_eq_some_iff] at h
    obtain ⟨ds', h', rfl⟩ := h
    match us, hc with
    | u :: us, hc => exact .cons hc.head.1 hc.head.2 (allN_spec h' hc.tail)
    | [], hc => have := hc.1; simp at this
  | .nils :: r, ds, us, _, _, _, _, h, hc => by
    simp only [allN, Option.map_eq_some_iff] at h
    obtain ⟨ds', h', rfl⟩ := h
    match us, hc with
    | u :: us, hc =>
      have := hc.head.2.nils_inv; subst this
      exact .cons rfl (.d _ _ .nil) (allN_spec h' hc.tail)
    | [], hc => have := hc.1; simp at this
  | .ref .. :: _, _, _, _, _, _, _, h, _ => by simp [allN] at h
  | .ptr .. :: _, _, _, _, _, _, _, h, _ => by simp [allN] at h
  | .cptr .. :: _, _, _, _, _, _, _, h, _ => by simp [allN] at h
  | .fn .. :: _, _, _, _, _, _, _, h, _ => by simp [allN] at h
  | .mp .. :: _, _, _, _, _, _, _, h, _ => by simp [allN] at h
  | .it .. :: _, _, _, _, _, _, _, h, _ => by simp [allN] at h
  | .agg .. :: _, _, _, _, _, _, _, h, _ => by simp [allN] at h
  | .tup .. :: _, _, _, _, _, _, _, h, _ => by simp [allN] at h
  | .np :: _, _, _, _, _, _, _, h, _ => by simp [allN] at h
  | .nf :: _, _, _, _, _, _, _, h, _ => by simp [allN] at h
  | .un :: _, _, _, _, _, _, _, h, _ => by simp [allN] at h

theorem coe_rep {h : Array Obj} {S : Nat → Prop} {own : Nat → Slot} {H : List AObj} {v : Value} {a : AV} (r : RepA h S own H v a) : RepA h S own H v (coe a) := by
  cases a with
  | nils => have := r.nils_inv; subst this; exact .d _ _ .nil
  | agg cs =>
    simp only [coe]
    split
    · rename_i ds hd
      obtain ⟨us, rfl, hc⟩ := r.ag_inv rfl
      exact .d _ _ (Rep.of_cells (allN_spec hd hc))
    · exact r
  | _ => exact r

def AS.put (st : AS) (dst : Option Tmp) (v : AV) (H : List AObj) : AS := ⟨match dst with | some d => lset st.tmps d v | none => st.tmps, H⟩

/-- the run's frame and memory against the abstract ones -/
structure RelS (GT : Globs) (w : World) (own : Nat → Slot) (st : AS) (a : Act) : Prop where
  heap : RelH GT w.heap own st.heap
  size : a.tmps.size = st.tmps.length
  tmps : ∀ t, VR w own st.heap (a.tmps.getD t undef) (lget st.tmps t)
  defers : a.defers = []

theorem lget_ge : ∀ (l : List AV) (t : Nat), l.length ≤ t → lget l t = .un
  | [], _, _ => rfl
  | _ :: l, t + 1, h => lget_ge l t (by simpa using h)

theorem glob_rep {w : World} {own : Nat → Slot} {H : List AObj} (hR : RelH GT w.heap own H) (g : Nat) : VR w own H (.pointer (some ⟨g, 0, none⟩)) (glob GT g) := by
  unfold glob
  split
  · rename_i g' cs h
    have h1 := List.mem_of_find?_eq_some h
    have h2 := List.find?_some h
    simp at h2
    subst h2
    exact hR.glob _ cs h1
  · exact .un _

theorem RelS.eval {w : World} {own : Nat → Slot} {st : AS} {a : Act} (h : RelS GT w own st a) (x : Operand) : VR w own st.heap (a.eval x) (ev GT st.tmps x) := by
  cases x with
  | tmp t => exact h.tmps t
  | const v => exact constA_rep v
  | global g => exact glob_rep h.heap g
  | func f => exact .d _ _ (.fn f)

theorem RelS.put {w w' : World} {own own' : Nat → Slot} {st : AS} {a : Act} (h : RelS GT w own st a) {H' : List AObj} (hR : RelH GT w'.heap own' H') (hp : Pass w.heap own st.heap w'.heap own' H') (dst : Option Tmp) {cv : Value} {v : AV} (hv : VR w' own' H' cv v) :
    RelS GT w' own' (st.put dst v H') (a.put dst cv) := by
  cases dst with
  | none => exact ⟨hR, h.size, fun t => (h.tmps t).pass hp, h.defers⟩
  | some d =>
    refine ⟨hR, by simp [AS.put, Act.put, lset_length, h.size], fun t => ?_, h.defers⟩
    simp only [AS.put, Act.put]
    by_cases e : t = d
    · subst e
      by_cases hlt : t < st.tmps.length
      · rw [lget_lset_eq _ _ _ hlt]
        have : (a.tmps.setIfInBounds t cv).getD t undef = cv := by
          have : t < a.tmps.size := by rw [h.size]; exact hlt
          simp [Array.getD, this]
        rw [this]; exact hv
      · rw [lget_ge _ _ (by rw [lset_length]; omega)]; exact .un _
    · rw [lget_lset_ne _ _ _ _ (fun x => e x.symm)]
      have : (a.tmps.setIfInBounds d cv).getD t undef = a.tmps.getD t undef := by
        simp only [Array.getD_eq_getD_getElem?]
        rw [Array.getElem?_setIfInBounds_ne (fun x => e x.symm)]
      rw [this]; exact (h.tmps t).pass hp

def callOf : Op → Option (Operand × Array Operand)
  | .call c => match c.callee with
    | .value f => some (f, c.args)
    | _ => none
  | _ => none

/-- an operation whose answer is open: a slice against nil -/
noncomputable def nop (P : Program) (GT : Globs) (tm : List AV) (H : List AObj) : Op → Option (AV → Prop)
  | .binOp op t x y _ =>
    if (elemT P t).isSome = true then
      match op, ev GT tm x, ev GT tm y with
      | .eql, .d (.list xs), .nils => some fun v => ∃ b : Bool, v = .d (.bool b) ∧ (b = true → xs = [])
      | .neq, .d (.list xs), .nils => some fun v => ∃ b : Bool, v = .d (.bool b) ∧ (b = false → xs = [])
      | .eql, .nils, .nils => some fun v => v = .d (.bool true)
      | .neq, .nils, .nils => some fun v => v = .d (.bool false)
      | .eql, .ref b g i n c, .nils => if okv H (.ref b g i n c) = true then some fun v => ∃ b : Bool, v = .d (.bool b) ∧ (b = true → n = 0) else none
      | .neq, .ref b g i n c, .nils => if okv H (.ref b g i n c) = true then some fun v => ∃ b : Bool, v = .d (.bool b) ∧ (b = false → n = 0) else none
      | _, _, _ => none
    else none
  | _ => none

def aop (P : Program) (GT : Globs) (o : Oper) (K : AS → Prop) (st : AS) : Prop :=
  match callOf o.op with
  | some (f, args) => match ev GT st.tmps f with
    | .d (.fn g) => ACalls P GT g (args.toList.map fun x => coe (ev GT st.tmps x)) st.heap fun v H' => K (st.put o.dst v H')
    | .fn g fs cs => ACalls P GT g (fs ++ (args.toList.map fun x => coe (ev GT st.tmps x)) ++ cs) st.heap fun v H' => K (st.put o.dst v H')
    | _ => False
  | none => match qop P GT st.tmps st.heap o.op with
    | some (v, N) => K (st.put o.dst v (st.heap ++ N))
    | none => match lop P GT st.tmps st.heap o.op with
      | some (v, H') => K (st.put o.dst v H')
      | none => match nop P GT st.tmps st.heap o.op with
        | some pr => ∀ v, pr v → K (st.put o.dst v st.heap)
        | none => False

/-- what the guard's operation yielded -/
noncomputable def gval (ops : Array Oper) (tm : List AV) (j : Nat) : AV := match (ops[j]?).bind (·.dst) with | some d => lget tm d | none => .tup []

def aops (P : Program) (GT : Globs) (ops : Array Oper) : List Oper → (AS → Prop) → AS → Prop
  | [], K, st => K st
  | o :: rest, K, st => match o.guard with
    | none => aop P GT o (aops P GT ops rest K) st
    | some (j, want) => match gval ops st.tmps j with
      | .d (.bool b) => if b = want then aop P GT o (aops P GT ops rest K) st else aops P GT ops rest K (st.put o.dst (.tup []) st.heap)
      | .tup [] => aops P GT ops rest K (st.put o.dst (.tup []) st.heap)
      | _ => False

theorem wp_value {o : Oper} {a : Act} {w w' : World} {next : Act → World → Prop} {Q : Exit → Act → World → Prop} {v : Value} (h : (execOp a.eval o).run P w = .ok (.value v) w') (hn : next (a.put o.dst v) w') : o.wp P a w next Q := by
  unfold Oper.wp; rw [h]; exact hn
theorem wp_skip' {o : Oper} {a : Act} {w w' : World} {next : Act → World → Prop} {Q : Exit → Act → World → Prop} (h : (execOp a.eval o).run P w = .ok .skip w') (hn : next (a.put o.dst undef) w') : o.wp P a w next Q := by
  unfold Oper.wp; rw [h]; exact hn

theorem run_call {o : Oper} {ρ : Operand → Value} {w : World} {f : Operand} {args : Array Operand} {g : FuncId} {fs cs : List Value} (hc : callOf o.op = some (f, args)) (hf : ρ f = .func (.func g) fs.toArray cs.toArray) (hg : callable P g = true) :
    (execOp ρ o).run P w = .ok (.enter g (fs ++ args.toList.map ρ ++ cs).toArray) w := by
  unfold callable at hg
  split at hg
  · rename_i fn hfn
    simp only [Bool.and_eq_true, bne_iff_ne, ne_eq] at hg
    unfold callOf at hc
    split at hc
    · rename_i c hop
      split at hc
      · rename_i f' hcal
        cases hc
        obtain ⟨callee, args, tys⟩ := c
        simp only at hcal
        subst hcal
        have e : fs.toArray ++ Array.map ρ args ++ cs.toArray = (fs ++ args.toList.map ρ ++ cs).toArray := by apply Array.ext'; simp
        have hb : fn.body ≠ none := by intro h; simp [h] at hg
        simp [execOp, hop, resolve, Deferred.ofValue, hf, invoke, callFunc, program, Sem.run, hfn, hg.2, hb]
      · cases hc
    · cases hc
  · cases hg

theorem list_rep {w : World} {own : Nat → Slot} {H : List AObj} {α : Type} (l : List α) (f : α → Value) (g : α → AV) (h : ∀ x, VR w own H (f x) (g x)) : ∀ (j : Nat) v a, (l.map f)[j]? = some v → (l.map g)[j]? = some a → VR w own H v a := by
  intro j v a hv ha
  simp only [List.getElem?_map, Option.map_eq_some_iff] at hv ha
  obtain ⟨x, hx, rfl⟩ := hv
  obtain ⟨y, hy, rfl⟩ := ha
  rw [hx] at hy; cases hy; exact h x
theorem append_rep {w : World} {own : Nat → Slot} {H : List AObj} {us vs : List Value} {as bs : List AV} (hl : us.length = as.length) (h1 : ∀ (j : Nat) v a, us[j]? = some v → as[j]? = some a → VR w own H v a) (h2 : ∀ (j : Nat) v a, vs[j]? = some v → bs[j]? = some a → VR w own H v a) :
    ∀ (j : Nat) v a, (us ++ vs)[j]? = some v → (as ++ bs)[j]? = some a → VR w own H v a := by
  intro j v a hv ha
  rw [List.getElem?_append] at hv ha
  rw [← hl] at ha
  split at hv
  · rename_i h; rw [if_pos h] at ha; exact h1 j v a hv ha
  · rename_i h; rw [if_neg h] at ha; exact h2 _ v a hv ha

theorem run_eqIn_nil {t e : TypeId} {w : World} (d : Nat) (hu : P.underlying t = some (.slice e)) (ad : Option Addr) (n m : Nat) : (Op.equalIn (d + 1) t (.slice ad n m) (.slice none 0 0)).run P w = .ok ad.isNone w := by
  cases ad with
  | none => simp only [Op.equalIn, Sem.run_bind, run_under hu, Result.andThen_ok]; rfl
  | some a => simp only [Op.equalIn, Sem.run_bind, run_under hu, Result.andThen_ok]; rfl
theorem run_eq_nil {t e : TypeId} {w : World} (hu : P.underlying t = some (.slice e)) (ad : Option Addr) (n m : Nat) : (Op.equal t (.slice ad n m) (.slice none 0 0)).run P w = .ok ad.isNone w :=
  run_eqIn_nil 9999 hu ad n m

set_option maxHeartbeats 1000000 in
theorem aop_sound {o : Oper} {K : AS → Prop} {st : AS} {w : World} {own : Nat → Slot} {a : Act} (h : aop P GT o K st) (hS : RelS GT w own st a) {next : Act → World → Prop} {Q : Exit → Act → World → Prop}
    (hn : ∀ a' w' own' st', Mv w own st.heap w' own' st'.heap → RelS GT w' own' st' a' → K st' → next a' w') : o.wp P a w next Q := by
  unfold aop at h
  have call : ∀ (g : FuncId) (fs cs : List Value) (f : Operand) (args : Array Operand) (fa ca : List AV), callOf o.op = some (f, args) → a.eval f = .func (.func g) fs.toArray cs.toArray → fs.length = fa.length → cs.length = ca.length →
      (∀ (j : Nat) v a, fs[j]? = some v → fa[j]? = some a → VR w own st.heap v a) → (∀ (j : Nat) v a, cs[j]? = some v → ca[j]? = some a → VR w own st.heap v a) →
      (ACalls P GT g (fa ++ (args.toList.map fun x => coe (ev GT st.tmps x)) ++ ca) st.heap fun v H' => K (st.put o.dst v H')) → o.wp P a w next Q := by
    intro g fs cs f args fa ca hc hf l1 l2 h1 h2 hcall
    have hrun := run_call (P := P) (w := w) hc hf hcall.1
    unfold Oper.wp
    rw [hrun]
    have hargs : ∀ (j : Nat) v b, (fs ++ args.toList.map a.eval ++ cs)[j]? = some v → (fa ++ (args.toList.map fun x => coe (ev GT st.tmps x)) ++ ca)[j]? = some b → VR w own st.heap v b :=
      append_rep (by simp [l1]) (append_rep l1 h1 (list_rep _ _ _ fun x => coe_rep (hS.eval x))) h2
    refine (hcall.2 w own _ hS.heap (by simp [l1, l2]) hargs).mono ?_
    rintro e w' ⟨v, av, H', own', rfl, q1, q2, q3, q4⟩
    exact hn _ _ own' _ q2 (hS.put q1 q2.1 o.dst q3) q4
  split at h
  · rename_i f args hc
    split at h
    · rename_i g he
      have hf := hS.eval f
      rw [he] at hf
      have hfv : a.eval f = .func (.func g) #[] #[] := by
        have := hf.d_inv
        generalize a.eval f = y at this
        cases this; rfl
      exact call g [] [] f args [] [] hc hfv rfl rfl (fun j v b hv => by simp at hv) (fun j v b hv => by simp at hv) (by simpa using h)
    · rename_i g fa ca he
      have hf := hS.eval f
      rw [he] at hf
      obtain ⟨fs, cs, hfv, l1, l2, h1, h2⟩ := hf.fn_inv
      exact call g fs cs f args fa ca hc hfv l1 l2 h1 h2 h
    · exact h.elim
  · split at h
    · rename_i v N hq
      obtain ⟨hR1, hp1⟩ := ext_rel hS.heap N
      obtain ⟨cv, w', own', h1, h2, h3, h4, h5, h6, hkp⟩ := qop_sound (o := o) (ρ := a.eval) (w := w) (own := own) hR1 (fun x _ => (hS.eval x).pass hp1) hq (List.prefix_refl _) (fun b hb _ => hS.heap.out b hb)
      have hmv : Mv w own st.heap w' own' (st.heap ++ N) := ⟨hp1.trans h3, fun b hb hnb => by
        rcases h5 b with e | e
        · rw [e]; exact hnb
        · omega, hkp⟩
      exact wp_value h1 (hn _ _ own' _ hmv (hS.put h2 hmv.1 o.dst h4) h)
    · split at h
      · rename_i v H' hq
        obtain ⟨cv, w', own', h1, h2, h3, h4, h5⟩ := lop_sound (o := o) (ρ := a.eval) hS.heap (fun x _ => hS.eval x) hq
        have hmv : Mv w own st.heap w' own' H' := ⟨h3, h5⟩
        have hrel := hS.put h2 h3 o.dst h4
        rcases h1 with h1 | ⟨h1, rfl⟩
        · exact wp_value h1 (hn _ _ own' _ hmv hrel h)
        · exact wp_skip' h1 (hn _ _ own' _ hmv hrel h)
      · split at h
        · rename_i pr hq
          have done : ∀ (cv : Value) (v : AV), (execOp a.eval o).run P w = .ok (.value cv) w → VR w own st.heap cv v → pr v → o.wp P a w next Q := fun cv v hr hv hpr =>
            wp_value hr (hn _ _ own (st.put o.dst v st.heap) (.refl _ _ _) (hS.put hS.heap (.refl _ _ _) o.dst hv) (h v hpr))
          unfold nop at hq
          split at hq
          · rename_i op t x y yt hop
            split at hq
            · rename_i he
              obtain ⟨e, he⟩ := Option.isSome_iff_exists.1 he
              have hu := elemT_spec he
              have hx := hS.eval x
              have hy := hS.eval y
              have hrun : ∀ cx cy r, a.eval x = cx → a.eval y = cy → (∀ n m, cx = .slice none n m → cy = .slice none 0 0 → r = true) → (∀ ad n m, cx = .slice (some ad) n m → r = false) → (∃ ad n m, cx = .slice ad n m) → cy = .slice none 0 0 →
                  (op = .eql → (execOp a.eval o).run P w = .ok (.value (.bool r)) w) ∧ (op = .neq → (execOp a.eval o).run P w = .ok (.value (.bool (!r))) w) := by
                intro cx cy r ex ey h1 h2 h3 h4
                obtain ⟨ad, n, m, rfl⟩ := h3
                subst h4
                have heq : (Op.equal t (.slice ad n m) (.slice none 0 0)).run P w = .ok r w := by
                  rw [run_eq_nil hu]
                  cases ad with
                  | none => rw [h1 n m rfl rfl]; rfl
                  | some ad => rw [h2 ad n m rfl]; rfl
                constructor
                · rintro rfl; simp [execOp, hop, ex, ey, eqGuard, binOp, heq]
                · rintro rfl; simp [execOp, hop, ex, ey, eqGuard, binOp, heq]
              split at hq
              · rename_i xs e1 e2
                cases hq
                rw [e1] at hx; rw [e2] at hy
                have hyv := hy.nils_inv
                rcases hx.d_inv.list_inv with ⟨hxv, rfl⟩ | ⟨b, off, cap, z, f, hxv, _⟩ | ⟨a0, hxv, rfl⟩
                rotate_left 2
                · exact done (.bool false) _ ((hrun _ _ false hxv hyv (fun _ _ h => by cases h) (fun _ _ _ _ => rfl) ⟨_, _, _, rfl⟩ rfl).1 rfl) (.bool _) ⟨false, rfl, fun h => by cases h⟩
                · exact done (.bool true) _ ((hrun _ _ true hxv hyv (fun _ _ _ _ => rfl) (fun _ _ _ h => by cases h) ⟨_, _, _, rfl⟩ rfl).1 rfl) (.bool _) ⟨true, rfl, fun _ => rfl⟩
                · exact done (.bool false) _ ((hrun _ _ false hxv hyv (fun _ _ h => by cases h) (fun _ _ _ _ => rfl) ⟨_, _, _, rfl⟩ rfl).1 rfl) (.bool _) ⟨false, rfl, fun h => by cases h⟩
              · rename_i xs e1 e2
                cases hq
                rw [e1] at hx; rw [e2] at hy
                have hyv := hy.nils_inv
                rcases hx.d_inv.list_inv with ⟨hxv, rfl⟩ | ⟨b, off, cap, z, f, hxv, _⟩ | ⟨a0, hxv, rfl⟩
                rotate_left 2
                · exact done (.bool true) _ ((hrun _ _ false hxv hyv (fun _ _ h => by cases h) (fun _ _ _ _ => rfl) ⟨_, _, _, rfl⟩ rfl).2 rfl) (.bool _) ⟨true, rfl, fun h => by cases h⟩
                · exact done (.bool false) _ ((hrun _ _ true hxv hyv (fun _ _ _ _ => rfl) (fun _ _ _ h => by cases h) ⟨_, _, _, rfl⟩ rfl).2 rfl) (.bool _) ⟨false, rfl, fun _ => rfl⟩
                · exact done (.bool true) _ ((hrun _ _ false hxv hyv (fun _ _ h => by cases h) (fun _ _ _ _ => rfl) ⟨_, _, _, rfl⟩ rfl).2 rfl) (.bool _) ⟨true, rfl, fun h => by cases h⟩
              · rename_i e1 e2
                cases hq
                rw [e1] at hx; rw [e2] at hy
                exact done (.bool true) _ ((hrun _ _ true hx.nils_inv hy.nils_inv (fun _ _ _ _ => rfl) (fun _ _ _ h => by cases h) ⟨_, _, _, rfl⟩ rfl).1 rfl) (.bool _) rfl
              · rename_i e1 e2
                cases hq
                rw [e1] at hx; rw [e2] at hy
                exact done (.bool false) _ ((hrun _ _ true hx.nils_inv hy.nils_inv (fun _ _ _ _ => rfl) (fun _ _ _ h => by cases h) ⟨_, _, _, rfl⟩ rfl).2 rfl) (.bool _) rfl
              · rename_i b g i n c e1 e2
                split at hq
                · rename_i hk
                  cases hq
                  rw [e1] at hx; rw [e2] at hy
                  have hyv := hy.nils_inv
                  have h1 := okv_one hx hk rfl
                  generalize hxv : a.eval x = cx at hx
                  cases hx with
                  | ref _ _ _ _ _ c z fz xs capc off sz ho hb hin hcap hmax hkk hoff hs hsz =>
                    exact done (.bool false) _ ((hrun _ _ false hxv hyv (fun _ _ h => by cases h) (fun _ _ _ _ => rfl) ⟨_, _, _, rfl⟩ rfl).1 rfl) (.bool _) ⟨false, rfl, fun h => by cases h⟩
                  | virt _ _ z fz _ ho hb hkk => exact done (.bool true) _ ((hrun _ _ true hxv hyv (fun _ _ _ _ => rfl) (fun _ _ _ h => by cases h) ⟨_, _, _, rfl⟩ rfl).1 rfl) (.bool _) ⟨true, rfl, fun _ => rfl⟩
                  | stale _ _ _ _ _ _ o hb hg => exact absurd hk (by simp only [okv, hget, hb, beq_iff_eq]; omega)
                · cases hq
              · rename_i b g i n c e1 e2
                split at hq
                · rename_i hk
                  cases hq
                  rw [e1] at hx; rw [e2] at hy
                  have hyv := hy.nils_inv
                  generalize hxv : a.eval x = cx at hx
                  cases hx with
                  | ref _ _ _ _ _ c z fz xs capc off sz ho hb hin hcap hmax hkk hoff hs hsz =>
                    exact done (.bool true) _ ((hrun _ _ false hxv hyv (fun _ _ h => by cases h) (fun _ _ _ _ => rfl) ⟨_, _, _, rfl⟩ rfl).2 rfl) (.bool _) ⟨true, rfl, fun h => by cases h⟩
                  | virt _ _ z fz _ ho hb hkk => exact done (.bool false) _ ((hrun _ _ true hxv hyv (fun _ _ _ _ => rfl) (fun _ _ _ h => by cases h) ⟨_, _, _, rfl⟩ rfl).2 rfl) (.bool _) ⟨false, rfl, fun _ => rfl⟩
                  | stale _ _ _ _ _ _ o hb hg => exact absurd hk (by simp only [okv, hget, hb, beq_iff_eq]; omega)
                · cases hq
              · cases hq
            · cases hq
          · cases hq
        · exact h.elim

end Go.Ab
