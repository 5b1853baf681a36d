/- Shared by the contracts, continued. Rules for rows of one's own: elements, slices, results. Functions that give a row of data, the caller's own from there on. A variable that holds a row which grows, in a heap that is not one's own. Regions whose order is open, order by order. -/
import Derived.Test.YtckjoghpknalcaaGreatDoorA4
set_option linter.unusedVariables false
set_option linter.unusedSimpArgs false
set_option linter.unnecessarySimpa false
namespace Go.Ab

@[go_sem] theorem uni_int (l : List Int) : uni 1 (l.map (D.int .i64)) = true := by simp [uni, D.cells]

theorem find_at {α : Type} {l : List α} {p : α → Bool} {i : Nat} (h : i < l.length) (h1 : ∀ x ∈ l.take i, p x = false) (h2 : p l[i] = true) : l.find? p = some l[i] := by
  have e : l.find? p = (l.take i ++ l.drop i).find? p := by rw [List.take_append_drop]
  have e2 : l.drop i = l[i] :: l.drop (i + 1) := List.drop_eq_getElem_cons h
  rw [e, List.find?_append, e2]
  have h0 : (l.take i).find? p = none := by
    rw [List.find?_eq_none]; intro x hx; rw [h1 x hx]; simp
  rw [h0, List.find?_cons, h2]; rfl
theorem find_no {α : Type} {l : List α} {p : α → Bool} (h1 : ∀ x ∈ l, p x = false) : l.find? p = none := by
  rw [List.find?_eq_none]; intro x hx; rw [h1 x hx]; simp
theorem take_all {α : Type} {l : List α} {p : α → Prop} {i : Nat} (h : i < l.length) (h1 : ∀ x ∈ l.take i, p x) (h2 : p l[i]) : ∀ x ∈ l.take (i + 1), p x := by
  intro x hx
  rw [List.take_succ_eq_append_getElem h] at hx
  rcases List.mem_append.1 hx with h | h
  · exact h1 x h
  · simp at h; subst h; exact h2
theorem take_end {α : Type} {l : List α} {i : Nat} (h : ¬ (i : Int) < (l.length : Int)) : l.take i = l := List.take_of_length_le (by omega)


theorem findIdx_at {α : Type} {l : List α} {p : α → Bool} {i : Nat} (h : i < l.length) (h1 : ∀ x ∈ l.take i, p x = false) (h2 : p l[i] = true) : l.findIdx? p = some i := by
  rw [List.findIdx?_eq_some_iff_getElem]
  refine ⟨h, h2, fun j hj => ?_⟩
  have := h1 l[j] (by rw [List.mem_take_iff_getElem]; exact ⟨j, by omega, rfl⟩)
  simp [this]
theorem findIdx_no {α : Type} {l : List α} {p : α → Bool} (h1 : ∀ x ∈ l, p x = false) : l.findIdx? p = none := by
  rw [List.findIdx?_eq_none_iff]; exact h1

variable {P : Program} {GT : Globs}
/-- a result that lies in a variable -/
def retL (r : Option AV) (K : AV → List AObj → Prop) (H : List AObj) : Prop := match r with | some v => K v H | none => False
@[go_sem] theorem retL_some (v : AV) (K : AV → List AObj → Prop) (H : List AObj) : retL (some v) K H = K v H := pf rfl
@[go_sem] theorem retQ_c1 (a : Tmp) (t : TypeId) (K : AV → List AObj → Prop) (n : Nat) (l : List (Nat × AV)) (H : List AObj) (h : a < n) : retQ P [.cell a t] K .ret ⟨E n l, H⟩ = retL (aload P H t (eget l a)) K H := by
  simp only [retQ, resVs, resV, lget_E, if_pos h, retL]
  apply propext
  cases aload P H t (eget l a) with
  | none => simp
  | some v => simp [tupOf]
@[go_sem] theorem retQ_n1 (t : Tmp) (K : AV → List AObj → Prop) (n : Nat) (l : List (Nat × AV)) (H : List AObj) (h : t < n) : retQ P [.tmp t] K .normal ⟨E n l, H⟩ = K (eget l t) H := by
  simp [retQ, resVs, resV, tupOf, lget_E, h]

theorem callV_mono {f : AV} {args : List AV} {H : List AObj} {R R' : AV → List AObj → Prop} (h : callV P GT f args H R) (hr : ∀ v H', R v H' → R' v H') : callV P GT f args H R' := by
  unfold callV at *
  cases f with
  | d x => cases x with
    | fn g => exact h.mono hr
    | _ => exact h
  | fn g fs cs => exact h.mono hr
  | _ => exact h
theorem pureK_tup2 (H L : List AObj) (R : AV → Prop) (x y : D) (h : R (.tup [.d x, .d y])) : pureK H R (.tup [.d x, .d y]) (H ++ L) := ⟨L, _, rfl, by simp [pureR, pureL, pureA], h⟩
theorem pureK_tup20 (H : List AObj) (R : AV → Prop) (x y : D) (h : R (.tup [.d x, .d y])) : pureK H R (.tup [.d x, .d y]) H := ⟨[], _, (List.append_nil H).symm, by simp [pureR, pureL, pureA], h⟩

end Go.Ab

namespace Go.Ab

variable {P : Program} {GT : Globs}

/-! elements of one's own rows -/
def aiP (P : Program) (e : Option TypeId) (o : Option AObj) (b g i0 m n : Nat) : Option AV := match e, o with
  | some e, some (.row z g' _ _) => if g' = g then if z = tcells P e then if n < m then some (.ptr b g (i0 + n) 0) else none else none else none
  | _, _ => none
@[go_sem] theorem aindexAddr_ref (H : List AObj) (t : TypeId) (b g i0 m : Nat) (c : Option Nat) (k : IntKind) (n : Nat) (h : (elemT P t).isSome = true) :
    aindexAddr P H t (.ref b g i0 m c) (.d (.int k (n : Int))) = aiP P (elemT P t) (hget H b) b g i0 m n := by
  unfold aindexAddr aiP
  cases he : elemT P t with
  | none => rw [he] at h; cases h
  | some e =>
    simp only
    cases hget H b with
    | none => rfl
    | some o => cases o with
      | map es => rfl
      | iter s p => rfl
      | row z g' fz xs =>
        simp only [Int.toNat_natCast]
        by_cases h1 : g' = g
        · rw [if_pos h1, if_pos h1]
          by_cases h2 : z = tcells P e
          · rw [if_pos h2, if_pos h2]
            by_cases h3 : n < m
            · rw [if_pos h3, if_pos ⟨by omega, by omega⟩]
            · rw [if_neg h3, if_neg (by omega)]
          · rw [if_neg h2, if_neg h2]
        · rw [if_neg h1, if_neg h1]
@[go_sem] theorem aiP_some (e : TypeId) (b g i0 m n z : Nat) (fz : Bool) (xs : List AV) (h : tcells P e = z) (hn : n < m) : aiP P (some e) (some (.row z g fz xs)) b g i0 m n = some (.ptr b g (i0 + n) 0) := by
  simp [aiP, h, hn]
def alR (o : Option AObj) (g n : Nat) : Option AV := match o with | some (.row _ g' _ _) => if g' = g then some (.d (.int .i64 n)) else none | _ => none
@[go_sem] theorem l_ref (H : List AObj) (t : TypeId) (b g i n : Nat) (c : Option Nat) (h : (elemT P t).isSome = true) : alen P H t (.ref b g i n c) = alR (hget H b) g n := by
  show (match hget H b with
    | some (.row _ g' _ _) => if g' = g ∧ (elemT P t).isSome = true then some (AV.d (D.int IntKind.i64 n)) else none
    | _ => none) = _
  unfold alR
  cases hget H b with
  | none => rfl
  | some o => cases o with
    | map es => rfl
    | iter s p => rfl
    | row z g' fz xs => simp [h]
@[go_sem] theorem alR_row (z g n : Nat) (fz : Bool) (xs : List AV) : alR (some (.row z g fz xs)) g n = some (.d (.int .i64 n)) := by simp [alR]

/-! slices of one's own rows -/
def slP (P : Program) (e : Option TypeId) (o : Option AObj) (b g i n : Nat) (cap : Option Nat) (lo hi : Nat) : Option AV := match e, o with
  | some e, some (.row z g' _ xs) => if g' = g then if tcells P e = z then if lo ≤ hi ∧ hi ≤ n then some (.ref b g (i + lo) (hi - lo) (cap.map (· - lo))) else if lo ≤ hi ∧ beyond xs.length i cap hi = true then some (.ref b g (i + lo) (hi - lo) (cap.map (· - lo))) else none else none else none
  | _, _ => none
@[go_sem] theorem slP_row (e : TypeId) (b g i n lo hi z : Nat) (cap : Option Nat) (fz : Bool) (xs : List AV) (h : tcells P e = z) (h1 : lo ≤ hi) (h2 : hi ≤ n) : slP P (some e) (some (.row z g fz xs)) b g i n cap lo hi = some (.ref b g (i + lo) (hi - lo) (cap.map (· - lo))) := by
  simp [slP, h, h1, h2]
theorem asliceRef_eq (H : List AObj) (t : TypeId) (b g i n : Nat) (cap : Option Nat) (lo hi : Option AV) (l h : Nat) (hl : abound 0 lo = some (l : Int)) (hh : abound n hi = some (h : Int)) : asl P H t (.ref b g i n cap) lo hi none = slP P (elemT P t) (hget H b) b g i n cap l h := by
  simp only [asl, asliceRef, slP]
  cases hget H b with
  | none => cases elemT P t <;> rfl
  | some o => cases o with
    | map es => cases elemT P t <;> rfl
    | iter s p => cases elemT P t <;> rfl
    | row z g' fz xs =>
      simp only
      by_cases h1 : g' = g
      · rw [if_pos h1]
        cases elemT P t with
        | none => rfl
        | some e =>
          simp only
          rw [if_pos h1]
          by_cases h2 : tcells P e = z
          · rw [if_pos h2, if_pos h2]
            simp only [hl, hh, Int.toNat_natCast]
            by_cases h3 : l ≤ h ∧ h ≤ n
            · rw [if_pos h3, if_pos (by omega)]
            · rw [if_neg h3, if_neg (by omega)]
              by_cases h4 : l ≤ h ∧ beyond xs.length i cap h = true
              · rw [if_pos h4, if_pos ⟨rfl, by omega, by omega, h4.2⟩]
              · rw [if_neg h4, if_neg (fun hh => h4 ⟨by omega, hh.2.2.2⟩)]
          · rw [if_neg h2, if_neg h2]
      · rw [if_neg h1]
        cases elemT P t with
        | none => rfl
        | some e => simp only; rw [if_neg h1]
@[go_sem] theorem asl_hi (H : List AObj) (t : TypeId) (b g i n h : Nat) (cap : Option Nat) (k : IntKind) : asl P H t (.ref b g i n cap) none (some (.d (.int k (h : Int)))) none = slP P (elemT P t) (hget H b) b g i n cap 0 h := asliceRef_eq H t b g i n cap _ _ 0 h rfl rfl
@[go_sem] theorem asl_lo (H : List AObj) (t : TypeId) (b g i n l : Nat) (cap : Option Nat) (k : IntKind) : asl P H t (.ref b g i n cap) (some (.d (.int k (l : Int)))) none none = slP P (elemT P t) (hget H b) b g i n cap l n := asliceRef_eq H t b g i n cap _ _ l n rfl rfl
@[go_sem] theorem asl_all (H : List AObj) (t : TypeId) (b g i n : Nat) (cap : Option Nat) : asl P H t (.ref b g i n cap) none none none = slP P (elemT P t) (hget H b) b g i n cap 0 n := asliceRef_eq H t b g i n cap _ _ 0 n rfl rfl
@[go_sem] theorem asl_both (H : List AObj) (t : TypeId) (b g i n l h : Nat) (cap : Option Nat) (k k' : IntKind) : asl P H t (.ref b g i n cap) (some (.d (.int k (l : Int)))) (some (.d (.int k' (h : Int)))) none = slP P (elemT P t) (hget H b) b g i n cap l h := asliceRef_eq H t b g i n cap _ _ l h rfl rfl
attribute [go_sem] Nat.sub_zero Nat.add_zero Nat.zero_le

/-! results that are rows -/
theorem pureA_row {α : Type} {ok : Nat → Bool} {H : List AObj} {b g z n m : Nat} {c : Option Nat} {fz : Bool} {R : List α} {f : α → D} (hb : hget H b = some (.row z g fz (R.map fun x => .d (f x)))) (ho : ok b = true) :
    pureA ok H (m + 1) (.ref b g 0 n c) = some (.list ((R.take n).map f)) := by
  simp only [pureA, hb, ho, and_self, if_true, List.drop_zero]
  have : (R.map fun x => AV.d (f x)).take n = ((R.take n).map f).map .d := by rw [List.map_map, List.map_take]; rfl
  rw [this]
  have hp : ∀ x, pureA ok H m (.d x) = some x := fun x => by cases m <;> simp [pureA]
  rw [pureL_map _ hp]; rfl
theorem pureR_row {α : Type} {ok : Nat → Bool} {H : List AObj} {b g z n m : Nat} {c : Option Nat} {fz : Bool} {R : List α} {f : α → D} (hb : hget H b = some (.row z g fz (R.map fun x => .d (f x)))) (ho : ok b = true) :
    pureR ok H (m + 1) (.ref b g 0 n c) = some (.d (.list ((R.take n).map f))) := by
  show (pureA ok H (m + 1) (.ref b g 0 n c)).map AV.d = _
  rw [pureA_row hb ho]; rfl
theorem pureK_row {α : Type} {H L : List AObj} {K : AV → Prop} {k g z n : Nat} {c : Option Nat} {fz : Bool} {R : List α} {f : α → D} (hb : L[k]? = some (.row z g fz (R.map fun x => .d (f x)))) (h : K (.d (.list ((R.take n).map f)))) : pureK H K (.ref (H.length + k) g 0 n c) (H ++ L) :=
  ⟨L, _, rfl, pureR_row (m := 49) (by rw [hget_own]; exact hb) (by simp), h⟩
theorem pureK_row0 {α : Type} {H L : List AObj} {K : AV → Prop} {g z n : Nat} {c : Option Nat} {fz : Bool} {R : List α} {f : α → D} (h : K (.d (.list ((R.take n).map f)))) : pureK H K (.ref H.length g 0 n c) (H ++ (.row z g fz (R.map fun x => .d (f x)) :: L)) :=
  pureK_row (k := 0) rfl h

/-- blocks of one's own may be turned if they refer to nothing that goes -/
theorem keeps_own {H L L' : List AObj} (hl : L'.length = L.length) (h : ∀ o ∈ L', cloO (H ++ L').length o = true) : Keeps (H ++ L) (H ++ L') := by
  refine ⟨by simp [hl], fun b o hb => ?_⟩
  rcases Nat.lt_or_ge b H.length with h1 | h1
  · left
    rw [List.getElem?_append_left h1] at hb ⊢
    exact hb
  · right
    rw [List.getElem?_append_right h1] at hb
    exact h o (List.mem_of_getElem? hb)
theorem clo_data {α : Type} (n z g : Nat) (fz : Bool) (R : List α) (f : α → D) : cloO n (.row z g fz (R.map fun x => .d (f x))) = true := by
  simp only [cloO]
  exact cloL_spec.2 fun a ha => by
    simp only [List.mem_map] at ha
    obtain ⟨x, _, rfl⟩ := ha
    rfl
theorem set_data {α : Type} (R : List α) (f : α → D) (i : Nat) (y : α) : (R.map fun x => AV.d (f x)).set i (.d (f y)) = (R.set i y).map fun x => AV.d (f x) := (List.map_set (f := fun x => AV.d (f x)) (l := R) (i := i) (a := y)).symm
theorem app_data {α : Type} (R S : List α) (f : α → D) : (R.map fun x => AV.d (f x)) ++ ((S.map f).map .d) = (R ++ S).map fun x => AV.d (f x) := by simp
theorem get_data {α : Type} {R : List α} (f : α → D) {i : Nat} (h : i < R.length) : (R.map fun x => AV.d (f x))[i]? = some (.d (f R[i])) := by simp [h]

theorem take_set_last {α : Type} {R acc : List α} {n : Nat} (h : R.take n = acc) (hn : 0 < n) (hl : n ≤ R.length) (y : α) : (R.set (n - 1) y).take n = acc.dropLast ++ [y] := by
  subst h
  rw [List.take_set]
  obtain ⟨m, rfl⟩ : ∃ m, n = m + 1 := ⟨n - 1, by omega⟩
  rw [Nat.add_sub_cancel, List.take_succ_eq_append_getElem (by omega), List.set_append_right _ _ (by simp; omega), List.dropLast_concat]
  simp [Nat.min_eq_left (show m ≤ R.length by omega)]
theorem take_set_next {α : Type} {R : List α} {n : Nat} (hl : n < R.length) (y : α) : (R.set n y).take (n + 1) = R.take n ++ [y] := by
  rw [List.take_set, List.take_succ_eq_append_getElem hl, List.set_append_right _ _ (by simp; omega)]
  simp [Nat.min_eq_left (show n ≤ R.length by omega)]
theorem drop_set_low {α : Type} {R : List α} {k m : Nat} (h : k < m) (y : α) : (R.set k y).drop m = R.drop m := by
  rw [List.drop_set, if_pos h]

/-! rows built of data: data from their birth -/
theorem bsl_one {e : TypeId} {x : D} {d : Option Tmp} {F : AS → Prop} {tm : List AV} {H : List AObj} (h0 : 0 < tcells P e ∧ tcells P e ≤ 16777216) (h1 : x.cells.length = tcells P e) (h2 : zeroOK P H e = true) (h : F (AS.put ⟨tm, H⟩ d (.d (.list [x])) H)) :
    bslP (abuildS P H 1 [(0, .d x)] (some e)) d F ⟨tm, H⟩ := by
  have hc : (AV.d x).cells.length = tcells P e := by rw [← h1]; exact csz_d x
  have hb : abuildS P H 1 [(0, .d x)] (some e) = some (.ref H.length 0 0 1 (some 1), [.row (tcells P e) 0 false [.d x]]) := by
    unfold abuildS
    simp only [List.length_cons, List.length_nil, Nat.zero_add, h0, h2, Nat.one_mul, List.all_cons, List.all_nil, okv_d, Bool.and_self, and_self, if_true, rowOf, hc, Option.map_some]
  rw [hb]
  refine bsl_data (.list [x]) ?_ h
  have : pureA (fun b => decide (H.length ≤ b)) (H ++ [.row (tcells P e) 0 false [.d x]]) (49 + 1) (.ref H.length 0 0 1 (some 1)) = some (.list (([x].take 1).map id)) := pureA_row (α := D) (R := [x]) (f := id) (by rw [hget_own0]; rfl) (by simp)
  simpa using this
theorem bsl_two {e : TypeId} {x y : D} {d : Option Tmp} {F : AS → Prop} {tm : List AV} {H : List AObj} (h0 : 0 < tcells P e ∧ 2 * tcells P e ≤ 16777216) (h1 : x.cells.length = tcells P e) (h1' : y.cells.length = tcells P e) (h2 : zeroOK P H e = true) (h : F (AS.put ⟨tm, H⟩ d (.d (.list [x, y])) H)) :
    bslP (abuildS P H 2 [(0, .d x), (1, .d y)] (some e)) d F ⟨tm, H⟩ := by
  have hc : (AV.d x).cells.length = tcells P e := by rw [← h1]; exact csz_d x
  have hc' : (AV.d y).cells.length = tcells P e := by rw [← h1']; exact csz_d y
  have hb : abuildS P H 2 [(0, .d x), (1, .d y)] (some e) = some (.ref H.length 0 0 2 (some 2), [.row (tcells P e) 0 false [.d x, .d y]]) := by
    unfold abuildS
    simp only [List.length_cons, List.length_nil, Nat.zero_add, h0, h2, List.all_cons, List.all_nil, okv_d, Bool.and_self, and_self, if_true, rowOf, hc, hc', Option.map_some, Nat.reduceAdd]
  rw [hb]
  refine bsl_data (.list [x, y]) ?_ h
  have : pureA (fun b => decide (H.length ≤ b)) (H ++ [.row (tcells P e) 0 false [.d x, .d y]]) (49 + 1) (.ref H.length 0 0 2 (some 2)) = some (.list (([x, y].take 2).map id)) := pureA_row (α := D) (R := [x, y]) (f := id) (by rw [hget_own0]; rfl) (by simp)
  simpa using this
/-- a row built of one datum, one's own -/
theorem bsl_own1 {e : TypeId} {x : D} {d : Option Tmp} {F : AS → Prop} {tm : List AV} {H : List AObj} (h0 : 0 < tcells P e ∧ tcells P e ≤ 16777216) (h1 : x.cells.length = tcells P e) (h2 : zeroOK P H e = true) (h : F (AS.put ⟨tm, H⟩ d (.ref H.length 0 0 1 (some 1)) (H ++ [.row (tcells P e) 0 false [.d x]]))) :
    bslP (abuildS P H 1 [(0, .d x)] (some e)) d F ⟨tm, H⟩ := by
  have hc : (AV.d x).cells.length = tcells P e := by rw [← h1]; exact csz_d x
  have hb : abuildS P H 1 [(0, .d x)] (some e) = some (.ref H.length 0 0 1 (some 1), [.row (tcells P e) 0 false [.d x]]) := by
    unfold abuildS
    simp only [List.length_cons, List.length_nil, Nat.zero_add, h0, h2, Nat.one_mul, List.all_cons, List.all_nil, okv_d, Bool.and_self, and_self, if_true, rowOf, hc, Option.map_some]
  rw [hb]
  exact bsl_row h
@[go_sem] theorem uni_one (z : Nat) (x : D) (h : x.cells.length = z) : uni z [x] = true := by simp [uni, h]
@[go_sem] theorem uni_two (z : Nat) (x y : D) (h : x.cells.length = z) (h' : y.cells.length = z) : uni z [x, y] = true := by simp [uni, h, h']


/-! forgetting the last blocks of one's own -/
theorem drop_own {st0 : AS} {n : Nat} {l l3 : List (Nat × AV)} {H A A2 L : List AObj} (hA : A2 = A ++ L) (hk : Keeps st0.heap (H ++ A)) (h : held2 (H ++ A).length l l3) : Drop st0 ⟨E n l, H ++ A2⟩ ⟨E n l3, H ++ A⟩ := by
  subst hA
  rw [← List.append_assoc]
  exact drop_E2 hk h
@[go_sem] theorem lt_own0 (n k : Nat) : (n < n + (k + 1)) = True := by simp
attribute [go_sem] Nat.add_lt_add_iff_left
theorem clo_one {α : Type} {n z g : Nat} {fz : Bool} {R : List α} {f : α → D} : ∀ o ∈ [AObj.row z g fz (R.map fun x => .d (f x))], cloO n o = true := by
  intro o ho
  simp only [List.mem_singleton] at ho
  subst ho
  exact clo_data ..


/-! numbers of other kinds -/
@[go_sem] theorem r_convert (d : Option Tmp) (F : AS → Prop) (tm : List AV) (H : List AObj) (s t : TypeId) (x : Operand) (hs : (intT P s).isSome = true) (ht : (intT P t).isSome = true) : aopd P GT d (.convert s t x) F ⟨tm, H⟩ = qv (aconv (intT P s) (intT P t) (ev GT tm x)) d F ⟨tm, H⟩ := by
  obtain ⟨k1, h1⟩ := Option.isSome_iff_exists.1 hs
  obtain ⟨k2, h2⟩ := Option.isSome_iff_exists.1 ht
  have hst : strT P s = false := by
    unfold intT at h1
    unfold strT
    cases hu : P.underlying s with
    | none => rfl
    | some u => rw [hu] at h1; cases u <;> first | rfl | cases h1
  have : qop P GT tm H (.convert s t x) = (aconv (intT P s) (intT P t) (ev GT tm x)).map (·, []) := by
    simp only [qop, h1, h2]
    generalize ev GT tm x = a
    cases a with
    | d y => cases y with
      | int k n => rfl
      | str s' => simp [hst, aconv]
      | _ => rfl
    | _ => rfl
  rw [aop_q d F tm H rfl this (fun _ => rfl) (fun _ => rfl), qn_map]

end Go.Ab

namespace Go.Ab

variable {P : Program} {GT : Globs} {α : Type}

/-- of the blocks behind the caller's, one row of data stays -/
theorem adopt_row {w0 w : World} {own0 own : Nat → Slot} {H L : List AObj} {k z g : Nat} {xs : List α} {f : α → D} (hR0 : RelH GT w0.heap own0 H) (hR : RelH GT w.heap own (H ++ L)) (hm : Mv w0 own0 H w own (H ++ L)) (hk : L[k]? = some (.row z g false (xs.map fun x => .d (f x)))) :
    ∃ own2, RelH GT w.heap own2 (H ++ [.row z g false (xs.map fun x => .d (f x))]) ∧ Mv w0 own0 H w own2 (H ++ [.row z g false (xs.map fun x => .d (f x))]) ∧ own2 H.length = own (H.length + k) := by
  have hkl : (H ++ L)[H.length + k]? = some (.row z g false (xs.map fun x => .d (f x))) := by
    rw [List.getElem?_append_right (by omega)]; simpa using hk
  have hself : (H ++ [AObj.row z g false (xs.map fun x => .d (f x))])[H.length]? = some (.row z g false (xs.map fun x => .d (f x))) := by simp
  have hpre : ∀ b, b < H.length → (H ++ L)[b]? = (H ++ [AObj.row z g false (xs.map fun x => .d (f x))])[b]? := fun b hb => by
    rw [List.getElem?_append_left hb, List.getElem?_append_left hb]
  have hpre1 : ∀ b, b < H.length → (H ++ L)[b]? = H[b]? := fun b hb => List.getElem?_append_left hb
  let own2 : Nat → Slot := fun b => if b < H.length then own b else if b = H.length then own (H.length + k) else .no
  have h1 : ∀ b, b < H.length → own2 b = own b := fun b hb => by simp only [own2, if_pos hb]
  have h2 : own2 H.length = own (H.length + k) := by simp [own2]
  have h3 : ∀ b, H.length < b → own2 b = .no := fun b hb => by simp only [own2]; rw [if_neg (by omega), if_neg (by omega)]
  have how : ∀ b, b < H.length → own b ≠ .no → own2 b = own b := fun b hb _ => h1 b hb
  have hlt2 : ∀ {b : Nat} {o : AObj}, (H ++ [AObj.row z g false (xs.map fun x => .d (f x))])[b]? = some o → b < H.length ∨ b = H.length := fun hb => by
    have := lt_of_get hb
    simp at this; omega
  have hst : ∀ x, Still w.heap own (H ++ L) x → Still w.heap own2 (H ++ [.row z g false (xs.map fun x => .d (f x))]) x := fun x hx => ⟨hx.1, fun b o ho hb => by
    rcases hlt2 hb with hlt | rfl
    · rw [h1 b hlt] at ho
      exact hx.2 b o ho ((hpre b hlt).trans hb)
    · rw [h2] at ho
      have := hx.2 _ _ ho hkl
      cases this⟩
  refine ⟨own2, ⟨fun b hb => h3 b (by simp at hb; omega), fun b b' x hb hb' => ?_, fun b x o ho hb => ?_, fun b hb => ?_, fun g' cs hg => ?_⟩, ⟨⟨hm.1.size, fun x hx => ?_, fun b o hb => ?_, hm.1.rows⟩, fun b hb hn => ?_, hm.2.2⟩, h2⟩
  · have key : ∀ b, own2 b = .at x → (b < H.length ∧ own b = .at x) ∨ (b = H.length ∧ own (H.length + k) = .at x) := by
      intro b hb
      rcases Nat.lt_trichotomy b H.length with h | h | h
      · rw [h1 b h] at hb; exact .inl ⟨h, hb⟩
      · subst h; rw [h2] at hb; exact .inr ⟨rfl, hb⟩
      · rw [h3 b h] at hb; cases hb
    rcases key b hb with ⟨e1, e2⟩ | ⟨e1, e2⟩ <;> rcases key b' hb' with ⟨f1, f2⟩ | ⟨f1, f2⟩
    · exact hR.inj _ _ _ e2 f2
    · have := hR.inj _ _ _ e2 f2; omega
    · have := hR.inj _ _ _ e2 f2; omega
    · omega
  · rcases hlt2 hb with hlt | rfl
    · rw [h1 b hlt] at ho
      have hb0 : H[b]? = some o := by rw [List.getElem?_append_left hlt] at hb; exact hb
      refine (hR.obj b x o ho ((hpre b hlt).trans hb)).shrink hst hpre how ?_
      cases hs : own0 b with
      | no => have := hm.2.1 b hlt hs; rw [this] at ho; cases ho
      | virt =>
        obtain ⟨z, g, fz, h4, _⟩ := hR0.virt b hs
        rw [hb0] at h4; cases h4
        rfl
      | «at» c0 => exact (hR0.obj b c0 o hs hb0).clo
    · rw [h2] at ho
      rw [hself] at hb
      cases hb
      exact (hR.obj _ _ _ ho hkl).shrink hst hpre how (clo_data ..)
  · rcases Nat.lt_trichotomy b H.length with h | h | h
    · rw [h1 b h] at hb
      obtain ⟨z', g', fz, h4, h5⟩ := hR.virt b hb
      exact ⟨z', g', fz, (hpre b h).symm.trans h4, h5⟩
    · subst h
      rw [h2] at hb
      obtain ⟨z', g', fz, h4, h5⟩ := hR.virt _ hb
      rw [hkl] at h4
      have h6 := (AObj.row.injEq _ _ _ _ _ _ _ _).mp (Option.some.inj h4)
      refine ⟨z, g, false, ?_, by rw [h6.1]; exact h5⟩
      rw [hself, h6.2.2.2]
    · rw [h3 b h] at hb; cases hb
  · exact (hR.glob g' cs hg).shrink hst hpre how rfl
  · obtain ⟨q1, q2⟩ := hm.1.still x hx
    exact ⟨hst x q1, q2⟩
  · have hlt := lt_of_get hb
    obtain ⟨o', q1, q2, q3⟩ := hm.1.ext b o hb
    exact ⟨o', (hpre b hlt).symm.trans q1, q2, by rw [h1 b hlt]; exact q3⟩
  · rw [h1 b hb]; exact hm.2.1 b hb hn

/-- a row of data, the caller's from there on -/
def freshG (H : List AObj) (z : Nat) (f : α → D) (R : Nat → List α → Prop) : AV → List AObj → Prop := fun v H1 => ∃ L, H1 = H ++ L ∧
  ((v = .nils ∧ R 0 []) ∨ ∃ (k g n : Nat) (cap : Option Nat) (xs : List α), v = .ref (H.length + k) g 0 n cap ∧ L[k]? = some (.row z g false (xs.map fun x => .d (f x))) ∧ n = xs.length ∧ (cap = none ∨ cap = some n) ∧ R g xs)

/-- A FUNCTION THAT GIVES A ROW OF ITS OWN -/
theorem acalls_freshG {fi : FuncId} {fn : Func} {c : Code} {args : List AV} {H : List AObj} (z : Nat) (f : α → D) {R : Nat → List α → Prop} (n : Nat) (rs : List ResultVar) (hf : P.funcs[fi]? = some fn) (hb : fn.body = some c) (hc : callable P fi = true) (hn : fn.ntmps = n) (hrs : fn.results.toList = rs) (ha : args.length ≤ n)
    (hz : 0 < z) (h : ab P GT c (retQ P rs (freshG H z f R)) ⟨E n (ents 0 args), H⟩) :
    ACalls P GT fi args H fun v H' => ∃ g xs, v = .ref H.length g 0 xs.length none ∧ H' = H ++ [.row z g false (xs.map fun x => .d (f x))] ∧ R g xs := by
  subst hn hrs
  refine acalls_enter hf hb hc _ (drop_enter fn args H ha) (aw_mono ?_ (ab_sound h))
  have fin : ∀ st : AS, (∃ vs, resVs P st fn.results.toList = some vs ∧ freshG H z f R (tupOf vs) st.heap) → ∃ vs, resVs P st fn.results.toList = some vs ∧
      (fun v H1 => ∃ H2 v2, (∃ g xs, v2 = .ref H.length g 0 xs.length none ∧ H2 = H ++ [.row z g false (xs.map fun x => .d (f x))] ∧ R g xs) ∧ ∀ (w0 w : World) (own0 own : Nat → Slot), RelH GT w0.heap own0 H → RelH GT w.heap own H1 → Mv w0 own0 H w own H1 →
      ∃ own2, RelH GT w.heap own2 H2 ∧ Mv w0 own0 H w own2 H2 ∧ ∀ cv, VR w own H1 cv v → VR w own2 H2 cv v2) (tupOf vs) st.heap := by
    rintro ⟨tm, H1⟩ ⟨vs, h1, L, h2, h3⟩
    simp only at h2
    subst h2
    refine ⟨vs, h1, ?_⟩
    rcases h3 with ⟨hv, hr⟩ | ⟨k, g, m, cap, xs, hv, hL, hm, hcap, hr⟩
    · rw [hv]
      refine ⟨H ++ [.row z 0 false (([] : List α).map fun x => .d (f x))], .ref H.length 0 0 ([] : List α).length none, ⟨0, [], rfl, rfl, hr⟩, fun w0 w own0 own r0 r1 hmv => ?_⟩
      obtain ⟨own1, q1, q2, q3⟩ := virts_rel [z] r1 (by simpa using hz)
      have e : H ++ L ++ [z].map (fun z => AObj.row z 0 false []) = H ++ (L ++ [AObj.row z 0 false []]) := by simp
      rw [e] at q1 q2
      obtain ⟨own2, s1, s2, s3⟩ := adopt_row (k := L.length) (xs := ([] : List α)) (f := f) (z := z) (g := 0) r0 q1 (hmv.trans q2) (by simp)
      refine ⟨own2, s1, s2, fun cv hcv => ?_⟩
      have := hcv.nils_inv
      subst this
      have hvirt := q3 0 z rfl
      rw [List.length_append, Nat.add_zero] at hvirt
      exact .virt _ 0 z false none (by rw [s3]; exact hvirt) (by simp) (.inl rfl)
    · rw [hv]
      clear hv
      refine ⟨H ++ [.row z g false (xs.map fun x => .d (f x))], .ref H.length g 0 xs.length none, ⟨g, xs, rfl, rfl, hr⟩, fun w0 w own0 own r0 r1 hmv => ?_⟩
      obtain ⟨own2, s1, s2, s3⟩ := adopt_row r0 r1 hmv hL
      have hkl : (H ++ L)[H.length + k]? = some (.row z g false (xs.map fun x => .d (f x))) := by
        rw [List.getElem?_append_right (by omega)]; simpa using hL
      have hself : (H ++ [AObj.row z g false (xs.map fun x => .d (f x))])[H.length]? = some (.row z g false (xs.map fun x => .d (f x))) := by simp
      refine ⟨own2, s1, s2, fun cv hcv => ?_⟩
      have key : ∀ (q : AV), q = .ref (H.length + k) g 0 m cap → VR w own (H ++ L) cv q → VR w own2 (H ++ [AObj.row z g false (xs.map fun x => .d (f x))]) cv (.ref H.length g 0 xs.length none) := by
       intro q hq hcv
       cases hcv with
       | ref b' g' i' n' cap' c z' fz xs' capc off sz ho hb' hin hcp hmax hk hoff hs hsz =>
        cases hq
        rw [hkl] at hb'; cases hb'
        subst hm
        refine .ref H.length g 0 xs.length none c z false _ capc off sz (by rw [s3]; exact ho) hself (by simp) hcp hmax (.inl ⟨rfl, ?_⟩) hoff hs hsz
        rcases hk with ⟨_, hk⟩ | hk
        · exact hk
        · rcases hcap with h | h
          · rw [h] at hk; cases hk
          · rw [h] at hk
            cases hk
            simp
       | virt b' g' z' fz cap' ho hb' hk =>
        have e1 : b' = H.length + k := by injection hq
        have e2 : g' = g := by injection hq
        subst e1 e2
        rw [hkl] at hb'
        have hx : xs = [] := by
          have := (AObj.row.injEq _ _ _ _ _ _ _ _).mp (Option.some.inj hb')
          simpa using this.2.2.2
        subst hx
        exact .virt H.length g' z false none (by rw [s3]; exact ho) (by simpa using hself) (.inl rfl)
       | stale v' b' g' i' n' cap' o hb' hg =>
        cases hq
        rw [hkl] at hb'; cases hb'; exact absurd hg (Nat.lt_irrefl _)
       | _ => cases hq
      exact key _ rfl hcv
  intro e st he
  cases e with
  | normal => exact fin st he
  | ret => exact fin st he
  | _ => exact he.elim

/-- a row of data, the caller's from there on -/
def freshK (H : List AObj) (z : Nat) (f : α → D) (R : List α → Prop) : AV → List AObj → Prop := freshG H z f fun _ => R
theorem acalls_fresh {fi : FuncId} {fn : Func} {c : Code} {args : List AV} {H : List AObj} (z : Nat) (f : α → D) {R : List α → Prop} (n : Nat) (rs : List ResultVar) (hf : P.funcs[fi]? = some fn) (hb : fn.body = some c) (hc : callable P fi = true) (hn : fn.ntmps = n) (hrs : fn.results.toList = rs) (ha : args.length ≤ n)
    (hz : 0 < z) (h : ab P GT c (retQ P rs (freshK H z f R)) ⟨E n (ents 0 args), H⟩) :
    ACalls P GT fi args H fun v H' => ∃ g xs, v = .ref H.length g 0 xs.length none ∧ H' = H ++ [.row z g false (xs.map fun x => .d (f x))] ∧ R xs := acalls_freshG z f n rs hf hb hc hn hrs ha hz h

theorem freshK_nils {H L : List AObj} {z : Nat} {f : α → D} {R : List α → Prop} (h : R []) : freshK H z f R .nils (H ++ L) := ⟨L, rfl, .inl ⟨rfl, h⟩⟩
theorem freshK_nils0 {H : List AObj} {z : Nat} {f : α → D} {R : List α → Prop} (h : R []) : freshK H z f R .nils H := ⟨[], by simp, .inl ⟨rfl, h⟩⟩
theorem freshK_row {H L : List AObj} {z : Nat} {f : α → D} {R : List α → Prop} {k g n : Nat} {cap : Option Nat} {xs : List α} (hL : L[k]? = some (.row z g false (xs.map fun x => .d (f x)))) (hn : n = xs.length) (hc : cap = none ∨ cap = some n) (h : R xs) : freshK H z f R (.ref (H.length + k) g 0 n cap) (H ++ L) :=
  ⟨L, rfl, .inr ⟨k, g, n, cap, xs, rfl, hL, hn, hc, h⟩⟩

/-! slices against nil -/
@[go_sem] theorem abin_list_nils (op : BinOp) (t : TypeId) (xs : List D) : abin P op t (.d (.list xs)) .nils = none := pf rfl
@[go_sem] theorem abin_nils_nils (op : BinOp) (t : TypeId) : abin P op t .nils .nils = none := pf rfl
@[go_sem] theorem abin_ref_nils (op : BinOp) (t : TypeId) (b g i n : Nat) (c : Option Nat) : abin P op t (.ref b g i n c) .nils = none := pf rfl
theorem nop_eql {d : Option Tmp} {F : AS → Prop} {tm : List AV} {H : List AObj} {t yt : TypeId} {x y : Operand} (xs : List D) (hx : ev GT tm x = .d (.list xs)) (hy : ev GT tm y = .nils) (he : (elemT P t).isSome = true) (h : ∀ b : Bool, (b = true → xs = []) → F (AS.put ⟨tm, H⟩ d (.d (.bool b)) H)) :
    nopP P GT tm H (.binOp .eql t x y yt) d F := by
  unfold nopP nop
  simp only [he, if_true, hx, hy]
  rintro v ⟨b, rfl, hb⟩
  exact h b hb
theorem nop_neq {d : Option Tmp} {F : AS → Prop} {tm : List AV} {H : List AObj} {t yt : TypeId} {x y : Operand} (xs : List D) (hx : ev GT tm x = .d (.list xs)) (hy : ev GT tm y = .nils) (he : (elemT P t).isSome = true) (h : ∀ b : Bool, (b = false → xs = []) → F (AS.put ⟨tm, H⟩ d (.d (.bool b)) H)) :
    nopP P GT tm H (.binOp .neq t x y yt) d F := by
  unfold nopP nop
  simp only [he, if_true, hx, hy]
  rintro v ⟨b, rfl, hb⟩
  exact h b hb

/-! an empty row, and what is appended to a row that is full -/
theorem bsl_own0 {e : TypeId} {d : Option Tmp} {F : AS → Prop} {tm : List AV} {H : List AObj} (h0 : 0 < tcells P e) (h2 : zeroOK P H e = true) (h : F (AS.put ⟨tm, H⟩ d (.ref H.length 0 0 0 (some 0)) (H ++ [.row (tcells P e) 0 false []]))) :
    bslP (abuildS P H 0 [] (some e)) d F ⟨tm, H⟩ := by
  have hb : abuildS P H 0 [] (some e) = some (.ref H.length 0 0 0 (some 0), [.row (tcells P e) 0 false []]) := by
    unfold abuildS
    simp only [List.length_nil, h0, h2, Nat.zero_mul, Nat.zero_le, List.all_nil, and_self, if_true, rowOf]
  rw [hb]
  exact bsl_row h
@[go_sem] theorem uni_nil (z : Nat) : uni z [] = true := pf rfl
theorem ap3_full (H : List AObj) (z bt b g n k : Nat) (fz : Bool) (ys xs : List AV) (hk : k < n + ys.length) (h1 : (n + ys.length) * bt ≤ 140737488355328) (h2 : n + ys.length ≤ 140737488355328) :
    ap3 H z bt b g 0 n (some k) ys (some (.row z g fz xs)) = some (.ref H.length 0 0 (n + ys.length) none, H ++ [.row z 0 false (xs.take n ++ ys)]) := by
  simp [ap3, h1, h2, hk]
theorem ap3_none (H : List AObj) (z bt b g : Nat) (xs : List AV) (k : Nat) (hb : hget H b = some (.row z g false xs)) : ap3 H z bt b g 0 0 (some k) [] (some (.row z g false xs)) = some (.ref b g 0 0 (some k), H) := by
  have e : hset H b (.row z g false xs) = H := hset_same hb
  simp [ap3, e]


/-! a row of one's own, written no more, handed on as data -/
theorem frz_own {H L : List AObj} {k z g : Nat} {fz : Bool} {xs : List AV} (hL : L[k]? = some (.row z g fz xs)) : frz (H ++ L) (H.length + k) = H ++ L.set k (.row z g true xs) := by
  unfold frz
  rw [hget_own, hL]
  simp only [hset_own]
theorem acalls_frz1 {fi : FuncId} {H L : List AObj} {k z g n : Nat} {c : Option Nat} {fz : Bool} {xs : List α} {f : α → D} {rest : List AV} {R : AV → List AObj → Prop} (hL : L[k]? = some (.row z g fz (xs.map fun x => .d (f x))))
    (h : ACalls P GT fi (.d (.list ((xs.take n).map f)) :: rest) (H ++ L.set k (.row z g true (xs.map fun x => .d (f x)))) R) : ACalls P GT fi (.ref (H.length + k) g 0 n c :: rest) (H ++ L) R := by
  refine acalls_freeze (H.length + k) (args' := .d (.list ((xs.take n).map f)) :: rest) ?_ (by rw [frz_own hL]; exact h)
  have hk := lt_of_get hL
  have hb : hget (frz (H ++ L) (H.length + k)) (H.length + k) = some (.row z g true (xs.map fun x => .d (f x))) := by
    rw [frz_own hL, hget_own, List.getElem?_set_self hk]
  refine ⟨.inr ⟨_, pureA_row (m := 49) hb ?_, rfl⟩, ?_⟩
  · unfold isFrz; rw [hb]
  · have : ∀ l : List AV, purArgs (frz (H ++ L) (H.length + k)) l l := by
      intro l
      induction l with
      | nil => trivial
      | cons a l ih => exact ⟨.inl rfl, ih⟩
    exact this rest


/-! structs built -/
def abB (H : List AObj) (z : Option AV) (n : Nat) (pl : Option (List (Nat × Nat))) (vs : List (Nat × AV)) : Option AV := match z, pl with
  | some a, some pl => if a.cells.length = n ∧ isAg a = true ∧ a.cells.all (okv H) = true ∧ okv H a = true ∧ (vs.all fun p => okv H p.2) = true then (fillA (pl[·]?) a.cells vs).map mkA else none
  | _, _ => none
@[go_sem] theorem abuild_def (H : List AObj) (t : TypeId) (vs : List (Nat × AV)) : abuild P H t vs = abB H (tzero P t) (tcells P t) (placesT P t) vs := by
  unfold abuild abB
  cases tzero P t with
  | none => rfl
  | some a =>
    cases placesT P t with
    | none => simp
    | some pl => rfl
@[go_sem] theorem abB_some (H : List AObj) (a : AV) (n : Nat) (pl : List (Nat × Nat)) (vs : List (Nat × AV)) (h1 : csz a = n) (h2 : isAg a = true) (h3 : plainZ a = true) (h4 : (vs.all fun p => okv H p.2) = true) : abB H (some a) n (some pl) vs = (fillA (pl[·]?) a.cells vs).map mkA := by
  unfold csz at h1; simp [abB, h1, h2, plainZ_ok h3, h4]
def flS (pl : Nat → Option (Nat × Nat)) (p : Option (Nat × Nat)) (cs : List AV) (v : AV) (r : List (Nat × AV)) : Option (List AV) := match p with
  | some (off, size) => if v.cells.length = size ∧ off + size ≤ cs.length then fillA pl (cs.take off ++ v.cells ++ cs.drop (off + size)) r else none
  | none => none
@[go_sem] theorem fillA_nil (pl : Nat → Option (Nat × Nat)) (cs : List AV) : fillA pl cs [] = some cs := pf rfl
@[go_sem] theorem fillA_cons (pl : Nat → Option (Nat × Nat)) (cs : List AV) (i : Nat) (v : AV) (r : List (Nat × AV)) : fillA pl cs ((i, v) :: r) = flS pl (pl i) cs v r := by
  simp only [fillA, flS]
  cases pl i with
  | none => rfl
  | some p => rfl
@[go_sem] theorem flS_some (pl : Nat → Option (Nat × Nat)) (off size : Nat) (cs : List AV) (v : AV) (r : List (Nat × AV)) (h1 : csz v = size) (h2 : off + size ≤ cs.length) : flS pl (some (off, size)) cs v r = fillA pl (cs.take off ++ v.cells ++ cs.drop (off + size)) r := by
  unfold csz at h1; simp [flS, h1, h2]

theorem drop_V1 {st0 : AS} {n : Nat} {l l3 : List (Nat × AV)} {H H3 : List AObj} (z : Nat) (hz : 0 < z) (hh : H3 = H ++ [.row z 0 false []]) (h : heldV H.length 1 l l3) : Drop st0 ⟨E n l, H⟩ ⟨E n l3, H3⟩ := by
  subst hh
  exact drop_V [z] (by simpa using hz) h
theorem clo_two {β : Type} {n z g z' g' : Nat} {fz fz' : Bool} {R : List α} {f : α → D} {R' : List β} {f' : β → D} : ∀ o ∈ [AObj.row z g fz (R.map fun x => .d (f x)), AObj.row z' g' fz' (R'.map fun x => .d (f' x))], cloO n o = true := by
  intro o ho
  simp only [List.mem_cons, List.not_mem_nil, or_false] at ho
  rcases ho with rfl | rfl <;> exact clo_data ..
theorem clo_three {β γ : Type} {n z g z' g' z2 g2 : Nat} {fz fz' fz2 : Bool} {R : List α} {f : α → D} {R' : List β} {f' : β → D} {R2 : List γ} {f2 : γ → D} : ∀ o ∈ [AObj.row z g fz (R.map fun x => .d (f x)), AObj.row z' g' fz' (R'.map fun x => .d (f' x)), AObj.row z2 g2 fz2 (R2.map fun x => .d (f2 x))], cloO n o = true := by
  intro o ho
  simp only [List.mem_cons, List.not_mem_nil, or_false] at ho
  rcases ho with rfl | rfl | rfl <;> exact clo_data ..

theorem pureK_nils (H L : List AObj) (R : AV → Prop) (h : R (.d (.list []))) : pureK H R .nils (H ++ L) := ⟨L, .d (.list []), rfl, by simp [pureR, pureA], h⟩
theorem pureK_nils0 (H : List AObj) (R : AV → Prop) (h : R (.d (.list []))) : pureK H R .nils H := ⟨[], .d (.list []), (List.append_nil H).symm, by simp [pureR, pureA], h⟩


mutual
theorem cloA_mono {n m : Nat} (h : n ≤ m) : ∀ a : AV, cloA n a = true → cloA m a = true
  | .ref b _ _ _ _, q => by simp only [cloA, decide_eq_true_eq] at *; omega
  | .ptr b _ _ _, q => by simp only [cloA, decide_eq_true_eq] at *; omega
  | .mp b, q => by simp only [cloA, decide_eq_true_eq] at *; omega
  | .it b, q => by simp only [cloA, decide_eq_true_eq] at *; omega
  | .fn _ f c, q => by
    simp only [cloA, Bool.and_eq_true] at *
    exact ⟨cloL_mono h f q.1, cloL_mono h c q.2⟩
  | .agg cs, q => by simp only [cloA] at *; exact cloL_mono h cs q
  | .tup cs, q => by simp only [cloA] at *; exact cloL_mono h cs q
  | .d _, _ => rfl
  | .nils, _ => rfl
  | .cptr _, _ => rfl
  | .np, _ => rfl
  | .nf, _ => rfl
  | .un, _ => rfl
theorem cloL_mono {n m : Nat} (h : n ≤ m) : ∀ l : List AV, cloL n l = true → cloL m l = true
  | [], _ => rfl
  | a :: l, q => by
    simp only [cloL, Bool.and_eq_true] at *
    exact ⟨cloA_mono h a q.1, cloL_mono h l q.2⟩
end
theorem cloO_mono {n m : Nat} {o : AObj} (h : n ≤ m) (q : cloO n o = true) : cloO m o = true := by
  cases o with
  | row z g fz xs => exact cloL_mono h xs q
  | map es =>
    simp only [cloO, List.all_eq_true] at *
    exact fun p hp => cloA_mono h _ (q p hp)
  | iter s pos => rfl

@[go_sem] theorem aindexAddr_list0 (H : List AObj) (t : TypeId) (xs : List D) (k : IntKind) : aindexAddr P H t (.d (.list xs)) (.d (.int k 0)) = aiL P (elemT P t) xs[0]? xs := aindexAddr_list H t xs k 0

end Go.Ab

namespace Go.Ab
variable {P : Program} {GT : Globs}

/-! a variable that holds a row, and the row -/
def outG {α : Type} (z : Nat) (f : α → D) (H : List AObj) (b0 b1 : Nat) (l : List α) : List AObj := hset (hset H b1 (.row z l.length false (l.map fun x => .d (f x)))) b0 (.row 1 0 false [.ref b1 l.length 0 l.length none])
section
variable {α : Type} {z : Nat} {f : α → D} {H : List AObj} {b0 b1 : Nat} {l l' : List α}
theorem outG_len : (outG z f H b0 b1 l).length = H.length := by simp [outG, hset]
theorem hget_outG (L : List AObj) (k : Nat) : hget (outG z f H b0 b1 l ++ L) (H.length + k) = L[k]? := by rw [← outG_len (z := z) (f := f) (H := H) (b0 := b0) (b1 := b1) (l := l)]; exact hget_own _ _ _
theorem hget_outG0 (L : List AObj) : hget (outG z f H b0 b1 l ++ L) H.length = L[0]? := hget_outG L 0
theorem hset_outG (L : List AObj) (k : Nat) (o : AObj) : hset (outG z f H b0 b1 l ++ L) (H.length + k) o = outG z f H b0 b1 l ++ L.set k o := by rw [← outG_len (z := z) (f := f) (H := H) (b0 := b0) (b1 := b1) (l := l)]; exact hset_own _ _ _ _
theorem hset_outG0 (L : List AObj) (o : AObj) : hset (outG z f H b0 b1 l ++ L) H.length o = outG z f H b0 b1 l ++ L.set 0 o := hset_outG L 0 o
theorem outG_0 (h0 : b0 < H.length) : hget (outG z f H b0 b1 l) b0 = some (.row 1 0 false [.ref b1 l.length 0 l.length none]) := by
  unfold outG hget hset; rw [List.getElem?_set_self (by simpa using h0)]
theorem outG_1 (h1 : b1 < H.length) (hne : b0 ≠ b1) : hget (outG z f H b0 b1 l) b1 = some (.row z l.length false (l.map fun x => .d (f x))) := by
  unfold outG hget hset; rw [List.getElem?_set_ne hne, List.getElem?_set_self h1]
theorem outG_2 {b : Nat} (hn0 : b ≠ b0) (hn1 : b ≠ b1) : (outG z f H b0 b1 l)[b]? = H[b]? := by
  unfold outG hset; rw [List.getElem?_set_ne (fun e => hn0 e.symm), List.getElem?_set_ne (fun e => hn1 e.symm)]
theorem outG_set (hne : b0 ≠ b1) : hset (hset (outG z f H b0 b1 l) b1 (.row z l'.length false (l'.map fun x => .d (f x)))) b0 (.row 1 0 false [.ref b1 l'.length 0 l'.length none]) = outG z f H b0 b1 l' := by
  unfold outG hset
  apply List.ext_getElem?
  intro k
  simp only [List.getElem?_set, List.length_set]
  by_cases e0 : b0 = k
  · simp [e0]
  · by_cases e1 : b1 = k
    · simp [e0, e1]
    · simp [e0, e1]
theorem keeps_outG {L L' : List AObj} (h0 : b0 < H.length) (h1 : b1 < H.length) (hne : b0 ≠ b1) (hl : L'.length = L.length) (h : ∀ o ∈ L', cloO (H.length + L'.length) o = true) : Keeps (outG z f H b0 b1 l ++ L) (outG z f H b0 b1 l' ++ L') := by
  refine ⟨by simp [outG_len, hl], fun b o hb => ?_⟩
  rw [List.length_append, outG_len]
  rcases Nat.lt_or_ge b H.length with hlt | hge
  · rw [List.getElem?_append_left (by rw [outG_len]; exact hlt)] at hb ⊢
    by_cases e0 : b = b0
    · subst e0
      have := outG_0 (z := z) (f := f) (b1 := b1) (l := l') h0
      unfold hget at this
      rw [this] at hb; cases hb
      right
      simp [cloO, cloL, cloA]; omega
    · by_cases e1 : b = b1
      · subst e1
        have := outG_1 (z := z) (f := f) (l := l') h1 hne
        unfold hget at this
        rw [this] at hb; cases hb
        right; exact clo_data ..
      · left
        rw [outG_2 e0 e1] at hb ⊢
        exact hb
  · right
    rw [List.getElem?_append_right (by rw [outG_len]; exact hge)] at hb
    exact h o (List.mem_of_getElem? hb)
end


@[go_sem] theorem ev_str0 (tm : List AV) : ev GT tm (.const (.string ⟨#[]⟩)) = .d (.str ⟨#[]⟩) := pf rfl

theorem al_virt' (z : Nat) {k : Nat} {d : Option Tmp} {F : AS → Prop} {tm : List AV} {H : List AObj} (hk : H.length = k) (hz : 0 < z) (h : F (AS.put ⟨tm, H⟩ d (.ptr k 0 0 0) (H ++ [.row 1 0 false [.ref (k + 1) 0 0 0 none], .row z 0 false []]))) :
    alP (some (.ptr k 0 0 0, [.row 1 0 false [.nils]])) d F ⟨tm, H⟩ := by
  subst hk
  exact al_virt z hz h
theorem pureK_v (H L : List AObj) (R : AV → Prop) (v x : AV) (hv : pureR (fun b => decide (H.length ≤ b)) (H ++ L) 50 v = some x) (h : R x) : pureK H R v (H ++ L) := ⟨L, x, rfl, hv, h⟩
theorem pureK_v0 (H : List AObj) (R : AV → Prop) (v x : AV) (hv : pureR (fun b => decide (H.length ≤ b)) H 50 v = some x) (h : R x) : pureK H R v H := ⟨[], x, (List.append_nil H).symm, hv, h⟩

def retL2 (r : Option AV) (w : AV) (K : AV → List AObj → Prop) (H : List AObj) : Prop := match r with | some v => K (.tup [v, w]) H | none => False
@[go_sem] theorem retL2_some (v w : AV) (K : AV → List AObj → Prop) (H : List AObj) : retL2 (some v) w K H = K (.tup [v, w]) H := pf rfl
@[go_sem] theorem retQ_ct (a u : Tmp) (t : TypeId) (K : AV → List AObj → Prop) (n : Nat) (l : List (Nat × AV)) (H : List AObj) (h : a < n) (h2 : u < n) : retQ P [.cell a t, .tmp u] K .ret ⟨E n l, H⟩ = retL2 (aload P H t (eget l a)) (eget l u) K H := by
  simp only [retQ, resVs, resV, lget_E, if_pos h, if_pos h2, retL2]
  apply propext
  cases aload P H t (eget l a) with
  | none => simp
  | some v => simp [tupOf]

@[go_sem] theorem abB_nil (H : List AObj) (a : AV) (n : Nat) (pl : List (Nat × Nat)) (h1 : csz a = n) (h2 : isAg a = true) (h3 : plainZ a = true) : abB H (some a) n (some pl) [] = some (mkA a.cells) := by
  rw [abB_some H a n pl [] h1 h2 h3 (by simp)]; rfl

end Go.Ab

namespace Go.Ab

variable {P : Program} {GT : Globs}

/-- operations that touch no memory -/
def floats2 : Op → Bool
  | .fieldAddr .. => true
  | op => floats op

theorem floats2_callOf {op : Op} (h : floats2 op = true) : callOf op = none := by
  cases op <;> first | rfl | cases h

theorem float2_yields {ops : Array Oper} {o : Oper} {st : AS} {v : AV} {N : List AObj} {w : World} {own : Nat → Slot} {a : Act} (hf : floats2 o.op = true) (hg : o.guard = none) (hq : qop P GT st.tmps st.heap o.op = some (v, N)) (hS : RelS GT w own st a) :
    ∃ u, Region.wanted o (yielded ops a.tmps) = true ∧ ∀ w', (execOp a.eval o).run P w' = .ok (.value u) w' := by
  have hw : Region.wanted o (yielded ops a.tmps) = true := by simp [Region.wanted, hg]
  by_cases hfl : floats o.op = true
  · obtain ⟨u, hy⟩ := float_yields (P := P) (ops := ops) hfl hg (.inl ⟨floats2_callOf hf, hq⟩ : DOp P GT o st v N) hS fun x _ => rfl
    rcases hy with ⟨_, h⟩ | ⟨h, _⟩
    · exact ⟨u, hw, h⟩
    · rw [hw] at h; cases h
  · obtain ⟨dst, op, ty, pos, after, guard⟩ := o
    simp only at hf hfl hq hg
    cases op with
    | fieldAddr s x f =>
      have hx := hS.eval x
      simp only [qop, Option.map_eq_some_iff] at hq
      obtain ⟨r, hr, _⟩ := hq
      generalize hcx : a.eval x = cx at hx
      generalize ev GT st.tmps x = ax at hx hr
      have key : ∃ u, ∀ w' : World, (Instr.fieldAt s cx f).run P w' = .ok u w' := by
        unfold afield at hr
        split at hr
        · cases hr
        · rename_i off ty hff
          split at hr
          · cases hr
          · rename_i h0
            split at hr
            · rename_i b g i k
              split at hr
              · rename_i z g' fz xs hb
                split at hr
                · rename_i hg'; subst hg'
                  have hb' : st.heap[b]? = _ := hb
                  obtain ⟨c, ho, rfl, hi, _⟩ := hx.ptr_inv hb'
                  exact ⟨_, fun w' => run_fieldAt hff h0 _ _⟩
                · cases hr
              · cases hr
            · rename_i cs
              obtain ⟨b, o, f', rfl, _⟩ := hx.cptr_inv
              exact ⟨_, fun w' => run_fieldAt hff h0 _ _⟩
            · cases hr
      obtain ⟨u, hu⟩ := key
      exact ⟨u, hw, fun w' => by simp [execOp, hcx, hu]⟩
    | _ => exact (hfl hf).elim

/-- it may be taken first -/
def takeable (ops : Array Oper) (listed : Array Bool) (f : Nat) : Bool := match ops[f]? with
  | some o => floats2 o.op && o.guard.isNone && (List.range ops.size).all fun j => match ops[j]? with
    | some oj => decide (j = f) || listed.getD j true || (deps oj).contains f || o.apart ops oj
    | none => false
  | none => false

/-- whichever operation comes up -/
def anyR (P : Program) (GT : Globs) (ops : Array Oper) (K : AS → Prop) : Nat → Array Bool → AS → Prop
  | 0, l, st => Region.ready .any ops l = [] ∧ K st
  | n + 1, l, st => match (Region.ready .any ops l).find? (takeable ops l) with
    | some f => match ops[f]? with
      | some o => ∃ v N, qop P GT st.tmps st.heap o.op = some (v, N) ∧ anyR P GT ops K n (l.setIfInBounds f true) (st.put o.dst v (st.heap ++ N))
      | none => False
    | none => (Region.ready .any ops l = [] → K st) ∧ ∀ i ∈ Region.ready .any ops l, match ops[i]? with
      | some o => aops2 P GT ops [o] (anyR P GT ops K n (l.setIfInBounds i true)) st
      | none => False

theorem anyR_sound {ops : Array Oper} {K : AS → Prop} {w0 : World} {own0 : Nat → Slot} {H0 : List AObj} (hns : Region.noSelect ops = true) : ∀ (n : Nat) (l : Array Bool) (st : AS) (w : World) (own : Nat → Slot) (a : Act), anyR P GT ops K n l st → RelS GT w own st a → Mv w0 own0 H0 w own st.heap →
    wpAny P .any ops (fun e a' w' => e = .normal ∧ ∃ own' st', Mv w0 own0 H0 w' own' st'.heap ∧ RelS GT w' own' st' a' ∧ K st') n l a w
  | 0, l, st, w, own, a, h, hS, hm => ⟨h.1, rfl, own, st, hm, hS, h.2⟩
  | n + 1, l, st, w, own, a, h, hS, hm => by
    unfold anyR at h
    split at h
    · rename_i f hfind
      have hready : f ∈ Region.ready .any ops l := List.mem_of_find?_eq_some hfind
      have htake := List.find?_some hfind
      split at h
      · rename_i o ho
        obtain ⟨v, N, hq, hk⟩ := h
        unfold takeable at htake
        rw [ho] at htake
        simp only [Bool.and_eq_true, List.all_eq_true] at htake
        obtain ⟨⟨hf, hg⟩, hap⟩ := htake
        have hg0 : o.guard = none := by simpa using hg
        obtain ⟨u, hw, hrun⟩ := float2_yields (ops := ops) hf hg0 hq hS
        have haop : aop P GT o (fun s => s = st.put o.dst v (st.heap ++ N)) st := by
          unfold aop
          rw [floats2_callOf hf]
          simp only [hq]
        have hnext : ∃ own' , Mv w own st.heap w own' (st.put o.dst v (st.heap ++ N)).heap ∧ RelS GT w own' (st.put o.dst v (st.heap ++ N)) (a.put o.dst u) := by
          have := aop_sound (Q := fun _ _ _ => False) haop hS (next := fun a1 w1 => ∃ own', Mv w own st.heap w1 own' (st.put o.dst v (st.heap ++ N)).heap ∧ RelS GT w1 own' (st.put o.dst v (st.heap ++ N)) a1) fun a' w' own' st' q1 q2 q3 => by subst q3; exact ⟨own', q1, q2⟩
          unfold Oper.wp at this
          rw [hrun w] at this
          exact this
        obtain ⟨own', q1, q2⟩ := hnext
        refine wpAny_first ho (Region.noSelect_spec hns) (fun c a' w' h => by cases h.1) n l a w ?_ hready (.inl ⟨hw, hrun⟩) (anyR_sound hns n _ _ w own' _ hk q2 (hm.trans q1))
        intro j oj hoj hjf hun hdep
        have h1 := hap j (List.mem_range.2 (Array.getElem?_eq_some_iff.1 hoj).1)
        rw [hoj] at h1
        simp only [Bool.or_eq_true, decide_eq_true_eq, List.contains_iff_mem] at h1
        rcases h1 with ((h1 | h1) | h1) | h1
        · exact (hjf h1).elim
        · rw [h1] at hun; cases hun
        · obtain ⟨e, q1, q2, q3⟩ := mem_deps.2 h1
          exact (hdep e q1 q2 q3).elim
        · exact h1
      · exact h.elim
    · refine ⟨fun hr => ⟨rfl, own, st, hm, hS, h.1 hr⟩, fun i hi => ?_⟩
      have h2 := h.2 i hi
      split at h2
      · rename_i o ho
        have := aops2_cons (Q := fun e a' w' => e = .normal ∧ ∃ own' st', Mv w0 own0 H0 w' own' st'.heap ∧ RelS GT w' own' st' a' ∧ K st')
          (next := wpAny P .any ops (fun e a' w' => e = .normal ∧ ∃ own' st', Mv w0 own0 H0 w' own' st'.heap ∧ RelS GT w' own' st' a' ∧ K st') n (l.setIfInBounds i true)) h2 hS
          fun a' w' own' st' q1 q2 q3 => anyR_sound hns n _ st' w' own' a' q3 q2 (hm.trans q1)
        unfold wpOp
        simp only [ho]
        split
        · rename_i hw; rw [if_pos hw] at this; exact .inl this
        · rename_i hw; rw [if_neg hw] at this; exact this
      · exact h2.elim

theorem any_sound {id : Nat} {ops : Array Oper} {K : AS → Prop} {st : AS} (hm : P.follows .mixedOrders = true) (hns : Region.noSelect ops = true) (h : anyR P GT ops K ops.size (Array.replicate ops.size false) st) : ADraw P GT id ops K st := by
  intro own a w hS
  refine wp_region_any hm (anyR_sound hns _ _ _ _ _ _ h ⟨hS.heap, hS.size, hS.tmps, hS.defers⟩ ⟨.refl _ _ _, fun _ _ h => h, ⟨rfl, rfl⟩⟩)

end Go.Ab
