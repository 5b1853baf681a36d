/- The abstract run as a computation, III: the same, each value brought to its form before it is handed on (so that the kernel can run it). What a reading of plain data says of the machine's cells. -/
import Derived.Test.YtckjoghpknalcaaGreatDoorA8
import Derived.ChangeArms
import Derived.OpenShut
set_option linter.unusedVariables false
set_option linter.unusedSimpArgs false
set_option linter.unnecessarySimpa false
namespace Go.Ab

section force
variable {α : Type}
noncomputable def fN (n : Nat) (c : Nat → α) : α := Nat.casesOn n (c 0) fun m => c (Nat.succ m)
noncomputable def fI (n : Int) (c : Int → α) : α := Int.casesOn n (fun m => fN m fun m => c (Int.ofNat m)) (fun m => fN m fun m => c (Int.negSucc m))
noncomputable def fB (b : Bool) (c : Bool → α) : α := Bool.casesOn b (c false) (c true)
noncomputable def fLs {β : Type} (l : List β) (c : List β → α) : α :=
  List.rec (motive := fun _ => (List β → α) → α) (fun c => c []) (fun x _ ih c => ih fun l' => c (x :: l')) l c
noncomputable def fLN {β : Type} (f : β → (β → α) → α) (l : List β) (c : List β → α) : α :=
  List.rec (motive := fun _ => (List β → α) → α) (fun c => c []) (fun x _ ih c => f x fun x' => ih fun l' => c (x' :: l')) l c
noncomputable def fS (s : ByteArray) (c : ByteArray → α) : α := match s with | ⟨⟨l⟩⟩ => fLs l fun l' => c ⟨⟨l'⟩⟩
noncomputable def fO {β : Type} (o : Option Nat) (c : Option Nat → β) : β := match o with | none => c none | some n => fN n fun n' => c (some n')
/-- head and one layer -/
noncomputable def fD (x : D) (c : D → α) : α := match x with
  | .int k n => fI n fun n' => c (.int k n')
  | .bool b => fB b fun b' => c (.bool b')
  | .str s => fS s fun s' => c (.str s')
  | .list xs => fLs xs fun xs' => c (.list xs')
  | .agg xs => fLs xs fun xs' => c (.agg xs')
  | .fn f => fN f fun f' => c (.fn f')
mutual
/-- all of it -/
noncomputable def fDD : D → (D → α) → α
  | .int k n, c => fI n fun n' => c (.int k n')
  | .bool b, c => fB b fun b' => c (.bool b')
  | .str s, c => fS s fun s' => c (.str s')
  | .list xs, c => fDDL xs fun xs' => c (.list xs')
  | .agg xs, c => fDDL xs fun xs' => c (.agg xs')
  | .fn f, c => fN f fun f' => c (.fn f')
noncomputable def fDDL : List D → (List D → α) → α
  | [], c => c []
  | x :: l, c => fDD x fun x' => fDDL l fun l' => c (x' :: l')
end
/-- a value, one layer -/
noncomputable def fA1 (a : AV) (c : AV → α) : α := match a with
  | .d x => fD x fun x' => c (.d x')
  | .ref b g i n k => fN b fun b => fN g fun g => fN i fun i => fN n fun n => fO k fun k => c (.ref b g i n k)
  | .ptr b g i f => fN b fun b => fN g fun g => fN i fun i => fN f fun f => c (.ptr b g i f)
  | .cptr cs => fLs cs fun cs => c (.cptr cs)
  | .fn f xs ys => fLs xs fun xs => fLs ys fun ys => c (.fn f xs ys)
  | .mp b => fN b fun b => c (.mp b)
  | .it b => fN b fun b => c (.it b)
  | .agg xs => fLs xs fun xs => c (.agg xs)
  | .tup xs => fLs xs fun xs => c (.tup xs)
  | .nils => c .nils
  | .np => c .np
  | .nf => c .nf
  | .un => c .un
/-- a value, two layers -/
noncomputable def fA (a : AV) (c : AV → α) : α := match a with
  | .agg xs => fLN fA1 xs fun xs => c (.agg xs)
  | .tup xs => fLN fA1 xs fun xs => c (.tup xs)
  | .fn f xs ys => fLN fA1 xs fun xs => fLN fA1 ys fun ys => c (.fn f xs ys)
  | .d (.agg xs) => fLN fD xs fun xs => c (.d (.agg xs))
  | .cptr xs => fLN fD xs fun xs => c (.cptr xs)
  | a => fA1 a c
noncomputable def fE (e : D × AV) (c : D × AV → α) : α := fDD e.1 fun k => fA e.2 fun v => c (k, v)
noncomputable def fOb (o : AObj) (c : AObj → α) : α := match o with
  | .row z g fz xs => fN z fun z => fN g fun g => fB fz fun fz => fLN fA xs fun xs => c (.row z g fz xs)
  | .map es => fLN fE es fun es => c (.map es)
  | .iter s p => fS s fun s => fN p fun p => c (.iter s p)
noncomputable def fH (H : List AObj) (c : List AObj → α) : α := fLN fOb H c
noncomputable def fAp {β : Type} (l N : List β) (c : List β → α) : α :=
  List.rec (motive := fun _ => (List β → α) → α) (fun c => c N) (fun x _ ih c => ih fun l' => c (x :: l')) l c
noncomputable def fPut (l : List AV) (n : Nat) (v : AV) (c : List AV → α) : α :=
  List.rec (motive := fun _ => Nat → (List AV → α) → α) (fun _ c => c []) (fun a l ih n c => Nat.rec (motive := fun _ => α) (c (v :: l)) (fun m _ => ih m fun l' => c (a :: l')) n) l n c
noncomputable def fTk {β : Type} : Nat → List β → (List β → α) → α
  | 0, _, c => c []
  | _ + 1, [], c => c []
  | n + 1, x :: l, c => fTk n l fun l' => c (x :: l')

theorem fN_eq (n : Nat) (c : Nat → α) : fN n c = c n := by cases n <;> rfl
theorem fI_eq (n : Int) (c : Int → α) : fI n c = c n := by cases n <;> simp [fI, fN_eq]
theorem fB_eq (b : Bool) (c : Bool → α) : fB b c = c b := by cases b <;> rfl
theorem fLs_eq {β : Type} : ∀ (l : List β) (c : List β → α), fLs l c = c l
  | [], c => rfl
  | x :: l, c => (fLs_eq l fun l' => c (x :: l'))
theorem fLN_eq {β : Type} {f : β → (β → α) → α} (hf : ∀ x c, f x c = c x) : ∀ (l : List β) (c : List β → α), fLN f l c = c l
  | [], c => rfl
  | x :: l, c => (hf x _).trans (fLN_eq hf l fun l' => c (x :: l'))
theorem fS_eq (s : ByteArray) (c : ByteArray → α) : fS s c = c s := by obtain ⟨⟨l⟩⟩ := s; simp [fS, fLs_eq]
theorem fO_eq (o : Option Nat) (c : Option Nat → α) : fO o c = c o := by cases o <;> simp [fO, fN_eq]
theorem fD_eq (x : D) (c : D → α) : fD x c = c x := by cases x <;> simp [fD, fI_eq, fB_eq, fS_eq, fLs_eq, fN_eq]
mutual
theorem fDD_eq : ∀ (x : D) (c : D → α), fDD x c = c x
  | .int k n, c => by simp [fDD, fI_eq]
  | .bool b, c => by simp [fDD, fB_eq]
  | .str s, c => by simp [fDD, fS_eq]
  | .list xs, c => by simp [fDD, fDDL_eq xs]
  | .agg xs, c => by simp [fDD, fDDL_eq xs]
  | .fn f, c => by simp [fDD, fN_eq]
theorem fDDL_eq : ∀ (l : List D) (c : List D → α), fDDL l c = c l
  | [], c => rfl
  | x :: l, c => by simp [fDDL, fDD_eq x, fDDL_eq l]
end
theorem fA1_eq (a : AV) (c : AV → α) : fA1 a c = c a := by cases a <;> simp [fA1, fD_eq, fN_eq, fO_eq, fLs_eq]
theorem fA_eq (a : AV) (c : AV → α) : fA a c = c a := by
  unfold fA
  split <;> simp [fA1_eq, fLN_eq fA1_eq, fLN_eq fD_eq]
theorem fE_eq (e : D × AV) (c : D × AV → α) : fE e c = c e := by simp [fE, fDD_eq, fA_eq]
theorem fOb_eq (o : AObj) (c : AObj → α) : fOb o c = c o := by cases o <;> simp [fOb, fN_eq, fB_eq, fS_eq, fLN_eq fA_eq, fLN_eq fE_eq]
theorem fH_eq (H : List AObj) (c : List AObj → α) : fH H c = c H := fLN_eq fOb_eq H c
theorem fAp_eq {β : Type} : ∀ (l N : List β) (c : List β → α), fAp l N c = c (l ++ N)
  | [], N, c => rfl
  | x :: l, N, c => (fAp_eq l N fun l' => c (x :: l'))
theorem fPut_eq : ∀ (l : List AV) (n : Nat) (v : AV) (c : List AV → α), fPut l n v c = c (lset l n v)
  | [], _, _, c => rfl
  | _ :: l, 0, v, c => rfl
  | a :: l, n + 1, v, c => (fPut_eq l n v fun l' => c (a :: l'))
theorem fTk_eq {β : Type} : ∀ (n : Nat) (l : List β) (c : List β → α), fTk n l c = c (l.take n)
  | 0, l, c => by simp [fTk]
  | n + 1, [], c => by simp [fTk]
  | n + 1, x :: l, c => by simp [fTk, fTk_eq n l]

noncomputable def putF (st : AS) (dst : Option Tmp) (v : AV) (H : List AObj) (c : AS → α) : α := match dst with
  | some d => fPut st.tmps d v fun tm => c ⟨tm, H⟩
  | none => c ⟨st.tmps, H⟩
theorem putF_eq (st : AS) (dst : Option Tmp) (v : AV) (H : List AObj) (c : AS → α) : putF st dst v H c = c (st.put dst v H) := by
  cases dst <;> simp [putF, AS.put, fPut_eq]
end force


/-! the operations cut into small definitions: the kernel copies a definition's whole text each time it opens it -/
def abinI (op : BinOp) (k : IntKind) (a b : Int) : Option AV :=
      match op with
      | .add => some (.d (.int k (k.wrap (a + b))))
      | .sub => some (.d (.int k (k.wrap (a - b))))
      | .mul => some (.d (.int k (k.wrap (a * b))))
      | .eql => some (.d (.bool (a == b)))
      | .neq => some (.d (.bool (a != b)))
      | .lss => some (.d (.bool (decide (a < b))))
      | .leq => some (.d (.bool (decide (a ≤ b))))
      | .gtr => some (.d (.bool (decide (a > b))))
      | .geq => some (.d (.bool (decide (a ≥ b))))
      | .quo => if b = 0 then none else some (.d (.int k (k.wrap (a.tdiv b))))
      | .rem => if b = 0 then none else if k.min ≤ a.tmod b ∧ a.tmod b ≤ k.max then some (.d (.int k (a.tmod b))) else none
      | .shr => if b < 0 then none else if k.min ≤ a.fdiv (2 ^ (min b.toNat k.bits)) ∧ a.fdiv (2 ^ (min b.toNat k.bits)) ≤ k.max then some (.d (.int k (a.fdiv (2 ^ (min b.toNat k.bits))))) else none
      | .shl => if b < 0 then none else some (.d (.int k (k.wrap (a * 2 ^ (min b.toNat k.bits)))))
      | .and => some (.d (.int k (k.wrap (BitVec.ofInt k.bits a &&& BitVec.ofInt k.bits b).toNat)))
      | .or => some (.d (.int k (k.wrap (BitVec.ofInt k.bits a ||| BitVec.ofInt k.bits b).toNat)))
      | .xor => some (.d (.int k (k.wrap (BitVec.ofInt k.bits a ^^^ BitVec.ofInt k.bits b).toNat)))
      | _ => none
def abinS (op : BinOp) (a b : ByteArray) : Option AV :=
    match op with
    | .add => if a.size + b.size ≤ maxN then some (.d (.str (a ++ b))) else none
    | .eql => some (.d (.bool (a == b)))
    | .neq => some (.d (.bool (a != b)))
    | _ => none
def abinB (P : Program) (op : BinOp) (t : TypeId) (a b : Bool) : Option AV := match eqD P t (.bool a) (.bool b), op with
    | some r, .eql => some (.d (.bool r))
    | some r, .neq => some (.d (.bool (!r)))
    | _, _ => none
def abinG (P : Program) (op : BinOp) (t : TypeId) (a b : List D) : Option AV := if eqG P t = true then
      match eqD P t (.agg a) (.agg b), op with
      | some r, .eql => some (.d (.bool r))
      | some r, .neq => some (.d (.bool (!r)))
      | _, _ => none
    else none
def abinK (P : Program) (op : BinOp) (t : TypeId) (x y : AV) : Option AV := match x with
  | .d (.int k a) => match y with
    | .d (.int k' b) => if k = k' then abinI op k a b else none
    | _ => none
  | .d (.str a) => match y with
    | .d (.str b) => abinS op a b
    | _ => none
  | .d (.bool a) => match y with
    | .d (.bool b) => abinB P op t a b
    | _ => none
  | .d (.agg a) => match y with
    | .d (.agg b) => abinG P op t a b
    | _ => none
  | _ => none
theorem abinK_eq (P : Program) (op : BinOp) (t : TypeId) (x y : AV) : abinK P op t x y = abin P op t x y := by
  unfold abinK abin
  split
  all_goals first | (split <;> first | rfl | simp_all) | simp_all
noncomputable def qk_move (P : Program) (GT : Globs) (tm : List AV) (H : List AObj) (x : Operand) : Option (AV × List AObj) := some (ev GT tm x, [])

noncomputable def qk_assign (P : Program) (GT : Globs) (tm : List AV) (H : List AObj) (x : Operand) : Option (AV × List AObj) := some (ev GT tm x, [])

noncomputable def qk_pick (P : Program) (GT : Globs) (tm : List AV) (H : List AObj) (c : Operand) (a : Operand) (b : Operand) : Option (AV × List AObj) := match ev GT tm c with
    | .d (.bool t) => match ev GT tm a, ev GT tm b with
      | .d (.bool x), .d (.bool y) => some (.d (.bool (if t then x else y)), [])
      | x, y => some (if t then x else y, [])
    | _ => none
noncomputable def qk_box (P : Program) (GT : Globs) (tm : List AV) (H : List AObj) (t : TypeId) (x : Operand) : Option (AV × List AObj) := let a := ev GT tm x
    if okv H a = true ∧ a.cells.length = tcells P t ∧ 0 < tcells P t then some (.ptr H.length 0 0 0, [.row (tcells P t) 0 false [a]]) else none
noncomputable def qk_alloc (P : Program) (GT : Globs) (tm : List AV) (H : List AObj) (t : TypeId) : Option (AV × List AObj) := match tzero P t with
    | some a => if a.cells.length = tcells P t ∧ 0 < tcells P t ∧ a.cells.all (okv H) = true ∧ okv H a = true then some (.ptr H.length 0 0 0, [.row (tcells P t) 0 false [a]]) else none
    | none => none
noncomputable def qk_load (P : Program) (GT : Globs) (tm : List AV) (H : List AObj) (t : TypeId) (x : Operand) : Option (AV × List AObj) := (aload P H t (ev GT tm x)).map (·, [])

noncomputable def qk_fieldAddr (P : Program) (GT : Globs) (tm : List AV) (H : List AObj) (s : TypeId) (x : Operand) (f : Nat) : Option (AV × List AObj) := (afield P H s f (ev GT tm x)).map (·, [])

noncomputable def qk_field (P : Program) (GT : Globs) (tm : List AV) (H : List AObj) (s : TypeId) (x : Operand) (f : Nat) : Option (AV × List AObj) := match finfo P s f with
    | some (off, ty) => match tagg P ty with
      | some ag => if isAg (ev GT tm x) = true ∧ tcells P ty ≠ 0 then (subA ag (ev GT tm x) off (tcells P ty)).map (·, []) else none
      | none => none
    | none => none
noncomputable def qk_indexAddr (P : Program) (GT : Globs) (tm : List AV) (H : List AObj) (t : TypeId) (x : Operand) (i : Operand) : Option (AV × List AObj) := if elemOK P t = true then (aindexAddr P H t (ev GT tm x) (ev GT tm i)).map (·, []) else none

noncomputable def qk_index (P : Program) (GT : Globs) (tm : List AV) (H : List AObj) (t : TypeId) (x : Operand) (i : Operand) : Option (AV × List AObj) := (aindex P t (ev GT tm x) (ev GT tm i)).map (·, [])

noncomputable def qk_slice (P : Program) (GT : Globs) (tm : List AV) (H : List AObj) (t : TypeId) (x : Operand) (lo : Option Operand) (hi : Option Operand) (mx : Option Operand) : Option (AV × List AObj) := if elemOK P t = true ∧ (mx.isSome = true → hi.isSome = true) then match ev GT tm x with
    | .ref b g i n c => (asliceRef P H t (.ref b g i n c) (lo.map (ev GT tm)) (hi.map (ev GT tm)) (mx.map (ev GT tm))).map (·, [])
    | a => (aslice P t a (lo.map (ev GT tm)) (hi.map (ev GT tm)) (mx.map (ev GT tm))).map (·, [])
    else none
noncomputable def qk_binOp (P : Program) (GT : Globs) (tm : List AV) (H : List AObj) (op : BinOp) (t : TypeId) (x : Operand) (y : Operand) (_u4 : TypeId) : Option (AV × List AObj) := (abinK P op t (ev GT tm x) (ev GT tm y)).map (·, [])

noncomputable def qk_unOp (P : Program) (GT : Globs) (tm : List AV) (H : List AObj) (op : UnOp) (_u1 : TypeId) (x : Operand) : Option (AV × List AObj) := match op, ev GT tm x with
    | .not, .d (.bool b) => some (.d (.bool !b), [])
    | _, _ => none
noncomputable def qk_convert (P : Program) (GT : Globs) (tm : List AV) (H : List AObj) (s : TypeId) (t : TypeId) (x : Operand) : Option (AV × List AObj) := match intT P s, intT P t, ev GT tm x with
    | some _, some k, .d (.int _ n) => some (.d (.int k (k.wrap n)), [])
    | _, _, .d (.str s') => if strT P s = true ∧ strT P t = true then some (.d (.str s'), []) else none
    | _, _, _ => none
noncomputable def qk_makeFunc (P : Program) (GT : Globs) (tm : List AV) (H : List AObj) (fn : Fn) (fs : Array Operand) (cs : Array Operand) : Option (AV × List AObj) := match fn with
    | .func f => some (if fs.size + cs.size = 0 then .d (.fn f) else .fn f (fs.toList.map (ev GT tm)) (cs.toList.map (ev GT tm)), [])
    | _ => none
noncomputable def qk_extract (P : Program) (GT : Globs) (tm : List AV) (H : List AObj) (x : Operand) (i : Nat) : Option (AV × List AObj) := match ev GT tm x with
    | .tup vs => (vs[i]?).map (·, [])
    | _ => none
noncomputable def qk_nilCheck (P : Program) (GT : Globs) (tm : List AV) (H : List AObj) (x : Operand) : Option (AV × List AObj) := match ev GT tm x with
    | .ptr b g i f => if okv H (.ptr b g i f) = true then some (.ptr b g i f, []) else none
    | .cptr cs => some (.cptr cs, [])
    | .fn f fs cs => some (.fn f fs cs, [])
    | .d (.fn f) => some (.d (.fn f), [])
    | _ => none
noncomputable def qk_build (P : Program) (GT : Globs) (tm : List AV) (H : List AObj) (t : TypeId) (parts : Array (Nat × Operand)) : Option (AV × List AObj) := match tzero P t with
    | some a => if a.cells.length = tcells P t ∧ isAg a = true ∧ a.cells.all (okv H) = true ∧ okv H a = true ∧ (parts.toList.all fun p => okv H (ev GT tm p.2)) = true then
        match placesT P t with
        | some pl => (fillA (pl[·]?) a.cells (parts.toList.map fun p => (p.1, ev GT tm p.2))).map fun c => (mkA c, [])
        | none => none else none
    | none => none
noncomputable def qk_buildSlice (P : Program) (GT : Globs) (tm : List AV) (H : List AObj) (t : TypeId) (len : Nat) (parts : Array (Nat × Operand)) : Option (AV × List AObj) := match elemT P t with
    | some e => if parts.size = len ∧ 0 < tcells P e ∧ zeroOK P H e = true ∧ len * tcells P e ≤ 16777216 ∧ (parts.toList.all fun p => okv H (ev GT tm p.2)) = true then
        match rowOf (tcells P e) 0 (parts.toList.map fun p => (p.1, ev GT tm p.2)) with
        | some xs => some (.ref H.length 0 0 len (some len), [.row (tcells P e) 0 false xs])
        | none => none else none
    | none => none
noncomputable def qk_makeMap (P : Program) (GT : Globs) (tm : List AV) (H : List AObj) (t : TypeId) (r : Option Operand) : Option (AV × List AObj) := match r with
    | none => some (.mp H.length, [.map []])
    | some x => match ev GT tm x, mapT P t with
      | .d (.int _ _), some _ => some (.mp H.length, [.map []])
      | _, _ => none
noncomputable def qk_range (P : Program) (GT : Globs) (tm : List AV) (H : List AObj) (t : TypeId) (x : Operand) : Option (AV × List AObj) := match ev GT tm x with
    | .d (.str s) => if strT P t = true then some (.it H.length, [.iter s 0]) else none
    | _ => none
noncomputable def qk_makeSlice (P : Program) (GT : Globs) (tm : List AV) (H : List AObj) (t : TypeId) (l : Operand) (c : Operand) : Option (AV × List AObj) := match elemT P t, ev GT tm l, ev GT tm c with
    | some e, .d (.int _ n), .d (.int _ m) => match tzero P e with
      | some a => if n = m ∧ 0 ≤ n ∧ (tbytes P e : Int) * n ≤ 140737488355328 ∧ a.cells.length = tcells P e ∧ 0 < tcells P e ∧ a.cells.all (okv H) = true ∧ okv H a = true ∧ n ≤ (maxN : Int) then
          some (.ref H.length 0 0 n.toNat (some n.toNat), [.row (tcells P e) 0 false (List.replicate n.toNat a)]) else none
      | none => none
    | _, _, _ => none
noncomputable def qk_lookup (P : Program) (GT : Globs) (tm : List AV) (H : List AObj) (t : TypeId) (x : Operand) (k : Operand) (ok : Bool) : Option (AV × List AObj) := match mapT P t with
    | some (kt, et) =>
        match ev GT tm x, ev GT tm k with
        | .mp b, .d kd => match hget H b, tzero P et with
          | some (.map es), some a => if keyOK P kt kd = true ∧ zone P et = true then match findE P kt kd es with
              | some (some v) => some (if ok then .tup [v, .d (.bool true)] else v, [])
              | some none => some (if ok then .tup [a, .d (.bool false)] else a, [])
              | none => none else none
          | _, _ => none
        | _, _ => none
    | none => none
noncomputable def qk_call (P : Program) (GT : Globs) (tm : List AV) (H : List AObj) (c : Call) : Option (AV × List AObj) := match c.callee with
    | .builtin .len => match c.args.toList, c.argTypes.toList with
      | [x], [t] => (alen P H t (ev GT tm x)).map (·, [])
      | _, _ => none
    | .builtin .max => match c.args.toList with
      | [x, y] => match ev GT tm x, ev GT tm y with
        | .d (.int k a), .d (.int k' b) => if k = k' then some (.d (.int k (if b > a then b else a)), []) else none
        | _, _ => none
      | _ => none
    | .builtin .min => match c.args.toList with
      | [x, y] => match ev GT tm x, ev GT tm y with
        | .d (.int k a), .d (.int k' b) => if k = k' then some (.d (.int k (if b < a then b else a)), []) else none
        | _, _ => none
      | _ => none
    | _ => none
noncomputable def qopK (P : Program) (GT : Globs) (tm : List AV) (H : List AObj) : Op → Option (AV × List AObj)
  | .move x0 => qk_move P GT tm H x0
  | .assign x0 => qk_assign P GT tm H x0
  | .pick x0 x1 x2 => qk_pick P GT tm H x0 x1 x2
  | .box x0 x1 => qk_box P GT tm H x0 x1
  | .alloc x0 => qk_alloc P GT tm H x0
  | .load x0 x1 => qk_load P GT tm H x0 x1
  | .fieldAddr x0 x1 x2 => qk_fieldAddr P GT tm H x0 x1 x2
  | .field x0 x1 x2 => qk_field P GT tm H x0 x1 x2
  | .indexAddr x0 x1 x2 => qk_indexAddr P GT tm H x0 x1 x2
  | .index x0 x1 x2 => qk_index P GT tm H x0 x1 x2
  | .slice x0 x1 x2 x3 x4 => qk_slice P GT tm H x0 x1 x2 x3 x4
  | .binOp x0 x1 x2 x3 x4 => qk_binOp P GT tm H x0 x1 x2 x3 x4
  | .unOp x0 x1 x2 => qk_unOp P GT tm H x0 x1 x2
  | .convert x0 x1 x2 => qk_convert P GT tm H x0 x1 x2
  | .makeFunc x0 x1 x2 => qk_makeFunc P GT tm H x0 x1 x2
  | .extract x0 x1 => qk_extract P GT tm H x0 x1
  | .nilCheck x0 => qk_nilCheck P GT tm H x0
  | .build x0 x1 => qk_build P GT tm H x0 x1
  | .buildSlice x0 x1 x2 => qk_buildSlice P GT tm H x0 x1 x2
  | .makeMap x0 x1 => qk_makeMap P GT tm H x0 x1
  | .range x0 x1 => qk_range P GT tm H x0 x1
  | .makeSlice x0 x1 x2 => qk_makeSlice P GT tm H x0 x1 x2
  | .lookup x0 x1 x2 x3 => qk_lookup P GT tm H x0 x1 x2 x3
  | .call x0 => qk_call P GT tm H x0
  | _ => none
noncomputable def lk_store (P : Program) (GT : Globs) (tm : List AV) (H : List AObj) (t : TypeId) (p : Operand) (x : Operand) : Option (AV × List AObj) := match ev GT tm p with
    | .ptr b g i f => match hget H b with
      | some (.row z g' false xs) =>
        if g' = g then match xs[i]? with
          | some e => if okv H (ev GT tm x) = true ∧ (ev GT tm x).cells.length = tcells P t ∧ f + tcells P t ≤ z ∧ tcells P t ≠ 0 then some (.tup [], hset H b (.row z g false (xs.set i (putA e f (ev GT tm x))))) else none
          | none => none
        else none
      | _ => none
    | _ => none
noncomputable def lk_mapUpdate (P : Program) (GT : Globs) (tm : List AV) (H : List AObj) (t : TypeId) (m : Operand) (k : Operand) (x : Operand) : Option (AV × List AObj) := amapset P H t (ev GT tm m) (ev GT tm k) (ev GT tm x)

noncomputable def lk_insert (P : Program) (GT : Globs) (tm : List AV) (H : List AObj) (t : TypeId) (m : Operand) (k : Operand) (x : Operand) : Option (AV × List AObj) := amapset P H t (ev GT tm m) (ev GT tm k) (ev GT tm x)

noncomputable def lk_next (P : Program) (GT : Globs) (tm : List AV) (H : List AObj) (x : Operand) (_u1 : Bool) : Option (AV × List AObj) := match _u1 with
    | true => (match ev GT tm x with
    | .it b => match hget H b with
      | some (.iter s pos) => if pos < s.size then some (.tup [.d (.bool true), .d (.int .i64 pos), .d (.int .i32 (Utf8.decode s pos).1)], hset H b (.iter s (pos + (Utf8.decode s pos).2)))
          else some (.tup [.d (.bool false)], H)
      | _ => none
    | _ => none)
    | false => none
noncomputable def lk_call (P : Program) (GT : Globs) (tm : List AV) (H : List AObj) (c : Call) : Option (AV × List AObj) := match c.callee with
    | .builtin .append => match c.args.toList, c.argTypes.toList with
      | [s, x], [t, t'] => if (elemT P t').isSome = true ∨ strT P t' = true then aappend P H t (ev GT tm s) (ev GT tm x) else none
      | _, _ => none
    | .builtin .copy => match c.args.toList, c.argTypes.toList with
      | [s, x], [t, _] => acopy P H t (ev GT tm s) (ev GT tm x)
      | _, _ => none
    | .builtin .clear => match c.args.toList, c.argTypes.toList with
      | [s], [t] => aclear P H t (ev GT tm s)
      | _, _ => none
    | _ => none
noncomputable def lopK (P : Program) (GT : Globs) (tm : List AV) (H : List AObj) : Op → Option (AV × List AObj)
  | .store x0 x1 x2 => lk_store P GT tm H x0 x1 x2
  | .mapUpdate x0 x1 x2 x3 => lk_mapUpdate P GT tm H x0 x1 x2 x3
  | .insert x0 x1 x2 x3 => lk_insert P GT tm H x0 x1 x2 x3
  | .next x0 x1 => lk_next P GT tm H x0 x1
  | .call x0 => lk_call P GT tm H x0
  | _ => none
theorem qopK_eq (P : Program) (GT : Globs) (tm : List AV) (H : List AObj) (op : Op) : qopK P GT tm H op = qop P GT tm H op := by
  cases op with
  | binOp op t x y yt => simp only [qopK, qk_binOp, abinK_eq, qop]
  | _ => rfl
theorem lopK_eq (P : Program) (GT : Globs) (tm : List AV) (H : List AObj) (op : Op) : lopK P GT tm H op = lop P GT tm H op := by
  cases op with
  | next x b => cases b <;> rfl
  | _ => rfl


variable (P : Program) (GT : Globs)
noncomputable def xopF (cl : CallF) (o : Oper) (st : AS) : Option AS :=
  match callOf o.op with
  | some (f, args) => match ev GT st.tmps f with
    | .d (.fn g) => fLN fA (args.toList.map fun x => coe (ev GT st.tmps x)) fun as => match cl g as st.heap with
      | some (v, H) => putF st o.dst v H some
      | none => none
    | .fn g fs cs => fLN fA (fs ++ (args.toList.map fun x => coe (ev GT st.tmps x)) ++ cs) fun as => match cl g as st.heap with
      | some (v, H) => putF st o.dst v H some
      | none => none
    | _ => none
  | none => match qopK P GT st.tmps st.heap o.op with
    | some (v, []) => fA v fun v => putF st o.dst v st.heap some
    | some (v, N) => fA v fun v => fH N fun N => fAp st.heap N fun H => putF st o.dst v H some
    | none => match lopK P GT st.tmps st.heap o.op with
      | some (v, H) => fA v fun v => fH H fun H => putF st o.dst v H some
      | none => match xnil P GT st.tmps o.op with
        | some v => fA v fun v => putF st o.dst v st.heap some
        | none => none

theorem xopF_eq (cl : CallF) (o : Oper) (st : AS) : xopF P GT cl o st = xop P GT cl o st := by
  unfold xopF xop
  simp only [qopK_eq, lopK_eq, fLN_eq fA_eq, fA_eq, fH_eq, fAp_eq, putF_eq]
  repeat' split
  all_goals first | rfl | simp_all

noncomputable def xopsF (cl : CallF) (ops : Array Oper) : List Oper → AS → Option AS
  | [], st => some st
  | o :: rest, st => match o.guard with
    | none => match xopF P GT cl o st with
      | some st' => xopsF cl ops rest st'
      | none => none
    | some (j, want) => match gval ops st.tmps j with
      | .d (.bool b) => if b = want then match xopF P GT cl o st with
          | some st' => xopsF cl ops rest st'
          | none => none
        else putF st o.dst (.tup []) st.heap (xopsF cl ops rest)
      | .tup [] => putF st o.dst (.tup []) st.heap (xopsF cl ops rest)
      | _ => none

theorem xopsF_eq (cl : CallF) (ops : Array Oper) : ∀ (l : List Oper) (st : AS), xopsF P GT cl ops l st = xops P GT cl ops l st
  | [], st => rfl
  | o :: rest, st => by
    unfold xopsF xops
    simp only [xopF_eq, putF_eq, xopsF_eq cl ops rest]
    rfl

noncomputable def xrunF (cl : CallF) (dr : DrawF) (n : Nat) : Code → AS → Option (Exit × AS)
  | .skip, st => some (.normal, st)
  | .label _, st => some (.normal, st)
  | .exit id, st => some (.exit id, st)
  | .goto l, st => some (.goto l, st)
  | .ret, st => some (.ret, st)
  | .seq a b, st => match xrunF cl dr n a st with
    | some (.normal, st') => xrunF cl dr n b st'
    | r => r
  | .region id ops true, st => match dr id ops st with
    | some st' => some (.normal, st')
    | none => none
  | .region _ ops false, st => match xopsF P GT cl ops ops.toList st with
    | some st' => some (.normal, st')
    | none => none
  | .cond c a b, st => match ev GT st.tmps c with
    | .d (.bool t) => if t then xrunF cl dr n a st else xrunF cl dr n b st
    | _ => none
  | .block id c, st => match xrunF cl dr n c st with
    | some (.exit id', st') => if id' = id then some (.normal, st') else some (.exit id', st')
    | r => r
  | .loop c, st => iter (xrunF cl dr n c) n st
  | _, _ => none

theorem xrunF_eq (cl : CallF) (dr : DrawF) (n : Nat) : ∀ (c : Code) (st : AS), xrunF P GT cl dr n c st = xrun P GT cl dr n c st
  | .skip, st | .label _, st | .exit _, st | .goto _, st | .ret, st | .rangeFunc .., st | .scope _, st | .refuse _, st => rfl
  | .seq a b, st => by
    unfold xrunF xrun
    rw [xrunF_eq cl dr n a]
    simp only [xrunF_eq cl dr n b]
    rfl
  | .region id ops true, st => rfl
  | .region id ops false, st => by unfold xrunF xrun; rw [xopsF_eq]; rfl
  | .cond c a b, st => by
    unfold xrunF xrun
    simp only [xrunF_eq cl dr n a, xrunF_eq cl dr n b]
    rfl
  | .block id c, st => by
    unfold xrunF xrun
    rw [xrunF_eq cl dr n c]
    rfl
  | .loop c, st => by
    unfold xrunF xrun
    congr 1
    funext s
    exact xrunF_eq cl dr n c s

noncomputable def purgeF (H : List AObj) (v : AV) (H1 : List AObj) : Option (AV × List AObj) :=
  fTk H.length H1 fun T => if keepsB H T = true then match pureR (fun b => decide (H.length ≤ b)) H1 50 v with
    | some (.d x) => fDD x fun x => some (.d x, T)
    | some x => fA x fun x => some (x, T)
    | none => fA v fun v => some (v, H1)
  else fA v fun v => some (v, H1)
theorem purgeF_eq (H : List AObj) (v : AV) (H1 : List AObj) : purgeF H v H1 = some (purge H v H1) := by
  unfold purgeF purge
  simp only [fTk_eq, fDD_eq, fA_eq]
  split
  · split <;> simp_all
  · rfl

noncomputable def xdopF (cl : CallF) (o : Oper) (st : AS) : Option (AV × List AObj) :=
  match callOf o.op with
  | some (f, args) => match ev GT st.tmps f with
    | .d (.fn g) => fLN fA (args.toList.map fun x => coe (ev GT st.tmps x)) fun as => match kdC cl g as with
      | some (.pure x) => some (.d x, [])
      | some (.mp es) => fH [.map es] fun N => fN st.heap.length fun b => some (.mp b, N)
      | none => none
    | .fn g fs cs => fLN fA (fs ++ (args.toList.map fun x => coe (ev GT st.tmps x)) ++ cs) fun as => match kdC cl g as with
      | some (.pure x) => some (.d x, [])
      | _ => none
    | _ => none
  | none => match qopK P GT st.tmps st.heap o.op with
    | some (v, []) => fA v fun v => some (v, [])
    | some (v, N) => fA v fun v => fH N fun N => some (v, N)
    | none => none
theorem xdopF_eq (cl : CallF) (o : Oper) (st : AS) : xdopF P GT cl o st = xdop P GT cl o st := by
  unfold xdopF xdop
  simp only [qopK_eq, fLN_eq fA_eq, fA_eq, fH_eq, fN_eq]
  repeat' split
  all_goals first | rfl | simp_all

noncomputable def xdstepF (cl : CallF) (ops : Array Oper) (o : Oper) (st : AS) : Option (AV × List AObj) := match o.guard with
  | none => xdopF P GT cl o st
  | some (j, want) => match gval ops st.tmps j with
    | .d (.bool b) => if b = want then xdopF P GT cl o st else some (.tup [], [])
    | .tup [] => some (.tup [], [])
    | _ => none
/-- the quiet operations ahead: what they yield, how many, and the state behind them -/
noncomputable def xrunDF (cl : CallF) (ops : Array Oper) : List Oper → Nat → AS → Nat × AS
  | [], k, st => (k, st)
  | o :: rest, k, st => match xdstepF P GT cl ops o st with
    | some (v, []) => putF st o.dst v st.heap (xrunDF cl ops rest (Nat.succ k))
    | some (v, N) => fAp st.heap N fun H => putF st o.dst v H (xrunDF cl ops rest (Nat.succ k))
    | none => (k, st)
theorem xrunDF_eq (cl : CallF) (ops : Array Oper) : ∀ (l : List Oper) (k : Nat) (st : AS),
    xrunDF P GT cl ops l k st = (k + (xrunD P GT cl ops l st).length, finD (l.take (xrunD P GT cl ops l st).length) st (xrunD P GT cl ops l st))
  | [], k, st => by simp [xrunDF, xrunD, finD]
  | o :: rest, k, st => by
    have hs : xdstepF P GT cl ops o st = xdstep P GT cl ops o st := by
      unfold xdstepF xdstep
      simp only [xdopF_eq]
      rfl
    unfold xrunDF xrunD
    rw [hs]
    simp only [fAp_eq, putF_eq, xrunDF_eq cl ops rest]
    cases xdstep P GT cl ops o st with
    | none => simp [finD]
    | some r =>
      obtain ⟨v, N⟩ := r
      cases N with
      | nil => simp only [List.append_nil, List.length_cons, List.take_succ_cons, finD, Prod.mk.injEq, and_true]; omega
      | cons a N => simp only [List.length_cons, List.take_succ_cons, finD, Prod.mk.injEq, and_true]; omega

/-- one operation ready at a time: as a list of which are done -/
noncomputable def xanyF (cl : CallF) (ops : Array Oper) : Nat → List Bool → AS → Option AS
  | 0, l, st => if (Region.ready .any ops l.toArray).isEmpty = true then some st else none
  | n + 1, l, st => match (Region.ready .any ops l.toArray).find? (takeable ops l.toArray) with
    | some f => match ops[f]? with
      | some o => match qopK P GT st.tmps st.heap o.op with
        | some (v, []) => fA v fun v => fLs (l.set f true) fun l => putF st o.dst v st.heap (xanyF cl ops n l)
        | some (v, N) => fA v fun v => fH N fun N => fAp st.heap N fun H => fLs (l.set f true) fun l => putF st o.dst v H (xanyF cl ops n l)
        | none => none
      | none => none
    | none => match Region.ready .any ops l.toArray with
      | [] => some st
      | i :: is => match (match ops[i]? with | some o => (match xopsF P GT cl ops [o] st with | some st => fLs (l.set i true) fun l => xanyF cl ops n l st | none => none) | none => none) with
        | some r => if (is.all fun j => match (match ops[j]? with | some o => (match xopsF P GT cl ops [o] st with | some st => fLs (l.set j true) fun l => xanyF cl ops n l st | none => none) | none => none) with
            | some r' => idemS r' r
            | none => false) = true then some r else none
        | none => none
theorem xanyF_eq (cl : CallF) (ops : Array Oper) : ∀ (n : Nat) (l : List Bool) (st : AS), xanyF P GT cl ops n l st = xany P GT cl ops n l.toArray st
  | 0, l, st => rfl
  | n + 1, l, st => by
    unfold xanyF xany
    simp only [qopK_eq, fA_eq, fH_eq, fAp_eq, fLs_eq, putF_eq, xopsF_eq, xanyF_eq cl ops n, List.setIfInBounds_toArray]
    have hb : ∀ i : Nat, (match ops[i]? with | some o => (match xops P GT cl ops [o] st with | some st => xany P GT cl ops n (l.set i true).toArray st | none => none) | none => none) = (match ops[i]? with | some o => (xops P GT cl ops [o] st).bind (xany P GT cl ops n (l.set i true).toArray) | none => none) := by
      intro i
      cases ops[i]? with
      | none => rfl
      | some o => simp only; cases xops P GT cl ops [o] st <;> rfl
    simp only [hb]
    cases (Region.ready .any ops l.toArray).find? (takeable ops l.toArray) with
    | some f =>
      simp only
      cases ops[f]? with
      | none => rfl
      | some o =>
        simp only
        cases qop P GT st.tmps st.heap o.op with
        | none => rfl
        | some r =>
          obtain ⟨v, N⟩ := r
          cases N <;> simp
    | none => rfl

noncomputable def xdrawF (cl : CallF) : DrawF := fun _ ops st =>
  match xrunDF P GT cl ops ops.toList 0 st with
  | (m, st1) =>
    if P.follows .mixedOrders = true ∧ drawOK ops m = true ∧ sufOK ops m (floatsOf ops m) = true ∧ floatOK ops m [] (floatsOf ops m) = true ∧ (floatsOf ops m = [] ∨ Region.noSelect ops = true) then
      xopsF P GT cl ops (ops.toList.drop m) st1
    else if P.follows .mixedOrders = true ∧ Region.noSelect ops = true then xanyF P GT cl ops ops.size (List.replicate ops.size false) st
    else none
theorem xdrawF_eq (cl : CallF) : xdrawF P GT cl = xdraw P GT cl := by
  funext id ops st
  unfold xdrawF xdraw
  simp only [xrunDF_eq, xopsF_eq, xanyF_eq, Nat.zero_add, List.toArray_replicate]

noncomputable def fcall (kn : CallF) (raw : FuncId → Bool) : Nat → CallF
  | 0 => fun _ _ _ => none
  | n + 1 => fun f args H => match kn f args H with
    | some (v, H') => fA v fun v => fH H' fun H' => some (v, H')
    | none => match P.funcs[f]? with
        | some fn => match fn.body with
          | some c => if callable P f = true then fLs (enterTmps fn args) fun tm => match xrunF P GT (fcall kn raw n) (xdrawF P GT (fcall kn raw n)) n c ⟨tm, H⟩ with
              | some (.normal, st) => match resVs P st fn.results.toList with | some vs => if raw f = true then fA (tupOf vs) fun v => some (v, st.heap) else purgeF H (tupOf vs) st.heap | none => none
              | some (.ret, st) => match resVs P st fn.results.toList with | some vs => if raw f = true then fA (tupOf vs) fun v => some (v, st.heap) else purgeF H (tupOf vs) st.heap | none => none
              | _ => none
            else none
          | none => none
        | none => none
theorem fcall_eq (kn : CallF) (raw : FuncId → Bool) : ∀ n, fcall P GT kn raw n = zcall P GT kn raw n
  | 0 => rfl
  | n + 1 => by
    funext f args H
    unfold fcall zcall
    rw [fcall_eq kn raw n, xdrawF_eq]
    simp only [fA_eq, fH_eq, fLs_eq, xrunF_eq, purgeF_eq]
    split
    · rename_i h; rw [h]
    · rename_i h
      rw [h]
      have hif : ∀ (f : Nat) (vs : List AV) (st : AS), (if raw f = true then some (tupOf vs, st.heap) else some (purge H (tupOf vs) st.heap)) = some (if raw f = true then (tupOf vs, st.heap) else purge H (tupOf vs) st.heap) := by
        intro f vs st; split <;> rfl
      simp only [hif]
      rfl
theorem fcall_sound {P : Program} {GT : Globs} {kn : CallF} {raw : FuncId → Bool} (hk : CSound P GT kn) (n : Nat) : CSound P GT (fcall P GT kn raw n) := by
  rw [fcall_eq]; exact zcall_sound hk n
end Go.Ab

namespace Go.Ab

def litD : Lit → D
  | .bool b => .bool b
  | .int k n => .int k n
  | .string l => .str ⟨⟨l⟩⟩
  | _ => .bool false
mutual
def toD {H : Type} : DataW H → D
  | .lit l => litD l
  | .slice es _ => .list (toDs es)
  | .agg ps => .agg (toCs ps)
  | _ => .list []
def toDs {H : Type} : List (DataW H) → List D
  | [] => []
  | d :: r => toD d :: toDs r
def toCs {H : Type} : List (DataW H) → List D
  | [] => []
  | d :: r => (toD d).cells ++ toCs r
end
theorem toDs_map {H : Type} : ∀ l : List (DataW H), toDs l = l.map toD
  | [] => rfl
  | d :: r => by simp [toDs, toDs_map r]
theorem toCs_flat {H : Type} : ∀ l : List (DataW H), toCs l = l.flatMap fun d => (toD d).cells
  | [] => rfl
  | d :: r => by simp [toCs, toCs_flat r]

variable {H : Type} {enc : TypeId × Value → H} {P : Program} {w : World} {base : Nat} {held : Bool}

/-- pieces that lie one behind the other -/
def laidF : Nat → List (Nat × Nat) → Option Nat
  | off, [] => some off
  | off, p :: ps => if p.1 = off then laidF (off + p.2) ps else none
/-- plain data: numbers, bools, strings, slices and structs of these -/
def okTy (P : Program) (T : List TypeId) (t : TypeId) : Bool := match P.underlying t with
  | some .bool => P.cellsOf t == 1
  | some (.int _) => P.cellsOf t == 1
  | some .string => P.cellsOf t == 1
  | some (.slice e) => P.cellsOf t == 1 && T.contains e && P.cellsOf e != 0
  | some (.struct fs) => (laidF 0 (fs.toList.map fun f => (f.offset, P.cellsOf f.type)) == some (P.cellsOf t)) && fs.toList.all fun f => T.contains f.type
  | some (.array n e) => (laidF 0 ((List.range n).map fun i => (i * P.cellsOf e, P.cellsOf e)) == some (P.cellsOf t)) && T.contains e
  | _ => false
def okTs (P : Program) (T : List TypeId) : Bool := T.all (okTy P T)

def Good (w : World) (cs : List Value) (d : D) : Prop := d.cells.length = cs.length ∧ ∀ (j : Nat) v c, cs[j]? = some v → d.cells[j]? = some c → one v = true ∧ Rep w.heap (fun c => c < w.heap.size) v c

theorem cell?_at {w : World} {a : Addr} {v : Value} (h : w.cell? a = some v) : a.spot = none ∧ a.block < w.heap.size ∧ cellAt w.heap a.block a.off = some v := by
  unfold World.cell? at h
  unfold cellAt
  cases hb : w.heap[a.block]? with
  | none => rw [hb] at h; cases h
  | some o =>
    rw [hb] at h
    cases o with
    | cells c t f =>
      simp only at h ⊢
      split at h
      · cases h
      · rename_i hs
        exact ⟨by cases hsp : a.spot <;> simp_all, (Array.getElem?_eq_some_iff.1 hb).1, h⟩
    | _ => cases h

theorem agg_cells (l : List D) : (D.agg l).cells = l := rfl
theorem add_block (a : Addr) (n : Nat) : (a.add n).block = a.block := by unfold Addr.add; split <;> rfl
theorem add_off (a : Addr) (n : Nat) : (a.add n).off = a.off + n := by
  unfold Addr.add
  split
  · rename_i h; rw [h]; rfl
  · rfl
theorem laidF_pieces {cs : List Value} : ∀ (fs : List (Nat × Nat)) (xs : List (DataW H × List MemPlace)) (off tot : Nat), laidF off fs = some tot → xs.length = fs.length →
    (∀ (i : Nat) f x, fs[i]? = some f → xs[i]? = some x → Good w ((cs.drop f.1).take f.2) (toD x.1) ∧ ((cs.drop f.1).take f.2).length = f.2) → off ≤ tot ∧ Good w ((cs.drop off).take (tot - off)) (.agg (toCs (xs.map (·.1))))
  | [], [], off, tot, h, _, _ => by
    simp only [laidF, Option.some.injEq] at h
    subst h
    exact ⟨Nat.le_refl _, by simp [toCs, D.cells], fun j v c hv hc => by simp [toCs, D.cells] at hc⟩
  | f :: fs, x :: xs, off, tot, h, hl, hg => by
    unfold laidF at h
    split at h
    · rename_i hoff
      obtain ⟨g1, g2⟩ := hg 0 f x rfl rfl
      obtain ⟨r0, r1, r2⟩ := laidF_pieces fs xs _ _ h (by simpa using hl) fun i f x hf hx => hg (i + 1) f x (by simpa using hf) (by simpa using hx)
      rw [hoff] at g1 g2
      have hsplit : (cs.drop off).take (tot - off) = (cs.drop off).take f.2 ++ (cs.drop (off + f.2)).take (tot - (off + f.2)) := by
        rw [show tot - off = f.2 + (tot - (off + f.2)) by omega, List.take_add, List.drop_drop]
      refine ⟨by omega, ?_⟩
      rw [hsplit]
      rw [agg_cells] at r1
      simp only [agg_cells] at r2
      have g11 := g1.1
      refine ⟨?_, fun j v c hv hc => ?_⟩
      · simp only [List.map_cons, toCs, agg_cells, List.length_append, g11, r1]
      · simp only [List.map_cons, toCs, agg_cells] at hc
        by_cases hj : j < (toD x.1).cells.length
        · rw [List.getElem?_append_left hj] at hc
          rw [List.getElem?_append_left (by rw [← g11]; exact hj)] at hv
          exact g1.2 j v c hv hc
        · rw [List.getElem?_append_right (Nat.not_lt.1 hj)] at hc
          rw [List.getElem?_append_right (by rw [← g11]; exact Nat.not_lt.1 hj), ← g11] at hv
          exact r2 _ v c hv hc
    · cases h
  | [], _ :: _, _, _, _, hl, _ => by simp at hl
  | _ :: _, [], _, _, _, hl, _ => by simp at hl

theorem trod_good {T : List TypeId} (hT : okTs P T = true) : ∀ (fuel : Nat) (t : TypeId) (cs : List Value) (d : DataW H) (ps : List MemPlace), t ∈ T → DataW.trod enc P w base (fun _ => true) held fuel t cs = some (d, ps) → Good w cs (toD d) ∧ cs.length = P.cellsOf t := by
  intro fuel
  induction fuel with
  | zero => intro t cs d ps _ h; simp [DataW.trod] at h
  | succ fuel ih =>
    intro t cs d ps ht h
    have hok := List.all_eq_true.1 hT t ht
    unfold okTy at hok
    split at hok
    · rename_i hu
      obtain ⟨b, rfl, hx⟩ := DataW.trod_bool hu h
      cases hx
      refine ⟨⟨rfl, fun j v c hv hc => ?_⟩, by simpa using (of_decide_eq_true hok).symm⟩
      match j with
      | 0 => simp [toD, litD, D.cells] at hv hc; subst hv hc; exact ⟨rfl, .bool b⟩
      | j + 1 => simp at hv
    · rename_i k hu
      obtain ⟨n, rfl, hx, hw⟩ := DataW.trod_int hu h
      cases hx
      simp only [Lit.wf, Bool.and_eq_true, decide_eq_true_eq] at hw
      refine ⟨⟨rfl, fun j v c hv hc => ?_⟩, by simpa using (of_decide_eq_true hok).symm⟩
      match j with
      | 0 => simp [toD, litD, D.cells] at hv hc; subst hv hc; exact ⟨rfl, .int k n hw⟩
      | j + 1 => simp at hv
    · rename_i hu
      obtain ⟨s, rfl, hx, hw⟩ := DataW.trod_string hu h
      cases hx
      refine ⟨⟨rfl, fun j v c hv hc => ?_⟩, by simpa using (of_decide_eq_true hok).symm⟩
      match j with
      | 0 => simp [toD, litD, D.cells] at hv hc; subst hv hc; exact ⟨rfl, .str s (by simpa [maxLen, maxN] using hw)⟩
      | j + 1 => simp at hv
    · rename_i e hu
      simp only [Bool.and_eq_true, beq_iff_eq, List.contains_iff_mem, bne_iff_ne, ne_eq] at hok
      obtain ⟨⟨h1, he⟩, hz⟩ := hok
      rcases DataW.trod_slice hu h with ⟨rfl, hx⟩ | ⟨a, len, cap, elems, rest, n, hn, rfl, hx, _, hlc, hcm, hel, hget, hrest, _⟩
      · cases hx
        refine ⟨⟨rfl, fun j v c hv hc => ?_⟩, by simpa using h1.symm⟩
        match j with
        | 0 => simp [toD, D.cells] at hv hc; subst hv hc; exact ⟨rfl, .nil⟩
        | j + 1 => simp at hv
      · cases hx
        cases hn
        refine ⟨⟨rfl, fun j v c hv hc => ?_⟩, by simpa using h1.symm⟩
        match j with
        | j + 1 => simp at hv
        | 0 =>
        simp only [toD, D.cells, List.getElem?_cons_zero, Option.some.injEq] at hv hc
        subst hv hc
        refine ⟨rfl, ?_⟩
        have elemAt : ∀ (i : Nat) (y : DataW H × List MemPlace), (w.cells? base (a.add (i * P.cellsOf e)) (P.cellsOf e)).bind (DataW.trod enc P w base (fun _ => true) held fuel e) = some y →
            (a.add (i * P.cellsOf e)).spot = none ∧ a.block < w.heap.size ∧ (toD y.1).cells.length = P.cellsOf e ∧ ∀ (j : Nat) c, (toD y.1).cells[j]? = some c → ∃ v, cellAt w.heap a.block (a.off + i * P.cellsOf e + j) = some v ∧ one v = true ∧ Rep w.heap (fun c => c < w.heap.size) v c := by
          intro i y hy
          simp only [Option.bind_eq_some_iff] at hy
          obtain ⟨cs', hc', hy⟩ := hy
          obtain ⟨_, hlen', hcell⟩ := World.cells?_some hc'
          obtain ⟨hg, _⟩ := ih e cs' y.1 y.2 he hy
          have hlt : ∀ j, j < P.cellsOf e → ∃ v, cs'[j]? = some v ∧ ((a.add (i * P.cellsOf e)).add j).spot = none ∧ a.block < w.heap.size ∧ cellAt w.heap a.block (a.off + i * P.cellsOf e + j) = some v := by
            intro j hj
            have h0 := hcell j hj
            rw [List.getElem?_eq_getElem (by omega)] at h0
            obtain ⟨q1, q2, q3⟩ := cell?_at h0
            simp only [add_block, add_off] at q2 q3
            exact ⟨_, List.getElem?_eq_getElem (by omega), q1, q2, q3⟩
          obtain ⟨v0, _, q1, q2, _⟩ := hlt 0 (by omega)
          refine ⟨by simpa [Addr.add] using q1, q2, hg.1.trans hlen', fun j c hc => ?_⟩
          have hj : j < P.cellsOf e := by have := (List.getElem?_eq_some_iff.1 hc).1; rw [hg.1, hlen'] at this; exact this
          obtain ⟨v, e1, _, _, e2⟩ := hlt j hj
          obtain ⟨e3, e4⟩ := hg.2 j v c e1 hc
          exact ⟨v, e2, e3, e4⟩
        have hspare := hrest rfl
        by_cases hc0 : cap = 0
        · subst hc0
          have hl0 : len = 0 := by omega
          subst hl0
          have : elems = [] := by simpa using hel
          subst this
          exact .emp a
        · have hfirst : ∃ y, (w.cells? base (a.add (0 * P.cellsOf e)) (P.cellsOf e)).bind (DataW.trod enc P w base (fun _ => true) held fuel e) = some y := by
            by_cases hl0 : len = 0
            · subst hl0
              have h2 := hspare.2 0 (by omega)
              rw [List.getElem?_eq_getElem (by rw [hspare.1]; omega)] at h2
              exact ⟨_, by simpa using h2⟩
            · have h2 := hget 0 (by omega)
              rw [List.getElem?_eq_getElem (by omega)] at h2
              exact ⟨_, h2⟩
          obtain ⟨y0, hy0⟩ := hfirst
          obtain ⟨hs, hb, _⟩ := elemAt 0 y0 hy0
          have hs0 : a.spot = none := by simpa [Addr.add] using hs
          obtain ⟨b, off, spot⟩ := a
          simp only at hs0 hb elemAt
          subst hs0
          have key : ∀ (i : Nat) (x : D), (toDs (elems.map (·.1)))[i]? = some x → ∃ y : DataW H × List MemPlace, x = toD y.1 ∧ x.cells.length = P.cellsOf e ∧ ∀ (j : Nat) c, x.cells[j]? = some c → ∃ v, cellAt w.heap b (off + i * P.cellsOf e + j) = some v ∧ one v = true ∧ Rep w.heap (fun c => c < w.heap.size) v c := by
            intro i x hx
            rw [toDs_map, List.map_map, List.getElem?_map, Option.map_eq_some_iff] at hx
            obtain ⟨y, hy, rfl⟩ := hx
            have hi := (List.getElem?_eq_some_iff.1 hy).1
            have h2 := hget i (by omega)
            rw [hy] at h2
            obtain ⟨_, _, q3, q4⟩ := elemAt i y h2
            exact ⟨y, rfl, q3, q4⟩
          have hval : ∀ (i : Nat) (x : D) (j : Nat) c, (toDs (elems.map (·.1)))[i]? = some x → x.cells[j]? = some c → ∃ v, cellAt w.heap b (off + i * P.cellsOf e + j) = some v ∧ one v = true ∧ Rep w.heap (fun c => c < w.heap.size) v c := fun i x j c hx hj => by
            obtain ⟨_, _, _, h4⟩ := key i x hx
            exact h4 j c hj
          refine .slice b off cap (P.cellsOf e) _ len ?_ hb hlc (by simpa [maxLen, maxN] using hcm) ?_ (fun i j => (cellAt w.heap b (off + i * P.cellsOf e + j)).getD .nilFunc) ?_ ?_
          · simp [toDs_map, hel]
          · intro x hx
            obtain ⟨i, hi, rfl⟩ := List.getElem_of_mem hx
            obtain ⟨_, _, h3, _⟩ := key i _ (List.getElem?_eq_getElem hi)
            exact h3
          · intro i x j c hx hj
            obtain ⟨v, e1, e2, _⟩ := hval i x j c hx hj
            rw [e1]; exact ⟨rfl, e2⟩
          · intro i x j c hx hj
            obtain ⟨v, e1, _, e3⟩ := hval i x j c hx hj
            rw [e1]; exact e3
    · rename_i fs hu
      simp only [Bool.and_eq_true, beq_iff_eq, List.all_eq_true, List.contains_iff_mem] at hok
      obtain ⟨hl, hfs⟩ := hok
      obtain ⟨xs, n, hn, hx, hlen, hxl, hget⟩ := DataW.trod_struct hu h
      cases hn
      cases hx
      have hp := (laidF_pieces (w := w) (cs := cs) _ xs 0 _ hl (by simpa using hxl) fun i f x hf hx => by
        rw [List.getElem?_map, Option.map_eq_some_iff] at hf
        obtain ⟨f, hf, rfl⟩ := hf
        have h1 := hget i f (by simpa using hf)
        rw [hx] at h1
        exact ih f.type _ x.1 x.2 (hfs f (List.mem_of_getElem? hf)) h1).2
      rw [Nat.sub_zero, List.drop_zero, ← hlen, List.take_length] at hp
      exact ⟨hp, hlen⟩
    · rename_i n e hu
      simp only [Bool.and_eq_true, beq_iff_eq, List.contains_iff_mem] at hok
      obtain ⟨hl, he⟩ := hok
      obtain ⟨xs, m, hn, hx, hlen, hxl, hget⟩ := DataW.trod_array hu h
      cases hn
      cases hx
      have hp := (laidF_pieces (w := w) (cs := cs) _ xs 0 _ hl (by simpa using hxl) fun i f x hf hx => by
        rw [List.getElem?_map, Option.map_eq_some_iff] at hf
        obtain ⟨j, hj, rfl⟩ := hf
        have hi := (List.getElem?_eq_some_iff.1 hx).1
        rw [List.getElem?_range (by omega)] at hj
        cases hj
        have h1 := hget i (by omega)
        rw [hx] at h1
        exact ih e _ x.1 x.2 he h1).2
      rw [Nat.sub_zero, List.drop_zero, ← hlen, List.take_length] at hp
      exact ⟨hp, hlen⟩
    · cases hok

/-! what the reading of a struct, of a slice is -/
def sTys (P : Program) (t : TypeId) : Option (List TypeId) := match P.underlying t with
  | some (.struct fs) => some (fs.toList.map (·.type))
  | _ => none
theorem dec_struct {t : TypeId} {ts : List TypeId} {fuel : Nat} {cs : List Value} {d : DataW H} {ps : List MemPlace} (hs : sTys P t = some ts) (h : DataW.trod enc P w base (fun _ => true) held fuel t cs = some (d, ps)) :
    ∃ n ds, fuel = n + 1 ∧ d = .agg ds ∧ ds.length = ts.length ∧ ∀ (i : Nat) T, ts[i]? = some T → ∃ cs' d' ps', ds[i]? = some d' ∧ DataW.trod enc P w base (fun _ => true) held n T cs' = some (d', ps') := by
  unfold sTys at hs
  split at hs
  · rename_i fs hu
    cases hs
    obtain ⟨xs, n, hn, hx, hlen, hxl, hget⟩ := DataW.trod_struct hu h
    cases hx
    refine ⟨n, _, hn, rfl, by simp [hxl], fun i T hT => ?_⟩
    rw [List.getElem?_map, Option.map_eq_some_iff] at hT
    obtain ⟨f, hf, rfl⟩ := hT
    have hi : i < xs.length := by have := (List.getElem?_eq_some_iff.1 hf).1; simp at this; omega
    have h1 := hget i f (by simpa using hf)
    rw [List.getElem?_eq_getElem hi] at h1
    exact ⟨_, xs[i].1, xs[i].2, by simp [hi], h1⟩
  · cases hs
theorem dec_int {t : TypeId} {k : IntKind} {fuel : Nat} {cs : List Value} {d : DataW H} {ps : List MemPlace} (ht : intT P t = some k) (h : DataW.trod enc P w base (fun _ => true) held fuel t cs = some (d, ps)) : ∃ n, toD d = .int k n := by
  unfold intT at ht
  split at ht
  · rename_i k' hu
    cases ht
    obtain ⟨n, _, hx, _⟩ := DataW.trod_int hu h
    cases hx
    exact ⟨n, rfl⟩
  · cases ht
theorem dec_str {t : TypeId} {fuel : Nat} {cs : List Value} {d : DataW H} {ps : List MemPlace} (ht : strT P t = true) (h : DataW.trod enc P w base (fun _ => true) held fuel t cs = some (d, ps)) : ∃ s, toD d = .str s := by
  unfold strT at ht
  split at ht
  · rename_i hu
    obtain ⟨s, _, hx, _⟩ := DataW.trod_string hu h
    cases hx
    exact ⟨_, rfl⟩
  · cases ht
theorem list_of {α : Type} (f : α → D) : ∀ l : List D, (∀ x ∈ l, ∃ a, x = f a) → ∃ as : List α, l = as.map f
  | [], _ => ⟨[], rfl⟩
  | x :: l, h => by
    obtain ⟨a, rfl⟩ := h x (List.mem_cons_self ..)
    obtain ⟨as, rfl⟩ := list_of f l fun y hy => h y (List.mem_cons_of_mem _ hy)
    exact ⟨a :: as, rfl⟩
theorem dec_slice {α : Type} (f : α → D) {t e : TypeId} {fuel : Nat} {cs : List Value} {d : DataW H} {ps : List MemPlace} (ht : elemT P t = some e) (h : DataW.trod enc P w base (fun _ => true) held fuel t cs = some (d, ps))
    (hf : ∀ n cs d ps, n < fuel → DataW.trod enc P w base (fun _ => true) held n e cs = some (d, ps) → ∃ a, toD d = f a) : ∃ as : List α, toD d = .list (as.map f) := by
  unfold elemT at ht
  split at ht
  · rename_i e' hu
    cases ht
    rcases DataW.trod_slice hu h with ⟨_, hx⟩ | ⟨a, len, cap, elems, rest, n, hn, _, hx, _, _, _, hel, hget, _⟩
    · cases hx; exact ⟨[], rfl⟩
    · cases hx
      obtain ⟨as, has⟩ := list_of f (toDs (elems.map (·.1))) fun x hx => by
        rw [toDs_map, List.map_map] at hx
        obtain ⟨y, hy, rfl⟩ := List.mem_map.1 hx
        obtain ⟨i, hi, rfl⟩ := List.getElem_of_mem hy
        have h2 := hget i (by omega)
        rw [List.getElem?_eq_getElem hi] at h2
        simp only [Option.bind_eq_some_iff] at h2
        obtain ⟨cs', _, h3⟩ := h2
        exact hf n cs' _ _ (by omega) h3
      exact ⟨as, by simp only [toD]; rw [has]⟩
  · cases ht
end Go.Ab
