/- The abstract side: pure data, abstract values and blocks, and how the machine's memory represents them. The abstract run of the operations: a value and new blocks for a quiet one, a value and a turned heap for a loud one. What a represented value is made of; how it is read and written. The quiet operations on the machine do what the abstract run says. The quiet operations, further: addresses, indexes, slices, comparisons. The quiet operations, further: parts, slices, '==', arithmetic. '==', arithmetic, len, conversions. Arithmetic, len, conversions, making of values. Making of rows and values. Structs and rows given part by part; maps. Rows given element by element, rows of zeros, new maps. Rows of zeros, new maps, what is asked of a map and put into it. Lookups; what a loud operation leaves; stores into maps. Every quiet operation. The loud operations: stores, map entries. -/
import Derived.Tactics
import Derived.Calls
import Derived.Orders
import Derived.Laws.Cells
import Derived.DeepKeys
import Derived.Laws.StructEq
import Derived.Laws.MakeOwn
import Derived.Laws.Tables
set_option linter.unusedVariables false
set_option linter.unusedSimpArgs false
set_option linter.unnecessarySimpa false
namespace Go.Ab

/-- pure data -/
inductive D where
  | int (k : IntKind) (n : Int)
  | bool (b : Bool)
  | str (s : ByteArray)
  | list (xs : List D)
  | agg (cs : List D)
  | fn (f : FuncId)
  deriving Inhabited

def D.cells : D → List D
  | .agg cs => cs
  | d => [d]

/-- abstract values -/
inductive AV where
  | d (x : D)
  | nils
  | ref (b g i n : Nat) (cap : Option Nat)
  | ptr (b g i f : Nat)
  | cptr (cs : List D)
  | fn (f : FuncId) (first caps : List AV)
  | mp (b : Nat)
  | it (b : Nat)
  | agg (cs : List AV)
  | tup (vs : List AV)
  | np
  | nf
  | un
  deriving Inhabited

def AV.cells : AV → List AV
  | .agg cs => cs
  | .d (.agg cs) => cs.map .d
  | v => [v]

/-- abstract blocks: a row of elements of z cells each (a variable is a row of one element); a map -/
inductive AObj where
  | row (z g : Nat) (fz : Bool) (xs : List AV)
  | map (es : List (D × AV))
  | iter (s : ByteArray) (pos : Nat)
  deriving Inhabited

def AObj.fz : AObj → Bool
  | .row _ _ fz _ => fz
  | .map _ => false
  | .iter _ _ => false
def AObj.gen : AObj → Nat
  | .row _ g _ _ => g
  | .map _ => 0
  | .iter _ _ => 0

/-- where an abstract block lies: nowhere yet; nowhere, and it stands for a nil slice; in a block of the machine -/
inductive Slot where
  | no
  | virt
  | at (c : Nat)
  deriving Inhabited, DecidableEq

def one : Value → Bool
  | .agg _ => false
  | .tuple _ => false
  | _ => true

def cellAt (h : Array Obj) (b o : Nat) : Option Value :=
  match h[b]? with
  | some (.cells c _ _) => c[o]?
  | _ => none

def maxN : Nat := 9223372036854775807

/-- the value v stands for the datum, its rows lying in blocks that S lets -/
inductive Rep (h : Array Obj) (S : Nat → Prop) : Value → D → Prop
  | int (k : IntKind) (n : Int) (hn : k.min ≤ n ∧ n ≤ k.max) : Rep h S (.int k n) (.int k n)
  | bool (b : Bool) : Rep h S (.bool b) (.bool b)
  | str (s : ByteArray) (hs : s.size ≤ maxN) : Rep h S (.string s) (.str s)
  | fn (f : FuncId) : Rep h S (.func (.func f) #[] #[]) (.fn f)
  | agg (vs : List Value) (cs : List D) (hl : vs.length = cs.length) (h1 : ∀ v ∈ vs, one v = true)
      (hr : ∀ (j : Nat) v c, vs[j]? = some v → cs[j]? = some c → Rep h S v c) : Rep h S (.agg vs.toArray) (.agg cs)
  | nil : Rep h S (.slice none 0 0) (.list [])
  | emp (a : Addr) : Rep h S (.slice (some a) 0 0) (.list [])
  | slice (b off cap z : Nat) (xs : List D) (n : Nat) (hn : n = xs.length) (hb : S b) (hcap : n ≤ cap) (hmax : cap ≤ maxN) (hz : ∀ x ∈ xs, x.cells.length = z)
      (f : Nat → Nat → Value) (hc : ∀ (i : Nat) x (j : Nat) c, xs[i]? = some x → x.cells[j]? = some c → cellAt h b (off + i * z + j) = some (f i j) ∧ one (f i j) = true)
      (hr : ∀ (i : Nat) x (j : Nat) c, xs[i]? = some x → x.cells[j]? = some c → Rep h S (f i j) c) :
      Rep h S (.slice (some ⟨b, off, none⟩) n cap) (.list xs)

def sizeO : Obj → Option Nat
  | .cells cur _ (0, 0) => some cur.size
  | _ => none
def rowSize (h : Array Obj) (c : Nat) : Option Nat := (h[c]?).bind sizeO

/-- the value v stands for the abstract value -/
inductive RepA (h : Array Obj) (S : Nat → Prop) (own : Nat → Slot) (H : List AObj) : Value → AV → Prop
  | d (v : Value) (x : D) (hx : Rep h S v x) : RepA h S own H v (.d x)
  | nils : RepA h S own H (.slice none 0 0) .nils
  | ref (b g i n : Nat) (cap : Option Nat) (c z : Nat) (fz : Bool) (xs : List AV) (capc off sz : Nat) (ho : own b = .at c) (hb : H[b]? = some (.row z g fz xs)) (hin : i + n ≤ xs.length)
      (hcap : n ≤ capc) (hmax : capc ≤ maxN) (hk : cap = none ∧ xs.length ≤ i + capc ∨ cap = some capc) (hoff : off = i * z ∨ capc = 0) (hs : rowSize h c = some sz) (hsz : (i + capc) * z ≤ sz ∨ capc = 0) :
      RepA h S own H (.slice (some ⟨c, off, none⟩) n capc) (.ref b g i n cap)
  | virt (b g z : Nat) (fz : Bool) (cap : Option Nat) (ho : own b = .virt) (hb : H[b]? = some (.row z g fz [])) (hk : cap = none ∨ cap = some 0) : RepA h S own H (.slice none 0 0) (.ref b g 0 0 cap)
  | stale (v : Value) (b g i n : Nat) (cap : Option Nat) (o : AObj) (hb : H[b]? = some o) (hg : g < o.gen) : RepA h S own H v (.ref b g i n cap)
  | ptr (b g i f c z : Nat) (fz : Bool) (xs : List AV) (ho : own b = .at c) (hb : H[b]? = some (.row z g fz xs)) (hi : i < xs.length) (hf : f < z) :
      RepA h S own H (.pointer (some ⟨c, i * z + f, none⟩)) (.ptr b g i f)
  | stalep (v : Value) (b g i f : Nat) (o : AObj) (hb : H[b]? = some o) (hg : g < o.gen) : RepA h S own H v (.ptr b g i f)
  | cptr (b off : Nat) (cs : List D) (hb : S b) (f : Nat → Value) (hc : ∀ (j : Nat) c, cs[j]? = some c → cellAt h b (off + j) = some (f j) ∧ one (f j) = true)
      (hr : ∀ (j : Nat) c, cs[j]? = some c → Rep h S (f j) c) : RepA h S own H (.pointer (some ⟨b, off, none⟩)) (.cptr cs)
  | fn (f : FuncId) (fs cs : List Value) (first caps : List AV) (hl1 : fs.length = first.length) (hl2 : cs.length = caps.length)
      (h1 : ∀ (j : Nat) v a, fs[j]? = some v → first[j]? = some a → RepA h S own H v a) (h2 : ∀ (j : Nat) v a, cs[j]? = some v → caps[j]? = some a → RepA h S own H v a) :
      RepA h S own H (.func (.func f) fs.toArray cs.toArray) (.fn f first caps)
  | mp (b c : Nat) (es : List (D × AV)) (ho : own b = .at c) (hb : H[b]? = some (.map es)) : RepA h S own H (.map (some c)) (.mp b)
  | it (b c : Nat) (s : ByteArray) (pos : Nat) (ho : own b = .at c) (hb : H[b]? = some (.iter s pos)) : RepA h S own H (.pointer (some ⟨c, 0, none⟩)) (.it b)
  | agg (vs : List Value) (cs : List AV) (hl : vs.length = cs.length) (h1 : ∀ v ∈ vs, one v = true)
      (hr : ∀ (j : Nat) v c, vs[j]? = some v → cs[j]? = some c → RepA h S own H v c) : RepA h S own H (.agg vs.toArray) (.agg cs)
  | tup (vs : List Value) (cs : List AV) (hl : vs.length = cs.length)
      (hr : ∀ (j : Nat) v c, vs[j]? = some v → cs[j]? = some c → RepA h S own H v c) : RepA h S own H (.tuple vs.toArray) (.tup cs)
  | np : RepA h S own H (.pointer none) .np
  | nf : RepA h S own H .nilFunc .nf
  | un (v : Value) : RepA h S own H v .un

/-- the blocks that nobody writes any more -/
def Still (h : Array Obj) (own : Nat → Slot) (H : List AObj) (c : Nat) : Prop :=
  c < h.size ∧ ∀ b o, own b = .at c → H[b]? = some o → o.fz = true

/-- a block of the machine against an abstract one -/
def ObjRel (h : Array Obj) (S : Nat → Prop) (own : Nat → Slot) (H : List AObj) (c : Nat) : AObj → Prop
  | .row z _ _ xs => ∃ cur e, h[c]? = some (.cells cur e (0, 0)) ∧ xs.length * z ≤ cur.size ∧ 0 < z ∧ (∀ x ∈ xs, x.cells.length = z) ∧
      ∀ (i : Nat) x (j : Nat) a, xs[i]? = some x → x.cells[j]? = some a → ∃ v, cur[i * z + j]? = some v ∧ one v = true ∧ RepA h S own H v a
  | .map es => ∃ ents clock, h[c]? = some (.map ents clock) ∧ ents.size = es.length ∧
      ∀ (i : Nat) e k v, ents[i]? = some e → es[i]? = some (k, v) → Rep h S e.key k ∧ RepA h S own H e.val v
  | .iter s pos => h[c]? = some (.stringIter s pos) ∧ s.size ≤ maxN

/-- what the program's own variables hold: block and cells -/
abbrev Globs := List (Nat × List D)

structure RelH (GT : Globs) (h : Array Obj) (own : Nat → Slot) (H : List AObj) : Prop where
  out : ∀ b, H.length ≤ b → own b = .no
  inj : ∀ b b' c, own b = .at c → own b' = .at c → b = b'
  obj : ∀ b c o, own b = .at c → H[b]? = some o → ObjRel h (Still h own H) own H c o
  virt : ∀ b, own b = .virt → ∃ z g fz, H[b]? = some (.row z g fz []) ∧ 0 < z
  glob : ∀ g cs, (g, cs) ∈ GT → RepA h (Still h own H) own H (.pointer (some ⟨g, 0, none⟩)) (.cptr cs)

/-- what may become of a block -/
def Grows (sl sl' : Slot) : AObj → AObj → Prop
  | .row z g _ xs, o' => ∃ fz' xs' g', o' = .row z g' fz' xs' ∧ (g' = g → xs'.length = xs.length ∧ (sl = .no ∨ sl' = sl) ∧ (sl = .virt → xs = [] → xs' = []))
  | .map _, o' => (∃ es', o' = .map es') ∧ (sl = .no ∨ sl' = sl)
  | .iter s _, o' => (∃ p', o' = .iter s p') ∧ (sl = .no ∨ sl' = sl)

/-- what a piece of the run leaves as it was -/
structure Pass (h : Array Obj) (own : Nat → Slot) (H : List AObj) (h' : Array Obj) (own' : Nat → Slot) (H' : List AObj) : Prop where
  size : h.size ≤ h'.size
  still : ∀ c, Still h own H c → Still h' own' H' c ∧ h'[c]? = h[c]?
  ext : ∀ (b : Nat) (o : AObj), H[b]? = some o → ∃ o' : AObj, H'[b]? = some o' ∧ o.gen ≤ o'.gen ∧ Grows (own b) (own' b) o o'
  rows : ∀ c n, rowSize h c = some n → rowSize h' c = some n

theorem Pass.refl (h : Array Obj) (own : Nat → Slot) (H : List AObj) : Pass h own H h own H where
  size := Nat.le_refl _
  still c hc := ⟨hc, rfl⟩
  ext b o ho := by
    refine ⟨o, ho, Nat.le_refl _, ?_⟩
    cases o with
    | row z g fz xs => exact ⟨fz, xs, g, rfl, fun _ => ⟨rfl, .inr rfl, fun _ h => h⟩⟩
    | map es => exact ⟨⟨es, rfl⟩, .inr rfl⟩
    | iter s p => exact ⟨⟨p, rfl⟩, .inr rfl⟩
  rows c n h := h

theorem Pass.trans {h h' h'' : Array Obj} {own own' own'' : Nat → Slot} {H H' H'' : List AObj} (p : Pass h own H h' own' H') (q : Pass h' own' H' h'' own'' H'') :
    Pass h own H h'' own'' H'' where
  size := Nat.le_trans p.size q.size
  still c hc := by
    obtain ⟨h1, h2⟩ := p.still c hc
    obtain ⟨h3, h4⟩ := q.still c h1
    exact ⟨h3, h4.trans h2⟩
  ext b o ho := by
    obtain ⟨o1, h1, g1, r1⟩ := p.ext b o ho
    obtain ⟨o2, h2, g2, r2⟩ := q.ext b o1 h1
    refine ⟨o2, h2, Nat.le_trans g1 g2, ?_⟩
    cases o with
    | row z g fz xs =>
      obtain ⟨fz1, xs1, g1', rfl, k1⟩ := r1
      obtain ⟨fz2, xs2, g2', rfl, k2⟩ := r2
      refine ⟨fz2, xs2, g2', rfl, fun e => ?_⟩
      subst e
      simp only [AObj.gen] at g1 g2
      have e : g1' = g2' := by omega
      subst e
      obtain ⟨a1, a2, a3⟩ := k1 rfl
      obtain ⟨b1, b2, b3⟩ := k2 rfl
      refine ⟨b1.trans a1, ?_, fun hv hx => ?_⟩
      · rcases a2 with a2 | a2
        · exact .inl a2
        · rcases b2 with b2 | b2
          · exact .inl (a2 ▸ b2)
          · exact .inr (b2.trans a2)
      · rcases a2 with a2 | a2
        · rw [a2] at hv; cases hv
        · exact b3 (a2.trans hv) (a3 hv hx)
    | map es =>
      obtain ⟨⟨es1, rfl⟩, k1⟩ := r1
      obtain ⟨⟨es2, rfl⟩, k2⟩ := r2
      refine ⟨⟨es2, rfl⟩, ?_⟩
      rcases k1 with k1 | k1
      · exact .inl k1
      · rcases k2 with k2 | k2
        · exact .inl (k1 ▸ k2)
        · exact .inr (k2.trans k1)
    | iter s p =>
      obtain ⟨⟨es1, rfl⟩, k1⟩ := r1
      obtain ⟨⟨es2, rfl⟩, k2⟩ := r2
      refine ⟨⟨es2, rfl⟩, ?_⟩
      rcases k1 with k1 | k1
      · exact .inl k1
      · rcases k2 with k2 | k2
        · exact .inl (k1 ▸ k2)
        · exact .inr (k2.trans k1)
  rows c n hn := q.rows c n (p.rows c n hn)

theorem cellAt_eq {h h' : Array Obj} {b : Nat} (e : h'[b]? = h[b]?) (o : Nat) : cellAt h' b o = cellAt h b o := by
  unfold cellAt; rw [e]

theorem Rep.pass {h h' : Array Obj} {S S' : Nat → Prop} (hp : ∀ c, S c → S' c ∧ h'[c]? = h[c]?) {v : Value} {x : D} (r : Rep h S v x) : Rep h' S' v x := by
  induction r with
  | int k n hn => exact .int k n hn
  | bool b => exact .bool b
  | str s hs => exact .str s hs
  | fn f => exact .fn f
  | agg vs cs hl h1 _ ih => exact .agg vs cs hl h1 ih
  | nil => exact .nil
  | emp a => exact .emp a
  | slice b off cap z xs n hn hb hcap hmax hz f hc _ ih =>
    exact .slice b off cap z xs n hn (hp b hb).1 hcap hmax hz f (fun i x j c hx hj => by rw [cellAt_eq (hp b hb).2]; exact hc i x j c hx hj) ih

theorem slot_at {sl sl' : Slot} {c : Nat} (k : sl = .no ∨ sl' = sl) (ho : sl = .at c) : sl' = .at c := by
  rcases k with k | k
  · rw [k] at ho; cases ho
  · exact k.trans ho
theorem slot_virt {sl sl' : Slot} (k : sl = .no ∨ sl' = sl) (ho : sl = .virt) : sl' = .virt := by
  rcases k with k | k
  · rw [k] at ho; cases ho
  · exact k.trans ho

theorem RepA.pass {h h' : Array Obj} {own own' : Nat → Slot} {H H' : List AObj} (p : Pass h own H h' own' H') {v : Value} {a : AV}
    (r : RepA h (Still h own H) own H v a) : RepA h' (Still h' own' H') own' H' v a := by
  induction r with
  | d v x hx => exact .d v x (hx.pass p.still)
  | nils => exact .nils
  | ref b g i n cap c z fz xs capc off sz ho hb hin hcap hmax hk hoff hs hsz =>
    obtain ⟨o', hb', hg, fz', xs', g', rfl, k⟩ := p.ext b _ hb
    simp only [AObj.gen] at hg
    by_cases e : g' = g
    · subst e
      obtain ⟨k1, k2, _⟩ := k rfl
      exact .ref b g' i n cap c z fz' xs' capc off sz (slot_at k2 ho) hb' (by omega) hcap hmax (by rw [k1]; exact hk) hoff (p.rows c sz hs) hsz
    · exact .stale _ b g i n cap _ hb' (by simp only [AObj.gen]; omega)
  | virt b g z fz cap ho hb hk =>
    obtain ⟨o', hb', hg, fz', xs', g', rfl, k⟩ := p.ext b _ hb
    simp only [AObj.gen] at hg
    by_cases e : g' = g
    · subst e
      obtain ⟨_, k2, k3⟩ := k rfl
      obtain rfl := k3 ho rfl
      exact .virt b g' z fz' cap (slot_virt k2 ho) hb' hk
    · exact .stale _ b g 0 0 cap _ hb' (by simp only [AObj.gen]; omega)
  | stale v b g i n cap o hb hg =>
    obtain ⟨o', hb', hg', _⟩ := p.ext b _ hb
    exact .stale v b g i n cap o' hb' (by omega)
  | ptr b g i f c z fz xs ho hb hi hf =>
    obtain ⟨o', hb', hg, fz', xs', g', rfl, k⟩ := p.ext b _ hb
    simp only [AObj.gen] at hg
    by_cases e : g' = g
    · subst e
      obtain ⟨k1, k2, _⟩ := k rfl
      exact .ptr b g' i f c z fz' xs' (slot_at k2 ho) hb' (by omega) hf
    · exact .stalep _ b g i f _ hb' (by simp only [AObj.gen]; omega)
  | stalep v b g i f o hb hg =>
    obtain ⟨o', hb', hg', _⟩ := p.ext b _ hb
    exact .stalep v b g i f o' hb' (by omega)
  | cptr b off cs hb f hc hr =>
    exact .cptr b off cs (p.still b hb).1 f (fun j c hj => by rw [cellAt_eq (p.still b hb).2]; exact hc j c hj) (fun j c hj => (hr j c hj).pass p.still)
  | fn f fs cs first caps hl1 hl2 _ _ ih1 ih2 => exact .fn f fs cs first caps hl1 hl2 ih1 ih2
  | mp b c es ho hb =>
    obtain ⟨o', hb', _, ⟨es', rfl⟩, k⟩ := p.ext b _ hb
    exact .mp b c es' (slot_at k ho) hb'
  | it b c s pos ho hb =>
    obtain ⟨o', hb', _, ⟨p', rfl⟩, k⟩ := p.ext b _ hb
    exact .it b c s p' (slot_at k ho) hb'
  | agg vs cs hl h1 _ ih => exact .agg vs cs hl h1 ih
  | tup vs cs hl _ ih => exact .tup vs cs hl ih
  | np => exact .np
  | nf => exact .nf
  | un v => exact .un v

theorem ObjRel.pass {h h' : Array Obj} {own own' : Nat → Slot} {H H' : List AObj} (p : Pass h own H h' own' H') {c : Nat} (e : h'[c]? = h[c]?) {o : AObj}
    (r : ObjRel h (Still h own H) own H c o) : ObjRel h' (Still h' own' H') own' H' c o := by
  cases o with
  | row z g fz xs =>
    obtain ⟨cur, t, hc, hl, hz, hu, hx⟩ := r
    exact ⟨cur, t, e.trans hc, hl, hz, hu, fun i x j a hi hj => let ⟨v, h1, h2, h3⟩ := hx i x j a hi hj; ⟨v, h1, h2, h3.pass p⟩⟩
  | map es =>
    obtain ⟨ents, clock, hc, hl, hx⟩ := r
    exact ⟨ents, clock, e.trans hc, hl, fun i x k v hi hj => let ⟨h1, h2⟩ := hx i x k v hi hj; ⟨h1.pass p.still, h2.pass p⟩⟩
  | iter s pos => exact ⟨e.trans r.1, r.2⟩

theorem ObjRel.lt {h : Array Obj} {S : Nat → Prop} {own : Nat → Slot} {H : List AObj} {c : Nat} {o : AObj} (r : ObjRel h S own H c o) : c < h.size := by
  cases o with
  | row z g fz xs => obtain ⟨cur, t, hc, _⟩ := r; exact (Array.getElem?_eq_some_iff.1 hc).1
  | map es => obtain ⟨ents, clock, hc, _⟩ := r; exact (Array.getElem?_eq_some_iff.1 hc).1
  | iter s pos => exact (Array.getElem?_eq_some_iff.1 r.1).1

theorem RelH.has {GT : Globs} {h : Array Obj} {own : Nat → Slot} {H : List AObj} (r : RelH GT h own H) {b : Nat} (hb : own b ≠ .no) : ∃ o, H[b]? = some o := by
  rcases Nat.lt_or_ge b H.length with hlt | hge
  · exact ⟨H[b], List.getElem?_eq_getElem hlt⟩
  · exact (hb (r.out b hge)).elim
theorem RelH.lt {GT : Globs} {h : Array Obj} {own : Nat → Slot} {H : List AObj} (r : RelH GT h own H) {b c : Nat} (hb : own b = .at c) : c < h.size := by
  obtain ⟨o, ho⟩ := r.has (b := b) (by rw [hb]; simp)
  exact (r.obj b c o hb ho).lt

def upd (own : Nat → Slot) (b : Nat) (s : Slot) : Nat → Slot := fun x => if x = b then s else own x
theorem upd_eq (own : Nat → Slot) (b : Nat) (s : Slot) : upd own b s b = s := by simp [upd]
theorem upd_ne (own : Nat → Slot) {b x : Nat} (s : Slot) (hx : x ≠ b) : upd own b s x = own x := by simp [upd, hx]

theorem push_same {h : Array Obj} {o : Obj} {c : Nat} (hc : c < h.size) : (h.push o)[c]? = h[c]? := by
  rw [Array.getElem?_push_lt hc, Array.getElem?_eq_getElem hc]

/-- a new block of the machine for an abstract one that lies nowhere yet -/
theorem alloc_pass {h : Array Obj} {own : Nat → Slot} {Hx : List AObj} (o : Obj) {b : Nat} (hno : own b = .no) :
    Pass h own Hx (h.push o) (upd own b (.at h.size)) Hx where
  size := by simp
  still c hc := by
    refine ⟨⟨by have := hc.1; simp; omega, fun b' ob ho hb' => ?_⟩, push_same hc.1⟩
    by_cases e : b' = b
    · subst e; rw [upd_eq] at ho; cases ho; exact absurd hc.1 (Nat.lt_irrefl _)
    · rw [upd_ne _ _ e] at ho; exact hc.2 b' ob ho hb'
  ext b' ob ho := by
    refine ⟨ob, ho, Nat.le_refl _, ?_⟩
    have hk : own b' = .no ∨ upd own b (.at h.size) b' = own b' := by
      by_cases e : b' = b
      · subst e; exact .inl hno
      · exact .inr (upd_ne _ _ e)
    cases ob with
    | row z g fz xs => exact ⟨fz, xs, g, rfl, fun _ => ⟨rfl, hk, fun _ h => h⟩⟩
    | map es => exact ⟨⟨es, rfl⟩, hk⟩
    | iter s p => exact ⟨⟨p, rfl⟩, hk⟩
  rows c n hn := by
    unfold rowSize at *
    cases e : h[c]? with
    | none => simp [e] at hn
    | some ob =>
      have hc : c < h.size := (Array.getElem?_eq_some_iff.1 e).1
      rw [push_same hc]; exact hn

theorem alloc_rel {GT : Globs} {h : Array Obj} {own : Nat → Slot} {Hx : List AObj} (hR : RelH GT h own Hx) (o : Obj) {b : Nat} (hno : own b = .no) (ao : AObj) (hb : Hx[b]? = some ao)
    (hnew : ObjRel (h.push o) (Still (h.push o) (upd own b (.at h.size)) Hx) (upd own b (.at h.size)) Hx h.size ao) :
    RelH GT (h.push o) (upd own b (.at h.size)) Hx where
  out x hx := by
    have hlt : b < Hx.length := (List.getElem?_eq_some_iff.1 hb).1
    rw [upd_ne _ _ (by omega)]; exact hR.out x hx
  inj x y c hx hy := by
    by_cases e : x = b <;> by_cases e' : y = b
    · rw [e, e']
    · subst e; rw [upd_eq] at hx; cases hx; rw [upd_ne _ _ e'] at hy; exact absurd (hR.lt hy) (Nat.lt_irrefl _)
    · subst e'; rw [upd_eq] at hy; cases hy; rw [upd_ne _ _ e] at hx; exact absurd (hR.lt hx) (Nat.lt_irrefl _)
    · rw [upd_ne _ _ e] at hx; rw [upd_ne _ _ e'] at hy; exact hR.inj x y c hx hy
  obj x c ob hx ho := by
    by_cases e : x = b
    · subst e; rw [upd_eq] at hx; cases hx; rw [hb] at ho; cases ho; exact hnew
    · rw [upd_ne _ _ e] at hx
      exact (hR.obj x c ob hx ho).pass (alloc_pass o hno) (push_same (hR.lt hx))
  virt x hx := by
    by_cases e : x = b
    · subst e; rw [upd_eq] at hx; cases hx
    · rw [upd_ne _ _ e] at hx; exact hR.virt x hx
  glob g cs hg := (hR.glob g cs hg).pass (alloc_pass o hno)

/-! what no piece of the run touches: the system, the output -/
structure Kp (w w' : World) : Prop where
  os : w'.os = w.os
  output : w'.output = w.output
theorem Kp.refl (w : World) : Kp w w := ⟨rfl, rfl⟩
theorem Kp.trans {w w' w'' : World} (p : Kp w w') (q : Kp w' w'') : Kp w w'' := ⟨q.os.trans p.os, q.output.trans p.output⟩
end Go.Ab

namespace Go.Ab

variable (P : Program)

-- what a type is
def tcells (t : TypeId) : Nat := ((P.info? t).map (·.size)).getD 0
def tbytes (t : TypeId) : Nat := ((P.info? t).map (·.bytes)).getD 0
def tagg (t : TypeId) : Option Bool := match P.underlying t with | some (.struct _) => some true | some (.array _ _) => some true | some _ => some false | none => none
def elemT (t : TypeId) : Option TypeId := match P.underlying t with | some (.slice e) => some e | _ => none
def arrT (t : TypeId) : Option (Nat × TypeId) := match P.underlying t with | some (.array n e) => some (n, e) | _ => none
def mapT (t : TypeId) : Option (TypeId × TypeId) := match P.underlying t with | some (.map k e) => some (k, e) | _ => none
def strT (t : TypeId) : Bool := match P.underlying t with | some .string => true | _ => false
def intT (t : TypeId) : Option IntKind := match P.underlying t with | some (.int k) => some k | _ => none
def finfo (s f : Nat) : Option (Nat × TypeId) := match P.underlying s with | some (.struct fs) => (fs[f]?).map (fun x => (x.offset, x.type)) | _ => none

/-- a constant's, or a zero cell's, abstract value -/
def absV : Value → AV
  | .bool b => .d (.bool b)
  | .int k n => if k.min ≤ n ∧ n ≤ k.max then .d (.int k n) else .un
  | .string s => if s.size ≤ maxN then .d (.str s) else .un
  | .slice none 0 0 => .nils
  | .pointer none => .np
  | .nilFunc => .nf
  | .tuple vs => if vs.size = 0 then .tup [] else .un
  | _ => .un

def allD : List AV → Option (List D)
  | [] => some []
  | .d x :: r => (allD r).map (x :: ·)
  | _ => none
def mkA (cs : List AV) : AV := match allD cs with | some ds => .d (.agg ds) | none => .agg cs
/-- the same, a nil slice being an empty list -/
def allN : List AV → Option (List D)
  | [] => some []
  | .d x :: r => (allN r).map (x :: ·)
  | .nils :: r => (allN r).map (.list [] :: ·)
  | _ => none
def coe : AV → AV
  | .nils => .d (.list [])
  | .agg cs => match allN cs with | some ds => .d (.agg ds) | none => .agg cs
  | a => a
def zeroA : Value → AV
  | .agg cs => mkA (cs.toList.map absV)
  | v => absV v
/-- a constant: a struct's too -/
def constA : Value → AV
  | .agg cs => if (cs.toList.all one) = true then zeroA (.agg cs) else .un
  | v => absV v
/-- a type's zero value -/
def tzero (t : TypeId) : Option AV := ((P.info? t).bind (·.zero)).map zeroA

def isAg : AV → Bool
  | .agg _ => true
  | .d (.agg _) => true
  | _ => false

/-- n cells from cell f on of a value -/
def subA (ag : Bool) (e : AV) (f n : Nat) : Option AV :=
  if ag then
    if f = 0 ∧ e.cells.length = n ∧ isAg e = true then some e
    else if f + n ≤ e.cells.length then some (mkA ((e.cells.drop f).take n)) else none
  else e.cells[f]?
/-- a value with cells put into it from cell f on -/
def putA (e : AV) (f : Nat) (v : AV) : AV :=
  if v.cells.length = e.cells.length then v else mkA (e.cells.take f ++ v.cells ++ e.cells.drop (f + v.cells.length))

structure AS where
  tmps : List AV
  heap : List AObj

-- <native>
-- def lget : List AV → Nat → AV
--   | [], _ => .un
--   | a :: _, 0 => a
--   | _ :: l, n + 1 => lget l n
-- </native>
noncomputable def lget (l : List AV) (n : Nat) : AV :=
  List.rec (motive := fun _ => Nat → AV) (fun _ => AV.un) (fun a _ ih n => Nat.rec (motive := fun _ => AV) a (fun m _ => ih m) n) l n
-- <end>
theorem lget_nil (n : Nat) : lget [] n = .un := rfl
theorem lget_cz (a : AV) (l : List AV) : lget (a :: l) 0 = a := rfl
theorem lget_cs (a : AV) (l : List AV) (n : Nat) : lget (a :: l) (n + 1) = lget l n := rfl
def lset : List AV → Nat → AV → List AV
  | [], _, _ => []
  | _ :: l, 0, v => v :: l
  | a :: l, n + 1, v => a :: lset l n v

def hget (H : List AObj) (b : Nat) : Option AObj := H[b]?
def hset (H : List AObj) (b : Nat) (o : AObj) : List AObj := H.set b o

def glob (GT : Globs) (g : Nat) : AV := match GT.find? (·.1 == g) with | some (_, cs) => .cptr cs | none => .un

variable (GT : Globs)
noncomputable def ev (tm : List AV) : Operand → AV
  | .tmp t => lget tm t
  | .const v => constA v
  | .global g => glob GT g
  | .func f => .d (.fn f)

/-- may be stored: one whole value of known form -/
def okv (H : List AObj) : AV → Bool
  | .un => false
  | .tup _ => false
  | .ref b g _ _ _ => match hget H b with | some o => o.gen == g | none => false
  | .ptr b g _ _ => match hget H b with | some o => o.gen == g | none => false
  | _ => true

def uni (n : Nat) (xs : List D) : Bool := xs.all fun x => x.cells.length == n

def aload (H : List AObj) (t : TypeId) : AV → Option AV
  | .ptr b g i f => match hget H b with
    | some (.row _ g' _ xs) => if g' = g then match xs[i]?, tagg P t with | some e, some ag => if tcells P t = 0 then none else subA ag e f (tcells P t) | _, _ => none else none
    | _ => none
  | .cptr cs => if tcells P t = 0 then none else match tagg P t with
    | some true => if tcells P t ≤ cs.length then some (.d (.agg (cs.take (tcells P t)))) else none
    | some false => cs.head?.map .d
    | none => none
  | _ => none

def afield (H : List AObj) (s f : Nat) (x : AV) : Option AV :=
  match finfo P s f with
  | none => none
  | some (off, ty) =>
    if tcells P ty = 0 then none else
    match x with
    | .ptr b g i k => match hget H b with
      | some (.row z g' _ _) => if g' = g then if k + off < z then some (.ptr b g i (k + off)) else none else none
      | _ => none
    | .cptr cs => some (.cptr (cs.drop off))
    | _ => none

def aindexAddr (H : List AObj) (t : TypeId) (x i : AV) : Option AV :=
  match i with
  | .d (.int _ n) =>
    match elemT P t with
    | some e =>
      match x with
      | .d (.list xs) => if 0 ≤ n then match xs[n.toNat]? with
          | some y => if uni (tcells P e) xs = true then some (.cptr y.cells) else none
          | none => none else none
      | .ref b g i0 m _ => match hget H b with
        | some (.row z g' _ _) => if g' = g then if z = tcells P e then if 0 ≤ n ∧ n < (m : Int) then some (.ptr b g (i0 + n.toNat) 0) else none else none else none
        | _ => none
      | _ => none
    | none =>
      match arrT P t with
      | some (len, e) => if 0 ≤ n ∧ n < (len : Int) then
          match x with
          | .ptr b g k f => match hget H b with
            | some (.row z g' _ _) => if g' = g then if f + n.toNat * tcells P e < z then some (.ptr b g k (f + n.toNat * tcells P e)) else none else none
            | _ => none
          | .cptr cs => some (.cptr (cs.drop (n.toNat * tcells P e)))
          | _ => none
          else none
      | none => none
  | _ => none

def aindex (t : TypeId) (x i : AV) : Option AV :=
  match i with
  | .d (.int _ n) =>
    match x with
    | .d (.str s) => if strT P t then if 0 ≤ n then match s[n.toNat]? with | some b => some (.d (.int .u8 b.toNat)) | none => none else none else none
    | a => match arrT P t with
      | some (len, e) => if 0 ≤ n ∧ n < (len : Int) then match tagg P e with
        | some ag => if isAg a = true ∧ tcells P e ≠ 0 then subA ag a (n.toNat * tcells P e) (tcells P e) else none
        | none => none
        else none
      | none => none
  | _ => none

def abound (d : Int) : Option AV → Option Int
  | none => some d
  | some (.d (.int _ n)) => some n
  | _ => none

def aslice (t : TypeId) (x : AV) (lo hi mx : Option AV) : Option AV :=
  match x with
  | .d (.str s) =>
    if strT P t = true ∧ mx.isNone = true then
      match abound 0 lo, abound s.size hi with
      | some l, some h => if 0 ≤ l ∧ l ≤ h ∧ h ≤ s.size then some (.d (.str (s.extract l.toNat h.toNat))) else none
      | _, _ => none
    else none
  | .d (.list xs) =>
    match elemT P t with
    | some e => match abound 0 lo, abound xs.length hi with
      | some l, some h => if mx.isNone = true then if 0 ≤ l ∧ l ≤ h ∧ h ≤ (xs.length : Int) then if uni (tcells P e) xs = true then some (.d (.list ((xs.take h.toNat).drop l.toNat))) else none else none else none
      | _, _ => none
    | none => none
  | .nils =>
    match elemT P t with
    | some _ => match abound 0 lo, abound 0 hi with
      | some l, some h => if mx.isNone = true then if l = 0 ∧ h = 0 then some .nils else none else none
      | _, _ => none
    | none => none
  | _ => none

/-- past the length, within the row -/
def beyond (len i : Nat) (cap : Option Nat) (h : Nat) : Bool := decide (i + h ≤ len) && (match cap with | none => true | some k => decide (h ≤ k))
/-- slicing a row of the run's own: the heap is asked for the row's width -/
def asliceRef (H : List AObj) (t : TypeId) (x : AV) (lo hi mx : Option AV) : Option AV :=
  match x with
  | .ref b g i n cap =>
    match hget H b with
    | some (.row z g' _ xs) =>
      if g' = g then
      match elemT P t with
      | some e => if tcells P e = z then match abound 0 lo, abound n hi with
        | some l, some h => if 0 ≤ l ∧ l ≤ h ∧ h ≤ (n : Int) then
            match mx with
            | none => some (.ref b g (i + l.toNat) (h.toNat - l.toNat) (cap.map (· - l.toNat)))
            | some (.d (.int _ m)) => if h ≤ m ∧ m ≤ (n : Int) then some (.ref b g (i + l.toNat) (h.toNat - l.toNat) (some (m.toNat - l.toNat))) else none
            | _ => none
          else if mx.isNone = true ∧ 0 ≤ l ∧ l ≤ h ∧ beyond xs.length i cap h.toNat = true then some (.ref b g (i + l.toNat) (h.toNat - l.toNat) (cap.map (· - l.toNat))) else none
        | _, _ => none else none
      | none => none
      else none
    | _ => none
  | _ => none

/-- '==' of two values of a type, cell by cell as the type says: numbers, bools, strings, structs of these -/
def eqFields (rec : TypeId → List D → List D → Option Bool) : List Field → List D → List D → Option Bool
  | [], _, _ => some true
  | f :: fs, xs, ys => if f.name = "_" then none else
    if tcells P f.type = 0 then none else if f.offset + tcells P f.type ≤ xs.length ∧ f.offset + tcells P f.type ≤ ys.length ∧ (tagg P f.type = some true ∨ tcells P f.type = 1) then
    match rec f.type ((xs.drop f.offset).take (tcells P f.type)) ((ys.drop f.offset).take (tcells P f.type)), eqFields rec fs xs ys with
    | some a, some b => some (a && b)
    | _, _ => none
    else none
def eqBy : Nat → TypeId → List D → List D → Option Bool
  | 0, _, _, _ => none
  | n + 1, t, xs, ys => match P.underlying t with
    | some .bool => match xs, ys with
      | [.bool a], [.bool b] => some (a == b)
      | _, _ => none
    | some (.int _) => match xs, ys with
      | [.int k a], [.int k' b] => if k = k' then some (a == b) else none
      | _, _ => none
    | some .string => match xs, ys with
      | [.str a], [.str b] => some (a == b)
      | _, _ => none
    | some (.struct fs) => if P.stoodInHeld t then none else if tcells P t = 0 then none else eqFields P (eqBy n) fs.toList xs ys
    | _ => none
def eqD (t : TypeId) (x y : D) : Option Bool :=
  match tagg P t with
  | some true => match x, y with
    | .agg a, .agg b => eqBy P 100 t a b
    | _, _ => none
  | some false => eqBy P 100 t [x] [y]
  | none => none
/-- nothing of an interface's in the type -/
def eqG (t : TypeId) : Bool := !P.eqGuardType P.depth t

def abin (op : BinOp) (t : TypeId) (x y : AV) : Option AV :=
  match x, y with
  | .d (.int k a), .d (.int k' b) =>
    if k = k' then
      match op with
      | .add => some (.d (.int k (k.wrap (a + b))))
      | .sub => some (.d (.int k (k.wrap (a - b))))
      | .mul => some (.d (.int k (k.wrap (a * b))))
      | .eql => some (.d (.bool (a == b)))
      | .neq => some (.d (.bool (a != b)))
      | .lss => some (.d (.bool (decide (a < b))))
      | .leq => some (.d (.bool (decide (a ≤ b))))
      | .gtr => some (.d (.bool (decide (a > b))))
      | .geq => some (.d (.bool (decide (a ≥ b))))
      | .quo => if b = 0 then none else some (.d (.int k (k.wrap (a.tdiv b))))
      | .rem => if b = 0 then none else if k.min ≤ a.tmod b ∧ a.tmod b ≤ k.max then some (.d (.int k (a.tmod b))) else none
      | .shr => if b < 0 then none else if k.min ≤ a.fdiv (2 ^ (min b.toNat k.bits)) ∧ a.fdiv (2 ^ (min b.toNat k.bits)) ≤ k.max then some (.d (.int k (a.fdiv (2 ^ (min b.toNat k.bits))))) else none
      | .shl => if b < 0 then none else some (.d (.int k (k.wrap (a * 2 ^ (min b.toNat k.bits)))))
      | .and => some (.d (.int k (k.wrap (BitVec.ofInt k.bits a &&& BitVec.ofInt k.bits b).toNat)))
      | .or => some (.d (.int k (k.wrap (BitVec.ofInt k.bits a ||| BitVec.ofInt k.bits b).toNat)))
      | .xor => some (.d (.int k (k.wrap (BitVec.ofInt k.bits a ^^^ BitVec.ofInt k.bits b).toNat)))
      | _ => none
    else none
  | .d (.str a), .d (.str b) =>
    match op with
    | .add => if a.size + b.size ≤ maxN then some (.d (.str (a ++ b))) else none
    | .eql => some (.d (.bool (a == b)))
    | .neq => some (.d (.bool (a != b)))
    | _ => none
  | .d (.bool a), .d (.bool b) =>
    match eqD P t (.bool a) (.bool b), op with
    | some r, .eql => some (.d (.bool r))
    | some r, .neq => some (.d (.bool (!r)))
    | _, _ => none
  | .d (.agg a), .d (.agg b) =>
    if eqG P t = true then
      match eqD P t (.agg a) (.agg b), op with
      | some r, .eql => some (.d (.bool r))
      | some r, .neq => some (.d (.bool (!r)))
      | _, _ => none
    else none
  | _, _ => none

def alen (H : List AObj) (t : TypeId) : AV → Option AV
  | .d (.list xs) => if (elemT P t).isSome = true ∧ xs.length ≤ maxN then some (.d (.int .i64 xs.length)) else none
  | .nils => if (elemT P t).isSome = true then some (.d (.int .i64 0)) else none
  | .ref b g _ n _ => match hget H b with
    | some (.row _ g' _ _) => if g' = g ∧ (elemT P t).isSome = true then some (.d (.int .i64 n)) else none
    | _ => none
  | .d (.str s) => if strT P t = true then some (.d (.int .i64 s.size)) else none
  | .mp b => match hget H b with
    | some (.map es) => if (mapT P t).isSome = true ∧ es.length ≤ maxN then some (.d (.int .i64 es.length)) else none
    | _ => none
  | _ => none

def findE (t : TypeId) (k : D) : List (D × AV) → Option (Option AV)
  | [] => some none
  | (k', v) :: es => match eqD P t k k' with
    | some true => some (some v)
    | some false => findE t k es
    | none => none
/-- two data of numbers, bools and strings that are one -/
def sameS : D → D → Bool
  | .int k a, .int k' b => decide (k = k') && a == b
  | .bool a, .bool b => a == b
  | .str a, .str b => decide (a = b)
  | _, _ => false
def sameL : List D → List D → Bool
  | [], [] => true
  | a :: x, b :: y => sameS a b && sameL x y
  | _, _ => false
def sameD : D → D → Bool
  | .agg a, .agg b => sameL a b
  | a, b => sameS a b
def setE (t : TypeId) (k : D) (v : AV) : List (D × AV) → Option (List (D × AV))
  | [] => some [(k, v)]
  | (k', u) :: es => match eqD P t k k' with
    | some true => if sameD k k' = true then some ((k, v) :: es) else none
    | some false => (setE t k v es).map ((k', u) :: ·)
    | none => none

/-- where a struct's fields lie: offsets and sizes -/
def placesT (t : TypeId) : Option (List (Nat × Nat)) := match P.underlying t with
  | some (.struct fields) => fields.toList.mapM (fun f => (P.info? f.type).map fun i => (f.offset, i.size))
  | some (.array n e) => (P.info? e).map fun i => (List.range n).map fun j => (j * i.size, i.size)
  | _ => none
def fillA (pl : Nat → Option (Nat × Nat)) : List AV → List (Nat × AV) → Option (List AV)
  | cs, [] => some cs
  | cs, (i, v) :: r => match pl i with
    | some (off, size) => if v.cells.length = size ∧ off + size ≤ cs.length then fillA pl (cs.take off ++ v.cells ++ cs.drop (off + size)) r else none
    | none => none

/-- a row given element by element, all of them, in order -/
def rowOf (z : Nat) : Nat → List (Nat × AV) → Option (List AV)
  | _, [] => some []
  | k, (i, v) :: r => if i = k ∧ v.cells.length = z then (rowOf z (k + 1) r).map (v :: ·) else none

/-- a key type of numbers, bools, strings, structs of these -/
def keyT : Nat → TypeId → Bool
  | 0, _ => false
  | n + 1, t => match P.underlying t with
    | some .bool => true
    | some (.int _) => true
    | some .string => true
    | some (.struct fs) => fs.toList.all fun f => f.name != "_" && keyT n f.type && tcells P f.type != 0
    | _ => false
/-- a key that may be asked for -/
def keyOK (t : TypeId) (k : D) : Bool := keyT P 100 t && (eqD P t k k).isSome
/-- elements have cells -/
def elemOK (t : TypeId) : Bool := (match elemT P t with | some e => tcells P e != 0 | none => true) && (match arrT P t with | some (_, e) => tcells P e != 0 | none => true)

/-- a zero value of plain cells -/
def zone (t : TypeId) : Bool := match (P.info? t).bind (·.zero) with | some (.agg cs) => cs.all one | some _ => true | none => false

/-- a zero value that may lie in a row -/
def zeroOK (H : List AObj) (e : TypeId) : Bool := match tzero P e with | some a => a.cells.length == tcells P e && okv H a && a.cells.all (okv H) | none => false

/-- the quiet operations -/
noncomputable def qop (tm : List AV) (H : List AObj) : Op → Option (AV × List AObj)
  | .move x => some (ev GT tm x, [])
  | .assign x => some (ev GT tm x, [])
  | .pick c a b => match ev GT tm c with
    | .d (.bool t) => match ev GT tm a, ev GT tm b with
      | .d (.bool x), .d (.bool y) => some (.d (.bool (if t then x else y)), [])
      | x, y => some (if t then x else y, [])
    | _ => none
  | .box t x => let a := ev GT tm x
    if okv H a = true ∧ a.cells.length = tcells P t ∧ 0 < tcells P t then some (.ptr H.length 0 0 0, [.row (tcells P t) 0 false [a]]) else none
  | .alloc t => match tzero P t with
    | some a => if a.cells.length = tcells P t ∧ 0 < tcells P t ∧ a.cells.all (okv H) = true ∧ okv H a = true then some (.ptr H.length 0 0 0, [.row (tcells P t) 0 false [a]]) else none
    | none => none
  | .load t x => (aload P H t (ev GT tm x)).map (·, [])
  | .fieldAddr s x f => (afield P H s f (ev GT tm x)).map (·, [])
  | .field s x f => match finfo P s f with
    | some (off, ty) => match tagg P ty with
      | some ag => if isAg (ev GT tm x) = true ∧ tcells P ty ≠ 0 then (subA ag (ev GT tm x) off (tcells P ty)).map (·, []) else none
      | none => none
    | none => none
  | .indexAddr t x i => if elemOK P t = true then (aindexAddr P H t (ev GT tm x) (ev GT tm i)).map (·, []) else none
  | .index t x i => (aindex P t (ev GT tm x) (ev GT tm i)).map (·, [])
  | .slice t x lo hi mx => if elemOK P t = true ∧ (mx.isSome = true → hi.isSome = true) then match ev GT tm x with
    | .ref b g i n c => (asliceRef P H t (.ref b g i n c) (lo.map (ev GT tm)) (hi.map (ev GT tm)) (mx.map (ev GT tm))).map (·, [])
    | a => (aslice P t a (lo.map (ev GT tm)) (hi.map (ev GT tm)) (mx.map (ev GT tm))).map (·, [])
    else none
  | .binOp op t x y _ => (abin P op t (ev GT tm x) (ev GT tm y)).map (·, [])
  | .unOp op _ x => match op, ev GT tm x with
    | .not, .d (.bool b) => some (.d (.bool !b), [])
    | _, _ => none
  | .convert s t x => match intT P s, intT P t, ev GT tm x with
    | some _, some k, .d (.int _ n) => some (.d (.int k (k.wrap n)), [])
    | _, _, .d (.str s') => if strT P s = true ∧ strT P t = true then some (.d (.str s'), []) else none
    | _, _, _ => none
  | .makeFunc fn fs cs => match fn with
    | .func f => some (if fs.size + cs.size = 0 then .d (.fn f) else .fn f (fs.toList.map (ev GT tm)) (cs.toList.map (ev GT tm)), [])
    | _ => none
  | .extract x i => match ev GT tm x with
    | .tup vs => (vs[i]?).map (·, [])
    | _ => none
  | .nilCheck x => match ev GT tm x with
    | .ptr b g i f => if okv H (.ptr b g i f) = true then some (.ptr b g i f, []) else none
    | .cptr cs => some (.cptr cs, [])
    | .fn f fs cs => some (.fn f fs cs, [])
    | .d (.fn f) => some (.d (.fn f), [])
    | _ => none
  | .build t parts => match tzero P t with
    | some a => if a.cells.length = tcells P t ∧ isAg a = true ∧ a.cells.all (okv H) = true ∧ okv H a = true ∧ (parts.toList.all fun p => okv H (ev GT tm p.2)) = true then
        match placesT P t with
        | some pl => (fillA (pl[·]?) a.cells (parts.toList.map fun p => (p.1, ev GT tm p.2))).map fun c => (mkA c, [])
        | none => none else none
    | none => none
  | .buildSlice t len parts => match elemT P t with
    | some e => if parts.size = len ∧ 0 < tcells P e ∧ zeroOK P H e = true ∧ len * tcells P e ≤ 16777216 ∧ (parts.toList.all fun p => okv H (ev GT tm p.2)) = true then
        match rowOf (tcells P e) 0 (parts.toList.map fun p => (p.1, ev GT tm p.2)) with
        | some xs => some (.ref H.length 0 0 len (some len), [.row (tcells P e) 0 false xs])
        | none => none else none
    | none => none
  | .makeMap t r => match r with
    | none => some (.mp H.length, [.map []])
    | some x => match ev GT tm x, mapT P t with
      | .d (.int _ _), some _ => some (.mp H.length, [.map []])
      | _, _ => none
  | .range t x => match ev GT tm x with
    | .d (.str s) => if strT P t = true then some (.it H.length, [.iter s 0]) else none
    | _ => none
  | .makeSlice t l c => match elemT P t, ev GT tm l, ev GT tm c with
    | some e, .d (.int _ n), .d (.int _ m) => match tzero P e with
      | some a => if n = m ∧ 0 ≤ n ∧ (tbytes P e : Int) * n ≤ 140737488355328 ∧ a.cells.length = tcells P e ∧ 0 < tcells P e ∧ a.cells.all (okv H) = true ∧ okv H a = true ∧ n ≤ (maxN : Int) then
          some (.ref H.length 0 0 n.toNat (some n.toNat), [.row (tcells P e) 0 false (List.replicate n.toNat a)]) else none
      | none => none
    | _, _, _ => none
  | .lookup t x k ok => match mapT P t with
    | some (kt, et) =>
        match ev GT tm x, ev GT tm k with
        | .mp b, .d kd => match hget H b, tzero P et with
          | some (.map es), some a => if keyOK P kt kd = true ∧ zone P et = true then match findE P kt kd es with
              | some (some v) => some (if ok then .tup [v, .d (.bool true)] else v, [])
              | some none => some (if ok then .tup [a, .d (.bool false)] else a, [])
              | none => none else none
          | _, _ => none
        | _, _ => none
    | none => none
  | .call c => match c.callee with
    | .builtin .len => match c.args.toList, c.argTypes.toList with
      | [x], [t] => (alen P H t (ev GT tm x)).map (·, [])
      | _, _ => none
    | .builtin .max => match c.args.toList with
      | [x, y] => match ev GT tm x, ev GT tm y with
        | .d (.int k a), .d (.int k' b) => if k = k' then some (.d (.int k (if b > a then b else a)), []) else none
        | _, _ => none
      | _ => none
    | .builtin .min => match c.args.toList with
      | [x, y] => match ev GT tm x, ev GT tm y with
        | .d (.int k a), .d (.int k' b) => if k = k' then some (.d (.int k (if b < a then b else a)), []) else none
        | _, _ => none
      | _ => none
    | _ => none
  | _ => none

/-- the elements of what is appended or copied -/
def srcs (H : List AObj) (z : Nat) : AV → Option (List AV)
  | .nils => some []
  | .d (.list xs) => if uni z xs = true then some (xs.map .d) else none
  | .ref b g i n _ => match hget H b with
    | some (.row z' g' _ xs) => if g' = g ∧ z' = z then some ((xs.drop i).take n) else none
    | _ => none
  | .d (.str s) => if z = 1 then some (s.data.toList.map fun b => .d (.int .u8 b.toNat)) else none
  | _ => none

def aappend (H : List AObj) (t : TypeId) (s x : AV) : Option (AV × List AObj) :=
  match elemT P t with
  | none => none
  | some e =>
    match srcs H (tcells P e) x with
    | none => none
    | some ys =>
      if 0 < tcells P e ∧ zeroOK P H e = true then
      match s with
      | .d (.list xs) => if ys = [] then some (.d (.list xs), H) else none
      | .nils => if ys.length * tbytes P e ≤ 140737488355328 ∧ ys.length ≤ 140737488355328 then some (.ref H.length 0 0 ys.length none, H ++ [.row (tcells P e) 0 false ys]) else none
      | .ref b g i n cap =>
        match hget H b with
        | some (.row z g' fz xs) =>
          if g' = g ∧ z = tcells P e ∧ (n + ys.length) * tbytes P e ≤ 140737488355328 ∧ n + ys.length ≤ 140737488355328 then
            match cap with
            | none =>
              if fz = false ∧ i = 0 ∧ n = xs.length then some (.ref b (g + 1) 0 (n + ys.length) none, hset H b (.row z (g + 1) false (xs ++ ys)))
              else if fz = false ∧ i + n + ys.length ≤ xs.length then some (.ref b g i (n + ys.length) none, hset H b (.row z g false (xs.take (i + n) ++ ys ++ xs.drop (i + n + ys.length))))
              else none
            | some k =>
              if k < n + ys.length then some (.ref H.length 0 0 (n + ys.length) none, H ++ [.row z 0 false ((xs.drop i).take n ++ ys)])
              else if fz = false ∧ i + n + ys.length ≤ xs.length then some (.ref b g i (n + ys.length) (some k), hset H b (.row z g false (xs.take (i + n) ++ ys ++ xs.drop (i + n + ys.length))))
              else none
          else none
        | _ => none
      | _ => none
      else none

def acopy (H : List AObj) (t : TypeId) (s x : AV) : Option (AV × List AObj) :=
  match elemT P t with
  | some e => match s, srcs H (tcells P e) x with
    | .ref b g i n _, some ys => match hget H b with
      | some (.row z g' false xs) => if g' = g ∧ z = tcells P e ∧ ys.length ≤ maxN ∧ 0 < z then
          some (.d (.int .i64 (min ys.length n : Nat)), hset H b (.row z g false (xs.take i ++ ys.take (min ys.length n) ++ xs.drop (i + (ys.take (min ys.length n)).length)))) else none
      | _ => none
    | _, _ => none
  | none => none

/-- elements cleared -/
def aclear (H : List AObj) (t : TypeId) (s : AV) : Option (AV × List AObj) :=
  match elemT P t with
  | some e => match s, tzero P e with
    | .ref b g i n _, some a => match hget H b with
      | some (.row z g' false xs) => if g' = g ∧ z = tcells P e ∧ 0 < z ∧ i + n ≤ xs.length ∧ zeroOK P H e = true then
          some (.tup [], hset H b (.row z g false (xs.take i ++ List.replicate n a ++ xs.drop (i + n)))) else none
      | _ => none
    | _, _ => none
  | none => none
/-- a map's turn -/
def amapset (H : List AObj) (t : TypeId) (m k x : AV) : Option (AV × List AObj) :=
  match mapT P t with
  | some (kt, _) => match m, k with
    | .mp b, .d kd => match hget H b with
      | some (.map es) => if keyOK P kt kd = true ∧ okv H x = true then (setE P kt kd x es).map fun es' => (.tup [], hset H b (.map es')) else none
      | _ => none
    | _, _ => none
  | none => none

/-- the loud operations -/
noncomputable def lop (tm : List AV) (H : List AObj) : Op → Option (AV × List AObj)
  | .store t p x => match ev GT tm p with
    | .ptr b g i f => match hget H b with
      | some (.row z g' false xs) =>
        if g' = g then match xs[i]? with
          | some e => if okv H (ev GT tm x) = true ∧ (ev GT tm x).cells.length = tcells P t ∧ f + tcells P t ≤ z ∧ tcells P t ≠ 0 then some (.tup [], hset H b (.row z g false (xs.set i (putA e f (ev GT tm x))))) else none
          | none => none
        else none
      | _ => none
    | _ => none
  | .mapUpdate t m k x => amapset P H t (ev GT tm m) (ev GT tm k) (ev GT tm x)
  | .insert t m k x => amapset P H t (ev GT tm m) (ev GT tm k) (ev GT tm x)
  | .next x true => match ev GT tm x with
    | .it b => match hget H b with
      | some (.iter s pos) => if pos < s.size then some (.tup [.d (.bool true), .d (.int .i64 pos), .d (.int .i32 (Utf8.decode s pos).1)], hset H b (.iter s (pos + (Utf8.decode s pos).2)))
          else some (.tup [.d (.bool false)], H)
      | _ => none
    | _ => none
  | .call c => match c.callee with
    | .builtin .append => match c.args.toList, c.argTypes.toList with
      | [s, x], [t, t'] => if (elemT P t').isSome = true ∨ strT P t' = true then aappend P H t (ev GT tm s) (ev GT tm x) else none
      | _, _ => none
    | .builtin .copy => match c.args.toList, c.argTypes.toList with
      | [s, x], [t, _] => acopy P H t (ev GT tm s) (ev GT tm x)
      | _, _ => none
    | .builtin .clear => match c.args.toList, c.argTypes.toList with
      | [s], [t] => aclear P H t (ev GT tm s)
      | _, _ => none
    | _ => none
  | _ => none

end Go.Ab

namespace Go.Ab

variable {h : Array Obj} {S : Nat → Prop} {own : Nat → Slot} {H : List AObj}

theorem undef_eq : undef = .tuple #[] := rfl

theorem RepA.d_inv {v : Value} {x : D} (r : RepA h S own H v (.d x)) : Rep h S v x := by cases r; assumption
theorem RepA.nils_inv {v : Value} (r : RepA h S own H v .nils) : v = .slice none 0 0 := by cases r; rfl
theorem RepA.np_inv {v : Value} (r : RepA h S own H v .np) : v = .pointer none := by cases r; rfl

theorem RepA.ptr_inv {v : Value} {b g i f z : Nat} {fz : Bool} {xs : List AV} (r : RepA h S own H v (.ptr b g i f)) (hb : H[b]? = some (.row z g fz xs)) :
    ∃ c, own b = .at c ∧ v = .pointer (some ⟨c, i * z + f, none⟩) ∧ i < xs.length ∧ f < z := by
  cases r with
  | ptr _ _ _ _ c z' fz' xs' ho hb' hi hf =>
    rw [hb] at hb'; cases hb'
    exact ⟨c, ho, rfl, hi, hf⟩
  | stalep _ _ _ _ _ o hb' hg =>
    rw [hb] at hb'; cases hb'
    simp [AObj.gen] at hg

theorem RepA.ref_inv {v : Value} {b g i n z : Nat} {cap : Option Nat} {fz : Bool} {xs : List AV} (r : RepA h S own H v (.ref b g i n cap)) (hb : H[b]? = some (.row z g fz xs)) :
    (∃ c capc off sz, own b = .at c ∧ v = .slice (some ⟨c, off, none⟩) n capc ∧ i + n ≤ xs.length ∧ n ≤ capc ∧ capc ≤ maxN ∧ (cap = none ∧ xs.length ≤ i + capc ∨ cap = some capc) ∧
      (off = i * z ∨ capc = 0) ∧ rowSize h c = some sz ∧ ((i + capc) * z ≤ sz ∨ capc = 0)) ∨
    (own b = .virt ∧ v = .slice none 0 0 ∧ i = 0 ∧ n = 0 ∧ xs = [] ∧ (cap = none ∨ cap = some 0)) := by
  cases r with
  | ref _ _ _ _ _ c z' fz' xs' capc off sz ho hb' hin hcap hmax hk hoff hs hsz =>
    rw [hb] at hb'; cases hb'
    exact .inl ⟨c, capc, off, sz, ho, rfl, hin, hcap, hmax, hk, hoff, hs, hsz⟩
  | virt _ _ z' fz' _ ho hb' hk =>
    rw [hb] at hb'; cases hb'
    exact .inr ⟨ho, rfl, rfl, rfl, rfl, hk⟩
  | stale _ _ _ _ _ _ o hb' hg =>
    rw [hb] at hb'; cases hb'
    simp [AObj.gen] at hg

theorem RepA.mp_inv {v : Value} {b : Nat} (r : RepA h S own H v (.mp b)) : ∃ c es, own b = .at c ∧ H[b]? = some (.map es) ∧ v = .map (some c) := by
  cases r with
  | mp _ c es ho hb => exact ⟨c, es, ho, hb, rfl⟩

theorem RepA.it_inv {v : Value} {b : Nat} (r : RepA h S own H v (.it b)) : ∃ c s pos, own b = .at c ∧ H[b]? = some (.iter s pos) ∧ v = .pointer (some ⟨c, 0, none⟩) := by
  cases r with
  | it _ c s pos ho hb => exact ⟨c, s, pos, ho, hb, rfl⟩

theorem RepA.fn_inv {v : Value} {f : FuncId} {first caps : List AV} (r : RepA h S own H v (.fn f first caps)) :
    ∃ fs cs : List Value, v = .func (.func f) fs.toArray cs.toArray ∧ fs.length = first.length ∧ cs.length = caps.length ∧
      (∀ (j : Nat) v a, fs[j]? = some v → first[j]? = some a → RepA h S own H v a) ∧ (∀ (j : Nat) v a, cs[j]? = some v → caps[j]? = some a → RepA h S own H v a) := by
  cases r with
  | fn _ fs cs _ _ hl1 hl2 h1 h2 => exact ⟨fs, cs, rfl, hl1, hl2, h1, h2⟩

theorem RepA.cptr_inv {v : Value} {cs : List D} (r : RepA h S own H v (.cptr cs)) : ∃ b off, ∃ f : Nat → Value, v = .pointer (some ⟨b, off, none⟩) ∧ S b ∧
    (∀ (j : Nat) c, cs[j]? = some c → cellAt h b (off + j) = some (f j) ∧ one (f j) = true) ∧ (∀ (j : Nat) c, cs[j]? = some c → Rep h S (f j) c) := by
  cases r with
  | cptr b off _ hb f hc hr => exact ⟨b, off, f, rfl, hb, hc, hr⟩

/-- a list of values against a list of abstract ones, cell by cell -/
def Cells (h : Array Obj) (S : Nat → Prop) (own : Nat → Slot) (H : List AObj) (vs : List Value) (cs : List AV) : Prop :=
  vs.length = cs.length ∧ ∀ (j : Nat) v a, vs[j]? = some v → cs[j]? = some a → one v = true ∧ RepA h S own H v a

theorem Cells.nil : Cells h S own H [] [] := ⟨rfl, fun j v a hv => by simp at hv⟩
theorem Cells.cons {v : Value} {a : AV} {vs : List Value} {cs : List AV} (h1 : one v = true) (ha : RepA h S own H v a) (hc : Cells h S own H vs cs) : Cells h S own H (v :: vs) (a :: cs) := by
  refine ⟨by simp [hc.1], fun j u b hu hb => ?_⟩
  cases j with
  | zero => simp at hu hb; subst hu; subst hb; exact ⟨h1, ha⟩
  | succ j => simp at hu hb; exact hc.2 j u b hu hb
theorem Cells.head {v : Value} {a : AV} {vs : List Value} {cs : List AV} (hc : Cells h S own H (v :: vs) (a :: cs)) : one v = true ∧ RepA h S own H v a := hc.2 0 v a rfl rfl
theorem Cells.tail {v : Value} {a : AV} {vs : List Value} {cs : List AV} (hc : Cells h S own H (v :: vs) (a :: cs)) : Cells h S own H vs cs :=
  ⟨by simpa using hc.1, fun j u b hu hb => hc.2 (j + 1) u b (by simpa using hu) (by simpa using hb)⟩
theorem Cells.all_one {vs : List Value} {cs : List AV} (hc : Cells h S own H vs cs) : ∀ v ∈ vs, one v = true := by
  intro v hv
  obtain ⟨j, hj, rfl⟩ := List.getElem_of_mem hv
  have hl : j < cs.length := by rw [← hc.1]; exact hj
  exact (hc.2 j _ (cs[j]) (List.getElem?_eq_getElem hj) (List.getElem?_eq_getElem hl)).1
theorem Cells.append {vs us : List Value} {cs ds : List AV} (hc : Cells h S own H vs cs) (hd : Cells h S own H us ds) : Cells h S own H (vs ++ us) (cs ++ ds) := by
  refine ⟨by simp [hc.1, hd.1], fun j v a hv ha => ?_⟩
  rw [List.getElem?_append] at hv ha
  rw [← hc.1] at ha
  split at hv
  · rename_i hlt; rw [if_pos hlt] at ha; exact hc.2 j v a hv ha
  · rename_i hlt; rw [if_neg hlt] at ha; exact hd.2 _ v a hv ha
theorem Cells.take {vs : List Value} {cs : List AV} (n : Nat) (hc : Cells h S own H vs cs) : Cells h S own H (vs.take n) (cs.take n) := by
  refine ⟨by simp [hc.1], fun j v a hv ha => ?_⟩
  rw [List.getElem?_take] at hv ha
  split at hv
  · rename_i hlt; rw [if_pos hlt] at ha; exact hc.2 j v a hv ha
  · cases hv
theorem Cells.drop {vs : List Value} {cs : List AV} (n : Nat) (hc : Cells h S own H vs cs) : Cells h S own H (vs.drop n) (cs.drop n) := by
  refine ⟨by simp [hc.1], fun j v a hv ha => ?_⟩
  rw [List.getElem?_drop] at hv ha
  exact hc.2 _ v a hv ha

theorem allD_spec : ∀ {cs : List AV} {ds : List D}, allD cs = some ds → cs = ds.map .d
  | [], ds, h => by simp [allD] at h; subst h; rfl
  | .d x :: r, ds, h => by
    simp only [allD, Option.map_eq_some_iff] at h
    obtain ⟨ds', h', rfl⟩ := h
    rw [allD_spec h']; rfl
  | .nils :: _, _, h => by simp [allD] at h
  | .ref .. :: _, _, h => by simp [allD] at h
  | .ptr .. :: _, _, h => by simp [allD] at h
  | .cptr .. :: _, _, h => by simp [allD] at h
  | .fn .. :: _, _, h => by simp [allD] at h
  | .mp .. :: _, _, h => by simp [allD] at h
  | .it .. :: _, _, h => by simp [allD] at h
  | .agg .. :: _, _, h => by simp [allD] at h
  | .tup .. :: _, _, h => by simp [allD] at h
  | .np :: _, _, h => by simp [allD] at h
  | .nf :: _, _, h => by simp [allD] at h
  | .un :: _, _, h => by simp [allD] at h

theorem mkA_cells (cs : List AV) : (mkA cs).cells = cs := by
  unfold mkA
  split
  · rename_i ds hd; rw [allD_spec hd]; rfl
  · rfl
theorem mkA_isAg (cs : List AV) : isAg (mkA cs) = true := by
  unfold mkA; split <;> rfl

theorem Rep.of_cells {vs : List Value} {ds : List D} (hc : Cells h S own H vs (ds.map .d)) : Rep h S (.agg vs.toArray) (.agg ds) :=
  .agg vs ds (by simpa using hc.1) hc.all_one fun j v c hv hcj => (hc.2 j v (.d c) hv (by simp [hcj])).2.d_inv

/-- an aggregate out of its cells -/
theorem RepA.of_cells {vs : List Value} {a : AV} (ha : isAg a = true) (hc : Cells h S own H vs a.cells) : RepA h S own H (.agg vs.toArray) a := by
  cases a with
  | agg cs => exact .agg vs cs hc.1 hc.all_one fun j v c hv hcj => (hc.2 j v c hv hcj).2
  | d x =>
    cases x with
    | agg ds => exact .d _ _ (Rep.of_cells hc)
    | _ => simp [isAg] at ha
  | _ => simp [isAg] at ha

theorem Rep.isOne {v : Value} {x : D} (r : Rep h S v x) (hx : isAg (.d x) = false) : Ab.one v = true := by
  cases r <;> first | rfl | simp [isAg] at hx

theorem cells_single {a : AV} (ha : isAg a = false) : a.cells = [a] := by
  cases a with
  | d x => cases x <;> first | rfl | simp [isAg] at ha
  | agg cs => simp [isAg] at ha
  | _ => rfl

theorem val_cells_one {v : Value} (h1 : one v = true) : v.cells = #[v] := by
  cases v <;> first | rfl | simp [one] at h1

theorem okv_one {v : Value} {a : AV} (r : RepA h S own H v a) (hk : okv H a = true) (ha : isAg a = false) : one v = true := by
  cases r with
  | d v x hx => exact hx.isOne ha
  | nils => rfl
  | ref => rfl
  | virt => rfl
  | stale v b g i n cap o hb hg =>
    simp only [okv, hget, hb, beq_iff_eq] at hk
    omega
  | ptr => rfl
  | stalep v b g i f o hb hg =>
    simp only [okv, hget, hb, beq_iff_eq] at hk
    omega
  | cptr => rfl
  | fn => rfl
  | mp => rfl
  | it => rfl
  | agg => simp [isAg] at ha
  | tup => simp [okv] at hk
  | np => rfl
  | nf => rfl
  | un => simp [okv] at hk

/-- the cells of a value that may be stored -/
theorem RepA.to_cells {v : Value} {a : AV} (r : RepA h S own H v a) (hk : okv H a = true) : Cells h S own H v.cells.toList a.cells := by
  cases hg : isAg a with
  | false =>
    have h1 := okv_one r hk hg
    rw [cells_single hg, val_cells_one h1]
    exact .cons h1 r .nil
  | true =>
    cases r with
    | agg vs cs hl h1 hr =>
      refine ⟨by simpa [Value.cells, AV.cells] using hl, fun j u c hu hc => ?_⟩
      simp only [Value.cells] at hu
      have hu' : vs[j]? = some u := by simpa using hu
      exact ⟨h1 u (List.mem_of_getElem? hu'), hr j u c hu' hc⟩
    | d v x hx =>
      cases hx with
      | agg vs cs hl h1 hr =>
        refine ⟨by simpa [Value.cells, AV.cells] using hl, fun j u c hu hc => ?_⟩
        have hu' : vs[j]? = some u := by simpa [Value.cells] using hu
        simp only [AV.cells, List.getElem?_map, Option.map_eq_some_iff] at hc
        obtain ⟨c', hc', rfl⟩ := hc
        exact ⟨h1 u (List.mem_of_getElem? hu'), .d _ _ (hr j u c' hu' hc')⟩
      | _ => simp [isAg] at hg
    | _ => simp [isAg] at hg

/-- a cell is not an aggregate -/
theorem RepA.not_agg {v : Value} {a : AV} (r : RepA h S own H v a) (h1 : one v = true) : isAg a = false := by
  cases r with
  | d v x hx => cases hx <;> first | rfl | simp [one] at h1
  | agg => simp [one] at h1
  | _ => rfl

theorem lget_lset_eq : ∀ (l : List AV) (t : Nat) (v : AV), t < l.length → lget (lset l t v) t = v
  | [], _, _, h => by simp at h
  | _ :: _, 0, _, _ => rfl
  | _ :: l, t + 1, v, h => lget_lset_eq l t v (by simpa using h)
theorem lget_lset_ne : ∀ (l : List AV) (t s : Nat) (v : AV), t ≠ s → lget (lset l t v) s = lget l s
  | [], _, _, _, _ => rfl
  | _ :: _, 0, 0, _, h => by simp at h
  | _ :: _, 0, _ + 1, _, _ => rfl
  | _ :: _, _ + 1, 0, _, _ => rfl
  | _ :: l, t + 1, s + 1, v, h => lget_lset_ne l t s v (by omega)
theorem lset_length : ∀ (l : List AV) (t : Nat) (v : AV), (lset l t v).length = l.length
  | [], _, _ => rfl
  | _ :: _, 0, _ => rfl
  | _ :: l, t + 1, v => by simp [lset, lset_length l t v]

end Go.Ab

namespace Go.Ab

variable {P : Program} {GT : Globs}

/-- value against abstract value, in a world -/
abbrev VR (w : World) (own : Nat → Slot) (H : List AObj) (v : Value) (a : AV) : Prop := RepA w.heap (Still w.heap own H) own H v a

/-- what a quiet operation comes to: the new blocks are lo .. lo + n - 1 -/
def QRes (P : Program) (GT : Globs) (w : World) (own : Nat → Slot) (H : List AObj) (lo n : Nat) (s : Sem Value) (v : AV) : Prop :=
  ∃ cv w' own', s.run P w = .ok cv w' ∧ RelH GT w'.heap own' H ∧ Pass w.heap own H w'.heap own' H ∧ VR w' own' H cv v ∧
    (∀ b, own' b = own b ∨ (lo ≤ b ∧ b < lo + n)) ∧ (∀ b, lo ≤ b → b < lo + n → own' b ≠ .no) ∧ Kp w w'

variable {w : World} {own : Nat → Slot} {H : List AObj} {lo : Nat}

theorem QRes.same {s : Sem Value} {v : AV} (hR : RelH GT w.heap own H) (cv : Value) (hr : s.run P w = .ok cv w) (hv : VR w own H cv v) : QRes P GT w own H lo 0 s v :=
  ⟨cv, w, own, hr, hR, .refl _ _ _, hv, fun _ => .inl rfl, fun b h1 h2 => by omega, .refl _⟩

theorem QRes.new {s : Sem Value} {v : AV} {ao : AObj} (hR : RelH GT w.heap own H) (cv : Value) (o : Obj) (hr : s.run P w = .ok cv { w with heap := w.heap.push o }) (hno : own lo = .no) (hb : H[lo]? = some ao)
    (hnew : ObjRel (w.heap.push o) (Still (w.heap.push o) (upd own lo (.at w.heap.size)) H) (upd own lo (.at w.heap.size)) H w.heap.size ao)
    (hv : RelH GT (w.heap.push o) (upd own lo (.at w.heap.size)) H → VR { w with heap := w.heap.push o } (upd own lo (.at w.heap.size)) H cv v) : QRes P GT w own H lo 1 s v := by
  have hr' := alloc_rel hR o hno ao hb hnew
  refine ⟨cv, _, upd own lo (.at w.heap.size), hr, hr', alloc_pass o hno, hv hr', fun b => ?_, fun b h1 h2 => ?_, ⟨rfl, rfl⟩⟩
  · by_cases e : b = lo
    · right; omega
    · exact .inl (upd_ne _ _ e)
  · obtain rfl : b = lo := by omega
    rw [upd_eq]; simp

-- the machine's own words
theorem run_info {t : TypeId} {i : TypeInfo} (hi : P.info? t = some i) : (typeInfo t).run P w = .ok i w := by
  simp [typeInfo, program, Sem.run, hi]
theorem run_size {t : TypeId} {n : Nat} (hn : tcells P t = n) (h0 : n ≠ 0) : (sizeOf t).run P w = .ok n w := by
  unfold tcells at hn
  cases hi : P.info? t with
  | none => simp [hi] at hn; omega
  | some i => simp [hi] at hn; simp [sizeOf, run_info hi, hn]
theorem run_under {t : TypeId} {d : TypeDesc} (hd : P.underlying t = some d) : (underlying t).run P w = .ok d w := by
  simp [underlying, program, Sem.run, hd]
theorem run_isAgg {t : TypeId} {b : Bool} (hb : tagg P t = some b) : (isAgg t).run P w = .ok b w := by
  unfold tagg at hb
  cases hd : P.underlying t with
  | none => simp [hd] at hb
  | some d =>
    rw [hd] at hb
    simp only [isAgg, Sem.run_bind, run_under hd, Result.andThen_ok]
    cases d <;> simp_all

theorem cell_eq (w : World) (b o : Nat) : w.cell? ⟨b, o, none⟩ = cellAt w.heap b o := rfl
theorem addr_add (b o n : Nat) : (⟨b, o, none⟩ : Addr).add n = ⟨b, o + n, none⟩ := by
  unfold Addr.add; split <;> simp_all

theorem run_loadOne {b o : Nat} {v : Value} (hc : cellAt w.heap b o = some v) : (load ⟨b, o, none⟩).run P w = .ok v w := by
  simp [load, Sem.run, cell_eq, hc]
theorem run_loadMany {b o : Nat} (us : List Value) (hc : ∀ j u, us[j]? = some u → cellAt w.heap b (o + j) = some u) :
    (loadCells ⟨b, o, none⟩ us.length).run P w = .ok us.toArray w :=
  run_loadCells_list w _ us fun j v hv => by rw [addr_add, cell_eq]; exact hc j v hv

/-- the cells of an element of a row -/
theorem elem_cells {h : Array Obj} {S : Nat → Prop} {c z g : Nat} {fz : Bool} {xs : List AV} (ho : ObjRel h S own H c (.row z g fz xs)) {i : Nat} {e : AV} (hi : xs[i]? = some e) :
    e.cells.length = z ∧ ∃ us : List Value, Cells h S own H us e.cells ∧ ∀ j u, us[j]? = some u → cellAt h c (i * z + j) = some u := by
  obtain ⟨cur, t, hc, hl, hz, hu, hx⟩ := ho
  have hel := hu e (List.mem_of_getElem? hi)
  refine ⟨hel, (List.range z).map fun j => (cur[i * z + j]?).getD undef, ⟨by simp [hel], fun j v a hv ha => ?_⟩, fun j u hj => ?_⟩
  · obtain ⟨u, h1, h2, h3⟩ := hx i e j a hi ha
    have : v = u := by
      simp only [List.getElem?_map, Option.map_eq_some_iff] at hv
      obtain ⟨j', hj', rfl⟩ := hv
      rw [List.getElem?_range] at hj'
      · cases hj'; rw [h1]; rfl
      · have := (List.getElem?_eq_some_iff.1 ha).1; omega
    subst this
    exact ⟨h2, h3⟩
  · simp only [List.getElem?_map, Option.map_eq_some_iff] at hj
    obtain ⟨j', hj', rfl⟩ := hj
    have hlt : j < z := by
      have := (List.getElem?_eq_some_iff.1 hj').1; simpa using this
    rw [List.getElem?_range hlt] at hj'
    cases hj'
    obtain ⟨u, h1, _⟩ := hx i e j (e.cells[j]'(by omega)) hi (List.getElem?_eq_getElem (by omega))
    simp [cellAt, hc, h1]

theorem Rep.cells_of {h : Array Obj} {S : Nat → Prop} {cs : List D} {b off : Nat} (f : Nat → Value)
    (hc : ∀ (j : Nat) c, cs[j]? = some c → cellAt h b (off + j) = some (f j) ∧ one (f j) = true) (hr : ∀ (j : Nat) c, cs[j]? = some c → Rep h S (f j) c) :
    ∃ us : List Value, Cells h S own H us (cs.map .d) ∧ ∀ j u, us[j]? = some u → cellAt h b (off + j) = some u := by
  refine ⟨(List.range cs.length).map f, ⟨by simp, fun j v a hv ha => ?_⟩, fun j u hj => ?_⟩
  · simp only [List.getElem?_map, Option.map_eq_some_iff] at hv ha
    obtain ⟨j', hj', rfl⟩ := hv
    obtain ⟨c, hcj, rfl⟩ := ha
    have hlt := (List.getElem?_eq_some_iff.1 hcj).1
    rw [List.getElem?_range hlt] at hj'
    cases hj'
    exact ⟨(hc j c hcj).2, .d _ _ (hr j c hcj)⟩
  · simp only [List.getElem?_map, Option.map_eq_some_iff] at hj
    obtain ⟨j', hj', rfl⟩ := hj
    have hlt : j < cs.length := by have := (List.getElem?_eq_some_iff.1 hj').1; simpa using this
    rw [List.getElem?_range hlt] at hj'
    cases hj'
    exact (hc j _ (List.getElem?_eq_getElem hlt)).1

theorem load_some {t : TypeId} {b o : Nat} {a v : AV} {ag : Bool} {f : Nat} (hag : tagg P t = some ag) (hn : tcells P t ≠ 0) {us : List Value}
    (hcs : Cells w.heap (Still w.heap own H) own H us a.cells) (hus : ∀ j u, us[j]? = some u → cellAt w.heap b (o + j) = some u) (hs : subA ag a f (tcells P t) = some v) :
    ∃ cv, (loadVar t ⟨b, o + f, none⟩).run P w = .ok cv w ∧ VR w own H cv v := by
  cases ag with
  | false =>
    simp only [subA, Bool.false_eq_true, if_false] at hs
    have hlt : f < us.length := by rw [hcs.1]; exact (List.getElem?_eq_some_iff.1 hs).1
    have hu : us[f]? = some us[f] := List.getElem?_eq_getElem hlt
    refine ⟨us[f], ?_, (hcs.2 f _ _ hu hs).2⟩
    simp only [loadVar, Sem.run_bind, run_isAgg hag, Result.andThen_ok, Bool.false_eq_true, if_false]
    exact run_loadOne (hus f _ hu)
  | true =>
    have key : ∀ n, f + n ≤ us.length → (loadCells ⟨b, o + f, none⟩ n).run P w = .ok ((us.drop f).take n).toArray w := by
      intro n hle
      have hl : ((us.drop f).take n).length = n := by simp; omega
      have := run_loadMany (P := P) (w := w) (b := b) (o := o + f) ((us.drop f).take n) (fun j u hj => by
        rw [List.getElem?_take] at hj
        split at hj
        · rw [List.getElem?_drop] at hj
          rw [Nat.add_assoc]; exact hus _ u hj
        · cases hj)
      rwa [hl] at this
    simp only [subA, if_true] at hs
    split at hs
    · rename_i hc
      obtain ⟨rfl, hl, hg⟩ := hc
      cases hs
      refine ⟨.agg us.toArray, ?_, RepA.of_cells hg hcs⟩
      have hk := key (tcells P t) (by rw [hcs.1, hl]; omega)
      have : (us.drop 0).take (tcells P t) = us := by rw [List.drop_zero, List.take_of_length_le (by rw [hcs.1, hl]; omega)]
      rw [this] at hk
      simp [loadVar, run_isAgg hag, run_size rfl hn] at hk ⊢
      simp [hk]
    · split at hs
      · rename_i hle
        cases hs
        refine ⟨.agg ((us.drop f).take (tcells P t)).toArray, ?_, RepA.of_cells (mkA_isAg _) (by rw [mkA_cells]; exact (hcs.drop f).take _)⟩
        have hk := key (tcells P t) (by rw [hcs.1]; exact hle)
        simp [loadVar, run_isAgg hag, run_size rfl hn] at hk ⊢
        simp [hk]
      · cases hs

theorem load_val {Hi : List AObj} (hpre : ∀ b o, hget Hi b = some o → H[b]? = some o) (hR : RelH GT w.heap own H) {t : TypeId} {x v : AV} {cv : Value}
    (hx : VR w own H cv x) (hq : aload P Hi t x = some v) : ∃ u, (Instr.loadAt t cv).run P w = .ok u w ∧ VR w own H u v := by
  unfold aload at hq
  cases x with
  | ptr b g i f =>
    simp only at hq
    split at hq
    · rename_i z g' fz xs hb
      split at hq
      · rename_i hg; subst hg
        split at hq
        · rename_i e ag he hag
          split at hq
          · cases hq
          · rename_i hn
            have hb' := hpre b _ hb
            obtain ⟨c, ho, rfl, hi, hf⟩ := hx.ptr_inv hb'
            obtain ⟨_, us, hcs, hus⟩ := elem_cells (hR.obj b c _ ho hb') he
            obtain ⟨u, hr, hv⟩ := load_some hag hn hcs hus hq
            exact ⟨u, by simp [Instr.loadAt, Instr.sureAddr, hr], hv⟩
        · cases hq
      · cases hq
    · cases hq
  | cptr cs =>
    simp only at hq
    split at hq
    · cases hq
    · rename_i hn
      obtain ⟨b, off, f, rfl, hS, hc, hr⟩ := hx.cptr_inv
      obtain ⟨us, hcs, hus⟩ := Rep.cells_of (own := own) (H := H) f hc hr
      split at hq
      · rename_i hag
        split at hq
        · rename_i hle
          cases hq
          have hl : (us.take (tcells P t)).length = tcells P t := by have := hcs.1; simp at this ⊢; omega
          have hk := run_loadMany (P := P) (w := w) (b := b) (o := off) (us.take (tcells P t)) (fun j u hj => by
            rw [List.getElem?_take] at hj
            split at hj
            · exact hus j u hj
            · cases hj)
          rw [hl] at hk
          refine ⟨.agg (us.take (tcells P t)).toArray, ?_, .d _ _ (Rep.of_cells (own := own) (H := H) (by rw [List.map_take]; exact hcs.take _))⟩
          simp only [Instr.loadAt, Instr.sureAddr, loadVar, Sem.run_bind, Sem.run_pure, run_isAgg hag, run_size rfl hn, Result.andThen_ok, if_true, hk]
        · cases hq
      · rename_i hag
        cases cs with
        | nil => simp at hq
        | cons y ys =>
          simp at hq; subst hq
          obtain ⟨h1, h2⟩ := hc 0 y rfl
          refine ⟨f 0, ?_, .d _ _ (hr 0 y rfl)⟩
          simp only [Instr.loadAt, Instr.sureAddr, loadVar, Sem.run_bind, Sem.run_pure, run_isAgg hag, Result.andThen_ok, Bool.false_eq_true, if_false]
          exact run_loadOne (by simpa using h1)
      · cases hq
  | _ => simp at hq

theorem load_sound {Hi : List AObj} (hpre : ∀ b o, hget Hi b = some o → H[b]? = some o) (hR : RelH GT w.heap own H) {t : TypeId} {x v : AV} {cv : Value}
    (hx : VR w own H cv x) (hq : aload P Hi t x = some v) : QRes P GT w own H lo 0 (Instr.loadAt t cv) v := by
  obtain ⟨u, h1, h2⟩ := load_val hpre hR hx hq
  exact .same hR u h1 h2

end Go.Ab

namespace Go.Ab

variable {P : Program} {GT : Globs} {w : World} {own : Nat → Slot} {H Hi : List AObj} {lo : Nat}

theorem finfo_spec {s f off : Nat} {ty : TypeId} (h : finfo P s f = some (off, ty)) : ∃ fs x, P.underlying s = some (.struct fs) ∧ fs[f]? = some x ∧ x.offset = off ∧ x.type = ty := by
  unfold finfo at h
  split at h
  · rename_i fs hu
    simp only [Option.map_eq_some_iff, Prod.mk.injEq] at h
    obtain ⟨x, hx, h1, h2⟩ := h
    exact ⟨fs, x, hu, hx, h1, h2⟩
  · cases h

theorem run_fieldAt {s f off : Nat} {ty : TypeId} (h : finfo P s f = some (off, ty)) (h0 : tcells P ty ≠ 0) (b o : Nat) :
    (Instr.fieldAt s (.pointer (some ⟨b, o, none⟩)) f).run P w = .ok (.pointer (some ⟨b, o + off, none⟩)) w := by
  obtain ⟨fs, x, hu, hx, rfl, rfl⟩ := finfo_spec h
  simp only [Instr.fieldAt, Sem.run_bind, run_under hu, Result.andThen_ok, hx, Instr.sureAddr, Sem.run_pure, fieldPlace, run_size rfl h0, if_neg h0, addr_add]

theorem drop_cptr {h : Array Obj} {S : Nat → Prop} {b o : Nat} {cs : List D} {f : Nat → Value} (n : Nat) (hS : S b)
    (hc : ∀ (j : Nat) c, cs[j]? = some c → cellAt h b (o + j) = some (f j) ∧ one (f j) = true) (hr : ∀ (j : Nat) c, cs[j]? = some c → Rep h S (f j) c) :
    RepA h S own H (.pointer (some ⟨b, o + n, none⟩)) (.cptr (cs.drop n)) :=
  .cptr b (o + n) (cs.drop n) hS (fun j => f (n + j)) (fun j c hj => by rw [List.getElem?_drop] at hj; rw [Nat.add_assoc]; exact hc _ c hj)
    (fun j c hj => by rw [List.getElem?_drop] at hj; exact hr _ c hj)

theorem field_sound (hpre : ∀ b o, hget Hi b = some o → H[b]? = some o) (hR : RelH GT w.heap own H) {s f : Nat} {x v : AV} {cv : Value}
    (hx : VR w own H cv x) (hq : afield P Hi s f x = some v) : QRes P GT w own H lo 0 (Instr.fieldAt s cv f) v := by
  unfold afield at hq
  split at hq
  · cases hq
  · rename_i off ty hf
    split at hq
    · cases hq
    · rename_i h0
      split at hq
      · rename_i b g i k
        split at hq
        · rename_i z g' fz xs hb
          split at hq
          · rename_i hg; subst hg
            split at hq
            · rename_i hlt
              cases hq
              have hb' := hpre b _ hb
              obtain ⟨c, ho, rfl, hi, _⟩ := hx.ptr_inv hb'
              exact .same hR _ (run_fieldAt hf h0 _ _) (by rw [Nat.add_assoc]; exact .ptr b g' i (k + off) c z fz xs ho hb' hi hlt)
            · cases hq
          · cases hq
        · cases hq
      · rename_i cs
        cases hq
        obtain ⟨b, o, f, rfl, hS, hc, hr⟩ := hx.cptr_inv
        exact .same hR _ (run_fieldAt hf h0 _ _) (drop_cptr off hS hc hr)
      · cases hq

theorem elemT_spec {t e : TypeId} (h : elemT P t = some e) : P.underlying t = some (.slice e) := by
  unfold elemT at h
  split at h
  · rename_i e' hu; cases h; exact hu
  · cases h
theorem arrT_spec {t e : TypeId} {n : Nat} (h : arrT P t = some (n, e)) : P.underlying t = some (.array n e) := by
  unfold arrT at h
  split at h
  · rename_i n' e' hu; cases h; exact hu
  · cases h

theorem run_indexAt_sl {t e : TypeId} (h : elemT P t = some e) (h0 : tcells P e ≠ 0) (b o len cap : Nat) (k : IntKind) (n : Int) (hn : 0 ≤ n ∧ n < (len : Int)) :
    (Instr.indexAt t (.slice (some ⟨b, o, none⟩) len cap) (.int k n)).run P w = .ok (.pointer (some ⟨b, o + n.toNat * tcells P e, none⟩)) w := by
  have hu := elemT_spec h
  simp only [Instr.indexAt, asIntOf, Sem.run_bind, Sem.run_pure, Result.andThen_ok, run_under hu]
  rw [if_pos hn]
  simp only [Sem.run_bind, run_size rfl h0, Result.andThen_ok, Sem.run_pure, addr_add]
theorem run_indexAt_ar {t e : TypeId} {len : Nat} (h : arrT P t = some (len, e)) (h0 : tcells P e ≠ 0) (b o : Nat) (k : IntKind) (n : Int) (hn : 0 ≤ n ∧ n < (len : Int)) :
    (Instr.indexAt t (.pointer (some ⟨b, o, none⟩)) (.int k n)).run P w = .ok (.pointer (some ⟨b, o + n.toNat * tcells P e, none⟩)) w := by
  have hu := arrT_spec h
  simp only [Instr.indexAt, asIntOf, Sem.run_bind, Sem.run_pure, Result.andThen_ok, run_under hu, Instr.sureAddr]
  rw [if_pos hn]
  simp only [Sem.run_bind, run_size rfl h0, Result.andThen_ok, Sem.run_pure, addr_add]

theorem Rep.list_inv {h : Array Obj} {S : Nat → Prop} {v : Value} {xs : List D} (r : Rep h S v (.list xs)) :
    (v = .slice none 0 0 ∧ xs = []) ∨ (∃ b off cap z, ∃ f : Nat → Nat → Value, v = .slice (some ⟨b, off, none⟩) xs.length cap ∧ S b ∧ xs.length ≤ cap ∧ cap ≤ maxN ∧ (∀ x ∈ xs, x.cells.length = z) ∧
      (∀ (i : Nat) x (j : Nat) c, xs[i]? = some x → x.cells[j]? = some c → cellAt h b (off + i * z + j) = some (f i j) ∧ Ab.one (f i j) = true) ∧
      (∀ (i : Nat) x (j : Nat) c, xs[i]? = some x → x.cells[j]? = some c → Rep h S (f i j) c)) ∨ ∃ a, v = .slice (some a) 0 0 ∧ xs = [] := by
  cases r with
  | nil => exact .inl ⟨rfl, rfl⟩
  | emp a => exact .inr (.inr ⟨a, rfl, rfl⟩)
  | slice b off cap z _ n hn hb hcap hmax hz f hc hr => subst hn; exact .inr (.inl ⟨b, off, cap, z, f, rfl, hb, hcap, hmax, hz, hc, hr⟩)

theorem uni_spec {n : Nat} {xs : List D} (h : uni n xs = true) : ∀ x ∈ xs, x.cells.length = n := by
  intro x hx
  simp only [uni, List.all_eq_true, beq_iff_eq] at h
  exact h x hx

theorem index_sound (hpre : ∀ b o, hget Hi b = some o → H[b]? = some o) (hR : RelH GT w.heap own H) {t : TypeId} {x i v : AV} {cx ci : Value}
    (hx : VR w own H cx x) (hi : VR w own H ci i) (hq : aindexAddr P Hi t x i = some v) (hz0 : ∀ e, elemT P t = some e → tcells P e ≠ 0) (hz1 : ∀ n e, arrT P t = some (n, e) → tcells P e ≠ 0) :
    QRes P GT w own H lo 0 (Instr.indexAt t cx ci) v := by
  unfold aindexAddr at hq
  split at hq
  · rename_i k n
    have hi' := hi.d_inv
    cases hi' with
    | int _ _ hn =>
    split at hq
    · rename_i e he
      have h0 := hz0 e he
      split at hq
      · rename_i xs
        split at hq
        · rename_i hn0
          split at hq
          · rename_i y hy
            split at hq
            · rename_i hu
              cases hq
              have hlt := (List.getElem?_eq_some_iff.1 hy).1
              rcases hx.d_inv.list_inv with ⟨_, rfl⟩ | ⟨b, off, cap, z, f, rfl, hS, hcap, hmax, hz, hc, hr⟩ | ⟨_, _, rfl⟩
              rotate_left 2
              · simp at hlt
              · simp at hlt
              · have hyl := uni_spec hu y (List.mem_of_getElem? hy)
                have hzz := hz y (List.mem_of_getElem? hy)
                refine .same hR _ (run_indexAt_sl he h0 b off xs.length cap k n ⟨hn0, by omega⟩) ?_
                rw [← hyl, hzz]
                exact .cptr b _ _ hS (f n.toNat) (fun j c hj => hc _ y j c hy hj) (fun j c hj => hr _ y j c hy hj)
            · cases hq
          · cases hq
        · cases hq
      · rename_i b g i0 m cap
        split at hq
        · rename_i z g' fz xs hb
          split at hq
          · rename_i hg; subst hg
            split at hq
            · rename_i hzz
              split at hq
              · rename_i hnm
                cases hq
                have hb' := hpre b _ hb
                rcases hx.ref_inv hb' with ⟨c, capc, off, sz, ho, rfl, hin, hcap, hmax, hk, hoff, hs, hsz⟩ | ⟨ho, rfl, rfl, rfl, rfl, hk⟩
                · refine .same hR _ (run_indexAt_sl he h0 c off m capc k n hnm) ?_
                  have hoff' : off = i0 * z := by rcases hoff with h | h <;> omega
                  rw [hoff', ← hzz, ← Nat.add_mul]
                  have := RepA.ptr (h := w.heap) (S := Still w.heap own H) b g' (i0 + n.toNat) 0 c z fz xs ho hb' (by omega) (by omega)
                  simpa using this
                · omega
              · cases hq
            · cases hq
          · cases hq
        · cases hq
      · cases hq
    · rename_i he
      split at hq
      · rename_i len e har
        have h0 := hz1 len e har
        split at hq
        · rename_i hnl
          split at hq
          · rename_i b g k' f
            split at hq
            · rename_i z g' fz xs hb
              split at hq
              · rename_i hg; subst hg
                split at hq
                · rename_i hlt
                  cases hq
                  have hb' := hpre b _ hb
                  obtain ⟨c, ho, rfl, hi', _⟩ := hx.ptr_inv hb'
                  exact .same hR _ (run_indexAt_ar har h0 _ _ k n hnl) (by rw [Nat.add_assoc]; exact .ptr b g' k' _ c z fz xs ho hb' hi' hlt)
                · cases hq
              · cases hq
            · cases hq
          · rename_i cs
            cases hq
            obtain ⟨b, o, f, rfl, hS, hc, hr⟩ := hx.cptr_inv
            exact .same hR _ (run_indexAt_ar har h0 _ _ k n hnl) (drop_cptr _ hS hc hr)
          · cases hq
        · cases hq
      · cases hq
  · cases hq

end Go.Ab

namespace Go.Ab

variable {P : Program} {GT : Globs} {w : World} {own : Nat → Slot} {H Hi : List AObj} {lo : Nat}

theorem RepA.ag_inv {h : Array Obj} {S : Nat → Prop} {v : Value} {a : AV} (r : RepA h S own H v a) (ha : isAg a = true) : ∃ us : List Value, v = .agg us.toArray ∧ Cells h S own H us a.cells := by
  have hk : okv H a = true := by
    cases a with
    | d x => rfl
    | agg cs => rfl
    | _ => simp [isAg] at ha
  have hc := r.to_cells hk
  cases r with
  | agg vs cs hl h1 hr => exact ⟨vs, rfl, by simpa [Value.cells] using hc⟩
  | d v x hx =>
    cases hx with
    | agg vs cs hl h1 hr => exact ⟨vs, rfl, by simpa [Value.cells] using hc⟩
    | _ => simp [isAg] at ha
  | _ => simp [isAg] at ha

theorem part_some {t : TypeId} {a v : AV} {ag : Bool} {f : Nat} (hag : tagg P t = some ag) (hn : tcells P t ≠ 0) {us : List Value}
    (hcs : Cells w.heap (Still w.heap own H) own H us a.cells) (hs : subA ag a f (tcells P t) = some v) :
    ∃ cv, (part t us.toArray f).run P w = .ok cv w ∧ VR w own H cv v := by
  cases ag with
  | false =>
    simp only [subA, Bool.false_eq_true, if_false] at hs
    have hlt : f < us.length := by rw [hcs.1]; exact (List.getElem?_eq_some_iff.1 hs).1
    have hu : us[f]? = some us[f] := List.getElem?_eq_getElem hlt
    refine ⟨us[f], ?_, (hcs.2 f _ _ hu hs).2⟩
    simp only [part, Sem.run_bind, run_isAgg hag, Result.andThen_ok, Bool.false_eq_true, if_false, List.getElem?_toArray, hu, Sem.run_pure]
  | true =>
    simp only [subA, if_true] at hs
    have hrun : (part t us.toArray f).run P w = .ok (.agg ((us.drop f).take (tcells P t)).toArray) w := by
      simp only [part, Sem.run_bind, run_isAgg hag, Result.andThen_ok, if_true, run_size rfl hn, Sem.run_pure]
      congr 2
      apply Array.ext'
      rw [Array.toList_extract]
      simp [List.extract]
    split at hs
    · rename_i hc
      obtain ⟨rfl, hl, hg⟩ := hc
      cases hs
      refine ⟨_, hrun, RepA.of_cells hg ?_⟩
      rw [List.drop_zero, List.take_of_length_le (by rw [hcs.1, hl]; omega)]
      exact hcs
    · split at hs
      · cases hs
        exact ⟨_, hrun, RepA.of_cells (mkA_isAg _) (by rw [mkA_cells]; exact (hcs.drop f).take _)⟩
      · cases hs

theorem fieldv_sound (hR : RelH GT w.heap own H) {s f off : Nat} {ty : TypeId} {ag : Bool} {x v : AV} {cv : Value} (hf : finfo P s f = some (off, ty)) (hag : tagg P ty = some ag) (hn : tcells P ty ≠ 0)
    (hx : VR w own H cv x) (hg : isAg x = true) (hq : subA ag x off (tcells P ty) = some v) : QRes P GT w own H lo 0 (Instr.field s cv f) v := by
  obtain ⟨us, rfl, hcs⟩ := hx.ag_inv hg
  obtain ⟨cv, hr, hv⟩ := part_some hag hn hcs hq
  obtain ⟨fs, y, hu, hy, rfl, rfl⟩ := finfo_spec hf
  exact .same hR cv (by simp only [Instr.field, Sem.run_bind, run_under hu, Result.andThen_ok, hy, asAgg, Sem.run_pure, hr]) hv

theorem strT_spec {t : TypeId} (h : strT P t = true) : P.underlying t = some .string := by
  unfold strT at h
  split at h
  · assumption
  · cases h

theorem indexv_sound (hR : RelH GT w.heap own H) {t : TypeId} {x i v : AV} {cx ci : Value}
    (hx : VR w own H cx x) (hi : VR w own H ci i) (hq : aindex P t x i = some v) : QRes P GT w own H lo 0 (Instr.index t cx ci) v := by
  unfold aindex at hq
  split at hq
  · rename_i k n
    cases hi.d_inv with
    | int _ _ hn =>
    split at hq
    · rename_i s
      split at hq
      · rename_i hst
        split at hq
        · rename_i h0
          split at hq
          · rename_i b hb
            cases hq
            cases hx.d_inv with
            | str _ hs =>
            refine .same hR (.int .u8 b.toNat) ?_ (.d _ _ (.int _ _ ⟨?_, ?_⟩))
            · simp only [Instr.index, asIntOf, Sem.run_bind, Sem.run_pure, Result.andThen_ok, run_under (strT_spec hst), if_pos h0, hb]
            · simp [IntKind.min, IntKind.signed]
            · have := b.toNat_lt; simp [IntKind.max, IntKind.signed, IntKind.bits]; omega
          · cases hq
        · cases hq
      · cases hq
    · rename_i a _
      split at hq
      · rename_i len e har
        split at hq
        · rename_i hnl
          split at hq
          · rename_i ag hag
            split at hq
            · rename_i hc
              obtain ⟨hg, hn0⟩ := hc
              obtain ⟨us, rfl, hcs⟩ := hx.ag_inv hg
              obtain ⟨cv, hr, hv⟩ := part_some hag hn0 hcs hq
              refine .same hR cv ?_ hv
              simp only [Instr.index, asIntOf, Sem.run_bind, Sem.run_pure, Result.andThen_ok, run_under (arrT_spec har)]
              rw [if_pos hnl]
              simp only [Sem.run_bind, run_size rfl hn0, Result.andThen_ok, hr]
            · cases hq
          · cases hq
        · cases hq
      · cases hq
  · cases hq

/-- an optional bound -/
def OptR (w : World) (own : Nat → Slot) (H : List AObj) : Option Value → Option AV → Prop
  | none, none => True
  | some v, some a => VR w own H v a
  | _, _ => False

theorem run_bound {x : Option Value} {a : Option AV} (hx : OptR w own H x a) {d n : Int} (ha : abound d a = some n) (y : Nat) (code : BoundsCode) (hn : 0 ≤ n ∧ n ≤ (y : Int)) (hd : x = none → d = n) :
    (x = none ∧ a = none ∧ n = d) ∨ ∃ k, x = some (.int k n) ∧ (Instr.sliceBound (.int k n) y code).run P w = .ok n.toNat w := by
  cases a with
  | none =>
    cases x with
    | none => exact .inl ⟨rfl, rfl, (hd rfl).symm⟩
    | some v => exact hx.elim
  | some a =>
    cases x with
    | none => exact hx.elim
    | some v =>
      right
      unfold abound at ha
      split at ha
      · rename_i e; cases e
      · rename_i k m e
        cases e; cases ha
        have hx' : VR w own H v (.d (.int k n)) := hx
        cases hx'.d_inv with
        | int _ _ _ =>
        exact ⟨k, rfl, by simp [Instr.sliceBound, asIntOf, hn]⟩
      · cases ha

theorem run_bounds {isSl : Bool} {lo hi : Option Value} {alo ahi : Option AV} (hl : OptR w own H lo alo) (hh : OptR w own H hi ahi) {l h : Int} (len cap : Nat) (hlc : len ≤ cap)
    (e1 : abound 0 alo = some l) (e2 : abound len ahi = some h) (hb : 0 ≤ l ∧ l ≤ h ∧ h ≤ (len : Int)) :
    (Instr.sliceBounds isSl len cap lo hi none).run P w = .ok (l.toNat, h.toNat, cap) w := by
  have h1 := run_bound (P := P) hh e2 cap (if isSl then .sliceAcap else .sliceAlen) ⟨by omega, by omega⟩ (fun hx => by
    subst hx; cases ahi with
    | none => simpa [abound] using e2
    | some _ => exact hh.elim)
  have h2 := run_bound (P := P) hl e1 h.toNat .sliceB ⟨by omega, by omega⟩ (fun hx => by
    subst hx; cases alo with
    | none => simpa [abound] using e1
    | some _ => exact hl.elim)
  rcases h1 with ⟨rfl, _, rfl⟩ | ⟨k, rfl, r1⟩ <;> rcases h2 with ⟨rfl, _, rfl⟩ | ⟨k', rfl, r2⟩
  · simp [Instr.sliceBounds]
  · have r2' : (Instr.sliceBound (.int k' l) len .sliceB).run P w = .ok l.toNat w := by simpa using r2
    simp [Instr.sliceBounds, r2']
  · simp [Instr.sliceBounds, r1]
  · simp [Instr.sliceBounds, r1, r2]

theorem run_bounds_far {lo hi : Option Value} {alo ahi : Option AV} (hl : OptR w own H lo alo) (hh : OptR w own H hi ahi) {l h : Int} (len cap : Nat) (hlc : len ≤ cap)
    (e1 : abound 0 alo = some l) (e2 : abound len ahi = some h) (hb : 0 ≤ l ∧ l ≤ h ∧ h ≤ (cap : Int)) :
    (Instr.sliceBounds true len cap lo hi none).run P w = .ok (l.toNat, h.toNat, cap) w := by
  have h1 := run_bound (P := P) hh e2 cap .sliceAcap ⟨by omega, by omega⟩ (fun hx => by
    subst hx; cases ahi with
    | none => simpa [abound] using e2
    | some _ => exact hh.elim)
  have h2 := run_bound (P := P) hl e1 h.toNat .sliceB ⟨by omega, by omega⟩ (fun hx => by
    subst hx; cases alo with
    | none => simpa [abound] using e1
    | some _ => exact hl.elim)
  rcases h1 with ⟨rfl, _, rfl⟩ | ⟨k, rfl, r1⟩ <;> rcases h2 with ⟨rfl, _, rfl⟩ | ⟨k', rfl, r2⟩
  · simp [Instr.sliceBounds]
  · have r2' : (Instr.sliceBound (.int k' l) len .sliceB).run P w = .ok l.toNat w := by simpa using r2
    simp [Instr.sliceBounds, r2']
  · simp [Instr.sliceBounds, r1]
  · simp [Instr.sliceBounds, r1, r2]

theorem run_sliceAt_sl {t e : TypeId} (he : elemT P t = some e) (hn : tcells P e ≠ 0) {b off len cap : Nat} {lo hi mx : Option Value} {l h m : Nat}
    (hr : (Instr.sliceBounds true len cap lo hi mx).run P w = .ok (l, h, m) w) :
    (Instr.sliceAt t (.slice (some ⟨b, off, none⟩) len cap) lo hi mx).run P w = .ok (.slice (some ⟨b, if m = l then off else off + l * tcells P e, none⟩) (h - l) (m - l)) w := by
  have hu := elemT_spec he
  simp only [Instr.sliceAt, Sem.run_bind, run_under hu, Result.andThen_ok, Instr.slice, hr, run_size rfl hn, Sem.run_pure]
  split <;> simp [addr_add]

theorem run_sliceAt_emp {t e : TypeId} (he : elemT P t = some e) (hn : tcells P e ≠ 0) {a : Addr} {lo hi mx : Option Value} (hr : (Instr.sliceBounds true 0 0 lo hi mx).run P w = .ok (0, 0, 0) w) :
    (Instr.sliceAt t (.slice (some a) 0 0) lo hi mx).run P w = .ok (.slice (some a) 0 0) w := by
  have hu := elemT_spec he
  simp only [Instr.sliceAt, Sem.run_bind, run_under hu, Result.andThen_ok, Instr.slice, hr, run_size rfl hn, Sem.run_pure]
  simp

theorem run_sliceAt_nil {t e : TypeId} (he : elemT P t = some e) (hn : tcells P e ≠ 0) {lo hi mx : Option Value} (hr : (Instr.sliceBounds true 0 0 lo hi mx).run P w = .ok (0, 0, 0) w) :
    (Instr.sliceAt t (.slice none 0 0) lo hi mx).run P w = .ok (.slice none 0 0) w := by
  have hu := elemT_spec he
  simp only [Instr.sliceAt, Sem.run_bind, run_under hu, Result.andThen_ok, Instr.slice, hr, run_size rfl hn, Sem.run_pure]
  simp

theorem slice_sound (hR : RelH GT w.heap own H) {t : TypeId} {x v : AV} {cx : Value} {alo ahi amx : Option AV} {clo chi cmx : Option Value}
    (hx : VR w own H cx x) (hl : OptR w own H clo alo) (hh : OptR w own H chi ahi) (hm : OptR w own H cmx amx) (hok : elemOK P t = true) (hq : aslice P t x alo ahi amx = some v) :
    QRes P GT w own H lo 0 (Instr.sliceAt t cx clo chi cmx) v := by
  have hn : ∀ e, elemT P t = some e → tcells P e ≠ 0 := fun e he => by simp [elemOK, he] at hok; exact hok.1
  unfold aslice at hq
  split at hq
  · rename_i s
    split at hq
    · rename_i hc
      obtain ⟨hst, hmx⟩ := hc
      split at hq
      · rename_i l h e1 e2
        split at hq
        · rename_i hb
          cases hq
          cases hx.d_inv with
          | str _ hs =>
          have : cmx = none := by cases cmx <;> cases amx <;> simp_all [OptR]
          subst this
          have hu := strT_spec hst
          refine .same hR (.string (s.extract l.toNat h.toNat)) ?_ (.d _ _ (.str _ ?_))
          · simp only [Instr.sliceAt, Sem.run_bind, run_under hu, Result.andThen_ok, Instr.slice, Option.isSome_none, Bool.false_eq_true, if_false, run_bounds hl hh s.size s.size (Nat.le_refl _) e1 e2 hb, Sem.run_pure]
          · simp; omega
        · cases hq
      · cases hq
    · cases hq
  · rename_i xs
    split at hq
    · rename_i e he
      split at hq
      · rename_i l h e1 e2
        split at hq
        · rename_i hmx
          split at hq
          · rename_i hb
            split at hq
            · rename_i hu
              cases hq
              have : cmx = none := by cases cmx <;> cases amx <;> simp_all [OptR]
              subst this
              rcases hx.d_inv.list_inv with ⟨rfl, rfl⟩ | ⟨b, off, cap, z, f, rfl, hS, hcap, hmax, hz, hc, hr⟩ | ⟨a, rfl, rfl⟩
              rotate_left 2
              · have h0 : l = 0 ∧ h = 0 := by simp at hb; omega
                obtain ⟨rfl, rfl⟩ := h0
                have hb := run_bounds (P := P) (isSl := true) hl hh 0 0 (Nat.le_refl _) e1 e2 ⟨by omega, by omega, by omega⟩
                exact .same hR _ (run_sliceAt_emp he (hn e he) hb) (.d _ _ (.emp a))
              · have h0 : l = 0 ∧ h = 0 := by simp at hb; omega
                obtain ⟨rfl, rfl⟩ := h0
                have hb := run_bounds (P := P) (isSl := true) hl hh 0 0 (Nat.le_refl _) e1 e2 ⟨by omega, by omega, by omega⟩
                exact .same hR _ (run_sliceAt_nil he (hn e he) hb) (.d _ _ .nil)
              · have hb' := run_bounds (P := P) (isSl := true) hl hh xs.length cap hcap e1 e2 hb
                refine .same hR _ (run_sliceAt_sl he (hn e he) hb') (.d _ _ ?_)
                have hzz := uni_spec hu
                refine .slice b _ _ (tcells P e) _ _ ?_ hS (by omega) (by omega) (fun x hx => hzz x (List.mem_of_mem_take (List.mem_of_mem_drop hx))) (fun i j => f (l.toNat + i) j) ?_ ?_
                · simp; omega
                · intro i x j c hx hj
                  rw [List.getElem?_drop, List.getElem?_take] at hx
                  split at hx
                  · rename_i hlt
                    have hxz := hzz x (List.mem_of_getElem? hx)
                    have hxz' := hz x (List.mem_of_getElem? hx)
                    have hne : cap ≠ l.toNat := by have := (List.getElem?_eq_some_iff.1 hx).1; omega
                    rw [if_neg hne]
                    have := hc _ x j c hx hj
                    rw [← hxz', hxz, Nat.add_mul] at this
                    rwa [show off + l.toNat * tcells P e + i * tcells P e = off + (l.toNat * tcells P e + i * tcells P e) by omega]
                  · cases hx
                · intro i x j c hx hj
                  rw [List.getElem?_drop, List.getElem?_take] at hx
                  split at hx
                  · exact hr _ x j c hx hj
                  · cases hx
            · cases hq
          · cases hq
        · cases hq
      · cases hq
    · cases hq
  · split at hq
    · rename_i e he
      split at hq
      · rename_i l h e1 e2
        split at hq
        · rename_i hmx
          split at hq
          · rename_i hb
            cases hq
            obtain ⟨rfl, rfl⟩ := hb
            have : cmx = none := by cases cmx <;> cases amx <;> simp_all [OptR]
            subst this
            obtain rfl := hx.nils_inv
            have hb := run_bounds (P := P) (isSl := true) hl hh 0 0 (Nat.le_refl _) e1 e2 ⟨by omega, by omega, by omega⟩
            exact .same hR _ (run_sliceAt_nil he (hn e he) hb) .nils
          · cases hq
        · cases hq
      · cases hq
    · cases hq
  · cases hq

theorem run_bounds3 {isSl : Bool} {lo hi : Option Value} {alo ahi : Option AV} (hl : OptR w own H lo alo) (hh : OptR w own H hi ahi) {l h m : Int} (len cap : Nat) (k : IntKind)
    (e1 : abound 0 alo = some l) (e2 : abound len ahi = some h) (hb : 0 ≤ l ∧ l ≤ h) (hm : h ≤ m ∧ m ≤ (cap : Int)) (hs : ahi.isSome = true) :
    (Instr.sliceBounds isSl len cap lo hi (some (.int k m))).run P w = .ok (l.toNat, h.toNat, m.toNat) w := by
  have h0 : (Instr.sliceBound (.int k m) cap (if isSl then .slice3Acap else .slice3Alen)).run P w = .ok m.toNat w := by
    simp [Instr.sliceBound, asIntOf, hm.2]; omega
  have h1 := run_bound (P := P) hh e2 m.toNat .slice3B ⟨by omega, by omega⟩ (fun hx => by
    subst hx; cases ahi with
    | none => simp at hs
    | some _ => exact hh.elim)
  have h2 := run_bound (P := P) hl e1 h.toNat .slice3C ⟨by omega, by omega⟩ (fun hx => by
    subst hx; cases alo with
    | none => simpa [abound] using e1
    | some _ => exact hl.elim)
  rcases h1 with ⟨_, rfl, _⟩ | ⟨k', rfl, r1⟩
  · simp at hs
  · rcases h2 with ⟨rfl, _, rfl⟩ | ⟨k2, rfl, r2⟩
    · simp [Instr.sliceBounds, h0, r1]
    · simp [Instr.sliceBounds, h0, r1, r2]

theorem sliceRef_sound (hpre : ∀ b o, hget Hi b = some o → H[b]? = some o) (hR : RelH GT w.heap own H) {t : TypeId} {x v : AV} {cx : Value} {alo ahi amx : Option AV} {clo chi cmx : Option Value}
    (hx : VR w own H cx x) (hl : OptR w own H clo alo) (hh : OptR w own H chi ahi) (hm : OptR w own H cmx amx) (hok : elemOK P t = true) (hs3 : amx.isSome = true → ahi.isSome = true)
    (hq : asliceRef P Hi t x alo ahi amx = some v) : QRes P GT w own H lo 0 (Instr.sliceAt t cx clo chi cmx) v := by
  have hn : ∀ e, elemT P t = some e → tcells P e ≠ 0 := fun e he => by simp [elemOK, he] at hok; exact hok.1
  unfold asliceRef at hq
  split at hq
  · rename_i b g i n cap
    split at hq
    · rename_i z g' fz xs hb
      split at hq
      · rename_i hg; subst hg
        split at hq
        · rename_i e he
          split at hq
          · rename_i hz
            split at hq
            · rename_i l h e1 e2
              split at hq
              · rename_i hb2
                have hb' := hpre b _ hb
                split at hq
                · cases hq
                  have : cmx = none := by cases cmx <;> simp_all [OptR]
                  subst this
                  rcases hx.ref_inv hb' with ⟨c, capc, off, sz, ho, rfl, hin, hcap, hmax, hk, hoff, hs, hsz⟩ | ⟨ho, rfl, rfl, rfl, rfl, hk⟩
                  · refine .same hR _ (run_sliceAt_sl he (hn e he) (run_bounds hl hh n capc hcap e1 e2 hb2)) ?_
                    refine .ref b g' _ _ _ c z fz xs (capc - l.toNat) _ sz ho hb' (by omega) (by omega) (by omega) ?_ ?_ hs ?_
                    · rcases hk with ⟨rfl, hk⟩ | rfl
                      · exact .inl ⟨rfl, by omega⟩
                      · exact .inr rfl
                    · split
                      · right; omega
                      · left
                        have : off = i * z := by rcases hoff with h | h <;> omega
                        rw [this, hz, Nat.add_mul]
                    · rcases hsz with h | h
                      · left; rwa [show i + l.toNat + (capc - l.toNat) = i + capc by omega]
                      · right; omega
                  · have h0 : l = 0 ∧ h = 0 := by omega
                    obtain ⟨rfl, rfl⟩ := h0
                    refine .same hR _ (run_sliceAt_nil he (hn e he) (run_bounds hl hh 0 0 (Nat.le_refl _) e1 e2 hb2)) ?_
                    refine .virt b g' z fz _ ho hb' ?_
                    rcases hk with rfl | rfl
                    · exact .inl rfl
                    · exact .inr rfl
                · rename_i k m
                  split at hq
                  · rename_i hm2
                    cases hq
                    obtain ⟨cm, rfl⟩ : ∃ cm, cmx = some cm := by cases cmx <;> simp_all [OptR]
                    have hm' : VR w own H cm (.d (.int k m)) := hm
                    cases hm'.d_inv with
                    | int _ _ _ =>
                    rcases hx.ref_inv hb' with ⟨c, capc, off, sz, ho, rfl, hin, hcap, hmax, hk, hoff, hs, hsz⟩ | ⟨ho, rfl, rfl, rfl, rfl, hk⟩
                    · refine .same hR _ (run_sliceAt_sl he (hn e he) (run_bounds3 hl hh n capc k e1 e2 ⟨hb2.1, hb2.2.1⟩ ⟨hm2.1, by omega⟩ (hs3 rfl))) ?_
                      refine .ref b g' _ _ _ c z fz xs (m.toNat - l.toNat) _ sz ho hb' (by omega) (by omega) (by omega) (.inr rfl) ?_ hs ?_
                      · split
                        · right; omega
                        · left
                          have : off = i * z := by rcases hoff with h | h <;> omega
                          rw [this, hz, Nat.add_mul]
                      · rcases hsz with h | h
                        · left
                          refine Nat.le_trans (Nat.mul_le_mul_right z ?_) h
                          omega
                        · right; omega
                    · have h0 : l = 0 ∧ h = 0 ∧ m = 0 := by omega
                      obtain ⟨rfl, rfl, rfl⟩ := h0
                      exact .same hR _ (run_sliceAt_nil he (hn e he) (run_bounds3 hl hh 0 0 k e1 e2 ⟨by omega, by omega⟩ ⟨by omega, by omega⟩ (hs3 rfl))) (.virt b g' z fz _ ho hb' (.inr rfl))
                  · cases hq
                · cases hq
              · rename_i hne
                split at hq
                · rename_i hfar
                  cases hq
                  obtain ⟨hm0, h0, hlh, hby⟩ := hfar
                  have hb' := hpre b _ hb
                  have : cmx = none := by cases amx <;> cases cmx <;> simp_all [OptR]
                  subst this
                  simp only [beyond, Bool.and_eq_true, decide_eq_true_eq] at hby
                  rcases hx.ref_inv hb' with ⟨c, capc, off, sz, ho, rfl, hin, hcap, hmax, hk, hoff, hs, hsz⟩ | ⟨ho, rfl, rfl, rfl, rfl, hk⟩
                  · have hcapc : h.toNat ≤ capc := by
                      rcases hk with ⟨rfl, hk⟩ | rfl
                      · have := hby.1; omega
                      · simpa using hby.2
                    refine .same hR _ (run_sliceAt_sl he (hn e he) (run_bounds_far hl hh n capc hcap e1 e2 ⟨h0, hlh, by omega⟩)) ?_
                    refine .ref b g' _ _ _ c z fz xs (capc - l.toNat) _ sz ho hb' (by have := hby.1; omega) (by omega) (by omega) ?_ ?_ hs ?_
                    · rcases hk with ⟨rfl, hk⟩ | rfl
                      · exact .inl ⟨rfl, by omega⟩
                      · exact .inr rfl
                    · split
                      · right; omega
                      · left
                        have : off = i * z := by rcases hoff with h | h <;> omega
                        rw [this, hz, Nat.add_mul]
                    · rcases hsz with h | h
                      · left; rwa [show i + l.toNat + (capc - l.toNat) = i + capc by omega]
                      · right; omega
                  · have := hby.1
                    simp at this
                    omega
                · cases hq
            · cases hq
          · cases hq
        · cases hq
      · cases hq
    · cases hq
  · cases hq

end Go.Ab

namespace Go.Ab

variable {P : Program} {GT : Globs} {w : World} {own : Nat → Slot} {H Hi : List AObj} {lo : Nat}

abbrev CD (w : World) (own : Nat → Slot) (H : List AObj) (us : List Value) (xs : List D) : Prop := Cells w.heap (Still w.heap own H) own H us (xs.map .d)

theorem CD.part {us : List Value} {xs : List D} (h : CD w own H us xs) (n m : Nat) : CD w own H ((us.drop n).take m) ((xs.drop n).take m) := by
  have := (Cells.drop n h).take m
  rwa [← List.map_drop, ← List.map_take] at this
theorem CD.single {us : List Value} {x : D} (h : CD w own H us [x]) : ∃ v, us = [v] ∧ one v = true ∧ Rep w.heap (Still w.heap own H) v x := by
  match us, h with
  | [], h => simpa using h.1
  | [v], h => exact ⟨v, rfl, (Cells.head h).1, (Cells.head h).2.d_inv⟩
  | _ :: _ :: _, h => have := h.1; simp at this

/-- the value of a type with these cells -/
def Formed (P : Program) (t : TypeId) (x : Value) (us : List Value) : Prop := (tagg P t = some true ∧ x = .agg us.toArray) ∨ (tagg P t = some false ∧ us = [x])

def aggD : TypeDesc → Bool
  | .struct _ => true
  | .array _ _ => true
  | _ => false
theorem tagg_cases {t : TypeId} {d : TypeDesc} (h : P.underlying t = some d) : tagg P t = some (aggD d) := by
  unfold tagg; rw [h]; cases d <;> rfl

theorem run_part {t : TypeId} (hn : tcells P t ≠ 0) (hd : (P.underlying t).isSome = true) {us : List Value} {off : Nat} (hl : ((us.drop off).take (tcells P t)).length = tcells P t) (h1 : tagg P t = some false → tcells P t = 1) :
    ∃ x, (part t us.toArray off).run P w = .ok x w ∧ Formed P t x ((us.drop off).take (tcells P t)) := by
  obtain ⟨d, hd⟩ := Option.isSome_iff_exists.1 hd
  cases hag : tagg P t with
  | none => rw [tagg_cases hd] at hag; cases hag
  | some ag =>
    cases ag with
    | true =>
      refine ⟨.agg ((us.drop off).take (tcells P t)).toArray, ?_, .inl ⟨hag, rfl⟩⟩
      simp only [part, Sem.run_bind, run_isAgg hag, Result.andThen_ok, if_true, run_size rfl hn, Sem.run_pure]
      congr 2
      apply Array.ext'
      rw [Array.toList_extract]
      simp [List.extract]
    | false =>
      have h1' := h1 hag
      rw [h1'] at hl ⊢
      have hlt : off < us.length := by simp at hl; omega
      refine ⟨us[off], ?_, .inr ⟨hag, ?_⟩⟩
      · simp only [part, Sem.run_bind, run_isAgg hag, Result.andThen_ok, Bool.false_eq_true, if_false, List.getElem?_toArray, List.getElem?_eq_getElem hlt, Sem.run_pure]
      · rw [List.drop_eq_getElem_cons hlt, List.take_succ_cons, List.take_zero]

theorem eqBy_some {n : Nat} {t : TypeId} {xs ys : List D} {r : Bool} (h : eqBy P n t xs ys = some r) : (P.underlying t).isSome = true := by
  cases n with
  | zero => simp [eqBy] at h
  | succ n =>
    unfold eqBy at h
    split at h
    all_goals first | (rename_i hu; rw [hu]; rfl) | cases h

theorem eqBy_sound : ∀ (n d : Nat) (t : TypeId) (xs ys : List D) (r : Bool) (us vs : List Value) (x y : Value), n ≤ d → eqBy P n t xs ys = some r →
    CD w own H us xs → CD w own H vs ys → Formed P t x us → Formed P t y vs → (Op.equalIn d t x y).run P w = .ok r w := by
  intro n
  induction n with
  | zero => intro d t xs ys r us vs x y _ h; simp [eqBy] at h
  | succ n ih =>
    intro d t xs ys r us vs x y hd h hu hv hx hy
    obtain ⟨d, rfl⟩ : ∃ m, d = m + 1 := ⟨d - 1, by omega⟩
    unfold eqBy at h
    split at h
    · rename_i hun
      have hag := tagg_cases hun
      split at h
      · rename_i a b
        cases h
        obtain ⟨u, rfl, _, ru⟩ := hu.single
        obtain ⟨v, rfl, _, rv⟩ := hv.single
        rcases hx with ⟨h, _⟩ | ⟨_, hx⟩
        · rw [hag] at h; cases h
        rcases hy with ⟨h, _⟩ | ⟨_, hy⟩
        · rw [hag] at h; cases h
        cases hx; cases hy; cases ru; cases rv
        simp only [Op.equalIn, Sem.run_bind, run_under hun, Result.andThen_ok, Sem.run_pure]
      · cases h
    · rename_i k0 hun
      have hag := tagg_cases hun
      split at h
      · rename_i k a k' b
        split at h
        · rename_i hk
          cases h
          obtain ⟨u, rfl, _, ru⟩ := hu.single
          obtain ⟨v, rfl, _, rv⟩ := hv.single
          rcases hx with ⟨h, _⟩ | ⟨_, hx⟩
          · rw [hag] at h; cases h
          rcases hy with ⟨h, _⟩ | ⟨_, hy⟩
          · rw [hag] at h; cases h
          cases hx; cases hy; cases ru; cases rv
          simp only [Op.equalIn, Sem.run_bind, run_under hun, Result.andThen_ok, if_pos hk, Sem.run_pure]
        · cases h
      · cases h
    · rename_i hun
      have hag := tagg_cases hun
      split at h
      · rename_i a b
        cases h
        obtain ⟨u, rfl, _, ru⟩ := hu.single
        obtain ⟨v, rfl, _, rv⟩ := hv.single
        rcases hx with ⟨h, _⟩ | ⟨_, hx⟩
        · rw [hag] at h; cases h
        rcases hy with ⟨h, _⟩ | ⟨_, hy⟩
        · rw [hag] at h; cases h
        cases hx; cases hy; cases ru; cases rv
        simp only [Op.equalIn, Sem.run_bind, run_under hun, Result.andThen_ok, Sem.run_pure]
      · cases h
    · rename_i fs hun
      have hag := tagg_cases hun
      split at h
      · cases h
      · rename_i hst
        split at h
        · cases h
        · rcases hx with ⟨_, rfl⟩ | ⟨h', _⟩
          case inr => rw [hag] at h'; cases h'
          rcases hy with ⟨_, rfl⟩ | ⟨h', _⟩
          case inr => rw [hag] at h'; cases h'
          have hf : P.fieldsOf t = fs := by simp [Program.fieldsOf, hun]
          rw [run_equalIn_struct w d t _ _ (by rw [hf]; exact hun) (by simpa using hst), hf]
          clear hf hun hag hst
          generalize fs.toList = l at h
          induction l generalizing r with
          | nil => simp [eqFields] at h; subst h; simp [Op.eqFields]
          | cons f l ihl =>
            simp only [eqFields] at h
            split at h
            · cases h
            · rename_i hname
              split at h
              · cases h
              · rename_i h0
                split at h
                · rename_i hc
                  obtain ⟨hc1, hc2, hc3⟩ := hc
                  split at h
                  · rename_i a b ha hb
                    cases h
                    have lu : us.length = xs.length := by simpa using hu.1
                    have lv : vs.length = ys.length := by simpa using hv.1
                    have h1 : tagg P f.type = some false → tcells P f.type = 1 := by
                      intro hag; rcases hc3 with h | h
                      · rw [hag] at h; cases h
                      · exact h
                    obtain ⟨x', px, fx⟩ := run_part (P := P) (w := w) h0 (eqBy_some ha) (us := us) (off := f.offset) (by simp; omega) h1
                    obtain ⟨y', py, fy⟩ := run_part (P := P) (w := w) h0 (eqBy_some ha) (us := vs) (off := f.offset) (by simp; omega) h1
                    have he := ih d f.type _ _ a _ _ x' y' (by omega) ha (hu.part _ _) (hv.part _ _) fx fy
                    simp only [Op.eqFields, ne_eq, hname, not_false_eq_true, if_true, Sem.run_bind, px, py, he, Result.andThen_ok]
                    cases a with
                    | false => simp
                    | true => simpa using ihl b hb
                  · cases h
                · cases h
    · cases h

end Go.Ab

namespace Go.Ab

variable {P : Program} {GT : Globs} {w : World} {own : Nat → Slot} {H Hi : List AObj} {lo : Nat}

theorem wrap_range (k : IntKind) (n : Int) : k.min ≤ k.wrap n ∧ k.wrap n ≤ k.max := by
  cases k <;> simp [IntKind.min, IntKind.max, IntKind.wrap, IntKind.signed, IntKind.bits] <;> (try split) <;> omega

theorem RepA.int {h : Array Obj} {S : Nat → Prop} (k : IntKind) (n : Int) (hn : k.min ≤ n ∧ n ≤ k.max) : RepA h S own H (.int k n) (.d (.int k n)) := .d _ _ (.int k n hn)
theorem RepA.bool {h : Array Obj} {S : Nat → Prop} (b : Bool) : RepA h S own H (.bool b) (.d (.bool b)) := .d _ _ (.bool b)

theorem isAg_cells {us : List Value} {a : List D} (h : Cells w.heap (Still w.heap own H) own H us (AV.d (.agg a)).cells) : CD w own H us a := h

theorem Rep.cell1 {v : Value} {x : D} (r : Rep w.heap (Still w.heap own H) v x) (h1 : one v = true) : CD w own H [v] [x] := .cons h1 (.d _ _ r) .nil

theorem eqD_sound {t : TypeId} {x y : D} {r : Bool} {cx cy : Value} (h : eqD P t x y = some r) (hx : Rep w.heap (Still w.heap own H) cx x) (hy : Rep w.heap (Still w.heap own H) cy y) :
    (Op.equal t cx cy).run P w = .ok r w := by
  unfold eqD at h
  split at h
  · rename_i hag
    split at h
    · rename_i a b
      obtain ⟨us, rfl, hu⟩ := (RepA.d (own := own) (H := H) _ _ hx).ag_inv rfl
      obtain ⟨vs, rfl, hv⟩ := (RepA.d (own := own) (H := H) _ _ hy).ag_inv rfl
      exact eqBy_sound 100 10000 t a b r us vs _ _ (by omega) h hu hv (.inl ⟨hag, rfl⟩) (.inl ⟨hag, rfl⟩)
    · cases h
  · rename_i hag
    have hs := eqBy_some h
    obtain ⟨d0, hd0⟩ := Option.isSome_iff_exists.1 hs
    have key : isAg (.d x) = false ∧ isAg (.d y) = false := by
      unfold eqBy at h
      rw [hd0] at h
      rw [tagg_cases hd0] at hag
      cases d0 <;> simp [aggD] at hag h <;> cases x <;> cases y <;> simp_all [isAg]
    have h1 := hx.isOne key.1
    have h2 := hy.isOne key.2
    exact eqBy_sound (own := own) (H := H) 100 10000 t [x] [y] r [cx] [cy] _ _ (by omega) h (hx.cell1 h1) (hy.cell1 h2) (.inr ⟨hag, rfl⟩) (.inr ⟨hag, rfl⟩)
  · cases h

theorem bin_sound (hR : RelH GT w.heap own H) {op : BinOp} {t : TypeId} {x y : Operand} {ax ay v : AV} {cx cy : Value}
    (hx : VR w own H cx ax) (hy : VR w own H cy ay) (hq : abin P op t ax ay = some v) :
    QRes P GT w own H lo 0 (do eqGuard op t x y cx cy; binOp op t cx cy) v := by
  unfold abin at hq
  split at hq
  · rename_i k a k' b
    split at hq
    · rename_i hk
      subst hk
      cases hx.d_inv with
      | int _ _ ha =>
      cases hy.d_inv with
      | int _ _ hb =>
      have div : ∀ (n : Int), k.min ≤ n ∧ n ≤ k.max → v = .d (.int k n) → (∀ w : World, (do eqGuard op t x y (.int k a) (.int k b); binOp op t (.int k a) (.int k b) : Sem Value).run P w = .ok (.int k n) w) →
          QRes P GT w own H lo 0 (do eqGuard op t x y (.int k a) (.int k b); binOp op t (.int k a) (.int k b)) v := by
        rintro n hn rfl hrun
        exact .same hR _ (hrun w) (.int k n hn)
      by_cases h1 : op = .quo
      · subst h1
        simp only at hq
        split at hq
        · cases hq
        · rename_i h0
          exact div _ (wrap_range k _) (by cases hq; rfl) fun w => by simp [eqGuard, binOp, Op.intDiv, h0]
      by_cases h2 : op = .rem
      · subst h2
        simp only at hq
        split at hq
        · cases hq
        · rename_i h0
          split at hq
          · rename_i hr
            exact div _ hr (by cases hq; rfl) fun w => by simp [eqGuard, binOp, Op.intDiv, h0]
          · cases hq
      by_cases h3 : op = .shr
      · subst h3
        simp only at hq
        split at hq
        · cases hq
        · rename_i h0
          split at hq
          · rename_i hr
            exact div _ hr (by cases hq; rfl) fun w => by simp [eqGuard, binOp, Op.shift, h0]
          · cases hq
      by_cases h4 : op = .shl
      · subst h4
        simp only at hq
        split at hq
        · cases hq
        · rename_i h0
          exact div _ (wrap_range k _) (by cases hq; rfl) fun w => by simp [eqGuard, binOp, Op.shift, h0]
      by_cases h5 : op = .and
      · subst h5
        exact div _ (wrap_range k _) (by cases hq; rfl) fun w => by simp [eqGuard, binOp, Op.intBits]
      by_cases h6 : op = .or
      · subst h6
        exact div _ (wrap_range k _) (by cases hq; rfl) fun w => by simp [eqGuard, binOp, Op.intBits]
      by_cases h7 : op = .xor
      · subst h7
        exact div _ (wrap_range k _) (by cases hq; rfl) fun w => by simp [eqGuard, binOp, Op.intBits]
      clear div
      split at hq <;> first
        | (cases hq; done)
        | contradiction
        | (cases hq
           refine .same hR _ (by simp [eqGuard, binOp, Op.intArith, Op.intCmp]; rfl) ?_
           first | exact .int k _ (wrap_range k _) | exact .bool _)
    · cases hq
  · rename_i a b
    cases hx.d_inv with
    | str _ ha =>
    cases hy.d_inv with
    | str _ hb =>
    split at hq
    · split at hq
      · rename_i hl
        cases hq
        refine .same hR (.string (a ++ b)) ?_ (.d _ _ (.str _ (by simp; omega)))
        simp only [eqGuard, binOp, Op.stringOp]
        simp
        unfold maxN at hl
        omega
      · cases hq
    · cases hq
      exact .same hR _ (by simp [eqGuard, binOp, Op.stringOp]; rfl) (by rw [beq_toListBytes]; exact .bool _)
    · cases hq
      refine .same hR (.bool (a != b)) ?_ (.bool _)
      simp [eqGuard, binOp, Op.stringOp, bne, beq_toListBytes]
    · cases hq
  · rename_i a b
    cases hx.d_inv with
    | bool _ =>
    cases hy.d_inv with
    | bool _ =>
    have key : ∀ r, eqD P t (.bool a) (.bool b) = some r → (Op.equal t (.bool a) (.bool b)).run P w = .ok r w := fun r hr => eqD_sound hr hx.d_inv hy.d_inv
    split at hq
    · rename_i r hr
      cases hq
      refine .same hR (.bool r) ?_ (.bool _)
      simp [eqGuard, binOp, key r hr]
    · rename_i r hr
      cases hq
      refine .same hR (.bool (!r)) ?_ (.bool _)
      simp [eqGuard, binOp, key r hr]
    · cases hq
  · rename_i a b
    split at hq
    · rename_i hg
      obtain ⟨us, rfl, hu⟩ := hx.ag_inv rfl
      obtain ⟨vs, rfl, hv⟩ := hy.ag_inv rfl
      have key : ∀ r, eqD P t (.agg a) (.agg b) = some r → (Op.equal t (.agg us.toArray) (.agg vs.toArray)).run P w = .ok r w := fun r hr => eqD_sound hr hx.d_inv hy.d_inv
      have hguard : ∀ x y, (eqGuard op t x y (.agg us.toArray) (.agg vs.toArray)).run P w = .ok () w := by
        intro x y
        have hg' : P.eqGuardType P.depth t = false := by simpa [eqG] using hg
        unfold eqGuard
        cases op <;> simp [program, Sem.run, hg']
      split at hq
      · rename_i r hr
        cases hq
        refine .same hR (.bool r) ?_ (.bool _)
        simp [hguard, binOp, key r hr]
      · rename_i r hr
        cases hq
        refine .same hR (.bool (!r)) ?_ (.bool _)
        simp [hguard, binOp, key r hr]
      · cases hq
    · cases hq
  · cases hq

end Go.Ab

namespace Go.Ab

variable {P : Program} {GT : Globs} {w : World} {own : Nat → Slot} {H Hi : List AObj} {lo : Nat}

theorem flat_get {z : Nat} : ∀ {xs : List AV}, (∀ x ∈ xs, x.cells.length = z) → ∀ {i : Nat} {x : AV} {j : Nat}, xs[i]? = some x → j < z → (xs.flatMap AV.cells)[i * z + j]? = x.cells[j]?
  | [], _, i, x, j, h, _ => by simp at h
  | y :: ys, hz, 0, x, j, h, hj => by
    simp at h; subst h
    have hy := hz y (by simp)
    simp only [List.flatMap_cons, Nat.zero_mul, Nat.zero_add]
    rw [List.getElem?_append_left (by omega)]
  | y :: ys, hz, i + 1, x, j, h, hj => by
    have hy := hz y (by simp)
    have ih := flat_get (xs := ys) (fun u hu => hz u (by simp [hu])) (i := i) (x := x) (j := j) (by simpa using h) hj
    simp only [List.flatMap_cons]
    rw [List.getElem?_append_right (by rw [hy, Nat.add_mul]; omega), hy, ← ih]
    congr 1
    rw [Nat.add_mul]; omega
theorem flat_len {z : Nat} : ∀ {xs : List AV}, (∀ x ∈ xs, x.cells.length = z) → (xs.flatMap AV.cells).length = xs.length * z
  | [], _ => by simp
  | y :: ys, hz => by
    have hy := hz y (by simp)
    have ih := flat_len (xs := ys) (fun u hu => hz u (by simp [hu]))
    simp only [List.flatMap_cons, List.length_append, List.length_cons, hy, ih, Nat.add_mul]; omega

/-- a row out of its cells -/
theorem row_rel {h : Array Obj} {S : Nat → Prop} {us rest : List Value} {xs : List AV} {z g c : Nat} {fz : Bool} {cur : Array Value} {e : TypeId} (hz : ∀ x ∈ xs, x.cells.length = z) (hz0 : 0 < z)
    (hc : Cells h S own H us (xs.flatMap AV.cells)) (hh : h[c]? = some (.cells cur e (0, 0))) (hcur : cur.toList = us ++ rest) : ObjRel h S own H c (.row z g fz xs) := by
  have hl : us.length = xs.length * z := by rw [hc.1, flat_len hz]
  have hsz : cur.size = us.length + rest.length := by rw [← Array.length_toList, hcur, List.length_append]
  refine ⟨cur, e, hh, by omega, hz0, hz, fun i x j a hi hj => ?_⟩
  have hxz := hz x (List.mem_of_getElem? hi)
  have hjz : j < z := by have := (List.getElem?_eq_some_iff.1 hj).1; omega
  have hi' := (List.getElem?_eq_some_iff.1 hi).1
  have hf := flat_get hz hi hjz
  have hlt : i * z + j < us.length := by
    rw [hl]
    have : (i + 1) * z ≤ xs.length * z := Nat.mul_le_mul_right z hi'
    rw [Nat.add_mul] at this; omega
  obtain ⟨h1, h2⟩ := hc.2 _ us[i * z + j] a (List.getElem?_eq_getElem hlt) (hf.trans hj)
  refine ⟨us[i * z + j], ?_, h1, h2⟩
  rw [← Array.getElem?_toList, hcur, List.getElem?_append_left hlt, List.getElem?_eq_getElem hlt]

theorem Cells.pass {h h' : Array Obj} {own own' : Nat → Slot} {H H' : List AObj} (p : Pass h own H h' own' H') {us : List Value} {cs : List AV} (hc : Cells h (Still h own H) own H us cs) :
    Cells h' (Still h' own' H') own' H' us cs :=
  ⟨hc.1, fun j v a hv ha => ⟨(hc.2 j v a hv ha).1, (hc.2 j v a hv ha).2.pass p⟩⟩

theorem push_last (h : Array Obj) (o : Obj) : (h.push o)[h.size]? = some o := by simp

/-- a new row -/
theorem row_new {s : Sem Value} {us rest : List Value} {xs : List AV} {z : Nat} {e : TypeId} (hR : RelH GT w.heap own H) (hno : own lo = .no) (hb : H[lo]? = some (.row z 0 false xs))
    (hz : ∀ x ∈ xs, x.cells.length = z) (hz0 : 0 < z) (hc : Cells w.heap (Still w.heap own H) own H us (xs.flatMap AV.cells)) (cv : Value) (v : AV)
    (hr : s.run P w = .ok cv { w with heap := w.heap.push (.cells (us ++ rest).toArray e) })
    (hv : RepA (w.heap.push (.cells (us ++ rest).toArray e)) (Still (w.heap.push (.cells (us ++ rest).toArray e)) (upd own lo (.at w.heap.size)) H) (upd own lo (.at w.heap.size)) H cv v) : QRes P GT w own H lo 1 s v :=
  .new hR cv _ hr hno hb (row_rel (rest := rest) hz hz0 (hc.pass (alloc_pass _ hno)) (push_last _ _) (by simp)) fun _ => hv

theorem hb_le {Hi N : List AObj} (hpre : Hi ++ N <+: H) : ∀ b o, hget Hi b = some o → H[b]? = some o := by
  intro b o hb
  obtain ⟨t, rfl⟩ := hpre
  have := (List.getElem?_eq_some_iff.1 hb).1
  rw [List.append_assoc, List.getElem?_append_left this]; exact hb
theorem hb_new {Hi : List AObj} {o : AObj} (hpre : Hi ++ [o] <+: H) : H[Hi.length]? = some o := by
  obtain ⟨t, rfl⟩ := hpre
  rw [List.append_assoc, List.getElem?_append_right (Nat.le_refl _)]; simp

theorem okv_mono (hpre : ∀ b o, hget Hi b = some o → H[b]? = some o) {a : AV} (h : okv Hi a = true) : okv H a = true := by
  cases a with
  | ref b g i n cap =>
    simp only [okv] at h ⊢
    split at h
    · rename_i o ho; unfold hget; rw [hpre b o ho]; exact h
    · cases h
  | ptr b g i f =>
    simp only [okv] at h ⊢
    split at h
    · rename_i o ho; unfold hget; rw [hpre b o ho]; exact h
    · cases h
  | un => simp [okv] at h
  | tup vs => simp [okv] at h
  | _ => rfl

theorem cells_flat1 {h : Array Obj} {S : Nat → Prop} {us : List Value} {a : AV} (hc : Cells h S own H us a.cells) : Cells h S own H us ([a].flatMap AV.cells) := by simpa using hc

theorem ptr_new {z : Nat} {fz : Bool} {xs : List AV} {h : Array Obj} {S : Nat → Prop} {b c : Nat} (hb : H[b]? = some (.row z 0 fz xs)) (hx : 0 < xs.length) (hz : 0 < z) :
    RepA h S (upd own b (.at c)) H (.pointer (some ⟨c, 0, none⟩)) (.ptr b 0 0 0) := by
  have := RepA.ptr (h := h) (S := S) (own := upd own b (.at c)) b 0 0 0 c z fz xs (upd_eq _ _ _) hb hx hz
  simpa using this

theorem box_sound {a : AV} {t : TypeId} {cv : Value} (hpre : Hi ++ [AObj.row (tcells P t) 0 false [a]] <+: H) (hR : RelH GT w.heap own H) (hno : own Hi.length = .no) (hx : VR w own H cv a)
    (hk : okv Hi a = true) (hl : a.cells.length = tcells P t) (h0 : 0 < tcells P t) : QRes P GT w own H Hi.length 1 (Instr.box t cv) (.ptr Hi.length 0 0 0) := by
  have hc := hx.to_cells (okv_mono (hb_le hpre) hk)
  refine row_new (us := cv.cells.toList) (rest := []) (e := t) hR hno (hb_new hpre) (by simp [hl]) h0 (cells_flat1 hc) (.pointer (some ⟨w.heap.size, 0, none⟩)) _ ?_ (ptr_new (hb_new hpre) (by simp) h0)
  simp [Instr.box, newVar, newRow, newObj, Sem.run]

theorem absV_rep {h : Array Obj} {S : Nat → Prop} (v : Value) : RepA h S own H v (absV v) := by
  unfold absV
  split
  · exact .bool _
  · split
    · rename_i hc; exact .int _ _ hc
    · exact .un _
  · split
    · rename_i hc; exact .d _ _ (.str _ hc)
    · exact .un _
  · exact .nils
  · exact .np
  · exact .nf
  · split
    · rename_i vs hc
      obtain rfl : vs = #[] := by simpa using hc
      exact .tup [] [] rfl (fun j v c hv => by simp at hv)
    · exact .un _
  · exact .un _

theorem absV_one {v : Value} (hk : okv ([] : List AObj) (absV v) = true ∨ okv H (absV v) = true) : one v = true := by
  have h : ∀ K : List AObj, okv K (absV v) = true → one v = true := by
    intro K hk
    unfold absV at hk
    split at hk
    · rfl
    · rfl
    · rfl
    · rfl
    · rfl
    · rfl
    · split at hk <;> simp [okv] at hk
    · simp [okv] at hk
  rcases hk with hk | hk
  · exact h _ hk
  · exact h _ hk

theorem zeroA_rep {h : Array Obj} {S : Nat → Prop} {v : Value} {K : List AObj} (hk : (zeroA v).cells.all (okv K) = true) : RepA h S own H v (zeroA v) := by
  cases v with
  | agg cs =>
    refine RepA.of_cells (vs := cs.toList) (mkA_isAg _) ?_
    simp only [zeroA, mkA_cells, List.all_map, List.all_eq_true] at hk ⊢
    refine ⟨by simp, fun j u a hu ha => ?_⟩
    simp only [List.getElem?_map, Option.map_eq_some_iff] at ha
    obtain ⟨u', hu', rfl⟩ := ha
    have hu : cs.toList[j]? = some u := hu
    rw [hu] at hu'; cases hu'
    exact ⟨absV_one (H := K) (.inr (hk u (List.mem_of_getElem? hu))), absV_rep u⟩
  | _ => exact absV_rep _

theorem zone_rep {h : Array Obj} {S : Nat → Prop} {v : Value} (hk : (match v with | .agg cs => cs.all one | _ => true) = true) : RepA h S own H v (zeroA v) := by
  cases v with
  | agg cs =>
    refine RepA.of_cells (vs := cs.toList) (mkA_isAg _) ?_
    simp only [zeroA, mkA_cells]
    simp only [Array.all_eq_true_iff_forall_mem] at hk
    refine ⟨by simp, fun j u a hu ha => ?_⟩
    simp only [List.getElem?_map, Option.map_eq_some_iff] at ha
    obtain ⟨u', hu', rfl⟩ := ha
    have hu : cs.toList[j]? = some u := hu
    rw [hu] at hu'; cases hu'
    exact ⟨hk u (by simpa using List.mem_of_getElem? hu), absV_rep u⟩
  | _ => exact absV_rep _

theorem constA_rep {h : Array Obj} {S : Nat → Prop} (v : Value) : RepA h S own H v (constA v) := by
  cases v with
  | agg cs =>
    simp only [constA]
    split
    · rename_i hk
      exact zone_rep (v := .agg cs) (by simp only [Array.all_eq_true_iff_forall_mem]; intro x hx; exact List.all_eq_true.1 hk x (by simpa using hx))
    · exact .un _
  | _ => exact absV_rep _

theorem tzero_spec {t : TypeId} {a : AV} (h : tzero P t = some a) : ∃ i v, P.info? t = some i ∧ i.zero = some v ∧ a = zeroA v := by
  unfold tzero at h
  cases hi : P.info? t with
  | none => simp [hi] at h
  | some i =>
    simp only [hi, Option.bind_some, Option.map_eq_some_iff] at h
    obtain ⟨v, hv, rfl⟩ := h
    exact ⟨i, v, rfl, hv, rfl⟩
theorem run_zero {t : TypeId} {i : TypeInfo} {v : Value} (hi : P.info? t = some i) (hv : i.zero = some v) : (zeroValue t).run P w = .ok v w := by
  simp [zeroValue, run_info hi, hv]

theorem alloc_sound {a : AV} {t : TypeId} (hpre : Hi ++ [AObj.row (tcells P t) 0 false [a]] <+: H) (hR : RelH GT w.heap own H) (hno : own Hi.length = .no) (hz : tzero P t = some a)
    (hl : a.cells.length = tcells P t) (h0 : 0 < tcells P t) (hk : a.cells.all (okv Hi) = true) (hk' : okv Hi a = true) :
    QRes P GT w own H Hi.length 1 (Instr.alloc t true (.tuple #[])) (.ptr Hi.length 0 0 0) := by
  obtain ⟨i, v, hi, hv, rfl⟩ := tzero_spec hz
  have hc := (zeroA_rep (h := w.heap) (S := Still w.heap own H) (own := own) (H := H) hk).to_cells (okv_mono (hb_le hpre) hk')
  refine row_new (us := v.cells.toList) (rest := []) (e := t) hR hno (hb_new hpre) (by simp [hl]) h0 (cells_flat1 hc) (.pointer (some ⟨w.heap.size, 0, none⟩)) _ ?_ (ptr_new (hb_new hpre) (by simp) h0)
  simp [Instr.alloc, run_zero hi hv, newVar, newRow, newObj, Sem.run]

theorem len_sound (hpre : ∀ b o, hget Hi b = some o → H[b]? = some o) (hR : RelH GT w.heap own H) {t ty : TypeId} {x v : AV} {cx : Value} (hx : VR w own H cx x) (hq : alen P Hi t x = some v) :
    QRes P GT w own H lo 0 (Builtin.len_ #[t] ty #[cx]) v := by
  have hm : ∀ n : Nat, n ≤ maxN → IntKind.min .i64 ≤ (n : Int) ∧ (n : Int) ≤ IntKind.max .i64 := by
    intro n hn; unfold maxN at hn; simp [IntKind.min, IntKind.max, IntKind.signed, IntKind.bits]; omega
  unfold alen at hq
  split at hq
  · rename_i xs
    split at hq
    · rename_i hc
      cases hq
      obtain ⟨e, he⟩ := Option.isSome_iff_exists.1 hc.1
      rcases hx.d_inv.list_inv with ⟨rfl, rfl⟩ | ⟨b, off, cap, z, f, rfl, _⟩ | ⟨a, rfl, rfl⟩
      rotate_left 2
      · exact .same hR (.int .i64 0) (by simp [Builtin.len_, run_under (elemT_spec he), goInt]) (.int _ _ (hm 0 (by simp)))
      · exact .same hR (.int .i64 0) (by simp [Builtin.len_, run_under (elemT_spec he), goInt]) (.int _ _ (hm 0 (by simp)))
      · exact .same hR (.int .i64 xs.length) (by simp [Builtin.len_, run_under (elemT_spec he), goInt]) (.int _ _ (hm _ hc.2))
    · cases hq
  · split at hq
    · rename_i hc
      cases hq
      obtain ⟨e, he⟩ := Option.isSome_iff_exists.1 hc
      obtain rfl := hx.nils_inv
      exact .same hR (.int .i64 0) (by simp [Builtin.len_, run_under (elemT_spec he), goInt]) (.int _ _ (hm 0 (by simp)))
    · cases hq
  · rename_i b g i n cap
    split at hq
    · rename_i z g' fz xs hb
      split at hq
      · rename_i hc
        obtain ⟨rfl, hc⟩ := hc
        cases hq
        obtain ⟨e, he⟩ := Option.isSome_iff_exists.1 hc
        rcases hx.ref_inv (hpre b _ hb) with ⟨c, capc, off, sz, ho, rfl, hin, hcap, hmax, _⟩ | ⟨ho, rfl, rfl, rfl, rfl, hk⟩
        · exact .same hR (.int .i64 n) (by simp [Builtin.len_, run_under (elemT_spec he), goInt]) (.int _ _ (hm _ (by omega)))
        · exact .same hR (.int .i64 0) (by simp [Builtin.len_, run_under (elemT_spec he), goInt]) (.int _ _ (hm 0 (by simp)))
      · cases hq
    · cases hq
  · rename_i s
    split at hq
    · rename_i hc
      cases hq
      cases hx.d_inv with
      | str _ hs =>
      exact .same hR (.int .i64 s.size) (by simp [Builtin.len_, run_under (strT_spec hc), goInt]) (.int _ _ (hm _ hs))
    · cases hq
  · rename_i b
    split at hq
    · rename_i es hb
      split at hq
      · rename_i hc
        cases hq
        obtain ⟨⟨k, e⟩, he⟩ := Option.isSome_iff_exists.1 hc.1
        obtain ⟨c, es', ho, hb', rfl⟩ := hx.mp_inv
        have hb2 := hpre b _ hb
        rw [hb2] at hb'; cases hb'
        obtain ⟨ents, clock, h1, h2, _⟩ := hR.obj b c _ ho hb2
        have hu : P.underlying t = some (.map k e) := by
          unfold mapT at he
          split at he
          · rename_i k' e' hu; cases he; exact hu
          · cases he
        refine .same hR (.int .i64 es.length) ?_ (.int _ _ (hm _ hc.2))
        simp [Builtin.len_, run_under hu, goInt, getObj, Sem.run, h1, h2]
      · cases hq
    · cases hq
  · cases hq

end Go.Ab

namespace Go.Ab

variable {P : Program} {GT : Globs} {w : World} {own : Nat → Slot} {H Hi : List AObj} {lo : Nat}

/-- values put into a row one by one -/
theorem foldl_set : ∀ (vs : List Value) (off k : Nat) (cs : List Value), off + k + vs.length ≤ cs.length →
    ((vs.toArray.zipIdx k).foldl (fun (cs : Array Value) (p : Value × Nat) => cs.setIfInBounds (off + p.2) p.1) cs.toArray).toList = cs.take (off + k) ++ vs ++ cs.drop (off + k + vs.length)
  | [], off, k, cs, h => by
    rw [← Array.foldl_toList]; simp
  | v :: vs, off, k, cs, h => by
    have h' : off + (k + 1) + vs.length ≤ (cs.set (off + k) v).length := by simp at h ⊢; omega
    have ih := foldl_set vs off (k + 1) (cs.set (off + k) v) h'
    have e : ((v :: vs).toArray.zipIdx k).foldl (fun (cs : Array Value) (p : Value × Nat) => cs.setIfInBounds (off + p.2) p.1) cs.toArray =
        (vs.toArray.zipIdx (k + 1)).foldl (fun (cs : Array Value) (p : Value × Nat) => cs.setIfInBounds (off + p.2) p.1) (cs.set (off + k) v).toArray := by
      rw [← Array.foldl_toList, ← Array.foldl_toList]
      simp
    rw [e, ih]
    simp at h
    have hlt : off + k < cs.length := by omega
    apply List.ext_getElem?
    intro j
    simp only [List.getElem?_append, List.length_append, List.length_take, List.length_set, List.length_cons, List.getElem?_take, List.getElem?_set, List.getElem?_drop, List.getElem?_cons]
    grind

theorem fill_sound {pl : Nat → Option (Nat × Nat)} : ∀ (parts : List (Nat × AV)) (vparts : List (Nat × Value)) (cs cs' : List AV) (us : List Value), fillA pl cs parts = some cs' →
    Cells w.heap (Still w.heap own H) own H us cs → vparts.length = parts.length →
    (∀ (j : Nat) i v k a, vparts[j]? = some (i, v) → parts[j]? = some (k, a) → i = k ∧ Cells w.heap (Still w.heap own H) own H v.cells.toList a.cells) →
    ∃ us', Instr.fill pl us.toArray vparts = some us'.toArray ∧ Cells w.heap (Still w.heap own H) own H us' cs'
  | [], vparts, cs, cs', us, h, hc, hl, _ => by
    simp [fillA] at h; subst h
    simp at hl; subst hl
    exact ⟨us, rfl, hc⟩
  | (i, a) :: parts, vparts, cs, cs', us, h, hc, hl, hp => by
    match vparts, hl, hp with
    | (i', v) :: vparts, hl, hp =>
      obtain ⟨rfl, hv⟩ := hp 0 i' v i a rfl rfl
      simp only [fillA] at h
      split at h
      · rename_i off size hpl
        split at h
        · rename_i hcond
          obtain ⟨h1, h2⟩ := hcond
          have hvs : v.cells.size = size := by have := hv.1; rw [Array.length_toList] at this; omega
          have hus : us.length = cs.length := hc.1
          have hf := foldl_set v.cells.toList off 0 us (by simp; omega)
          simp only [Array.toArray_toList] at hf
          have hsp : Cells w.heap (Still w.heap own H) own H (us.take off ++ v.cells.toList ++ us.drop (off + v.cells.toList.length)) (cs.take off ++ a.cells ++ cs.drop (off + size)) := by
            have e : v.cells.toList.length = size := by rw [Array.length_toList]; exact hvs
            rw [e]
            exact ((hc.take off).append hv).append (hc.drop (off + size))
          obtain ⟨us', h3, h4⟩ := fill_sound parts vparts _ cs' _ h hsp (by simpa using hl) (fun j => by
            intro i2 v2 k2 a2 e1 e2
            exact hp (j + 1) i2 v2 k2 a2 (by simpa using e1) (by simpa using e2))
          refine ⟨us', ?_, h4⟩
          simp only [Instr.fill, hpl]
          rw [if_neg (by simp [hvs]; omega)]
          rw [← h3]
          congr 1
          apply Array.ext'
          rw [hf]
          simp
        · cases h
      · cases h

theorem fillA_mono {pl pl' : Nat → Option (Nat × Nat)} (hp : ∀ i p, pl i = some p → pl' i = some p) : ∀ (parts : List (Nat × AV)) (cs r : List AV), fillA pl cs parts = some r → fillA pl' cs parts = some r
  | [], cs, r, h => h
  | (i, v) :: rest, cs, r, h => by
    unfold fillA at h ⊢
    split at h
    · rename_i off size he
      rw [hp _ _ he]
      split at h
      · rename_i hc; simp only; rw [if_pos hc]; exact fillA_mono hp rest _ _ h
      · cases h
    · cases h
theorem build_sound (hpre : ∀ b o, hget Hi b = some o → H[b]? = some o) (hR : RelH GT w.heap own H) {t : TypeId} {a : AV} {pl : List (Nat × Nat)} {parts : List (Nat × AV)} {vparts : List (Nat × Value)} {cs' : List AV}
    (hz : tzero P t = some a) (hl : a.cells.length = tcells P t) (hg : isAg a = true) (hk : a.cells.all (okv Hi) = true) (hpl : placesT P t = some pl) (hf : fillA (pl[·]?) a.cells parts = some cs')
    (hvl : vparts.length = parts.length)
    (hp : ∀ (j : Nat) i v k a, vparts[j]? = some (i, v) → parts[j]? = some (k, a) → i = k ∧ okv Hi a = true ∧ VR w own H v a) :
    QRes P GT w own H lo 0 (Instr.build t vparts.toArray) (mkA cs') := by
  obtain ⟨i, v, hi, hv, rfl⟩ := tzero_spec hz
  have hr := zeroA_rep (h := w.heap) (S := Still w.heap own H) (own := own) (H := H) hk
  obtain ⟨us, rfl, hc⟩ := hr.ag_inv hg
  have hpp : ∀ (j : Nat) i v k a, vparts[j]? = some (i, v) → parts[j]? = some (k, a) → i = k ∧ Cells w.heap (Still w.heap own H) own H v.cells.toList a.cells := fun j i v k a e1 e2 => by
    obtain ⟨g1, g2, g3⟩ := hp j i v k a e1 e2
    exact ⟨g1, g3.to_cells (okv_mono hpre g2)⟩
  unfold placesT at hpl
  split at hpl
  · rename_i fields hu
    obtain ⟨us', h1, h2⟩ := fill_sound parts vparts _ cs' us hf hc hvl hpp
    refine .same hR (.agg us'.toArray) (run_build w t _ _ ?_) (RepA.of_cells (mkA_isAg _) (by rw [mkA_cells]; exact h2))
    simp only [Program.built, hi, hu, hv, hpl]
    have : (fun x : Nat => pl.toArray[x]?) = (fun x : Nat => pl[x]?) := by funext x; simp
    rw [this]
    simpa [Value.cells] using h1
  · rename_i n e hu
    simp only [Option.map_eq_some_iff] at hpl
    obtain ⟨ie, hie, rfl⟩ := hpl
    have hf2 := fillA_mono (pl' := fun i => some (i * ie.size, ie.size)) (fun i p hpi => by
      simp only [List.getElem?_map, Option.map_eq_some_iff] at hpi
      obtain ⟨j, hj, rfl⟩ := hpi
      have := List.getElem?_eq_some_iff.1 hj
      obtain ⟨hlt, hge⟩ := this
      simp at hge
      rw [hge]) _ _ _ hf
    obtain ⟨us', h1, h2⟩ := fill_sound parts vparts _ cs' us hf2 hc hvl hpp
    refine .same hR (.agg us'.toArray) (run_build w t _ _ ?_) (RepA.of_cells (mkA_isAg _) (by rw [mkA_cells]; exact h2))
    simp only [Program.built, hi, hu, hv, hie]
    simpa [Value.cells] using h1
  · cases hpl

end Go.Ab

namespace Go.Ab

variable {P : Program} {GT : Globs} {w : World} {own : Nat → Slot} {H Hi : List AObj} {lo : Nat}

theorem rowOf_fill {z : Nat} : ∀ (parts : List (Nat × AV)) (k : Nat) (pre : List AV) (xs : List AV), rowOf z k parts = some xs → pre.length = k * z →
    fillA (fun i => some (i * z, z)) (pre ++ List.replicate (parts.length * z) .un) parts = some (pre ++ xs.flatMap AV.cells) ∧ (∀ x ∈ xs, x.cells.length = z) ∧ xs.length = parts.length
  | [], k, pre, xs, h, hp => by simp [rowOf] at h; subst h; simp [fillA]
  | (i, v) :: parts, k, pre, xs, h, hp => by
    simp only [rowOf] at h
    split at h
    · rename_i hc
      obtain ⟨rfl, hv⟩ := hc
      simp only [Option.map_eq_some_iff] at h
      obtain ⟨ys, hy, rfl⟩ := h
      obtain ⟨h1, h2, h3⟩ := rowOf_fill parts (i + 1) (pre ++ v.cells) ys hy (by simp [hp, hv, Nat.add_mul])
      refine ⟨?_, ?_, by simp [h3]⟩
      · simp only [fillA]
        rw [if_pos ⟨hv, by simp [hp, Nat.add_mul]⟩]
        have e1 : (pre ++ List.replicate (((i, v) :: parts).length * z) AV.un).take (i * z) = pre := by
          rw [List.take_append_of_le_length (by omega), List.take_of_length_le (by omega)]
        have e2 : (pre ++ List.replicate (((i, v) :: parts).length * z) AV.un).drop (i * z + z) = List.replicate (parts.length * z) .un := by
          rw [List.drop_append, List.drop_eq_nil_of_le (by omega), List.nil_append, List.drop_replicate]
          congr 1
          simp [hp, Nat.add_mul]
        rw [e1, e2, h1]
        simp
      · intro x hx
        rcases List.mem_cons.1 hx with rfl | hx
        · exact hv
        · exact h2 x hx
    · cases h

theorem ref_new {z n : Nat} {fz : Bool} {xs : List AV} {h : Array Obj} {S : Nat → Prop} {b c : Nat} {cur : Array Value} {e : TypeId} (hb : H[b]? = some (.row z 0 fz xs)) (hx : n = xs.length) (hm : n ≤ maxN)
    (hh : h[c]? = some (.cells cur e (0, 0))) (hs : n * z ≤ cur.size) (cap : Option Nat) (hcap : cap = none ∨ cap = some n) :
    RepA h S (upd own b (.at c)) H (.slice (some ⟨c, 0, none⟩) n n) (.ref b 0 0 n cap) := by
  have := RepA.ref (h := h) (S := S) (own := upd own b (.at c)) b 0 0 n cap c z fz xs n 0 cur.size (upd_eq _ _ _) hb (by omega) (Nat.le_refl _) hm ?_ (by simp) (by simp [rowSize, hh, sizeO]) (by simp [hs])
  · exact this
  · rcases hcap with rfl | rfl
    · exact .inl ⟨rfl, by omega⟩
    · exact .inr rfl

theorem zero_cells_one {v : Value} {K : List AObj} (hk : (zeroA v).cells.all (okv K) = true) (hk' : okv K (zeroA v) = true) : ∀ u ∈ v.cells.toList, one u = true := by
  have hr := zeroA_rep (h := #[]) (S := fun _ => False) (own := fun _ => .no) (H := K) hk
  exact (hr.to_cells hk').all_one

theorem buildSlice_sound {t e : TypeId} {len : Nat} {xs : List AV} {a : AV} {parts : List (Nat × AV)} {vparts : List (Nat × Value)} (hpre : Hi ++ [AObj.row (tcells P e) 0 false xs] <+: H) (hR : RelH GT w.heap own H)
    (hno : own Hi.length = .no) (he : elemT P t = some e) (h0 : 0 < tcells P e) (hz : tzero P e = some a) (hl : a.cells.length = tcells P e) (hk' : okv Hi a = true) (hk : a.cells.all (okv Hi) = true)
    (hlen : parts.length = len) (hbig : len * tcells P e ≤ 16777216) (hrow : rowOf (tcells P e) 0 parts = some xs) (hvl : vparts.length = parts.length)
    (hp : ∀ (j : Nat) i v k a, vparts[j]? = some (i, v) → parts[j]? = some (k, a) → i = k ∧ okv Hi a = true ∧ VR w own H v a) :
    QRes P GT w own H Hi.length 1 (Instr.buildSlice t len vparts.toArray) (.ref Hi.length 0 0 len (some len)) := by
  obtain ⟨i, v, hi, hv, rfl⟩ := tzero_spec hz
  have hone := zero_cells_one hk hk'
  obtain ⟨h1, h2, h3⟩ := rowOf_fill parts 0 [] xs hrow (by simp)
  simp only [List.nil_append] at h1
  have hvz : v.cells.size = tcells P e := by
    have hr := zeroA_rep (h := w.heap) (S := Still w.heap own H) (own := own) (H := H) hk
    have := (hr.to_cells (okv_mono (hb_le hpre) hk')).1
    rw [Array.length_toList] at this; omega
  have hbase : Cells w.heap (Still w.heap own H) own H (((Array.range (len * tcells P e)).map (v.cells[· % v.cells.size]!)).toList) (List.replicate (parts.length * tcells P e) .un) := by
    refine ⟨by simp [hlen], fun j u b hu hb => ?_⟩
    have hj := (List.getElem?_eq_some_iff.1 hb).1
    simp at hj
    have : b = .un := by
      have := List.getElem?_replicate (a := AV.un) (n := parts.length * tcells P e) (i := j)
      rw [this] at hb; split at hb <;> simp_all
    subst this
    refine ⟨?_, .un _⟩
    simp only [Array.toList_map, List.getElem?_map, Option.map_eq_some_iff] at hu
    obtain ⟨j', _, rfl⟩ := hu
    have hlt : j' % v.cells.size < v.cells.size := Nat.mod_lt _ (by omega)
    rw [getElem!_pos v.cells _ hlt]
    exact hone _ (by simp)
  obtain ⟨us', h4, h5⟩ := fill_sound parts vparts _ _ _ h1 hbase hvl (fun j i v k a e1 e2 => by
    obtain ⟨g1, g2, g3⟩ := hp j i v k a e1 e2
    exact ⟨g1, g3.to_cells (okv_mono (hb_le hpre) g2)⟩)
  simp only [Array.toArray_toList] at h4
  have hus : us'.length = len * tcells P e := by rw [h5.1, flat_len h2, h3, hlen]
  refine row_new (us := us') (rest := []) (e := e) hR hno (hb_new hpre) h2 h0 h5 (.slice (some ⟨w.heap.size, 0, none⟩) len len) _ ?_
    (ref_new (cur := us'.toArray) (e := e) (hb_new hpre) (by omega) (by unfold maxN; have : len ≤ len * tcells P e := Nat.le_mul_of_pos_right _ h0; omega) (by simp) (by simp [hus]) _ (.inr rfl))
  have hn : ¬ 16777216 < len * tcells P e := by omega
  by_cases hl0 : len * tcells P e = 0
  · have : (Array.range (len * tcells P e)).map (v.cells[· % v.cells.size]!) = (Array.range (len * tcells P e)).map ((#[] : Array Value)[· % 0]!) := by simp [hl0]
    rw [this] at h4
    simp [Instr.buildSlice, run_under (elemT_spec he), run_size rfl (by omega : tcells P e ≠ 0), hn, hl0, newRow, newObj, Sem.run] at h4 ⊢
    rw [h4]
    simp [Sem.run]
  · simp [Instr.buildSlice, run_under (elemT_spec he), run_size rfl (by omega : tcells P e ≠ 0), hn, hl0, run_zero hi hv, newRow, newObj, Sem.run] at h4 ⊢
    rw [h4]
    simp [Sem.run]

end Go.Ab

namespace Go.Ab

variable {P : Program} {GT : Globs} {w : World} {own : Nat → Slot} {H Hi : List AObj} {lo : Nat}

theorem flat_replicate_get {a : AV} {z : Nat} (hz : a.cells.length = z) : ∀ (n j : Nat), j < n * z → ((List.replicate n a).flatMap AV.cells)[j]? = a.cells[j % z]?
  | 0, j, h => by omega
  | n + 1, j, h => by
    simp only [List.replicate_succ, List.flatMap_cons]
    by_cases hj : j < z
    · rw [List.getElem?_append_left (by omega), Nat.mod_eq_of_lt hj]
    · rw [List.getElem?_append_right (by omega), hz, flat_replicate_get hz n (j - z) (by rw [Nat.add_mul] at h; omega)]
      congr 1
      rw [← Nat.mod_eq_sub_mod (by omega)]

theorem makeSlice_sound {t e : TypeId} {n : Int} {a : AV} {cl cc : Value} {kl kc : IntKind} (hpre : Hi ++ [AObj.row (tcells P e) 0 false (List.replicate n.toNat a)] <+: H) (hR : RelH GT w.heap own H)
    (hno : own Hi.length = .no) (he : elemT P t = some e) (h0 : 0 < tcells P e) (hz : tzero P e = some a) (hl : a.cells.length = tcells P e) (hk' : okv Hi a = true) (hk : a.cells.all (okv Hi) = true)
    (hn : 0 ≤ n) (hb : (tbytes P e : Int) * n ≤ 140737488355328) (hm : n ≤ (maxN : Int)) (h1 : VR w own H cl (.d (.int kl n))) (h2 : VR w own H cc (.d (.int kc n))) :
    QRes P GT w own H Hi.length 1 (Instr.makeSlice t cl cc) (.ref Hi.length 0 0 n.toNat (some n.toNat)) := by
  cases h1.d_inv with
  | int _ _ _ =>
  cases h2.d_inv with
  | int _ _ _ =>
  obtain ⟨i, v, hi, hv, rfl⟩ := tzero_spec hz
  have hsz : i.size = tcells P e := by simp [tcells, hi]
  have hby : i.bytes = tbytes P e := by simp [tbytes, hi]
  have hrun := run_make (P := P) w t e i v (elemT_spec he) hi hv kl kc n n hn (Int.le_refl _) (by rw [hby]; omega) (by unfold maxN at hm; omega)
  have hr := (zeroA_rep (h := w.heap) (S := Still w.heap own H) (own := own) (H := H) hk).to_cells (okv_mono (hb_le hpre) hk')
  have hvz : v.cells.size = tcells P e := by have := hr.1; rw [Array.length_toList] at this; omega
  have hflat : ∀ x ∈ List.replicate n.toNat (zeroA v), x.cells.length = tcells P e := fun x hx => by rw [(List.mem_replicate.1 hx).2]; exact hl
  have hc : Cells w.heap (Still w.heap own H) own H (madeCells v.cells (n.toNat * i.size)).toList ((List.replicate n.toNat (zeroA v)).flatMap AV.cells) := by
    refine ⟨by rw [flat_len hflat]; simp [madeCells, hsz], fun j u b hu hb' => ?_⟩
    have hj : j < n.toNat * tcells P e := by
      have := (List.getElem?_eq_some_iff.1 hb').1; rw [flat_len hflat] at this; simpa using this
    rw [flat_replicate_get hl _ _ hj] at hb'
    have hlt : j % v.cells.size < v.cells.size := Nat.mod_lt _ (by omega)
    have : u = v.cells[j % v.cells.size] := by
      simp only [madeCells, Array.toList_map, List.getElem?_map, Option.map_eq_some_iff] at hu
      obtain ⟨j', hj', rfl⟩ := hu
      rw [Array.toList_range, List.getElem?_range (by rw [hsz]; exact hj)] at hj'
      cases hj'
      rw [getElem!_pos v.cells _ hlt]
    subst this
    rw [← hvz] at hb'
    exact hr.2 (j % v.cells.size) _ b (by simp [hlt]) hb'
  refine row_new (us := (madeCells v.cells (n.toNat * i.size)).toList) (rest := []) (e := e) hR hno (hb_new hpre) hflat h0 hc (.slice (some ⟨w.heap.size, 0, none⟩) n.toNat n.toNat) _ ?_
    (ref_new (cur := madeCells v.cells (n.toNat * i.size)) (e := e) (hb_new hpre) (by simp) (by omega) (by simp) (by simp [madeCells, hsz]) _ (.inr rfl))
  rw [hrun, List.append_nil, Array.toArray_toList]
  rfl

theorem mapT_spec {t k e : TypeId} (h : mapT P t = some (k, e)) : P.underlying t = some (.map k e) := by
  unfold mapT at h
  split at h
  · rename_i k' e' hu; cases h; exact hu
  · cases h

theorem makeMap_sound {t : TypeId} {r : Option Value} (hpre : Hi ++ [AObj.map []] <+: H) (hR : RelH GT w.heap own H) (hno : own Hi.length = .no)
    (hr : r = none ∨ ∃ k n, r = some (.int k n) ∧ (mapT P t).isSome = true) : QRes P GT w own H Hi.length 1 (Instr.makeMap t r) (.mp Hi.length) := by
  refine .new hR (.map (some w.heap.size)) (.map #[] 0) ?_ hno (hb_new hpre) ⟨#[], 0, by simp, rfl, fun i e k v hi => by simp at hi⟩ (fun _ => .mp _ _ [] (upd_eq _ _ _) (hb_new hpre))
  rcases hr with rfl | ⟨k, n, rfl, hm⟩
  · simp [Instr.makeMap, newObj, Sem.run]
  · obtain ⟨⟨kt, et⟩, hm⟩ := Option.isSome_iff_exists.1 hm
    simp [Instr.makeMap, newObj, Sem.run, run_under (mapT_spec hm), asInt, asIntOf]

/-- a key of numbers, bools, strings is always one that a map takes -/
theorem checkKey_sound (em : Bool) : ∀ (n m : Nat) (t : TypeId) (us : List Value) (x : Value) (k : Nat) (xs ys : List D) (r : Bool), n ≤ m → keyT P n t = true → eqBy P k t xs ys = some r → CD w own H us xs → Formed P t x us →
    (Instr.checkKey em m t x).run P w = .ok () w := by
  intro n
  induction n with
  | zero => intro m t us x k xs ys r _ h; simp [keyT] at h
  | succ n ih =>
    intro m t us x k xs ys r hm h he hc hf
    obtain ⟨m, rfl⟩ : ∃ q, m = q + 1 := ⟨m - 1, by omega⟩
    unfold keyT at h
    split at h
    · rename_i hu; cases x <;> simp [Instr.checkKey, run_under hu]
    · rename_i hu; cases x <;> simp [Instr.checkKey, run_under hu]
    · rename_i hu; cases x <;> simp [Instr.checkKey, run_under hu]
    · rename_i fs hu
      have hag := tagg_cases hu
      rcases hf with ⟨_, rfl⟩ | ⟨hf, _⟩
      case inr => rw [hag] at hf; cases hf
      cases k with
      | zero => simp [eqBy] at he
      | succ k =>
        simp only [eqBy, hu] at he
        split at he
        · cases he
        · split at he
          · cases he
          · simp only [Instr.checkKey, Sem.run_bind, run_under hu, Result.andThen_ok]
            rw [← Array.forIn_toList]
            have hall : ∀ f ∈ fs.toList, keyT P n f.type = true := fun f hf => by
              have := List.all_eq_true.1 h f hf
              simp at this; exact this.1.2
            clear h hu hag
            generalize fs.toList = l at he hall
            induction l generalizing r with
            | nil => simp
            | cons f l ihl =>
              simp only [eqFields] at he
              split at he
              · cases he
              · rename_i hname
                split at he
                · cases he
                · rename_i h0
                  split at he
                  · rename_i hcond
                    obtain ⟨hc1, hc2, hc3⟩ := hcond
                    split at he
                    · rename_i a b ha hb
                      cases he
                      have lu : us.length = xs.length := by simpa using hc.1
                      have h1 : tagg P f.type = some false → tcells P f.type = 1 := by
                        intro hag; rcases hc3 with h | h
                        · rw [hag] at h; cases h
                        · exact h
                      obtain ⟨x', px, fx⟩ := run_part (P := P) (w := w) h0 (eqBy_some ha) (us := us) (off := f.offset) (by simp; omega) h1
                      have hx := ih m f.type _ x' k _ _ a (by omega) (hall f (by simp)) ha (hc.part _ _) fx
                      have := ihl b hb (fun g hg => hall g (by simp [hg]))
                      simp only [List.forIn_cons, Sem.run_bind, ne_eq, hname, not_false_eq_true, if_true, px, hx, Result.andThen_ok, Sem.run_pure]
                      exact this
                    · cases he
                  · cases he
    · cases h

theorem Rep.formed {t : TypeId} {x y : D} {r : Bool} {cx : Value} (h : eqD P t x y = some r) (hx : Rep w.heap (Still w.heap own H) cx x) :
    ∃ us xs ys, CD w own H us xs ∧ Formed P t cx us ∧ eqBy P 100 t xs ys = some r := by
  unfold eqD at h
  split at h
  · rename_i hag
    split at h
    · rename_i a b
      obtain ⟨us, rfl, hu⟩ := (RepA.d (own := own) (H := H) _ _ hx).ag_inv rfl
      exact ⟨us, a, b, hu, .inl ⟨hag, rfl⟩, h⟩
    · cases h
  · rename_i hag
    have hs := eqBy_some h
    obtain ⟨d0, hd0⟩ := Option.isSome_iff_exists.1 hs
    have key : isAg (.d x) = false := by
      unfold eqBy at h
      rw [hd0] at h
      rw [tagg_cases hd0] at hag
      cases d0 <;> simp [aggD] at hag h <;> cases x <;> cases y <;> simp_all [isAg]
    exact ⟨[cx], [x], [y], hx.cell1 (hx.isOne key), .inr ⟨hag, rfl⟩, h⟩
  · cases h

theorem run_checkKey {t : TypeId} {k : D} {ck : Value} {em : Bool} (hk : keyOK P t k = true) (hx : Rep w.heap (Still w.heap own H) ck k) : (Instr.checkKey em 10000 t ck).run P w = .ok () w := by
  simp only [keyOK, Bool.and_eq_true] at hk
  obtain ⟨r, hr⟩ := Option.isSome_iff_exists.1 hk.2
  obtain ⟨us, xs, ys, h1, h2, h3⟩ := hx.formed hr
  exact checkKey_sound em 100 10000 t us ck 100 xs ys r (by omega) hk.1 h3 h1 h2

end Go.Ab

namespace Go.Ab

variable {P : Program} {GT : Globs} {w : World} {own : Nat → Slot} {H Hi : List AObj} {lo : Nat}

def findI (P : Program) (t : TypeId) (k : D) : List (D × AV) → Option (Option Nat)
  | [] => some none
  | (k', _) :: es => match eqD P t k k' with
    | some true => some (some 0)
    | some false => (findI P t k es).map (·.map (· + 1))
    | none => none

theorem findE_I {t : TypeId} {k : D} : ∀ {es : List (D × AV)} {r : Option AV}, findE P t k es = some r →
    (r = none ∧ findI P t k es = some none) ∨ ∃ j k' v, r = some v ∧ findI P t k es = some (some j) ∧ es[j]? = some (k', v) ∧ eqD P t k k' = some true
  | [], r, h => by simp [findE] at h; subst h; exact .inl ⟨rfl, rfl⟩
  | (k', v) :: es, r, h => by
    unfold findE at h
    split at h
    · rename_i he
      cases h
      exact .inr ⟨0, k', v, rfl, by simp [findI, he], rfl, he⟩
    · rename_i he
      rcases findE_I h with ⟨rfl, h2⟩ | ⟨j, k2, v2, rfl, h2, h3, h4⟩
      · exact .inl ⟨rfl, by simp [findI, he, h2]⟩
      · exact .inr ⟨j + 1, k2, v2, rfl, by simp [findI, he, h2], by simpa using h3, h4⟩
    · cases h

theorem setE_I {t : TypeId} {k : D} {v : AV} : ∀ {es es' : List (D × AV)}, setE P t k v es = some es' →
    (findI P t k es = some none ∧ es' = es ++ [(k, v)]) ∨ ∃ j k' u, findI P t k es = some (some j) ∧ es[j]? = some (k', u) ∧ sameD k k' = true ∧ es' = es.set j (k, v)
  | [], es', h => by simp [setE] at h; subst h; exact .inl ⟨rfl, rfl⟩
  | (k', u) :: es, es', h => by
    unfold setE at h
    split at h
    · rename_i he
      split at h
      · rename_i hs
        cases h
        exact .inr ⟨0, k', u, by simp [findI, he], rfl, hs, rfl⟩
      · cases h
    · rename_i he
      simp only [Option.map_eq_some_iff] at h
      obtain ⟨es2, h, rfl⟩ := h
      rcases setE_I h with ⟨h2, rfl⟩ | ⟨j, k2, u2, h2, h3, h4, rfl⟩
      · exact .inl ⟨by simp [findI, he, h2], rfl⟩
      · exact .inr ⟨j + 1, k2, u2, by simp [findI, he, h2], by simpa using h3, h4, rfl⟩
    · cases h

/-- the entries of a map against the abstract ones -/
def Ents (h : Array Obj) (S : Nat → Prop) (ents : List MapEntry) (es : List (D × AV)) : Prop :=
  ents.length = es.length ∧ ∀ (j : Nat) (e : MapEntry) (p : D × AV), ents[j]? = some e → es[j]? = some p → Rep h S e.key p.1

theorem Ents.tail {h : Array Obj} {S : Nat → Prop} {e : MapEntry} {p : D × AV} {ents : List MapEntry} {es : List (D × AV)} (r : Ents h S (e :: ents) (p :: es)) : Ents h S ents es :=
  ⟨by simpa using r.1, fun j a b h1 h2 => r.2 (j + 1) a b (by simpa using h1) (by simpa using h2)⟩

def hit (ents : List MapEntry) (i : Nat) : Option Nat → Option (Nat × Value)
  | none => none
  | some j => (ents[j]?).map fun e => (i + j, e.val)

theorem hit_succ (e : MapEntry) (ents : List MapEntry) (i : Nat) (r : Option Nat) : hit (e :: ents) i (r.map (· + 1)) = hit ents (i + 1) r := by
  cases r with
  | none => rfl
  | some j =>
    simp only [hit, Option.map_some, List.getElem?_cons_succ]
    congr 1; funext e; congr 1; omega

theorem findAsking_sound {t : TypeId} {k : D} {ck : Value} (hk : Rep w.heap (Still w.heap own H) ck k) : ∀ (ents : List MapEntry) (es : List (D × AV)) (i : Nat) (r : Option Nat), findI P t k es = some r →
    Ents w.heap (Still w.heap own H) ents es → (Instr.findAsking t ck ents i).run P w = .ok (hit ents i r) w
  | [], es, i, r, h, he => by
    have : es = [] := by have := he.1; simpa using this.symm
    subst this
    simp [findI] at h; subst h
    simp [Instr.findAsking, hit]
  | e :: ents, [], i, r, h, he => by have := he.1; simp at this
  | e :: ents, (k', v) :: es, i, r, h, he => by
    have hek := he.2 0 e (k', v) rfl rfl
    simp only [findI] at h
    split at h
    · rename_i hq
      cases h
      simp [Instr.findAsking, eqD_sound hq hk hek, hit]
    · rename_i hq
      simp only [Option.map_eq_some_iff] at h
      obtain ⟨r', h', rfl⟩ := h
      rw [hit_succ]
      simp [Instr.findAsking, eqD_sound hq hk hek, findAsking_sound hk ents es (i + 1) r' h' he.tail]
    · cases h

theorem sameNow_sound {t : TypeId} {d : TypeDesc} (hd : P.underlying t = some d) {k k' : D} {ck ck' : Value} (hk : Rep w.heap (Still w.heap own H) ck k) (hk' : Rep w.heap (Still w.heap own H) ck' k') {a b : Bool}
    (h1 : Instr.sameNow d ck ck' = some a) (h2 : eqD P t k k' = some b) : a = b := by
  have hag := tagg_cases hd
  unfold Instr.sameNow at h1
  split at h1
  · cases hk with
    | int _ _ _ =>
    cases hk' with
    | int _ _ _ =>
    simp [eqD, hag, aggD, eqBy, hd] at h2
    split at h1
    · cases h1; exact h2.2
    · cases h1
  · cases hk with
    | str _ _ =>
    cases hk' with
    | str _ _ =>
    simp [eqD, hag, aggD, eqBy, hd] at h2
    cases h1; exact h2
  · cases hk with
    | bool _ =>
    cases hk' with
    | bool _ =>
    simp [eqD, hag, aggD, eqBy, hd] at h2
    cases h1; exact h2
  · cases h1

theorem findNow_sound {t : TypeId} {d : TypeDesc} (hd : P.underlying t = some d) {k : D} {ck : Value} (hk : Rep w.heap (Still w.heap own H) ck k) : ∀ (ents : List MapEntry) (es : List (D × AV)) (i : Nat) (r : Option Nat), findI P t k es = some r →
    Ents w.heap (Still w.heap own H) ents es → Instr.findNow d ck ents i = none ∨ Instr.findNow d ck ents i = some (hit ents i r)
  | [], es, i, r, h, he => by
    have : es = [] := by have := he.1; simpa using this.symm
    subst this
    simp [findI] at h; subst h
    exact .inr rfl
  | e :: ents, [], i, r, h, he => by have := he.1; simp at this
  | e :: ents, (k', v) :: es, i, r, h, he => by
    have hek := he.2 0 e (k', v) rfl rfl
    simp only [Instr.findNow]
    cases hs : Instr.sameNow d ck e.key with
    | none => exact .inl rfl
    | some a =>
      simp only [findI] at h
      split at h
      · rename_i hq
        have := sameNow_sound hd hk hek hs hq
        subst this
        cases h
        exact .inr (by simp [hit])
      · rename_i hq
        have := sameNow_sound hd hk hek hs hq
        subst this
        simp only [Option.map_eq_some_iff] at h
        obtain ⟨r', h', rfl⟩ := h
        rw [hit_succ]
        exact findNow_sound hd hk ents es (i + 1) r' h' he.tail
      · cases h

theorem run_findKey {t : TypeId} (hd : (P.underlying t).isSome = true) {k : D} {ck : Value} (hk : Rep w.heap (Still w.heap own H) ck k) {ents : List MapEntry} {es : List (D × AV)} {r : Option Nat} (h : findI P t k es = some r)
    (he : Ents w.heap (Still w.heap own H) ents es) : (Instr.findKey t ck ents).run P w = .ok (hit ents 0 r) w := by
  obtain ⟨d, hd⟩ := Option.isSome_iff_exists.1 hd
  simp only [Instr.findKey, Sem.run_bind, run_under hd, Result.andThen_ok]
  rcases findNow_sound hd hk ents es 0 r h he with h1 | h1
  · rw [h1]; exact findAsking_sound hk ents es 0 r h he
  · rw [h1]; rfl

theorem keyOK_some {t : TypeId} {k : D} (h : keyOK P t k = true) : (P.underlying t).isSome = true := by
  simp only [keyOK, Bool.and_eq_true] at h
  have h1 := h.1
  unfold keyT at h1
  split at h1
  all_goals first | (rename_i hu; rw [hu]; rfl) | simp at h1

theorem run_getObj {c : Nat} {ents : Array MapEntry} {clock : Nat} (h : w.heap[c]? = some (.map ents clock)) : (getObj c).run P w = .ok (.map ents clock) w := by
  simp [getObj, Sem.run, h]

theorem lookup_sound (hpre : ∀ b o, hget Hi b = some o → H[b]? = some o) (hR : RelH GT w.heap own H) {t kt et : TypeId} {b : Nat} {kd : D} {es : List (D × AV)} {a v : AV} {r : Option AV} {cx ck : Value} (ok : Bool)
    (hm : mapT P t = some (kt, et)) (hx : VR w own H cx (.mp b)) (hk : VR w own H ck (.d kd)) (hb : hget Hi b = some (.map es)) (hz : tzero P et = some a) (hko : keyOK P kt kd = true) (hzo : zone P et = true)
    (hf : findE P kt kd es = some r) (hv : v = match r with | some u => if ok then .tup [u, .d (.bool true)] else u | none => if ok then .tup [a, .d (.bool false)] else a) :
    QRes P GT w own H lo 0 (Instr.lookup t cx ck ok) v := by
  obtain ⟨c, es', ho, hb', rfl⟩ := hx.mp_inv
  have hb2 := hpre b _ hb
  rw [hb2] at hb'; cases hb'
  obtain ⟨ents, clock, h1, h2, h3⟩ := hR.obj b c _ ho hb2
  obtain ⟨i, z, hi, hv', rfl⟩ := tzero_spec hz
  have hzr : VR w own H z (zeroA z) := by
    refine zone_rep ?_
    unfold zone at hzo
    rw [hi] at hzo
    simp only [Option.bind_some, hv'] at hzo
    cases z <;> first | rfl | exact hzo
  have hents : Ents w.heap (Still w.heap own H) ents.toList es := ⟨by simpa using h2, fun j e p e1 e2 => (h3 j e p.1 p.2 (by simpa using e1) e2).1⟩
  have hkr := hk.d_inv
  rcases findE_I hf with ⟨rfl, h4⟩ | ⟨j, k', u, rfl, h4, h5, h6⟩
  · have hfk := run_findKey (P := P) (keyOK_some hko) hkr h4 hents
    cases ok with
    | true =>
      refine .same hR (.tuple #[z, .bool false]) ?_ ?_
      · simp [Instr.lookup, run_under (mapT_spec hm), run_getObj h1, run_checkKey hko hkr, hfk, hit, run_zero hi hv']
      · rw [hv]
        exact .tup [z, .bool false] _ rfl fun q x y e1 e2 => by
          match q with
          | 0 => simp at e1 e2; subst e1; subst e2; exact hzr
          | 1 => simp at e1 e2; subst e1; subst e2; exact .bool _
          | q + 2 => simp at e1
    | false =>
      refine .same hR z ?_ ?_
      · simp [Instr.lookup, run_under (mapT_spec hm), run_getObj h1, run_checkKey hko hkr, hfk, hit, run_zero hi hv']
      · rw [hv]; exact hzr
  · have hfk := run_findKey (P := P) (keyOK_some hko) hkr h4 hents
    have hj : j < ents.size := by rw [h2]; exact (List.getElem?_eq_some_iff.1 h5).1
    obtain ⟨_, hu⟩ := h3 j ents[j] k' u (Array.getElem?_eq_getElem hj) h5
    have hhit : hit ents.toList 0 (some j) = some (j, ents[j].val) := by simp [hit, hj]
    rw [hhit] at hfk
    cases ok with
    | true =>
      refine .same hR (.tuple #[ents[j].val, .bool true]) ?_ ?_
      · simp [Instr.lookup, run_under (mapT_spec hm), run_getObj h1, run_checkKey hko hkr, hfk]
      · rw [hv]
        exact .tup [ents[j].val, .bool true] _ rfl fun q x y e1 e2 => by
          match q with
          | 0 => simp at e1 e2; subst e1; subst e2; exact hu
          | 1 => simp at e1 e2; subst e1; subst e2; exact .bool _
          | q + 2 => simp at e1
    | false =>
      refine .same hR ents[j].val ?_ ?_
      · simp [Instr.lookup, run_under (mapT_spec hm), run_getObj h1, run_checkKey hko hkr, hfk]
      · rw [hv]; exact hu

end Go.Ab

namespace Go.Ab

variable {P : Program} {GT : Globs} {w : World} {own : Nat → Slot} {H Hi : List AObj}

/-- what an operation comes to -/
def QX (P : Program) (GT : Globs) (w : World) (own : Nat → Slot) (H : List AObj) (lo n : Nat) (s : Sem Next) (v : AV) : Prop :=
  ∃ cv w' own', s.run P w = .ok (.value cv) w' ∧ RelH GT w'.heap own' H ∧ Pass w.heap own H w'.heap own' H ∧ VR w' own' H cv v ∧
    (∀ b, own' b = own b ∨ (lo ≤ b ∧ b < lo + n)) ∧ (∀ b, lo ≤ b → b < lo + n → own' b ≠ .no) ∧ Kp w w'

theorem QRes.x {lo n : Nat} {s : Sem Value} {v : AV} (h : QRes P GT w own H lo n s v) : QX P GT w own H lo n (do pure (.value (← s))) v := by
  obtain ⟨cv, w', own', hr, h1, h2, h3, h4⟩ := h
  exact ⟨cv, w', own', by simp [hr], h1, h2, h3, h4⟩
theorem QX.same {lo : Nat} {s : Sem Next} {v : AV} (hR : RelH GT w.heap own H) (cv : Value) (hr : s.run P w = .ok (.value cv) w) (hv : VR w own H cv v) : QX P GT w own H lo 0 s v :=
  ⟨cv, w, own, hr, hR, .refl _ _ _, hv, fun _ => .inl rfl, fun b h1 h2 => by omega, .refl _⟩

theorem optR {tm : List AV} {ρ : Operand → Value} (x : Option Operand) (h : ∀ y ∈ x, VR w own H (ρ y) (ev GT tm y)) : OptR w own H (x.map ρ) (x.map (ev GT tm)) := by
  cases x with
  | none => trivial
  | some y => exact h y rfl

theorem map_some {α β : Type} {o : Option α} {f : α → β} {b : β} (h : o.map f = some b) : ∃ a, o = some a ∧ f a = b := by
  cases o with
  | none => cases h
  | some a => exact ⟨a, rfl, by simpa using h⟩

set_option maxHeartbeats 1000000 in
theorem qop_sound {tm : List AV} {o : Oper} {ρ : Operand → Value} {v : AV} {N : List AObj} (hR : RelH GT w.heap own H) (hev : ∀ x ∈ o.op.operands, VR w own H (ρ x) (ev GT tm x))
    (hq : qop P GT tm Hi o.op = some (v, N)) (hpre : Hi ++ N <+: H) (hno : ∀ b, Hi.length ≤ b → b < Hi.length + N.length → own b = .no) :
    QX P GT w own H Hi.length N.length (execOp ρ o) v := by
  have hle := hb_le hpre
  unfold execOp
  generalize o.op = op at *
  cases op with
  | move x =>
    simp only [qop, Option.some.injEq, Prod.mk.injEq] at hq
    obtain ⟨rfl, rfl⟩ := hq
    exact .same hR (ρ x) rfl (hev x (by simp [Op.operands]))
  | assign x =>
    simp only [qop, Option.some.injEq, Prod.mk.injEq] at hq
    obtain ⟨rfl, rfl⟩ := hq
    exact .same hR (ρ x) rfl (hev x (by simp [Op.operands]))
  | pick c a b =>
    have hc := hev c (by simp [Op.operands])
    have ha := hev a (by simp [Op.operands])
    have hb := hev b (by simp [Op.operands])
    simp only [qop] at hq
    split at hq
    · rename_i t he
      rw [he] at hc
      cases hcv : ρ c with
      | bool t' =>
        rw [hcv] at hc
        cases hc.d_inv with
        | bool _ =>
        split at hq
        · rename_i x y hx hy
          cases hq
          rw [hx] at ha; rw [hy] at hb
          refine .same hR (if t then ρ a else ρ b) (by simp [hcv, asBool]) ?_
          cases t
          · exact hb
          · exact ha
        · cases hq
          refine .same hR (if t then ρ a else ρ b) (by simp [hcv, asBool]) ?_
          cases t
          · exact hb
          · exact ha
      | _ => rw [hcv] at hc; cases hc.d_inv
    · cases hq
  | box t x =>
    have hx := hev x (by simp [Op.operands])
    simp only [qop] at hq
    split at hq
    · rename_i hc
      cases hq
      exact (box_sound hpre hR (hno _ (Nat.le_refl _) (by simp)) hx hc.1 hc.2.1 hc.2.2).x
    · cases hq
  | alloc t =>
    simp only [qop] at hq
    split at hq
    · rename_i a ha
      split at hq
      · rename_i hc
        cases hq
        exact (alloc_sound hpre hR (hno _ (Nat.le_refl _) (by simp)) ha hc.1 hc.2.1 hc.2.2.1 hc.2.2.2).x
      · cases hq
    · cases hq
  | load t x =>
    simp only [qop] at hq
    obtain ⟨u, hu, e⟩ := map_some hq
    cases e
    exact (load_sound hle hR (hev x (by simp [Op.operands])) hu).x
  | fieldAddr s x f =>
    simp only [qop] at hq
    obtain ⟨u, hu, e⟩ := map_some hq
    cases e
    exact (field_sound hle hR (hev x (by simp [Op.operands])) hu).x
  | field s x f =>
    simp only [qop] at hq
    split at hq
    · rename_i off ty hf
      split at hq
      · rename_i ag hag
        split at hq
        · rename_i hc
          obtain ⟨u, hu, e⟩ := map_some hq
          cases e
          exact (fieldv_sound hR hf hag hc.2 (hev x (by simp [Op.operands])) hc.1 hu).x
        · cases hq
      · cases hq
    · cases hq
  | indexAddr t x i =>
    simp only [qop] at hq
    split at hq
    · rename_i hok
      obtain ⟨u, hu, e⟩ := map_some hq
      cases e
      refine (index_sound hle hR (hev x (by simp [Op.operands])) (hev i (by simp [Op.operands])) hu ?_ ?_).x
      · intro e he; simp [elemOK, he] at hok; exact hok.1
      · intro n e he; simp [elemOK, he] at hok; exact hok.2
    · cases hq
  | index t x i =>
    simp only [qop] at hq
    obtain ⟨u, hu, e⟩ := map_some hq
    cases e
    exact (indexv_sound hR (hev x (by simp [Op.operands])) (hev i (by simp [Op.operands])) hu).x
  | slice t x l h m =>
    have hx := hev x (by simp [Op.operands])
    have hl := optR (GT := GT) l fun y hy => hev y (by simp at hy; subst hy; simp [Op.operands])
    have hh := optR (GT := GT) h fun y hy => hev y (by simp at hy; subst hy; simp [Op.operands])
    have hm := optR (GT := GT) m fun y hy => hev y (by simp at hy; subst hy; simp [Op.operands])
    simp only [qop] at hq
    split at hq
    · rename_i hok
      split at hq
      · rename_i b g i n c he
        obtain ⟨u, hu, e⟩ := map_some hq
        cases e
        rw [he] at hx
        exact (sliceRef_sound hle hR hx hl hh hm hok.1 (by simpa using hok.2) hu).x
      · obtain ⟨u, hu, e⟩ := map_some hq
        cases e
        exact (slice_sound hR hx hl hh hm hok.1 hu).x
    · cases hq
  | binOp op t x y yt =>
    simp only [qop] at hq
    obtain ⟨u, hu, e⟩ := map_some hq
    cases e
    exact (bin_sound hR (hev x (by simp [Op.operands])) (hev y (by simp [Op.operands])) hu).x
  | unOp op t x =>
    have hx := hev x (by simp [Op.operands])
    simp only [qop] at hq
    split at hq
    · rename_i b he
      cases hq
      rw [he] at hx
      cases hcv : ρ x with
      | bool b' =>
        rw [hcv] at hx
        cases hx.d_inv with
        | bool _ => exact .same hR (.bool !b) (by simp [hcv, Op.unary]) (.bool _)
      | _ => rw [hcv] at hx; cases hx.d_inv
    · cases hq
  | convert s t x =>
    have hx := hev x (by simp [Op.operands])
    simp only [qop] at hq
    split at hq
    · rename_i k0 k k1 n hs ht he
      cases hq
      rw [he] at hx
      have hus : P.underlying s = some (.int k0) := by
        unfold intT at hs; split at hs
        · cases hs; assumption
        · cases hs
      have hut : P.underlying t = some (.int k) := by
        unfold intT at ht; split at ht
        · cases ht; assumption
        · cases ht
      cases hcv : ρ x with
      | int k' n' =>
        rw [hcv] at hx
        cases hx.d_inv with
        | int _ _ _ => exact .same hR (.int k (k.wrap n)) (by simp [hcv, convert, run_under hus, run_under hut, Conv.intToInt]) (.int _ _ (wrap_range _ _))
      | _ => rw [hcv] at hx; cases hx.d_inv
    · rename_i _ s' he
      split at hq
      · rename_i hc
        cases hq
        rw [he] at hx
        cases hcv : ρ x with
        | string s2 =>
          rw [hcv] at hx
          cases hx.d_inv with
          | str _ hs => exact .same hR (.string s') (by simp [hcv, convert, run_under (strT_spec hc.1), run_under (strT_spec hc.2)]) (.d _ _ (.str _ hs))
        | _ => rw [hcv] at hx; cases hx.d_inv
      · cases hq
    · cases hq
  | makeFunc fn fs cs =>
    simp only [qop] at hq
    split at hq
    · rename_i f
      cases hq
      refine .same hR (.func (.func f) (fs.map ρ) (cs.map ρ)) (by simp [Instr.makeFunc]) ?_
      split
      · rename_i h0
        have h1 : fs = #[] := by rw [← Array.size_eq_zero_iff]; omega
        have h2 : cs = #[] := by rw [← Array.size_eq_zero_iff]; omega
        subst h1; subst h2
        have : (#[] : Array Operand).map ρ = #[] := by simp
        rw [this]
        exact .d _ _ (.fn f)
      · have e1 : fs.map ρ = (fs.toList.map ρ).toArray := by rw [← Array.toList_map, Array.toArray_toList]
        have e2 : cs.map ρ = (cs.toList.map ρ).toArray := by rw [← Array.toList_map, Array.toArray_toList]
        rw [e1, e2]
        refine .fn f _ _ _ _ (by simp) (by simp) (fun j u a hu ha => ?_) (fun j u a hu ha => ?_)
        · simp only [List.getElem?_map, Option.map_eq_some_iff] at hu ha
          obtain ⟨y, hy, rfl⟩ := hu
          obtain ⟨y', hy', rfl⟩ := ha
          rw [hy] at hy'; cases hy'
          exact hev y (by simp [Op.operands]; exact .inl (by simpa using List.mem_of_getElem? hy))
        · simp only [List.getElem?_map, Option.map_eq_some_iff] at hu ha
          obtain ⟨y, hy, rfl⟩ := hu
          obtain ⟨y', hy', rfl⟩ := ha
          rw [hy] at hy'; cases hy'
          exact hev y (by simp [Op.operands]; exact .inr (by simpa using List.mem_of_getElem? hy))
    · cases hq
  | extract x i =>
    have hx := hev x (by simp [Op.operands])
    simp only [qop] at hq
    split at hq
    · rename_i vs he
      obtain ⟨u, hu, e⟩ := map_some hq
      cases e
      rw [he] at hx
      cases hcv : ρ x with
      | tuple us =>
        rw [hcv] at hx
        cases hx with
        | tup us' _ hl hr =>
          have hlt : i < us'.length := by rw [hl]; exact (List.getElem?_eq_some_iff.1 hu).1
          refine .same hR us'[i] (by simp [hcv, Instr.extract, hlt]) (hr i _ _ (List.getElem?_eq_getElem hlt) hu)
      | _ => rw [hcv] at hx; cases hx
    · cases hq
  | nilCheck x =>
    have hx := hev x (by simp [Op.operands])
    simp only [qop] at hq
    split at hq
    · rename_i b g i f he
      split at hq
      · rename_i hk
        cases hq
        rw [he] at hx
        have hk' := okv_mono hle hk
        cases hcv : ρ x with
        | pointer p =>
          rw [hcv] at hx
          cases hx with
          | ptr _ _ _ _ c z fz xs ho hb hi hf => exact .same hR (.pointer (some ⟨c, i * z + f, none⟩)) (by simp [hcv]) (.ptr b g i f c z fz xs ho hb hi hf)
          | stalep _ _ _ _ _ o hb hg => exact absurd hk' (by simp only [okv, hget, hb, beq_iff_eq]; omega)
        | _ =>
          rw [hcv] at hx
          cases hx with
          | stalep _ _ _ _ _ o hb hg => exact absurd hk' (by simp only [okv, hget, hb, beq_iff_eq]; omega)
      · cases hq
    · rename_i cs he
      cases hq
      rw [he] at hx
      obtain ⟨b, off, f, hcv, _⟩ := hx.cptr_inv
      exact .same hR (ρ x) (by simp [hcv]) hx
    · rename_i f fs cs he
      cases hq
      rw [he] at hx
      obtain ⟨us, vs, hcv, _⟩ := hx.fn_inv
      exact .same hR (ρ x) (by simp [hcv]) hx
    · rename_i f he
      cases hq
      rw [he] at hx
      have hcv : ρ x = .func (.func f) #[] #[] := by
        have := hx.d_inv
        generalize ρ x = y at this
        cases this; rfl
      exact .same hR (ρ x) (by simp [hcv]) hx
    · cases hq
  | build t parts =>
    simp only [qop] at hq
    split at hq
    · rename_i a ha
      split at hq
      · rename_i hc
        obtain ⟨h1, h2, h3, h4, h5⟩ := hc
        split at hq
        · rename_i pl hpl
          obtain ⟨cs', hf, e⟩ := map_some hq
          cases e
          have := build_sound (own := own) (vparts := parts.toList.map fun p => (p.1, ρ p.2)) hle hR ha h1 h2 h3 hpl hf (by simp) (lo := Hi.length) (fun j i v k a e1 e2 => by
            simp only [List.getElem?_map, Option.map_eq_some_iff, Prod.mk.injEq] at e1 e2
            obtain ⟨p, hp, rfl, rfl⟩ := e1
            obtain ⟨p', hp', rfl, rfl⟩ := e2
            rw [hp] at hp'; cases hp'
            have hmem := List.mem_of_getElem? hp
            exact ⟨rfl, List.all_eq_true.1 h5 p hmem, hev p.2 (by simp [Op.operands]; exact ⟨p.1, by simpa using hmem⟩)⟩)
          have e : (parts.toList.map fun p => (p.1, ρ p.2)).toArray = parts.map fun p => (p.1, ρ p.2) := by rw [← Array.toList_map, Array.toArray_toList]
          rw [e] at this
          exact this.x
        · cases hq
      · cases hq
    · cases hq
  | buildSlice t len parts =>
    simp only [qop] at hq
    split at hq
    · rename_i e he
      split at hq
      · rename_i hc
        obtain ⟨h1, h2, h3, h4, h5⟩ := hc
        split at hq
        · rename_i xs hrow
          cases hq
          cases hz : tzero P e with
          | none => simp [zeroOK, hz] at h3
          | some a =>
            simp only [zeroOK, hz, Bool.and_eq_true, beq_iff_eq] at h3
            have := buildSlice_sound (own := own) (vparts := parts.toList.map fun p => (p.1, ρ p.2)) hpre hR (hno _ (Nat.le_refl _) (by simp)) he h2 hz h3.1.1 h3.1.2 h3.2 (by simpa using h1) h4 hrow (by simp) (fun j i v k a e1 e2 => by
              simp only [List.getElem?_map, Option.map_eq_some_iff, Prod.mk.injEq] at e1 e2
              obtain ⟨p, hp, rfl, rfl⟩ := e1
              obtain ⟨p', hp', rfl, rfl⟩ := e2
              rw [hp] at hp'; cases hp'
              have hmem := List.mem_of_getElem? hp
              exact ⟨rfl, List.all_eq_true.1 h5 p hmem, hev p.2 (by simp [Op.operands]; exact ⟨p.1, by simpa using hmem⟩)⟩)
            have e : (parts.toList.map fun p => (p.1, ρ p.2)).toArray = parts.map fun p => (p.1, ρ p.2) := by rw [← Array.toList_map, Array.toArray_toList]
            rw [e] at this
            exact this.x
        · cases hq
      · cases hq
    · cases hq
  | makeMap t r =>
    simp only [qop] at hq
    split at hq
    · cases hq
      exact (makeMap_sound hpre hR (hno _ (Nat.le_refl _) (by simp)) (.inl rfl)).x
    · rename_i x
      have hx := hev x (by simp [Op.operands])
      split at hq
      · rename_i k n p he hm
        cases hq
        rw [he] at hx
        have hcv : ρ x = .int k n := by
          have := hx.d_inv
          generalize ρ x = y at this
          cases this; rfl
        exact (makeMap_sound hpre hR (hno _ (Nat.le_refl _) (by simp)) (.inr ⟨k, n, by simp [hcv], by rw [hm]; rfl⟩)).x
      · cases hq
  | range t x =>
    have hx := hev x (by simp [Op.operands])
    simp only [qop] at hq
    split at hq
    · rename_i s he
      split at hq
      · rename_i hs
        cases hq
        rw [he] at hx
        have hy : s.size ≤ maxN ∧ ρ x = .string s := by
          have := hx.d_inv
          generalize ρ x = y at this
          cases this with
          | str _ hle => exact ⟨hle, rfl⟩
        obtain ⟨hle, hy⟩ := hy
        have key : QRes P GT w own H Hi.length 1 (Instr.range t (ρ x)) (.it Hi.length) := by
          rw [hy]
          exact QRes.new hR (.pointer (some ⟨w.heap.size, 0, none⟩)) (.stringIter s 0) (by simp [Instr.range, newObj, Sem.run, run_under (strT_spec hs)]) (hno _ (Nat.le_refl _) (by simp)) (hb_new hpre) ⟨by simp, hle⟩ (fun _ => .it _ _ s 0 (upd_eq _ _ _) (hb_new hpre))
        exact key.x
      · cases hq
    · cases hq
  | makeSlice t l c =>
    have hl := hev l (by simp [Op.operands])
    have hc := hev c (by simp [Op.operands])
    simp only [qop] at hq
    split at hq
    · rename_i e k n k' m he e1 e2
      split at hq
      · rename_i a ha
        split at hq
        · rename_i hcond
          obtain ⟨rfl, h1, h2, h3, h4, h5, h6, h7⟩ := hcond
          cases hq
          rw [e1] at hl; rw [e2] at hc
          exact (makeSlice_sound hpre hR (hno _ (Nat.le_refl _) (by simp)) he h4 ha h3 h6 h5 h1 h2 h7 hl hc).x
        · cases hq
      · cases hq
    · cases hq
  | lookup t x k ok =>
    have hx := hev x (by simp [Op.operands])
    have hk := hev k (by simp [Op.operands])
    simp only [qop] at hq
    split at hq
    · rename_i kt et hm
      split at hq
      · rename_i b kd e1 e2
        split at hq
        · rename_i es a hb ha
          split at hq
          · rename_i hc
            rw [e1] at hx; rw [e2] at hk
            split at hq
            · rename_i u hf
              cases hq
              exact (lookup_sound hle hR ok hm hx hk hb ha hc.1 hc.2 hf rfl).x
            · rename_i hf
              cases hq
              exact (lookup_sound hle hR ok hm hx hk hb ha hc.1 hc.2 hf rfl).x
            · cases hq
          · cases hq
        · cases hq
      · cases hq
    · cases hq
  | call c =>
    obtain ⟨callee, args, tys⟩ := c
    simp only [qop] at hq
    split at hq
    · split at hq
      · rename_i x t ea et
        obtain ⟨u, hu, e⟩ := map_some hq
        cases e
        have hx := hev x (by simp [Op.operands, Call.operands]; rw [← Array.mem_toList_iff, ea]; simp)
        have h := (len_sound (lo := Hi.length) (P := P) (ty := o.type) hle hR hx hu).x
        have e1 : args = #[x] := by cases args; simp_all
        have e2 : tys = #[t] := by cases tys; simp_all
        subst e1; subst e2
        obtain ⟨cv, w', own', h1, h2⟩ := h
        refine ⟨cv, w', own', ?_, h2⟩
        simp [resolve, invoke, builtin]
        simpa using h1
      · cases hq
    · split at hq
      · rename_i x y ea
        split at hq
        · rename_i k a k' b e1 e2
          split at hq
          · rename_i hk
            cases hq
            subst hk
            have hx := hev x (by simp [Op.operands, Call.operands]; rw [← Array.mem_toList_iff]; rw [ea]; simp)
            have hy := hev y (by simp [Op.operands, Call.operands]; rw [← Array.mem_toList_iff]; rw [ea]; simp)
            rw [e1] at hx; rw [e2] at hy
            have ea' : args = #[x, y] := by cases args; simp_all
            subst ea'
            have h1 := hx.d_inv
            have h2 := hy.d_inv
            have g1 : ρ x = .int k a := by generalize ρ x = z at h1; cases h1; rfl
            have g2 : ρ y = .int k b := by generalize ρ y = z at h2; cases h2; rfl
            rw [g1] at h1; rw [g2] at h2
            refine .same hR (.int k (if b > a then b else a)) (by simp [resolve, invoke, builtin, Builtin.max_, Builtin.max2, g1, g2]) (.int _ _ ?_)
            cases h1 with
            | int _ _ q1 => cases h2 with
              | int _ _ q2 => split <;> assumption
          · cases hq
        · cases hq
      · cases hq
    · split at hq
      · rename_i x y ea
        split at hq
        · rename_i k a k' b e1 e2
          split at hq
          · rename_i hk
            cases hq
            subst hk
            have hx := hev x (by simp [Op.operands, Call.operands]; rw [← Array.mem_toList_iff]; rw [ea]; simp)
            have hy := hev y (by simp [Op.operands, Call.operands]; rw [← Array.mem_toList_iff]; rw [ea]; simp)
            rw [e1] at hx; rw [e2] at hy
            have ea' : args = #[x, y] := by cases args; simp_all
            subst ea'
            have h1 := hx.d_inv
            have h2 := hy.d_inv
            have g1 : ρ x = .int k a := by generalize ρ x = z at h1; cases h1; rfl
            have g2 : ρ y = .int k b := by generalize ρ y = z at h2; cases h2; rfl
            rw [g1] at h1; rw [g2] at h2
            refine .same hR (.int k (if b < a then b else a)) (by simp [resolve, invoke, builtin, Builtin.min_, Builtin.min2, g1, g2]) (.int _ _ ?_)
            cases h1 with
            | int _ _ q1 => cases h2 with
              | int _ _ q2 => split <;> assumption
          · cases hq
        · cases hq
      · cases hq
    · cases hq
  | _ => simp [qop] at hq

end Go.Ab

namespace Go.Ab

variable {P : Program} {GT : Globs} {w : World} {own : Nat → Slot} {H : List AObj}

/-- a block of the run's own is turned -/
theorem set_pass {h : Array Obj} {own : Nat → Slot} {H : List AObj} (hinj : ∀ b b' c, own b = .at c → own b' = .at c → b = b') {b c : Nat} {o o' : AObj} {ob ob' : Obj} (ho : own b = .at c) (hb : H[b]? = some o) (hfz : o.fz = false)
    (hc : h[c]? = some ob) (hg : o.gen ≤ o'.gen) (hgr : Grows (own b) (own b) o o') (hsz : ∀ n, sizeO ob = some n → sizeO ob' = some n) :
    Pass h own H (h.setIfInBounds c ob') own (H.set b o') where
  size := by simp
  still c' hc' := by
    have hne : c ≠ c' := by
      intro e; subst e
      have := hc'.2 b o ho hb
      rw [hfz] at this; cases this
    refine ⟨⟨by simpa using hc'.1, fun b' o'' ho' hb' => ?_⟩, ?_⟩
    · by_cases e : b' = b
      · subst e; rw [ho] at ho'; cases ho'; exact (hne rfl).elim
      · rw [List.getElem?_set_ne (fun x => e x.symm)] at hb'; exact hc'.2 b' o'' ho' hb'
    · rw [Array.getElem?_setIfInBounds_ne hne]
  ext b' ob2 hb' := by
    by_cases e : b' = b
    · subst e
      rw [hb] at hb'; cases hb'
      have hlt := (List.getElem?_eq_some_iff.1 hb).1
      exact ⟨o', by rw [List.getElem?_set_self hlt], hg, hgr⟩
    · refine ⟨ob2, by rw [List.getElem?_set_ne (fun x => e x.symm)]; exact hb', Nat.le_refl _, ?_⟩
      cases ob2 with
      | row z g fz xs => exact ⟨fz, xs, g, rfl, fun _ => ⟨rfl, .inr rfl, fun _ h => h⟩⟩
      | map es => exact ⟨⟨es, rfl⟩, .inr rfl⟩
      | iter s p => exact ⟨⟨p, rfl⟩, .inr rfl⟩
  rows c' n hn := by
    unfold rowSize at *
    by_cases e : c = c'
    · subst e
      have hlt := (Array.getElem?_eq_some_iff.1 hc).1
      rw [Array.getElem?_setIfInBounds_self_of_lt hlt]
      rw [hc] at hn
      exact hsz n hn
    · rw [Array.getElem?_setIfInBounds_ne e]; exact hn

theorem set_rel {h : Array Obj} {own : Nat → Slot} {H : List AObj} (hR : RelH GT h own H) {b c : Nat} {o o' : AObj} {ob ob' : Obj} (ho : own b = .at c) (hb : H[b]? = some o) (hfz : o.fz = false)
    (hc : h[c]? = some ob) (hg : o.gen ≤ o'.gen) (hgr : Grows (own b) (own b) o o') (hsz : ∀ n, sizeO ob = some n → sizeO ob' = some n)
    (hnew : Pass h own H (h.setIfInBounds c ob') own (H.set b o') → (h.setIfInBounds c ob')[c]? = some ob' → ObjRel (h.setIfInBounds c ob') (Still (h.setIfInBounds c ob') own (H.set b o')) own (H.set b o') c o') :
    RelH GT (h.setIfInBounds c ob') own (H.set b o') where
  out x hx := hR.out x (by simpa using hx)
  inj := hR.inj
  obj x c' o2 hx ho2 := by
    have hp := set_pass (ob' := ob') hR.inj ho hb hfz hc hg hgr hsz
    by_cases e : x = b
    · subst e
      rw [ho] at hx; cases hx
      have hlt := (List.getElem?_eq_some_iff.1 hb).1
      rw [List.getElem?_set_self hlt] at ho2; cases ho2
      have hlt2 := (Array.getElem?_eq_some_iff.1 hc).1
      exact hnew hp (Array.getElem?_setIfInBounds_self_of_lt hlt2)
    · rw [List.getElem?_set_ne (fun y => e y.symm)] at ho2
      have hne : c ≠ c' := by
        intro e2; subst e2; exact e (hR.inj x b c hx ho)
      exact (hR.obj x c' o2 hx ho2).pass hp (Array.getElem?_setIfInBounds_ne hne)
  virt x hx := by
    have hne : x ≠ b := by intro e; subst e; rw [ho] at hx; cases hx
    obtain ⟨z, g, fz, h1, h2⟩ := hR.virt x hx
    exact ⟨z, g, fz, by rw [List.getElem?_set_ne (fun y => hne y.symm)]; exact h1, h2⟩
  glob g cs hg' := (hR.glob g cs hg').pass (set_pass (ob' := ob') hR.inj ho hb hfz hc hg hgr hsz)

/-- what a loud operation comes to -/
def LX (P : Program) (GT : Globs) (w : World) (own : Nat → Slot) (H : List AObj) (s : Sem Next) (v : AV) (H' : List AObj) : Prop :=
  ∃ cv w' own', ((s.run P w = .ok (.value cv) w') ∨ (s.run P w = .ok .skip w' ∧ cv = undef)) ∧ RelH GT w'.heap own' H' ∧ Pass w.heap own H w'.heap own' H' ∧ VR w' own' H' cv v ∧ (∀ b, b < H.length → own b = .no → own' b = .no) ∧ Kp w w'

theorem abs_upd {b : Nat} {s : Slot} (hb : own b ≠ .no ∨ H.length ≤ b) : ∀ x, x < H.length → own x = .no → upd own b s x = .no := by
  intro x hx hn
  have hne : x ≠ b := by
    intro e; subst e
    rcases hb with h | h
    · exact h hn
    · omega
  rw [upd_ne _ _ hne]; exact hn

-- cells put into a row of the machine
def putCells (cur : Array Value) (off : Nat) : List Value → Array Value
  | [] => cur
  | v :: vs => putCells (cur.setIfInBounds off v) (off + 1) vs
theorem putCells_size : ∀ (vs : List Value) (cur : Array Value) (off : Nat), (putCells cur off vs).size = cur.size
  | [], _, _ => rfl
  | v :: vs, cur, off => by simp [putCells, putCells_size vs]
theorem putCells_get : ∀ (vs : List Value) (cur : Array Value) (off j : Nat), off + vs.length ≤ cur.size →
    (putCells cur off vs)[j]? = if off ≤ j ∧ j < off + vs.length then vs[j - off]? else cur[j]?
  | [], cur, off, j, _ => by simp [putCells]; intro h1 h2; omega
  | v :: vs, cur, off, j, h => by
    simp at h
    rw [putCells, putCells_get vs _ _ _ (by simp; omega)]
    simp only [List.length_cons]
    by_cases h1 : j = off
    · subst h1
      rw [if_neg (by omega), if_pos (by omega), Array.getElem?_setIfInBounds_self_of_lt (by omega)]
      simp
    · by_cases h2 : off + 1 ≤ j ∧ j < off + 1 + vs.length
      · rw [if_pos h2, if_pos (by omega)]
        have : j - off = (j - (off + 1)) + 1 := by omega
        rw [this, List.getElem?_cons_succ]
      · rw [if_neg h2, if_neg (by omega), Array.getElem?_setIfInBounds_ne (by omega)]

theorem setCell_heap (w : World) (c o : Nat) (v : Value) {cur : Array Value} {e : TypeId} (hc : w.heap[c]? = some (.cells cur e (0, 0))) :
    (w.setCell ⟨c, o, none⟩ v).heap = w.heap.setIfInBounds c (.cells (cur.setIfInBounds o v) e (0, 0)) := by
  unfold World.setCell
  apply Array.ext_getElem?
  intro j
  simp only [Array.getElem?_modify, Array.getElem?_setIfInBounds]
  obtain ⟨hlt, hv⟩ := Array.getElem?_eq_some_iff.1 hc
  by_cases e : c = j
  · subst e; simp [hv, hlt]
  · simp [e]

theorem run_storeCells {c : Nat} {e : TypeId} : ∀ (vs : List Value) (w : World) (cur : Array Value) (off i : Nat), w.heap[c]? = some (.cells cur e (0, 0)) → off + i + vs.length ≤ cur.size → (∀ v ∈ vs, one v = true) →
    ∃ w', (storeCells ⟨c, off, none⟩ vs i).run P w = .ok () w' ∧ w'.heap = w.heap.setIfInBounds c (.cells (putCells cur (off + i) vs) e (0, 0)) ∧ w'.os = w.os ∧ w'.output = w.output
  | [], w, cur, off, i, hc, _, _ => by
    refine ⟨w, rfl, ?_, rfl, rfl⟩
    apply Array.ext_getElem?
    intro j
    simp only [putCells, Array.getElem?_setIfInBounds]
    split
    · rename_i h; subst h
      obtain ⟨hlt, hv⟩ := Array.getElem?_eq_some_iff.1 hc
      simp [hv, hlt]
    · rfl
  | v :: vs, w, cur, off, i, hc, hl, h1 => by
    simp at hl
    have hv := h1 v (by simp)
    have hcell : w.cell? ⟨c, off + i, none⟩ = some cur[off + i] := by rw [cell_eq]; simp [cellAt, hc, show off + i < cur.size by omega]
    have hfr : w.frozen? ⟨c, off + i, none⟩ = false := by simp [World.frozen?, hc]
    have hst : (store ((⟨c, off, none⟩ : Addr).add i) v).run P w = .ok () (w.setCell ⟨c, off + i, none⟩ v) := by
      rw [addr_add]
      unfold store
      cases v <;> first | (simp [one] at hv; done) | simp [Sem.run, hcell, hfr]
    have hh := setCell_heap w c (off + i) v hc
    have hlt := (Array.getElem?_eq_some_iff.1 hc).1
    have hc' : (w.setCell ⟨c, off + i, none⟩ v).heap[c]? = some (.cells (cur.setIfInBounds (off + i) v) e (0, 0)) := by
      rw [hh, Array.getElem?_setIfInBounds_self_of_lt hlt]
    obtain ⟨w', hr, hw, hwo, hwp⟩ := run_storeCells vs (w.setCell ⟨c, off + i, none⟩ v) _ off (i + 1) hc' (by simp; omega) (fun u hu => h1 u (by simp [hu]))
    refine ⟨w', ?_, ?_, hwo, hwp⟩
    · simp only [storeCells, Sem.run_bind, hst, Result.andThen_ok, hr]
    · rw [hw, hh, Array.setIfInBounds_setIfInBounds]; rfl

/-- a row turned: elements from p on replaced -/
theorem row_put {h : Array Obj} {S : Nat → Prop} {c z g g' p : Nat} {fz fz' : Bool} {xs ys : List AV} {cur : Array Value} {e : TypeId} {us : List Value} {h' : Array Obj} {S' : Nat → Prop} {own' : Nat → Slot} {H' : List AObj}
    (hmono : ∀ v a, RepA h S own H v a → RepA h' S' own' H' v a)
    (ho : ObjRel h S own H c (.row z g fz xs)) (hc : h[c]? = some (.cells cur e (0, 0))) (hz : ∀ y ∈ ys, y.cells.length = z) (hu : Cells h' S' own' H' us (ys.flatMap AV.cells)) (hp : p ≤ xs.length) (hfit : p * z + us.length ≤ cur.size)
    (hc' : h'[c]? = some (.cells (putCells cur (p * z) us) e (0, 0))) : ObjRel h' S' own' H' c (.row z g' fz' (xs.take p ++ ys ++ xs.drop (p + ys.length))) := by
  obtain ⟨cur', e', hc2, hl, hz0, hzx, hx⟩ := ho
  rw [hc] at hc2; cases hc2
  have hul : us.length = ys.length * z := by rw [hu.1, flat_len hz]
  have hall : ∀ x ∈ xs.take p ++ ys ++ xs.drop (p + ys.length), x.cells.length = z := by
    intro x hx
    simp only [List.mem_append] at hx
    rcases hx with (hx | hx) | hx
    · exact hzx x (List.mem_of_mem_take hx)
    · exact hz x hx
    · exact hzx x (List.mem_of_mem_drop hx)
  refine ⟨_, e, hc', ?_, hz0, hall, fun i x j a hi hj => ?_⟩
  · rw [putCells_size]
    simp only [List.length_append, List.length_take, List.length_drop]
    rw [Nat.min_eq_left hp]
    rcases Nat.lt_or_ge xs.length (p + ys.length) with h1 | h1
    · have : p + ys.length + (xs.length - (p + ys.length)) = p + ys.length := by omega
      rw [this, Nat.add_mul]; omega
    · have : p + ys.length + (xs.length - (p + ys.length)) = xs.length := by omega
      rw [this]; exact hl
  · have hxz := hall x (List.mem_of_getElem? hi)
    have hjz : j < z := by have := (List.getElem?_eq_some_iff.1 hj).1; omega
    rw [putCells_get _ _ _ _ hfit]
    by_cases h1 : i < p
    · have hlt : i * z + j < p * z := by
        have : (i + 1) * z ≤ p * z := Nat.mul_le_mul_right z h1
        rw [Nat.add_mul] at this; omega
      rw [if_neg (by omega)]
      have hi' : xs[i]? = some x := by
        rw [List.append_assoc, List.getElem?_append_left (by simp; omega), List.getElem?_take, if_pos h1] at hi
        exact hi
      obtain ⟨v, g1, g2, g3⟩ := hx i x j a hi' hj
      exact ⟨v, g1, g2, hmono v a g3⟩
    · by_cases h2 : i < p + ys.length
      · have hin : p * z ≤ i * z + j := by
          have : p * z ≤ i * z := Nat.mul_le_mul_right z (by omega)
          omega
        have hin2 : i * z + j < p * z + us.length := by
          rw [hul, ← Nat.add_mul]
          have : (i + 1) * z ≤ (p + ys.length) * z := Nat.mul_le_mul_right z h2
          rw [Nat.add_mul i] at this; omega
        rw [if_pos ⟨hin, hin2⟩]
        have hi' : ys[i - p]? = some x := by
          rw [List.getElem?_append_left (by simp; omega), List.getElem?_append_right (by simp; omega)] at hi
          simpa [Nat.min_eq_left hp] using hi
        have hf := flat_get hz hi' hjz
        have e2 : i * z + j - p * z = (i - p) * z + j := by
          rw [Nat.sub_mul]
          have : p * z ≤ i * z := Nat.mul_le_mul_right z (by omega)
          omega
        rw [e2]
        have hlt : (i - p) * z + j < us.length := by omega
        obtain ⟨g1, g2⟩ := hu.2 _ us[(i - p) * z + j] a (List.getElem?_eq_getElem hlt) (hf.trans hj)
        exact ⟨_, List.getElem?_eq_getElem hlt, g1, g2⟩
      · have hin : p * z + us.length ≤ i * z + j := by
          rw [hul, ← Nat.add_mul]
          have : (p + ys.length) * z ≤ i * z := Nat.mul_le_mul_right z (by omega)
          omega
        rw [if_neg (by omega)]
        have hi' : xs[i]? = some x := by
          rw [List.getElem?_append_right (by simp; omega), List.getElem?_drop] at hi
          rw [← hi]; congr 1; simp [Nat.min_eq_left hp]; omega
        obtain ⟨v, g1, g2, g3⟩ := hx i x j a hi' hj
        exact ⟨v, g1, g2, hmono v a g3⟩

end Go.Ab
