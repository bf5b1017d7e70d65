/- What plain data stand for in a world: of the values, what the evaluator's data are in the machine's memory. What the evaluator's state says of a frame's temporaries and of a world. -/
import Derived.Test.YtjkjgloionfkgaaDoorEv
import Derived.Below
import Derived.Laws.Cells
import Derived.Laws.CopyRow

namespace Go.Abs
open Go.RowKit

abbrev Mem := Nat → Nat → Option Value

/-- A row of values, each of 'sz' cells, lies from an address on in memory that is not written again. -/
def RowAt (M : Mem) (a : Option Addr) (sz : Nat) (vs : List Value) : Prop :=
  vs = [] ∨ ∃ b o, a = some ⟨b, o, none⟩ ∧ ∀ i x, vs[i]? = some x → x.cells.size = sz ∧ ∀ j, j < sz → M b (o + i * sz + j) = x.cells[j]?

mutual
def RepP (M : Mem) : PV → Value → Prop
  | .bool b, x => x = .bool b
  | .int k n, x => x = .int k n
  | .str s, x => x = .string ⟨s.toArray⟩
  | .nilPtr, x => x = .pointer none
  | .nilIface, x => x = .nilIface
  | .nilFunc, x => x = .nilFunc
  | .nilMap, x => x = .map none
  | .iface t v, x => ∃ y, x = .iface t y ∧ RepP M v y
  | .agg cs, x => ∃ vs, x = .agg vs ∧ RepL M cs vs.toList ∧ ∀ y ∈ vs.toList, y.oneCell' = true
  | .slice sz xs, x => ∃ a c vs, x = .slice a xs.length c ∧ xs.length ≤ c ∧ RepL M xs vs ∧ RowAt M a sz vs
  | .nilS _, x => x = .slice none 0 0
  | .ptr v, x => ∃ b o y, x = .pointer (some ⟨b, o, none⟩) ∧ RepP M v y ∧ ∀ j, j < y.cells.size → M b (o + j) = y.cells[j]?
  | .fn f, x => x = .func (.func f) #[] #[]
def RepL (M : Mem) : List PV → List Value → Prop
  | [], [] => True
  | p :: ps, v :: vs => RepP M p v ∧ RepL M ps vs
  | _, _ => False
end

theorem RowAt.mono {M M' : Mem} (h : ∀ b o v, M b o = some v → M' b o = some v) {a sz vs} (hr : RowAt M a sz vs) : RowAt M' a sz vs := by
  rcases hr with h0 | ⟨b, o, ha, hr⟩
  · exact .inl h0
  · refine .inr ⟨b, o, ha, fun i x hx => ⟨(hr i x hx).1, fun j hj => ?_⟩⟩
    have h1 := (hr i x hx).2 j hj
    have hs := (hr i x hx).1
    have : x.cells[j]? = some (x.cells[j]'(by omega)) := Array.getElem?_eq_getElem (by omega)
    rw [this] at h1 ⊢
    exact h _ _ _ h1

mutual
theorem RepP.mono {M M' : Mem} (h : ∀ b o v, M b o = some v → M' b o = some v) : ∀ {p : PV} {x : Value}, RepP M p x → RepP M' p x
  | .bool _, _, hr | .int .., _, hr | .str _, _, hr | .nilPtr, _, hr | .nilIface, _, hr | .nilFunc, _, hr | .nilMap, _, hr | .nilS _, _, hr | .fn _, _, hr => by
    simpa [RepP] using hr
  | .iface t v, _, hr => by
    simp only [RepP] at hr ⊢
    obtain ⟨y, h1, h2⟩ := hr
    exact ⟨y, h1, RepP.mono h h2⟩
  | .agg cs, _, hr => by
    simp only [RepP] at hr ⊢
    obtain ⟨vs, h1, h2, h3⟩ := hr
    exact ⟨vs, h1, RepL.mono h h2, h3⟩
  | .slice sz xs, _, hr => by
    simp only [RepP] at hr ⊢
    obtain ⟨a, c, vs, h1, h2, h3, h4⟩ := hr
    exact ⟨a, c, vs, h1, h2, RepL.mono h h3, h4.mono h⟩
  | .ptr v, _, hr => by
    simp only [RepP] at hr ⊢
    obtain ⟨b, o, y, h1, h2, h3⟩ := hr
    refine ⟨b, o, y, h1, RepP.mono h h2, fun j hj => ?_⟩
    have h4 := h3 j hj
    rw [Array.getElem?_eq_getElem hj] at h4 ⊢
    exact h _ _ _ h4
theorem RepL.mono {M M' : Mem} (h : ∀ b o v, M b o = some v → M' b o = some v) : ∀ {ps : List PV} {vs : List Value}, RepL M ps vs → RepL M' ps vs
  | [], [], _ => by simp [RepL]
  | p :: ps, v :: vs, hr => by
    simp only [RepL] at hr ⊢
    exact ⟨RepP.mono h hr.1, RepL.mono h hr.2⟩
  | [], _ :: _, hr => by simp [RepL] at hr
  | _ :: _, [], hr => by simp [RepL] at hr
end

theorem RepL.length {M : Mem} : ∀ {ps : List PV} {vs : List Value}, RepL M ps vs → vs.length = ps.length
  | [], [], _ => rfl
  | p :: ps, v :: vs, h => by simp only [RepL] at h; simp [RepL.length h.2]
  | [], _ :: _, h => by simp [RepL] at h
  | _ :: _, [], h => by simp [RepL] at h
theorem RepL.get {M : Mem} : ∀ {ps : List PV} {vs : List Value}, RepL M ps vs → ∀ {i : Nat} {p : PV}, ps[i]? = some p → ∃ x, vs[i]? = some x ∧ RepP M p x
  | [], [], _, i, p, hi => by simp at hi
  | q :: ps, v :: vs, h, i, p, hi => by
    simp only [RepL] at h
    cases i with
    | zero => simp at hi; subst hi; exact ⟨v, by simp, h.1⟩
    | succ i => simp at hi ⊢; exact RepL.get h.2 hi
  | [], _ :: _, h, _, _, _ => by simp [RepL] at h
  | _ :: _, [], h, _, _, _ => by simp [RepL] at h
theorem RepL.append {M : Mem} : ∀ {ps qs : List PV} {vs ws : List Value}, RepL M ps vs → RepL M qs ws → RepL M (ps ++ qs) (vs ++ ws)
  | [], _, [], _, _, h => h
  | p :: ps, _, v :: vs, _, h, k => by simp only [RepL, List.cons_append] at h ⊢; exact ⟨h.1, RepL.append h.2 k⟩
  | [], _, _ :: _, _, h, _ => by simp [RepL] at h
  | _ :: _, _, [], _, h, _ => by simp [RepL] at h
theorem RepL.drop {M : Mem} : ∀ (n : Nat) {ps : List PV} {vs : List Value}, RepL M ps vs → RepL M (ps.drop n) (vs.drop n)
  | 0, _, _, h => h
  | n + 1, [], [], h => h
  | n + 1, p :: ps, v :: vs, h => by simp only [RepL, List.drop_succ_cons] at h ⊢; exact RepL.drop n h.2
  | _ + 1, [], _ :: _, h => by simp [RepL] at h
  | _ + 1, _ :: _, [], h => by simp [RepL] at h
theorem RepL.take {M : Mem} : ∀ (n : Nat) {ps : List PV} {vs : List Value}, RepL M ps vs → RepL M (ps.take n) (vs.take n)
  | 0, _, _, _ => by simp [RepL]
  | n + 1, [], [], h => by simpa using h
  | n + 1, p :: ps, v :: vs, h => by simp only [RepL, List.take_succ_cons] at h ⊢; exact ⟨h.1, RepL.take n h.2⟩
  | _ + 1, [], _ :: _, h => by simp [RepL] at h
  | _ + 1, _ :: _, [], h => by simp [RepL] at h
theorem RepL.set {M : Mem} {p : PV} {x : Value} (hp : RepP M p x) : ∀ (n : Nat) {ps : List PV} {vs : List Value}, RepL M ps vs → RepL M (ps.set n p) (vs.set n x)
  | _, [], [], h => by simpa using h
  | 0, q :: ps, v :: vs, h => by simp only [RepL, List.set_cons_zero] at h ⊢; exact ⟨hp, h.2⟩
  | n + 1, q :: ps, v :: vs, h => by simp only [RepL, List.set_cons_succ] at h ⊢; exact ⟨h.1, RepL.set hp n h.2⟩
  | _, [], _ :: _, h => by simp [RepL] at h
  | _, _ :: _, [], h => by simp [RepL] at h

/-! Values without rows that are owned: what is handed on. -/
mutual
def RepA (M : Mem) (B : List Nat) : AV → Value → Prop
  | .p v, x => RepP M v x
  | .ref l off, x => ∃ b, B[l]? = some b ∧ x = .pointer (some ⟨b, off, none⟩)
  | .mref l, x => ∃ b, B[l]? = some b ∧ x = .map (some b)
  | .fn f a c, x => ∃ va vc, x = .func (.func f) va vc ∧ RepAs M B a va.toList ∧ RepAs M B c vc.toList
  | .agg cs, x => ∃ vs, x = .agg vs ∧ RepAs M B cs vs.toList ∧ ∀ y ∈ vs.toList, y.oneCell' = true
  | .tup cs, x => ∃ vs, x = .tuple vs ∧ RepAs M B cs vs.toList
  | .sl xs, x => ∃ a c vs, x = .slice a xs.length c ∧ RepAs M B xs vs ∧ RowAt M a 1 vs ∧ ∀ y ∈ vs, y.oneCell' = true
  | .pt v, x => ∃ b o y, x = .pointer (some ⟨b, o, none⟩) ∧ M b o = some y ∧ RepA M B v y ∧ y.oneCell' = true
  | .undef, _ => True
  | .own .., _ => False
  | .lent _, _ => False
  | .eref .., _ => False
def RepAs (M : Mem) (B : List Nat) : List AV → List Value → Prop
  | [], [] => True
  | p :: ps, v :: vs => RepA M B p v ∧ RepAs M B ps vs
  | _, _ => False
end

mutual
theorem RepA.mono {M M' : Mem} {B B' : List Nat} (h : ∀ b o v, M b o = some v → M' b o = some v) (hB : ∀ (l b : Nat), B[l]? = some b → B'[l]? = some b) :
    ∀ {a : AV} {x : Value}, RepA M B a x → RepA M' B' a x
  | .p _, _, hr => by simp only [RepA] at hr ⊢; exact hr.mono h
  | .ref .., _, hr => by simp only [RepA] at hr ⊢; obtain ⟨b, h1, h2⟩ := hr; exact ⟨b, hB _ _ h1, h2⟩
  | .mref .., _, hr => by simp only [RepA] at hr ⊢; obtain ⟨b, h1, h2⟩ := hr; exact ⟨b, hB _ _ h1, h2⟩
  | .fn .., _, hr => by simp only [RepA] at hr ⊢; obtain ⟨a, c, h1, h2, h3⟩ := hr; exact ⟨a, c, h1, RepAs.mono h hB h2, RepAs.mono h hB h3⟩
  | .agg _, _, hr => by simp only [RepA] at hr ⊢; obtain ⟨a, h1, h2, h3⟩ := hr; exact ⟨a, h1, RepAs.mono h hB h2, h3⟩
  | .tup _, _, hr => by simp only [RepA] at hr ⊢; obtain ⟨a, h1, h2⟩ := hr; exact ⟨a, h1, RepAs.mono h hB h2⟩
  | .sl _, _, hr => by simp only [RepA] at hr ⊢; obtain ⟨a, c, vs, h1, h2, h3, h4⟩ := hr; exact ⟨a, c, vs, h1, RepAs.mono h hB h2, h3.mono h, h4⟩
  | .pt _, _, hr => by simp only [RepA] at hr ⊢; obtain ⟨b, o, y, h1, h2, h3, h4⟩ := hr; exact ⟨b, o, y, h1, h _ _ _ h2, RepA.mono h hB h3, h4⟩
  | .undef, _, _ => by simp [RepA]
  | .own .., _, hr => by simp [RepA] at hr
  | .lent _, _, hr => by simp [RepA] at hr
  | .eref .., _, hr => by simp [RepA] at hr
theorem RepAs.mono {M M' : Mem} {B B' : List Nat} (h : ∀ b o v, M b o = some v → M' b o = some v) (hB : ∀ (l b : Nat), B[l]? = some b → B'[l]? = some b) :
    ∀ {as : List AV} {xs : List Value}, RepAs M B as xs → RepAs M' B' as xs
  | [], [], _ => by simp [RepAs]
  | a :: as, x :: xs, hr => by simp only [RepAs] at hr ⊢; exact ⟨RepA.mono h hB hr.1, RepAs.mono h hB hr.2⟩
  | [], _ :: _, hr => by simp [RepAs] at hr
  | _ :: _, [], hr => by simp [RepAs] at hr
end
theorem RepAs.length {M : Mem} {B} : ∀ {ps : List AV} {vs : List Value}, RepAs M B ps vs → vs.length = ps.length
  | [], [], _ => rfl
  | p :: ps, v :: vs, h => by simp only [RepAs] at h; simp [RepAs.length h.2]
  | [], _ :: _, h => by simp [RepAs] at h
  | _ :: _, [], h => by simp [RepAs] at h
theorem RepAs.get {M : Mem} {B} : ∀ {ps : List AV} {vs : List Value}, RepAs M B ps vs → ∀ {i : Nat} {p : AV}, ps[i]? = some p → ∃ x, vs[i]? = some x ∧ RepA M B p x
  | [], [], _, i, p, hi => by simp at hi
  | q :: ps, v :: vs, h, i, p, hi => by
    simp only [RepAs] at h
    cases i with
    | zero => simp at hi; subst hi; exact ⟨v, by simp, h.1⟩
    | succ i => simp at hi ⊢; exact RepAs.get h.2 hi
  | [], _ :: _, h, _, _, _ => by simp [RepAs] at h
  | _ :: _, [], h, _, _, _ => by simp [RepAs] at h
theorem RepAs.append {M : Mem} {B} : ∀ {ps qs : List AV} {vs ws : List Value}, RepAs M B ps vs → RepAs M B qs ws → RepAs M B (ps ++ qs) (vs ++ ws)
  | [], _, [], _, _, h => h
  | p :: ps, _, v :: vs, _, h, k => by simp only [RepAs, List.cons_append] at h ⊢; exact ⟨h.1, RepAs.append h.2 k⟩
  | [], _, _ :: _, _, h, _ => by simp [RepAs] at h
  | _ :: _, _, [], _, h, _ => by simp [RepAs] at h
theorem RepAs.allP {M : Mem} {B} : ∀ {as : List AV} {ps : List PV} {vs : List Value}, Abs.allP as = some ps → (RepAs M B as vs ↔ RepL M ps vs)
  | [], ps, vs, h => by simp [Abs.allP] at h; subst h; cases vs <;> simp [RepAs, RepL]
  | .p v :: r, ps, vs, h => by
    simp only [Abs.allP] at h
    split at h
    · rename_i l hl
      simp at h; subst h
      cases vs with
      | nil => simp [RepAs, RepL]
      | cons x xs => simp [RepAs, RepL, RepA, RepAs.allP hl]
    · simp at h
  | .own .. :: _, _, _, h | .lent _ :: _, _, _, h | .eref .. :: _, _, _, h | .ref .. :: _, _, _, h | .mref _ :: _, _, _, h | .fn .. :: _, _, _, h | .agg _ :: _, _, _, h | .tup _ :: _, _, _, h | .sl _ :: _, _, _, h | .pt _ :: _, _, _, h | .undef :: _, _, _, h => by
    simp [Abs.allP] at h
theorem RepAs_mapP {M : Mem} {B} : ∀ {ps : List PV} {vs : List Value}, RepAs M B (ps.map AV.p) vs ↔ RepL M ps vs
  | [], vs => by cases vs <;> simp [RepAs, RepL]
  | p :: ps, [] => by simp [RepAs, RepL]
  | p :: ps, v :: vs => by simp [RepAs, RepL, RepA, RepAs_mapP]
theorem RepA_mkAgg {M : Mem} {B} {as : List AV} {vs : Array Value} (h : RepAs M B as vs.toList) (hs : ∀ y ∈ vs.toList, y.oneCell' = true) : RepA M B (mkAgg as) (.agg vs) := by
  unfold mkAgg
  split
  · rename_i l hl
    simp only [RepA, RepP]
    exact ⟨vs, rfl, (RepAs.allP hl).1 h, hs⟩
  · simp only [RepA]
    exact ⟨vs, rfl, h, hs⟩
end Go.Abs

namespace Go.Abs
open Go.RowKit
/-- Blocks that stand as they are from the start on. -/
class Base where
  H0 : Nat → Option Go.Obj
variable [Base]

inductive Own where
  | o (l : Nat) | k (κ : Key)
  deriving DecidableEq

/-- What the proof carries beside the state: the memory that is not written again, who may write a block, each object's block. -/
structure Gh where
  M : Mem
  Z : Nat → Option Own
  B : List Nat

/-- Where the variables and the operations' values lie among a frame's temporaries. -/
structure Fr where
  σ : List Nat
  τ : List (Option Nat)

def slotK (F : Fr) : Key → Option Nat
  | .v i => F.σ[i]?
  | .t j => (F.τ[j]?).bind id
  | .c _ _ => none

def cvK (F : Fr) (B : List Nat) (t : Array Value) (w : World) : Key → Option Value
  | .c l k => (B[l]?).bind fun b => w.cell? ⟨b, k, none⟩
  | κ => (slotK F κ).bind fun n => t[n]?

def OwnRep (G : Gh) (w : World) (κ : Key) (fz : Bool) (sz : Nat) (xs : List PV) (x : Value) : Prop :=
  (xs = [] ∧ ∃ a, x = .slice a 0 0) ∨
  ∃ b c vs arr T, x = .slice (some ⟨b, 0, none⟩) xs.length c ∧ xs.length ≤ c ∧ G.Z b = some (.k κ) ∧ RepL G.M xs vs ∧
    w.heap[b]? = some (.cells arr T (0, 0)) ∧ c * sz ≤ arr.size ∧
    (∀ (i : Nat) (y : Value), vs[i]? = some y → y.cells.size = sz ∧ ∀ j, j < sz → arr[i * sz + j]? = y.cells[j]?) ∧
    (fz = true → ∀ off, off < xs.length * sz → G.M b off = arr[off]?) ∧
    (∀ off, G.M b off ≠ none → fz = true ∧ off < xs.length * sz)

/-- A value in a cell: an owned row, or what may be handed on. -/
def RepC (G : Gh) (w : World) (κ : Key) : AV → Value → Prop
  | .own fz sz xs, x => OwnRep G w κ fz sz xs x
  | a, x => RepA G.M G.B a x

/-- A value in a variable or a temporary: loans too. -/
def RepT (F : Fr) (G : Gh) (s : St) (t : Array Value) (w : World) (κ : Key) : AV → Value → Prop
  | .own fz sz xs, x => OwnRep G w κ fz sz xs x
  | .lent k, x => cvK F G.B t w k = some x ∧ isOwn (getK s k) = true
  | .eref k i off, x => ∃ b n c fz sz xs, cvK F G.B t w k = some (.slice (some ⟨b, 0, none⟩) n c) ∧ getK s k = .own fz sz xs ∧ i < xs.length ∧
      x = .pointer (some ⟨b, i * sz + off, none⟩)
  | a, x => RepA G.M G.B a x

def MapRep (M : Mem) (es : List PV) (cs : Array MapEntry) : Prop :=
  es.length = cs.size ∧ ∀ (i : Nat) (e : PV), es[i]? = some e → ∃ k v m, e = .agg [.str k, v] ∧ cs[i]? = some m ∧ m.key = .string ⟨k.toArray⟩ ∧ RepP M v m.val ∧ m.val.oneCell' = true

def ObjRep (G : Gh) (w : World) (l b : Nat) (o : Obj) : Prop :=
  match o.kind with
  | .box => ∃ arr T, w.heap[b]? = some (.cells arr T (0, 0)) ∧ arr.size = o.cells.length ∧
      ∀ (k : Nat) (a : AV), o.cells[k]? = some a → ∃ x, arr[k]? = some x ∧ x.oneCell' = true ∧ RepC G w (.c l k) a x
  | .iter => ∃ s pos, o.cells = [.p (.str s), .p (.int .i64 pos)] ∧ 0 ≤ pos ∧ w.heap[b]? = some (.stringIter ⟨s.toArray⟩ pos.toNat)
  | .map => ∃ es cs clock, o.cells = [.p (.slice 2 es)] ∧ w.heap[b]? = some (.map cs clock) ∧ MapRep G.M es cs ∧ (∀ (i : Nat) (m : MapEntry), cs[i]? = some m → m.born < clock)

structure R (F : Fr) (G : Gh) (s : St) (t : Array Value) (w : World) : Prop where
  agree : ∀ b o v, G.M b o = some v → w.cell? ⟨b, o, none⟩ = some v
  freshM : ∀ b o, G.M b o ≠ none → b < w.heap.size
  base : ∀ b o, Base.H0 b = some o → w.heap[b]? = some o ∧ G.Z b = none
  freshZ : ∀ b, G.Z b ≠ none → b < w.heap.size
  hB : G.B.length = s.heap.length
  inj : ∀ κ κ' n, slotK F κ = some n → slotK F κ' = some n → κ = κ'
  vars : ∀ (i : Nat) (a : AV), s.vars[i]? = some a → ∃ n x, F.σ[i]? = some n ∧ t[n]? = some x ∧ RepT F G s t w (.v i) a x
  tmps : ∀ (j : Nat) (a : AV), s.tmps[j]? = some a → a = .undef ∨ ∃ n x, slotK F (.t j) = some n ∧ t[n]? = some x ∧ RepT F G s t w (.t j) a x
  objs : ∀ (l : Nat) (o : Obj), s.heap[l]? = some o → ∃ b, G.B[l]? = some b ∧ G.Z b = some (.o l) ∧ (∀ off, G.M b off = none) ∧ ObjRep G w l b o

structure Ext (G : Gh) (w : World) (G' : Gh) (w' : World) : Prop where
  os : w'.os = w.os
  tape : w'.tape = w.tape
  output : w'.output = w.output
  size : w.heap.size ≤ w'.heap.size
  mono : ∀ b o v, G.M b o = some v → G'.M b o = some v
  unowned : ∀ b, b < w.heap.size → G.Z b = none → w'.heap[b]? = w.heap[b]? ∧ G'.Z b = none ∧ ∀ off, G'.M b off = G.M b off
  pre : ∀ (l b : Nat), G.B[l]? = some b → G'.B[l]? = some b

omit [Base] in
theorem Ext.refl (G : Gh) (w : World) : Ext G w G w := ⟨rfl, rfl, rfl, Nat.le_refl _, fun _ _ _ h => h, fun _ _ h => ⟨rfl, h, fun _ => rfl⟩, fun _ _ h => h⟩
omit [Base] in
theorem Ext.trans {G G1 G2 : Gh} {w w1 w2 : World} (h : Ext G w G1 w1) (k : Ext G1 w1 G2 w2) : Ext G w G2 w2 where
  os := k.os.trans h.os
  tape := k.tape.trans h.tape
  output := k.output.trans h.output
  size := Nat.le_trans h.size k.size
  mono := fun b o v hv => k.mono _ _ _ (h.mono _ _ _ hv)
  unowned := fun b hb hz => by
    obtain ⟨h1, h2, h3⟩ := h.unowned b hb hz
    obtain ⟨k1, k2, k3⟩ := k.unowned b (Nat.lt_of_lt_of_le hb h.size) h2
    exact ⟨k1.trans h1, k2, fun off => (k3 off).trans (h3 off)⟩
  pre := fun l b hl => k.pre _ _ (h.pre _ _ hl)
omit [Base] in
theorem Ext.drew {G G' : Gh} {w w' : World} (h : Ext G w G' w') : Ext G w G' w'.drew := ⟨h.os, h.tape, h.output, h.size, h.mono, h.unowned, h.pre⟩

/-! ## What stays -/
omit [Base] in
theorem OwnRep.keep {G G' : Gh} {w w' : World} {κ fz sz xs x} (h : OwnRep G w κ fz sz xs x)
    (hm : ∀ b o v, G.M b o = some v → G'.M b o = some v)
    (hz : ∀ b, G.Z b = some (.k κ) → G'.Z b = some (.k κ) ∧ w'.heap[b]? = w.heap[b]? ∧ ∀ off, G'.M b off = G.M b off) : OwnRep G' w' κ fz sz xs x := by
  rcases h with h | ⟨b, c, vs, arr, T, h1, h2, h3, h4, h5, h6, h7, h8, h9⟩
  · exact .inl h
  · obtain ⟨k1, k2, k3⟩ := hz b h3
    refine .inr ⟨b, c, vs, arr, T, h1, h2, k1, h4.mono hm, by rw [k2]; exact h5, h6, h7, fun hf off ho => by rw [k3]; exact h8 hf off ho, fun off ho => h9 off (by rw [← k3]; exact ho)⟩

omit [Base] in
theorem RepC.keep {G G' : Gh} {w w' : World} {κ a x} (h : RepC G w κ a x)
    (hm : ∀ b o v, G.M b o = some v → G'.M b o = some v) (hB : ∀ (l b : Nat), G.B[l]? = some b → G'.B[l]? = some b)
    (hz : ∀ b, G.Z b = some (.k κ) → G'.Z b = some (.k κ) ∧ w'.heap[b]? = w.heap[b]? ∧ ∀ off, G'.M b off = G.M b off) : RepC G' w' κ a x := by
  cases a <;> simp only [RepC] at h ⊢ <;> first | exact h.keep hm hz | exact RepA.mono hm hB h

def loanOf : AV → Option Key
  | .lent k => some k
  | .eref k _ _ => some k
  | _ => none

omit [Base] in
theorem RepT.keep {F : Fr} {G G' : Gh} {s s' : St} {t t' : Array Value} {w w' : World} {κ a x} (h : RepT F G s t w κ a x)
    (hm : ∀ b o v, G.M b o = some v → G'.M b o = some v) (hB : ∀ (l b : Nat), G.B[l]? = some b → G'.B[l]? = some b)
    (hz : ∀ b, G.Z b = some (.k κ) → G'.Z b = some (.k κ) ∧ w'.heap[b]? = w.heap[b]? ∧ ∀ off, G'.M b off = G.M b off)
    (hl : ∀ k, loanOf a = some k → isOwn (getK s k) = true → getK s' k = getK s k ∧ cvK F G'.B t' w' k = cvK F G.B t w k) : RepT F G' s' t' w' κ a x := by
  cases a with
  | own fz sz xs => simp only [RepT] at h ⊢; exact h.keep hm hz
  | lent k =>
    simp only [RepT] at h ⊢
    obtain ⟨h1, h2⟩ := hl k rfl h.2
    exact ⟨h2.trans h.1, by rw [h1]; exact h.2⟩
  | eref k i off =>
    simp only [RepT] at h ⊢
    obtain ⟨b, n, c, fz, sz, xs, e1, e2, e3, e4⟩ := h
    obtain ⟨h1, h2⟩ := hl k rfl (by rw [e2]; rfl)
    exact ⟨b, n, c, fz, sz, xs, h2.trans e1, h1.trans e2, e3, e4⟩
  | _ => simp only [RepT] at h ⊢; exact RepA.mono hm hB h

omit [Base] in
theorem MapRep.mono {M M' : Mem} (hm : ∀ b o v, M b o = some v → M' b o = some v) {es cs} (h : MapRep M es cs) : MapRep M' es cs := by
  refine ⟨h.1, fun i e he => ?_⟩
  obtain ⟨k, v, m, h1, h2, h3, h4, h5⟩ := h.2 i e he
  exact ⟨k, v, m, h1, h2, h3, h4.mono hm, h5⟩

omit [Base] in
theorem ObjRep.keep {G G' : Gh} {w w' : World} {l b o} (h : ObjRep G w l b o)
    (hm : ∀ b o v, G.M b o = some v → G'.M b o = some v) (hB : ∀ (l b : Nat), G.B[l]? = some b → G'.B[l]? = some b)
    (hw : w'.heap[b]? = w.heap[b]?)
    (hz : ∀ k b, G.Z b = some (.k (.c l k)) → G'.Z b = some (.k (.c l k)) ∧ w'.heap[b]? = w.heap[b]? ∧ ∀ off, G'.M b off = G.M b off) : ObjRep G' w' l b o := by
  unfold ObjRep at h ⊢
  split
  · rename_i hk
    simp only [hk] at h
    obtain ⟨arr, T, h1, h2, h3⟩ := h
    refine ⟨arr, T, by rw [hw]; exact h1, h2, fun k a ha => ?_⟩
    obtain ⟨x, e1, e2, e3⟩ := h3 k a ha
    exact ⟨x, e1, e2, e3.keep hm hB (hz k)⟩
  · rename_i hk
    simp only [hk] at h
    obtain ⟨st, pos, h1, h2, h3⟩ := h
    exact ⟨st, pos, h1, h2, by rw [hw]; exact h3⟩
  · rename_i hk
    simp only [hk] at h
    obtain ⟨es, cs, clock, h1, h2, h3, h4⟩ := h
    exact ⟨es, cs, clock, h1, by rw [hw]; exact h2, h3.mono hm, h4⟩

/-! ## Keys -/
omit [Base] in
theorem getK_v (s : St) (i : Nat) : getK s (.v i) = s.vars.getD i .undef := rfl
omit [Base] in
theorem getK_t (s : St) (j : Nat) : getK s (.t j) = s.tmps.getD j .undef := rfl

omit [Base] in
theorem getD_set_ne {α : Type} (l : List α) (i j : Nat) (a d : α) (h : i ≠ j) : (l.set i a).getD j d = l.getD j d := by
  simp [List.getD_eq_getElem?_getD, h]
omit [Base] in
theorem getD_set_eq {α : Type} (l : List α) (i : Nat) (a d : α) (h : i < l.length) : (l.set i a).getD i d = a := by
  simp [List.getD_eq_getElem?_getD, h]

omit [Base] in
theorem getK_setK_ne (s : St) (κ κ' : Key) (a : AV) (h : κ ≠ κ') : getK (setK s κ a) κ' = getK s κ' := by
  cases κ with
  | v i => cases κ' with
    | v j => simp only [setK, getK]; exact getD_set_ne _ _ _ _ _ (fun e => h (by rw [e]))
    | t j => rfl
    | c l k => rfl
  | t i => cases κ' with
    | t j => simp only [setK, getK]; exact getD_set_ne _ _ _ _ _ (fun e => h (by rw [e]))
    | v j => rfl
    | c l k => rfl
  | c l k => cases κ' with
    | v j => rfl
    | t j => rfl
    | c m n =>
      simp only [setK, getK, List.getElem?_modify]
      by_cases hl : l = m
      · subst hl
        cases s.heap[l]? with
        | none => rfl
        | some o => simp only [Option.map_eq_map, Option.map_some, Option.getD_some, if_true]; exact getD_set_ne _ _ _ _ _ (fun e => h (by rw [e]))
      · simp [hl]

omit [Base] in
theorem getK_dropK (s : St) (k κ : Key) : getK (inval s k) κ = dropK k (getK s κ) ∨ getK (inval s k) κ = getK s κ := by
  cases κ with
  | v i => left; simp only [inval, getK, List.getD_eq_getElem?_getD, List.getElem?_map]; cases s.vars[i]? <;> rfl
  | t i => left; simp only [inval, getK, List.getD_eq_getElem?_getD, List.getElem?_map]; cases s.tmps[i]? <;> rfl
  | c l k => right; rfl
omit [Base] in
theorem isOwn_dropK (k : Key) (a : AV) : isOwn (dropK k a) = isOwn a := by
  cases a with
  | lent k' => by_cases h : k' = k <;> simp [dropK, isOwn, h]
  | eref k' i o => by_cases h : k' = k <;> simp [dropK, isOwn, h]
  | _ => rfl
omit [Base] in
theorem dropK_own (k : Key) (a : AV) (h : isOwn a = true) : dropK k a = a := by
  cases a <;> simp_all [dropK, isOwn]
omit [Base] in
theorem getK_inval_own (s : St) (k κ : Key) (h : isOwn (getK s κ) = true) : getK (inval s k) κ = getK s κ := by
  rcases getK_dropK s k κ with h1 | h1
  · rw [h1, dropK_own _ _ h]
  · exact h1

omit [Base] in
theorem loanOf_dropK (k : Key) (a : AV) : loanOf (dropK k a) ≠ some k := by
  cases a with
  | lent k' => by_cases h : k' = k <;> simp [dropK, loanOf, h]
  | eref k' i o => by_cases h : k' = k <;> simp [dropK, loanOf, h]
  | _ => simp [dropK, loanOf]
omit [Base] in
theorem RepT.drop {F G s t w κ a x} (k : Key) (h : RepT F G s t w κ a x) : RepT F G s t w κ (dropK k a) x := by
  cases a with
  | lent k' => by_cases e : k' = k <;> simp [dropK, e, RepT, RepA] ; simpa [RepT] using h
  | eref k' i o => by_cases e : k' = k <;> simp [dropK, e, RepT, RepA] ; simpa [RepT] using h
  | _ => exact h

def NoLoan (s : St) (κ : Key) : Prop := (∀ a ∈ s.vars, loanOf a ≠ some κ) ∧ ∀ a ∈ s.tmps, loanOf a ≠ some κ
omit [Base] in
theorem inval_noLoan (s : St) (κ : Key) : NoLoan (inval s κ) κ := by
  constructor <;> (intro a ha; simp only [inval, List.mem_map] at ha; obtain ⟨a', _, rfl⟩ := ha; exact loanOf_dropK _ _)
theorem R.noLoan {F G s t w} (hR : R F G s t w) {κ : Key} (h : isOwn (getK s κ) = false) : NoLoan s κ := by
  have key : ∀ κ' a x, RepT F G s t w κ' a x → loanOf a ≠ some κ := by
    intro κ' a x hr e
    cases a <;> simp only [loanOf, Option.some.injEq, reduceCtorEq] at e
    · subst e; simp only [RepT] at hr; rw [hr.2] at h; simp at h
    · subst e; simp only [RepT] at hr; obtain ⟨_, _, _, _, _, _, _, e2, _⟩ := hr; rw [e2] at h; simp [isOwn] at h
  constructor
  · intro a ha
    obtain ⟨i, hi⟩ := List.mem_iff_getElem?.1 ha
    obtain ⟨n, x, _, _, hr⟩ := hR.vars i a hi
    exact key _ _ _ hr
  · intro a ha
    obtain ⟨i, hi⟩ := List.mem_iff_getElem?.1 ha
    rcases hR.tmps i a hi with rfl | ⟨n, x, _, _, hr⟩
    · simp [loanOf]
    · exact key _ _ _ hr

omit [Base] in
theorem RepT.state {F G s s' t w κ a x} (h : RepT F G s t w κ a x) (hg : ∀ k, isOwn (getK s k) = true → getK s' k = getK s k) : RepT F G s' t w κ a x :=
  h.keep (fun _ _ _ h => h) (fun _ _ h => h) (fun _ h => ⟨h, rfl, fun _ => rfl⟩) (fun k _ ho => ⟨hg k ho, rfl⟩)

theorem R.inval {F G s t w} (hR : R F G s t w) (κ : Key) : R F G (inval s κ) t w where
  agree := hR.agree
  freshM := hR.freshM
  base := hR.base
  freshZ := hR.freshZ
  hB := hR.hB
  inj := hR.inj
  vars := fun i a hi => by
    simp only [Abs.inval, List.getElem?_map, Option.map_eq_some_iff] at hi
    obtain ⟨a', h1, rfl⟩ := hi
    obtain ⟨n, x, e1, e2, e3⟩ := hR.vars i a' h1
    exact ⟨n, x, e1, e2, (e3.drop κ).state fun k hk => getK_inval_own _ _ _ hk⟩
  tmps := fun i a hi => by
    simp only [Abs.inval, List.getElem?_map, Option.map_eq_some_iff] at hi
    obtain ⟨a', h1, rfl⟩ := hi
    rcases hR.tmps i a' h1 with rfl | ⟨n, x, e1, e2, e3⟩
    · exact .inl rfl
    · exact .inr ⟨n, x, e1, e2, (e3.drop κ).state fun k hk => getK_inval_own _ _ _ hk⟩
  objs := hR.objs

omit [Base] in
theorem cvK_set_ne {F : Fr} {B : List Nat} {t : Array Value} {w : World} {κ κ' : Key} {n : Nat} {x : Value} (hκ : slotK F κ = some n)
    (hinj : ∀ κ κ' n, slotK F κ = some n → slotK F κ' = some n → κ = κ') (hne : κ' ≠ κ) : cvK F B (t.setIfInBounds n x) w κ' = cvK F B t w κ' := by
  have key : ∀ m, slotK F κ' = some m → (t.setIfInBounds n x)[m]? = t[m]? := by
    intro m hm
    have : n ≠ m := fun e => hne (hinj _ _ _ hm (by rw [hκ, e]))
    simp [this]
  cases κ' with
  | v i => simp only [cvK]; cases h : slotK F (.v i) with
    | none => rfl
    | some m => simp [key m h]
  | t i => simp only [cvK]; cases h : slotK F (.t i) with
    | none => rfl
    | some m => simp [key m h]
  | c l k => rfl

/-- A value is laid into a variable or a temporary to which nothing is on loan. -/
theorem R.setSlot {F G s t w} (hR : R F G s t w) {κ : Key} {n : Nat} (hκ : slotK F κ = some n) (hn : n < t.size) (hno : NoLoan s κ) {a : AV} {x : Value}
    (ha : RepT F G s t w κ a x) (hl : loanOf a ≠ some κ) : R F G (setK s κ a) (t.setIfInBounds n x) w := by
  have hk : ∀ κ', κ' ≠ κ → getK (setK s κ a) κ' = getK s κ' := fun κ' h => getK_setK_ne _ _ _ _ (fun e => h e.symm)
  have hc : ∀ κ', κ' ≠ κ → cvK F G.B (t.setIfInBounds n x) w κ' = cvK F G.B t w κ' := fun κ' h => cvK_set_ne hκ hR.inj h
  have keep : ∀ κ' b y, loanOf b ≠ some κ → RepT F G s t w κ' b y → RepT F G (setK s κ a) (t.setIfInBounds n x) w κ' b y := fun κ' b y hb h =>
    h.keep (fun _ _ _ h => h) (fun _ _ h => h) (fun _ h => ⟨h, rfl, fun _ => rfl⟩) (fun k e _ => by
      have : k ≠ κ := fun e' => hb (by rw [e, e'])
      exact ⟨hk k this, hc k this⟩)
  have hsl : ∀ κ' m, slotK F κ' = some m → κ' ≠ κ → (t.setIfInBounds n x)[m]? = t[m]? := by
    intro κ' m hm hne
    have : n ≠ m := fun e => hne (hR.inj _ _ _ hm (by rw [hκ, e]))
    simp [this]
  have hself : (t.setIfInBounds n x)[n]? = some x := by simp [hn]
  refine ⟨hR.agree, hR.freshM, hR.base, hR.freshZ, ?_, hR.inj, ?_, ?_, ?_⟩
  · cases κ <;> first | exact hR.hB | simp [slotK] at hκ
  · intro i b hb
    cases κ with
    | v j =>
      simp only [setK, List.getElem?_set] at hb
      by_cases e : j = i
      · subst e
        simp only [if_true] at hb
        split at hb
        · simp at hb; subst hb
          exact ⟨n, x, by simpa [slotK] using hκ, hself, keep _ _ _ hl ha⟩
        · simp at hb
      · simp only [e, if_false] at hb
        obtain ⟨m, y, e1, e2, e3⟩ := hR.vars i b hb
        exact ⟨m, y, e1, by rw [hsl (.v i) m (by simpa [slotK] using e1) (fun h => e (by injection h with h; exact h.symm))]; exact e2, keep _ _ _ (hno.1 b (List.mem_of_getElem? hb)) e3⟩
    | t j =>
      obtain ⟨m, y, e1, e2, e3⟩ := hR.vars i b hb
      exact ⟨m, y, e1, by rw [hsl (.v i) m (by simpa [slotK] using e1) (by simp)]; exact e2, keep _ _ _ (hno.1 b (List.mem_of_getElem? hb)) e3⟩
    | c l k => simp [slotK] at hκ
  · intro i b hb
    cases κ with
    | t j =>
      simp only [setK, List.getElem?_set] at hb
      by_cases e : j = i
      · subst e
        simp only [if_true] at hb
        split at hb
        · simp at hb; subst hb
          exact .inr ⟨n, x, hκ, hself, keep _ _ _ hl ha⟩
        · simp at hb
      · simp only [e, if_false] at hb
        rcases hR.tmps i b hb with h0 | ⟨m, y, e1, e2, e3⟩
        · exact .inl h0
        · exact .inr ⟨m, y, e1, by rw [hsl (.t i) m e1 (fun h => e (by injection h with h; exact h.symm))]; exact e2, keep _ _ _ (hno.2 b (List.mem_of_getElem? hb)) e3⟩
    | v j =>
      rcases hR.tmps i b hb with h0 | ⟨m, y, e1, e2, e3⟩
      · exact .inl h0
      · exact .inr ⟨m, y, e1, by rw [hsl (.t i) m e1 (by simp)]; exact e2, keep _ _ _ (hno.2 b (List.mem_of_getElem? hb)) e3⟩
    | c l k => simp [slotK] at hκ
  · cases κ with
    | c l k => simp [slotK] at hκ
    | v j => exact hR.objs
    | t j => exact hR.objs

theorem R.putSlot {F G s t w} (hR : R F G s t w) {κ : Key} {n : Nat} (hκ : slotK F κ = some n) (hn : n < t.size) {a : AV} {x : Value}
    (ha : RepT F G s t w κ a x) (hl : loanOf a ≠ some κ) : R F G (putK s κ a) (t.setIfInBounds n x) w := by
  unfold putK
  by_cases ho : isOwn (getK s κ) = true
  · rw [if_pos ho]
    exact (hR.inval κ).setSlot hκ hn (inval_noLoan s κ) (ha.state fun k hk => getK_inval_own _ _ _ hk) hl
  · rw [if_neg ho]
    exact hR.setSlot hκ hn (hR.noLoan (by simpa using ho)) ha hl
end Go.Abs
