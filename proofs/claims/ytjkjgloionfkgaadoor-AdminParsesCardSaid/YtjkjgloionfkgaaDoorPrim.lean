/- Primitives: what a contract of the shelf gives. -/
import Derived.Test.YtjkjgloionfkgaaDoorFun
import Derived.Test.YtjkjgloionfkgaaDoorLim
import Derived.ChangeAgain
import Derived.Lib.LaidTab
import Derived.Lib.LaidU8
import Derived.WalkSmall
import Derived.Sort.Grow
import Derived.Lib.ConvBytes

namespace Go.Abs
open Go.RowKit Go.Sort

theorem EV_sound [Base] {P : Program} {mt : Meths} (hmt : MethsOk P mt) (hmix : P.follows .mixedOrders = true) {prim : Nat → Option (List AV → List Obj → Option (AV × List Obj))} (hp : PrimSound P prim)
    {funs : Nat → Option AFun} (hf : ∀ f F, funs f = some F → matchFun P mt f F = true) : CallSound P (EV prim funs) := by
  intro f args h r h' he
  obtain ⟨n, hn⟩ := EV_some prim funs |>.1 he
  exact evFun_sound hmt hmix hp hf n n f args h r h' hn

/-- A world that has grown alone. -/
theorem R.below [Base] {F G s t w} (hR : R F G s t w) {w' : World} (hb : Below w.heap.size w w') : R F G s t w' ∧ Ext G w G w' :=
  ⟨hR.grow rfl (fun _ _ _ h => h) (fun b hb' => ⟨hb.block b hb', rfl, fun _ => rfl⟩) (fun b o v h1 h2 => by rw [hR.m_none h1] at h2; simp at h2)
      (fun b o h => Nat.lt_of_lt_of_le (hR.freshM b o h) hb.size) (fun b h => Nat.lt_of_lt_of_le (hR.freshZ b h) hb.size),
    ⟨hb.os, hb.tape, hb.output, hb.size, fun _ _ _ h => h, fun b h1 h2 => ⟨hb.block b h1, h2, fun _ => rfl⟩, fun _ _ h => h⟩⟩

theorem below_grow {B : Nat} {a w : World} (h : Below B a w) (hB : B ≤ w.heap.size) (os : Array Go.Obj) : Below B a (grow w os) := by
  refine h.trans ⟨rfl, rfl, rfl, by simp [grow], fun k hk => ?_⟩
  simp only [grow]
  rw [Array.getElem?_append_left (by omega)]
theorem below_bytes {w : World} {e : TypeId} {s : ByteArray} : Below w.heap.size w (Lib.bytesWorld w e s) := by
  unfold Lib.bytesWorld
  have h1 : Below w.heap.size w (w.drew.alloc (.cells (Lib.bytesCells w e s) e)) := (Below.refl _ _).drew.alloc (Nat.le_refl _) _
  refine h1.trans ?_
  generalize hx : w.drew.alloc (.cells (Lib.bytesCells w e s) e) = x
  unfold World.freeze
  split
  · exact Below.refl _ _
  · refine ⟨rfl, rfl, rfl, by simp, fun k hk => ?_⟩
    simp only [Array.getElem?_modify]
    rw [if_neg (by omega)]

/-- The blocks of a first world stand as they were. -/
def Kept (W w : World) : Prop := ∀ b, b < W.heap.size → w.heap[b]? = W.heap[b]?
abbrev baseOf (W : World) : Base := ⟨fun b => W.heap[b]?⟩
theorem R.kept {W : World} {F G s t w} (hR : @R (baseOf W) F G s t w) : Kept W w := fun b hb =>
  ((@R.base (baseOf W) F G s t w hR b W.heap[b] (Array.getElem?_eq_getElem hb)).1).trans (Array.getElem?_eq_getElem hb).symm
theorem R.size_le {W : World} {F G s t w} (hR : @R (baseOf W) F G s t w) : W.heap.size ≤ w.heap.size := by
  rcases Nat.eq_zero_or_pos W.heap.size with h | h
  · rw [h]; exact Nat.zero_le _
  · have hlt : W.heap.size - 1 < W.heap.size := by omega
    have h1 : w.heap[W.heap.size - 1]? = some W.heap[W.heap.size - 1] := (R.kept hR (W.heap.size - 1) hlt).trans (Array.getElem?_eq_getElem hlt)
    obtain ⟨h2, _⟩ := Array.getElem?_eq_some_iff.1 h1
    omega
theorem Kept.shaped {P : Program} {W w : World} (h : Kept W w) (hs : W.heap.size ≤ w.heap.size) (hS : W.ShapedOpen P) : w.ShapedOpen P := by
  have hb : Below W.heap.size W { w with os := W.os, output := W.output, tape := W.tape } := ⟨rfl, rfl, rfl, hs, h⟩
  exact (hS.keptBut (hb.frame (fun _ => False)) (fun p hp => hp.elim)).of_heap rfl
theorem Kept.var {P : Program} {W w : World} (h : Kept W w) {n : String} {cs : Array Value} (hv : W.var? P n = some cs) : w.var? P n = some cs := by
  unfold World.var? at hv ⊢
  simp only [Option.bind_eq_some_iff] at hv ⊢
  obtain ⟨g, h1, h2⟩ := hv
  refine ⟨g, h1, ?_⟩
  have : g < W.heap.size := by
    rcases Nat.lt_or_ge g W.heap.size with h | h
    · exact h
    · rw [Array.getElem?_eq_none h] at h2; simp at h2
  rw [h g this]; exact h2
theorem Kept.cell {W w : World} (h : Kept W w) {a : Addr} {v : Value} (hc : W.cell? a = some v) : w.cell? a = some v := by
  have : a.block < W.heap.size := by
    rcases Nat.lt_or_ge a.block W.heap.size with h | h
    · exact h
    · simp [World.cell?, Array.getElem?_eq_none h] at hc
  rw [World.cell?_of_block (h _ this)]; exact hc
theorem Kept.u8 {W w : World} (h : Kept W w) {g3 g4 : Nat} (hu : Lib.Utf8Tabs g3 g4 W) : Lib.Utf8Tabs g3 g4 w :=
  ⟨fun c hc => h.cell (hu.1 c hc), fun i hi => ⟨h.cell (hu.2 i hi).1, h.cell (hu.2 i hi).2⟩⟩

/-- What a primitive that makes no rows owes. -/
theorem prim_plain [Base] {P : Program} {f : Nat} {vs : List Value} {w : World} {G : Gh} {h' : List Obj} {r : AV} {v : Value} (hR : R F0 G (S0 h') #[] w)
    (hC : Go.Calls P f vs.toArray w fun e w' => e = .returned v ∧ Below w.heap.size w w') (hr : isOwn r = false ∧ RepA G.M G.B r v) :
    Go.Calls P f vs.toArray w fun e w' => ∃ v G', e = .returned v ∧ R F0 G' (S0 h') #[] w' ∧ RepC G' w' (.t 0) r v ∧ Ext G w G' w' := by
  refine hC.mono fun e w' ⟨he, hb⟩ => ?_
  obtain ⟨k1, k2⟩ := hR.below hb
  refine ⟨v, G, he, k1, ?_, k2⟩
  obtain ⟨h1, h2⟩ := hr
  cases r <;> first | exact h2 | simp [isOwn] at h1
theorem RepL_strs (M : Mem) : ∀ l : List (List UInt8), RepL M (l.map PV.str) (l.map fun x => Value.string ⟨x.toArray⟩)
  | [] => by simp [RepL]
  | a :: r => by simp only [List.map_cons, RepL, RepP, true_and]; exact RepL_strs M r
/-- What a primitive that gives a row of texts owes. -/
theorem prim_row [Base] {P : Program} {f : Nat} {vs : List Value} {w : World} {G : Gh} {h' : List Obj} {T : TypeId} {l : List (List UInt8)} (hR : R F0 G (S0 h') #[] w)
    (hC : Go.Calls P f vs.toArray w fun e w' => e = .returned (.slice (some ⟨w.heap.size, 0, none⟩) l.length l.length) ∧ w' = w.alloc (.cells (l.map fun x => Value.string ⟨x.toArray⟩).toArray T)) :
    Go.Calls P f vs.toArray w fun e w' => ∃ v G', e = .returned v ∧ R F0 G' (S0 h') #[] w' ∧ RepC G' w' (.t 0) (.p (.slice 1 (l.map PV.str))) v ∧ Ext G w G' w' := by
  refine hC.mono fun e w' ⟨he, hw⟩ => ?_
  subst hw
  have hv := RepL_strs G.M l
  obtain ⟨r1, r2, r3⟩ := hR.newRow (.t 0) true 1 (l.map fun x => Value.string ⟨x.toArray⟩).toArray T (xs := l.map PV.str) (vs := l.map fun x => Value.string ⟨x.toArray⟩) l.length (by simp) hv (by simp) (by
    intro i y hy
    simp only [List.getElem?_map, Option.map_eq_some_iff] at hy
    obtain ⟨x, hx, rfl⟩ := hy
    refine ⟨rfl, fun j hj => ?_⟩
    obtain rfl : j = 0 := by omega
    simp [hx, Value.cells])
  refine ⟨_, _, he, r1, ?_, r3⟩
  simp only [RepC, RepA]
  have := r2.toP rfl
  simpa only [List.length_map] using this
end Go.Abs
