/- How a state's meaning passes over to a new state: new memory, a store into a cell, an owner that changes. Owners that change, rows that are read, values that are handed on. The machine's loads and stores at what the evaluator knows; values taken out of their places. -/
import Derived.Test.YtjkjgloionfkgaaDoorRep

namespace Go.Abs
open Go.RowKit
variable [Base]

omit [Base] in
theorem cell_heap (w : World) (b o : Nat) : w.cell? ⟨b, o, none⟩ = match w.heap[b]? with | some (.cells c _ _) => c[o]? | _ => none := by
  unfold World.cell?
  simp only [Option.isSome_none, Bool.false_eq_true, if_false]
  rfl
omit [Base] in
theorem cell_of {w : World} {b o : Nat} {arr T f} (h : w.heap[b]? = some (.cells arr T f)) : w.cell? ⟨b, o, none⟩ = arr[o]? := by
  rw [cell_heap, h]
omit [Base] in
theorem cell_same {w w' : World} {b : Nat} (h : w'.heap[b]? = w.heap[b]?) (o : Nat) : w'.cell? ⟨b, o, none⟩ = w.cell? ⟨b, o, none⟩ := by
  rw [cell_heap, cell_heap, h]
omit [Base] in
theorem cvK_same {F : Fr} {B B' : List Nat} {t : Array Value} {w w' : World} (hB : ∀ (l b : Nat), B[l]? = some b → B'[l]? = some b)
    (hw : ∀ (l b : Nat), B[l]? = some b → w'.heap[b]? = w.heap[b]?) {k : Key} (hk : ∀ l i, k = .c l i → l < B.length) : cvK F B' t w' k = cvK F B t w k := by
  cases k with
  | v i => rfl
  | t i => rfl
  | c l i =>
    have hl := hk l i rfl
    have h1 : B[l]? = some B[l] := List.getElem?_eq_getElem hl
    simp only [cvK, h1, hB _ _ h1, Option.bind_some]
    exact cell_same (hw _ _ h1) _

omit [Base] in
/-- Of a key that holds an owned row: it is there. -/
theorem own_there {s : St} {l i : Nat} (h : isOwn (getK s (.c l i)) = true) : l < s.heap.length := by
  by_cases hl : l < s.heap.length
  · exact hl
  · simp [getK, List.getElem?_eq_none (Nat.not_lt.1 hl), isOwn] at h

/-- New memory, and what was known of the old. -/
theorem R.grow {F G s t w} (hR : R F G s t w) {G' : Gh} {w' : World} (hB : G'.B = G.B)
    (hm : ∀ b o v, G.M b o = some v → G'.M b o = some v)
    (hold : ∀ b, b < w.heap.size → w'.heap[b]? = w.heap[b]? ∧ G'.Z b = G.Z b ∧ ∀ off, G'.M b off = G.M b off)
    (hnew : ∀ b o v, w.heap.size ≤ b → G'.M b o = some v → w'.cell? ⟨b, o, none⟩ = some v)
    (hM : ∀ b o, G'.M b o ≠ none → b < w'.heap.size) (hZ : ∀ b, G'.Z b ≠ none → b < w'.heap.size) : R F G' s t w' := by
  have hz : ∀ κ b, G.Z b = some (.k κ) → G'.Z b = some (.k κ) ∧ w'.heap[b]? = w.heap[b]? ∧ ∀ off, G'.M b off = G.M b off := by
    intro κ b h
    have hb := hR.freshZ b (by rw [h]; simp)
    obtain ⟨h1, h2, h3⟩ := hold b hb
    exact ⟨by rw [h2]; exact h, h1, h3⟩
  have hBB : ∀ (l b : Nat), G.B[l]? = some b → G'.B[l]? = some b := fun l b h => by rw [hB]; exact h
  have hBw : ∀ (l b : Nat), G.B[l]? = some b → w'.heap[b]? = w.heap[b]? := by
    intro l b h
    have hl : l < s.heap.length := by rw [← hR.hB]; exact (List.getElem?_eq_some_iff.1 h).1
    obtain ⟨b', e1, e2, _⟩ := hR.objs l _ (List.getElem?_eq_getElem hl)
    rw [h] at e1; simp at e1; subst e1
    exact (hold b (hR.freshZ b (by rw [e2]; simp))).1
  have keepT : ∀ κ a x, RepT F G s t w κ a x → RepT F G' s t w' κ a x := fun κ a x h =>
    h.keep hm hBB (hz κ) (fun k _ ho => ⟨rfl, cvK_same hBB hBw (fun l i e => by subst e; rw [hR.hB]; exact own_there ho)⟩)
  have hbase : ∀ b o, Base.H0 b = some o → w'.heap[b]? = some o ∧ G'.Z b = none := fun b o h => by
    obtain ⟨h1, h2⟩ := hR.base b o h
    obtain ⟨k1, k2, _⟩ := hold b (Array.getElem?_eq_some_iff.1 h1).1
    exact ⟨k1.trans h1, k2.trans h2⟩
  refine ⟨?_, hM, hbase, hZ, by rw [hB]; exact hR.hB, hR.inj, ?_, ?_, ?_⟩
  · intro b o v h
    by_cases hb : b < w.heap.size
    · obtain ⟨h1, _, h3⟩ := hold b hb
      rw [cell_same h1]
      exact hR.agree b o v (by rw [← h3]; exact h)
    · exact hnew b o v (Nat.not_lt.1 hb) h
  · intro i a h
    obtain ⟨n, x, e1, e2, e3⟩ := hR.vars i a h
    exact ⟨n, x, e1, e2, keepT _ _ _ e3⟩
  · intro i a h
    rcases hR.tmps i a h with h0 | ⟨n, x, e1, e2, e3⟩
    · exact .inl h0
    · exact .inr ⟨n, x, e1, e2, keepT _ _ _ e3⟩
  · intro l o h
    obtain ⟨b, e1, e2, e3, e4⟩ := hR.objs l o h
    obtain ⟨h1, h2, h3⟩ := hold b (hR.freshZ b (by rw [e2]; simp))
    exact ⟨b, hBB _ _ e1, by rw [h2]; exact e2, fun off => by rw [h3]; exact e3 off, e4.keep hm hBB h1 fun k => hz _⟩

/-- A new object, in a block of its own that lies there and that nobody owns yet. -/
theorem R.addObj {F G s t w} (hR : R F G s t w) {b : Nat} (hH : Base.H0 b = none) (hb : b < w.heap.size) (hz : G.Z b = none) (hM : ∀ off, G.M b off = none) {o : Obj}
    (ho : ObjRep ⟨G.M, fun q => if q = b then some (.o s.heap.length) else G.Z q, G.B ++ [b]⟩ w s.heap.length b o) :
    R F ⟨G.M, fun q => if q = b then some (.o s.heap.length) else G.Z q, G.B ++ [b]⟩ { s with heap := s.heap ++ [o] } t w := by
  have hBB : ∀ (l q : Nat), G.B[l]? = some q → (G.B ++ [b])[l]? = some q := fun l q h => by
    rw [List.getElem?_append_left (List.getElem?_eq_some_iff.1 h).1]; exact h
  have hz' : ∀ κ q, G.Z q = some (.k κ) → (if q = b then some (Own.o s.heap.length) else G.Z q) = some (.k κ) ∧ w.heap[q]? = w.heap[q]? ∧ ∀ off, G.M q off = G.M q off := by
    intro κ q h
    have : q ≠ b := fun e => by subst e; rw [hz] at h; simp at h
    exact ⟨by rw [if_neg this]; exact h, rfl, fun _ => rfl⟩
  have hg : ∀ k, isOwn (getK s k) = true → getK { s with heap := s.heap ++ [o] } k = getK s k := by
    intro k hk
    cases k with
    | v i => rfl
    | t i => rfl
    | c l i => simp only [getK]; rw [List.getElem?_append_left (own_there hk)]
  have keepT : ∀ κ a x, RepT F G s t w κ a x → RepT F ⟨G.M, fun q => if q = b then some (.o s.heap.length) else G.Z q, G.B ++ [b]⟩ { s with heap := s.heap ++ [o] } t w κ a x := fun κ a x h =>
    h.keep (fun _ _ _ h => h) hBB (hz' κ) (fun k _ hk => ⟨hg k hk, cvK_same hBB (fun _ _ _ => rfl) (fun l i e => by subst e; rw [hR.hB]; exact own_there hk)⟩)
  have hbase : ∀ q o, Base.H0 q = some o → w.heap[q]? = some o ∧ (if q = b then some (Own.o s.heap.length) else G.Z q) = none := fun q o h => by
    obtain ⟨h1, h2⟩ := hR.base q o h
    exact ⟨h1, by rw [if_neg (fun e => by subst e; rw [hH] at h; simp at h)]; exact h2⟩
  refine ⟨hR.agree, hR.freshM, hbase, ?_, by simp [hR.hB], hR.inj, ?_, ?_, ?_⟩
  · intro q hq
    by_cases e : q = b
    · subst e; exact hb
    · simp only [e, if_false] at hq; exact hR.freshZ q hq
  · intro i a h
    obtain ⟨n, x, e1, e2, e3⟩ := hR.vars i a h
    exact ⟨n, x, e1, e2, keepT _ _ _ e3⟩
  · intro i a h
    rcases hR.tmps i a h with h0 | ⟨n, x, e1, e2, e3⟩
    · exact .inl h0
    · exact .inr ⟨n, x, e1, e2, keepT _ _ _ e3⟩
  · intro l o' h
    by_cases hl : l < s.heap.length
    · rw [List.getElem?_append_left hl] at h
      obtain ⟨q, e1, e2, e3, e4⟩ := hR.objs l o' h
      have : q ≠ b := fun e => by subst e; rw [hz] at e2; simp at e2
      exact ⟨q, hBB _ _ e1, by simp only [if_neg this]; exact e2, e3, e4.keep (fun _ _ _ h => h) hBB rfl fun k => hz' _⟩
    · have : l = s.heap.length := by
        have := (List.getElem?_eq_some_iff.1 h).1
        simp at this; omega
      subst this
      simp at h; subst h
      exact ⟨b, by rw [← hR.hB]; simp, by simp, hM, ho⟩

omit [Base] in
theorem heap_setCell {w : World} {b k : Nat} {arr T} (h : w.heap[b]? = some (.cells arr T (0, 0))) (x : Value) :
    (w.setCell ⟨b, k, none⟩ x).heap[b]? = some (.cells (arr.setIfInBounds k x) T (0, 0)) := by
  simp only [World.setCell, Array.getElem?_modify, if_true, h, Option.map_some]
  simp
omit [Base] in
theorem heap_setCell_ne {w : World} {b k q : Nat} (x : Value) (h : q ≠ b) : (w.setCell ⟨b, k, none⟩ x).heap[q]? = w.heap[q]? := by
  simp only [World.setCell, Array.getElem?_modify]
  rw [if_neg (by omega)]

/-- A store into a cell of an object, to which nothing is on loan. -/
theorem R.setCell {F G s t w} (hR : R F G s t w) {l k : Nat} {cells : List AV} (hl : s.heap[l]? = some ⟨.box, cells⟩) (hk : k < cells.length) {b : Nat} (hb : G.B[l]? = some b)
    (hno : NoLoan s (.c l k)) {a : AV} {x : Value} (hx : x.oneCell' = true) (ha : RepC G w (.c l k) a x) : R F G (setK s (.c l k) a) t (w.setCell ⟨b, k, none⟩ x) := by
  obtain ⟨b', e1, e2, e3, e4⟩ := hR.objs l _ hl
  rw [hb] at e1; simp at e1; subst e1
  simp only [ObjRep] at e4
  obtain ⟨arr, T, e5, e6, e7⟩ := e4
  have hne : ∀ q, G.Z q ≠ some (.o l) → q ≠ b := fun q h e => h (by rw [e]; exact e2)
  have hz : ∀ κ q, G.Z q = some (.k κ) → G.Z q = some (.k κ) ∧ (w.setCell ⟨b, k, none⟩ x).heap[q]? = w.heap[q]? ∧ ∀ off, G.M q off = G.M q off := by
    intro κ q h
    exact ⟨h, heap_setCell_ne _ (hne q (by rw [h]; simp)), fun _ => rfl⟩
  have hBinj : ∀ m q, G.B[m]? = some q → m ≠ l → q ≠ b := by
    intro m q h hm
    have hl' : m < s.heap.length := by rw [← hR.hB]; exact (List.getElem?_eq_some_iff.1 h).1
    obtain ⟨q', f1, f2, _⟩ := hR.objs m _ (List.getElem?_eq_getElem hl')
    rw [h] at f1; simp at f1; subst f1
    exact hne q (by rw [f2]; simpa using hm)
  have hcv : ∀ κ, κ ≠ .c l k → cvK F G.B t (w.setCell ⟨b, k, none⟩ x) κ = cvK F G.B t w κ := by
    intro κ hκ
    cases κ with
    | v i => rfl
    | t i => rfl
    | c m i =>
      simp only [cvK]
      cases hm : G.B[m]? with
      | none => rfl
      | some q =>
        simp only [Option.bind_some]
        by_cases e : m = l
        · subst e
          rw [hb] at hm; simp at hm; subst hm
          rw [cell_of (heap_setCell e5 x), cell_of e5]
          have : k ≠ i := fun e => hκ (by rw [e])
          simp [this]
        · exact cell_same (heap_setCell_ne _ (hBinj m q hm e)) _
  have keepT : ∀ κ c y, loanOf c ≠ some (.c l k) → RepT F G s t w κ c y → RepT F G (setK s (.c l k) a) t (w.setCell ⟨b, k, none⟩ x) κ c y := fun κ c y hc h =>
    h.keep (fun _ _ _ h => h) (fun _ _ h => h) (hz κ) (fun q e _ => by
      have : q ≠ .c l k := fun e' => hc (by rw [e, e'])
      exact ⟨getK_setK_ne _ _ _ _ (fun e => this e.symm), hcv q this⟩)
  have hbase : ∀ q o, Base.H0 q = some o → (w.setCell ⟨b, k, none⟩ x).heap[q]? = some o ∧ G.Z q = none := fun q o h => by
    obtain ⟨h1, h2⟩ := hR.base q o h
    exact ⟨(heap_setCell_ne _ (hne q (by rw [h2]; simp))).trans h1, h2⟩
  refine ⟨?_, by simpa [World.setCell] using hR.freshM, hbase, by simpa [World.setCell] using hR.freshZ, by simp [setK, hR.hB], hR.inj, ?_, ?_, ?_⟩
  · intro q o v h
    have : q ≠ b := fun e => by subst e; rw [e3] at h; simp at h
    rw [cell_same (heap_setCell_ne _ this)]
    exact hR.agree q o v h
  · intro i c h
    obtain ⟨n, y, f1, f2, f3⟩ := hR.vars i c h
    exact ⟨n, y, f1, f2, keepT _ _ _ (hno.1 c (List.mem_of_getElem? h)) f3⟩
  · intro i c h
    rcases hR.tmps i c h with h0 | ⟨n, y, f1, f2, f3⟩
    · exact .inl h0
    · exact .inr ⟨n, y, f1, f2, keepT _ _ _ (hno.2 c (List.mem_of_getElem? h)) f3⟩
  · intro m o h
    simp only [setK, List.getElem?_modify] at h
    by_cases e : l = m
    · subst e
      rw [hl] at h
      simp at h; subst h
      refine ⟨b, hb, e2, e3, ?_⟩
      simp only [ObjRep]
      refine ⟨arr.setIfInBounds k x, T, heap_setCell e5 x, by simp [e6], fun i c hc => ?_⟩
      simp only [List.getElem?_set] at hc
      by_cases ei : k = i
      · subst ei
        simp only [if_true, hk] at hc
        simp at hc; subst hc
        exact ⟨x, by simp [e6, hk], hx, ha.keep (fun _ _ _ h => h) (fun _ _ h => h) (hz _)⟩
      · simp only [ei, if_false] at hc
        obtain ⟨y, f1, f2, f3⟩ := e7 i c hc
        exact ⟨y, by simp [ei, f1], f2, f3.keep (fun _ _ _ h => h) (fun _ _ h => h) (hz _)⟩
    · have h' : s.heap[m]? = some o := by simpa [e] using h
      obtain ⟨q, f1, f2, f3, f4⟩ := hR.objs m o h'
      exact ⟨q, f1, f2, f3, f4.keep (fun _ _ _ h => h) (fun _ _ h => h) (heap_setCell_ne _ (hBinj m q f1 (fun h => e h.symm))) fun i => hz _⟩
theorem R.putCell {F G s t w} (hR : R F G s t w) {l k : Nat} {cells : List AV} (hl : s.heap[l]? = some ⟨.box, cells⟩) (hk : k < cells.length) {b : Nat} (hb : G.B[l]? = some b)
    {a : AV} {x : Value} (hx : x.oneCell' = true) (ha : RepC G w (.c l k) a x) : R F G (putK s (.c l k) a) t (w.setCell ⟨b, k, none⟩ x) := by
  unfold putK
  by_cases ho : isOwn (getK s (.c l k)) = true
  · rw [if_pos ho]
    exact (hR.inval _).setCell hl hk hb (inval_noLoan _ _) hx ha
  · rw [if_neg ho]
    exact hR.setCell hl hk hb (hR.noLoan (by simpa using ho)) hx ha
end Go.Abs

namespace Go.Abs
open Go.RowKit
variable [Base]

theorem R.own_at {F G s t w} (hR : R F G s t w) {k : Key} {fz sz xs x} (h : getK s k = .own fz sz xs) (hx : cvK F G.B t w k = some x) : OwnRep G w k fz sz xs x := by
  cases k with
  | v i =>
    simp only [getK, List.getD_eq_getElem?_getD] at h
    cases hi : s.vars[i]? with
    | none => simp [hi] at h
    | some a =>
      simp [hi] at h; subst h
      obtain ⟨n, y, e1, e2, e3⟩ := hR.vars i _ hi
      simp only [cvK, slotK, e1, Option.bind_some, e2, Option.some.injEq] at hx
      subst hx; exact e3
  | t j =>
    simp only [getK, List.getD_eq_getElem?_getD] at h
    cases hi : s.tmps[j]? with
    | none => simp [hi] at h
    | some a =>
      simp [hi] at h; subst h
      rcases hR.tmps j _ hi with h0 | ⟨n, y, e1, e2, e3⟩
      · simp at h0
      · simp only [cvK, e1, Option.bind_some, e2, Option.some.injEq] at hx
        subst hx; exact e3
  | c l i =>
    simp only [getK] at h
    cases hl : s.heap[l]? with
    | none => simp [hl] at h
    | some o =>
      simp only [hl, Option.map_some, Option.getD_some, List.getD_eq_getElem?_getD] at h
      cases hi : o.cells[i]? with
      | none => simp [hi] at h
      | some a =>
        simp [hi] at h; subst h
        obtain ⟨b, e1, e2, e3, e4⟩ := hR.objs l o hl
        simp only [cvK, e1, Option.bind_some] at hx
        unfold ObjRep at e4
        split at e4
        · obtain ⟨arr, T, f1, f2, f3⟩ := e4
          obtain ⟨y, g1, g2, g3⟩ := f3 i _ hi
          rw [cell_of f1, g1] at hx
          simp at hx; subst hx
          exact g3
        · obtain ⟨st, pos, f1, _⟩ := e4
          rw [f1] at hi
          cases i with
          | zero => simp at hi
          | succ i => cases i <;> simp at hi
        · obtain ⟨es, cs, cl, f1, _⟩ := e4
          rw [f1] at hi
          cases i <;> simp at hi

/-- A row of values that can be read in a world. -/
def RowVal (G : Gh) (w : World) (sz : Nat) (xs : List PV) (x : Value) : Prop :=
  ∃ a c vs, x = .slice a xs.length c ∧ xs.length ≤ c ∧ RepL G.M xs vs ∧
    (vs = [] ∨ ∃ b o, a = some ⟨b, o, none⟩ ∧ ∀ (i : Nat) (y : Value), vs[i]? = some y → y.cells.size = sz ∧ ∀ j, j < sz → w.cell? ⟨b, o + i * sz + j, none⟩ = y.cells[j]?)

omit [Base] in
theorem OwnRep.row {G w κ fz sz xs x} (h : OwnRep G w κ fz sz xs x) : RowVal G w sz xs x := by
  rcases h with ⟨rfl, a, rfl⟩ | ⟨b, c, vs, arr, T, h1, h2, h3, h4, h5, h6, h7, h8, h9⟩
  · exact ⟨a, 0, [], rfl, Nat.le_refl _, by simp [RepL], .inl rfl⟩
  · refine ⟨_, c, vs, h1, h2, h4, .inr ⟨b, 0, rfl, fun i y hy => ⟨(h7 i y hy).1, fun j hj => ?_⟩⟩⟩
    rw [cell_of h5, ← (h7 i y hy).2 j hj]
    congr 1; omega
theorem RepP_row {F G s t w} (hR : R F G s t w) {sz xs x} (h : RepP G.M (.slice sz xs) x) : RowVal G w sz xs x := by
  simp only [RepP] at h
  obtain ⟨a, c, vs, h1, h2, h3, h4⟩ := h
  refine ⟨a, c, vs, h1, h2, h3, ?_⟩
  rcases h4 with h4 | ⟨b, o, h4, h5⟩
  · exact .inl h4
  · refine .inr ⟨b, o, h4, fun i y hy => ⟨(h5 i y hy).1, fun j hj => ?_⟩⟩
    have h6 := (h5 i y hy).2 j hj
    have h7 := (h5 i y hy).1
    rw [Array.getElem?_eq_getElem (by omega)] at h6 ⊢
    exact hR.agree _ _ _ h6
omit [Base] in
theorem OwnRep.toP {G w κ fz sz xs x} (h : OwnRep G w κ fz sz xs x) (hf : (fz || xs.isEmpty) = true) : RepP G.M (.slice sz xs) x := by
  simp only [RepP]
  rcases h with ⟨rfl, a, rfl⟩ | ⟨b, c, vs, arr, T, h1, h2, h3, h4, h5, h6, h7, h8, h9⟩
  · exact ⟨a, 0, [], rfl, Nat.le_refl _, by simp [RepL], .inl rfl⟩
  · refine ⟨_, c, vs, h1, h2, h4, ?_⟩
    by_cases hx : xs = []
    · left; have := h4.length; rw [hx] at this; simpa using this
    · have hf' : fz = true := by
        cases fz with
        | true => rfl
        | false => simp at hf; exact absurd hf hx
      refine .inr ⟨b, 0, rfl, fun i y hy => ⟨(h7 i y hy).1, fun j hj => ?_⟩⟩
      have hi : i < xs.length := by rw [← h4.length]; exact (List.getElem?_eq_some_iff.1 hy).1
      have hlt : i * sz + j < xs.length * sz := by
        have : (i + 1) * sz ≤ xs.length * sz := Nat.mul_le_mul_right _ hi
        rw [Nat.succ_mul] at this; omega
      rw [show 0 + i * sz + j = i * sz + j from by omega, h8 hf' _ hlt]
      exact (h7 i y hy).2 j hj

/-- A value handed on. -/
theorem give_sound {F G s t w} (hR : R F G s t w) {κ a x b} (h : RepT F G s t w κ a x) (hg : give s a = some b) : RepA G.M G.B b x := by
  cases a with
  | own fz sz xs =>
    simp only [give] at hg
    split at hg
    · rename_i hf
      simp at hg; subst hg
      simp only [RepT] at h
      simp only [RepA]; exact h.toP hf
    · simp at hg
  | lent k =>
    simp only [give] at hg
    split at hg
    · rename_i fz sz xs hk
      split at hg
      · rename_i hf
        simp at hg; subst hg
        simp only [RepT] at h
        simp only [RepA]; exact (hR.own_at hk h.1).toP hf
      · simp at hg
    · simp at hg
  | eref _ _ _ => simp [give] at hg
  | undef => simp [give] at hg
  | _ => simp [give] at hg; subst hg; exact h

theorem rowOf_sound {F G s t w} (hR : R F G s t w) {κ a x fz sz xs} (h : RepT F G s t w κ a x) (hg : rowOf s a = some (fz, sz, xs)) :
    RowVal G w sz xs x ∧ (fz = true → RepP G.M (.slice sz xs) x) := by
  cases a with
  | own f z l =>
    simp only [rowOf, Option.some.injEq, Prod.mk.injEq] at hg
    obtain ⟨rfl, rfl, rfl⟩ := hg
    simp only [RepT] at h
    exact ⟨h.row, fun hf => h.toP (by simp [hf])⟩
  | lent k =>
    simp only [rowOf] at hg
    split at hg
    · rename_i f z l hk
      simp only [Option.some.injEq, Prod.mk.injEq] at hg
      obtain ⟨rfl, rfl, rfl⟩ := hg
      simp only [RepT] at h
      have h1 := hR.own_at hk h.1
      exact ⟨h1.row, fun hf => h1.toP (by simp [hf])⟩
    · simp at hg
  | p v =>
    simp only [RepT, RepA] at h
    cases v with
    | slice z l =>
      simp only [rowOf, Option.some.injEq, Prod.mk.injEq] at hg
      obtain ⟨rfl, rfl, rfl⟩ := hg
      exact ⟨RepP_row hR h, fun _ => h⟩
    | nilS z =>
      simp only [rowOf, Option.some.injEq, Prod.mk.injEq] at hg
      obtain ⟨rfl, rfl, rfl⟩ := hg
      simp only [RepP] at h
      subst h
      refine ⟨⟨none, 0, [], rfl, Nat.le_refl _, by simp [RepL], .inl rfl⟩, fun _ => ?_⟩
      simp only [RepP]
      exact ⟨none, 0, [], rfl, Nat.le_refl _, by simp [RepL], .inl rfl⟩
    | _ => simp [rowOf] at hg
  | _ => simp [rowOf] at hg

/-- The concrete value at a key that holds an owned row. -/
theorem R.own_cv {F G s t w} (hR : R F G s t w) {k : Key} (h : isOwn (getK s k) = true) : ∃ x, cvK F G.B t w k = some x := by
  cases k with
  | v i =>
    simp only [getK, List.getD_eq_getElem?_getD] at h
    cases hi : s.vars[i]? with
    | none => simp [hi, isOwn] at h
    | some a =>
      obtain ⟨n, y, e1, e2, e3⟩ := hR.vars i _ hi
      exact ⟨y, by simp [cvK, slotK, e1, e2]⟩
  | t j =>
    simp only [getK, List.getD_eq_getElem?_getD] at h
    cases hi : s.tmps[j]? with
    | none => simp [hi, isOwn] at h
    | some a =>
      rcases hR.tmps j _ hi with h0 | ⟨n, y, e1, e2, e3⟩
      · simp [hi, h0, isOwn] at h
      · exact ⟨y, by simp [cvK, e1, e2]⟩
  | c l i =>
    simp only [getK] at h
    cases hl : s.heap[l]? with
    | none => simp [hl, isOwn] at h
    | some o =>
      simp only [hl, Option.map_some, Option.getD_some, List.getD_eq_getElem?_getD] at h
      cases hi : o.cells[i]? with
      | none => simp [hi, isOwn] at h
      | some a =>
        obtain ⟨b, e1, e2, e3, e4⟩ := hR.objs l o hl
        simp [hi] at h
        unfold ObjRep at e4
        split at e4
        · obtain ⟨arr, T, f1, f2, f3⟩ := e4
          obtain ⟨y, g1, g2, g3⟩ := f3 i _ hi
          exact ⟨y, by simp [cvK, e1, cell_of f1, g1]⟩
        · obtain ⟨st, pos, f1, _⟩ := e4
          rw [f1] at hi
          cases i with
          | zero => simp at hi; subst hi; simp [isOwn] at h
          | succ i => cases i <;> simp at hi; subst hi; simp [isOwn] at h
        · obtain ⟨es, cs, cl, f1, _⟩ := e4
          rw [f1] at hi
          cases i <;> simp at hi; subst hi; simp [isOwn] at h

omit [Base] in
theorem set_same {t : Array Value} {n : Nat} {x : Value} (h : t[n]? = some x) : t.setIfInBounds n x = t := by
  apply Array.ext_getElem?
  intro i
  by_cases e : n = i
  · subst e
    have := (Array.getElem?_eq_some_iff.1 h).1
    rw [Array.getElem?_eq_getElem this] at h
    simp at h
    simp [this, h]
  · simp [e]
omit [Base] in
theorem setCell_same {w : World} {b k : Nat} {arr T x} (h : w.heap[b]? = some (.cells arr T (0, 0))) (hx : arr[k]? = some x) : w.setCell ⟨b, k, none⟩ x = w := by
  have hh : (w.setCell ⟨b, k, none⟩ x).heap = w.heap := by
    apply Array.ext_getElem?
    intro i
    by_cases e : i = b
    · subst e
      rw [heap_setCell h, h, set_same hx]
    · exact heap_setCell_ne _ e
  cases w
  simp only [World.setCell] at hh ⊢
  rw [hh]

/-- What stands at a key that holds an owned row says less than it did; the machine's value stays. -/
theorem R.weaken {F G s t w} (hR : R F G s t w) {κ : Key} {fz sz xs} (ho : getK s κ = .own fz sz xs) {a : AV}
    (ha : ∀ x, OwnRep G w κ fz sz xs x → RepA G.M G.B a x) : R F G (setK (Abs.inval s κ) κ a) t w := by
  obtain ⟨x, hx⟩ := hR.own_cv (k := κ) (by rw [ho]; rfl)
  have hO := hR.own_at ho hx
  have hA := ha x hO
  have hnl : ∀ κ', loanOf a ≠ some κ' := by
    intro κ'
    cases a <;> simp [loanOf] <;> simp [RepA] at hA
  have hRT : RepT F G (Abs.inval s κ) t w κ a x := by cases a <;> simp only [RepT] <;> first | exact hA | simp [RepA] at hA
  have hRC : RepC G w κ a x := by cases a <;> simp only [RepC] <;> first | exact hA | simp [RepA] at hA
  cases κ with
  | v i =>
    cases hs : slotK F (.v i) with
    | none => simp [cvK, hs] at hx
    | some n =>
      simp [cvK, hs] at hx
      have := (hR.inval (.v i)).setSlot hs (Array.getElem?_eq_some_iff.1 hx).1 (inval_noLoan _ _) hRT (hnl _)
      rwa [set_same hx] at this
  | t i =>
    cases hs : slotK F (.t i) with
    | none => simp [cvK, hs] at hx
    | some n =>
      simp [cvK, hs] at hx
      have := (hR.inval (.t i)).setSlot hs (Array.getElem?_eq_some_iff.1 hx).1 (inval_noLoan _ _) hRT (hnl _)
      rwa [set_same hx] at this
  | c l k =>
    have hx' := hx
    simp only [getK] at ho
    cases hl : s.heap[l]? with
    | none => simp [hl] at ho
    | some o =>
      simp only [hl, Option.map_some, Option.getD_some, List.getD_eq_getElem?_getD] at ho
      cases hi : o.cells[k]? with
      | none => simp [hi] at ho
      | some c =>
        simp [hi] at ho; subst ho
        obtain ⟨b, e1, e2, e3, e4⟩ := hR.objs l o hl
        obtain ⟨kd, cells⟩ := o
        unfold ObjRep at e4
        split at e4
        · rename_i hkd
          simp only at hkd; subst hkd
          obtain ⟨arr, T, f1, f2, f3⟩ := e4
          obtain ⟨y, g1, g2, g3⟩ := f3 k _ hi
          simp only [cvK, e1, Option.bind_some, cell_of f1, g1, Option.some.injEq] at hx
          subst hx
          have := (hR.inval (.c l k)).setCell (l := l) (k := k) (cells := cells) hl (List.getElem?_eq_some_iff.1 hi).1 e1 (inval_noLoan _ _) g2 hRC
          rwa [setCell_same f1 g1] at this
        · obtain ⟨st, pos, f1, _⟩ := e4
          simp only at f1 hi; rw [f1] at hi
          cases k with
          | zero => simp at hi
          | succ k => cases k <;> simp at hi
        · obtain ⟨es, cs, cl, f1, _⟩ := e4
          simp only at f1 hi; rw [f1] at hi
          cases k <;> simp at hi

omit [Base] in
theorem OwnRep.move {G w κ0 fz sz xs x} (h : OwnRep G w κ0 fz sz xs x) (κ : Key) :
    OwnRep ⟨G.M, fun b => if G.Z b = some (.k κ0) then some (.k κ) else G.Z b, G.B⟩ w κ fz sz xs x := by
  rcases h with h | ⟨b, c, vs, arr, T, h1, h2, h3, h4⟩
  · exact .inl h
  · exact .inr ⟨b, c, vs, arr, T, h1, h2, by simp [h3], h4⟩

/-- Blocks go from one key, at which no owned row stands, to another. -/
theorem R.moveZ {F G s t w} (hR : R F G s t w) {κ0 : Key} (hn : isOwn (getK s κ0) = false) (κ : Key) :
    R F ⟨G.M, fun b => if G.Z b = some (.k κ0) then some (.k κ) else G.Z b, G.B⟩ s t w := by
  have hz : ∀ κ', κ' ≠ κ0 → ∀ b, G.Z b = some (.k κ') → (if G.Z b = some (.k κ0) then some (Own.k κ) else G.Z b) = some (.k κ') ∧ w.heap[b]? = w.heap[b]? ∧ ∀ off, G.M b off = G.M b off := by
    intro κ' hne b h
    refine ⟨?_, rfl, fun _ => rfl⟩
    rw [if_neg (by rw [h]; simpa using hne)]; exact h
  have keepT : ∀ κ' a x, getK s κ' = a → RepT F G s t w κ' a x → RepT F ⟨G.M, fun b => if G.Z b = some (.k κ0) then some (.k κ) else G.Z b, G.B⟩ s t w κ' a x := by
    intro κ' a x hg h
    by_cases e : κ' = κ0
    · subst e
      rw [hg] at hn
      cases a with
      | own _ _ _ => simp [isOwn] at hn
      | _ => exact h
    · exact h.keep (fun _ _ _ h => h) (fun _ _ h => h) (hz κ' e) (fun _ _ _ => ⟨rfl, rfl⟩)
  refine ⟨hR.agree, hR.freshM, fun q o h => ⟨(hR.base q o h).1, by simp only [(hR.base q o h).2]; simp⟩, ?_, hR.hB, hR.inj, ?_, ?_, ?_⟩
  · intro b hb
    apply hR.freshZ
    intro e
    simp [e] at hb
  · intro i a h
    obtain ⟨n, x, e1, e2, e3⟩ := hR.vars i a h
    exact ⟨n, x, e1, e2, keepT _ _ _ (by simp [getK, List.getD_eq_getElem?_getD, h]) e3⟩
  · intro i a h
    rcases hR.tmps i a h with h0 | ⟨n, x, e1, e2, e3⟩
    · exact .inl h0
    · exact .inr ⟨n, x, e1, e2, keepT _ _ _ (by simp [getK, List.getD_eq_getElem?_getD, h]) e3⟩
  · intro l o h
    obtain ⟨b, e1, e2, e3, e4⟩ := hR.objs l o h
    refine ⟨b, e1, by simp [e2], e3, ?_⟩
    unfold ObjRep at e4 ⊢
    split
    · rename_i hk
      simp only [hk] at e4
      obtain ⟨arr, T, f1, f2, f3⟩ := e4
      refine ⟨arr, T, f1, f2, fun k a ha => ?_⟩
      obtain ⟨x, g1, g2, g3⟩ := f3 k a ha
      refine ⟨x, g1, g2, ?_⟩
      by_cases e : (Key.c l k) = κ0
      · subst e
        have hg : getK s (.c l k) = a := by simp [getK, h, List.getD_eq_getElem?_getD, ha]
        rw [hg] at hn
        cases a with
        | own _ _ _ => simp [isOwn] at hn
        | _ => exact g3
      · exact g3.keep (fun _ _ _ h => h) (fun _ _ h => h) (hz _ e)
    · rename_i hk; simp only [hk] at e4; exact e4
    · rename_i hk; simp only [hk] at e4; exact e4
end Go.Abs

namespace Go.Abs
open Go.RowKit
variable [Base]

omit [Base] in
theorem cells_one {x : Value} (h : x.oneCell' = true) : x.cells = #[x] := by cases x <;> first | rfl | simp [Value.oneCell'] at h

omit [Base] in
theorem addr_add (b o n : Nat) : (⟨b, o, none⟩ : Addr).add n = ⟨b, o + n, none⟩ := by
  unfold Addr.add; split <;> simp_all

/-- Stores one behind the other. -/
def stored (w : World) (b : Nat) : Nat → List Value → World
  | _, [] => w
  | o, x :: r => stored (w.setCell ⟨b, o, none⟩ x) b (o + 1) r

omit [Base] in
theorem run_storeCells (P : Program) {b o : Nat} : ∀ (vs : List Value) (i : Nat) (w : World) (arr : Array Value) (T : TypeId), w.heap[b]? = some (.cells arr T (0, 0)) → o + i + vs.length ≤ arr.size →
    (∀ v ∈ vs, v.oneCell' = true) → (storeCells ⟨b, o, none⟩ vs i).run P w = .ok () (stored w b (o + i) vs)
  | [], i, w, arr, T, _, _, _ => by simp [storeCells, stored]
  | v :: r, i, w, arr, T, h, hl, h1 => by
    simp only [List.length_cons] at hl
    have hi : o + i < arr.size := by omega
    have hst : (Go.store ((⟨b, o, none⟩ : Addr).add i) v).run P w = .ok () (w.setCell ⟨b, o + i, none⟩ v) := by
      rw [addr_add, run_store P w _ v _ (h1 v (by simp)), cell_of h]
      have hf : w.frozen? ⟨b, o + i, none⟩ = false := by simp [World.frozen?, h]
      simp [hi, hf]
    have ih := run_storeCells P (o := o) r (i + 1) (w.setCell ⟨b, o + i, none⟩ v) (arr.setIfInBounds (o + i) v) T (heap_setCell h v) (by simp; omega) (fun x hx => h1 x (by simp [hx]))
    simp only [storeCells, Sem.run_bind, hst, Result.andThen_ok, ih, stored]
    rw [Nat.add_assoc]

omit [Base] in
theorem stored_size (b : Nat) : ∀ (o : Nat) (vs : List Value) (w : World), (stored w b o vs).heap.size = w.heap.size
  | _, [], _ => rfl
  | o, x :: r, w => by simp only [stored]; rw [stored_size]; simp [World.setCell]
omit [Base] in
theorem stored_ne {b q : Nat} (hq : q ≠ b) : ∀ (o : Nat) (vs : List Value) (w : World), (stored w b o vs).heap[q]? = w.heap[q]?
  | _, [], _ => rfl
  | o, x :: r, w => by simp only [stored]; rw [stored_ne hq]; exact heap_setCell_ne _ hq
omit [Base] in
theorem stored_misc (b : Nat) : ∀ (o : Nat) (vs : List Value) (w : World), (stored w b o vs).os = w.os ∧ (stored w b o vs).tape = w.tape ∧ (stored w b o vs).output = w.output
  | _, [], _ => ⟨rfl, rfl, rfl⟩
  | o, x :: r, w => by simp only [stored]; exact stored_misc b _ r _
omit [Base] in
theorem stored_heap {b : Nat} {T : TypeId} : ∀ (o : Nat) (vs : List Value) (w : World) (arr : Array Value), w.heap[b]? = some (.cells arr T (0, 0)) →
    ∃ arr', (stored w b o vs).heap[b]? = some (.cells arr' T (0, 0)) ∧ arr'.size = arr.size ∧ (∀ i, i < o → arr'[i]? = arr[i]?) ∧ (o + vs.length ≤ arr.size → ∀ i, i < vs.length → arr'[o + i]? = vs[i]?) ∧ (∀ i, o + vs.length ≤ i → arr'[i]? = arr[i]?)
  | o, [], w, arr, h => ⟨arr, h, rfl, fun _ _ => rfl, fun _ i hi => by simp at hi, fun _ _ => rfl⟩
  | o, x :: r, w, arr, h => by
    obtain ⟨arr', h1, h2, h3, h4, h5⟩ := stored_heap (o + 1) r _ _ (heap_setCell h x)
    refine ⟨arr', h1, by simpa using h2, fun i hi => ?_, fun hl i hi => ?_, fun i hi => ?_⟩
    · rw [h3 i (by omega)]; simp [show o ≠ i by omega]
    · simp only [List.length_cons] at hl hi
      cases i with
      | zero =>
        rw [h3 (o + 0) (by omega)]
        have : o < arr.size := by omega
        simp [this]
      | succ i =>
        have h6 : o + 1 + r.length ≤ (arr.setIfInBounds o x).size := by rw [Array.size_setIfInBounds]; omega
        have := h4 h6 i (by omega)
        rw [show o + (i + 1) = o + 1 + i by omega, this]; simp
    · simp only [List.length_cons] at hi
      rw [h5 i (by omega)]; simp [show o ≠ i by omega]

omit [Base] in
theorem Ext.setCell {G : Gh} {w : World} {b k : Nat} (hz : G.Z b ≠ none) (x : Value) : Ext G w G (w.setCell ⟨b, k, none⟩ x) :=
  ⟨rfl, rfl, rfl, by simp [World.setCell], fun _ _ _ h => h, fun q _ hq => ⟨heap_setCell_ne _ (fun e => hz (by rw [← e]; exact hq)), hq, fun _ => rfl⟩, fun _ _ h => h⟩

/-- Where an operand's value lies. -/
def keyOf : Opd → Key
  | .v i => .v i
  | .t j => .t j
  | _ => .c 0 0

omit [Base] in
theorem RepA_T {F G s t w κ a x} (h : RepA G.M G.B a x) : RepT F G s t w κ a x := by cases a <;> simp only [RepT] <;> first | exact h | simp [RepA] at h
omit [Base] in
theorem RepA_loan {M B a x} (h : RepA M B a x) (κ : Key) : loanOf a ≠ some κ := by cases a <;> simp [loanOf] <;> simp [RepA] at h
omit [Base] in
theorem RepT_nil {F G s t w κ sz} : RepT F G s t w κ (.own true sz []) (.slice none 0 0) := by simp only [RepT]; exact .inl ⟨rfl, _, rfl⟩

omit [Base] in
theorem Ext.moveZ (G : Gh) (w : World) (κ0 κ : Key) : Ext G w ⟨G.M, fun b => if G.Z b = some (.k κ0) then some (.k κ) else G.Z b, G.B⟩ w :=
  ⟨rfl, rfl, rfl, Nat.le_refl _, fun _ _ _ h => h, fun b _ hb => ⟨rfl, by simp [hb], fun _ => rfl⟩, fun _ _ h => h⟩

/-- An owned row goes from its key to another. -/
theorem R.moveOwn {F G s t w} (hR : R F G s t w) {κ0 : Key} {fz sz xs x} (ho : getK s κ0 = .own fz sz xs) (hx : cvK F G.B t w κ0 = some x) (κ : Key) :
    ∃ G', R F G' (setK (Abs.inval s κ0) κ0 (if fz then .p (.slice sz xs) else .undef)) t w ∧ Ext G w G' w ∧ G'.B = G.B ∧ OwnRep G' w κ fz sz xs x := by
  have hO := hR.own_at ho hx
  have h1 : R F G (setK (Abs.inval s κ0) κ0 (if fz then .p (.slice sz xs) else .undef)) t w := by
    refine hR.weaken ho fun y hy => ?_
    cases fz with
    | true => simp only [if_true, RepA]; exact hy.toP rfl
    | false => simp [RepA]
  have hn : isOwn (getK (setK (Abs.inval s κ0) κ0 (if fz then .p (.slice sz xs) else .undef)) κ0) = false := by
    have key : ∀ (s : St) (a : AV), isOwn a = false → isOwn (getK s κ0) = true → isOwn (getK (setK s κ0 a) κ0) = false := by
      intro s a ha hs
      cases κ0 with
      | v i =>
        simp only [setK, getK] at hs ⊢
        by_cases hi : i < s.vars.length
        · rw [getD_set_eq _ _ _ _ hi]; exact ha
        · simp [List.getD_eq_getElem?_getD, hi, isOwn] at hs
      | t i =>
        simp only [setK, getK] at hs ⊢
        by_cases hi : i < s.tmps.length
        · rw [getD_set_eq _ _ _ _ hi]; exact ha
        · simp [List.getD_eq_getElem?_getD, hi, isOwn] at hs
      | c l k =>
        simp only [setK, getK, List.getElem?_modify, if_true] at hs ⊢
        cases hl : s.heap[l]? with
        | none => simp [hl, isOwn] at hs
        | some o =>
          simp only [hl, Option.map_some, Option.getD_some, Option.map_eq_map] at hs ⊢
          by_cases hi : k < o.cells.length
          · rw [getD_set_eq _ _ _ _ hi]; exact ha
          · simp [List.getD_eq_getElem?_getD, hi, isOwn] at hs
    refine key _ _ (by cases fz <;> rfl) ?_
    rw [getK_inval_own _ _ _ (by rw [ho]; rfl), ho]; rfl
  exact ⟨_, h1.moveZ hn κ, Ext.moveZ G w κ0 κ, rfl, hO.move κ⟩

/-- 'take': what is laid into a variable or a cell. -/
theorem take_sound {F G s t w} (hR : R F G s t w) {x : Opd} {v : Value} (hv : RepT F G s t w (keyOf x) (val s x) v) (hc : ∀ j, x = .t j → isOwn (val s x) = true → cvK F G.B t w (.t j) = some v)
    {a : AV} {s' : St} (h : take s x = some (a, s')) (κ : Key) : ∃ G', R F G' s' t w ∧ Ext G w G' w ∧ G'.B = G.B ∧ RepT F G' s' t w κ a v := by
  unfold take at h
  split at h
  · rename_i j fz sz xs hx
    simp only [Option.some.injEq, Prod.mk.injEq] at h
    obtain ⟨rfl, rfl⟩ := h
    obtain ⟨G', h1, h2, h3, h4⟩ := hR.moveOwn (κ0 := .t j) (x := v) hx (hc j rfl (by rw [hx]; rfl)) κ
    exact ⟨G', h1, h2, h3, h4⟩
  · rename_i sz hx
    simp only [Option.some.injEq, Prod.mk.injEq] at h
    obtain ⟨rfl, rfl⟩ := h
    rw [hx] at hv
    simp only [RepT, RepA, RepP] at hv
    subst hv
    exact ⟨G, hR, Ext.refl _ _, rfl, RepT_nil⟩
  · rename_i k i o hx
    simp only [Option.some.injEq, Prod.mk.injEq] at h
    obtain ⟨rfl, rfl⟩ := h
    rw [hx] at hv
    exact ⟨G, hR, Ext.refl _ _, rfl, by simpa only [RepT] using hv⟩
  · simp only [Option.some.injEq, Prod.mk.injEq] at h
    obtain ⟨rfl, rfl⟩ := h
    exact ⟨G, hR, Ext.refl _ _, rfl, by simp [RepT, RepA]⟩
  · rename_i hx _ _ _
    simp only [Option.map_eq_some_iff, Prod.mk.injEq] at h
    obtain ⟨b, h1, rfl, rfl⟩ := h
    exact ⟨G, hR, Ext.refl _ _, rfl, RepA_T (give_sound hR hv h1)⟩
end Go.Abs
