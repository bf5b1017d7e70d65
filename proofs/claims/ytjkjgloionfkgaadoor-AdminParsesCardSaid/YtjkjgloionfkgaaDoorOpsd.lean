/- Stores. Iterators over strings, and maps. -/
import Derived.Test.YtjkjgloionfkgaaDoorOpsc
import Derived.MapKept

namespace Go.Abs
open Go.RowKit
variable [Base]

omit [Base] in
theorem take_heap {s s' : St} {x : Opd} {a : AV} (h : take s x = some (a, s')) : s'.heap = s.heap ∧ s'.tmps.length = s.tmps.length := by
  unfold take at h
  split at h
  · simp only [Option.some.injEq, Prod.mk.injEq] at h
    obtain ⟨_, rfl⟩ := h
    exact ⟨rfl, by rw [setK_tmps, inval_tmps]⟩
  · simp only [Option.some.injEq, Prod.mk.injEq] at h; obtain ⟨_, rfl⟩ := h; exact ⟨rfl, rfl⟩
  · simp only [Option.some.injEq, Prod.mk.injEq] at h; obtain ⟨_, rfl⟩ := h; exact ⟨rfl, rfl⟩
  · simp only [Option.some.injEq, Prod.mk.injEq] at h; obtain ⟨_, rfl⟩ := h; exact ⟨rfl, rfl⟩
  · simp only [Option.map_eq_some_iff, Prod.mk.injEq] at h; obtain ⟨_, _, _, rfl⟩ := h; exact ⟨rfl, rfl⟩

omit [Base] in
theorem putK_cell_heap {s : St} {l k : Nat} {a : AV} {cs : List AV} (h : s.heap[l]? = some ⟨.box, cs⟩) : (putK s (.c l k) a).heap[l]? = some ⟨.box, cs.set k a⟩ := by
  have key : ∀ s : St, s.heap[l]? = some ⟨.box, cs⟩ → (setK s (.c l k) a).heap[l]? = some ⟨.box, cs.set k a⟩ := by
    intro s h
    simp [setK, h]
  unfold putK
  split
  · exact key _ h
  · exact key _ h

/-- Cells of an object are written, one behind the other. -/
theorem setCells_sound {F G t} {l b : Nat} (hb : G.B[l]? = some b) : ∀ (as : List AV) (xs : List Value) (off : Nat) (s : St) (w : World) (cs : List AV), R F G s t w → s.heap[l]? = some ⟨.box, cs⟩ →
    off + as.length ≤ cs.length → xs.length = as.length → (∀ (i : Nat) (a : AV) (x : Value), as[i]? = some a → xs[i]? = some x → x.oneCell' = true ∧ RepC G w (.c l (off + i)) (lay a) x) →
    R F G (setCells s l off as) t (stored w b off xs) ∧ Ext G w G (stored w b off xs)
  | [], [], off, s, w, cs, hR, _, _, _, _ => ⟨hR, Ext.refl _ _⟩
  | a :: as, x :: xs, off, s, w, cs, hR, hl, hle, hlen, hc => by
    simp only [List.length_cons] at hle hlen
    obtain ⟨h1, h2⟩ := hc 0 a x rfl rfl
    have hR1 := hR.putCell (k := off) hl (by omega) hb h1 (a := lay a) (by simpa using h2)
    obtain ⟨b', e1, e2, _⟩ := hR.objs l _ hl
    rw [hb] at e1; simp at e1; subst e1
    have hE : Ext G w G (w.setCell ⟨b, off, none⟩ x) := Ext.setCell (by rw [e2]; simp) x
    obtain ⟨k1, k2⟩ := setCells_sound hb as xs (off + 1) _ _ _ hR1 (putK_cell_heap hl) (by simp; omega) (by omega) (fun i a' x' ha hx => by
      obtain ⟨g1, g2⟩ := hc (i + 1) a' x' (by simpa using ha) (by simpa using hx)
      refine ⟨g1, ?_⟩
      rw [show off + 1 + i = off + (i + 1) by omega]
      exact g2.keep (fun _ _ _ h => h) (fun _ _ h => h) (fun q hq => ⟨hq, heap_setCell_ne _ (fun e => by rw [e, e2] at hq; simp at hq), fun _ => rfl⟩))
    exact ⟨k1, hE.trans k2⟩
  | [], _ :: _, _, _, _, _, _, _, _, h, _ => by simp at h
  | _ :: _, [], _, _, _, _, _, _, _, h, _ => by simp at h

omit [Base] in
theorem lay_C {G : Gh} {w : World} {κ : Key} {a : AV} {x : Value} (h : RepA G.M G.B a x) : RepC G w κ (lay a) x := by
  unfold lay
  split
  · simp only [RepA, RepP] at h
    simp only [RepC]; exact .inl ⟨rfl, _, h⟩
  · cases a <;> first | exact h | simp [RepA] at h

omit [Base] in
/-- As 'keep', where an owned row may hold other elements, as many. -/
theorem RepT.keep2 {F : Fr} {G : Gh} {s s' : St} {t : Array Value} {w w' : World} {κ a x} (h : RepT F G s t w κ a x)
    (hz : ∀ b, G.Z b = some (.k κ) → w'.heap[b]? = w.heap[b]?)
    (hl : ∀ k, loanOf a = some k → isOwn (getK s k) = true → cvK F G.B t w' k = cvK F G.B t w k ∧ (getK s' k = getK s k ∨ ∃ fz sz xs xs', getK s k = .own fz sz xs ∧ getK s' k = .own fz sz xs' ∧ xs'.length = xs.length)) :
    RepT F G s' t w' κ a x := by
  cases a with
  | own fz sz xs => simp only [RepT] at h ⊢; exact h.keep (fun _ _ _ h => h) fun b hb => ⟨hb, hz b hb, fun _ => rfl⟩
  | lent k =>
    simp only [RepT] at h ⊢
    obtain ⟨h1, h2⟩ := hl k rfl h.2
    refine ⟨h1.trans h.1, ?_⟩
    rcases h2 with h2 | ⟨fz, sz, xs, xs', _, h3, _⟩
    · rw [h2]; exact h.2
    · rw [h3]; rfl
  | eref k i off =>
    simp only [RepT] at h ⊢
    obtain ⟨b, n, c, fz, sz, xs, e1, e2, e3, e4⟩ := h
    obtain ⟨h1, h2⟩ := hl k rfl (by rw [e2]; rfl)
    rcases h2 with h2 | ⟨fz', sz', ys, ys', g1, g2, g3⟩
    · exact ⟨b, n, c, fz, sz, xs, h1.trans e1, h2.trans e2, e3, e4⟩
    · rw [e2] at g1
      simp only [AV.own.injEq] at g1
      obtain ⟨rfl, rfl, rfl⟩ := g1
      exact ⟨b, n, c, fz, sz, ys', h1.trans e1, g2, by rw [g3]; exact e3, e4⟩
  | _ => simp only [RepT] at h ⊢; exact h

omit [Base] in
theorem getK_setK_own {s : St} {κ : Key} {a : AV} (h : isOwn (getK s κ) = true) : getK (setK s κ a) κ = a := by
  cases κ with
  | v i =>
    simp only [setK, getK] at h ⊢
    by_cases hi : i < s.vars.length
    · exact getD_set_eq _ _ _ _ hi
    · simp [List.getD_eq_getElem?_getD, hi, isOwn] at h
  | t i =>
    simp only [setK, getK] at h ⊢
    by_cases hi : i < s.tmps.length
    · exact getD_set_eq _ _ _ _ hi
    · simp [List.getD_eq_getElem?_getD, hi, isOwn] at h
  | c l k =>
    simp only [setK, getK, List.getElem?_modify] at h ⊢
    cases hl : s.heap[l]? with
    | none => simp [hl, isOwn] at h
    | some o =>
      simp only [hl, Option.map_some, Option.getD_some, Option.map_eq_map, if_true] at h ⊢
      by_cases hi : k < o.cells.length
      · exact getD_set_eq _ _ _ _ hi
      · simp [List.getD_eq_getElem?_getD, hi, isOwn] at h

/-- An owned row that isn't frozen gets other elements. -/
theorem R.setOwn {F G s t w} (hR : R F G s t w) {k : Key} {sz : Nat} {xs xs' : List PV} {x : Value} (hg : getK s k = .own false sz xs) (hcv : cvK F G.B t w k = some x) (hlen : xs'.length = xs.length) {b : Nat} {w' : World}
    (hz : G.Z b = some (.k k)) (hM : ∀ off, G.M b off = none) (hw : ∀ q, q ≠ b → w'.heap[q]? = w.heap[q]?) (hsz : w'.heap.size = w.heap.size) (hO : OwnRep G w' k false sz xs' x) :
    R F G (setK s k (.own false sz xs')) t w' := by
  have hown : isOwn (getK s k) = true := by rw [hg]; rfl
  have hne : ∀ q, G.Z q ≠ some (.k k) → q ≠ b := fun q h e => h (by rw [e]; exact hz)
  have hBb : ∀ (l q : Nat), G.B[l]? = some q → q ≠ b := by
    intro l q h
    have hl : l < s.heap.length := by rw [← hR.hB]; exact (List.getElem?_eq_some_iff.1 h).1
    obtain ⟨b', e1, e2, _⟩ := hR.objs l _ (List.getElem?_eq_getElem hl)
    rw [h] at e1; simp at e1; subst e1
    exact hne q (by rw [e2]; simp)
  have hcvs : ∀ κ, cvK F G.B t w' κ = cvK F G.B t w κ := by
    intro κ
    cases κ with
    | v i => rfl
    | t i => rfl
    | c l i =>
      simp only [cvK]
      cases h : G.B[l]? with
      | none => rfl
      | some q => simp only [Option.bind_some]; exact cell_same (hw q (hBb l q h)) _
  have hgs : ∀ κ, getK (setK s k (.own false sz xs')) κ = getK s κ ∨ ∃ fz z ys ys', getK s κ = .own fz z ys ∧ getK (setK s k (.own false sz xs')) κ = .own fz z ys' ∧ ys'.length = ys.length := by
    intro κ
    by_cases e : k = κ
    · subst e; exact .inr ⟨false, sz, xs, xs', hg, getK_setK_own hown, hlen⟩
    · exact .inl (getK_setK_ne _ _ _ _ e)
  have keepT : ∀ κ a y, κ ≠ k → RepT F G s t w κ a y → RepT F G (setK s k (.own false sz xs')) t w' κ a y := fun κ a y hκ h =>
    h.keep2 (fun q hq => hw q (hne q (by rw [hq]; simpa using hκ))) (fun κ' _ _ => ⟨hcvs κ', hgs κ'⟩)
  have keepC : ∀ κ a y, κ ≠ k → RepC G w κ a y → RepC G w' κ a y := fun κ a y hκ h =>
    h.keep (fun _ _ _ h => h) (fun _ _ h => h) (fun q hq => ⟨hq, hw q (hne q (by rw [hq]; simpa using hκ)), fun _ => rfl⟩)
  have hbase : ∀ q o, Base.H0 q = some o → w'.heap[q]? = some o ∧ G.Z q = none := fun q o h => by
    obtain ⟨h1, h2⟩ := hR.base q o h
    exact ⟨(hw q (hne q (by rw [h2]; simp))).trans h1, h2⟩
  refine ⟨?_, by rw [hsz]; exact hR.freshM, hbase, by rw [hsz]; exact hR.freshZ, ?_, hR.inj, ?_, ?_, ?_⟩
  · intro q o v h
    have : q ≠ b := fun e => by subst e; rw [hM] at h; simp at h
    rw [cell_same (hw q this)]; exact hR.agree q o v h
  · cases k <;> simp [setK, hR.hB]
  · intro i a ha
    cases k with
    | v j =>
      simp only [setK, List.getElem?_set] at ha
      by_cases e : j = i
      · subst e
        simp only [if_true] at ha
        split at ha
        · simp at ha; subst ha
          have hk := hcv
          simp only [cvK, slotK] at hk
          cases hs : F.σ[j]? with
          | none => simp [hs] at hk
          | some n => simp [hs] at hk; exact ⟨n, x, rfl, hk, by simp only [RepT]; exact hO⟩
        · simp at ha
      · simp only [e, if_false] at ha
        obtain ⟨n, y, e1, e2, e3⟩ := hR.vars i a ha
        exact ⟨n, y, e1, e2, keepT _ _ _ (by simpa using fun h => e h.symm) e3⟩
    | t j => obtain ⟨n, y, e1, e2, e3⟩ := hR.vars i a ha; exact ⟨n, y, e1, e2, keepT _ _ _ (by simp) e3⟩
    | c l j => obtain ⟨n, y, e1, e2, e3⟩ := hR.vars i a ha; exact ⟨n, y, e1, e2, keepT _ _ _ (by simp) e3⟩
  · intro i a ha
    cases k with
    | t j =>
      simp only [setK, List.getElem?_set] at ha
      by_cases e : j = i
      · subst e
        simp only [if_true] at ha
        split at ha
        · simp at ha; subst ha
          have hk := hcv
          simp only [cvK] at hk
          cases hs : slotK F (.t j) with
          | none => simp [hs] at hk
          | some n => simp [hs] at hk; exact .inr ⟨n, x, rfl, hk, by simp only [RepT]; exact hO⟩
        · simp at ha
      · simp only [e, if_false] at ha
        rcases hR.tmps i a ha with h0 | ⟨n, y, e1, e2, e3⟩
        · exact .inl h0
        · exact .inr ⟨n, y, e1, e2, keepT _ _ _ (by simpa using fun h => e h.symm) e3⟩
    | v j =>
      rcases hR.tmps i a ha with h0 | ⟨n, y, e1, e2, e3⟩
      · exact .inl h0
      · exact .inr ⟨n, y, e1, e2, keepT _ _ _ (by simp) e3⟩
    | c l j =>
      rcases hR.tmps i a ha with h0 | ⟨n, y, e1, e2, e3⟩
      · exact .inl h0
      · exact .inr ⟨n, y, e1, e2, keepT _ _ _ (by simp) e3⟩
  · intro l o ho
    have plain : ∀ o', s.heap[l]? = some o' → (∀ j, (Key.c l j) ≠ k) → ∃ q, G.B[l]? = some q ∧ G.Z q = some (.o l) ∧ (∀ off, G.M q off = none) ∧ ObjRep G w' l q o' := by
      intro o' h' hk'
      obtain ⟨q, e1, e2, e3, e4⟩ := hR.objs l o' h'
      exact ⟨q, e1, e2, e3, e4.keep (fun _ _ _ h => h) (fun _ _ h => h) (hw q (hBb l q e1)) fun j q' hq' => ⟨hq', hw q' (hne q' (by rw [hq']; simpa using hk' j)), fun _ => rfl⟩⟩
    cases k with
    | v j => exact plain o ho (by simp)
    | t j => exact plain o ho (by simp)
    | c m j =>
      simp only [setK, List.getElem?_modify] at ho
      by_cases e : m = l
      · subst e
        cases h : s.heap[m]? with
        | none => rw [h] at ho; simp at ho
        | some o' =>
          rw [h] at ho
          simp at ho; subst ho
          obtain ⟨q, e1, e2, e3, e4⟩ := hR.objs m o' h
          refine ⟨q, e1, e2, e3, ?_⟩
          obtain ⟨kd, cells⟩ := o'
          simp only [getK, h, Option.map_some, Option.getD_some, List.getD_eq_getElem?_getD] at hg
          cases hi : cells[j]? with
          | none => simp [hi] at hg
          | some cc =>
            simp [hi] at hg; subst hg
            unfold ObjRep at e4 ⊢
            simp only at e4 ⊢
            split
            · simp only at e4
              obtain ⟨arr, T, f1, f2, f3⟩ := e4
              refine ⟨arr, T, by rw [hw q (hBb m q e1)]; exact f1, by simp [f2], fun i a ha => ?_⟩
              simp only [List.getElem?_set] at ha
              by_cases ei : j = i
              · subst ei
                simp only [if_true] at ha
                split at ha
                · simp at ha; subst ha
                  obtain ⟨y, g1, g2, g3⟩ := f3 j _ hi
                  have hk := hcv
                  simp only [cvK, e1, Option.bind_some, cell_of f1, g1, Option.some.injEq] at hk
                  subst hk
                  exact ⟨y, g1, g2, by simp only [RepC]; exact hO⟩
                · simp at ha
              · simp only [ei, if_false] at ha
                obtain ⟨y, g1, g2, g3⟩ := f3 i a ha
                exact ⟨y, g1, g2, keepC _ _ _ (by simpa using fun h => ei h.symm) g3⟩
            · simp only at e4
              obtain ⟨st, pos, f1, _⟩ := e4
              rw [f1] at hi
              cases j with
              | zero => simp at hi
              | succ j => cases j <;> simp at hi
            · simp only at e4
              obtain ⟨es, cs, cl, f1, _⟩ := e4
              rw [f1] at hi
              cases j <;> simp at hi
      · have h' : s.heap[l]? = some o := by simpa [e] using ho
        exact plain o h' (fun j' hj => e (by injection hj with h1 _; exact h1.symm))

section
variable {P : Program} {F : Fr} {co : Oper} {call : Calls}

omit [Base] in
theorem run_store_op {t : Array Value} {df : List Deferred} {w : World} {X Y : Operand} {T : TypeId} {b o : Nat} {v : Value} {sh : Sh} {arr : Array Value} {T' : TypeId} (ho : co.op = .store T X Y) (hT : shOk P T sh = true)
    (hx : (⟨t, df⟩ : Act).eval X = .pointer (some ⟨b, o, none⟩)) (hy : (⟨t, df⟩ : Act).eval Y = v) (hv : v.cells.size = shN sh) (hone : ∀ c ∈ v.cells.toList, c.oneCell' = true)
    (hb : w.heap[b]? = some (.cells arr T' (0, 0))) (hfit : o + v.cells.size ≤ arr.size) :
    (execOp (⟨t, df⟩ : Act).eval co).run P w = .ok .skip (stored w b o v.cells.toList) := by
  have h1 := run_storeCells P (b := b) (o := o) v.cells.toList 0 w arr T' hb (by simpa using hfit) hone
  rw [Nat.add_zero] at h1
  have h2 : ∀ w' : World, (sizeOf T).run P w' = .ok (shN sh) w' := by
    intro w'
    rw [run_sizeOf' hT]
    cases sh <;> rfl
  simp [execOp, ho, Instr.storeAt, hx, hy, Instr.sureAddr, storeVar, h2, hv, h1]

omit [Base] in
theorem own_one {G : Gh} {w : World} {κ : Key} {fz : Bool} {sz : Nat} {xs : List PV} {x : Value} (h : OwnRep G w κ fz sz xs x) : x.oneCell' = true := by
  rcases h with ⟨_, q, rfl⟩ | ⟨b, c, vs, arr, T, rfl, _⟩ <;> rfl

theorem op_st {X Y : Operand} {x y : Opd} {T : TypeId} {sh : Sh} (hd : co.dst = none) (ho : co.op = .store T X Y) (hx : opdOk F X x = true) (hy : opdOk F Y y = true) (hT : shOk P T sh = true) :
    OpS P F co (.st x y sh) call := by
  intro G s t w df a s' N hN hR hev next Q hk
  simp only [evOp, Option.map_eq_some_iff, Prod.mk.injEq] at hev
  obtain ⟨s1, hst, rfl, rfl⟩ := hev
  have hcx := copy_sound (df := df) hR hx (.t N)
  unfold store at hst
  split at hst
  · -- a box
    rename_i l off hv
    rw [hv] at hcx
    simp only [RepT, RepA] at hcx
    obtain ⟨b, hb, hX⟩ := hcx
    split at hst
    · rename_i cs hl
      split at hst
      · rename_i v s2 htake
        split at hst
        · rename_i hnl
          split at hst
          · rename_i l' hcells
            split at hst
            · rename_i hfit
              simp only [Option.some.injEq] at hst; subst hst
              obtain ⟨hh, hh2⟩ := take_heap htake
              obtain ⟨h1, h2⟩ := val_sound (df := df) hR hy
              obtain ⟨G', k1, k2, k3, k4⟩ := take_sound hR h1 (fun j e ho => by subst e; exact h2 _ rfl (by simp) (by simp) ho) htake (.c l off)
              have hl2 : s2.heap[l]? = some ⟨.box, cs⟩ := by rw [hh]; exact hl
              have hb2 : G'.B[l]? = some b := by rw [k3]; exact hb
              obtain ⟨b', e1, e2, e3, e4⟩ := k1.objs l _ hl2
              rw [hb2] at e1; simp at e1; subst e1
              simp only [ObjRep] at e4
              obtain ⟨arr, T', f1, f2, _⟩ := e4
              have main : ((⟨t, df⟩ : Act).eval Y).cells.size = shN sh ∧ (∀ c ∈ ((⟨t, df⟩ : Act).eval Y).cells.toList, c.oneCell' = true) ∧ l'.length = shN sh ∧
                  ∀ (i : Nat) (a : AV) (x : Value), l'[i]? = some a → ((⟨t, df⟩ : Act).eval Y).cells.toList[i]? = some x → RepC G' w (.c l (off + i)) (lay a) x := by
                cases v with
                | own fz sz xs =>
                  simp only [RepT] at k4
                  have ho1 := own_one k4
                  cases sh with
                  | a n => simp [cellsOf] at hcells
                  | s =>
                    simp only [cellsOf, Option.some.injEq] at hcells; subst hcells
                    rw [cells_one ho1]
                    refine ⟨rfl, by simpa using ho1, rfl, fun i a x ha hx => ?_⟩
                    cases i with
                    | zero => simp at ha hx; subst ha; subst hx; rw [Nat.add_zero]; simpa only [lay, RepC] using k4
                    | succ i => simp at ha
                | lent k => simp [noLoan] at hnl
                | eref _ _ _ => simp [noLoan] at hnl
                | undef => simp [noLoan] at hnl
                | p _ | ref _ _ | mref _ | fn _ _ _ | agg _ | tup _ | sl _ | pt _ =>
                  simp only [RepT] at k4
                  obtain ⟨g1, g2, g3⟩ := cellsOf_sound k4 hcells
                  have hs := shape_size g1
                  have hlen := g2.length
                  refine ⟨hs, g3, by rw [← hlen]; simpa using hs, fun i a x ha hx => ?_⟩
                  obtain ⟨x', e1, e2⟩ := g2.get ha
                  rw [hx] at e1; simp at e1; subst e1
                  exact lay_C e2
              obtain ⟨m1, m2, m3, m4⟩ := main
              obtain ⟨q1, q2⟩ := setCells_sound hb2 l' ((⟨t, df⟩ : Act).eval Y).cells.toList off s2 w cs k1 hl2 hfit (by simp [m1, m3]) (fun i a x ha hx => ⟨m2 x (List.mem_of_getElem? hx), m4 i a x ha hx⟩)
              have hrun := run_store_op (P := P) (co := co) (w := w) ho hT hX rfl m1 m2 f1 (by rw [f2, m1, ← m3]; exact hfit)
              unfold Oper.wp
              rw [hrun]
              exact hk G' _ _ q1 (by simp [RepT, RepA]) (fun _ => rfl) (k2.trans q2)
            · simp at hst
          · simp at hst
        · simp at hst
      · simp at hst
    · simp at hst
  · -- an element of an owned row
    rename_i k i off hv
    rw [hv] at hcx
    simp only [RepT] at hcx
    obtain ⟨b, n, c, fz, sz, xs, h1, h2, h3, h4⟩ := hcx
    split at hst
    · rename_i sz' xs' hk'
      rw [h2] at hk'
      simp only [AV.own.injEq] at hk'
      obtain ⟨rfl, rfl, rfl⟩ := hk'
      split at hst
      · rename_i av hg
        split at hst
        · rename_i l' hcells
          have hA := give_sound hR (val_sound (df := df) hR hy).1 hg
          obtain ⟨g1, g2, g3⟩ := cellsOf_sound hA hcells
          have hs := shape_size g1
          have hcvx := h1
          rcases hR.own_at h2 h1 with ⟨hnil, _⟩ | ⟨b', c', vs, arr, T', o1, o2, o3, o4, o5, o6, o7, o8, o9⟩
          · rw [hnil] at h3; simp at h3
          · simp only [Value.slice.injEq, Option.some.injEq, Addr.mk.injEq] at o1
            obtain ⟨⟨rfl, _⟩, rfl, rfl⟩ := o1
            have hM0 : ∀ off, G.M b off = none := by
              intro off
              cases hm : G.M b off with
              | none => rfl
              | some _ => have := (o9 off (by rw [hm]; simp)).1; simp at this
            have hvl := o4.length
            have hvi : i < vs.length := by rw [hvl]; exact h3
            obtain ⟨hyi1, hyi2⟩ := o7 i vs[i] (List.getElem?_eq_getElem hvi)
            have hrow : (i + 1) * sz ≤ xs.length * sz := Nat.mul_le_mul_right _ h3
            have hcap : xs.length * sz ≤ c * sz := Nat.mul_le_mul_right _ o2
            have e1 : (i + 1) * sz = i * sz + sz := Nat.succ_mul _ _
            -- what remains: the new element, and its cells
            have fin : ∀ (p' : PV) (y' : Value), RepP G.M p' y' → y'.cells.size = sz → off + ((⟨t, df⟩ : Act).eval Y).cells.size ≤ sz →
                (∀ j, j < sz → y'.cells[j]? = if off ≤ j ∧ j < off + ((⟨t, df⟩ : Act).eval Y).cells.size then ((⟨t, df⟩ : Act).eval Y).cells[j - off]? else (vs[i]).cells[j]?) →
                s1 = setK s k (.own false sz (xs.set i p')) → co.wp P ⟨t, df⟩ w next Q := by
              intro p' y' hp' hy's hfit hy'c hs1
              have hfit2 : i * sz + off + ((⟨t, df⟩ : Act).eval Y).cells.size ≤ arr.size := by omega
              have hrun := run_store_op (P := P) (co := co) (w := w) ho hT h4 rfl hs g3 o5 hfit2
              obtain ⟨arr', a1, a2, a3, a4, a5⟩ := stored_heap (b := b) (i * sz + off) ((⟨t, df⟩ : Act).eval Y).cells.toList w arr o5
              have a4' := a4 (by simpa using hfit2)
              have hOwn : OwnRep G (stored w b (i * sz + off) ((⟨t, df⟩ : Act).eval Y).cells.toList) k false sz (xs.set i p') (.slice (some ⟨b, 0, none⟩) xs.length c) := by
                refine .inr ⟨b, c, vs.set i y', arr', T', by simp, by simpa using o2, o3, RepL.set hp' i o4, a1, by rw [a2]; exact o6, fun m y hm => ?_, fun h => by simp at h, fun o h => absurd (hM0 o) h⟩
                rw [List.getElem?_set] at hm
                by_cases em : i = m
                · subst em
                  simp only [if_true, hvi] at hm
                  simp at hm; subst hm
                  refine ⟨hy's, fun j hj => ?_⟩
                  rw [hy'c j hj]
                  by_cases hin : off ≤ j ∧ j < off + ((⟨t, df⟩ : Act).eval Y).cells.size
                  · rw [if_pos hin]
                    have := a4' (j - off) (by simp; omega)
                    rw [show i * sz + off + (j - off) = i * sz + j by omega] at this
                    rw [this]; simp
                  · rw [if_neg hin, ← hyi2 j hj]
                    by_cases hlo : j < off
                    · exact a3 _ (by omega)
                    · exact a5 _ (by simp; omega)
                · simp only [em, if_false] at hm
                  obtain ⟨q1, q2⟩ := o7 m y hm
                  refine ⟨q1, fun j hj => ?_⟩
                  rw [← q2 j hj]
                  rcases Nat.lt_or_gt_of_ne em with hlt | hgt
                  · have : (i + 1) * sz ≤ m * sz := Nat.mul_le_mul_right _ hlt
                    exact a5 _ (by simp; omega)
                  · have : (m + 1) * sz ≤ i * sz := Nat.mul_le_mul_right _ hgt
                    rw [Nat.succ_mul] at this
                    exact a3 _ (by omega)
              have hR' := hR.setOwn h2 hcvx (by simp) o3 hM0 (fun q hq => stored_ne hq _ _ _) (stored_size _ _ _ _) hOwn
              unfold Oper.wp
              rw [hrun]
              rw [hs1] at hk
              obtain ⟨m1, m2, m3⟩ := stored_misc b (i * sz + off) ((⟨t, df⟩ : Act).eval Y).cells.toList w
              exact hk G _ _ hR' (by simp [RepT, RepA]) (fun _ => rfl) ⟨m1, m2, m3, by rw [stored_size]; exact Nat.le_refl _, fun _ _ _ h => h, fun q _ hz =>
                ⟨stored_ne (fun e => by rw [e, o3] at hz; simp at hz) _ _ _, hz, fun _ => rfl⟩, fun _ _ h => h⟩
            split at hst
            · rename_i ps cs hps hxi
              split at hst
              · rename_i hfit
                simp only [Option.some.injEq] at hst
                obtain ⟨y, k1, k2⟩ := o4.get hxi
                rw [List.getElem?_eq_getElem hvi] at k1
                simp only [Option.some.injEq] at k1
                have hy2 := k2
                simp only [RepP] at hy2
                obtain ⟨ys, rfl, z1, z2⟩ := hy2
                have hyl := z1.length
                simp only [Array.length_toList] at hyl
                have hps' := (RepAs.allP hps).1 g2
                have hpl := hps'.length
                simp only [Array.length_toList] at hpl
                have hsz : sz = cs.length := by rw [← hyi1, k1]; exact hyl
                refine fin (.agg (cs.take off ++ ps ++ cs.drop (off + ps.length))) (.agg (ys.toList.take off ++ ((⟨t, df⟩ : Act).eval Y).cells.toList ++ ys.toList.drop (off + ps.length)).toArray) ?_ ?_ (by omega) ?_ hst.symm
                · simp only [RepP]
                  refine ⟨_, rfl, by simpa using ((RepL.take off z1).append hps').append (RepL.drop _ z1), fun v hv => ?_⟩
                  simp only [List.mem_append] at hv
                  rcases hv with (hv | hv) | hv
                  · exact z2 v (List.mem_of_mem_take hv)
                  · exact g3 v hv
                  · exact z2 v (List.mem_of_mem_drop hv)
                · show (List.take off ys.toList ++ ((⟨t, df⟩ : Act).eval Y).cells.toList ++ List.drop (off + ps.length) ys.toList).toArray.size = sz
                  simp only [List.size_toArray, List.length_append, List.length_take, List.length_drop, Array.length_toList]
                  omega
                · intro j hj
                  rw [k1]
                  show (List.take off ys.toList ++ ((⟨t, df⟩ : Act).eval Y).cells.toList ++ List.drop (off + ps.length) ys.toList).toArray[j]? = if off ≤ j ∧ j < off + ((⟨t, df⟩ : Act).eval Y).cells.size then ((⟨t, df⟩ : Act).eval Y).cells[j - off]? else ys[j]?
                  simp only [List.getElem?_toArray]
                  by_cases hin : off ≤ j ∧ j < off + ((⟨t, df⟩ : Act).eval Y).cells.size
                  · rw [if_pos hin, List.getElem?_append_left (by simp; omega), List.getElem?_append_right (by simp; omega)]
                    simp only [List.length_take, Array.length_toList, Array.getElem?_toList]
                    congr 1; omega
                  · rw [if_neg hin]
                    by_cases hlo : j < off
                    · rw [List.getElem?_append_left (by simp; omega), List.getElem?_append_left (by simp; omega), List.getElem?_take]
                      rw [if_pos hlo]; simp
                    · rw [List.getElem?_append_right (by simp; omega), List.getElem?_drop]
                      simp only [List.length_append, List.length_take, Array.length_toList, Array.getElem?_toList]
                      congr 1; omega
              · simp at hst
            · rename_i q wv _ hps hxi
              split at hst
              · simp at hst
              · rename_i hna
                split at hst
                · simp at hst
                · rename_i hnq
                  split at hst
                  · rename_i hoff
                    simp only [Option.some.injEq] at hst
                    subst hoff
                    obtain ⟨y, k1, k2⟩ := o4.get hxi
                    rw [List.getElem?_eq_getElem hvi] at k1
                    simp only [Option.some.injEq] at k1
                    have hps' := (RepAs.allP hps).1 g2
                    have hpl := hps'.length
                    simp only [Array.length_toList, List.length_singleton] at hpl
                    have hsh : ∀ v, isAggP v = false → shapeOk .s v = true := by intro v hv; cases v <;> first | rfl | simp [isAggP] at hv
                    have hyone := rep_one k2 (hsh _ (by simpa using hna))
                    have hsz1 : sz = 1 := by rw [← hyi1, k1, cells_one hyone]; rfl
                    obtain ⟨x0, hx0⟩ : ∃ x0, ((⟨t, df⟩ : Act).eval Y).cells.toList = [x0] := by
                      cases hl : ((⟨t, df⟩ : Act).eval Y).cells.toList with
                      | nil => have : ((⟨t, df⟩ : Act).eval Y).cells.toList.length = 0 := by rw [hl]; rfl
                               simp only [Array.length_toList] at this; omega
                      | cons a r => cases r with
                        | nil => exact ⟨a, rfl⟩
                        | cons b r => have : ((⟨t, df⟩ : Act).eval Y).cells.toList.length = r.length + 2 := by rw [hl]; rfl
                                      simp only [Array.length_toList] at this; omega
                    rw [hx0] at hps' g3
                    simp only [RepL, and_true] at hps'
                    have hone0 : x0.oneCell' = true := g3 x0 (by simp)
                    refine fin q x0 hps' (by rw [cells_one hone0, hsz1]; rfl) (by omega) ?_ hst.symm
                    intro j hj
                    have hj0 : j = 0 := by omega
                    subst hj0
                    rw [if_pos (by omega), cells_one hone0]
                    have : ((⟨t, df⟩ : Act).eval Y).cells[0]? = some x0 := by
                      have : ((⟨t, df⟩ : Act).eval Y).cells.toList[0]? = some x0 := by rw [hx0]; rfl
                      simpa using this
                    simpa using this.symm
                  · simp at hst
            · simp at hst
        · simp at hst
      · simp at hst
    · simp at hst
  · simp at hst
end
end Go.Abs

namespace Go.Abs
open Go.RowKit
variable [Base]

theorem R.own_box {F G s t w} (hR : R F G s t w) {l i : Nat} (ho : isOwn (getK s (.c l i)) = true) {o : Obj} (hl : s.heap[l]? = some o) : o.kind = .box := by
  simp only [getK, hl, Option.map_some, Option.getD_some, List.getD_eq_getElem?_getD] at ho
  obtain ⟨b, _, _, _, e4⟩ := hR.objs l o hl
  unfold ObjRep at e4
  split at e4
  · assumption
  · obtain ⟨st, pos, f1, _⟩ := e4
    rw [f1] at ho
    cases i with
    | zero => simp [isOwn] at ho
    | succ i => cases i <;> simp [isOwn] at ho
  · obtain ⟨es, cs, cl, f1, _⟩ := e4
    rw [f1] at ho
    cases i <;> simp [isOwn] at ho

def setB (w : World) (b : Nat) (o : Go.Obj) : World := { w with heap := w.heap.setIfInBounds b o }
omit [Base] in
theorem setB_ne {w : World} {b q : Nat} (o : Go.Obj) (h : q ≠ b) : (setB w b o).heap[q]? = w.heap[q]? := by
  simp only [setB, Array.getElem?_setIfInBounds]
  rw [if_neg (fun e => h e.symm)]
omit [Base] in
theorem setB_eq {w : World} {b : Nat} (o : Go.Obj) (h : b < w.heap.size) : (setB w b o).heap[b]? = some o := by
  simp [setB, h]

/-- An object that is no box becomes another. -/
theorem R.setObj {F G s t w} (hR : R F G s t w) {l b : Nat} {o o' : Obj} {go : Go.Obj} (hl : s.heap[l]? = some o) (hk : o.kind ≠ .box) (hb : G.B[l]? = some b) (hk' : o'.kind ≠ .box)
    (hrep : ObjRep G (setB w b go) l b o') : R F G { s with heap := s.heap.set l o' } t (setB w b go) := by
  obtain ⟨b', e1, e2, e3, e4⟩ := hR.objs l _ hl
  rw [hb] at e1; simp at e1; subst e1
  have hll := (List.getElem?_eq_some_iff.1 hl).1
  have hne : ∀ q, G.Z q ≠ some (.o l) → q ≠ b := fun q h e => h (by rw [e]; exact e2)
  have hz : ∀ κ q, G.Z q = some (.k κ) → G.Z q = some (.k κ) ∧ (setB w b go).heap[q]? = w.heap[q]? ∧ ∀ off, G.M q off = G.M q off := by
    intro κ q h
    exact ⟨h, setB_ne _ (hne q (by rw [h]; simp)), fun _ => rfl⟩
  have hBinj : ∀ m q, G.B[m]? = some q → m ≠ l → q ≠ b := by
    intro m q h hm
    have hl' : m < s.heap.length := by rw [← hR.hB]; exact (List.getElem?_eq_some_iff.1 h).1
    obtain ⟨q', f1, f2, _⟩ := hR.objs m _ (List.getElem?_eq_getElem hl')
    rw [h] at f1; simp at f1; subst f1
    exact hne q (by rw [f2]; simpa using hm)
  have hown : ∀ i, isOwn (getK s (.c l i)) = true → False := fun i h => hk (hR.own_box h hl)
  have hg : ∀ κ, isOwn (getK s κ) = true → getK { s with heap := s.heap.set l o' } κ = getK s κ ∧ cvK F G.B t (setB w b go) κ = cvK F G.B t w κ := by
    intro κ hκ
    cases κ with
    | v i => exact ⟨rfl, rfl⟩
    | t i => exact ⟨rfl, rfl⟩
    | c m i =>
      have hml : m ≠ l := fun e => hown i (by rw [← e]; exact hκ)
      refine ⟨?_, ?_⟩
      · simp only [getK, List.getElem?_set]
        rw [if_neg (fun e => hml e.symm)]
      · simp only [cvK]
        cases hm : G.B[m]? with
        | none => rfl
        | some q => exact cell_same (setB_ne _ (hBinj m q hm hml)) _
  have keepT : ∀ κ c y, RepT F G s t w κ c y → RepT F G { s with heap := s.heap.set l o' } t (setB w b go) κ c y := fun κ c y h =>
    h.keep (fun _ _ _ h => h) (fun _ _ h => h) (hz κ) (fun q _ ho => hg q ho)
  have hbase : ∀ q o, Base.H0 q = some o → (setB w b go).heap[q]? = some o ∧ G.Z q = none := fun q o h => by
    obtain ⟨h1, h2⟩ := hR.base q o h
    exact ⟨(setB_ne _ (hne q (by rw [h2]; simp))).trans h1, h2⟩
  refine ⟨?_, by simpa [setB] using hR.freshM, hbase, by simpa [setB] using hR.freshZ, by simp [hR.hB], hR.inj, ?_, ?_, ?_⟩
  · intro q off v h
    have : q ≠ b := fun e => by subst e; rw [e3] at h; simp at h
    rw [cell_same (setB_ne _ this)]
    exact hR.agree q off v h
  · intro i c h
    obtain ⟨n, y, f1, f2, f3⟩ := hR.vars i c h
    exact ⟨n, y, f1, f2, keepT _ _ _ f3⟩
  · intro i c h
    rcases hR.tmps i c h with h0 | ⟨n, y, f1, f2, f3⟩
    · exact .inl h0
    · exact .inr ⟨n, y, f1, f2, keepT _ _ _ f3⟩
  · intro m oo h
    simp only [List.getElem?_set] at h
    by_cases e : l = m
    · subst e
      simp only [if_true, hll] at h
      simp at h; subst h
      exact ⟨b, hb, e2, e3, hrep⟩
    · rw [if_neg e] at h
      obtain ⟨q, f1, f2, f3, f4⟩ := hR.objs m oo h
      exact ⟨q, f1, f2, f3, f4.keep (fun _ _ _ h => h) (fun _ _ h => h) (setB_ne _ (hBinj m q f1 (fun h => e h.symm))) fun i => hz _⟩
omit [Base] in
theorem Ext.setB {G : Gh} {w : World} {b : Nat} (hz : G.Z b ≠ none) (o : Go.Obj) : Ext G w G (setB w b o) :=
  ⟨rfl, rfl, rfl, by simp [Abs.setB], fun _ _ _ h => h, fun q _ hq => ⟨setB_ne _ (fun e => hz (by rw [← e]; exact hq)), hq, fun _ => rfl⟩, fun _ _ h => h⟩

section
variable {P : Program} {F : Fr} {co : Oper} {call : Calls}

theorem op_range {X : Operand} {x : Opd} {T : TypeId} (hd : co.dst ≠ none) (ho : co.op = .range T X) (hx : opdOk F X x = true) (hT : P.underlying T = some .string) : OpS P F co (.range x) call := by
  intro G s t w df a s' N _ hR hev next Q hk
  simp only [evOp] at hev
  split at hev
  · rename_i b hv
    simp only [Option.some.injEq, Prod.mk.injEq] at hev
    obtain ⟨rfl, rfl⟩ := hev
    have h1 := val_pure (df := df) hR hx hv
    simp only [RepP] at h1
    have hrun : (execOp (⟨t, df⟩ : Act).eval co).run P w = .ok (.value (.pointer (some ⟨w.heap.size, 0, none⟩))) (pushed w (.stringIter ⟨b.toArray⟩ 0)) := by
      simp [execOp, ho, h1, Instr.range, run_underlying hT, Result.andThen]
      rfl
    have hn := hR.newObj (.stringIter ⟨b.toArray⟩ 0) (ob := ⟨.iter, [.p (.str b), .p (.int .i64 0)]⟩) (by
      simp only [ObjRep]
      exact ⟨b, 0, rfl, Int.le_refl _, pushed_new _ _⟩)
    unfold Oper.wp
    rw [hrun]
    refine hk _ _ _ hn ?_ (fun e => absurd e hd) (Ext.newO _ _)
    simp only [RepT, RepA, Gh.addO]
    exact ⟨w.heap.size, by rw [← hR.hB]; simp, rfl⟩
  · simp at hev

omit [Base] in
theorem decodeL_eq (b : List UInt8) (p : Nat) : decodeL (b.drop p) = Utf8.decode ⟨b.toArray⟩ p := by
  have h1 : ∀ k, (b.drop p).getD k 0 = (⟨b.toArray⟩ : ByteArray).get! (p + k) := by
    intro k
    simp only [List.getD_eq_getElem?_getD, List.getElem?_drop]
    show _ = b.toArray[p + k]!
    simp [getElem!_def]
    cases b[p + k]? <;> rfl
  have h2 : ∀ k, decide (k < (b.drop p).length) = decide (p + k < (⟨b.toArray⟩ : ByteArray).size) := by
    intro k
    have : (⟨b.toArray⟩ : ByteArray).size = b.length := by simp [ByteArray.size]
    rw [this, List.length_drop, decide_eq_decide]
    omega
  unfold decodeL Utf8.decode
  simp only [h1, h2]

theorem op_next {X : Operand} {x : Opd} (hd : co.dst ≠ none) (ho : co.op = .next X true) (hx : opdOk F X x = true) : OpS P F co (.next x) call := by
  intro G s t w df a s' N _ hR hev next Q hk
  simp only [evOp] at hev
  split at hev
  · rename_i l hv
    split at hev
    · rename_i b pos hl
      have h1 := (val_sound (df := df) hR hx).1
      rw [hv] at h1
      simp only [RepT, RepA] at h1
      obtain ⟨q, e1, e2⟩ := h1
      obtain ⟨q', f1, f2, f3, f4⟩ := hR.objs l _ hl
      rw [e1] at f1; simp at f1; subst f1
      simp only [ObjRep] at f4
      obtain ⟨st, ps, g1, g2, g3⟩ := f4
      simp only [List.cons.injEq, AV.p.injEq, PV.str.injEq, PV.int.injEq, true_and, and_true] at g1
      obtain ⟨rfl, rfl⟩ := g1
      have hsz : (⟨b.toArray⟩ : ByteArray).size = b.length := by simp [ByteArray.size]
      split at hev
      · rename_i hlt
        simp only [Option.some.injEq, Prod.mk.injEq] at hev
        obtain ⟨rfl, rfl⟩ := hev
        have hlt' : pos.toNat < b.length := by omega
        have hb : q < w.heap.size := (Array.getElem?_eq_some_iff.1 g3).1
        have hrun : (execOp (⟨t, df⟩ : Act).eval co).run P w = .ok (.value (.tuple #[.bool true, goInt pos.toNat, .int .i32 (Utf8.decode ⟨b.toArray⟩ pos.toNat).1]))
            (setB w q (.stringIter ⟨b.toArray⟩ (pos.toNat + (Utf8.decode ⟨b.toArray⟩ pos.toNat).2))) := by
          simp [execOp, ho, e2, Instr.next, getObj, Sem.run, g3, Result.andThen, hsz, hlt', setB, Go.setObj]
        have hn := hR.setObj (l := l) (b := q) (o' := ⟨.iter, [.p (.str b), .p (.int .i64 (pos + (decodeL (b.drop pos.toNat)).2))]⟩)
          (go := .stringIter ⟨b.toArray⟩ (pos.toNat + (Utf8.decode ⟨b.toArray⟩ pos.toNat).2)) hl (by simp) e1 (by simp) (by
            simp only [ObjRep]
            refine ⟨b, _, rfl, by omega, ?_⟩
            rw [setB_eq _ hb, ← decodeL_eq]
            congr 2; omega)
        unfold Oper.wp
        rw [hrun]
        refine hk G _ _ hn ?_ (fun e => absurd e hd) (Ext.setB (by rw [f2]; simp) _)
        simp only [RepT, RepA]
        refine ⟨_, rfl, ?_⟩
        simp only [RepAs, RepA, RepP, and_true, true_and, goInt, decodeL_eq]
        rw [Int.toNat_of_nonneg g2]
      · rename_i hlt
        simp only [Option.some.injEq, Prod.mk.injEq] at hev
        obtain ⟨rfl, rfl⟩ := hev
        have hlt' : ¬ pos.toNat < b.length := by omega
        have hrun : (execOp (⟨t, df⟩ : Act).eval co).run P w = .ok (.value (.tuple #[.bool false])) w := by
          simp [execOp, ho, e2, Instr.next, getObj, Sem.run, g3, Result.andThen, hsz, hlt']
        unfold Oper.wp
        rw [hrun]
        refine hk G _ _ hR ?_ (fun e => absurd e hd) (Ext.refl _ _)
        simp only [RepT, RepA]
        exact ⟨_, rfl, by simp [RepAs, RepA, RepP]⟩
    · simp at hev
  · simp at hev

theorem op_mkmap {T : TypeId} {R : Option Operand} (hd : co.dst ≠ none) (ho : co.op = .makeMap T R) (hr : R = none) : OpS P F co .mkmap call := by
  subst hr
  intro G s t w df a s' N _ hR hev next Q hk
  simp only [evOp, Option.some.injEq, Prod.mk.injEq] at hev
  obtain ⟨rfl, rfl⟩ := hev
  have hrun : (execOp (⟨t, df⟩ : Act).eval co).run P w = .ok (.value (.map (some w.heap.size))) (pushed w (.map #[] 0)) := by
    simp [execOp, ho, Instr.makeMap, Result.andThen]
    rfl
  have hn := hR.newObj (.map #[] 0) (ob := ⟨.map, [.p (.slice 2 [])]⟩) (by
    simp only [ObjRep]
    exact ⟨[], #[], 0, rfl, pushed_new _ _, ⟨rfl, by simp⟩, by simp⟩)
  unfold Oper.wp
  rw [hrun]
  refine hk _ _ _ hn ?_ (fun e => absurd e hd) (Ext.newO _ _)
  simp only [RepT, RepA, Gh.addO]
  exact ⟨w.heap.size, by rw [← hR.hB]; simp, rfl⟩

omit [Base] in
theorem same_str (a b : List UInt8) : Instr.sameNow .string (.string ⟨a.toArray⟩) (.string ⟨b.toArray⟩) = some (decide (a = b)) := by
  simp only [Instr.sameNow, Option.some.injEq]
  by_cases h : a = b
  · subst h; simp [(MapKept.bytes_beq _ _).2]
  · have : ¬ (⟨a.toArray⟩ : ByteArray) = ⟨b.toArray⟩ := by simpa using h
    have h2 : ((⟨a.toArray⟩ : ByteArray) == ⟨b.toArray⟩) = false := by
      cases hb : ((⟨a.toArray⟩ : ByteArray) == ⟨b.toArray⟩) with
      | false => rfl
      | true => exact absurd ((MapKept.bytes_beq _ _).1 hb) this
    rw [h2]; simp [h]

def EntL (M : Mem) : List PV → List MapEntry → Prop
  | [], [] => True
  | e :: es, m :: ms => (∃ k v, e = .agg [.str k, v] ∧ m.key = .string ⟨k.toArray⟩ ∧ RepP M v m.val ∧ m.val.oneCell' = true) ∧ EntL M es ms
  | _, _ => False
omit [Base] in
theorem MapRep.ent {M : Mem} : ∀ {es : List PV} {cs : List MapEntry}, es.length = cs.length →
    (∀ (i : Nat) (e : PV), es[i]? = some e → ∃ k v m, e = .agg [.str k, v] ∧ cs[i]? = some m ∧ m.key = .string ⟨k.toArray⟩ ∧ RepP M v m.val ∧ m.val.oneCell' = true) → EntL M es cs
  | [], [], _, _ => by simp [EntL]
  | e :: es, m :: ms, hl, h => by
    simp only [EntL]
    obtain ⟨k, v, m', h1, h2, h3⟩ := h 0 e rfl
    simp at h2; subst h2
    exact ⟨⟨k, v, h1, h3⟩, MapRep.ent (by simpa using hl) fun i e' he => by simpa using h (i + 1) e' (by simpa using he)⟩
  | [], _ :: _, hl, _ => by simp at hl
  | _ :: _, [], hl, _ => by simp at hl
omit [Base] in
theorem EntL.rep {M : Mem} : ∀ {es : List PV} {cs : List MapEntry}, EntL M es cs → es.length = cs.length ∧
    (∀ (i : Nat) (e : PV), es[i]? = some e → ∃ k v m, e = .agg [.str k, v] ∧ cs[i]? = some m ∧ m.key = .string ⟨k.toArray⟩ ∧ RepP M v m.val ∧ m.val.oneCell' = true)
  | [], [], _ => by simp
  | e :: es, m :: ms, h => by
    simp only [EntL] at h
    obtain ⟨⟨k, v, h1, h2⟩, h3⟩ := h
    obtain ⟨i1, i2⟩ := EntL.rep h3
    refine ⟨by simp [i1], fun i e' he => ?_⟩
    cases i with
    | zero => simp at he; subst he; exact ⟨k, v, m, h1, by simp, h2⟩
    | succ i => simp at he; simpa using i2 i e' he
  | [], _ :: _, h => by simp [EntL] at h
  | _ :: _, [], h => by simp [EntL] at h

omit [Base] in
theorem look_sound {M : Mem} {q : List UInt8} : ∀ {es : List PV} {cs : List MapEntry} (i : Nat) {r : Option PV}, EntL M es cs → lookE (.str q) es = some r →
    (r = none ∧ Instr.findNow .string (.string ⟨q.toArray⟩) cs i = some none) ∨ ∃ v j x, r = some v ∧ Instr.findNow .string (.string ⟨q.toArray⟩) cs i = some (some (j, x)) ∧ RepP M v x
  | [], [], i, r, _, hl => by
    simp only [lookE, Option.some.injEq] at hl; subst hl
    exact .inl ⟨rfl, rfl⟩
  | e :: es, m :: ms, i, r, h, hl => by
    simp only [EntL] at h
    obtain ⟨⟨k, v, rfl, h2, h3, h4⟩, h5⟩ := h
    simp only [lookE] at hl
    simp only [Instr.findNow, h2, same_str]
    by_cases e : q = k
    · simp only [e, if_true, Option.some.injEq] at hl; subst hl
      exact .inr ⟨v, i, m.val, rfl, by simp [e], h3⟩
    · simp only [e, if_false] at hl
      simp only [e, decide_false]
      exact look_sound (i + 1) h5 hl
  | [], _ :: _, _, _, h, _ => by simp [EntL] at h
  | _ :: _, [], _, _, h, _ => by simp [EntL] at h

theorem op_look {T kt et : TypeId} {X I : Operand} {x k : Opd} {ok : Bool} {zero : PV} {inf : TypeInfo} {zv : Value} (hd : co.dst ≠ none) (ho : co.op = .lookup T X I ok) (hx : opdOk F X x = true) (hi : opdOk F I k = true)
    (hT : P.underlying T = some (.map kt et)) (hkt : P.underlying kt = some .string) (hinf : P.info? et = some inf) (hzv : inf.zero = some zv) (hz : pvOkA zv zero = true) : OpS P F co (.look x k ok zero) call := by
  refine opS_pure hd fun G s t w df r s' κ hR hev => ?_
  simp only [evOp] at hev
  split at hev
  · rename_i l key hv hkey
    have h1 := (val_sound (df := df) hR hx).1
    rw [hv] at h1
    simp only [RepT, RepA] at h1
    obtain ⟨b, e1, e2⟩ := h1
    have h2 := giveP_sound (df := df) hR hi hkey
    split at hev
    · rename_i es hl
      obtain ⟨b', f1, f2, f3, f4⟩ := hR.objs l _ hl
      rw [e1] at f1; simp at f1; subst f1
      simp only [ObjRep] at f4
      obtain ⟨es', cs, clock, g1, g2, g3, g4⟩ := f4
      simp only [List.cons.injEq, AV.p.injEq, PV.slice.injEq, true_and, and_true] at g1
      subst g1
      have hent := MapRep.ent (cs := cs.toList) (by simpa using g3.1) (by simpa using g3.2)
      simp only [RepP] at h2
      have hget : (getObj b).run P w = .ok (.map cs clock) w := MapKept.run_getObj_map g2
      have hck : ∀ e, (Instr.checkKey e 10000 kt (.string ⟨key.toArray⟩)).run P w = .ok () w := fun e => MapKept.run_checkKey hkt (by trivial) e 9999
      have hz0 : (zeroValue et).run P w = .ok zv w := by simp [zeroValue, typeInfo, hinf, hzv]
      have hrun : ∀ r, Instr.findNow .string (.string ⟨key.toArray⟩) cs.toList 0 = some r → (execOp (⟨t, df⟩ : Act).eval co).run P w =
          .ok (.value (if ok then .tuple #[(r.map (·.2)).getD zv, .bool r.isSome] else (r.map (·.2)).getD zv)) w := by
        intro r hr
        have hfk := MapKept.run_findKey (P := P) (w := w) hkt hr
        simp only [execOp, ho, Instr.lookup, Sem.run_bind, run_underlying hT, Result.andThen_ok, e2, h2, hget, hck, hfk, Sem.run_pure]
        cases r with
        | none => simp [hz0]
        | some r => rfl
      split at hev
      · rename_i v hlk
        simp only [Option.some.injEq, Prod.mk.injEq] at hev
        obtain ⟨rfl, rfl⟩ := hev
        rcases look_sound 0 hent hlk with ⟨h, _⟩ | ⟨v', j, x', hv', hf, hrep⟩
        · simp at h
        · simp at hv'; subst hv'
          refine ⟨_, rfl, hrun _ hf, ?_⟩
          cases ok
          · simpa [RepT, RepA] using hrep
          · simp only [if_true, RepT, RepA]
            exact ⟨_, rfl, by simp [RepAs, RepA, RepP, hrep]⟩
      · rename_i hlk
        simp only [Option.some.injEq, Prod.mk.injEq] at hev
        obtain ⟨rfl, rfl⟩ := hev
        rcases look_sound 0 hent hlk with ⟨_, hf⟩ | ⟨v', j, x', hv', hf, hrep⟩
        · refine ⟨_, rfl, hrun _ hf, ?_⟩
          have hzr : RepP G.M zero zv := pvOkA_rep hz
          cases ok
          · simpa [RepT, RepA] using hzr
          · simp only [if_true, RepT, RepA]
            exact ⟨_, rfl, by simp [RepAs, RepA, RepP, hzr]⟩
        · simp at hv'
      · simp at hev
    · simp at hev
  · simp at hev

omit [Base] in
theorem EntL.append {M : Mem} : ∀ {es : List PV} {cs : List MapEntry} {e m}, EntL M es cs → EntL M [e] [m] → EntL M (es ++ [e]) (cs ++ [m])
  | [], [], _, _, _, h => h
  | _ :: _, _ :: _, _, _, h, k => by
    simp only [List.cons_append, EntL] at h ⊢
    exact ⟨h.1, EntL.append h.2 k⟩
  | [], _ :: _, _, _, h, _ => by simp [EntL] at h
  | _ :: _, [], _, _, h, _ => by simp [EntL] at h

omit [Base] in
theorem put_sound {M : Mem} {q : List UInt8} {v : PV} {x : Value} (hv : RepP M v x) (hx : x.oneCell' = true) : ∀ {es es' : List PV} {cs : List MapEntry} (i : Nat), EntL M es cs → putE (.str q) v es = some es' →
    (Instr.findNow .string (.string ⟨q.toArray⟩) cs i = some none ∧ es' = es ++ [.agg [.str q, v]]) ∨
    ∃ j y m, Instr.findNow .string (.string ⟨q.toArray⟩) cs i = some (some (i + j, y)) ∧ cs[j]? = some m ∧ m.key = .string ⟨q.toArray⟩ ∧ EntL M es' (cs.set j { m with val := x })
  | [], es', [], i, _, hl => by
    simp only [putE, Option.some.injEq] at hl; subst hl
    exact .inl ⟨rfl, rfl⟩
  | e :: es, es', m :: ms, i, h, hl => by
    simp only [EntL] at h
    obtain ⟨⟨k, w, rfl, h2, h3, h4⟩, h5⟩ := h
    simp only [putE] at hl
    simp only [Instr.findNow, h2, same_str]
    by_cases e : q = k
    · simp only [e, if_true, Option.some.injEq] at hl; subst hl
      refine .inr ⟨0, m.val, m, by simp [e], by simp, by rw [h2, e], ?_⟩
      simp only [List.set_cons_zero, EntL]
      exact ⟨⟨k, v, rfl, h2, hv, hx⟩, h5⟩
    · simp only [e, if_false, Option.map_eq_some_iff] at hl
      obtain ⟨es1, hp, rfl⟩ := hl
      simp only [e, decide_false]
      rcases put_sound hv hx (i + 1) h5 hp with ⟨f1, f2⟩ | ⟨j, y, m', f1, f2, f3, f4⟩
      · exact .inl ⟨f1, by rw [f2]; rfl⟩
      · refine .inr ⟨j + 1, y, m', by rw [f1]; congr 3; omega, by simpa using f2, f3, ?_⟩
        simp only [List.set_cons_succ, EntL]
        exact ⟨⟨k, w, rfl, h2, h3, h4⟩, f4⟩
  | [], _, _ :: _, _, h, _ => by simp [EntL] at h
  | _ :: _, _, [], _, h, _ => by simp [EntL] at h

theorem op_mset {T kt et : TypeId} {X I Y : Operand} {x k y : Opd} (hd : co.dst = none) (ho : co.op = .mapUpdate T X I Y) (hx : opdOk F X x = true) (hi : opdOk F I k = true) (hy : opdOk F Y y = true)
    (hT : P.underlying T = some (.map kt et)) (hkt : P.underlying kt = some .string) : OpS P F co (.mset x k y) call := by
  intro G s t w df a s' N _ hR hev next Q hk
  simp only [evOp] at hev
  split at hev
  · rename_i l key v hv hkey hval
    have h1 := (val_sound (df := df) hR hx).1
    rw [hv] at h1
    simp only [RepT, RepA] at h1
    obtain ⟨b, e1, e2⟩ := h1
    have h2 := giveP_sound (df := df) hR hi hkey
    have h3 := giveP_sound (df := df) hR hy hval
    split at hev
    · rename_i es hl
      obtain ⟨b', f1, f2, f3, f4⟩ := hR.objs l _ hl
      rw [e1] at f1; simp at f1; subst f1
      simp only [ObjRep] at f4
      obtain ⟨es', cs, clock, g1, g2, g3, g4⟩ := f4
      simp only [List.cons.injEq, AV.p.injEq, PV.slice.injEq, true_and, and_true] at g1
      subst g1
      have hent := MapRep.ent (cs := cs.toList) (by simpa using g3.1) (by simpa using g3.2)
      simp only [RepP] at h2
      split at hev
      · rename_i es2 hput
        split at hev
        · simp at hev
        · rename_i hna
          simp only [Option.some.injEq, Prod.mk.injEq] at hev
          obtain ⟨rfl, rfl⟩ := hev
          have hone : ((⟨t, df⟩ : Act).eval Y).oneCell' = true := rep_one h3 (by cases v <;> first | rfl | simp [isAggP] at hna)
          have hb : b < w.heap.size := (Array.getElem?_eq_some_iff.1 g2).1
          have hget : (getObj b).run P w = .ok (.map cs clock) w := MapKept.run_getObj_map g2
          have hck : (Instr.checkKey false 10000 kt (.string ⟨key.toArray⟩)).run P w = .ok () w := MapKept.run_checkKey hkt (by trivial) _ 9999
          have hset : ∀ o, (Go.setObj b o).run P w = .ok () (setB w b o) := fun o => MapKept.run_setObj_map o g2
          have fin : ∀ cs' clock', (execOp (⟨t, df⟩ : Act).eval co).run P w = .ok .skip (setB w b (.map cs' clock')) → EntL G.M es2 cs'.toList → (∀ (i : Nat) (m : MapEntry), cs'[i]? = some m → m.born < clock') → co.wp P ⟨t, df⟩ w next Q := by
            intro cs' clock' hrun hE hborn
            have hn := hR.setObj (l := l) (b := b) (o' := ⟨.map, [.p (.slice 2 es2)]⟩) (go := .map cs' clock') hl (by simp) e1 (by simp) (by
              simp only [ObjRep]
              refine ⟨es2, cs', clock', rfl, setB_eq _ hb, ?_, hborn⟩
              have := hE.rep
              exact ⟨by simpa using this.1, by simpa using this.2⟩)
            unfold Oper.wp
            rw [hrun]
            exact hk G _ _ hn (by simp [RepT, RepA]) (fun _ => rfl) (Ext.setB (by rw [f2]; simp) _)
          rcases put_sound h3 hone 0 hent hput with ⟨h, rfl⟩ | ⟨j, yv, m, hf, hm, hmk, hE⟩
          · have hfk := MapKept.run_findKey (P := P) (w := w) hkt h
            refine fin (cs.push ⟨.string ⟨key.toArray⟩, (⟨t, df⟩ : Act).eval Y, clock⟩) (clock + 1) ?_ ?_ ?_
            · simp only [execOp, ho, Instr.mapUpdate, Sem.run_bind, run_underlying hT, Result.andThen_ok, e2, h2, hget, hck, hfk, hset]
              rfl
            · rw [Array.toList_push]
              exact hent.append (by simp only [EntL, and_true]; exact ⟨key, v, rfl, rfl, h3, hone⟩)
            · intro i m' hm'
              simp only [Array.getElem?_push] at hm'
              split at hm'
              · simp at hm'; subst hm'; exact Nat.lt_succ_self _
              · have := g4 i m' hm'; omega
          · have hfk := MapKept.run_findKey (P := P) (w := w) hkt hf
            have hm' : cs[j]? = some m := by simpa using hm
            have hst := MapKept.run_keyThatStays (P := P) (w := w) (d := .string) (k := .string ⟨key.toArray⟩) (by trivial)
            refine fin (cs.modify j fun e => { e with key := .string ⟨key.toArray⟩, val := (⟨t, df⟩ : Act).eval Y }) clock ?_ ?_ ?_
            · simp only [execOp, ho, Instr.mapUpdate, Sem.run_bind, run_underlying hT, Result.andThen_ok, e2, h2, hget, hck, hfk, Nat.zero_add, hm', Option.map_some, Option.getD_some, hmk, hst, hset]
              rfl
            · have : (cs.modify j fun e => { e with key := .string ⟨key.toArray⟩, val := (⟨t, df⟩ : Act).eval Y }).toList = cs.toList.set j { m with val := (⟨t, df⟩ : Act).eval Y } := by
                apply List.ext_getElem?
                intro i
                simp only [Array.getElem?_toList, Array.getElem?_modify, List.getElem?_set]
                by_cases e : j = i
                · subst e
                  have hlt := (Array.getElem?_eq_some_iff.1 hm').1
                  rw [hm']
                  simp only [if_true, Option.map_eq_map, Option.map_some, Array.length_toList, hlt]
                  cases m; simp only at hmk; subst hmk; rfl
                · simp [e]
              rw [this]; exact hE
            · intro i m' hm'
              simp only [Array.getElem?_modify] at hm'
              split at hm'
              · simp only [Option.map_eq_map, Option.map_eq_some_iff] at hm'
                obtain ⟨e, he, rfl⟩ := hm'
                exact g4 i e he
              · exact g4 i m' hm'
      · simp at hev
    · simp at hev
  · simp at hev

theorem op_mn {X Y : Operand} {x y : Opd} {Ts : Array TypeId} (hd : co.dst ≠ none) (ho : co.op = .call { callee := .builtin .min, args := #[X, Y], argTypes := Ts }) (hx : opdOk F X x = true) (hy : opdOk F Y y = true) :
    OpS P F co (.mn [x, y]) call := by
  refine opS_pure hd fun G s t w df r s' κ hR hev => ?_
  simp only [evOp, foldI, Option.map_eq_some_iff, Prod.mk.injEq] at hev
  obtain ⟨⟨k, n⟩, h, rfl, rfl⟩ := hev
  split at h
  · rename_i k1 n1 k2 n2 h1 h2
    split at h2
    · rename_i k3 n3 h3
      simp only [Option.some.injEq, Prod.mk.injEq] at h2
      obtain ⟨rfl, rfl⟩ := h2
      split at h
      · rename_i e
        simp only [Option.some.injEq, Prod.mk.injEq] at h
        obtain ⟨rfl, rfl⟩ := h
        subst e
        have g1 := giveP_sound (df := df) hR hx h1
        have g2 := giveP_sound (df := df) hR hy h3
        simp only [RepP] at g1 g2
        refine ⟨.int k1 (if n1 < n3 then n1 else n3), rfl, ?_, by simp only [RepT, RepA, RepP]⟩
        have : (if n3 < n1 then n3 else n1) = if n1 < n3 then n1 else n3 := by split <;> split <;> omega
        simp [execOp, ho, resolve, invoke, builtin, Builtin.min_, Builtin.min2, g1, g2, List.foldlM, Result.andThen, this]
      · simp at h
    · simp at h2
  · simp at h
theorem op_mx {X Y : Operand} {x y : Opd} {Ts : Array TypeId} (hd : co.dst ≠ none) (ho : co.op = .call { callee := .builtin .max, args := #[X, Y], argTypes := Ts }) (hx : opdOk F X x = true) (hy : opdOk F Y y = true) :
    OpS P F co (.mx [x, y]) call := by
  refine opS_pure hd fun G s t w df r s' κ hR hev => ?_
  simp only [evOp, foldI, Option.map_eq_some_iff, Prod.mk.injEq] at hev
  obtain ⟨⟨k, n⟩, h, rfl, rfl⟩ := hev
  split at h
  · rename_i k1 n1 k2 n2 h1 h2
    split at h2
    · rename_i k3 n3 h3
      simp only [Option.some.injEq, Prod.mk.injEq] at h2
      obtain ⟨rfl, rfl⟩ := h2
      split at h
      · rename_i e
        simp only [Option.some.injEq, Prod.mk.injEq] at h
        obtain ⟨rfl, rfl⟩ := h
        subst e
        have g1 := giveP_sound (df := df) hR hx h1
        have g2 := giveP_sound (df := df) hR hy h3
        simp only [RepP] at g1 g2
        refine ⟨.int k1 (if n1 > n3 then n1 else n3), rfl, ?_, by simp only [RepT, RepA, RepP]⟩
        have : (if n3 > n1 then n3 else n1) = if n1 > n3 then n1 else n3 := by split <;> split <;> omega
        simp [execOp, ho, resolve, invoke, builtin, Builtin.max_, Builtin.max2, g1, g2, List.foldlM, Result.andThen, this]
      · simp at h
    · simp at h2
  · simp at h
end
end Go.Abs
