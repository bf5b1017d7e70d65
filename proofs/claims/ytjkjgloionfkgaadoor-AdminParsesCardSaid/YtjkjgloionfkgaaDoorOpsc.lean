/- 'append'. 'append', as the evaluator has it. Structs and rows that are written out. -/
import Derived.Test.YtjkjgloionfkgaaDoorOpsb
import Derived.Laws.Tables

namespace Go.Abs
open Go.RowKit
variable [Base]

section
variable {P : Program}

/-- The world behind an append that had to make a new row. -/
def grownW (w : World) (e : TypeId) (arr : Array Value) : World := pushed w.drew (.cells arr e)

omit [Base] in
theorem run_append_fits {w : World} {sT xT ty e e' : TypeId} {inf : TypeInfo} (hT : P.underlying sT = some (.slice e)) (hX : P.underlying xT = some (.slice e')) (hinf : P.info? e = some inf)
    {b len c n : Nat} {x : Value} {new : List Value} (hlen : (Builtin.lenOf x).run P w = .ok n w) (hnew : (Builtin.firstCells inf.size n x).run P w = .ok new.toArray w) (hfit : len + n ≤ c)
    (hst : (storeCells ⟨b, len * inf.size, none⟩ new).run P w = .ok () (stored w b (len * inf.size) new)) :
    (Builtin.append_ #[sT, xT] ty #[.slice (some ⟨b, 0, none⟩) len c, x]).run P w = .ok (.slice (some ⟨b, 0, none⟩) (len + n) c) (stored w b (len * inf.size) new) := by
  have hadd : (⟨b, 0, none⟩ : Addr).add (len * inf.size) = ⟨b, len * inf.size, none⟩ := by rw [addr_add]; simp
  simp [Builtin.append_, run_underlying hT, run_underlying hX, sizeOf, typeInfo, hinf, hlen, hnew, hfit, hadd, hst]

omit [Base] in
theorem run_append_none {w : World} {sT xT ty e e' : TypeId} {inf : TypeInfo} (hT : P.underlying sT = some (.slice e)) (hX : P.underlying xT = some (.slice e')) (hinf : P.info? e = some inf)
    {a : Option Addr} {len c : Nat} {x : Value} (hlen : (Builtin.lenOf x).run P w = .ok 0 w) (hnew : (Builtin.firstCells inf.size 0 x).run P w = .ok #[] w) (hfit : len ≤ c) :
    (Builtin.append_ #[sT, xT] ty #[.slice a len c, x]).run P w = .ok (.slice a len c) w := by
  cases a with
  | none => simp [Builtin.append_, run_underlying hT, run_underlying hX, sizeOf, typeInfo, hinf, hlen, hnew, hfit]
  | some a => simp [Builtin.append_, run_underlying hT, run_underlying hX, sizeOf, typeInfo, hinf, hlen, hnew, hfit, storeCells]

omit [Base] in
theorem run_append_grows {w : World} {sT xT ty e e' : TypeId} {inf : TypeInfo} {zv : Value} (hT : P.underlying sT = some (.slice e)) (hX : P.underlying xT = some (.slice e')) (hinf : P.info? e = some inf)
    (hzv : inf.zero = some zv) (hb0 : 1 ≤ inf.bytes) (hb1 : inf.bytes ≤ 65536) {a : Option Addr} {len c n : Nat} {x : Value} {old new : List Value} (hlen : (Builtin.lenOf x).run P w = .ok n w)
    (hgrow : c < len + n) (hroom : (len + n) * inf.bytes ≤ 2 ^ 46)
    (hold : ∀ w' : World, w'.heap = w.heap → (Builtin.firstCells inf.size len (.slice a len c)).run P w' = .ok old.toArray w')
    (hnew : ∀ w' : World, w'.heap = w.heap → (Builtin.firstCells inf.size n x).run P w' = .ok new.toArray w') :
    ∃ nc, len + n ≤ nc ∧ (Builtin.append_ #[sT, xT] ty #[.slice a len c, x]).run P w =
      .ok (.slice (some ⟨w.heap.size, 0, none⟩) (len + n) nc) (grownW w e ((old ++ new).toArray ++ Builtin.zeroCells zv.cells (nc - (len + n)))) := by
  have h1 : ¬ len + n ≤ c := by omega
  have hneed : len + n ≤ 2 ^ 46 := Nat.le_trans (Nat.le_mul_of_pos_right _ hb0) hroom
  have h2 : ¬ ((len : Int) + n > IntKind.i64.max ∧ inf.bytes = 0) := by
    rintro ⟨_, h⟩; omega
  have h3 : ¬ Builtin.nextslicecap (len + n) c * inf.bytes > 2 ^ 48 := by
    have := nextslicecap_le (len + n) c (by omega)
    have h4 : Builtin.nextslicecap (len + n) c * inf.bytes ≤ (2 * (len + n) + 768) * inf.bytes := Nat.mul_le_mul_right _ this
    rw [Nat.add_mul, Nat.mul_assoc] at h4
    omega
  refine ⟨Question.cut (.appendCap (len + n) c e) (w.tape w.drawn (.appendCap (len + n) c e)), by simp [Question.cut], ?_⟩
  have hz : ∀ w' : World, (zeroValue e).run P w' = .ok zv w' := by intro w'; simp [zeroValue, typeInfo, hinf, hzv]
  have hroomrun : ∀ (k : Nat) (w' : World), (askRoom k).run P w' = .ok () w' := by
    intro k w'; unfold askRoom; split <;> rfl
  have hsz : ∀ w' : World, (sizeOf e).run P w' = .ok inf.size w' := by intro w'; simp [sizeOf, typeInfo, hinf]
  have hti : ∀ w' : World, (typeInfo e).run P w' = .ok inf w' := by intro w'; simp [typeInfo, hinf]
  have hold' := hold w.drew rfl
  have hnew' := hnew w.drew rfl
  have h3' : ¬ 281474976710656 < Builtin.nextslicecap (len + n) c * inf.bytes := h3
  have hb : inf.bytes ≠ 0 := by omega
  have hf : (Question.appendCap (len + n) c e).forced = false := rfl
  simp [Builtin.append_, run_underlying hT, run_underlying hX, hsz, hti, hlen, h1, h3', hb, hz, hroomrun, hold', hnew', run_newRow', grownW, hf]
  have : (old ++ new).toArray = old.toArray ++ new.toArray := by simp
  rw [this, Array.append_assoc]

omit [Base] in
theorem rep_ones {M : Mem} {p : PV} {y : Value} (h : RepP M p y) : ∀ c ∈ y.cells.toList, c.oneCell' = true := by
  by_cases hv : shapeOk .s p = true
  · have := rep_one h hv
    rw [cells_one this]
    simp [this]
  · cases p <;> first | exact absurd rfl hv | (simp only [RepP] at h)
    obtain ⟨vs, rfl, _, h3⟩ := h
    exact h3
omit [Base] in
theorem flat_ones {M : Mem} : ∀ {ps : List PV} {vs : List Value}, RepL M ps vs → ∀ c ∈ flat vs, c.oneCell' = true
  | [], [], _, c, hc => by simp [flat] at hc
  | p :: ps, v :: vs, h, c, hc => by
    simp only [RepL] at h
    rw [flat_cons, List.mem_append] at hc
    rcases hc with hc | hc
    · exact rep_ones h.1 c hc
    · exact flat_ones h.2 c hc
  | [], _ :: _, h, _, _ => by simp [RepL] at h
  | _ :: _, [], h, _, _ => by simp [RepL] at h

omit [Base] in
theorem RowVal.heap {G : Gh} {w w' : World} {sz xs x} (h : RowVal G w sz xs x) (hw : w'.heap = w.heap) : RowVal G w' sz xs x := by
  obtain ⟨a, c, vs, h1, h2, h3, h4⟩ := h
  refine ⟨a, c, vs, h1, h2, h3, ?_⟩
  rcases h4 with h4 | ⟨b, o, h4, h5⟩
  · exact .inl h4
  · exact .inr ⟨b, o, h4, fun i y hy => ⟨(h5 i y hy).1, fun j hj => by rw [cell_same (w := w) (by rw [hw])]; exact (h5 i y hy).2 j hj⟩⟩

theorem append_core {F G s t w} (hR : R F G s t w) {sT xT ty e e' : TypeId} {inf : TypeInfo} {zv : Value} (hT : P.underlying sT = some (.slice e)) (hX : P.underlying xT = some (.slice e')) (hinf : P.info? e = some inf)
    (hzv : inf.zero = some zv) (hzs : zv.cells.size = inf.size) (hb0 : 1 ≤ inf.bytes) (hb1 : inf.bytes ≤ 65536) {κ : Key} (hκ : isOwn (getK s κ) = false) {f fz : Bool} {xs ys : List PV} {x y : Value}
    (hO : OwnRep G w κ f inf.size xs x) (hy : RowVal G w inf.size ys y) (hfz : fz = true ∨ f = false ∨ xs = []) (hroom : (xs.length + ys.length) * inf.bytes ≤ 2 ^ 46) (hne : ys ≠ []) :
    ∃ G' w' v, (Builtin.append_ #[sT, xT] ty #[x, y]).run P w = .ok v w' ∧ R F G' s t w' ∧ OwnRep G' w' κ fz inf.size (xs ++ ys) v ∧ Ext G w G' w' := by
  obtain ⟨ya, yc, us, y1, y2, y3, y4, y5⟩ := hy.sizes
  have hul := y3.length
  have hun : 0 < us.length := by rw [hul]; exact List.length_pos_iff.2 hne
  have hlenY : ∀ w' : World, (Builtin.lenOf y).run P w' = .ok ys.length w' := by intro w'; rw [y1]; rfl
  have hnewY : ∀ w' : World, w'.heap = w.heap → (Builtin.firstCells inf.size ys.length y).run P w' = .ok (flat us).toArray w' := by
    intro w' hw'
    obtain ⟨ya', yc', us', z1, z2, z3, z4, z5⟩ := (hy.heap hw').sizes
    rw [y1]
    refine run_firstCells hul y4 ?_
    rcases y5 with y5 | ⟨b, o, y5, y6⟩
    · exact .inl y5
    · exact .inr ⟨b, o, y5, fun k hk => by rw [cell_same (w := w) (by rw [hw'])]; exact y6 k hk⟩
  -- the new row
  have grow : ∀ (a : Option Addr) (c : Nat) (vs : List Value), x = .slice a xs.length c → RepL G.M xs vs → (∀ v ∈ vs, v.cells.size = inf.size) → c < xs.length + ys.length →
      (∀ w' : World, w'.heap = w.heap → (Builtin.firstCells inf.size xs.length (.slice a xs.length c)).run P w' = .ok (flat vs).toArray w') →
      ∃ G' w' v, (Builtin.append_ #[sT, xT] ty #[x, y]).run P w = .ok v w' ∧ R F G' s t w' ∧ OwnRep G' w' κ fz inf.size (xs ++ ys) v ∧ Ext G w G' w' := by
    intro a c vs hx hv hs hc hold
    obtain ⟨nc, hnc, hrun⟩ := run_append_grows (ty := ty) hT hX hinf hzv hb0 hb1 (hlenY w) hc hroom hold hnewY
    have hs' : ∀ v ∈ vs ++ us, v.cells.size = inf.size := by
      intro v hv; rcases List.mem_append.1 hv with h | h
      · exact hs v h
      · exact y4 v h
    have hvl := hv.length
    have hfl : (flat (vs ++ us)).length = (xs.length + ys.length) * inf.size := by rw [flat_length _ hs']; simp [hvl, hul]
    have hfe : flat vs ++ flat us = flat (vs ++ us) := (flat_append _ _).symm
    rw [hfe] at hrun
    have hlen' : (xs ++ ys).length = xs.length + ys.length := by simp
    obtain ⟨k1, k2, k3⟩ := (hR.heap (w' := w.drew) rfl).newRow κ fz inf.size ((flat (vs ++ us)).toArray ++ Builtin.zeroCells zv.cells (nc - (xs.length + ys.length))) e (xs := xs ++ ys) (vs := vs ++ us) nc (by rw [hlen']; exact hnc)
      (hv.append y3) (by
        simp only [Array.size_append, List.size_toArray, zeroCells_size, hzs, hfl]
        rw [← Nat.add_mul]
        exact Nat.mul_le_mul_right _ (by omega)) (fun i v hi => by
        refine ⟨hs' v (List.mem_of_getElem? hi), fun j hj => ?_⟩
        have h1 := flat_get _ hs' i v hi j hj
        have hi' : i < (vs ++ us).length := (List.getElem?_eq_some_iff.1 hi).1
        have hlt : i * inf.size + j < (flat (vs ++ us)).length := by
          rw [flat_length _ hs']
          have : (i + 1) * inf.size ≤ (vs ++ us).length * inf.size := Nat.mul_le_mul_right _ hi'
          rw [Nat.succ_mul] at this; omega
        rw [Array.getElem?_append_left (by simpa using hlt), ← h1]
        simp)
    rw [hx]
    refine ⟨_, _, _, hrun, k1, ?_, ?_⟩
    · have := k2
      rw [hlen'] at this
      rw [hlen']
      exact this
    · exact ⟨k3.os, k3.tape, k3.output, k3.size, k3.mono, k3.unowned, k3.pre⟩
  rcases hO with ⟨rfl, q, rfl⟩ | ⟨b, c, vs, arr, T', h1, h2, h3, h4, h5, h6, h7, h8, h9⟩
  · refine grow q 0 [] rfl (by simp [RepL]) (by simp) (by simp; omega) (fun w' _ => ?_)
    have := run_firstCells (P := P) (w := w') (sz := inf.size) (a := q) (n := 0) (c := 0) (vs := []) rfl (by simp) (.inl rfl)
    simpa using this
  · have hvl := h4.length
    have hs : ∀ v ∈ vs, v.cells.size = inf.size := by
      intro v hv
      obtain ⟨i, hi⟩ := List.mem_iff_getElem?.1 hv
      exact (h7 i v hi).1
    by_cases hfit : xs.length + ys.length ≤ c
    · -- it fits
      have hfl : (flat us).length = ys.length * inf.size := by rw [flat_length _ y4, hul]
      have hle : (xs.length + ys.length) * inf.size ≤ arr.size := Nat.le_trans (Nat.mul_le_mul_right _ hfit) h6
      have hle2 : xs.length * inf.size + (flat us).length ≤ arr.size := by rw [hfl, ← Nat.add_mul]; exact hle
      have hst := run_storeCells P (b := b) (o := xs.length * inf.size) (flat us) 0 w arr T' h5 (by simpa using hle2) (flat_ones y3)
      rw [Nat.add_zero] at hst
      obtain ⟨arr', a1, a2, a3, a4, a5⟩ := stored_heap (b := b) (xs.length * inf.size) (flat us) w arr h5
      have a4' := a4 hle2
      have hrun := run_append_fits (ty := ty) (c := c) hT hX hinf (hlenY w) (hnewY w rfl) hfit hst
      rw [h1]
      have hsz' : ∀ i, i < xs.length → (i + 1) * inf.size ≤ xs.length * inf.size := fun i hi => Nat.mul_le_mul_right _ hi
      refine ⟨⟨fun q off => if q = b then (if fz = true ∧ off < (xs.length + ys.length) * inf.size then arr'[off]? else none) else G.M q off, G.Z, G.B⟩, _, _, hrun, ?_, ?_, ?_⟩
      · have hmono : ∀ q o v, G.M q o = some v → (if q = b then (if fz = true ∧ o < (xs.length + ys.length) * inf.size then arr'[o]? else none) else G.M q o) = some v := by
          intro q o v h
          by_cases e : q = b
          · subst e
            rw [if_pos rfl]
            obtain ⟨g1, g2⟩ := h9 o (by rw [h]; simp)
            have hfz' : fz = true := by
              rcases hfz with h | h | h
              · exact h
              · rw [h] at g1; simp at g1
              · rw [h] at g2; simp at g2
            rw [if_pos ⟨hfz', by rw [Nat.add_mul]; omega⟩, a3 o g2, ← h8 g1 o g2]; exact h
          · rw [if_neg e]; exact h
        exact hR.touch hκ h3 rfl rfl hmono (fun q hq off => by simp only [if_neg hq]) (fun q hq => stored_ne hq _ _ _) (stored_size _ _ _ _) (fun o v h => by
          simp only [if_true] at h
          split at h
          · rw [cell_of a1]; exact h
          · simp at h)
      · refine .inr ⟨b, c, vs ++ us, arr', T', by simp, by simpa using hfit, h3, ?_, a1, by rw [a2]; exact h6, ?_, ?_, ?_⟩
        · have hm : ∀ q o v, G.M q o = some v → (if q = b then (if fz = true ∧ o < (xs.length + ys.length) * inf.size then arr'[o]? else none) else G.M q o) = some v := by
            intro q o v h
            by_cases e : q = b
            · subst e
              rw [if_pos rfl]
              obtain ⟨g1, g2⟩ := h9 o (by rw [h]; simp)
              have hfz' : fz = true := by
                rcases hfz with h | h | h
                · exact h
                · rw [h] at g1; simp at g1
                · rw [h] at g2; simp at g2
              rw [if_pos ⟨hfz', by rw [Nat.add_mul]; omega⟩, a3 o g2, ← h8 g1 o g2]; exact h
            · rw [if_neg e]; exact h
          exact (h4.mono hm).append (y3.mono hm)
        · intro i y hi
          by_cases hlt : i < vs.length
          · rw [List.getElem?_append_left hlt] at hi
            obtain ⟨g1, g2⟩ := h7 i y hi
            refine ⟨g1, fun j hj => ?_⟩
            have := hsz' i (by omega)
            rw [Nat.succ_mul] at this
            rw [a3 _ (by omega)]; exact g2 j hj
          · rw [List.getElem?_append_right (by omega)] at hi
            have hm := List.mem_of_getElem? hi
            refine ⟨y4 y hm, fun j hj => ?_⟩
            have g := flat_get us y4 _ y hi j hj
            have hi2 : i - vs.length < us.length := (List.getElem?_eq_some_iff.1 hi).1
            have hlt2 : (i - vs.length) * inf.size + j < (flat us).length := by
              rw [flat_length _ y4]
              have : (i - vs.length + 1) * inf.size ≤ us.length * inf.size := Nat.mul_le_mul_right _ hi2
              rw [Nat.succ_mul] at this; omega
            rw [← g, ← a4' _ hlt2]
            congr 1
            have : i = xs.length + (i - vs.length) := by omega
            conv => lhs; rw [this, Nat.add_mul]
            omega
        · intro hf off ho
          simp only [List.length_append] at ho
          simp [hf, ho]
        · intro off ho
          simp only [if_true] at ho
          split at ho
          · rename_i h; simpa using h
          · simp at ho
      · obtain ⟨m1, m2, m3⟩ := stored_misc b (xs.length * inf.size) (flat us) w
        refine ⟨m1, m2, m3, by rw [stored_size]; exact Nat.le_refl _, ?_, fun q hq hz => ?_, fun _ _ h => h⟩
        · intro q o v h
          by_cases e : q = b
          · subst e
            simp only [if_true]
            obtain ⟨g1, g2⟩ := h9 o (by rw [h]; simp)
            have hfz' : fz = true := by
              rcases hfz with h | h | h
              · exact h
              · rw [h] at g1; simp at g1
              · rw [h] at g2; simp at g2
            rw [if_pos ⟨hfz', by rw [Nat.add_mul]; omega⟩, a3 o g2, ← h8 g1 o g2]; exact h
          · simp only [if_neg e]; exact h
        · have : q ≠ b := fun e => by subst e; rw [hz] at h3; simp at h3
          exact ⟨stored_ne this _ _ _, hz, fun off => by simp only [if_neg this]⟩
    · refine grow _ c vs h1 h4 hs (by omega) (fun w' hw' => ?_)
      refine run_firstCells hvl hs (.inr ⟨b, 0, rfl, fun k hk => ?_⟩)
      obtain ⟨i, y, j, e1, e2, rfl⟩ := flat_at hs hk
      rw [flat_get vs hs i y e1 j e2, cell_same (w := w) (by rw [hw']), cell_of h5, Nat.zero_add]
      exact (h7 i y e1).2 j e2
end
end Go.Abs

namespace Go.Abs
open Go.RowKit
variable [Base]

omit [Base] in
theorem pend {s : St} {N : Nat} (h : s.tmps.length ≤ N) : isOwn (getK s (.t N)) = false := by
  simp [getK, List.getD_eq_getElem?_getD, List.getElem?_eq_none h, isOwn]
omit [Base] in
theorem setK_tmps (s : St) (k : Key) (a : AV) : (setK s k a).tmps.length = s.tmps.length := by
  cases k <;> simp [setK]
omit [Base] in
theorem inval_tmps (s : St) (k : Key) : (inval s k).tmps.length = s.tmps.length := by simp [inval]

section
variable {P : Program} {F : Fr} {co : Oper} {call : Calls}

theorem op_app {X Y : Operand} {x y : Opd} {T T' e e' : TypeId} {fz : Bool} {sz bytes : Nat} {inf : TypeInfo} {zv : Value} (hd : co.dst ≠ none)
    (ho : co.op = .call { callee := .builtin .append, args := #[X, Y], argTypes := #[T, T'] }) (hx : opdOk F X x = true) (hy : opdOk F Y y = true)
    (hT : P.underlying T = some (.slice e)) (hX : P.underlying T' = some (.slice e')) (hinf : P.info? e = some inf) (hzv : inf.zero = some zv) (hzs : zv.cells.size = inf.size) (hb0 : 1 ≤ inf.bytes) (hb1 : inf.bytes ≤ 65536)
    (hsz : inf.size = sz) (hbytes : inf.bytes = bytes) : OpS P F co (.app x y fz sz bytes) call := by
  subst hsz hbytes
  intro G s t w df a s' N hN hR hev next Q hk
  have hcx := copy_sound (df := df) hR hx (.t N)
  have hcy := copy_sound (df := df) hR hy (.t N)
  simp only [evOp, doAppend] at hev
  have hexec : ∀ v w', (Builtin.append_ #[T, T'] co.type #[(⟨t, df⟩ : Act).eval X, (⟨t, df⟩ : Act).eval Y]).run P w = .ok v w' → (execOp (⟨t, df⟩ : Act).eval co).run P w = .ok (.value v) w' := by
    intro v w' h
    simp [execOp, ho, resolve, invoke, builtin, h]
  have fin : ∀ G' w' v, (Builtin.append_ #[T, T'] co.type #[(⟨t, df⟩ : Act).eval X, (⟨t, df⟩ : Act).eval Y]).run P w = .ok v w' → R F G' s' t w' → RepT F G' s' t w' (.t N) a v → Ext G w G' w' →
      co.wp P ⟨t, df⟩ w next Q := by
    intro G' w' v h1 h2 h3 h4
    unfold Oper.wp
    rw [hexec v w' h1]
    exact hk G' w' v h2 h3 (fun e => absurd e hd) h4
  split at hev
  · rename_i fy sy ys hrow
    obtain ⟨hrv, _⟩ := rowOf_sound hR hcy hrow
    split at hev
    · -- nothing is appended
      rename_i hys
      have hys' : ys = [] := by simpa using hys
      subst hys'
      obtain ⟨ya, yc, us, y1, _, y3, _⟩ := hrv
      have hul := y3.length
      have hu0 : us = [] := by simpa using hul
      subst hu0
      have hlen : (Builtin.lenOf ((⟨t, df⟩ : Act).eval Y)).run P w = .ok 0 w := by rw [y1]; rfl
      have hnew : (Builtin.firstCells inf.size 0 ((⟨t, df⟩ : Act).eval Y)).run P w = .ok #[] w := by
        rw [y1]
        have := run_firstCells (P := P) (w := w) (sz := inf.size) (a := ya) (n := 0) (c := yc) (vs := []) rfl (by simp) (.inl rfl)
        simpa [flat] using this
      have none : ∀ a' l c, (⟨t, df⟩ : Act).eval X = .slice a' l c → l ≤ c → (Builtin.append_ #[T, T'] co.type #[(⟨t, df⟩ : Act).eval X, (⟨t, df⟩ : Act).eval Y]).run P w = .ok (.slice a' l c) w := by
        intro a' l c h hl
        rw [h]
        exact run_append_none hT hX hinf hlen hnew hl
      split at hev
      · rename_i k hk'
        rw [hk'] at hcx
        simp only [RepT] at hcx
        split at hev
        · rename_i f z xs hg
          simp only [Option.some.injEq, Prod.mk.injEq] at hev
          obtain ⟨rfl, rfl⟩ := hev
          have hO := hR.own_at hg hcx.1
          obtain ⟨G', k1, k2, k3, k4⟩ := hR.moveOwn hg hcx.1 (.t N)
          have hval : ∃ a' l c, (⟨t, df⟩ : Act).eval X = .slice a' l c ∧ l ≤ c := by
            rcases hO with ⟨_, q, h⟩ | ⟨b, c, vs, arr, T'', h1, h2, _⟩
            · exact ⟨q, 0, 0, h, Nat.le_refl _⟩
            · exact ⟨_, _, c, h1, h2⟩
          obtain ⟨a', l, c, e1, e2⟩ := hval
          rw [e1] at k4
          exact fin G' w _ (none a' l c e1 e2) k1 (by simp only [RepT]; exact k4) k2
        · simp at hev
      · rename_i z hk'
        rw [hk'] at hcx
        simp only [RepT, RepA, RepP] at hcx
        simp only [Option.some.injEq, Prod.mk.injEq] at hev
        obtain ⟨rfl, rfl⟩ := hev
        exact fin G w _ (none _ _ _ hcx (Nat.le_refl _)) hR RepT_nil (Ext.refl _ _)
      · rename_i z xs hk'
        rw [hk'] at hcx
        simp only [Option.some.injEq, Prod.mk.injEq] at hev
        obtain ⟨rfl, rfl⟩ := hev
        have hcx' := hcx
        simp only [RepT, RepA, RepP] at hcx'
        obtain ⟨a', c, vs, e1, e2, _⟩ := hcx'
        rw [e1] at hcx
        exact fin G w _ (none _ _ _ e1 e2) hR hcx (Ext.refl _ _)
      · simp at hev
    · rename_i hys
      have hne : ys ≠ [] := by simpa using hys
      split at hev
      · rename_i hsy
        subst hsy
        split at hev
        · rename_i k hk'
          rw [hk'] at hcx
          simp only [RepT] at hcx
          split at hev
          · rename_i f z xs hg
            split at hev
            · rename_i hcond
              obtain ⟨rfl, hff, hroom⟩ := hcond
              simp only [Option.some.injEq, Prod.mk.injEq] at hev
              obtain ⟨rfl, rfl⟩ := hev
              obtain ⟨G', k1, k2, k3, k4⟩ := hR.moveOwn hg hcx.1 (.t N)
              have hpend : isOwn (getK (setK (inval s k) k (if f then .p (.slice inf.size xs) else .undef)) (.t N)) = false :=
                pend (by rw [setK_tmps, inval_tmps]; exact hN)
              have hrv' : RowVal G' w inf.size ys ((⟨t, df⟩ : Act).eval Y) := by
                obtain ⟨ya, yc, us, y1, y2, y3, y4⟩ := hrv
                exact ⟨ya, yc, us, y1, y2, y3.mono k2.mono, y4⟩
              obtain ⟨G2, w2, v, r1, r2, r3, r4⟩ := append_core (ty := co.type) k1 hT hX hinf hzv hzs hb0 hb1 hpend k4 hrv' (fz := fz) (by
                simp only [Bool.or_eq_true, Bool.not_eq_true', List.isEmpty_iff] at hff
                rcases hff with (h | h) | h
                · exact .inl h
                · exact .inr (.inl h)
                · exact .inr (.inr h)) hroom hne
              exact fin G2 w2 v r1 r2 (by simp only [RepT]; exact r3) (k2.trans r4)
            · simp at hev
          · simp at hev
        · rename_i z hk'
          rw [hk'] at hcx
          simp only [RepT, RepA, RepP] at hcx
          split at hev
          · rename_i hroom
            simp only [Option.some.injEq, Prod.mk.injEq] at hev
            obtain ⟨rfl, rfl⟩ := hev
            obtain ⟨G2, w2, v, r1, r2, r3, r4⟩ := append_core (ty := co.type) (κ := .t N) (f := true) (fz := fz) (xs := []) (x := (⟨t, df⟩ : Act).eval X) hR hT hX hinf hzv hzs hb0 hb1 (pend hN)
              (.inl ⟨rfl, none, hcx⟩) hrv (.inr (.inr rfl)) (by simpa using hroom) hne
            exact fin G2 w2 v r1 r2 (by simp only [RepT]; simpa using r3) r4
          · simp at hev
        · simp at hev
      · simp at hev
  · simp at hev
end
end Go.Abs

namespace Go.Abs
open Go.RowKit
variable [Base]

omit [Base] in
theorem fold_list (off : Nat) : ∀ (l : List Value) (n : Nat) (cells : Array Value), off + n + l.length ≤ cells.size →
    ((l.zipIdx n).foldl (fun cs (p : Value × Nat) => cs.setIfInBounds (off + p.2) p.1) cells).size = cells.size ∧
    ∀ k, ((l.zipIdx n).foldl (fun cs (p : Value × Nat) => cs.setIfInBounds (off + p.2) p.1) cells)[k]? = if off + n ≤ k ∧ k < off + n + l.length then l[k - (off + n)]? else cells[k]?
  | [], n, cells, _ => ⟨rfl, fun k => by simp; omega⟩
  | x :: l, n, cells, h => by
    simp only [List.length_cons] at h
    obtain ⟨h1, h2⟩ := fold_list off l (n + 1) (cells.setIfInBounds (off + n) x) (by simp; omega)
    simp only [List.zipIdx_cons, List.foldl_cons]
    refine ⟨by rw [h1]; simp, fun k => ?_⟩
    rw [h2 k]
    simp only [List.length_cons]
    by_cases e : k = off + n
    · subst e
      rw [if_neg (by omega), if_pos (by omega)]
      have : off + n < cells.size := by omega
      simp [this]
    · by_cases e2 : off + (n + 1) ≤ k ∧ k < off + (n + 1) + l.length
      · rw [if_pos e2, if_pos (by omega)]
        have : k - (off + n) = (k - (off + (n + 1))) + 1 := by omega
        rw [this]; simp
      · rw [if_neg e2, if_neg (by omega)]
        simp [show off + n ≠ k by omega]
omit [Base] in
theorem fold_arr (off : Nat) (v cells : Array Value) (h : off + v.size ≤ cells.size) :
    (v.zipIdx.foldl (fun cs (c, j) => cs.setIfInBounds (off + j) c) cells).size = cells.size ∧
    ∀ k, (v.zipIdx.foldl (fun cs (c, j) => cs.setIfInBounds (off + j) c) cells)[k]? = if off ≤ k ∧ k < off + v.size then v[k - off]? else cells[k]? := by
  obtain ⟨h1, h2⟩ := fold_list off v.toList 0 cells (by simpa using h)
  have e : (v.zipIdx.foldl (fun cs (c, j) => cs.setIfInBounds (off + j) c) cells) = ((v.toList.zipIdx 0).foldl (fun cs (p : Value × Nat) => cs.setIfInBounds (off + p.2) p.1) cells) := by
    rw [← Array.foldl_toList, Array.toList_zipIdx]
  rw [e]
  refine ⟨h1, fun k => ?_⟩
  rw [h2 k]
  simp

def shN : Sh → Nat
  | .s => 1
  | .a n => n
def zOk (zero : Array Value) (off : Nat) (v : AV) : Bool :=
  match v, zero[off]? with
  | .p q, some x => x.oneCell' && pvOk x q
  | _, _ => false
omit [Base] in
theorem zOk_spec {zero : Array Value} {off : Nat} {v : AV} (h : zOk zero off v = true) : ∃ q x, v = .p q ∧ zero[off]? = some x ∧ x.oneCell' = true ∧ pvOk x q = true := by
  unfold zOk at h
  split at h
  · rename_i hx
    simp only [Bool.and_eq_true] at h
    exact ⟨_, _, rfl, hx, h.1, h.2⟩
  · simp at h
def placeOk (places : Nat → Option (Nat × Nat)) (i off n : Nat) : Bool :=
  match places i with
  | some (o, sz) => o == off && sz == n
  | none => false
omit [Base] in
theorem placeOk_spec {places : Nat → Option (Nat × Nat)} {i off n : Nat} (h : placeOk places i off n = true) : places i = some (off, n) := by
  unfold placeOk at h
  split at h
  · rename_i o sz hp
    simp only [Bool.and_eq_true, beq_iff_eq] at h
    rw [hp, h.1, h.2]
  · simp at h
def bOk (places : Nat → Option (Nat × Nat)) (zero : Array Value) (F : Fr) : List Part → List (Nat × Operand) → Nat → Bool
  | [], [], off => off == zero.size
  | .z v :: r, ps, off => zOk zero off v && bOk places zero F r ps (off + 1)
  | .o x sh :: r, (i, X) :: ps, off => opdOk F X x && placeOk places i off (shN sh) && decide (off + shN sh ≤ zero.size) && bOk places zero F r ps (off + shN sh)
  | _, _, _ => false

omit [Base] in
theorem shape_size {sh : Sh} {x : Value} (h : ShapeV sh x) : x.cells.size = shN sh := by
  cases sh with
  | s => simp only [ShapeV] at h; rw [h]; rfl
  | a n => obtain ⟨vs, rfl, rfl⟩ := h; rfl

theorem fill_sound {F G s t w df} (hR : R F G s t w) {places : Nat → Option (Nat × Nat)} {zero : Array Value} : ∀ (ps : List Part) (parts : List (Nat × Operand)) (off : Nat) (cells : Array Value) (as : List AV),
    bOk places zero F ps parts off = true → partsP s ps = some as → cells.size = zero.size → (∀ k, off ≤ k → cells[k]? = zero[k]?) →
    ∃ res, Instr.fill places cells (parts.map fun p => (p.1, (⟨t, df⟩ : Act).eval p.2)) = some res ∧ res.size = zero.size ∧ (∀ k, k < off → res[k]? = cells[k]?) ∧
      RepAs G.M G.B as (res.toList.drop off) ∧ ∀ y ∈ res.toList.drop off, y.oneCell' = true
  | [], [], off, cells, as, hb, hp, hc, _ => by
    simp only [bOk, beq_iff_eq] at hb
    simp only [partsP, Option.some.injEq] at hp
    subst hp
    have : cells.toList.drop off = [] := by rw [List.drop_eq_nil_iff]; simp [hc, hb]
    exact ⟨cells, rfl, hc, fun _ _ => rfl, by rw [this]; simp [RepAs], by rw [this]; simp⟩
  | .z v :: r, parts, off, cells, as, hb, hp, hc, hk => by
    simp only [bOk, Bool.and_eq_true] at hb
    obtain ⟨hz, hb⟩ := hb
    simp only [partsP] at hp
    split at hp
    · rename_i l hl
      simp only [Option.some.injEq] at hp; subst hp
      obtain ⟨res, h1, h2, h3, h4, h5⟩ := fill_sound hR r parts (off + 1) cells l hb hl hc (fun k hk' => hk k (by omega))
      obtain ⟨q, x, rfl, hx, z1, z2⟩ := zOk_spec hz
      have hres : res[off]? = some x := by rw [h3 off (by omega), hk off (Nat.le_refl _)]; exact hx
      have hdrop : res.toList.drop off = x :: res.toList.drop (off + 1) := by
        have hlt : off < res.toList.length := by simpa using (Array.getElem?_eq_some_iff.1 hres).1
        rw [List.drop_eq_getElem_cons hlt]
        congr 1
        have := (Array.getElem?_eq_some_iff.1 hres).2
        simpa using this
      refine ⟨res, h1, h2, fun k hk' => h3 k (by omega), ?_, ?_⟩
      · rw [hdrop]
        simp only [RepAs, RepA]
        exact ⟨pvOk_rep z2, h4⟩
      · rw [hdrop]
        intro y hy
        simp only [List.mem_cons] at hy
        rcases hy with rfl | hy
        · exact z1
        · exact h5 y hy
    · simp at hp
  | .o x sh :: r, (i, X) :: parts, off, cells, as, hb, hp, hc, hk => by
    simp only [bOk, Bool.and_eq_true, decide_eq_true_eq] at hb
    obtain ⟨⟨⟨hx, hpl⟩, hfit⟩, hb⟩ := hb
    simp only [partsP] at hp
    split at hp
    · rename_i c l hcc hl
      simp only [Option.some.injEq] at hp; subst hp
      simp only [Option.bind_eq_some_iff] at hcc
      obtain ⟨a, hg, hcell⟩ := hcc
      have hA := give_sound hR (val_sound (df := df) hR hx).1 hg
      obtain ⟨g1, g2, g3⟩ := cellsOf_sound hA hcell
      have hsz := shape_size g1
      have hpl' := placeOk_spec hpl
      obtain ⟨f1, f2⟩ := fold_arr off ((⟨t, df⟩ : Act).eval X).cells cells (by rw [hsz, hc]; exact hfit)
      obtain ⟨res, h1, h2, h3, h4, h5⟩ := fill_sound hR r parts (off + shN sh) _ l hb hl (by rw [f1]; exact hc) (fun k hk' => by rw [f2 k, if_neg (by rw [hsz]; omega)]; exact hk k (by omega))
      have hdrop : res.toList.drop off = ((⟨t, df⟩ : Act).eval X).cells.toList ++ res.toList.drop (off + shN sh) := by
        apply List.ext_getElem?
        intro k
        by_cases hk' : k < shN sh
        · rw [List.getElem?_append_left (by simpa [hsz] using hk'), List.getElem?_drop]
          have e1 := h3 (off + k) (by omega)
          rw [f2 (off + k), if_pos (by rw [hsz]; omega)] at e1
          simp only [Array.getElem?_toList]
          rw [e1]; congr 1; omega
        · rw [List.getElem?_append_right (by simp [hsz]; omega), List.getElem?_drop, List.getElem?_drop]
          congr 1; simp [hsz]; omega
      refine ⟨res, ?_, h2, fun k hk' => ?_, ?_, ?_⟩
      · simp only [List.map_cons, Instr.fill, hpl']
        rw [if_neg (by rw [hsz, hc]; simp; omega)]
        exact h1
      · rw [h3 k (by omega), f2 k, if_neg (by omega)]
      · rw [hdrop]; exact g2.append h4
      · rw [hdrop]
        intro y hy
        rcases List.mem_append.1 hy with hy | hy
        · exact g3 y hy
        · exact h5 y hy
    · simp at hp
  | [], _ :: _, _, _, _, hb, _, _, _ => by simp [bOk] at hb
  | .o _ _ :: _, [], _, _, _, hb, _, _, _ => by simp [bOk] at hb

section
variable {P : Program} {F : Fr} {co : Oper} {call : Calls}

theorem op_build {T : TypeId} {parts : Array (Nat × Operand)} {ps : List Part} {fs : Array Field} {inf : TypeInfo} {zv : Value} {places : List (Nat × Nat)} (hd : co.dst ≠ none) (ho : co.op = .build T parts)
    (hT : P.underlying T = some (.struct fs)) (hinf : P.info? T = some inf) (hzv : inf.zero = some zv) (hpl : fs.toList.mapM (fun f => (P.info? f.type).map fun i => (f.offset, i.size)) = some places)
    (hb : bOk (places.toArray[·]?) zv.cells F ps parts.toList 0 = true) : OpS P F co (.build ps) call := by
  refine opS_pure hd fun G s t w df r s' κ hR hev => ?_
  simp only [evOp] at hev
  split at hev
  · rename_i cs hcs
    simp only [Option.some.injEq, Prod.mk.injEq] at hev
    obtain ⟨rfl, rfl⟩ := hev
    obtain ⟨res, h1, h2, _, h4, h5⟩ := fill_sound (df := df) hR ps parts.toList 0 zv.cells cs hb hcs rfl (fun _ _ => rfl)
    simp only [List.drop_zero] at h4 h5
    refine ⟨.agg res, rfl, ?_, RepA_T (RepA_mkAgg h4 h5)⟩
    have hbuilt : P.built T (parts.map fun (i, x) => (i, (⟨t, df⟩ : Act).eval x)).toList = some res := by
      simp only [Program.built, hinf, hT, hzv, hpl]
      rw [Array.toList_map]
      exact h1
    have := run_build w T _ res hbuilt
    simp only [execOp, ho, Sem.run_bind, this, Result.andThen_ok]
    rfl
  · simp at hev

theorem newBlk {F G s t w} (hR : R F G s t w) (κ : Key) (fz : Bool) (n : Nat) (arr : Array Value) (T : TypeId) :
    R F (G.addK w.heap.size κ fz n arr) s t (pushed w (.cells arr T)) ∧ Ext G w (G.addK w.heap.size κ fz n arr) (pushed w (.cells arr T)) := by
  have hmono : ∀ b o v, G.M b o = some v → (G.addK w.heap.size κ fz n arr).M b o = some v := by
    intro b o v h
    have : b ≠ w.heap.size := fun e => by rw [e, hR.m_none (Nat.le_refl _)] at h; simp at h
    simp only [Gh.addK, if_neg this]; exact h
  refine ⟨?_, ?_⟩
  · refine hR.grow rfl hmono (fun b hb => ⟨pushed_old _ _ hb, by simp only [Gh.addK]; rw [if_neg (by omega)], fun off => by simp only [Gh.addK]; rw [if_neg (by omega)]⟩) ?_ ?_ ?_
    · intro b o v hb h
      by_cases e : b = w.heap.size
      · subst e
        simp only [Gh.addK, if_true] at h
        split at h
        · rw [cell_of (pushed_new _ _)]; exact h
        · simp at h
      · simp only [Gh.addK, if_neg e] at h
        rw [hR.m_none hb] at h; simp at h
    · intro b o h
      rw [pushed_size]
      by_cases e : b = w.heap.size
      · omega
      · simp only [Gh.addK, if_neg e] at h
        have := hR.freshM b o h; omega
    · intro b h
      rw [pushed_size]
      by_cases e : b = w.heap.size
      · omega
      · simp only [Gh.addK, if_neg e] at h
        have := hR.freshZ b h; omega
  · exact ⟨rfl, rfl, rfl, by rw [pushed_size]; omega, hmono, fun b hb hz => ⟨pushed_old _ _ hb, by simp only [Gh.addK]; rw [if_neg (by omega)]; exact hz, fun off => by simp only [Gh.addK]; rw [if_neg (by omega)]⟩, fun _ _ h => h⟩

def rOk (F : Fr) (sz : Nat) : List (Opd × Sh) → List (Nat × Operand) → Nat → Bool
  | [], [], _ => true
  | (x, sh) :: r, (i, X) :: ps, ix => i == ix && opdOk F X x && shN sh == sz && rOk F sz r ps (ix + 1)
  | _, _, _ => false

theorem rfill_sound {F G s t w df} (hR : R F G s t w) {sz : Nat} : ∀ (ps : List (Opd × Sh)) (parts : List (Nat × Operand)) (ix : Nat) (cells : Array Value) (l : List AV),
    rOk F sz ps parts ix = true → rowParts s ps = some l → (ix + ps.length) * sz ≤ cells.size →
    ∃ res, Instr.fill (fun i => some (i * sz, sz)) cells (parts.map fun p => (p.1, (⟨t, df⟩ : Act).eval p.2)) = some res ∧ res.size = cells.size ∧ (∀ k, k < ix * sz → res[k]? = cells[k]?) ∧
      RepAs G.M G.B l (parts.map fun p => (⟨t, df⟩ : Act).eval p.2) ∧ (∀ v ∈ (parts.map fun p => (⟨t, df⟩ : Act).eval p.2), v.cells.size = sz ∧ (sz = 1 → ∀ c ∈ v.cells.toList, c.oneCell' = true)) ∧
      (∀ k, k < ps.length * sz → res[ix * sz + k]? = (flat (parts.map fun p => (⟨t, df⟩ : Act).eval p.2))[k]?) ∧
      (ps.all (fun p => decide (p.2 = .s)) = true → ∀ v ∈ (parts.map fun p => (⟨t, df⟩ : Act).eval p.2), v.oneCell' = true)
  | [], [], ix, cells, l, _, hl, _ => by
    simp only [rowParts, Option.some.injEq] at hl; subst hl
    exact ⟨cells, rfl, rfl, fun _ _ => rfl, by simp [RepAs], by simp, fun k hk => by simp at hk, by simp⟩
  | (x, sh) :: r, (i, X) :: parts, ix, cells, l, ho, hl, hsz => by
    simp only [rOk, Bool.and_eq_true, beq_iff_eq] at ho
    obtain ⟨⟨⟨rfl, hx⟩, rfl⟩, ho⟩ := ho
    simp only [rowParts] at hl
    split at hl
    · rename_i a l' hg hl'
      split at hl
      · rename_i hc
        simp only [Option.some.injEq] at hl; subst hl
        obtain ⟨cs, hcs⟩ := Option.isSome_iff_exists.1 hc
        have hA := give_sound hR (val_sound (df := df) hR hx).1 hg
        obtain ⟨g1, g2, g3⟩ := cellsOf_sound hA hcs
        have hs := shape_size g1
        simp only [List.length_cons] at hsz
        have e1 : (i + 1) * shN sh = i * shN sh + shN sh := Nat.succ_mul _ _
        have e2 : (i + (r.length + 1)) * shN sh = (i + 1) * shN sh + r.length * shN sh := by rw [← Nat.add_mul]; congr 1; omega
        obtain ⟨f1, f2⟩ := fold_arr (i * shN sh) ((⟨t, df⟩ : Act).eval X).cells cells (by rw [hs]; omega)
        obtain ⟨res, h1, h2, h3, h4, h5, h6, h7⟩ := rfill_sound (df := df) hR r parts (i + 1) _ l' ho hl' (by rw [f1]; rw [Nat.add_mul]; omega)
        refine ⟨res, ?_, by rw [h2, f1], fun k hk => ?_, ?_, ?_, fun k hk => ?_, fun hall => ?_⟩
        · simp only [List.map_cons, Instr.fill]
          rw [if_neg (by rw [hs]; simp; omega)]
          exact h1
        · rw [h3 k (by omega), f2 k, if_neg (by omega)]
        · simp only [List.map_cons, RepAs]; exact ⟨hA, h4⟩
        · simp only [List.map_cons, List.mem_cons, forall_eq_or_imp]
          exact ⟨⟨hs, fun _ => g3⟩, h5⟩
        · simp only [List.map_cons, flat_cons, List.length_cons] at hk ⊢
          by_cases hk' : k < shN sh
          · rw [List.getElem?_append_left (by simpa [hs] using hk')]
            rw [h3 _ (by omega), f2 _, if_pos (by rw [hs]; omega)]
            simp only [Array.getElem?_toList]
            congr 1; omega
          · rw [List.getElem?_append_right (by simp [hs]; omega)]
            have := h6 (k - shN sh) (by rw [Nat.succ_mul] at hk; omega)
            rw [show i * shN sh + k = (i + 1) * shN sh + (k - shN sh) by omega, this]
            congr 1; simp [hs]
        · simp only [List.all_cons, Bool.and_eq_true, decide_eq_true_eq] at hall
          obtain ⟨rfl, hall⟩ := hall
          simp only [List.map_cons, List.mem_cons, forall_eq_or_imp]
          refine ⟨?_, h7 hall⟩
          simp only [ShapeV] at g1
          have := g3 ((⟨t, df⟩ : Act).eval X) (by rw [g1]; simp)
          exact this
      · simp at hl
    · simp at hl
  | [], _ :: _, _, _, _, ho, _, _ => by simp [rOk] at ho
  | _ :: _, [], _, _, _, ho, _, _ => by simp [rOk] at ho

omit [Base] in
theorem run_buildSlice' {w : World} {T e : TypeId} {len : Nat} {parts : Array (Nat × Value)} {cells : Array Value} {ie : TypeInfo} {z : Value}
    (hu : P.underlying T = some (.slice e)) (hie : P.info? e = some ie) (hz : ie.zero = some z) (hsmall : ¬ len * ie.size > 2 ^ 24)
    (h : Instr.fill (fun i => some (i * ie.size, ie.size)) ((Array.range (len * ie.size)).map ((if len * ie.size = 0 then #[] else z.cells)[· % (if len * ie.size = 0 then #[] else z.cells).size]!)) parts.toList = some cells) :
    (Instr.buildSlice T len parts).run P w = .ok (.slice (some ⟨w.heap.size, 0, none⟩) len len) (pushed w (.cells cells e)) := by
  have hs : ∀ w' : World, (sizeOf e).run P w' = .ok ie.size w' := by intro w'; simp [sizeOf, typeInfo, hie]
  have hz' : ∀ w' : World, (zeroValue e).run P w' = .ok z w' := by intro w'; simp [zeroValue, typeInfo, hie, hz]
  by_cases h0 : len * ie.size = 0
  · simp only [h0, if_true] at h
    simp [Instr.buildSlice, run_underlying hu, hs, h0]
    simp at h
    simp [h, run_newRow']
  · simp only [h0, if_false] at h
    have hsmall' : ¬ 2 ^ 24 < len * ie.size := by omega
    simp [Instr.buildSlice, run_underlying hu, hs, h0, hz']
    simp at h hsmall'
    simp [h, hsmall', run_newRow']

theorem op_bslice {T e : TypeId} {len : Nat} {parts : Array (Nat × Operand)} {ps : List (Opd × Sh)} {fz : Bool} {sz : Nat} {inf : TypeInfo} {zv : Value} (hd : co.dst ≠ none) (ho : co.op = .buildSlice T len parts)
    (hT : P.underlying T = some (.slice e)) (hinf : P.info? e = some inf) (hzv : inf.zero = some zv) (hsz : inf.size = sz) (hsmall : len * sz ≤ 2 ^ 24) (hlen : ps.length = len)
    (hok : rOk F sz ps parts.toList 0 = true) : OpS P F co (.bslice fz sz ps) call := by
  subst hsz
  intro G s t w df a s' N hN hR hev next Q hk
  simp only [evOp] at hev
  split at hev
  · rename_i l hl
    obtain ⟨res, h1, h2, _, h4, h5, h6, h7⟩ := rfill_sound (df := df) hR ps parts.toList 0 ((Array.range (len * inf.size)).map ((if len * inf.size = 0 then #[] else zv.cells)[· % (if len * inf.size = 0 then #[] else zv.cells).size]!)) l hok hl
      (by simp [hlen])
    simp only [Array.size_map, Array.size_range, Nat.zero_mul, Nat.zero_add] at h2 h6
    have hrun : (execOp (⟨t, df⟩ : Act).eval co).run P w = .ok (.value (.slice (some ⟨w.heap.size, 0, none⟩) len len)) (pushed w (.cells res e)) := by
      have := run_buildSlice' (len := len) (w := w) (parts := parts.map fun (i, x) => (i, (⟨t, df⟩ : Act).eval x)) hT hinf hzv (by omega) (by rw [Array.toList_map]; exact h1)
      simp only [execOp, ho, Sem.run_bind, this, Result.andThen_ok]
      rfl
    have hll := h4.length
    have hpl : parts.toList.length = len := by
      have key : ∀ (ps : List (Opd × Sh)) (parts : List (Nat × Operand)) (i : Nat), rOk F inf.size ps parts i = true → parts.length = ps.length := by
        intro ps
        induction ps with
        | nil => intro parts i h; cases parts with
          | nil => rfl
          | cons _ _ => simp [rOk] at h
        | cons p ps ih => intro parts i h; cases parts with
          | nil => obtain ⟨x, sh⟩ := p; simp [rOk] at h
          | cons q parts =>
            obtain ⟨x, sh⟩ := p
            obtain ⟨j, X⟩ := q
            simp only [rOk, Bool.and_eq_true] at h
            simp [ih parts (i + 1) h.2]
      rw [key ps parts.toList 0 hok, hlen]
    have hvsl : (parts.toList.map fun p => (⟨t, df⟩ : Act).eval p.2).length = len := by simp [hpl]
    have hl' : l.length = len := by rw [← hll]; exact hvsl
    unfold Oper.wp
    rw [hrun]
    split at hev
    · rename_i xs hxs
      simp only [Option.some.injEq, Prod.mk.injEq] at hev
      obtain ⟨rfl, rfl⟩ := hev
      have hRL := (RepAs.allP hxs).1 h4
      have hxl := hRL.length
      have hxl' : xs.length = len := by rw [← hxl]; exact hvsl
      obtain ⟨k1, k2, k3⟩ := hR.newRow (.t N) fz inf.size res e (xs := xs) (vs := parts.toList.map fun p => (⟨t, df⟩ : Act).eval p.2) len (by omega) hRL (by rw [h2]; exact Nat.le_refl _) (fun i y hi => by
        refine ⟨(h5 y (List.mem_of_getElem? hi)).1, fun j hj => ?_⟩
        have hi' : i < len := by rw [← hvsl]; exact (List.getElem?_eq_some_iff.1 hi).1
        have hlt : i * inf.size + j < ps.length * inf.size := by
          rw [hlen]
          have : (i + 1) * inf.size ≤ len * inf.size := Nat.mul_le_mul_right _ hi'
          rw [Nat.succ_mul] at this; omega
        rw [h6 _ hlt]
        exact flat_get _ (fun v hv => (h5 v hv).1) i y hi j hj)
      rw [hxl'] at k1 k2 k3
      exact hk _ _ _ k1 (by simp only [RepT]; exact k2) (fun e => absurd e hd) k3
    · rename_i hxs
      split at hev
      · rename_i h1s
        obtain ⟨h1s, hall⟩ := h1s
        simp only [Option.some.injEq, Prod.mk.injEq] at hev
        obtain ⟨rfl, rfl⟩ := hev
        obtain ⟨k1, k3⟩ := newBlk hR (.t N) true len res e
        refine hk _ _ _ k1 ?_ (fun e => absurd e hd) k3
        simp only [RepT, RepA]
        refine ⟨some ⟨w.heap.size, 0, none⟩, len, parts.toList.map fun p => (⟨t, df⟩ : Act).eval p.2, by rw [hl'], RepAs.mono k3.mono k3.pre h4, .inr ⟨_, 0, rfl, fun i y hi => ?_⟩, fun y hy => ?_⟩
        · have hm := h5 y (List.mem_of_getElem? hi)
          refine ⟨by rw [hm.1, h1s], fun j hj => ?_⟩
          have hi' : i < len := by rw [← hvsl]; exact (List.getElem?_eq_some_iff.1 hi).1
          have hj0 : j = 0 := by omega
          subst hj0
          have g := flat_get _ (fun v hv => (h5 v hv).1) i y hi 0 (by omega)
          rw [← g, ← h6 _ (by rw [hlen, h1s]; omega)]
          simp [Gh.addK, hi', h1s]
        · exact h7 hall y hy
      · simp at hev
  · simp at hev
end
end Go.Abs
