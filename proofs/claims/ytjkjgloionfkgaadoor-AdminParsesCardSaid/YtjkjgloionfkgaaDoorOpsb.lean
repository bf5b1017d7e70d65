/- Parts of data, addresses of parts, lengths. Elements, cuts, type assertions, loads. Loads and cuts. New memory: boxes and rows. Rows that grow. -/
import Derived.Test.YtjkjgloionfkgaaDoorOpsa

namespace Go.Abs
open Go.RowKit
variable [Base]

omit [Base] in
theorem rep_one {M : Mem} {v : PV} {y : Value} (h : RepP M v y) (hv : shapeOk .s v = true) : y.oneCell' = true := by
  cases v <;> simp only [RepP] at h <;> first
    | (subst h; rfl)
    | (obtain ⟨_, rfl, _⟩ := h; rfl)
    | (obtain ⟨_, _, _, rfl, _⟩ := h; rfl)
    | simp [shapeOk] at hv

def ShapeV : Sh → Value → Prop
  | .s, y => y.cells = #[y]
  | .a n, y => ∃ vs, y = .agg vs ∧ vs.size = n
omit [Base] in
theorem rep_cells {M : Mem} {v : PV} {y : Value} (h : RepP M v y) {sh : Sh} (hv : shapeOk sh v = true) : ShapeV sh y := by
  cases sh with
  | s => exact cells_one (rep_one h hv)
  | a n =>
    cases v <;> simp only [shapeOk, Bool.false_eq_true, beq_iff_eq] at hv
    simp only [RepP] at h
    obtain ⟨vs, h1, h2, _⟩ := h
    exact ⟨vs, h1, by have := h2.length; simpa [hv] using this⟩

omit [Base] in
theorem toRepL {M : Mem} {cs : List PV} {vs : Array Value} (h : RepL M cs vs.toList) (off n : Nat) : RepL M ((cs.drop off).take n) (vs.extract off (off + n)).toList := by
  rw [Array.toList_extract]
  have := RepL.take n (RepL.drop off h)
  simpa [List.extract_eq_take_drop] using this

omit [Base] in
/-- A part of plain data. -/
theorem subP_sound {M : Mem} {v w : PV} {off : Nat} {sh : Sh} {y : Value} (h : RepP M v y) (hs : subP v off sh = some w) :
    ∃ z, RepP M w z ∧ shapeOk sh w = true ∧ ∀ j, j < z.cells.size → y.cells[off + j]? = z.cells[j]? := by
  unfold subP at hs
  split at hs
  · rename_i cs
    simp only [RepP] at h
    obtain ⟨vs, rfl, h2, h3⟩ := h
    split at hs
    · split at hs
      · simp at hs
      · rename_i x hx
        cases hc : cs[off]? with
        | none => rw [hc] at hs; simp at hs
        | some p =>
          rw [hc] at hs; simp at hs; subst hs
          obtain ⟨z, e1, e2⟩ := h2.get hc
          have hz : z.oneCell' = true := h3 z (List.mem_of_getElem? e1)
          refine ⟨z, e2, ?_, fun j hj => ?_⟩
          · cases p with
            | agg l => exact absurd hc (hx _)
            | _ => rfl
          · rw [cells_one hz] at hj ⊢
            simp at hj; subst hj
            simpa [Value.cells] using e1
    · rename_i n
      split at hs
      · rename_i hn
        simp at hs; subst hs
        have hl := h2.length
        simp at hl
        refine ⟨.agg (vs.extract off (off + n)), ?_, ?_, fun j hj => ?_⟩
        · simp only [RepP]
          refine ⟨_, rfl, toRepL h2 off n, fun y hy => h3 y ?_⟩
          rw [Array.toList_extract] at hy
          simp only [List.extract_eq_take_drop] at hy
          exact List.mem_of_mem_drop (List.mem_of_mem_take hy)
        · simp [shapeOk]; omega
        · simp only [Value.cells, Array.size_extract] at hj ⊢
          rw [Array.getElem?_extract, if_pos (by omega)]
      · simp at hs
  · rename_i hv
    split at hs
    · split at hs
      · rename_i h0
        simp at hs; subst hs
        refine ⟨y, h, ?_, fun j _ => by rw [h0]; congr 1; omega⟩
        cases v with
        | agg l => exact absurd rfl (hv l)
        | _ => rfl
      · simp at hs
    · simp at hs

omit [Base] in
theorem run_loadCells_at {P : Program} {w : World} {b o : Nat} {vs : Array Value} (h : ∀ j, j < vs.size → w.cell? ⟨b, o + j, none⟩ = vs[j]?) :
    (loadCells ⟨b, o, none⟩ vs.size).run P w = .ok vs w := by
  have := run_loadCells_list (P := P) w ⟨b, o, none⟩ vs.toList (fun j v hj => by
    rw [addr_add, h j (by simpa using (List.getElem?_eq_some_iff.1 hj).1)]
    simpa using hj)
  simpa using this

def opdsOk (F : Fr) : List Operand → List Opd → Bool
  | [], [] => true
  | X :: A, x :: a => opdOk F X x && opdsOk F A a
  | _, _ => false

/-- What a type is to a load or a store. -/
def shOk (P : Program) (T : TypeId) : Sh → Bool
  | .s => match P.underlying T with | some (.struct _) | some (.array _ _) | none => false | _ => (match P.info? T with | some i => i.size == 1 | none => false)
  | .a n => (match P.underlying T with | some (.struct _) | some (.array _ _) => true | _ => false) && (match P.info? T with | some i => i.size == n | none => false)

section
variable {P : Program}

omit [Base] in
theorem run_isAgg {T : TypeId} {sh : Sh} (h : shOk P T sh = true) (w : World) : (isAgg T).run P w = .ok (match sh with | .s => false | .a _ => true) w := by
  cases sh with
  | s =>
    simp only [shOk] at h
    split at h
    · simp at h
    · simp at h
    · simp at h
    · rename_i hu h1 h2 h3
      cases hT : P.underlying T with
      | none => exact absurd hT h3
      | some d =>
        simp only [isAgg, Sem.run_bind, run_underlying hT, Result.andThen_ok]
        cases d <;> first | rfl | exact absurd hT (h1 _) | exact absurd hT (h2 _ _)
  | a n =>
    simp only [shOk, Bool.and_eq_true] at h
    obtain ⟨h, _⟩ := h
    split at h
    · rename_i hu; simp only [isAgg, Sem.run_bind, run_underlying hu, Result.andThen_ok]; rfl
    · rename_i hu; simp only [isAgg, Sem.run_bind, run_underlying hu, Result.andThen_ok]; rfl
    · simp at h
omit [Base] in
theorem run_sizeOf' {T : TypeId} {sh : Sh} (h : shOk P T sh = true) (w : World) : (sizeOf T).run P w = .ok (match sh with | .s => 1 | .a n => n) w := by
  have key : ∀ n, (match P.info? T with | some i => i.size == n | none => false) = true → (sizeOf T).run P w = .ok n w := by
    intro n hn
    split at hn
    · rename_i i hi
      simp at hn
      simp [sizeOf, typeInfo, hi, hn]
    · simp at hn
  cases sh with
  | s =>
    simp only [shOk] at h
    split at h
    · simp at h
    · simp at h
    · simp at h
    · exact key 1 h
  | a n =>
    simp only [shOk, Bool.and_eq_true] at h
    exact key n h.2

omit [Base] in
/-- A load of what stands in cells. -/
theorem run_loadVar {T : TypeId} {sh : Sh} (h : shOk P T sh = true) {w : World} {b o : Nat} {z : Value} (hz : ShapeV sh z)
    (hc : ∀ j, j < z.cells.size → w.cell? ⟨b, o + j, none⟩ = z.cells[j]?) : (loadVar T ⟨b, o, none⟩).run P w = .ok z w := by
  simp only [loadVar, Sem.run_bind, run_isAgg h, Result.andThen_ok]
  cases sh with
  | s =>
    simp only [ShapeV] at hz
    have := hc 0 (by simp [hz])
    simp only [hz, Nat.add_zero] at this
    simp [this]
  | a n =>
    obtain ⟨vs, rfl, rfl⟩ := hz
    simp only [Value.cells] at hc
    simp only [if_true, Sem.run_bind, run_sizeOf' h, Result.andThen_ok, run_loadCells_at hc]
    rfl
end

section
variable {P : Program} {F : Fr} {co : Oper} {call : Calls}

theorem op_fld {X : Operand} {x : Opd} {T : TypeId} {fi off : Nat} {sh : Sh} {fs : Array Field} {f : Field} (hd : co.dst ≠ none) (ho : co.op = .field T X fi) (hx : opdOk F X x = true)
    (hT : P.underlying T = some (.struct fs)) (hf : fs[fi]? = some f) (hoff : f.offset = off) (hsh : shOk P f.type sh = true) : OpS P F co (.fld x off sh) call := by
  refine opS_pure hd fun G s t w df r s' κ hR hev => ?_
  simp only [evOp] at hev
  split at hev
  · rename_i v hv
    simp only [Option.map_eq_some_iff, Prod.mk.injEq] at hev
    obtain ⟨p, h1, rfl, rfl⟩ := hev
    have h2 := val_pure (df := df) hR hx hv
    obtain ⟨z, e1, e2, e3⟩ := subP_sound h2 h1
    have e4 := rep_cells e1 e2
    have h3 := h2
    simp only [RepP] at h3
    obtain ⟨vs, hvs, _⟩ := h3
    rw [hvs] at h2 e3
    subst hoff
    refine ⟨z, rfl, ?_, by simp only [RepT, RepA]; exact e1⟩
    have hpart : (part f.type vs f.offset).run P w = .ok z w := by
      simp only [part, Sem.run_bind, run_isAgg hsh, Result.andThen_ok]
      cases sh with
      | s =>
        simp only [ShapeV] at e4
        have h6 := e3 0 (by simp [e4])
        rw [e4, Nat.add_zero] at h6
        have h5 : vs[f.offset]? = some z := h6
        simp [h5]
      | a n =>
        obtain ⟨zs, rfl, rfl⟩ := e4
        simp only [if_true, Sem.run_bind, run_sizeOf' hsh, Result.andThen_ok, Sem.run_pure]
        congr 2
        apply Array.ext_getElem?
        intro j
        simp only [Value.cells] at e3
        by_cases hj : j < zs.size
        · rw [← e3 j hj, Array.getElem?_extract]
          have : f.offset + j < vs.size := by
            have h6 := e3 j hj
            rw [Array.getElem?_eq_getElem hj] at h6
            exact (Array.getElem?_eq_some_iff.1 h6).1
          rw [if_pos (by omega)]
        · rw [Array.getElem?_eq_none (xs := zs) (by omega), Array.getElem?_extract, if_neg (by omega)]
    simp only [execOp, ho, Instr.field, Sem.run_bind, run_underlying hT, Result.andThen_ok, hf, hvs, asAgg, Sem.run_pure, hpart]
  · simp at hev

theorem op_faddr {X : Operand} {x : Opd} {T : TypeId} {fi off : Nat} {sh : Sh} {fs : Array Field} {f : Field} {inf : TypeInfo} (hd : co.dst ≠ none) (ho : co.op = .fieldAddr T X fi) (hx : opdOk F X x = true)
    (hT : P.underlying T = some (.struct fs)) (hf : fs[fi]? = some f) (hoff : f.offset = off) (hinf : P.info? f.type = some inf) (hsz : inf.size ≠ 0) : OpS P F co (.faddr x off sh) call := by
  refine opS_pure hd fun G s t w df r s' κ hR hev => ?_
  have hrun : ∀ b o, (⟨t, df⟩ : Act).eval X = .pointer (some ⟨b, o, none⟩) → (execOp (⟨t, df⟩ : Act).eval co).run P w = .ok (.value (.pointer (some ⟨b, o + off, none⟩))) w := by
    intro b o h
    subst hoff
    simp [execOp, ho, h, Instr.fieldAt, run_underlying hT, hf, Instr.sureAddr, fieldPlace, sizeOf, typeInfo, hinf, hsz, addr_add]
  have hcopy := copy_sound (df := df) hR hx κ
  simp only [evOp] at hev
  split at hev
  · rename_i l o hv
    simp only [Option.some.injEq, Prod.mk.injEq] at hev
    obtain ⟨rfl, rfl⟩ := hev
    rw [hv] at hcopy
    simp only [RepT, RepA] at hcopy
    obtain ⟨b, h1, h2⟩ := hcopy
    exact ⟨_, rfl, hrun b o h2, by simp only [RepT, RepA]; exact ⟨b, h1, rfl⟩⟩
  · rename_i k i o hv
    simp only [Option.some.injEq, Prod.mk.injEq] at hev
    obtain ⟨rfl, rfl⟩ := hev
    rw [hv] at hcopy
    simp only [RepT] at hcopy
    obtain ⟨b, n, c, fz, sz, xs, h1, h2, h3, h4⟩ := hcopy
    refine ⟨_, rfl, hrun b (i * sz + o) h4, ?_⟩
    simp only [RepT]
    exact ⟨b, n, c, fz, sz, xs, h1, h2, h3, by rw [Nat.add_assoc]⟩
  · rename_i v hv
    simp only [Option.map_eq_some_iff, Prod.mk.injEq] at hev
    obtain ⟨p, h1, rfl, rfl⟩ := hev
    rw [hv] at hcopy
    simp only [RepT, RepA, RepP] at hcopy
    obtain ⟨b, o, y, h2, h3, h4⟩ := hcopy
    obtain ⟨z, e1, e2, e3⟩ := subP_sound h3 h1
    refine ⟨_, rfl, hrun b o h2, ?_⟩
    simp only [RepT, RepA, RepP]
    refine ⟨b, o + off, z, rfl, e1, fun j hj => ?_⟩
    have h5 := e3 j hj
    rw [Array.getElem?_eq_getElem hj] at h5 ⊢
    have h6 := (Array.getElem?_eq_some_iff.1 h5).1
    rw [Nat.add_assoc, h4 _ h6, h5]
  · simp at hev

theorem op_nilck {X : Operand} {x : Opd} (hd : co.dst ≠ none) (ho : co.op = .nilCheck X) (hx : opdOk F X x = true) : OpS P F co (.nilck x) call := by
  refine opS_pure hd fun G s t w df r s' κ hR hev => ?_
  have hcopy := copy_sound (df := df) hR hx κ
  simp only [evOp] at hev
  split at hev
  · rename_i l o hv
    simp only [Option.some.injEq, Prod.mk.injEq] at hev
    obtain ⟨rfl, rfl⟩ := hev
    rw [hv] at hcopy
    have h' := hcopy
    simp only [RepT, RepA] at h'
    obtain ⟨b, h1, h2⟩ := h'
    exact ⟨(⟨t, df⟩ : Act).eval X, rfl, by simp [execOp, ho, h2], hcopy⟩
  · rename_i k i o hv
    simp only [Option.some.injEq, Prod.mk.injEq] at hev
    obtain ⟨rfl, rfl⟩ := hev
    rw [hv] at hcopy
    have h' := hcopy
    simp only [RepT] at h'
    obtain ⟨b, n, c, fz, sz, xs, h1, h2, h3, h4⟩ := h'
    exact ⟨(⟨t, df⟩ : Act).eval X, rfl, by simp [execOp, ho, h4], hcopy⟩
  · rename_i v hv
    simp only [Option.some.injEq, Prod.mk.injEq] at hev
    obtain ⟨rfl, rfl⟩ := hev
    rw [hv] at hcopy
    have h' := hcopy
    simp only [RepT, RepA, RepP] at h'
    obtain ⟨b, o, y, h2, _⟩ := h'
    exact ⟨(⟨t, df⟩ : Act).eval X, rfl, by simp [execOp, ho, h2], hcopy⟩
  · rename_i f a c hv
    simp only [Option.some.injEq, Prod.mk.injEq] at hev
    obtain ⟨rfl, rfl⟩ := hev
    rw [hv] at hcopy
    have h' := hcopy
    simp only [RepT, RepA] at h'
    obtain ⟨va, vc, h2, _⟩ := h'
    exact ⟨(⟨t, df⟩ : Act).eval X, rfl, by simp [execOp, ho, h2], hcopy⟩
  · rename_i f hv
    simp only [Option.some.injEq, Prod.mk.injEq] at hev
    obtain ⟨rfl, rfl⟩ := hev
    rw [hv] at hcopy
    have h' := hcopy
    simp only [RepT, RepA, RepP] at h'
    exact ⟨(⟨t, df⟩ : Act).eval X, rfl, by simp [execOp, ho, h'], hcopy⟩
  · simp at hev

theorem op_slen {X : Operand} {x : Opd} {T : TypeId} (hd : co.dst ≠ none) (ho : co.op = .call { callee := .builtin .len, args := #[X], argTypes := #[T] }) (hx : opdOk F X x = true)
    (hT : P.underlying T = some .string) : OpS P F co (.slen x) call := by
  refine opS_pure hd fun G s t w df r s' κ hR hev => ?_
  simp only [evOp] at hev
  split at hev
  · rename_i b hv
    simp only [Option.some.injEq, Prod.mk.injEq] at hev
    obtain ⟨rfl, rfl⟩ := hev
    have h1 := val_pure (df := df) hR hx hv
    simp only [RepP] at h1
    refine ⟨.int .i64 b.length, rfl, ?_, by simp only [RepT, RepA, RepP]⟩
    simp [execOp, ho, resolve, invoke, builtin, Builtin.len_, run_underlying hT, h1, goInt, mkBytes_size]
  · simp at hev

theorem op_len {X : Operand} {x : Opd} {T e : TypeId} (hd : co.dst ≠ none) (ho : co.op = .call { callee := .builtin .len, args := #[X], argTypes := #[T] }) (hx : opdOk F X x = true)
    (hT : P.underlying T = some (.slice e)) : OpS P F co (.len x) call := by
  refine opS_pure hd fun G s t w df r s' κ hR hev => ?_
  have hcopy := copy_sound (df := df) hR hx κ
  have hrun : ∀ a n c, (⟨t, df⟩ : Act).eval X = .slice a n c → (execOp (⟨t, df⟩ : Act).eval co).run P w = .ok (.value (.int .i64 n)) w := by
    intro a n c h
    simp [execOp, ho, resolve, invoke, builtin, Builtin.len_, run_underlying hT, h, goInt]
  simp only [evOp] at hev
  split at hev
  · rename_i l hv
    simp only [Option.some.injEq, Prod.mk.injEq] at hev
    obtain ⟨rfl, rfl⟩ := hev
    rw [hv] at hcopy
    simp only [RepT, RepA] at hcopy
    obtain ⟨a, c, vs, h1, _⟩ := hcopy
    exact ⟨_, rfl, hrun _ _ _ h1, by simp only [RepT, RepA, RepP]⟩
  · split at hev
    · rename_i fz sz xs hrow
      simp only [Option.some.injEq, Prod.mk.injEq] at hev
      obtain ⟨rfl, rfl⟩ := hev
      obtain ⟨⟨a, c, vs, h1, _⟩, _⟩ := rowOf_sound hR hcopy hrow
      exact ⟨_, rfl, hrun _ _ _ h1, by simp only [RepT, RepA, RepP]⟩
    · simp at hev

theorem op_idx {X I : Operand} {x i : Opd} {T : TypeId} (hd : co.dst ≠ none) (ho : co.op = .index T X I) (hx : opdOk F X x = true) (hi : opdOk F I i = true)
    (hT : P.underlying T = some .string) : OpS P F co (.idx x i) call := by
  refine opS_pure hd fun G s t w df r s' κ hR hev => ?_
  simp only [evOp] at hev
  split at hev
  · rename_i b k n hv hn
    have h1 := val_pure (df := df) hR hx hv
    have h2 := giveP_sound (df := df) hR hi hn
    simp only [RepP] at h1 h2
    split at hev
    · rename_i h0
      simp only [Option.map_eq_some_iff, Prod.mk.injEq] at hev
      obtain ⟨c, h3, rfl, rfl⟩ := hev
      refine ⟨.int .u8 c.toNat, rfl, ?_, by simp only [RepT, RepA, RepP]⟩
      have h4 : (⟨b.toArray⟩ : ByteArray)[n.toNat]? = some c := by
        have hlt : n.toNat < b.length := (List.getElem?_eq_some_iff.1 h3).1
        rw [getElem?_pos (⟨b.toArray⟩ : ByteArray) n.toNat (by simpa [ByteArray.size] using hlt)]
        have : (⟨b.toArray⟩ : ByteArray)[n.toNat]'(by simpa [ByteArray.size] using hlt) = b[n.toNat] := rfl
        rw [this]
        rw [List.getElem?_eq_getElem hlt] at h3
        exact h3
      simp [execOp, ho, Instr.index, h1, h2, asIntOf, run_underlying hT, h0, h4]
    · simp at hev
  · simp at hev

theorem giveAll_sound {G s t w df} (hR : R F G s t w) : ∀ {A : List Operand} {a : List Opd} {l : List AV}, opdsOk F A a = true → giveAll s a = some l →
    RepAs G.M G.B l (A.map (⟨t, df⟩ : Act).eval)
  | [], [], l, _, h => by simp [giveAll] at h; subst h; simp [RepAs]
  | X :: A, x :: a, l, ho, h => by
    simp only [opdsOk, Bool.and_eq_true] at ho
    simp only [giveAll] at h
    split at h
    · rename_i b r hb hr
      simp at h; subst h
      simp only [List.map_cons, RepAs]
      exact ⟨give_sound hR (val_sound hR ho.1).1 hb, giveAll_sound hR ho.2 hr⟩
    · simp at h
  | [], _ :: _, _, ho, _ => by simp [opdsOk] at ho
  | _ :: _, [], _, ho, _ => by simp [opdsOk] at ho

theorem op_mkfn {f : Nat} {A C : Array Operand} {a c : List Opd} (hd : co.dst ≠ none) (ho : co.op = .makeFunc (.func f) A C)
    (ha : opdsOk F A.toList a = true) (hc : opdsOk F C.toList c = true) : OpS P F co (.mkfn f a c) call := by
  refine opS_pure hd fun G s t w df r s' κ hR hev => ?_
  have hrun : (execOp (⟨t, df⟩ : Act).eval co).run P w = .ok (.value (.func (.func f) (A.map (⟨t, df⟩ : Act).eval) (C.map (⟨t, df⟩ : Act).eval))) w := by
    simp [execOp, ho, Instr.makeFunc]
  simp only [evOp] at hev
  split at hev
  · rename_i h1 h2
    simp only [Option.some.injEq, Prod.mk.injEq] at hev
    obtain ⟨rfl, rfl⟩ := hev
    have g1 := (giveAll_sound (df := df) hR ha h1).length
    have g2 := (giveAll_sound (df := df) hR hc h2).length
    simp at g1 g2
    refine ⟨_, rfl, hrun, ?_⟩
    simp [RepT, RepA, RepP, g1, g2]
  · rename_i l m h1 h2
    simp only [Option.some.injEq, Prod.mk.injEq] at hev
    obtain ⟨rfl, rfl⟩ := hev
    refine ⟨_, rfl, hrun, ?_⟩
    simp only [RepT, RepA]
    exact ⟨_, _, rfl, by simpa using giveAll_sound (df := df) hR ha h1, by simpa using giveAll_sound (df := df) hR hc h2⟩
  · simp at hev
end
end Go.Abs

namespace Go.Abs
open Go.RowKit
variable [Base]

section
variable {P : Program} {F : Fr} {co : Oper} {call : Calls}

theorem op_iaddr {X I : Operand} {x i : Opd} {T e : TypeId} {sz : Nat} {sh : Sh} {inf : TypeInfo} (hd : co.dst ≠ none) (ho : co.op = .indexAddr T X I) (hx : opdOk F X x = true) (hi : opdOk F I i = true)
    (hT : P.underlying T = some (.slice e)) (hinf : P.info? e = some inf) (hsz : inf.size = sz) : OpS P F co (.iaddr x i sz sh) call := by
  refine opS_pure hd fun G s t w df r s' κ hR hev => ?_
  have hcopy := copy_sound (df := df) hR hx κ
  simp only [evOp] at hev
  split at hev
  · rename_i k n hn
    have h2 := giveP_sound (df := df) hR hi hn
    simp only [RepP] at h2
    have hrun : ∀ b o len c, (⟨t, df⟩ : Act).eval X = .slice (some ⟨b, o, none⟩) len c → 0 ≤ n → n.toNat < len →
        (execOp (⟨t, df⟩ : Act).eval co).run P w = .ok (.value (.pointer (some ⟨b, o + n.toNat * sz, none⟩))) w := by
      intro b o len c h h0 hlt
      have h3 : 0 ≤ n ∧ n < (len : Int) := ⟨h0, by omega⟩
      subst hsz
      simp [execOp, ho, Instr.indexAt, h, h2, asIntOf, run_underlying hT, h3, sizeOf, typeInfo, hinf, addr_add]
    split at hev
    · rename_i l hv
      rw [hv] at hcopy
      simp only [RepT, RepA] at hcopy
      obtain ⟨a, c, vs, h1, h3, h4, h5⟩ := hcopy
      split at hev
      · rename_i h0
        simp only [Option.map_eq_some_iff, Prod.mk.injEq] at hev
        obtain ⟨av, h6, rfl, rfl⟩ := hev
        obtain ⟨y, g1, g2⟩ := h3.get h6
        rcases h4 with h4 | ⟨b, o, rfl, h4⟩
        · rw [h4] at g1; simp at g1
        · refine ⟨_, rfl, hrun b o _ _ h1 h0.1 (List.getElem?_eq_some_iff.1 h6).1, ?_⟩
          have hy := h5 y (List.mem_of_getElem? g1)
          have h7 := (h4 _ y g1).2 0 (by omega)
          rw [cells_one hy] at h7
          simp only [RepT, RepA]
          refine ⟨b, o + n.toNat * sz, y, rfl, ?_, g2, hy⟩
          rw [h0.2]; simpa using h7
      · simp at hev
    · rename_i hnsl
      split at hev
      · rename_i fz z xs hrow
        split at hev
        · rename_i hz
          simp only [Bool.and_eq_true, decide_eq_true_eq] at hz
          obtain ⟨rfl, h0⟩ := hz
          split at hev
          · rename_i v hv
            split at hev
            · rename_i hshp
              obtain ⟨hrv, hrp⟩ := rowOf_sound hR hcopy hrow
              have hlt := (List.getElem?_eq_some_iff.1 hv).1
              cases fz with
              | true =>
                simp only [if_true, Option.some.injEq, Prod.mk.injEq] at hev
                obtain ⟨rfl, rfl⟩ := hev
                have h3 := hrp rfl
                simp only [RepP] at h3
                obtain ⟨a, c, vs, h4, _, h5, h6⟩ := h3
                obtain ⟨y, g1, g2⟩ := h5.get hv
                rcases h6 with h6 | ⟨b, o, rfl, h6⟩
                · rw [h6] at g1; simp at g1
                · refine ⟨_, rfl, hrun b o _ _ h4 h0 hlt, ?_⟩
                  simp only [RepT, RepA, RepP]
                  exact ⟨b, o + n.toNat * z, y, rfl, g2, fun j hj => (h6 _ y g1).2 j (by rw [← (h6 _ y g1).1]; exact hj)⟩
              | false =>
                simp only [Bool.false_eq_true, if_false] at hev
                split at hev
                · rename_i kk hk
                  simp only [Option.some.injEq, Prod.mk.injEq] at hev
                  obtain ⟨rfl, rfl⟩ := hev
                  rw [hk] at hrow hcopy
                  simp only [rowOf] at hrow
                  split at hrow
                  · rename_i f' z' l' hg
                    simp only [Option.some.injEq, Prod.mk.injEq] at hrow
                    obtain ⟨rfl, rfl, rfl⟩ := hrow
                    simp only [RepT] at hcopy
                    have hown := hR.own_at hg hcopy.1
                    rcases hown with ⟨hnil, _⟩ | ⟨b, c, vs, arr, T', h3, _⟩
                    · rw [hnil] at hlt; simp at hlt
                    · refine ⟨_, rfl, hrun b 0 _ _ h3 h0 hlt, ?_⟩
                      simp only [RepT]
                      exact ⟨b, _, c, _, _, _, hcopy.1.trans (by rw [h3]), hg, hlt, by simp⟩
                  · simp at hrow
                · simp at hev
            · simp at hev
          · simp at hev
        · simp at hev
      · simp at hev
  · simp at hev

def pvOkA (v : Value) : PV → Bool
  | .agg cs => match v with
    | .agg vs => vs.size == cs.length && (List.zip vs.toList cs).all fun (x, p) => x.oneCell' && pvOk x p
    | _ => false
  | p => pvOk v p
omit [Base] in
theorem pvOkA_rep {M : Mem} {v : Value} {p : PV} (h : pvOkA v p = true) : RepP M p v := by
  unfold pvOkA at h
  split at h
  · rename_i cs
    split at h
    · rename_i vs
      simp only [Bool.and_eq_true, beq_iff_eq] at h
      obtain ⟨h1, h2⟩ := h
      have key : ∀ (l : List Value) (q : List PV), l.length = q.length → ((List.zip l q).all fun (x, p) => x.oneCell' && pvOk x p) = true → RepL M q l ∧ ∀ y ∈ l, y.oneCell' = true := by
        intro l
        induction l with
        | nil => intro q hl _; cases q <;> simp at hl; simp [RepL]
        | cons y l ih =>
          intro q hl hq
          cases q with
          | nil => simp at hl
          | cons p q =>
            simp only [List.zip_cons_cons, List.all_cons, Bool.and_eq_true] at hq
            obtain ⟨i1, i2⟩ := ih q (by simpa using hl) hq.2
            exact ⟨by simp only [RepL]; exact ⟨pvOk_rep hq.1.2, i1⟩, by simp only [List.mem_cons, forall_eq_or_imp]; exact ⟨hq.1.1, i2⟩⟩
      obtain ⟨k1, k2⟩ := key vs.toList cs (by simpa using h1) h2
      simp only [RepP]
      exact ⟨vs, rfl, k1, k2⟩
    · simp at h
  · exact pvOk_rep h

theorem op_tas {X : Operand} {x : Opd} {T A : TypeId} {ok : Bool} {zero : Option PV} {d : TypeDesc} {inf : TypeInfo} (hd : co.dst ≠ none) (ho : co.op = .typeAssert X T A ok) (hx : opdOk F X x = true)
    (hA : P.underlying A = some d) (hni : ∀ ms, d ≠ .interface ms) (hok : ok = zero.isSome) (hinf : P.info? A = some inf) (hz : ∀ z, zero = some z → ∃ v, inf.zero = some v ∧ pvOkA v z = true) : OpS P F co (.tas x A zero) call := by
  refine opS_pure hd fun G s t w df r s' κ hR hev => ?_
  simp only [evOp] at hev
  have hfail : ∀ (vv : Value) z, zero = some z → (vv = .nilIface ∨ ∃ u v, vv = .iface u v ∧ u ≠ A) → (⟨t, df⟩ : Act).eval X = vv →
      ∃ v, (execOp (⟨t, df⟩ : Act).eval co).run P w = .ok (.value (.tuple #[v, .bool false])) w ∧ RepP G.M z v := by
    intro vv z hz' hvv he
    obtain ⟨v, h1, h2⟩ := hz z hz'
    refine ⟨v, ?_, pvOkA_rep h2⟩
    have hzv : (zeroValue A).run P w = .ok v w := by simp [zeroValue, typeInfo, hinf, h1]
    have hok' : ok = true := by rw [hok, hz']; rfl
    subst hok'
    rcases hvv with rfl | ⟨u, q, rfl, hne⟩
    · simp only [execOp, ho, Instr.typeAssert, Sem.run_bind, run_underlying hA, Result.andThen_ok, he]
      cases d <;> first | (simp [hzv]; done) | exact absurd rfl (hni _)
    · simp only [execOp, ho, Instr.typeAssert, Sem.run_bind, run_underlying hA, Result.andThen_ok, he]
      cases d <;> first | (simp [hzv, hne]; done) | exact absurd rfl (hni _)
  have hhold : ∀ v, (⟨t, df⟩ : Act).eval X = .iface A v → (execOp (⟨t, df⟩ : Act).eval co).run P w = .ok (.value (if ok then .tuple #[v, .bool true] else v)) w := by
    intro v he
    simp only [execOp, ho, Instr.typeAssert, Sem.run_bind, run_underlying hA, Result.andThen_ok, he]
    cases d <;> first | (simp; done) | exact absurd rfl (hni _)
  split at hev
  · rename_i u v hv
    have h1 := val_pure (df := df) hR hx hv
    simp only [RepP] at h1
    obtain ⟨y, h2, h3⟩ := h1
    split at hev
    · rename_i z
      split at hev
      · rename_i hu
        subst hu
        simp only [Option.some.injEq, Prod.mk.injEq] at hev
        obtain ⟨rfl, rfl⟩ := hev
        refine ⟨_, rfl, hhold y h2, ?_⟩
        simp only [hok, Option.isSome_some, if_true, RepT, RepA]
        exact ⟨_, rfl, by simp [RepAs, RepA, RepP, h3]⟩
      · rename_i hu
        simp only [Option.some.injEq, Prod.mk.injEq] at hev
        obtain ⟨rfl, rfl⟩ := hev
        obtain ⟨q, g1, g2⟩ := hfail _ z rfl (.inr ⟨u, y, rfl, hu⟩) h2
        refine ⟨_, rfl, g1, ?_⟩
        simp only [RepT, RepA]
        exact ⟨_, rfl, by simp [RepAs, RepA, RepP, g2]⟩
    · split at hev
      · rename_i hu
        subst hu
        simp only [Option.some.injEq, Prod.mk.injEq] at hev
        obtain ⟨rfl, rfl⟩ := hev
        refine ⟨_, rfl, hhold y h2, ?_⟩
        simp only [hok, Option.isSome_none, Bool.false_eq_true, if_false, RepT, RepA]
        exact h3
      · simp at hev
  · rename_i hv
    have h1 := val_pure (df := df) hR hx hv
    simp only [RepP] at h1
    simp only [Option.map_eq_some_iff, Prod.mk.injEq] at hev
    obtain ⟨z, hz', rfl, rfl⟩ := hev
    obtain ⟨q, g1, g2⟩ := hfail _ z hz' (.inl rfl) h1
    refine ⟨_, rfl, g1, ?_⟩
    simp only [RepT, RepA]
    exact ⟨_, rfl, by simp [RepAs, RepA, RepP, g2]⟩
  · simp at hev

theorem giveCells_sound {F G s t w} (hR : R F G s t w) : ∀ {cs r : List AV} {xs : List Value} (keys : Nat → Key), giveCells s cs = some r → xs.length = cs.length →
    (∀ (i : Nat) (a : AV) (x : Value), cs[i]? = some a → xs[i]? = some x → RepC G w (keys i) a x) → RepAs G.M G.B r xs
  | [], r, [], _, h, _, _ => by simp [giveCells] at h; subst h; simp [RepAs]
  | a :: cs, r, x :: xs, keys, h, hl, hc => by
    simp only [giveCells] at h
    split at h
    · rename_i b l h1 h2
      simp at h; subst h
      simp only [RepAs]
      have h3 := hc 0 a x rfl rfl
      have h4 : RepT F G s t w (keys 0) a x := by
        cases a <;> first | exact h3 | (simp only [RepC, RepA] at h3)
      refine ⟨give_sound hR h4 h1, giveCells_sound hR (fun i => keys (i + 1)) h2 (by simpa using hl) fun i a' x' ha hx' => hc (i + 1) a' x' (by simpa using ha) (by simpa using hx')⟩
    · simp at h
  | [], _, _ :: _, _, _, hl, _ => by simp at hl
  | _ :: _, _, [], _, _, hl, _ => by simp at hl
end
end Go.Abs

namespace Go.Abs
open Go.RowKit
variable [Base]

section
variable {P : Program} {F : Fr} {co : Oper} {call : Calls}

omit [Base] in
theorem run_load_op {t : Array Value} {df : List Deferred} {w : World} {X : Operand} {T : TypeId} {b o : Nat} {z : Value} (ho : co.op = .load T X) (hx : (⟨t, df⟩ : Act).eval X = .pointer (some ⟨b, o, none⟩))
    (hz : (loadVar T ⟨b, o, none⟩).run P w = .ok z w) : (execOp (⟨t, df⟩ : Act).eval co).run P w = .ok (.value z) w := by
  simp [execOp, ho, Instr.loadAt, hx, Instr.sureAddr, hz]

theorem load_sound {G s t w df} (hR : R F G s t w) {X : Operand} {T : TypeId} {sh : Sh} (ho : co.op = .load T X) (hT : shOk P T sh = true) {av r : AV} {κ : Key}
    (hav : RepT F G s t w κ av ((⟨t, df⟩ : Act).eval X)) (h : load s sh av = some r) :
    ∃ z, (execOp (⟨t, df⟩ : Act).eval co).run P w = .ok (.value z) w ∧ RepT F G s t w κ r z := by
  unfold load at h
  split at h
  · rename_i v
    split at h
    · rename_i hs
      simp at h; subst h
      simp only [RepT, RepA, RepP] at hav
      obtain ⟨b, o, y, h1, h2, h3⟩ := hav
      refine ⟨y, run_load_op ho h1 (run_loadVar hT (rep_cells h2 hs) fun j hj => ?_), by simp only [RepT, RepA]; exact h2⟩
      have h4 := h3 j hj
      rw [Array.getElem?_eq_getElem hj] at h4 ⊢
      exact hR.agree _ _ _ h4
    · simp at h
  · rename_i a
    simp only [RepT, RepA] at hav
    obtain ⟨b, o, y, h1, h2, h3, h4⟩ := hav
    split at h
    · simp at h; subst h
      refine ⟨y, run_load_op ho h1 (run_loadVar hT (sh := .s) (cells_one h4) fun j hj => ?_), RepA_T h3⟩
      rw [cells_one h4] at hj ⊢
      simp at hj; subst hj
      rw [Nat.add_zero, hR.agree _ _ _ h2]; rfl
    · simp at h
  · rename_i l off
    simp only [RepT, RepA] at hav
    obtain ⟨b, h1, h2⟩ := hav
    split at h
    · rename_i cs hl
      obtain ⟨b', e1, e2, e3, e4⟩ := hR.objs l _ hl
      rw [h1] at e1; simp at e1; subst e1
      simp only [ObjRep] at e4
      obtain ⟨arr, T', f1, f2, f3⟩ := e4
      split at h
      · split at h
        · rename_i a ha
          simp at h; subst h
          obtain ⟨x, g1, g2, g3⟩ := f3 off a ha
          refine ⟨x, run_load_op ho h2 (run_loadVar hT (sh := .s) (cells_one g2) fun j hj => ?_), ?_⟩
          · rw [cells_one g2] at hj ⊢
            simp at hj; subst hj
            rw [Nat.add_zero, cell_of f1, g1]; rfl
          · unfold loan
            by_cases ho' : isOwn a = true
            · rw [if_pos ho']
              simp only [RepT]
              refine ⟨by simp [cvK, h1, cell_of f1, g1], ?_⟩
              simp [getK, hl, List.getD_eq_getElem?_getD, ha, ho']
            · rw [if_neg ho']
              cases a <;> first | exact absurd rfl ho' | exact g3 | (simp only [RepC, RepA] at g3)
        · simp at h
      · rename_i n
        split at h
        · rename_i hle
          split at h
          · rename_i r' hr'
            simp only [fromCells] at h
            split at h
            · rename_i hlen
              simp at h; subst h
              have hreps := giveCells_sound (xs := (arr.extract off (off + n)).toList) hR (fun i => .c l (off + i)) hr' (by simp; omega) (by
                intro i a x ha hx
                have hi : i < n := by
                  have := (List.getElem?_eq_some_iff.1 ha).1
                  simp at this; omega
                simp only [List.getElem?_take, hi, if_true, List.getElem?_drop] at ha
                obtain ⟨x', g1, g2, g3⟩ := f3 (off + i) a ha
                simp only [Array.getElem?_toList, Array.getElem?_extract] at hx
                rw [if_pos (by omega), g1] at hx
                simp at hx; subst hx
                exact g3)
              have hones : ∀ y ∈ (arr.extract off (off + n)).toList, y.oneCell' = true := by
                intro y hy
                obtain ⟨i, hi⟩ := List.mem_iff_getElem?.1 hy
                simp only [Array.getElem?_toList, Array.getElem?_extract] at hi
                split at hi
                · obtain ⟨c, hc⟩ : ∃ c, cs[off + i]? = some c := ⟨_, List.getElem?_eq_getElem (by omega)⟩
                  obtain ⟨x', g1, g2, _⟩ := f3 (off + i) c hc
                  rw [g1] at hi; simp at hi; subst hi
                  exact g2
                · simp at hi
              refine ⟨.agg (arr.extract off (off + n)), run_load_op ho h2 (run_loadVar hT (sh := .a n) ⟨_, rfl, by simp; omega⟩ fun j hj => ?_), RepA_T (RepA_mkAgg hreps hones)⟩
              simp only [Value.cells] at hj ⊢
              rw [cell_of f1, Array.getElem?_extract, if_pos (by simp at hj; omega)]
            · simp at h
          · simp at h
        · simp at h
    · simp at h
  · rename_i k i off
    simp only [RepT] at hav
    obtain ⟨b, n, c, fz, sz, xs, h1, h2, h3, h4⟩ := hav
    split at h
    · rename_i fz' sz' xs' hk
      rw [h2] at hk
      simp only [AV.own.injEq] at hk
      obtain ⟨rfl, rfl, rfl⟩ := hk
      split at h
      · rename_i v hv
        simp only [Option.map_eq_some_iff] at h
        obtain ⟨p, hp, rfl⟩ := h
        rcases hR.own_at h2 h1 with ⟨hnil, _⟩ | ⟨b', c', vs, arr, T', g1, g2, g3, g4, g5, g6, g7, g8, g9⟩
        · rw [hnil] at hv; simp at hv
        · simp only [Value.slice.injEq, Option.some.injEq, Addr.mk.injEq] at g1
          obtain ⟨⟨rfl, _⟩, _⟩ := g1
          obtain ⟨y, e1, e2⟩ := g4.get hv
          obtain ⟨z, k1, k2, k3⟩ := subP_sound e2 hp
          refine ⟨z, run_load_op ho h4 (run_loadVar hT (rep_cells k1 k2) fun j hj => ?_), by simp only [RepT, RepA]; exact k1⟩
          have h5 := k3 j hj
          rw [Array.getElem?_eq_getElem hj] at h5
          have h6 := (Array.getElem?_eq_some_iff.1 h5).1
          have h7 := (g7 i y e1).2 (off + j) (by rw [← (g7 i y e1).1]; exact h6)
          rw [cell_of g5, show i * sz + off + j = i * sz + (off + j) by omega, h7, h5, Array.getElem?_eq_getElem hj]
      · simp at h
    · simp at h
  · simp at h
where
  giveCells_len {s : St} : ∀ {cs r : List AV}, giveCells s cs = some r → r.length = cs.length
  | [], r, h => by simp [giveCells] at h; subst h; rfl
  | a :: cs, r, h => by
    simp only [giveCells] at h
    split at h
    · rename_i b l h1 h2
      simp at h; subst h
      simp [giveCells_len h2]
    · simp at h

theorem op_ld {X : Operand} {x : Opd} {T : TypeId} {sh : Sh} (hd : co.dst ≠ none) (ho : co.op = .load T X) (hx : opdOk F X x = true) (hT : shOk P T sh = true) : OpS P F co (.ld x sh) call := by
  refine opS_pure hd fun G s t w df r s' κ hR hev => ?_
  simp only [evOp, Option.map_eq_some_iff, Prod.mk.injEq] at hev
  obtain ⟨a, h1, rfl, rfl⟩ := hev
  obtain ⟨z, h2, h3⟩ := load_sound (df := df) hR ho hT (copy_sound (df := df) hR hx κ) h1
  exact ⟨z, rfl, h2, h3⟩

def optOk (F : Fr) : Option Operand → Option Opd → Bool
  | none, none => true
  | some X, some x => opdOk F X x
  | _, _ => false

omit [Base] in
theorem run_bound {w : World} {v : Value} {k : IntKind} {n : Int} {y : Nat} {code : BoundsCode} (hv : v = .int k n) (h : 0 ≤ n ∧ n ≤ y) : (Instr.sliceBound v y code).run P w = .ok n.toNat w := by
  subst hv
  simp [Instr.sliceBound, asIntOf, h]

/-- The two bounds of a cut. -/
theorem run_bounds {G s t w df} (hR : R F G s t w) {lo hi : Option Operand} {l h : Option Opd} (hl : optOk F lo l = true) (hh : optOk F hi h = true) {isS : Bool} {len cap : Nat} (hlc : len ≤ cap) {i j : Int}
    (e1 : optInt s 0 l = some i) (e2 : optInt s len h = some j) (hb : boundOk i j len = true) :
    (Instr.sliceBounds isS len cap (lo.map (⟨t, df⟩ : Act).eval) (hi.map (⟨t, df⟩ : Act).eval) none).run P w = .ok (i.toNat, j.toNat, cap) w := by
  simp only [boundOk, Bool.and_eq_true, decide_eq_true_eq] at hb
  obtain ⟨⟨hi0, hij⟩, hjl⟩ := hb
  have val : ∀ (X : Operand) (x : Opd) (d n : Int), opdOk F X x = true → optInt s d (some x) = some n → ∃ k, (⟨t, df⟩ : Act).eval X = .int k n := by
    intro X x d n ho hn
    simp only [optInt] at hn
    split at hn
    · rename_i k m hm
      simp at hn; subst hn
      have := giveP_sound (df := df) hR ho hm
      simp only [RepP] at this
      exact ⟨k, this⟩
    · simp at hn
  have hb : ∀ (X : Operand) (x : Opd) (d n : Int), opdOk F X x = true → optInt s d (some x) = some n → ∀ (y : Nat) (code : BoundsCode), 0 ≤ n ∧ n ≤ y →
      (Instr.sliceBound ((⟨t, df⟩ : Act).eval X) y code).run P w = .ok n.toNat w := by
    intro X x d n ho hn y code hy
    obtain ⟨k, hk⟩ := val X x d n ho hn
    exact run_bound hk hy
  cases lo with
  | none =>
    cases l with
    | some x => simp [optOk] at hl
    | none =>
      simp only [optInt, Option.some.injEq] at e1; subst e1
      cases hi with
      | none =>
        cases h with
        | some x => simp [optOk] at hh
        | none => simp only [optInt, Option.some.injEq] at e2; subst e2; simp [Instr.sliceBounds]
      | some X =>
        cases h with
        | none => simp [optOk] at hh
        | some x =>
          simp only [optOk] at hh
          simp [Instr.sliceBounds, hb X x _ j hh e2 cap _ ⟨by omega, by omega⟩]
  | some Y =>
    cases l with
    | none => simp [optOk] at hl
    | some y =>
      simp only [optOk] at hl
      cases hi with
      | none =>
        cases h with
        | some x => simp [optOk] at hh
        | none =>
          simp only [optInt, Option.some.injEq] at e2; subst e2
          simp [Instr.sliceBounds, hb Y y _ i hl e1 len _ ⟨by omega, by omega⟩]
      | some X =>
        cases h with
        | none => simp [optOk] at hh
        | some x =>
          simp only [optOk] at hh
          simp [Instr.sliceBounds, hb X x _ j hh e2 cap _ ⟨by omega, by omega⟩, hb Y y _ i hl e1 j.toNat _ ⟨by omega, by omega⟩]

theorem op_slc_str {X : Operand} {x : Opd} {T : TypeId} {lo hi : Option Operand} {l h : Option Opd} (hd : co.dst ≠ none) (ho : co.op = .slice T X lo hi none) (hx : opdOk F X x = true)
    (hl : optOk F lo l = true) (hh : optOk F hi h = true) (hT : P.underlying T = some .string) : OpS P F co (.sslc x l h) call := by
  refine opS_pure hd fun G s t w df r s' κ hR hev => ?_
  simp only [evOp] at hev
  split at hev
  · rename_i b hv
    have h1 := val_pure (df := df) hR hx hv
    simp only [RepP] at h1
    split at hev
    · rename_i i j e1 e2
      split at hev
      · rename_i hb
        simp only [Option.some.injEq, Prod.mk.injEq] at hev
        obtain ⟨rfl, rfl⟩ := hev
        have hr := run_bounds (P := P) (w := w) (df := df) hR hl hh (isS := false) (Nat.le_refl b.length) e1 e2 hb
        refine ⟨.string ((⟨b.toArray⟩ : ByteArray).extract i.toNat j.toNat), rfl, ?_, ?_⟩
        · simp only [execOp, ho, Instr.sliceAt, Sem.run_bind, run_underlying hT, Result.andThen_ok, h1, Instr.slice, mkBytes_size]
          simp [hr]
        · simp only [RepT, RepA, RepP, Value.string.injEq]
          apply ByteArray.ext
          simp [ByteArray.data_extract, List.extract_eq_take_drop]
      · simp at hev
    · simp at hev
  · simp at hev

theorem op_slc {X : Operand} {x : Opd} {T e : TypeId} {lo hi : Option Operand} {l h : Option Opd} {sz : Nat} {inf : TypeInfo} (hd : co.dst ≠ none) (ho : co.op = .slice T X lo hi none) (hx : opdOk F X x = true)
    (hl : optOk F lo l = true) (hh : optOk F hi h = true) (hT : P.underlying T = some (.slice e)) (hinf : P.info? e = some inf) (hsz : inf.size = sz) : OpS P F co (.slc x l h sz) call := by
  refine opS_pure hd fun G s t w df r s' κ hR hev => ?_
  have hcopy := copy_sound (df := df) hR hx κ
  simp only [evOp] at hev
  split at hev
  · rename_i fz z xs hrow
    split at hev
    · rename_i i j e1 e2
      split at hev
      · rename_i hb
        simp only [Bool.and_eq_true, Bool.or_eq_true, beq_iff_eq] at hb
        obtain ⟨⟨hb, hfz⟩, rfl⟩ := hb
        simp only [Option.some.injEq, Prod.mk.injEq] at hev
        obtain ⟨rfl, rfl⟩ := hev
        obtain ⟨hrv, hrp⟩ := rowOf_sound hR hcopy hrow
        have hP : RepP G.M (.slice z xs) ((⟨t, df⟩ : Act).eval X) := by
          rcases hfz with h1 | h1
          · exact hrp h1
          · have hx0 : xs = [] := by simpa using h1
            subst hx0
            obtain ⟨a, c, vs, g1, g2, g3, _⟩ := hrv
            simp only [RepP]
            refine ⟨a, c, [], g1, g2, by simp [RepL], .inl rfl⟩
        simp only [RepP] at hP
        obtain ⟨a, c, vs, g1, g2, g3, g4⟩ := hP
        have hr := run_bounds (P := P) (w := w) (df := df) hR hl hh (isS := true) g2 e1 e2 hb
        subst hsz
        refine ⟨.slice (if c = i.toNat then a else a.map (·.add (i.toNat * inf.size))) (j.toNat - i.toNat) (c - i.toNat), rfl, ?_, ?_⟩
        · simp only [execOp, ho, Instr.sliceAt, Sem.run_bind, run_underlying hT, Result.andThen_ok, g1, Instr.slice]
          simp [hr, sizeOf, typeInfo, hinf]
        · have hb' := hb
          simp only [boundOk, Bool.and_eq_true, decide_eq_true_eq] at hb'
          obtain ⟨⟨b1, b2⟩, b3⟩ := hb'
          have hlen := g3.length
          simp only [RepT, RepA, RepP]
          refine ⟨(if c = i.toNat then a else a.map (·.add (i.toNat * inf.size))), c - i.toNat, (vs.drop i.toNat).take (j.toNat - i.toNat), ?_, ?_, RepL.take _ (RepL.drop _ g3), ?_⟩
          · have : (List.take (j.toNat - i.toNat) (List.drop i.toNat xs)).length = j.toNat - i.toNat := by simp only [List.length_take, List.length_drop]; omega
            rw [this]
          · simp only [List.length_take, List.length_drop]; omega
          · rcases g4 with g4 | ⟨b, o, rfl, g4⟩
            · left; rw [g4]; simp
            · by_cases hc : c = i.toNat
              · left
                have : j.toNat - i.toNat = 0 := by omega
                rw [this]; simp
              · right
                refine ⟨b, o + i.toNat * inf.size, by rw [if_neg hc]; simp [addr_add], fun q y hy => ?_⟩
                simp only [List.getElem?_take, List.getElem?_drop] at hy
                split at hy
                · obtain ⟨k1, k2⟩ := g4 _ y hy
                  refine ⟨k1, fun p hp => ?_⟩
                  rw [← k2 p hp]
                  congr 1
                  rw [Nat.add_mul]; omega
                · simp at hy
      · simp at hev
    · simp at hev
  · simp at hev

theorem op_slc0 {X A B C : Operand} {x a b c : Opd} {T e : TypeId} {inf : TypeInfo} {sz : Nat} (hd : co.dst ≠ none) (ho : co.op = .slice T X (some A) (some B) (some C)) (hx : opdOk F X x = true)
    (ha : opdOk F A a = true) (hb : opdOk F B b = true) (hc : opdOk F C c = true) (hT : P.underlying T = some (.slice e)) (hinf : P.info? e = some inf) : OpS P F co (.slc0 x a b c sz) call := by
  refine opS_pure hd fun G s t w df r s' κ hR hev => ?_
  have hcopy := copy_sound (df := df) hR hx κ
  simp only [evOp] at hev
  split at hev
  · rename_i f z xs k1 k2 k3 hrow h1 h2 h3
    simp only [Option.some.injEq, Prod.mk.injEq] at hev
    obtain ⟨rfl, rfl⟩ := hev
    obtain ⟨⟨a', c', vs, g1, g2, g3, _⟩, _⟩ := rowOf_sound hR hcopy hrow
    have e1 := giveP_sound (df := df) hR ha h1
    have e2 := giveP_sound (df := df) hR hb h2
    have e3 := giveP_sound (df := df) hR hc h3
    simp only [RepP] at e1 e2 e3
    have r3 := run_bound (P := P) (w := w) (y := c') (code := .slice3Acap) e3 ⟨by omega, by omega⟩
    have r2 := run_bound (P := P) (w := w) (y := 0) (code := .slice3B) e2 ⟨by omega, by omega⟩
    have r1 := run_bound (P := P) (w := w) (y := 0) (code := .slice3C) e1 ⟨by omega, by omega⟩
    refine ⟨.slice a' 0 0, rfl, ?_, by simp only [RepT]; exact .inl ⟨rfl, _, rfl⟩⟩
    simp only [execOp, ho, Instr.sliceAt, Sem.run_bind, run_underlying hT, Result.andThen_ok, g1, Instr.slice]
    simp at r1 r2 r3
    simp [Instr.sliceBounds, r1, r2, r3, sizeOf, typeInfo, hinf]
  · simp at hev
end
end Go.Abs

namespace Go.Abs
open Go.RowKit
variable [Base]

def pushed (w : World) (o : Go.Obj) : World := { w with heap := w.heap.push o }
omit [Base] in
theorem pushed_old (w : World) (o : Go.Obj) {b : Nat} (h : b < w.heap.size) : (pushed w o).heap[b]? = w.heap[b]? := by
  simp only [pushed, Array.getElem?_push]
  rw [if_neg (by omega)]
omit [Base] in
theorem pushed_new (w : World) (o : Go.Obj) : (pushed w o).heap[w.heap.size]? = some o := by
  simp only [pushed, Array.getElem?_push, if_true]
omit [Base] in
theorem pushed_size (w : World) (o : Go.Obj) : (pushed w o).heap.size = w.heap.size + 1 := by simp [pushed]

theorem R.z_none {F G s t w} (hR : R F G s t w) {b : Nat} (h : w.heap.size ≤ b) : G.Z b = none := by
  cases hz : G.Z b with
  | none => rfl
  | some x => have := hR.freshZ b (by rw [hz]; simp); omega
theorem R.m_none {F G s t w} (hR : R F G s t w) {b : Nat} (h : w.heap.size ≤ b) (off : Nat) : G.M b off = none := by
  cases hz : G.M b off with
  | none => rfl
  | some x => have := hR.freshM b off (by rw [hz]; simp); omega

/-- A block more. -/
theorem R.push {F G s t w} (hR : R F G s t w) (o : Go.Obj) : R F G s t (pushed w o) :=
  hR.grow rfl (fun _ _ _ h => h) (fun b hb => ⟨pushed_old w o hb, rfl, fun _ => rfl⟩) (fun b q v hb h => by rw [hR.m_none hb] at h; simp at h)
    (fun b q h => by rw [pushed_size]; have := hR.freshM b q h; omega) (fun b h => by rw [pushed_size]; have := hR.freshZ b h; omega)

def Gh.addO (G : Gh) (b l : Nat) : Gh := ⟨G.M, fun q => if q = b then some (.o l) else G.Z q, G.B ++ [b]⟩

omit [Base] in
theorem Ext.newO {G : Gh} {w : World} (o : Go.Obj) (l : Nat) : Ext G w (G.addO w.heap.size l) (pushed w o) :=
  ⟨rfl, rfl, rfl, by rw [pushed_size]; omega, fun _ _ _ h => h, fun b hb hz => ⟨pushed_old w o hb, by simp only [Gh.addO]; rw [if_neg (by omega)]; exact hz, fun _ => rfl⟩,
    fun l b h => by simp only [Gh.addO]; rw [List.getElem?_append_left (List.getElem?_eq_some_iff.1 h).1]; exact h⟩

/-- A new object. -/
theorem R.newObj {F G s t w} (hR : R F G s t w) (o : Go.Obj) {ob : Obj} (ho : ObjRep (G.addO w.heap.size s.heap.length) (pushed w o) s.heap.length w.heap.size ob) :
    R F (G.addO w.heap.size s.heap.length) { s with heap := s.heap ++ [ob] } t (pushed w o) :=
  (hR.push o).addObj (by cases h : Base.H0 w.heap.size with | none => rfl | some x => have := (Array.getElem?_eq_some_iff.1 (hR.base _ _ h).1).1; omega) (by rw [pushed_size]; omega) (hR.z_none (Nat.le_refl _)) (fun _ => hR.m_none (Nat.le_refl _) _) ho

/-- What a new box's cell may hold. -/
def CellNew (G : Gh) (a : AV) (x : Value) : Prop := x.oneCell' = true ∧ (RepA G.M G.B a x ∨ ∃ fz sz q, a = .own fz sz [] ∧ x = .slice q 0 0)

theorem R.newBox {F G s t w} (hR : R F G s t w) (cs : Array Value) (T : TypeId) {as : List AV} (hlen : cs.size = as.length)
    (hc : ∀ (k : Nat) (a : AV), as[k]? = some a → ∃ x, cs[k]? = some x ∧ CellNew G a x) :
    R F (G.addO w.heap.size s.heap.length) { s with heap := s.heap ++ [⟨.box, as⟩] } t (pushed w (.cells cs T)) ∧
    ∀ κ, RepT F (G.addO w.heap.size s.heap.length) { s with heap := s.heap ++ [⟨.box, as⟩] } t (pushed w (.cells cs T)) κ (.ref s.heap.length 0) (.pointer (some ⟨w.heap.size, 0, none⟩)) := by
  refine ⟨hR.newObj _ ?_, fun κ => ?_⟩
  · simp only [ObjRep]
    refine ⟨cs, T, pushed_new _ _, hlen, fun k a ha => ?_⟩
    obtain ⟨x, h1, h2, h3⟩ := hc k a ha
    refine ⟨x, h1, h2, ?_⟩
    rcases h3 with h3 | ⟨fz, sz, q, rfl, rfl⟩
    · have h4 : RepA (G.addO w.heap.size s.heap.length).M (G.addO w.heap.size s.heap.length).B a x :=
        h3.mono (fun _ _ _ h => h) (fun l b h => by simp only [Gh.addO]; rw [List.getElem?_append_left (List.getElem?_eq_some_iff.1 h).1]; exact h)
      cases a <;> first | exact h4 | simp [RepA] at h3
    · simp only [RepC]; exact .inl ⟨rfl, _, rfl⟩
  · simp only [RepT, RepA, Gh.addO]
    exact ⟨w.heap.size, by rw [← hR.hB]; simp, rfl⟩

def Gh.addK (G : Gh) (b : Nat) (κ : Key) (fz : Bool) (n : Nat) (arr : Array Value) : Gh :=
  ⟨fun q off => if q = b then (if fz = true ∧ off < n then arr[off]? else none) else G.M q off, fun q => if q = b then some (.k κ) else G.Z q, G.B⟩

/-- A new row that is owned. -/
theorem R.newRow {F G s t w} (hR : R F G s t w) (κ : Key) (fz : Bool) (sz : Nat) (arr : Array Value) (T : TypeId) {xs : List PV} {vs : List Value} (c : Nat) (hn : xs.length ≤ c) (hv : RepL G.M xs vs)
    (hc : c * sz ≤ arr.size) (hcells : ∀ (i : Nat) (y : Value), vs[i]? = some y → y.cells.size = sz ∧ ∀ j, j < sz → arr[i * sz + j]? = y.cells[j]?) :
    R F (G.addK w.heap.size κ fz (xs.length * sz) arr) s t (pushed w (.cells arr T)) ∧
    OwnRep (G.addK w.heap.size κ fz (xs.length * sz) arr) (pushed w (.cells arr T)) κ fz sz xs (.slice (some ⟨w.heap.size, 0, none⟩) xs.length c) ∧
    Ext G w (G.addK w.heap.size κ fz (xs.length * sz) arr) (pushed w (.cells arr T)) := by
  have hmono : ∀ b o v, G.M b o = some v → (G.addK w.heap.size κ fz (xs.length * sz) arr).M b o = some v := by
    intro b o v h
    have : b ≠ w.heap.size := fun e => by rw [e, hR.m_none (Nat.le_refl _)] at h; simp at h
    simp only [Gh.addK, if_neg this]; exact h
  refine ⟨?_, ?_, ?_⟩
  · refine hR.grow rfl hmono (fun b hb => ⟨pushed_old _ _ hb, by simp only [Gh.addK]; rw [if_neg (by omega)], fun off => by simp only [Gh.addK]; rw [if_neg (by omega)]⟩) ?_ ?_ ?_
    · intro b o v hb h
      by_cases e : b = w.heap.size
      · subst e
        simp only [Gh.addK, if_true] at h
        split at h
        · rw [cell_of (pushed_new _ _)]; exact h
        · simp at h
      · simp only [Gh.addK, if_neg e] at h
        rw [hR.m_none hb] at h; simp at h
    · intro b o h
      rw [pushed_size]
      by_cases e : b = w.heap.size
      · omega
      · simp only [Gh.addK, if_neg e] at h
        have := hR.freshM b o h; omega
    · intro b h
      rw [pushed_size]
      by_cases e : b = w.heap.size
      · omega
      · simp only [Gh.addK, if_neg e] at h
        have := hR.freshZ b h; omega
  · refine .inr ⟨w.heap.size, c, vs, arr, T, rfl, hn, by simp [Gh.addK], hv.mono hmono, pushed_new _ _, hc, hcells, fun hf off ho => by simp [Gh.addK, hf, ho], fun off ho => ?_⟩
    simp only [Gh.addK, if_true] at ho
    split at ho
    · rename_i h; exact h
    · simp at ho
  · exact ⟨rfl, rfl, rfl, by rw [pushed_size]; omega, hmono, fun b hb hz => ⟨pushed_old _ _ hb, by simp only [Gh.addK]; rw [if_neg (by omega)]; exact hz, fun off => by simp only [Gh.addK]; rw [if_neg (by omega)]⟩, fun _ _ h => h⟩

section
variable {P : Program} {F : Fr} {co : Oper} {call : Calls}

omit [Base] in
theorem run_newRow' {w : World} (T : TypeId) (cs : Array Value) : (newRow T cs).run P w = .ok ⟨w.heap.size, 0, none⟩ (pushed w (.cells cs T)) := rfl

def zCellOk (x : Value) : AV → Bool
  | .p v => x.oneCell' && pvOk x v
  | .own _ _ [] => match x with | .slice none 0 0 => true | _ => false
  | _ => false
omit [Base] in
theorem zCellOk_new {G : Gh} {x : Value} {a : AV} (h : zCellOk x a = true) : CellNew G a x := by
  unfold zCellOk at h
  split at h
  · simp only [Bool.and_eq_true] at h
    exact ⟨h.1, .inl (by simp only [RepA]; exact pvOk_rep h.2)⟩
  · split at h
    · exact ⟨rfl, .inr ⟨_, _, _, rfl, rfl⟩⟩
    · simp at h
  · simp at h

def zCellsOk : List Value → List AV → Bool
  | [], [] => true
  | x :: xs, a :: as => zCellOk x a && zCellsOk xs as
  | _, _ => false
omit [Base] in
theorem zCellsOk_get : ∀ {xs : List Value} {as : List AV}, zCellsOk xs as = true → xs.length = as.length ∧ ∀ (k : Nat) (a : AV), as[k]? = some a → ∃ x, xs[k]? = some x ∧ zCellOk x a = true
  | [], [], _ => ⟨rfl, fun k a h => by simp at h⟩
  | x :: xs, a :: as, h => by
    simp only [zCellsOk, Bool.and_eq_true] at h
    obtain ⟨h1, h2⟩ := zCellsOk_get h.2
    refine ⟨by simp [h1], fun k b hb => ?_⟩
    cases k with
    | zero => simp at hb; subst hb; exact ⟨x, rfl, h.1⟩
    | succ k => simp at hb ⊢; exact h2 k b hb
  | [], _ :: _, h => by simp [zCellsOk] at h
  | _ :: _, [], h => by simp [zCellsOk] at h

theorem op_alloc {T : TypeId} {z : List AV} {inf : TypeInfo} {zv : Value} (hd : co.dst ≠ none) (ho : co.op = .alloc T) (hinf : P.info? T = some inf) (hzv : inf.zero = some zv) (hz : zCellsOk zv.cells.toList z = true) :
    OpS P F co (.alloc z) call := by
  intro G s t w df a s' N _ hR hev next Q hk
  simp only [evOp, Option.some.injEq, Prod.mk.injEq] at hev
  obtain ⟨rfl, rfl⟩ := hev
  have hrun : (execOp (⟨t, df⟩ : Act).eval co).run P w = .ok (.value (.pointer (some ⟨w.heap.size, 0, none⟩))) (pushed w (.cells zv.cells T)) := by
    have h1 : (zeroValue T).run P w = .ok zv w := by simp [zeroValue, typeInfo, hinf, hzv]
    simp only [execOp, ho, Instr.alloc, Sem.run_bind, h1, Result.andThen_ok, newVar, run_newRow']
    rfl
  obtain ⟨h1, h2⟩ := zCellsOk_get hz
  obtain ⟨k1, k2⟩ := hR.newBox zv.cells T (as := z) (by simpa using h1) (fun k a ha => by
    obtain ⟨x, e1, e2⟩ := h2 k a ha
    exact ⟨x, by simpa using e1, zCellOk_new e2⟩)
  unfold Oper.wp
  rw [hrun]
  exact hk _ _ _ k1 (k2 _) (fun e => absurd e hd) (Ext.newO _ _)

omit [Base] in
theorem cellsOf_sound {M : Mem} {B : List Nat} {sh : Sh} {a : AV} {cs : List AV} {x : Value} (h : RepA M B a x) (hc : cellsOf sh a = some cs) :
    ShapeV sh x ∧ RepAs M B cs x.cells.toList ∧ ∀ y ∈ x.cells.toList, y.oneCell' = true := by
  cases sh with
  | s =>
    have key : x.oneCell' = true → cs = [a] → ShapeV .s x ∧ RepAs M B cs x.cells.toList ∧ ∀ y ∈ x.cells.toList, y.oneCell' = true := by
      rintro h1 rfl
      rw [cells_one h1]
      exact ⟨cells_one h1, by simp [RepAs, h], by simp [h1]⟩
    cases a with
    | p v =>
      simp only [RepA] at h
      by_cases hv : isAggP v = true
      · cases v <;> simp [isAggP] at hv
        simp [cellsOf] at hc
      · have hc' : cs = [.p v] := by cases v <;> first | exact absurd rfl hv | (simp [cellsOf] at hc; exact hc.symm)
        exact key (rep_one h (by cases v <;> first | exact absurd rfl hv | rfl)) hc'
    | own _ _ _ => simp [RepA] at h
    | lent _ => simp [RepA] at h
    | eref _ _ _ => simp [RepA] at h
    | ref _ _ => simp only [cellsOf, Option.some.injEq] at hc; simp only [RepA] at h; obtain ⟨_, _, rfl⟩ := h; exact key rfl hc.symm
    | mref _ => simp only [cellsOf, Option.some.injEq] at hc; simp only [RepA] at h; obtain ⟨_, _, rfl⟩ := h; exact key rfl hc.symm
    | fn _ _ _ => simp only [cellsOf, Option.some.injEq] at hc; simp only [RepA] at h; obtain ⟨_, _, rfl, _⟩ := h; exact key rfl hc.symm
    | agg _ => simp [cellsOf] at hc
    | tup _ => simp [cellsOf] at hc
    | sl _ => simp only [cellsOf, Option.some.injEq] at hc; simp only [RepA] at h; obtain ⟨_, _, _, rfl, _⟩ := h; exact key rfl hc.symm
    | pt _ => simp only [cellsOf, Option.some.injEq] at hc; simp only [RepA] at h; obtain ⟨_, _, _, rfl, _⟩ := h; exact key rfl hc.symm
    | undef => simp [cellsOf] at hc
  | a n =>
    unfold cellsOf at hc
    split at hc <;> try contradiction
    · rename_i n' l hn
      simp only [Sh.a.injEq] at hn; subst hn
      split at hc
      · rename_i hl
        simp at hc; subst hc
        simp only [RepA, RepP] at h
        obtain ⟨vs, rfl, h2, h3⟩ := h
        have := h2.length
        exact ⟨⟨vs, rfl, by simpa [hl] using this⟩, RepAs_mapP.2 h2, h3⟩
      · simp at hc
    · rename_i n' l hn
      simp only [Sh.a.injEq] at hn; subst hn
      split at hc
      · rename_i hl
        simp at hc; subst hc
        simp only [RepA] at h
        obtain ⟨vs, rfl, h2, h3⟩ := h
        have := h2.length
        exact ⟨⟨vs, rfl, by simpa [hl] using this⟩, h2, h3⟩
      · simp at hc

omit [Base] in
theorem lay_new {G : Gh} {a : AV} {x : Value} (h : RepA G.M G.B a x) (h1 : x.oneCell' = true) : CellNew G (lay a) x := by
  refine ⟨h1, ?_⟩
  unfold lay
  split
  · rename_i sz
    simp only [RepA, RepP] at h
    exact .inr ⟨_, _, _, rfl, h⟩
  · exact .inl h

theorem op_box {X : Operand} {x : Opd} {T : TypeId} {sh : Sh} (hd : co.dst ≠ none) (ho : co.op = .box T X) (hx : opdOk F X x = true) : OpS P F co (.box x sh) call := by
  intro G s t w df a s' N _ hR hev next Q hk
  simp only [evOp] at hev
  split at hev
  · rename_i av hg
    split at hev
    · rename_i cs hc
      simp only [Option.some.injEq, Prod.mk.injEq] at hev
      obtain ⟨rfl, rfl⟩ := hev
      have h1 := give_sound hR (val_sound (df := df) hR hx).1 hg
      obtain ⟨h2, h3, h4⟩ := cellsOf_sound h1 hc
      have hl := h3.length
      obtain ⟨k1, k2⟩ := hR.newBox ((⟨t, df⟩ : Act).eval X).cells T (as := cs.map lay) (by simpa using hl) (fun k b hb => by
        simp only [List.getElem?_map, Option.map_eq_some_iff] at hb
        obtain ⟨c, e1, rfl⟩ := hb
        obtain ⟨y, e2, e3⟩ := h3.get e1
        exact ⟨y, by simpa using e2, lay_new e3 (h4 y (List.mem_of_getElem? e2))⟩)
      have hrun : (execOp (⟨t, df⟩ : Act).eval co).run P w = .ok (.value (.pointer (some ⟨w.heap.size, 0, none⟩))) (pushed w (.cells ((⟨t, df⟩ : Act).eval X).cells T)) := by
        simp only [execOp, ho, Instr.box, newVar, Sem.run_bind, run_newRow', Result.andThen_ok]
        rfl
      unfold Oper.wp
      rw [hrun]
      exact hk _ _ _ k1 (k2 _) (fun e => absurd e hd) (Ext.newO _ _)
    · simp at hev
  · simp at hev
end
end Go.Abs

namespace Go.Abs
open Go.RowKit
variable [Base]

theorem R.heap {F G s t w} (hR : R F G s t w) {w' : World} (h : w'.heap = w.heap) : R F G s t w' :=
  hR.grow rfl (fun _ _ _ h => h) (fun b _ => ⟨by rw [h], rfl, fun _ => rfl⟩) (fun b q v hb h1 => by rw [hR.m_none hb] at h1; simp at h1)
    (fun b q h1 => by rw [h]; exact hR.freshM b q h1) (fun b h1 => by rw [h]; exact hR.freshZ b h1)

/-- The block of a value that is in nobody's hands yet may be written. -/
theorem R.touch {F G s t w} (hR : R F G s t w) {κ : Key} (hn : isOwn (getK s κ) = false) {b : Nat} (hz : G.Z b = some (.k κ)) {G' : Gh} {w' : World} (hZ : G'.Z = G.Z) (hB : G'.B = G.B)
    (hm : ∀ b o v, G.M b o = some v → G'.M b o = some v) (hM : ∀ q, q ≠ b → ∀ off, G'.M q off = G.M q off) (hw : ∀ q, q ≠ b → w'.heap[q]? = w.heap[q]?) (hsz : w'.heap.size = w.heap.size)
    (hag : ∀ o v, G'.M b o = some v → w'.cell? ⟨b, o, none⟩ = some v) : R F G' s t w' := by
  have hz' : ∀ κ', κ' ≠ κ → ∀ q, G.Z q = some (.k κ') → G'.Z q = some (.k κ') ∧ w'.heap[q]? = w.heap[q]? ∧ ∀ off, G'.M q off = G.M q off := by
    intro κ' hne q h
    have : q ≠ b := fun e => by subst e; rw [hz] at h; simp at h; exact hne h.symm
    exact ⟨by rw [hZ]; exact h, hw q this, hM q this⟩
  have hBB : ∀ (l q : Nat), G.B[l]? = some q → G'.B[l]? = some q := fun l q h => by rw [hB]; exact h
  have hBw : ∀ (l q : Nat), G.B[l]? = some q → w'.heap[q]? = w.heap[q]? := by
    intro l q h
    have hl : l < s.heap.length := by rw [← hR.hB]; exact (List.getElem?_eq_some_iff.1 h).1
    obtain ⟨b', e1, e2, _⟩ := hR.objs l _ (List.getElem?_eq_getElem hl)
    rw [h] at e1; simp at e1; subst e1
    exact hw q (fun e => by subst e; rw [hz] at e2; simp at e2)
  have keepT : ∀ κ' a x, getK s κ' = a → RepT F G s t w κ' a x → RepT F G' s t w' κ' a x := by
    intro κ' a x hg h
    by_cases e : κ' = κ
    · subst e
      rw [hg] at hn
      cases a with
      | own _ _ _ => simp [isOwn] at hn
      | lent k =>
        simp only [RepT] at h ⊢
        exact ⟨(cvK_same hBB hBw (fun l i e => by subst e; rw [hR.hB]; exact own_there h.2)).trans h.1, h.2⟩
      | eref k i o =>
        simp only [RepT] at h ⊢
        obtain ⟨b', n, c, fz, sz, xs, e1, e2, e3, e4⟩ := h
        exact ⟨b', n, c, fz, sz, xs, (cvK_same hBB hBw (fun l i e => by subst e; rw [hR.hB]; exact own_there (by rw [e2]; rfl))).trans e1, e2, e3, e4⟩
      | _ => simp only [RepT] at h ⊢; exact RepA.mono hm hBB h
    · exact h.keep hm hBB (hz' κ' e) (fun k _ ho => ⟨rfl, cvK_same hBB hBw (fun l i e => by subst e; rw [hR.hB]; exact own_there ho)⟩)
  have hbase : ∀ q o, Base.H0 q = some o → w'.heap[q]? = some o ∧ G'.Z q = none := fun q o h => by
    obtain ⟨h1, h2⟩ := hR.base q o h
    exact ⟨(hw q (fun e => by subst e; rw [hz] at h2; simp at h2)).trans h1, by rw [hZ]; exact h2⟩
  refine ⟨?_, ?_, hbase, ?_, by rw [hB]; exact hR.hB, hR.inj, ?_, ?_, ?_⟩
  · intro q o v h
    by_cases e : q = b
    · subst e; exact hag o v h
    · rw [cell_same (hw q e)]; exact hR.agree q o v (by rw [← hM q e]; exact h)
  · intro q o h
    rw [hsz]
    by_cases e : q = b
    · subst e; exact hR.freshZ q (by rw [hz]; simp)
    · exact hR.freshM q o (by rw [← hM q e]; exact h)
  · intro q h
    rw [hsz]; exact hR.freshZ q (by rw [← hZ]; exact h)
  · intro i a h
    obtain ⟨n, x, e1, e2, e3⟩ := hR.vars i a h
    exact ⟨n, x, e1, e2, keepT _ _ _ (by simp [getK, List.getD_eq_getElem?_getD, h]) e3⟩
  · intro i a h
    rcases hR.tmps i a h with h0 | ⟨n, x, e1, e2, e3⟩
    · exact .inl h0
    · exact .inr ⟨n, x, e1, e2, keepT _ _ _ (by simp [getK, List.getD_eq_getElem?_getD, h]) e3⟩
  · intro l o h
    obtain ⟨q, e1, e2, e3, e4⟩ := hR.objs l o h
    have hqb : q ≠ b := fun e => by subst e; rw [hz] at e2; simp at e2
    refine ⟨q, hBB _ _ e1, by rw [hZ]; exact e2, fun off => by rw [hM q hqb]; exact e3 off, ?_⟩
    unfold ObjRep at e4 ⊢
    split
    · rename_i hk
      simp only [hk] at e4
      obtain ⟨arr, T, f1, f2, f3⟩ := e4
      refine ⟨arr, T, by rw [hw q hqb]; exact f1, f2, fun k a ha => ?_⟩
      obtain ⟨x, g1, g2, g3⟩ := f3 k a ha
      refine ⟨x, g1, g2, ?_⟩
      by_cases e : (Key.c l k) = κ
      · subst e
        have hg : getK s (.c l k) = a := by simp [getK, h, List.getD_eq_getElem?_getD, ha]
        rw [hg] at hn
        cases a with
        | own _ _ _ => simp [isOwn] at hn
        | _ => exact RepA.mono hm hBB g3
      · exact g3.keep hm hBB (hz' _ e)
    · rename_i hk; simp only [hk] at e4
      obtain ⟨st, pos, f1, f2, f3⟩ := e4
      exact ⟨st, pos, f1, f2, by rw [hw q hqb]; exact f3⟩
    · rename_i hk; simp only [hk] at e4
      obtain ⟨es, cs, cl, f1, f2, f3, f4⟩ := e4
      exact ⟨es, cs, cl, f1, by rw [hw q hqb]; exact f2, f3.mono hm, f4⟩

/-! ## The cells of a row -/
def flat (vs : List Value) : List Value := vs.flatMap fun v => v.cells.toList
omit [Base] in
theorem flat_cons (v : Value) (vs : List Value) : flat (v :: vs) = v.cells.toList ++ flat vs := rfl
omit [Base] in
theorem flat_append (a b : List Value) : flat (a ++ b) = flat a ++ flat b := by simp [flat]
omit [Base] in
theorem flat_length {sz : Nat} : ∀ (vs : List Value), (∀ v ∈ vs, v.cells.size = sz) → (flat vs).length = vs.length * sz
  | [], _ => by simp [flat]
  | v :: vs, h => by
    rw [flat_cons, List.length_append, flat_length vs (fun x hx => h x (by simp [hx]))]
    simp [h v (by simp), Nat.succ_mul, Nat.add_comm]
omit [Base] in
theorem flat_get {sz : Nat} : ∀ (vs : List Value), (∀ v ∈ vs, v.cells.size = sz) → ∀ (i : Nat) (y : Value), vs[i]? = some y → ∀ j, j < sz → (flat vs)[i * sz + j]? = y.cells[j]?
  | [], _, i, y, h, _, _ => by simp at h
  | v :: vs, hs, 0, y, h, j, hj => by
    simp at h; subst h
    rw [flat_cons, List.getElem?_append_left (by simp [hs v (by simp)]; omega)]
    simp
  | v :: vs, hs, i + 1, y, h, j, hj => by
    simp at h
    have hv := hs v (by simp)
    rw [flat_cons, List.getElem?_append_right (by simp [hv, Nat.succ_mul]; omega)]
    have := flat_get vs (fun x hx => hs x (by simp [hx])) i y h j hj
    rw [← this]
    congr 1
    simp only [Array.length_toList, hv, Nat.succ_mul]
    omega
omit [Base] in
theorem flat_at {sz : Nat} {vs : List Value} (hs : ∀ v ∈ vs, v.cells.size = sz) {k : Nat} (hk : k < vs.length * sz) : ∃ i y j, vs[i]? = some y ∧ j < sz ∧ k = i * sz + j := by
  have h0 : 0 < sz := by
    rcases Nat.eq_zero_or_pos sz with h | h
    · subst h; simp at hk
    · exact h
  have hi : k / sz < vs.length := (Nat.div_lt_iff_lt_mul h0).2 hk
  refine ⟨k / sz, vs[k / sz], k % sz, List.getElem?_eq_getElem hi, Nat.mod_lt _ h0, ?_⟩
  have := Nat.div_add_mod k sz
  rw [Nat.mul_comm]; exact this.symm
omit [Base] in
theorem RowVal.sizes {G w sz xs x} (h : RowVal G w sz xs x) : ∃ a c vs, x = .slice a xs.length c ∧ xs.length ≤ c ∧ RepL G.M xs vs ∧ (∀ v ∈ vs, v.cells.size = sz) ∧
    (vs = [] ∨ ∃ b o, a = some ⟨b, o, none⟩ ∧ ∀ k, k < vs.length * sz → w.cell? ⟨b, o + k, none⟩ = (flat vs)[k]?) := by
  obtain ⟨a, c, vs, h1, h2, h3, h4⟩ := h
  rcases h4 with rfl | ⟨b, o, rfl, h4⟩
  · exact ⟨a, c, [], h1, h2, h3, by simp, .inl rfl⟩
  · have hs : ∀ v ∈ vs, v.cells.size = sz := by
      intro v hv
      obtain ⟨i, hi⟩ := List.mem_iff_getElem?.1 hv
      exact (h4 i v hi).1
    refine ⟨_, c, vs, h1, h2, h3, hs, .inr ⟨b, o, rfl, fun k hk => ?_⟩⟩
    obtain ⟨i, y, j, e1, e2, rfl⟩ := flat_at hs hk
    rw [flat_get vs hs i y e1 j e2, ← Nat.add_assoc]
    exact (h4 i y e1).2 j e2

section
variable {P : Program}

omit [Base] in
theorem run_firstCells {w : World} {sz : Nat} {a : Option Addr} {n c : Nat} {vs : List Value} (hn : vs.length = n) (hs : ∀ v ∈ vs, v.cells.size = sz)
    (h : vs = [] ∨ ∃ b o, a = some ⟨b, o, none⟩ ∧ ∀ k, k < vs.length * sz → w.cell? ⟨b, o + k, none⟩ = (flat vs)[k]?) :
    (Builtin.firstCells sz n (.slice a n c)).run P w = .ok (flat vs).toArray w := by
  have hl := flat_length vs hs
  rcases h with rfl | ⟨b, o, rfl, h⟩
  · simp at hn; subst hn
    cases a with
    | none => simp [Builtin.firstCells, flat]
    | some a => simp [Builtin.firstCells, flat, loadCells, loadCellsFrom]
  · have := run_loadCells_list (P := P) w ⟨b, o, none⟩ (flat vs) (fun j v hj => by
      rw [addr_add, h j (by rw [← hl]; exact (List.getElem?_eq_some_iff.1 hj).1)]
      exact hj)
    rw [hl, hn] at this
    simpa [Builtin.firstCells] using this

omit [Base] in
theorem zeroCells_size (zero : Array Value) (n : Nat) : (Builtin.zeroCells zero n).size = n * zero.size := by simp [Builtin.zeroCells]

omit [Base] in
theorem growBy_le (newLen : Nat) : ∀ (r c : Nat), c < newLen → Builtin.growBy newLen r c ≤ newLen + newLen + 768
  | 0, c, h => by simp [Builtin.growBy]; omega
  | r + 1, c, h => by
    simp only [Builtin.growBy]
    split
    · omega
    · by_cases h2 : c + (c + 768) / 4 < newLen
      · exact growBy_le newLen r _ h2
      · cases r with
        | zero => simp [Builtin.growBy]; omega
        | succ r =>
          simp only [Builtin.growBy]
          rw [if_pos (by omega)]; omega
omit [Base] in
theorem nextslicecap_le (newLen oldCap : Nat) (h : oldCap < newLen) : Builtin.nextslicecap newLen oldCap ≤ 2 * newLen + 768 := by
  unfold Builtin.nextslicecap
  split
  · omega
  · split
    · omega
    · have := growBy_le newLen 4 oldCap h; omega
end
end Go.Abs
