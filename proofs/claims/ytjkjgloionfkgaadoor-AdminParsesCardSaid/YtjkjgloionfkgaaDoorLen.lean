/- No operation changes how many temporaries there are. A region whose order is fixed. What an operation does not look at does not count. -/
import Derived.Test.YtjkjgloionfkgaaDoorMatch

namespace Go.Abs
variable [Base]

omit [Base] in
theorem setCells_tmps (l : Nat) : ∀ (as : List AV) (s : St) (off : Nat), (setCells s l off as).tmps.length = s.tmps.length
  | [], _, _ => rfl
  | a :: r, s, off => by
    simp only [setCells]
    rw [setCells_tmps l r]
    unfold putK
    split <;> simp [setK_tmps, inval_tmps]
omit [Base] in
theorem take_tmps {s s' : St} {x : Opd} {a : AV} (h : take s x = some (a, s')) : s'.tmps.length = s.tmps.length := (take_heap h).2
omit [Base] in
theorem store_tmps {s s' : St} {sh : Sh} {a : AV} {x : Opd} (h : store s sh a x = some s') : s'.tmps.length = s.tmps.length := by
  unfold store at h
  repeat' split at h
  all_goals first
    | (simp at h; done)
    | (simp only [Option.some.injEq] at h; subst h; rw [setCells_tmps]; exact take_tmps (by assumption))
    | (simp only [Option.some.injEq] at h; subst h; rw [setK_tmps])
omit [Base] in
theorem callRefs_tmps {call : Calls} {s s' : St} {f : Nat} {args : List AV} {ls : List Nat} {a : AV} (h : callRefs call s f args ls = some (a, s')) : s'.tmps.length = s.tmps.length := by
  unfold callRefs at h
  repeat' split at h
  all_goals first
    | (simp at h; done)
    | (simp only [Option.some.injEq, Prod.mk.injEq] at h; obtain ⟨_, rfl⟩ := h; simp)
omit [Base] in
theorem doCall_tmps {call : Calls} {s s' : St} {q : Bool} {f : Nat} {args : List AV} {a : AV} (h : doCall call s q f args = some (a, s')) : s'.tmps.length = s.tmps.length := by
  unfold doCall at h
  repeat' split at h
  all_goals first
    | (simp at h; done)
    | (simp only [Option.some.injEq, Prod.mk.injEq] at h; obtain ⟨_, rfl⟩ := h; rfl)
    | exact callRefs_tmps h
omit [Base] in
theorem doAppend_tmps {s s' : St} {x y : Opd} {fz : Bool} {sz bytes : Nat} {a : AV} (h : doAppend s x y fz sz bytes = some (a, s')) : s'.tmps.length = s.tmps.length := by
  unfold doAppend at h
  repeat' split at h
  all_goals first
    | (simp at h; done)
    | (simp only [Option.some.injEq, Prod.mk.injEq] at h; obtain ⟨_, rfl⟩ := h; simp [setK_tmps, inval_tmps]; done)

omit [Base] in
theorem evOp_tmps {call : Calls} {o : AOp} {s s' : St} {a : AV} (h : evOp call o s = some (a, s')) : s'.tmps.length = s.tmps.length := by
  cases o <;> simp only [evOp] at h
  case asg x => exact take_tmps h
  case st x y sh => simp only [Option.map_eq_some_iff, Prod.mk.injEq] at h; obtain ⟨s1, h1, _, rfl⟩ := h; exact store_tmps h1
  case app => exact doAppend_tmps h
  case call => simp only [Option.bind_eq_some_iff] at h; obtain ⟨l, _, h⟩ := h; exact doCall_tmps h
  case callv => split at h <;> first | exact doCall_tmps h | simp at h
  case inv =>
    split at h
    · split at h
      · exact doCall_tmps h
      · simp at h
    · simp at h
  all_goals
    repeat' split at h
    all_goals first
      | (simp at h; done)
      | (simp only [Option.some.injEq, Prod.mk.injEq] at h; obtain ⟨_, rfl⟩ := h; rfl)
      | (simp only [Option.map_eq_some_iff, Prod.mk.injEq] at h; obtain ⟨_, _, _, rfl⟩ := h; rfl)

omit [Base] in
/-- An operation that changes no state. -/
theorem pure_same {call : Calls} {o : AOp} {s s' : St} {a : AV} (hp : isPure o = true) (h : evOp call o s = some (a, s')) : s' = s := by
  have hcall : ∀ q f l, q = true → doCall call s q f l = some (a, s') → s' = s := by
    intro q f l hq h
    subst hq
    unfold doCall at h
    repeat' split at h
    all_goals first
      | (simp at h; done)
      | (simp only [Option.some.injEq, Prod.mk.injEq] at h; obtain ⟨_, rfl⟩ := h; rfl)
      | (simp_all; done)
  cases o <;> simp only [isPure, Bool.false_eq_true] at hp <;> simp only [evOp] at h
  case call => simp only [Option.bind_eq_some_iff] at h; obtain ⟨l, _, h⟩ := h; exact hcall _ _ _ hp h
  case callv => split at h <;> first | exact hcall _ _ _ hp h | simp at h
  case inv =>
    split at h
    · split at h
      · exact hcall _ _ _ hp h
      · simp at h
    · simp at h
  all_goals
    repeat' split at h
    all_goals first
      | (simp at h; done)
      | (simp only [Option.some.injEq, Prod.mk.injEq] at h; obtain ⟨_, rfl⟩ := h; rfl)
      | (simp only [Option.map_eq_some_iff, Prod.mk.injEq] at h; obtain ⟨_, _, _, rfl⟩ := h; rfl)
end Go.Abs

namespace Go.Abs
open Go.RowKit
variable [Base]

def guardOk (F : Fr) (cops : Array Oper) : Option (Opd × Bool) → Option (Nat × Bool) → Bool
  | none, none => true
  | some (x, b), some (j, want) => b == want && (match (cops[j]?).bind (·.dst) with
    | some n => (match x with | .v _ | .t _ => true | _ => false) && opdOk F (.tmp n) x
    | none => false)
  | _, _ => false
def laidOk (F : Fr) (nt j : Nat) (o : GOp) (cd : Option Tmp) : Bool :=
  match cd with
  | none => o.nd
  | some n => !o.nd && decide (n < nt) && dstOk F j o.d cd
def gopOk (P : Program) (mt : Meths) (F : Fr) (nt : Nat) (cops : Array Oper) (j : Nat) (o : GOp) (co : Oper) : Bool :=
  matchOp P mt F co o.op && guardOk F cops o.g co.guard && laidOk F nt j o co.dst

theorem guard_sound {F G s t w} {cops : Array Oper} (hR : R F G s t w) {g : Option (Opd × Bool)} {co : Oper} (h : guardOk F cops g co.guard = true) {b : Bool} (hw : wantedG s g = some b) :
    Region.wanted co (yielded cops t) = b := by
  unfold guardOk at h
  split at h
  · rename_i hg
    simp only [wantedG, Option.some.injEq] at hw; subst hw
    unfold Region.wanted
    rw [hg]
  · rename_i x b' j want hg
    simp only [Bool.and_eq_true, beq_iff_eq] at h
    obtain ⟨rfl, h⟩ := h
    split at h
    · rename_i n hn
      simp only [Bool.and_eq_true] at h
      obtain ⟨hx, ho⟩ := h
      have hv := (val_sound (df := []) hR ho).1
      have heval : (⟨t, []⟩ : Act).eval (.tmp n) = t.getD n undef := rfl
      simp only [wantedG] at hw
      unfold Region.wanted
      rw [hg]
      simp only [yielded, hn, Option.bind_some]
      split at hw
      · rename_i tt hval
        simp only [Option.some.injEq] at hw; subst hw
        rw [hval] at hv
        simp only [RepT, RepA, RepP, heval] at hv
        have : t[n]? = some (.bool tt) := by
          rw [Array.getD_eq_getD_getElem?] at hv
          cases ht : t[n]? with
          | none => rw [ht] at hv; simp [undef] at hv
          | some y => rw [ht] at hv; simp at hv; rw [hv]
        rw [this]
        cases tt <;> cases b' <;> rfl
      · rename_i l hval
        simp only [Option.some.injEq] at hw; subst hw
        rw [hval] at hv
        simp only [RepT, RepA, heval] at hv
        obtain ⟨vs, hv, _⟩ := hv
        have : ∀ y, t[n]? = some (.bool y) → False := by
          intro y hy
          rw [Array.getD_eq_getD_getElem?, hy] at hv
          simp at hv
        cases ht : t[n]? with
        | none => rfl
        | some y =>
          cases y <;> first | rfl | (exfalso; exact this _ ht)
      · simp at hw
    · simp at h
  · simp at h

omit [Base] in
theorem put_size (a : Act) (d : Option Tmp) (v : Value) : (a.put d v).tmps.size = a.tmps.size := by
  cases d <;> simp [Act.put]
omit [Base] in
theorem put_defers (t : Array Value) (df : List Deferred) (d : Option Tmp) (v : Value) : (⟨t, df⟩ : Act).put d v = ⟨((⟨t, df⟩ : Act).put d v).tmps, df⟩ := by
  cases d <;> rfl

/-- The value of an operation is laid where it belongs. -/
theorem lay1_sound {F G s t w df} (hR : R F G s t w) {nt j N : Nat} {o : GOp} {cd : Option Tmp} (h : laidOk F nt j o cd = true) (ht : t.size = nt) (hN : s.tmps.length ≤ N) {a : AV} {v : Value} (ha : RepT F G s t w (.t N) a v) :
    ∃ G', R F G' (lay1 o j s a) (((⟨t, df⟩ : Act).put cd v)).tmps w ∧ Ext G w G' w := by
  unfold laidOk at h
  unfold lay1
  cases cd with
  | none =>
    simp only at h
    rw [if_pos h]
    exact ⟨G, hR, Ext.refl _ _⟩
  | some n =>
    simp only [Bool.and_eq_true, Bool.not_eq_true', decide_eq_true_eq] at h
    obtain ⟨⟨h1, h2⟩, h3⟩ := h
    rw [if_neg (by simp [h1])]
    have hp := pend hN
    have hR' := hR.moveZ hp (dstKey j o.d)
    refine ⟨_, ?_, Ext.moveZ G w (.t N) (dstKey j o.d)⟩
    have ha' : RepT F ⟨G.M, fun b => if G.Z b = some (.k (.t N)) then some (.k (dstKey j o.d)) else G.Z b, G.B⟩ s t w (dstKey j o.d) a v := by
      cases a with
      | own fz sz xs => simp only [RepT] at ha ⊢; exact ha.move _
      | lent k => exact ha
      | eref k i off => exact ha
      | _ => exact ha
    obtain ⟨f1, f2⟩ := fitDst_sound hR' ha'
    unfold putRes
    cases hd : o.d with
    | some i =>
      rw [hd] at h3 f1 f2 hR'
      simp only [dstOk, beq_iff_eq] at h3
      exact hR'.putSlot (κ := .v i) (by simpa [slotK] using h3) (by rw [ht]; exact h2) f1 f2
    | none =>
      rw [hd] at h3 f1 f2 hR'
      simp only [dstOk, beq_iff_eq] at h3
      exact hR'.putSlot (κ := .t j) (by simp [slotK, h3]) (by rw [ht]; exact h2) f1 f2

omit [Base] in
theorem lay1_tmps (o : GOp) (j : Nat) (s : St) (a : AV) : (lay1 o j s a).tmps.length = s.tmps.length := by
  unfold lay1
  split
  · rfl
  · unfold putRes putK
    split <;> simp [setK_tmps, inval_tmps]

def gopsOk (P : Program) (mt : Meths) (F : Fr) (nt : Nat) (cops : Array Oper) : List GOp → List Oper → Nat → Bool
  | [], [], _ => true
  | o :: r, co :: cr, j => gopOk P mt F nt cops j o co && gopsOk P mt F nt cops r cr (j + 1)
  | _, _, _ => false

theorem evOps_sound {P : Program} {mt : Meths} {F : Fr} {call : Calls} (hC : CallSound P call) (hmt : MethsOk P mt) {nt : Nat} {cops : Array Oper} {Q : Exit → Act → World → Prop} {df : List Deferred} :
    ∀ (ops : List GOp) (cr : List Oper) (j : Nat) (s s' : St) (G : Gh) (t : Array Value) (w : World), cops.toList.drop j = cr → gopsOk P mt F nt cops ops cr j = true → evOps call ops j s = some s' → R F G s t w → t.size = nt →
      (∀ G' t' w', R F G' s' t' w' → t'.size = nt → Ext G w G' w' → Q .normal ⟨t', df⟩ w') →
      wpOps P cops Q (List.range' j ops.length) ⟨t, df⟩ w
  | [], [], j, s, s', G, t, w, _, _, hev, hR, ht, hk => by
    simp only [evOps, Option.some.injEq] at hev; subst hev
    exact hk G t w hR ht (Ext.refl _ _)
  | o :: r, co :: cr, j, s, s', G, t, w, hdrop, hok, hev, hR, ht, hk => by
    simp only [gopsOk, gopOk, Bool.and_eq_true] at hok
    obtain ⟨⟨⟨hm, hg⟩, hl⟩, hrest⟩ := hok
    have hco : cops[j]? = some co := by
      have : (cops.toList.drop j)[0]? = some co := by rw [hdrop]; rfl
      simpa using this
    have hdrop' : cops.toList.drop (j + 1) = cr := by
      have : (cops.toList.drop j).drop 1 = cr := by rw [hdrop]; rfl
      simpa [Nat.add_comm] using this
    simp only [List.length_cons, List.range'_succ, wpOps, hco]
    simp only [evOps] at hev
    split at hev
    · rename_i hw
      have hwant := guard_sound hR hg hw
      rw [if_pos hwant]
      split at hev
      · rename_i a s1 hop
        left
        refine matchOp_sound hC hmt hm G s t w df a s1 s.tmps.length (Nat.le_refl _) hR hop _ _ fun G1 w1 v h1 h2 h3 => ?_
        have hlen := evOp_tmps hop
        obtain ⟨G2, k1, k2⟩ := lay1_sound (df := df) h1 hl ht (by rw [hlen]; exact Nat.le_refl _) h2
        rw [put_defers]
        exact evOps_sound hC hmt r cr (j + 1) _ s' G2 _ w1 hdrop' hrest hev k1 (by rw [put_size]; exact ht) fun G' t' w' q1 q2 q3 => hk G' t' w' q1 q2 ((h3.trans k2).trans q3)
      · simp at hev
    · rename_i hw
      have hwant := guard_sound hR hg hw
      rw [hwant]
      simp only [Bool.false_eq_true, if_false]
      have hu : RepT F G s t w (.t s.tmps.length) (.tup []) undef := by simp only [RepT, RepA, undef]; exact ⟨#[], rfl, by simp [RepAs]⟩
      obtain ⟨G2, k1, k2⟩ := lay1_sound (df := df) hR hl ht (Nat.le_refl _) hu
      rw [put_defers]
      exact evOps_sound hC hmt r cr (j + 1) _ s' G2 _ w hdrop' hrest hev k1 (by rw [put_size]; exact ht) fun G' t' w' q1 q2 q3 => hk G' t' w' q1 q2 (k2.trans q3)
    · simp at hev
  | [], _ :: _, _, _, _, _, _, _, _, hok, _, _, _, _ => by simp [gopsOk] at hok
  | _ :: _, [], _, _, _, _, _, _, _, hok, _, _, _, _ => by simp [gopsOk] at hok
end Go.Abs

namespace Go.Abs
variable [Base]

structure Le (D : List Nat) (s s' : St) : Prop where
  vars : s'.vars = s.vars
  heap : s'.heap = s.heap
  len : s'.tmps.length = s.tmps.length
  inn : ∀ j, j ∈ D → s'.tmps[j]? = s.tmps[j]?
  out : ∀ j, j ∉ D → s.tmps.getD j .undef = .undef
def Out (D : List Nat) (s s' : St) : Prop := s'.tmps.length = s.tmps.length ∧ ∀ j, j ∉ D → noLoanA (s.tmps.getD j .undef) = true → s'.tmps[j]? = s.tmps[j]?
omit [Base] in
theorem Out.refl (D : List Nat) (s : St) : Out D s s := ⟨rfl, fun _ _ _ => rfl⟩
omit [Base] in
theorem Out.trans {D : List Nat} {s s1 s2 : St} (h : Out D s s1) (k : Out D s1 s2) : Out D s s2 := by
  refine ⟨k.1.trans h.1, fun j hj hn => ?_⟩
  have h1 := h.2 j hj hn
  rw [k.2 j hj (by rw [List.getD_eq_getElem?_getD, h1, ← List.getD_eq_getElem?_getD]; exact hn), h1]

def okX (D : List Nat) : Opd → Bool
  | .t j => D.contains j
  | _ => true
section
variable {D : List Nat} {s s' : St} (h : Le D s s')
include h

omit [Base] in
theorem val_le {x : Opd} (hx : okX D x = true) : val s' x = val s x := by
  cases x with
  | v i => simp only [val, h.vars]
  | t j =>
    simp only [okX, List.contains_iff_mem] at hx
    simp only [val, List.getD_eq_getElem?_getD, h.inn j hx]
  | _ => rfl
omit [Base] in
theorem copy_le {x : Opd} (hx : okX D x = true) : copy s' x = copy s x := by
  have := val_le h hx
  cases x <;> simp only [copy, this]
omit [Base] in
theorem getK_le {k : Key} (hk : isOwn (getK s k) = true) : getK s' k = getK s k := by
  cases k with
  | v i => simp only [getK, h.vars]
  | c l i => simp only [getK, h.heap]
  | t j =>
    by_cases hj : j ∈ D
    · simp only [getK, List.getD_eq_getElem?_getD, h.inn j hj]
    · simp only [getK, h.out j hj, isOwn, Bool.false_eq_true] at hk
omit [Base] in
theorem give_le {a b : AV} (hg : give s a = some b) : give s' a = some b := by
  cases a with
  | lent k =>
    simp only [give] at hg ⊢
    split at hg
    · rename_i fz sz xs hk
      rw [getK_le h (by rw [hk]; rfl), hk]; exact hg
    · simp at hg
  | _ => exact hg
omit [Base] in
theorem giveP_le {a : AV} {p : PV} (hg : giveP s a = some p) : giveP s' a = some p := by
  unfold giveP at hg ⊢
  split at hg
  · rename_i v hv
    rw [give_le h hv]; exact hg
  · simp at hg
omit [Base] in
theorem rowOf_le {a : AV} {r} (hg : rowOf s a = some r) : rowOf s' a = some r := by
  cases a with
  | lent k =>
    simp only [rowOf] at hg ⊢
    split at hg
    · rename_i fz sz xs hk
      rw [getK_le h (by rw [hk]; rfl), hk]; exact hg
    · simp at hg
  | p v => cases v <;> exact hg
  | _ => exact hg
omit [Base] in
theorem giveAll_le : ∀ {as : List Opd} {l : List AV}, as.all (okX D) = true → giveAll s as = some l → giveAll s' as = some l
  | [], l, _, hg => hg
  | x :: r, l, hx, hg => by
    simp only [List.all_cons, Bool.and_eq_true] at hx
    simp only [giveAll] at hg ⊢
    split at hg
    · rename_i a q h1 h2
      rw [val_le h hx.1, give_le h h1, giveAll_le hx.2 h2]; exact hg
    · simp at hg
omit [Base] in
theorem giveCells_le : ∀ {as l : List AV}, giveCells s as = some l → giveCells s' as = some l
  | [], l, hg => hg
  | x :: r, l, hg => by
    simp only [giveCells] at hg ⊢
    split at hg
    · rename_i a q h1 h2
      rw [give_le h h1, giveCells_le h2]; exact hg
    · simp at hg
omit [Base] in
theorem load_le {sh : Sh} {a b : AV} (hg : load s sh a = some b) : load s' sh a = some b := by
  cases a with
  | eref k i off =>
    simp only [load] at hg ⊢
    split at hg
    · rename_i fz sz xs hk
      rw [getK_le h (by rw [hk]; rfl), hk]; exact hg
    · simp at hg
  | ref l off =>
    simp only [load, h.heap] at hg ⊢
    split at hg
    · rename_i cs hl
      cases sh with
      | s => exact hg
      | a n =>
        simp only at hg ⊢
        split at hg
        · rename_i hle
          rw [if_pos hle]
          split at hg
          · rename_i r hr
            rw [giveCells_le h hr]; exact hg
          · simp at hg
        · simp at hg
    · simp at hg
  | p v => cases v <;> exact hg
  | _ => exact hg
def partX (D : List Nat) : Part → Bool
  | .z _ => true
  | .o x _ => okX D x
omit [Base] in
theorem partsP_le : ∀ {ps : List Part} {l : List AV}, ps.all (partX D) = true → partsP s ps = some l → partsP s' ps = some l
  | [], l, _, hg => hg
  | .z v :: r, l, hx, hg => by
    simp only [List.all_cons, Bool.and_eq_true] at hx
    simp only [partsP] at hg ⊢
    split at hg
    · rename_i q h2
      rw [partsP_le hx.2 h2]; exact hg
    · simp at hg
  | .o x sh :: r, l, hx, hg => by
    simp only [List.all_cons, Bool.and_eq_true, partX] at hx
    simp only [partsP] at hg ⊢
    split at hg
    · rename_i c q h1 h2
      simp only [Option.bind_eq_some_iff] at h1
      obtain ⟨b, h1, h3⟩ := h1
      rw [val_le h hx.1, give_le h h1, partsP_le hx.2 h2]
      simp only [Option.bind_some, h3]; exact hg
    · simp at hg
omit [Base] in
theorem rowParts_le : ∀ {ps : List (Opd × Sh)} {l : List AV}, ps.all (fun p => okX D p.1) = true → rowParts s ps = some l → rowParts s' ps = some l
  | [], l, _, hg => hg
  | (x, sh) :: r, l, hx, hg => by
    simp only [List.all_cons, Bool.and_eq_true] at hx
    simp only [rowParts] at hg ⊢
    split at hg
    · rename_i c q h1 h2
      rw [val_le h hx.1, give_le h h1, rowParts_le hx.2 h2]; exact hg
    · simp at hg
omit [Base] in
theorem foldI_le {f : Int → Int → Int} : ∀ {ps : List Opd} {r}, ps.all (okX D) = true → foldI f s ps = some r → foldI f s' ps = some r
  | [], _, _, hg => hg
  | [x], _, hx, hg => by
    simp only [List.all_cons, Bool.and_eq_true] at hx
    simp only [foldI] at hg ⊢
    split at hg
    · rename_i k n h1
      rw [val_le h hx.1, giveP_le h h1]; exact hg
    · simp at hg
  | x :: y :: r, _, hx, hg => by
    have hx1 : okX D x = true := by simp only [List.all_cons, Bool.and_eq_true] at hx; exact hx.1
    have hx2 : (y :: r).all (okX D) = true := by simp only [List.all_cons, Bool.and_eq_true] at hx ⊢; exact hx.2
    simp only [foldI] at hg ⊢
    split at hg
    · rename_i k n j m h1 h2
      rw [val_le h hx1, giveP_le h h1, foldI_le hx2 h2]; exact hg
    · simp at hg
omit [Base] in
theorem optInt_le {d : Int} {x : Option Opd} {n : Int} (hx : x.all (okX D) = true) (hg : optInt s d x = some n) : optInt s' d x = some n := by
  cases x with
  | none => exact hg
  | some x =>
    simp only [Option.all_some] at hx
    simp only [optInt] at hg ⊢
    split at hg
    · rename_i k m h1
      rw [val_le h hx, giveP_le h h1]; exact hg
    · simp at hg

/-! ## New states -/
omit [Base] in
theorem inval_le (k : Key) : Le D (inval s k) (inval s' k) ∧ Out D s' (inval s' k) := by
  refine ⟨⟨by simp only [inval, h.vars], h.heap, by simp [inval, h.len], fun j hj => by simp only [inval, List.getElem?_map, h.inn j hj], fun j hj => ?_⟩, by simp [inval], fun j hj hn => ?_⟩
  · have := h.out j hj
    simp only [inval, List.getD_eq_getElem?_getD, List.getElem?_map] at this ⊢
    cases hs : s.tmps[j]? with
    | none => rfl
    | some a => simp [hs] at this ⊢; rw [this]; rfl
  · simp only [inval, List.getElem?_map]
    cases hs : s'.tmps[j]? with
    | none => rfl
    | some a =>
      simp only [List.getD_eq_getElem?_getD, hs, Option.getD_some] at hn
      cases a <;> first | rfl | simp [noLoanA] at hn
omit [Base] in
theorem setK_le {k : Key} (hk : ∀ j, k = .t j → j ∈ D) (a : AV) : Le D (setK s k a) (setK s' k a) ∧ Out D s' (setK s' k a) := by
  cases k with
  | v i => exact ⟨⟨by simp only [setK, h.vars], h.heap, h.len, h.inn, h.out⟩, rfl, fun _ _ _ => rfl⟩
  | c l i => exact ⟨⟨h.vars, by simp only [setK, h.heap], h.len, h.inn, h.out⟩, rfl, fun _ _ _ => rfl⟩
  | t i =>
    have hi := hk i rfl
    refine ⟨⟨h.vars, h.heap, by simp [setK, h.len], fun j hj => ?_, fun j hj => ?_⟩, by simp [setK], fun j hj _ => ?_⟩
    · simp only [setK, List.getElem?_set, h.len, h.inn j hj]
    · have : i ≠ j := fun e => hj (e ▸ hi)
      simp only [setK]
      rw [getD_set_ne _ _ _ _ _ this]; exact h.out j hj
    · have : i ≠ j := fun e => hj (e ▸ hi)
      simp only [setK, List.getElem?_set]
      rw [if_neg this]
omit [Base] in
theorem own_in {k : Key} (hk : isOwn (getK s k) = true) : ∀ j, k = .t j → j ∈ D := by
  rintro j rfl
  by_cases hj : j ∈ D
  · exact hj
  · simp only [getK, h.out j hj, isOwn, Bool.false_eq_true] at hk
omit [Base] in
theorem moved_le {k : Key} (hk : isOwn (getK s k) = true) (a : AV) : Le D (setK (inval s k) k a) (setK (inval s' k) k a) ∧ Out D s' (setK (inval s' k) k a) := by
  obtain ⟨h1, h2⟩ := inval_le h k
  obtain ⟨h3, h4⟩ := setK_le h1 (own_in h hk) a
  exact ⟨h3, h2.trans h4⟩
omit [Base] in
theorem take_le {x : Opd} (hx : okX D x = true) {a : AV} {s1 : St} (ht : take s x = some (a, s1)) : ∃ s1', take s' x = some (a, s1') ∧ Le D s1 s1' ∧ Out D s' s1' := by
  unfold take at ht ⊢
  rw [val_le h hx]
  split at ht
  · rename_i j fz sz xs hv
    simp only [Option.some.injEq, Prod.mk.injEq] at ht
    obtain ⟨rfl, rfl⟩ := ht
    have := moved_le h (k := .t j) (by have : getK s (.t j) = val s (.t j) := rfl; rw [this, hv]; rfl) (if fz then .p (.slice sz xs) else .undef)
    exact ⟨_, rfl, this.1, this.2⟩
  · rename_i sz hv
    simp only [Option.some.injEq, Prod.mk.injEq] at ht
    obtain ⟨rfl, rfl⟩ := ht
    exact ⟨_, rfl, h, Out.refl _ _⟩
  · rename_i k i o hv
    simp only [Option.some.injEq, Prod.mk.injEq] at ht
    obtain ⟨rfl, rfl⟩ := ht
    exact ⟨_, rfl, h, Out.refl _ _⟩
  · rename_i hv
    simp only [Option.some.injEq, Prod.mk.injEq] at ht
    obtain ⟨rfl, rfl⟩ := ht
    exact ⟨_, rfl, h, Out.refl _ _⟩
  · rename_i n1 n2 n3 n4
    simp only [Option.map_eq_some_iff, Prod.mk.injEq] at ht
    obtain ⟨b, h1, rfl, rfl⟩ := ht
    have h2 := give_le h h1
    exact ⟨s', by rw [h2]; rfl, h, Out.refl _ _⟩
end
omit [Base] in
theorem putCell_le {D : List Nat} {s s' : St} (h : Le D s s') (l i : Nat) (a : AV) : Le D (putK s (.c l i) a) (putK s' (.c l i) a) ∧ Out D s' (putK s' (.c l i) a) := by
  have hg : getK s' (.c l i) = getK s (.c l i) := by simp only [getK, h.heap]
  unfold putK
  rw [hg]
  split
  · obtain ⟨h1, h2⟩ := inval_le h (.c l i)
    obtain ⟨h3, h4⟩ := setK_le h1 (k := .c l i) (by simp) a
    exact ⟨h3, h2.trans h4⟩
  · exact setK_le h (by simp) a
omit [Base] in
theorem setCells_le {D : List Nat} : ∀ {as : List AV} {s s' : St}, Le D s s' → ∀ (l off : Nat), Le D (setCells s l off as) (setCells s' l off as) ∧ Out D s' (setCells s' l off as)
  | [], s, s', h, _, _ => ⟨h, Out.refl _ _⟩
  | a :: r, s, s', h, l, off => by
    obtain ⟨h1, h2⟩ := putCell_le h l off (lay a)
    obtain ⟨h3, h4⟩ := setCells_le (as := r) h1 l (off + 1)
    exact ⟨h3, h2.trans h4⟩
end Go.Abs
