/- Regions whose order is open: the pieces. Regions whose order is open: one operation. Regions whose order is open: every order gives the same. Regions whose order is open: the whole region. -/
import Derived.Test.YtjkjgloionfkgaaDoorFramea
import Derived.Orders

namespace Go.Abs
open Go.RowKit
variable [Base]

omit [Base] in
theorem maskL_get (D : List Nat) : ∀ (l : List AV) (i j : Nat), (maskL D l i)[j]? = (l[j]?).map fun a => if D.contains (i + j) then a else .undef
  | [], _, _ => by simp [maskL]
  | a :: r, i, 0 => by simp [maskL]
  | a :: r, i, j + 1 => by
    simp only [maskL, List.getElem?_cons_succ]
    rw [maskL_get D r (i + 1) j, show i + 1 + j = i + (j + 1) by omega]
omit [Base] in
theorem maskL_length (D : List Nat) : ∀ (l : List AV) (i : Nat), (maskL D l i).length = l.length
  | [], _ => rfl
  | a :: r, i => by simp [maskL, maskL_length D r]
omit [Base] in
theorem mask_get (D : List Nat) (s : St) (j : Nat) : (mask D s).tmps[j]? = (s.tmps[j]?).map fun a => if D.contains j then a else .undef := by
  have := maskL_get D s.tmps 0 j
  simpa [mask] using this
omit [Base] in
theorem mergeL_get (D : List Nat) : ∀ (l q : List AV) (i : Nat), l.length = q.length → ∀ j, (mergeL D l q i)[j]? = if D.contains (i + j) then l[j]? else q[j]?
  | [], [], _, _, j => by simp [mergeL]
  | a :: r, b :: q, i, h, 0 => by simp only [mergeL, List.getElem?_cons_zero, Nat.add_zero]; split <;> rfl
  | a :: r, b :: q, i, h, j + 1 => by
    simp only [mergeL, List.getElem?_cons_succ]
    rw [mergeL_get D r q (i + 1) (by simpa using h) j, show i + 1 + j = i + (j + 1) by omega]
  | [], _ :: _, _, h, _ => by simp at h
  | _ :: _, [], _, h, _ => by simp at h
omit [Base] in
theorem freeL_get {D : List Nat} : ∀ {l : List AV} {i : Nat}, freeL D l i = true → ∀ j a, l[j]? = some a → (i + j) ∉ D → noLoanA a = true
  | [], _, _, j, a, h, _ => by simp at h
  | b :: r, i, h, 0, a, ha, hn => by
    simp only [freeL, Bool.and_eq_true, Bool.or_eq_true] at h
    simp at ha; subst ha
    rcases h.1 with h1 | h1
    · exact absurd (by simpa using h1) hn
    · exact h1
  | b :: r, i, h, j + 1, a, ha, hn => by
    simp only [freeL, Bool.and_eq_true] at h
    exact freeL_get h.2 j a (by simpa using ha) (by rw [show i + 1 + j = i + (j + 1) by omega]; exact hn)

omit [Base] in
omit [Base] in
mutual
theorem eqPV_spec : ∀ {a b : PV}, eqPV a b = true → a = b
  | .bool _, .bool _, h => by simp [eqPV] at h; rw [h]
  | .int .., .int .., h => by simp [eqPV] at h; rw [h.1, h.2]
  | .str _, .str _, h => by simp [eqPV] at h; rw [h]
  | .nilPtr, .nilPtr, _ | .nilIface, .nilIface, _ | .nilFunc, .nilFunc, _ | .nilMap, .nilMap, _ => rfl
  | .iface .., .iface .., h => by simp only [eqPV, Bool.and_eq_true, decide_eq_true_eq] at h; rw [h.1, eqPV_spec h.2]
  | .agg _, .agg _, h => by simp only [eqPV] at h; rw [eqPVs_spec h]
  | .slice .., .slice .., h => by simp only [eqPV, Bool.and_eq_true, decide_eq_true_eq] at h; rw [h.1, eqPVs_spec h.2]
  | .nilS _, .nilS _, h => by simp [eqPV] at h; rw [h]
  | .ptr _, .ptr _, h => by simp only [eqPV] at h; rw [eqPV_spec h]
  | .fn _, .fn _, h => by simp [eqPV] at h; rw [h]
  | .bool _, .int .., h | .bool _, .str _, h | .bool _, .nilPtr, h | .bool _, .nilIface, h | .bool _, .nilFunc, h | .bool _, .nilMap, h | .bool _, .iface .., h | .bool _, .agg _, h | .bool _, .slice .., h | .bool _, .nilS _, h | .bool _, .ptr _, h | .bool _, .fn _, h => by simp [eqPV] at h
  | .int .., .bool _, h | .int .., .str _, h | .int .., .nilPtr, h | .int .., .nilIface, h | .int .., .nilFunc, h | .int .., .nilMap, h | .int .., .iface .., h | .int .., .agg _, h | .int .., .slice .., h | .int .., .nilS _, h | .int .., .ptr _, h | .int .., .fn _, h => by simp [eqPV] at h
  | .str _, .bool _, h | .str _, .int .., h | .str _, .nilPtr, h | .str _, .nilIface, h | .str _, .nilFunc, h | .str _, .nilMap, h | .str _, .iface .., h | .str _, .agg _, h | .str _, .slice .., h | .str _, .nilS _, h | .str _, .ptr _, h | .str _, .fn _, h => by simp [eqPV] at h
  | .nilPtr, .bool _, h | .nilPtr, .int .., h | .nilPtr, .str _, h | .nilPtr, .nilIface, h | .nilPtr, .nilFunc, h | .nilPtr, .nilMap, h | .nilPtr, .iface .., h | .nilPtr, .agg _, h | .nilPtr, .slice .., h | .nilPtr, .nilS _, h | .nilPtr, .ptr _, h | .nilPtr, .fn _, h => by simp [eqPV] at h
  | .nilIface, .bool _, h | .nilIface, .int .., h | .nilIface, .str _, h | .nilIface, .nilPtr, h | .nilIface, .nilFunc, h | .nilIface, .nilMap, h | .nilIface, .iface .., h | .nilIface, .agg _, h | .nilIface, .slice .., h | .nilIface, .nilS _, h | .nilIface, .ptr _, h | .nilIface, .fn _, h => by simp [eqPV] at h
  | .nilFunc, .bool _, h | .nilFunc, .int .., h | .nilFunc, .str _, h | .nilFunc, .nilPtr, h | .nilFunc, .nilIface, h | .nilFunc, .nilMap, h | .nilFunc, .iface .., h | .nilFunc, .agg _, h | .nilFunc, .slice .., h | .nilFunc, .nilS _, h | .nilFunc, .ptr _, h | .nilFunc, .fn _, h => by simp [eqPV] at h
  | .nilMap, .bool _, h | .nilMap, .int .., h | .nilMap, .str _, h | .nilMap, .nilPtr, h | .nilMap, .nilIface, h | .nilMap, .nilFunc, h | .nilMap, .iface .., h | .nilMap, .agg _, h | .nilMap, .slice .., h | .nilMap, .nilS _, h | .nilMap, .ptr _, h | .nilMap, .fn _, h => by simp [eqPV] at h
  | .iface .., .bool _, h | .iface .., .int .., h | .iface .., .str _, h | .iface .., .nilPtr, h | .iface .., .nilIface, h | .iface .., .nilFunc, h | .iface .., .nilMap, h | .iface .., .agg _, h | .iface .., .slice .., h | .iface .., .nilS _, h | .iface .., .ptr _, h | .iface .., .fn _, h => by simp [eqPV] at h
  | .agg _, .bool _, h | .agg _, .int .., h | .agg _, .str _, h | .agg _, .nilPtr, h | .agg _, .nilIface, h | .agg _, .nilFunc, h | .agg _, .nilMap, h | .agg _, .iface .., h | .agg _, .slice .., h | .agg _, .nilS _, h | .agg _, .ptr _, h | .agg _, .fn _, h => by simp [eqPV] at h
  | .slice .., .bool _, h | .slice .., .int .., h | .slice .., .str _, h | .slice .., .nilPtr, h | .slice .., .nilIface, h | .slice .., .nilFunc, h | .slice .., .nilMap, h | .slice .., .iface .., h | .slice .., .agg _, h | .slice .., .nilS _, h | .slice .., .ptr _, h | .slice .., .fn _, h => by simp [eqPV] at h
  | .nilS _, .bool _, h | .nilS _, .int .., h | .nilS _, .str _, h | .nilS _, .nilPtr, h | .nilS _, .nilIface, h | .nilS _, .nilFunc, h | .nilS _, .nilMap, h | .nilS _, .iface .., h | .nilS _, .agg _, h | .nilS _, .slice .., h | .nilS _, .ptr _, h | .nilS _, .fn _, h => by simp [eqPV] at h
  | .ptr _, .bool _, h | .ptr _, .int .., h | .ptr _, .str _, h | .ptr _, .nilPtr, h | .ptr _, .nilIface, h | .ptr _, .nilFunc, h | .ptr _, .nilMap, h | .ptr _, .iface .., h | .ptr _, .agg _, h | .ptr _, .slice .., h | .ptr _, .nilS _, h | .ptr _, .fn _, h => by simp [eqPV] at h
  | .fn _, .bool _, h | .fn _, .int .., h | .fn _, .str _, h | .fn _, .nilPtr, h | .fn _, .nilIface, h | .fn _, .nilFunc, h | .fn _, .nilMap, h | .fn _, .iface .., h | .fn _, .agg _, h | .fn _, .slice .., h | .fn _, .nilS _, h | .fn _, .ptr _, h => by simp [eqPV] at h
theorem eqPVs_spec : ∀ {a b : List PV}, eqPVs a b = true → a = b
  | [], [], _ => rfl
  | a :: r, b :: q, h => by simp only [eqPVs, Bool.and_eq_true] at h; rw [eqPV_spec h.1, eqPVs_spec h.2]
  | [], _ :: _, h => by simp [eqPVs] at h
  | _ :: _, [], h => by simp [eqPVs] at h
end
omit [Base] in
mutual
theorem eqAV_spec : ∀ {a b : AV}, eqAV a b = true → a = b
  | a, b, h => by
    cases a <;> cases b <;> simp only [eqAV, Bool.and_eq_true, decide_eq_true_eq, beq_iff_eq, Bool.false_eq_true] at h <;> first | rfl | skip
    · rw [eqPV_spec h]
    · rw [h.1.1, h.1.2, eqPVs_spec h.2]
    · rw [h.1, h.2]
    · rw [h]
    · rw [h.1.1, eqAVs_spec h.1.2, eqAVs_spec h.2]
    · rw [eqAVs_spec h]
    · rw [eqAVs_spec h]
    · rw [eqAVs_spec h]
    · rw [eqAV_spec h]
theorem eqAVs_spec : ∀ {a b : List AV}, eqAVs a b = true → a = b
  | [], [], _ => rfl
  | a :: r, b :: q, h => by simp only [eqAVs, Bool.and_eq_true] at h; rw [eqAV_spec h.1, eqAVs_spec h.2]
  | [], _ :: _, h => by simp [eqAVs] at h
  | _ :: _, [], h => by simp [eqAVs] at h
end

omit [Base] in
/-- What surely is laid, within what is laid. -/
theorem mask_le {D E : List Nat} (h : ∀ d ∈ D, d ∈ E) (s : St) : Le D (mask D s) (mask E s) := by
  refine ⟨rfl, rfl, by simp [mask, maskL_length], fun j hj => ?_, fun j hj => ?_⟩
  · rw [mask_get, mask_get]
    simp [hj, h j hj]
  · rw [List.getD_eq_getElem?_getD, mask_get]
    cases s.tmps[j]? with
    | none => rfl
    | some a => simp [hj]

omit [Base] in
theorem mask_undef {E : List Nat} {s : St} {i : Nat} (h : i ∉ E) : getK (mask E s) (.t i) = .undef := by
  simp only [getK, List.getD_eq_getElem?_getD, mask_get]
  cases s.tmps[i]? with
  | none => rfl
  | some a => simp [h]

omit [Base] in
/-- One more temporary is laid. -/
theorem mask_cons {E : List Nat} {s : St} {i : Nat} {a : AV} (h : s.tmps[i]? = some a) : mask (i :: E) s = { mask E s with tmps := (mask E s).tmps.set i a } := by
  have : (mask (i :: E) s).tmps = (mask E s).tmps.set i a := by
    apply List.ext_getElem?
    intro j
    rw [List.getElem?_set, mask_get, mask_get]
    by_cases e : i = j
    · subst e
      have hlt : i < (mask E s).tmps.length := by simp only [mask, maskL_length]; exact (List.getElem?_eq_some_iff.1 h).1
      simp [h, hlt]
    · have e' : ¬ j = i := fun q => e q.symm
      simp only [e, if_false]
      congr 1
      funext b
      simp [e']
  show ({ s with tmps := maskL (i :: E) s.tmps 0 } : St) = _
  have h2 : maskL (i :: E) s.tmps 0 = (mask E s).tmps.set i a := this
  rw [h2]; rfl
end Go.Abs

namespace Go.Abs
open Go.RowKit
variable [Base]

def guardX (D : List Nat) : Option (Opd × Bool) → Bool
  | none => true
  | some (x, _) => okX D x
omit [Base] in
theorem wantedG_le {D : List Nat} {s s' : St} (h : Le D s s') {g : Option (Opd × Bool)} (hg : guardX D g = true) : wantedG s' g = wantedG s g := by
  cases g with
  | none => rfl
  | some p =>
    obtain ⟨x, b⟩ := p
    simp only [guardX] at hg
    simp only [wantedG, val_le h hg]

omit [Base] in
theorem fitDst_t (s s' : St) (i : Nat) (a : AV) : fitDst s (.t i) a = fitDst s' (.t i) a := by cases a <;> rfl
omit [Base] in
theorem fitDst_free {s : St} {κ : Key} {a : AV} (h : noLoanA a = true) : fitDst s κ a = a := by cases a <;> first | rfl | simp [noLoanA] at h

/-- What is laid into a temporary at which nothing lies. -/
def layT (o : GOp) (i : Nat) (A : St) (a : AV) : St := { A with tmps := A.tmps.set i (if o.nd then .undef else fitDst A (.t i) a) }
theorem layT_sound {F G A t w df} (hR : R F G A t w) {nt i N : Nat} {o : GOp} {cd : Option Tmp} (h : laidOk F nt i o cd = true) (hd : o.nd = false → o.d = none) (ht : t.size = nt) (hN : A.tmps.length ≤ N)
    (hA : isOwn (getK A (.t i)) = false) {a : AV} {v : Value} (ha : RepT F G A t w (.t N) a v) :
    ∃ G', R F G' (layT o i A a) (((⟨t, df⟩ : Act).put cd v)).tmps w ∧ Ext G w G' w := by
  cases hnd : o.nd with
  | true =>
    have hcd : cd = none := by
      cases cd with
      | none => rfl
      | some n => simp [laidOk, hnd] at h
    subst hcd
    refine ⟨G, ?_, Ext.refl _ _⟩
    simp only [layT, hnd, if_true]
    exact hR.setUndef i hA
  | false =>
    obtain ⟨G', h1, h2⟩ := lay1_sound (df := df) hR h ht hN ha
    refine ⟨G', ?_, h2⟩
    have : lay1 o i A a = layT o i A a := by
      simp only [lay1, layT, hnd, Bool.false_eq_true, if_false, putRes, hd hnd, dstKey, putK, hA, setK]
    rw [← this]; exact h1

omit [Base] in
theorem mask_set {E : List Nat} {s : St} {i : Nat} {a : AV} (h : i ∉ E) : mask E { s with tmps := s.tmps.set i a } = mask E s := by
  have : maskL E (s.tmps.set i a) 0 = maskL E s.tmps 0 := by
    apply List.ext_getElem?
    intro j
    rw [maskL_get, maskL_get, List.getElem?_set]
    by_cases e : i = j
    · subst e
      by_cases hlt : i < s.tmps.length <;> simp [h, hlt]
    · simp [e]
  simp only [mask, this]

section
variable {P : Program} {mt : Meths} {F : Fr} {call : Calls} (hC : CallSound P call) (hmt : MethsOk P mt) {nt : Nat} {cops : Array Oper} {Q : Exit → Act → World → Prop} {df : List Deferred} {K : Act → World → Prop}
include hC hmt

theorem quiet_step {i : Nat} {o : GOp} {co : Oper} (hco : cops[i]? = some co) (hok : gopOk P mt F nt cops i o co = true) (hp : isPure o.op = true) (hd : o.nd = false → o.d = none) (hX : opX o.D o.op = true) (hg : guardX o.D o.g = true)
    {E : List Nat} (hDE : ∀ d ∈ o.D, d ∈ E) (hi : i ∉ E) {s : St} {a : AV} (hev : evQ call o s = some a) (hti : s.tmps[i]? = some (if o.nd then .undef else fitDst s (.t i) a))
    {G t w} (hR : R F G (mask E s) t w) (ht : t.size = nt)
    (hk : ∀ G' t' w', R F G' (mask (i :: E) s) t' w' → t'.size = nt → Ext G w G' w' → K ⟨t', df⟩ w') : wpOp P cops Q i K ⟨t, df⟩ w := by
  simp only [gopOk, Bool.and_eq_true] at hok
  obtain ⟨⟨hm, hgo⟩, hl⟩ := hok
  have hle := mask_le hDE s
  have hund : isOwn (getK (mask E s) (.t i)) = false := by rw [mask_undef hi]; rfl
  have hst : ∀ b, fitDst s (.t i) b = fitDst (mask E s) (.t i) b := fun b => fitDst_t _ _ _ _
  unfold evQ at hev
  unfold wpOp
  simp only [hco]
  split at hev
  · rename_i hw
    rw [← wantedG_le hle hg] at hw
    rw [if_pos (guard_sound hR hgo hw)]
    left
    simp only [Option.map_eq_some_iff] at hev
    obtain ⟨⟨a', s'⟩, hop, rfl⟩ := hev
    obtain ⟨s1', f1, f2, f3⟩ := frame hle hX hop
    have hsame := pure_same hp f1
    subst hsame
    refine matchOp_sound hC hmt hm G _ t w df _ _ (mask E s).tmps.length (Nat.le_refl _) hR f1 _ _ fun G1 w1 v h1 h2 h3 => ?_
    obtain ⟨G2, k1, k2⟩ := layT_sound (df := df) h1 hl hd ht (Nat.le_refl _) hund h2
    rw [put_defers]
    refine hk G2 _ w1 ?_ (by rw [put_size]; exact ht) (h3.trans k2)
    rw [mask_cons hti, hst]
    exact k1
  · rename_i hw
    rw [← wantedG_le hle hg] at hw
    rw [guard_sound hR hgo hw]
    simp only [Bool.false_eq_true, if_false]
    simp only [Option.some.injEq] at hev; subst hev
    have hu : RepT F G (mask E s) t w (.t (mask E s).tmps.length) (.tup []) undef := by simp only [RepT, RepA, undef]; exact ⟨#[], rfl, by simp [RepAs]⟩
    obtain ⟨G2, k1, k2⟩ := layT_sound (df := df) hR hl hd ht (Nat.le_refl _) hund hu
    rw [put_defers]
    refine hk G2 _ w ?_ (by rw [put_size]; exact ht) k2
    rw [mask_cons hti, hst]
    exact k1
  · simp at hev

omit [Base] in
omit hC hmt in
theorem mask_putV {E : List Nat} (s : St) (i : Nat) (a : AV) : mask E (putK s (.v i) a) = putK (mask E s) (.v i) a := by
  have hinv : ∀ k, mask E (inval s k) = inval (mask E s) k := by
    intro k
    have : maskL E (s.tmps.map (dropK k)) 0 = (maskL E s.tmps 0).map (dropK k) := by
      apply List.ext_getElem?
      intro j
      rw [maskL_get, List.getElem?_map, List.getElem?_map, maskL_get]
      cases s.tmps[j]? with
      | none => rfl
      | some b =>
        simp only [Option.map_some]
        split
        · rfl
        · rfl
    simp only [mask, inval, this]
  have hg : getK (mask E s) (.v i) = getK s (.v i) := rfl
  unfold putK
  rw [hg]
  split
  · have := hinv (.v i)
    simp only [setK]
    rw [← this]
    rfl
  · rfl

omit hC hmt in
/-- Where the value of an operation that changes something is laid. -/
theorem layK_sound {F G t w} {m : St} {E : List Nat} {k : Nat} (hk : k ∉ E) (hlt : k < m.tmps.length) (hR : R F G (mask E m) t w) {nt N : Nat} {o : GOp} {cd : Option Tmp} (h : laidOk F nt k o cd = true) (ht : t.size = nt) (hN : m.tmps.length ≤ N)
    {a : AV} {v : Value} (hfree : noLoanA a = true) (ha : RepT F G (mask E m) t w (.t N) a v) :
    ∃ G', R F G' (mask (k :: E) (layK o k m a)) (((⟨t, df⟩ : Act).put cd v)).tmps w ∧ Ext G w G' w := by
  have hund : isOwn (getK (mask E m) (.t k)) = false := by rw [mask_undef hk]; rfl
  have hlen : (mask E m).tmps.length = m.tmps.length := by simp [mask, maskL_length]
  cases hd : o.d with
  | none =>
    obtain ⟨G', h1, h2⟩ := layT_sound (df := df) hR h (fun _ => hd) ht (by rw [hlen]; exact hN) hund ha
    refine ⟨G', ?_, h2⟩
    have : mask (k :: E) (layK o k m a) = layT o k (mask E m) a := by
      have e : layK o k m a = { m with tmps := m.tmps.set k (if o.nd then .undef else a) } := by
        unfold layK
        cases o.nd <;> simp [hd]
      rw [e, mask_cons (a := if o.nd then .undef else a) (by simp [hlt]), mask_set hk]
      simp only [layT, fitDst_free hfree]
    rw [this]; exact h1
  | some i =>
    obtain ⟨G', h1, h2⟩ := lay1_sound (df := df) hR h ht (by rw [hlen]; exact hN) ha
    cases hnd : o.nd with
    | true =>
      obtain ⟨G', h1, h2⟩ := layT_sound (df := df) hR h (fun e => by rw [hnd] at e; simp at e) ht (by rw [hlen]; exact hN) hund ha
      refine ⟨G', ?_, h2⟩
      have : mask (k :: E) (layK o k m a) = layT o k (mask E m) a := by
        have e : layK o k m a = { m with tmps := m.tmps.set k .undef } := by simp [layK, hnd]
        rw [e, mask_cons (a := .undef) (by simp [hlt]), mask_set hk]
        simp only [layT, hnd, if_true]
      rw [this]; exact h1
    | false =>
      have e1 : lay1 o k (mask E m) a = mask E (putK m (.v i) a) := by
        rw [mask_putV]
        simp only [lay1, hnd, Bool.false_eq_true, if_false, putRes, hd, dstKey, fitDst_free hfree]
      rw [e1] at h1
      have hlt' : k < (putK m (.v i) a).tmps.length := by
        unfold putK
        split <;> simpa [setK_tmps, inval_tmps] using hlt
      have hs := h1.setUndef k (by rw [mask_undef hk]; rfl)
      refine ⟨G', ?_, h2⟩
      have : mask (k :: E) (layK o k m a) = { mask E (putK m (.v i) a) with tmps := (mask E (putK m (.v i) a)).tmps.set k .undef } := by
        have e : layK o k m a = { putK m (.v i) a with tmps := (putK m (.v i) a).tmps.set k .undef } := by simp [layK, hnd, hd]
        rw [e, mask_cons (a := .undef) (by simp [hlt']), mask_set hk]
      rw [this]; exact hs

theorem loud_step {k : Nat} {o : GOp} {co : Oper} (hco : cops[k]? = some co) (hok : gopOk P mt F nt cops k o co = true) (hX : opX o.D o.op = true) (hg : guardX o.D o.g = true)
    {E : List Nat} (hDE : ∀ d ∈ o.D, d ∈ E) (hk : k ∉ E) {s s2 : St} (hlt : k < s.tmps.length) (hev : evK call o k s = some s2)
    {G t w} (hR : R F G (mask E s) t w) (ht : t.size = nt)
    (hkk : ∀ G' t' w', R F G' (mask (k :: E) s2) t' w' → t'.size = nt → Ext G w G' w' → K ⟨t', df⟩ w') : wpOp P cops Q k K ⟨t, df⟩ w := by
  simp only [gopOk, Bool.and_eq_true] at hok
  obtain ⟨⟨hm, hgo⟩, hl⟩ := hok
  have hle := mask_le hDE s
  unfold evK at hev
  unfold wpOp
  simp only [hco]
  split at hev
  · rename_i hw
    rw [← wantedG_le hle hg] at hw
    rw [if_pos (guard_sound hR hgo hw)]
    left
    split at hev
    · rename_i a s1 hop
      split at hev
      · rename_i hfr
        simp only [Bool.and_eq_true] at hfr
        simp only [Option.some.injEq] at hev; subst hev
        obtain ⟨s1', f1, f2, f3⟩ := frame hle hX hop
        have hl1 : s1.tmps.length = s.tmps.length := by rw [evOp_tmps hop]; simp [mask, maskL_length]
        have hmerge : s1' = mask E { s1 with tmps := mergeL o.D s1.tmps s.tmps 0 } := by
          have ht : s1'.tmps = maskL E (mergeL o.D s1.tmps s.tmps 0) 0 := by
            apply List.ext_getElem?
            intro j
            rw [maskL_get, mergeL_get _ _ _ _ hl1, Nat.zero_add]
            by_cases hj : j ∈ o.D
            · have hjE := hDE j hj
              rw [f2.inn j hj]
              simp [hj, hjE]
            · simp only [List.contains_iff_mem, hj, if_false]
              have hout := f3.2 j hj
              rw [List.getD_eq_getElem?_getD, mask_get] at hout
              cases hs : s.tmps[j]? with
              | none =>
                have : s1'.tmps.length = s.tmps.length := by rw [f2.len, hl1]
                simp only [Option.map_none]
                exact List.getElem?_eq_none (by rw [this]; exact List.getElem?_eq_none_iff.1 hs)
              | some b =>
                have hb := freeL_get hfr.2 j b hs (by rw [Nat.zero_add]; exact hj)
                rw [hout (by rw [hs]; simp only [Option.map_some, Option.getD_some]; split <;> first | exact hb | rfl), hs]
                simp
          have hv := f2.vars
          have hh := f2.heap
          cases s1'
          simp only at ht hv hh
          simp only [mask, ht, hv, hh]
        refine matchOp_sound hC hmt hm G _ t w df _ _ (mask E s).tmps.length (Nat.le_refl _) hR f1 _ _ fun G1 w1 v h1 h2 h3 => ?_
        rw [hmerge] at h1 h2
        have hml : (mergeL o.D s1.tmps s.tmps 0).length = s.tmps.length := by
          have := congrArg (fun x : St => x.tmps.length) hmerge
          simp only [mask, maskL_length] at this
          rw [← this, f2.len, hl1]
        obtain ⟨G2, k1, k2⟩ := layK_sound (df := df) hk (by simp only [hml]; exact hlt) h1 hl ht (by simp only [hml]; simp [mask, maskL_length]) hfr.1 h2
        rw [put_defers]
        exact hkk G2 _ w1 k1 (by rw [put_size]; exact ht) (h3.trans k2)
      · simp at hev
    · simp at hev
  · rename_i hw
    rw [← wantedG_le hle hg] at hw
    rw [guard_sound hR hgo hw]
    simp only [Bool.false_eq_true, if_false]
    simp only [Option.some.injEq] at hev; subst hev
    have hu : RepT F G (mask E s) t w (.t s.tmps.length) (.tup []) undef := by simp only [RepT, RepA, undef]; exact ⟨#[], rfl, by simp [RepAs]⟩
    obtain ⟨G2, k1, k2⟩ := layK_sound (df := df) hk hlt hR hl ht (Nat.le_refl _) rfl hu
    rw [put_defers]
    exact hkk G2 _ w k1 (by rw [put_size]; exact ht) k2
  · simp at hev
end
end Go.Abs

namespace Go.Abs
open Go.RowKit
variable [Base]

/-- The operations that stand ahead of one in every order, as its own text says. -/
def directs (co : Oper) : List Nat := (co.after.toList.filter (fun e => Region.binds .any e)).map (·.on)
/-- What an operation relies on is ahead of it. -/
def dOk (ops : List GOp) (j : Nat) (o : GOp) (co : Oper) : Bool :=
  (directs co).all (fun d => decide (d < j)) && o.D.all (fun d => (directs co).contains d || (directs co).any fun q => match ops[q]? with | some oq => oq.D.contains d | none => false) &&
  opX o.D o.op && guardX o.D o.g
def dsOk (ops : List GOp) : List GOp → List Oper → Nat → Bool
  | [], [], _ => true
  | o :: r, co :: cr, j => dOk ops j o co && dsOk ops r cr (j + 1)
  | _, _, _ => false
def quietOk (o : GOp) : Bool := isPure o.op && (o.nd || o.d.isNone)
def qsOk (ops : List GOp) (kprev : Option Nat) : List Nat → List Nat → Bool
  | _, [] => true
  | done, i :: r => (!done.contains i) && (match ops[i]? with
    | some o => quietOk o && o.D.all (done.contains ·) && (match kprev with | some k => o.D.contains k | none => true)
    | none => false) && qsOk ops kprev (i :: done) r
def nextAgain : List Ph → List Nat
  | [] => []
  | ph :: _ => ph.again
def phsOk (ops : List GOp) : Option Nat → List Nat → List Ph → Bool
  | _, _, [] => false
  | kprev, done, ph :: r => qsOk ops kprev done ph.qs && match ph.k with
    | none => r.isEmpty && (List.range ops.length).all (fun i => (ph.qs.reverse ++ done).contains i)
    | some k => (!(ph.qs.reverse ++ done).contains k) && (match ops[k]? with
      | some o => (match kprev with | some k' => o.D.contains k' | none => true) &&
        (ph.qs.reverse ++ done).all (fun i => o.D.contains i || (nextAgain r).contains i) &&
        (nextAgain r).all (fun i => match ops[i]? with | some oi => quietOk oi | none => false)
      | none => false) && phsOk ops (some k) (k :: (ph.qs.reverse ++ done)) r

/-- What is known of an operation that changes nothing and that may not have run yet. -/
def Idle (call : Calls) (ops : List GOp) (s : St) (i : Nat) : Prop :=
  ∃ o a, ops[i]? = some o ∧ quietOk o = true ∧ evQ call o s = some a ∧ s.tmps[i]? = some (if o.nd then .undef else fitDst s (.t i) a)

omit [Base] in
theorem evQ_same {call : Calls} {o : GOp} {s s' : St} (h : mask o.D s = mask o.D s') : evQ call o s = evQ call o s' := by
  unfold evQ; rw [h]

omit [Base] in
theorem evQs_spec {call : Calls} {ops : List GOp} {kprev : Option Nat} : ∀ (qs done : List Nat) (s s1 : St), qsOk ops kprev done qs = true → evQs call ops qs s = some s1 → s.tmps.length = ops.length →
    s1.vars = s.vars ∧ s1.heap = s.heap ∧ s1.tmps.length = s.tmps.length ∧ (∀ j, j ∈ done → s1.tmps[j]? = s.tmps[j]?) ∧ ∀ i ∈ qs, i ∉ done ∧ Idle call ops s1 i ∧ ∃ o, ops[i]? = some o ∧ ∀ k, kprev = some k → k ∈ o.D
  | [], done, s, s1, _, h, _ => by
    simp only [evQs, Option.some.injEq] at h; subst h
    exact ⟨rfl, rfl, rfl, fun _ _ => rfl, fun i hi => by simp at hi⟩
  | i :: r, done, s, s1, hok, h, hlen => by
    simp only [qsOk, Bool.and_eq_true] at hok
    obtain ⟨⟨hnd, hop⟩, hrest⟩ := hok
    have hnd' : i ∉ done := by simpa using hnd
    split at hop
    · rename_i o ho
      simp only [Bool.and_eq_true] at hop
      obtain ⟨⟨hq, hD⟩, hkp⟩ := hop
      simp only [evQs, ho] at h
      split at h
      · rename_i a ha
        have hi : i < s.tmps.length := by rw [hlen]; exact (List.getElem?_eq_some_iff.1 ho).1
        obtain ⟨e1, e2, e3, e4, e5⟩ := evQs_spec r (i :: done) _ s1 hrest h (by simp [layQ, hlen])
        have hpre : ∀ j, j ≠ i → j ∈ done → s1.tmps[j]? = s.tmps[j]? := by
          intro j hj hd
          rw [e4 j (List.mem_cons_of_mem _ hd)]
          simp only [layQ, List.getElem?_set]
          rw [if_neg (fun e => hj e.symm)]
        refine ⟨e1, e2, by rw [e3]; simp [layQ], fun j hj => hpre j (fun e => hnd' (e ▸ hj)) hj, fun j hj => ?_⟩
        simp only [List.mem_cons] at hj
        rcases hj with rfl | hj
        · refine ⟨hnd', ⟨o, a, ho, hq, ?_, ?_⟩, o, ho, fun k hk => by subst hk; simpa using hkp⟩
          · rw [← ha]
            refine evQ_same ?_
            have : maskL o.D s1.tmps 0 = maskL o.D s.tmps 0 := by
              apply List.ext_getElem?
              intro m
              rw [maskL_get, maskL_get]
              by_cases hm : m ∈ o.D
              · have hmd : m ∈ done := by simpa using List.all_eq_true.1 hD m hm
                rw [hpre m (fun e => hnd' (e ▸ hmd)) hmd]
              · have hl : s1.tmps.length = s.tmps.length := by rw [e3]; simp [layQ]
                simp only [Nat.zero_add, List.contains_iff_mem, hm, if_false]
                by_cases hlt : m < s.tmps.length
                · rw [List.getElem?_eq_getElem (by rw [hl]; exact hlt), List.getElem?_eq_getElem hlt]; rfl
                · rw [List.getElem?_eq_none (by rw [hl]; exact Nat.not_lt.1 hlt), List.getElem?_eq_none (Nat.not_lt.1 hlt)]
            show ({ s1 with tmps := maskL o.D s1.tmps 0 } : St) = { s with tmps := maskL o.D s.tmps 0 }
            rw [this]
            simp only [layQ] at e1 e2
            simp only [e1, e2]
          · rw [e4 j (by simp)]
            simp only [layQ, List.getElem?_set, if_true, hi]
            split <;> first | rfl | (rw [fitDst_t s1 s])
        · obtain ⟨g1, g2, g3⟩ := e5 j hj
          exact ⟨fun hd => g1 (List.mem_cons_of_mem _ hd), g2, g3⟩
      · simp at h
    · simp at hop

omit [Base] in
theorem againOk_spec {call : Calls} {ops : List GOp} {s : St} {i : Nat} (h : againOk call ops s i = true) (hq : ∀ o, ops[i]? = some o → quietOk o = true) (hlen : s.tmps.length = ops.length) : Idle call ops s i := by
  unfold againOk at h
  split at h
  · rename_i o ho
    split at h
    · rename_i a ha
      simp only [Bool.and_eq_true] at h
      have hi : i < s.tmps.length := by rw [hlen]; exact (List.getElem?_eq_some_iff.1 ho).1
      have := eqAV_spec h.2
      refine ⟨o, a, ho, hq o ho, ha, ?_⟩
      rw [List.getD_eq_getElem?_getD, List.getElem?_eq_getElem hi] at this
      rw [List.getElem?_eq_getElem hi, fitDst_free h.1]
      simpa using this
    · simp at h
  · simp at h

/-- What follows behind the quiet operations of a stretch. -/
def cont (call : Calls) (ops : List GOp) (k : Option Nat) (r : List Ph) (s : St) : Option St :=
  match k with
  | some k => match ops[k]? with
    | some o => (evK call o k s).bind (evPhs call ops r)
    | none => none
  | none => evPhs call ops r s
omit [Base] in
theorem evPhs_cons {call : Calls} {ops : List GOp} {ph : Ph} {r : List Ph} {s sf : St} (h : evPhs call ops (ph :: r) s = some sf) :
    ∃ s1, evQs call ops ph.qs s = some s1 ∧ (∀ i ∈ ph.again, againOk call ops s1 i = true) ∧ cont call ops ph.k r s1 = some sf := by
  simp only [evPhs] at h
  split at h
  · rename_i s1 h1
    split at h
    · rename_i ha
      refine ⟨s1, h1, fun i hi => List.all_eq_true.1 ha i hi, ?_⟩
      unfold cont
      split at h
      · rename_i k hk
        simp only [hk]
        split at h
        · rename_i o ho
          simp only [ho]
          split at h
          · rename_i s2 h2
            simp only [h2, Option.bind_some]; exact h
          · simp at h
        · simp at h
      · rename_i hk
        simp only [hk]; exact h
    · simp at h
  · simp at h

/-- What the check says behind the quiet operations of a stretch. -/
def restOk (ops : List GOp) (kprev : Option Nat) (done : List Nat) (k : Option Nat) (r : List Ph) : Prop :=
  match k with
  | none => r = [] ∧ ∀ i, i < ops.length → i ∈ done
  | some k => k ∉ done ∧ (∃ o, ops[k]? = some o ∧ (∀ k', kprev = some k' → k' ∈ o.D) ∧ (∀ i ∈ done, i ∈ o.D ∨ i ∈ nextAgain r) ∧ ∀ i ∈ nextAgain r, ∀ oi, ops[i]? = some oi → quietOk oi = true) ∧
    phsOk ops (some k) (k :: done) r = true
omit [Base] in
theorem phsOk_cons {ops : List GOp} {kprev : Option Nat} {done : List Nat} {ph : Ph} {r : List Ph} (h : phsOk ops kprev done (ph :: r) = true) :
    qsOk ops kprev done ph.qs = true ∧ restOk ops kprev (ph.qs.reverse ++ done) ph.k r := by
  simp only [phsOk, Bool.and_eq_true] at h
  refine ⟨h.1, ?_⟩
  have h2 := h.2
  unfold restOk
  split at h2
  · rename_i hk
    try simp only [hk]
    simp only [Bool.and_eq_true, List.isEmpty_iff] at h2
    exact ⟨h2.1, fun i hi => by simpa using List.all_eq_true.1 h2.2 i (List.mem_range.2 hi)⟩
  · rename_i k hk
    try simp only [hk]
    simp only [Bool.and_eq_true] at h2
    obtain ⟨⟨h3, h4⟩, h5⟩ := h2
    refine ⟨by simpa using h3, ?_, h5⟩
    split at h4
    · rename_i o ho
      simp only [Bool.and_eq_true] at h4
      refine ⟨o, ho, fun k' hk' => by subst hk'; simpa using h4.1.1, fun i hi => ?_, fun i hi oi hoi => ?_⟩
      · have := List.all_eq_true.1 h4.1.2 i hi
        simpa using this
      · have := List.all_eq_true.1 h4.2 i hi
        simpa [hoi] using this
    · simp at h4

omit [Base] in
/-- What is not placed yet relies on something that is not placed yet. -/
theorem later {ops : List GOp} : ∀ (r : List Ph) (k : Option Nat) (kprev : Option Nat) (done : List Nat), restOk ops kprev done k r →
    ∀ i, i < ops.length → i ∈ done ∨ k = some i ∨ ∃ o d, ops[i]? = some o ∧ d ∈ o.D ∧ d ∉ done
  | r, none, kprev, done, h, i, hi => by
    simp only [restOk] at h
    exact .inl (h.2 i hi)
  | [], some k, kprev, done, h, i, hi => by
    simp only [restOk] at h
    have := h.2.2
    simp [phsOk] at this
  | ph :: r, some k, kprev, done, h, i, hi => by
    simp only [restOk] at h
    obtain ⟨hk, _, h3⟩ := h
    obtain ⟨q1, q2⟩ := phsOk_cons h3
    have hqs : ∀ (qs done : List Nat), qsOk ops (some k) done qs = true → ∀ j ∈ qs, ∃ o, ops[j]? = some o ∧ k ∈ o.D := by
      intro qs
      induction qs with
      | nil => intro _ _ j hj; simp at hj
      | cons x qs ih =>
        intro done hq j hj
        simp only [qsOk, Bool.and_eq_true] at hq
        obtain ⟨⟨_, hx⟩, hr⟩ := hq
        simp only [List.mem_cons] at hj
        rcases hj with rfl | hj
        · split at hx
          · rename_i o ho
            simp only [Bool.and_eq_true] at hx
            exact ⟨o, ho, by simpa using hx.2⟩
          · simp at hx
        · exact ih _ hr j hj
    rcases later r ph.k (some k) _ q2 i hi with h | h | ⟨o, d, h1, h2, h3⟩
    · simp only [List.mem_append, List.mem_reverse, List.mem_cons] at h
      rcases h with h | rfl | h
      · obtain ⟨o, g1, g2⟩ := hqs _ _ q1 i h
        exact .inr (.inr ⟨o, k, g1, g2, hk⟩)
      · exact .inr (.inl rfl)
      · exact .inl h
    · rw [h] at q2
      simp only [restOk] at q2
      obtain ⟨_, ⟨o, g1, g2, _⟩, _⟩ := q2
      exact .inr (.inr ⟨o, k, g1, g2 k rfl, hk⟩)
    · exact .inr (.inr ⟨o, d, h1, h2, fun hd => h3 (by simp [hd])⟩)
termination_by r => r.length
end Go.Abs

namespace Go.Abs
open Go.RowKit
variable [Base]

omit [Base] in
theorem dsOk_get {ops0 : List GOp} : ∀ {ops : List GOp} {cr : List Oper} {j : Nat}, dsOk ops0 ops cr j = true → ∀ i o, ops[i]? = some o → ∃ co, cr[i]? = some co ∧ dOk ops0 (j + i) o co = true
  | [], [], _, _, i, o, h => by simp at h
  | o1 :: r, co :: cr, j, h, i, o, hi => by
    simp only [dsOk, Bool.and_eq_true] at h
    cases i with
    | zero => simp at hi; subst hi; exact ⟨co, rfl, h.1⟩
    | succ i =>
      obtain ⟨co', h1, h2⟩ := dsOk_get h.2 i o (by simpa using hi)
      exact ⟨co', by simpa using h1, by rw [show j + (i + 1) = j + 1 + i by omega]; exact h2⟩
  | [], _ :: _, _, h, _, _, _ => by simp [dsOk] at h
  | _ :: _, [], _, h, _, _, _ => by simp [dsOk] at h
omit [Base] in
theorem dsOk_length {ops0 : List GOp} : ∀ {ops : List GOp} {cr : List Oper} {j : Nat}, dsOk ops0 ops cr j = true → ops.length = cr.length
  | [], [], _, _ => rfl
  | _ :: r, _ :: cr, j, h => by
    simp only [dsOk, Bool.and_eq_true] at h
    simp [dsOk_length h.2]
  | [], _ :: _, _, h => by simp [dsOk] at h
  | _ :: _, [], _, h => by simp [dsOk] at h
omit [Base] in
theorem gopsOk_get {P : Program} {mt : Meths} {F : Fr} {nt : Nat} {cops : Array Oper} : ∀ {ops : List GOp} {cr : List Oper} {j : Nat}, gopsOk P mt F nt cops ops cr j = true → ∀ i o co, ops[i]? = some o → cr[i]? = some co → gopOk P mt F nt cops (j + i) o co = true
  | [], [], _, _, i, o, co, h, _ => by simp at h
  | o1 :: r, co1 :: cr, j, h, i, o, co, hi, hc => by
    simp only [gopsOk, Bool.and_eq_true] at h
    cases i with
    | zero => simp at hi hc; subst hi; subst hc; exact h.1
    | succ i =>
      rw [show j + (i + 1) = j + 1 + i by omega]
      exact gopsOk_get h.2 i o co (by simpa using hi) (by simpa using hc)
  | [], _ :: _, _, h, _, _, _, _, _ => by simp [gopsOk] at h
  | _ :: _, [], _, h, _, _, _, _, _ => by simp [gopsOk] at h

omit [Base] in
theorem cnt {E : List Nat} {i : Nat} (hi : i ∉ E) : ∀ n, i < n → ((List.range n).filter (fun j => !(i :: E).contains j)).length + 1 = ((List.range n).filter (fun j => !E.contains j)).length := by
  have below : ∀ n, n ≤ i → (List.range n).filter (fun j => !(i :: E).contains j) = (List.range n).filter (fun j => !E.contains j) := by
    intro n hn
    apply List.filter_congr
    intro j hj
    have hj' : j < n := List.mem_range.1 hj
    have : ¬ j = i := by omega
    simp [this]
  intro n
  induction n with
  | zero => intro h; omega
  | succ n ih =>
    intro h
    rw [List.range_succ, List.filter_append, List.filter_append, List.length_append, List.length_append]
    by_cases e : i = n
    · subst e
      rw [below i (Nat.le_refl _)]
      simp [hi]
    · have h1 := ih (by omega)
      have : ([n].filter fun j => !(i :: E).contains j) = [n].filter fun j => !E.contains j := by
        have : ¬ n = i := by omega
        simp [List.filter, this]
      rw [this]; omega

omit [Base] in
theorem evK_len {call : Calls} {o : GOp} {k : Nat} {s s2 : St} (h : evK call o k s = some s2) : s2.tmps.length = s.tmps.length := by
  have hK : ∀ (m : St) (a : AV), (layK o k m a).tmps.length = m.tmps.length := by
    intro m a
    unfold layK
    split
    · simp
    · split
      · simp
      · unfold putK
        split <;> simp [setK_tmps, inval_tmps]
  have hmer : ∀ (D : List Nat) (l q : List AV) (i : Nat), l.length = q.length → (mergeL D l q i).length = q.length := by
    intro D l
    induction l with
    | nil => intro q i h; simp [mergeL]
    | cons a l ihl =>
      intro q i h
      cases q with
      | nil => simp at h
      | cons b q => simp only [mergeL, List.length_cons]; rw [ihl q (i + 1) (by simpa using h)]
  unfold evK at h
  split at h
  · split at h
    · rename_i a s1 hop
      split at h
      · simp only [Option.some.injEq] at h; subst h
        rw [hK]
        exact hmer _ _ _ _ (by rw [evOp_tmps hop]; simp [mask, maskL_length])
      · simp at h
    · simp at h
  · simp only [Option.some.injEq] at h; subst h
    exact hK _ _
  · simp at h

omit [Base] in
theorem mask_ext {E : List Nat} {s s' : St} (hv : s'.vars = s.vars) (hh : s'.heap = s.heap) (hl : s'.tmps.length = s.tmps.length) (ht : ∀ j ∈ E, s'.tmps[j]? = s.tmps[j]?) : mask E s' = mask E s := by
  have : maskL E s'.tmps 0 = maskL E s.tmps 0 := by
    apply List.ext_getElem?
    intro m
    rw [maskL_get, maskL_get]
    by_cases hm : m ∈ E
    · rw [ht m hm]
    · simp only [Nat.zero_add, List.contains_iff_mem, hm, if_false]
      by_cases hlt : m < s.tmps.length
      · rw [List.getElem?_eq_getElem (by rw [hl]; exact hlt), List.getElem?_eq_getElem hlt]; rfl
      · rw [List.getElem?_eq_none (by rw [hl]; exact Nat.not_lt.1 hlt), List.getElem?_eq_none (Nat.not_lt.1 hlt)]
  simp only [mask, this, hv, hh]

omit [Base] in
theorem listed_set {listed : Array Bool} {E : List Nat} {n i : Nat} (hls : listed.size = n) (hi : i < n) (h : ∀ j, j < n → (listed.getD j false = true ↔ j ∈ E)) :
    ∀ j, j < n → ((listed.setIfInBounds i true).getD j false = true ↔ j ∈ i :: E) := by
  intro j hj
  by_cases e : i = j
  · subst e
    simp [Array.getD_eq_getD_getElem?, hls, hi]
  · have e' : ¬ j = i := fun q => e q.symm
    have := h j hj
    simp only [Array.getD_eq_getD_getElem?, Array.getElem?_setIfInBounds_ne e] at this ⊢
    rw [this]
    simp [e']

section
variable {P : Program} {mt : Meths} {F : Fr} {call : Calls} (hC : CallSound P call) (hmt : MethsOk P mt) {nt : Nat} {cops : Array Oper} {ops : List GOp} {Q : Exit → Act → World → Prop} {df : List Deferred}
  (hg : gopsOk P mt F nt cops ops cops.toList 0 = true) (hd : dsOk ops ops cops.toList 0 = true)
include hC hmt hg hd

theorem draw_any {sf : St} {G0 : Gh} {w0 : World} (hQ : ∀ G' t' w' E, R F G' (mask E sf) t' w' → t'.size = nt → Ext G0 w0 G' w' → Q .normal ⟨t', df⟩ w') :
    ∀ (fuel : Nat) (listed : Array Bool) (E : List Nat) (s1 : St) (k kprev : Option Nat) (r : List Ph) (done : List Nat) (G : Gh) (t : Array Value) (w : World),
      listed.size = ops.length → (∀ j, j < ops.length → (listed.getD j false = true ↔ j ∈ E)) → (∀ i ∈ E, i ∈ done) → (∀ i ∈ done, i < ops.length) →
      (∀ i ∈ E, ∀ o, ops[i]? = some o → ∀ d ∈ o.D, d ∈ E) → (∀ i ∈ done, i ∉ E → Idle call ops s1 i) → ((List.range ops.length).filter (fun j => !E.contains j)).length ≤ fuel →
      restOk ops kprev done k r → cont call ops k r s1 = some sf → s1.tmps.length = ops.length → R F G (mask E s1) t w → t.size = nt → Ext G0 w0 G w →
      wpAny P .any cops Q fuel listed ⟨t, df⟩ w := by
  have hlen : ops.length = cops.size := by simpa using dsOk_length hd
  have info : ∀ i o, ops[i]? = some o → ∃ co, cops[i]? = some co ∧ gopOk P mt F nt cops i o co = true ∧ dOk ops i o co = true := by
    intro i o ho
    obtain ⟨co, h1, h2⟩ := dsOk_get hd i o ho
    have := gopsOk_get hg i o co ho h1
    exact ⟨co, by simpa using h1, by simpa using this, by simpa using h2⟩
  have fin : ∀ (E : List Nat) (s1 : St) (k kprev : Option Nat) (r : List Ph) (done : List Nat) (G : Gh) (t : Array Value) (w : World), (∀ i, i < ops.length → i ∈ E) → (∀ i ∈ E, i ∈ done) →
      restOk ops kprev done k r → cont call ops k r s1 = some sf → R F G (mask E s1) t w → t.size = nt → Ext G0 w0 G w → Q .normal ⟨t, df⟩ w := by
    intro E s1 k kprev r done G t w hall hEd hrest hcont hR ht hE
    cases k with
    | some k =>
      simp only [restOk] at hrest
      obtain ⟨h1, ⟨o, ho, _⟩, _⟩ := hrest
      exact absurd (hEd k (hall k (List.getElem?_eq_some_iff.1 ho).1)) h1
    | none =>
      simp only [restOk] at hrest
      obtain ⟨rfl, _⟩ := hrest
      simp only [cont, evPhs, Option.some.injEq] at hcont
      subst hcont
      exact hQ G t w E hR ht hE
  intro fuel
  induction fuel with
  | zero =>
    intro listed E s1 k kprev r done G t w hls hlE hEd hdn hcl hidle hcnt hrest hcont htl hR ht hE
    have hall : ∀ i, i < ops.length → i ∈ E := by
      intro i hi
      by_cases h : i ∈ E
      · exact h
      · have : i ∈ (List.range ops.length).filter (fun j => !E.contains j) := by simp [hi, h]
        have := List.length_pos_of_mem this
        omega
    simp only [wpAny]
    refine ⟨?_, fin E s1 k kprev r done G t w hall hEd hrest hcont hR ht hE⟩
    apply List.eq_nil_iff_forall_not_mem.2
    intro i hi
    obtain ⟨hun, co, hco, _⟩ := mem_ready.1 hi
    have hilt : i < ops.length := by rw [hlen]; exact (Array.getElem?_eq_some_iff.1 hco).1
    have := (hlE i hilt).2 (hall i hilt)
    have hsz : i < listed.size := by rw [hls]; exact hilt
    simp only [Array.getD_eq_getD_getElem?, Array.getElem?_eq_getElem hsz, Option.getD_some] at this hun
    rw [this] at hun; simp at hun
  | succ fuel ih =>
    intro listed E s1 k kprev r done G t w hls hlE hEd hdn hcl hidle hcnt hrest hcont htl hR ht hE
    have hnext : ∀ i, i ∈ Region.ready .any cops listed → ∃ o co, ops[i]? = some o ∧ cops[i]? = some co ∧ i < ops.length ∧ i ∉ E ∧ ∀ d ∈ o.D, d ∈ E := by
      intro i hi
      obtain ⟨hun, co, hco, hall⟩ := mem_ready.1 hi
      have hilt : i < ops.length := by rw [hlen]; exact (Array.getElem?_eq_some_iff.1 hco).1
      obtain ⟨co', h1, h2, h3⟩ := info i ops[i] (List.getElem?_eq_getElem hilt)
      rw [hco] at h1; simp only [Option.some.injEq] at h1; subst h1
      have hiE : i ∉ E := by
        intro e
        have := (hlE i hilt).2 e
        have hsz : i < listed.size := by rw [hls]; exact hilt
        simp only [Array.getD_eq_getD_getElem?, Array.getElem?_eq_getElem hsz, Option.getD_some] at this hun
        rw [this] at hun; simp at hun
      refine ⟨ops[i], co, List.getElem?_eq_getElem hilt, hco, hilt, hiE, ?_⟩
      simp only [dOk, Bool.and_eq_true] at h3
      obtain ⟨⟨⟨hlt, hcls⟩, _⟩, _⟩ := h3
      have hdir : ∀ q ∈ directs co, q ∈ E := by
        intro q hq
        simp only [directs, List.mem_map, List.mem_filter] at hq
        obtain ⟨e, ⟨he1, he2⟩, rfl⟩ := hq
        have hlisted := hall e (by simpa using he1) he2
        have hqi : e.on < i := by
          have := List.all_eq_true.1 hlt e.on (by simp only [directs, List.mem_map, List.mem_filter]; exact ⟨e, ⟨he1, he2⟩, rfl⟩)
          simpa using this
        exact (hlE e.on (by omega)).1 hlisted
      intro d hdm
      have := List.all_eq_true.1 hcls d hdm
      simp only [Bool.or_eq_true] at this
      rcases this with h | h
      · exact hdir d (by simpa using h)
      · simp only [List.any_eq_true] at h
        obtain ⟨q, hq, h⟩ := h
        split at h
        · rename_i oq hoq
          exact hcl q (hdir q hq) oq hoq d (by simpa using h)
        · simp at h
    simp only [wpAny]
    refine ⟨fun hnil => ?_, fun i hi => ?_⟩
    · -- nothing is left
      refine fin E s1 k kprev r done G t w ?_ hEd hrest hcont hR ht hE
      have key : ∀ m, ∀ i, i < m → i < ops.length → i ∈ E := by
        intro m
        induction m with
        | zero => intro i hi; omega
        | succ m ihm =>
          intro i hi hilt
          by_cases h : i ∈ E
          · exact h
          · exfalso
            obtain ⟨co, h1, h2, h3⟩ := info i ops[i] (List.getElem?_eq_getElem hilt)
            simp only [dOk, Bool.and_eq_true] at h3
            obtain ⟨⟨⟨hlt, _⟩, _⟩, _⟩ := h3
            have : i ∈ Region.ready .any cops listed := by
              rw [mem_ready]
              refine ⟨?_, co, h1, fun e he hb => ?_⟩
              · have hsz : i < listed.size := by rw [hls]; exact hilt
                have : ¬ listed.getD i false = true := fun e => h ((hlE i hilt).1 e)
                simp only [Array.getD_eq_getD_getElem?, Array.getElem?_eq_getElem hsz, Option.getD_some, Bool.not_eq_true] at this ⊢
                exact this
              · have hqi : e.on < i := by
                  have := List.all_eq_true.1 hlt e.on (by simp only [directs, List.mem_map, List.mem_filter]; exact ⟨e, ⟨by simpa using he, hb⟩, rfl⟩)
                  simpa using this
                exact (hlE e.on (by omega)).2 (ihm e.on (by omega) (by omega))
            rw [hnil] at this; simp at this
      exact fun i hi => key (i + 1) i (Nat.lt_succ_self _) hi
    · obtain ⟨o, co, ho, hco, hilt, hiE, hDE⟩ := hnext i hi
      obtain ⟨co', q1, q2, q3⟩ := info i o ho
      rw [hco] at q1; simp only [Option.some.injEq] at q1; subst q1
      simp only [dOk, Bool.and_eq_true] at q3
      obtain ⟨⟨_, hX⟩, hgx⟩ := q3
      have hls' : (listed.setIfInBounds i true).size = ops.length := by simpa using hls
      have hlE' := listed_set hls hilt hlE
      have hcl' : ∀ j ∈ i :: E, ∀ o', ops[j]? = some o' → ∀ d ∈ o'.D, d ∈ i :: E := by
        intro j hj o' ho' d hdm
        simp only [List.mem_cons] at hj
        rcases hj with rfl | hj
        · rw [ho] at ho'; simp only [Option.some.injEq] at ho'; subst ho'
          exact List.mem_cons_of_mem _ (hDE d hdm)
        · exact List.mem_cons_of_mem _ (hcl j hj o' ho' d hdm)
      have hcnt' : ((List.range ops.length).filter (fun j => !(i :: E).contains j)).length ≤ fuel := by
        have := cnt hiE ops.length hilt
        omega
      rcases later r k kprev done hrest i hilt with h | h | ⟨o', d, h1, h2, h3⟩
      · obtain ⟨o', a, ho', hq, hev, hti⟩ := hidle i h hiE
        rw [ho] at ho'; simp only [Option.some.injEq] at ho'; subst ho'
        simp only [quietOk, Bool.and_eq_true, Bool.or_eq_true] at hq
        refine quiet_step hC hmt hco q2 hq.1 (fun hnd => ?_) hX hgx hDE hiE hev hti hR ht fun G' t' w' r1 r2 r3 => ?_
        · rcases hq.2 with h | h
          · rw [hnd] at h; simp at h
          · simpa using h
        · refine ih _ (i :: E) s1 k kprev r done G' t' w' hls' hlE' (fun j hj => ?_) hdn hcl' (fun j hj hjE => hidle j hj fun e => hjE (List.mem_cons_of_mem _ e)) hcnt' hrest hcont htl r1 r2 (hE.trans r3)
          simp only [List.mem_cons] at hj
          rcases hj with rfl | hj
          · exact h
          · exact hEd j hj
      · subst h
        simp only [restOk] at hrest
        obtain ⟨hkd, ⟨o', ho', _, hag, hqa⟩, hph⟩ := hrest
        rw [ho] at ho'; simp only [Option.some.injEq] at ho'; subst ho'
        simp only [cont, ho, Option.bind_eq_some_iff] at hcont
        obtain ⟨s2, hev, hcont⟩ := hcont
        have hl2 := evK_len hev
        refine loud_step hC hmt hco q2 hX hgx hDE hiE (by rw [htl]; exact hilt) hev hR ht fun G' t' w' r1 r2 r3 => ?_
        cases r with
        | nil => simp [phsOk] at hph
        | cons ph r =>
          obtain ⟨s1', e1, e2, e3⟩ := evPhs_cons hcont
          obtain ⟨p1, p2⟩ := phsOk_cons hph
          obtain ⟨v1, v2, v3, v4, v5⟩ := evQs_spec ph.qs (i :: done) s2 s1' p1 e1 (by rw [hl2, htl])
          have hEd' : ∀ j ∈ i :: E, j ∈ i :: done := by
            intro j hj
            simp only [List.mem_cons] at hj ⊢
            rcases hj with rfl | hj
            · exact .inl rfl
            · exact .inr (hEd j hj)
          have hmask : mask (i :: E) s1' = mask (i :: E) s2 := mask_ext v1 v2 v3 fun j hj => v4 j (hEd' j hj)
          have htl' : s1'.tmps.length = ops.length := by rw [v3, hl2, htl]
          refine ih _ (i :: E) s1' ph.k (some i) r (ph.qs.reverse ++ (i :: done)) G' t' w' hls' hlE' (fun j hj => List.mem_append_right _ (hEd' j hj)) (fun j hj => ?_) hcl' (fun j hj hjE => ?_) hcnt' p2 e3 htl' (by rw [hmask]; exact r1) r2 (hE.trans r3)
          · simp only [List.mem_append, List.mem_reverse, List.mem_cons] at hj
            rcases hj with hj | rfl | hj
            · obtain ⟨_, _, o2, ho2, _⟩ := v5 j hj
              exact (List.getElem?_eq_some_iff.1 ho2).1
            · exact hilt
            · exact hdn j hj
          · simp only [List.mem_append, List.mem_reverse, List.mem_cons] at hj
            rcases hj with hj | rfl | hj
            · exact (v5 j hj).2.1
            · exact absurd (List.mem_cons_self) hjE
            · have hjE' : j ∉ E := fun e => hjE (List.mem_cons_of_mem _ e)
              rcases hag j hj with hd | hd
              · exact absurd (hDE j hd) hjE'
              · simp only [nextAgain] at hd
                exact againOk_spec (e2 j hd) (hqa j hd) htl'
      · rw [ho] at h1; simp only [Option.some.injEq] at h1; subst h1
        exact absurd (hEd d (hDE d h2)) h3

/-- A region whose order is open does what the evaluator says. -/
theorem dreg_sound {id : Nat} {phs : List Ph} (hm : P.follows .mixedOrders = true) (hp : phsOk ops none [] phs = true) {s sf : St} (hs : s.tmps = []) 
    (hev : evPhs call ops phs { s with tmps := List.replicate ops.length .undef } = some sf) {G : Gh} {t : Array Value} {w : World} (hR : R F G { s with tmps := List.replicate ops.length .undef } t w) (ht : t.size = nt)
    (hQ : ∀ G' t' w' E, R F G' (mask E sf) t' w' → t'.size = nt → Ext G w G' w' → Q .normal ⟨t', df⟩ w') :
    (Code.region id cops true).wp P Q ⟨t, df⟩ w := by
  have hlen : ops.length = cops.size := by simpa using dsOk_length hd
  refine wp_region_any hm ?_
  cases phs with
  | nil => simp [phsOk] at hp
  | cons ph r =>
    obtain ⟨s1, e1, e2, e3⟩ := evPhs_cons hev
    obtain ⟨p1, p2⟩ := phsOk_cons hp
    obtain ⟨v1, v2, v3, v4, v5⟩ := evQs_spec ph.qs [] _ s1 p1 e1 (by simp)
    have hmask : mask [] s1 = mask [] { s with tmps := List.replicate ops.length .undef } := mask_ext v1 v2 v3 (fun j hj => by simp at hj)
    have hmask2 : mask [] { s with tmps := List.replicate ops.length AV.undef } = { s with tmps := List.replicate ops.length AV.undef } := by
      have : maskL [] (List.replicate ops.length AV.undef) 0 = List.replicate ops.length AV.undef := by
        apply List.ext_getElem?
        intro m
        rw [maskL_get]
        cases h : (List.replicate ops.length AV.undef)[m]? with
        | none => rfl
        | some a =>
          have := List.getElem?_replicate.symm.trans h
          split at this
          · simp at this; subst this; rfl
          · simp at this
      simp only [mask, this]
    have hR' : R F G (mask [] s1) t { w with drawn := w.drawn + 1 } := by
      rw [hmask, hmask2]
      exact hR.heap rfl
    refine draw_any hC hmt hg hd (G0 := G) (w0 := w) hQ cops.size (Array.replicate cops.size false) [] s1 ph.k none r (ph.qs.reverse ++ []) G t _ (by simp [hlen]) (fun j hj => ?_) (by simp) (fun j hj => ?_) (by simp) (fun j hj _ => ?_) ?_ p2 e3
      (by rw [v3]; simp) hR' ht ⟨rfl, rfl, rfl, Nat.le_refl _, fun _ _ _ h => h, fun _ _ h => ⟨rfl, h, fun _ => rfl⟩, fun _ _ h => h⟩
    · rw [hlen] at hj
      simp [Array.getD_eq_getD_getElem?, hj]
    · simp only [List.append_nil, List.mem_reverse] at hj
      obtain ⟨_, _, o2, ho2, _⟩ := v5 j hj
      exact (List.getElem?_eq_some_iff.1 ho2).1
    · simp only [List.append_nil, List.mem_reverse] at hj
      exact (v5 j hj).2.1
    · refine Nat.le_trans (List.length_filter_le _ _) ?_
      simp [hlen]
end
end Go.Abs
