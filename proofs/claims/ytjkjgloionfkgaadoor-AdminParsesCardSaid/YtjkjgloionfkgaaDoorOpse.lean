/- Calls: the objects that are handed over are numbered anew, and back. A call, as the evaluator has it: the objects that are handed over, the callee's view of the world, and the way back. The operations that call. The operations that call. -/
import Derived.Test.YtjkjgloionfkgaaDoorOpsd

namespace Go.Abs
open Go.RowKit
variable [Base]

def F0 : Fr := ⟨[], []⟩
def S0 (h : List Obj) : St := ⟨[], [], h⟩

omit [Base] in
/-- What an evaluator of calls owes. -/
def CallSound (P : Program) (call : Calls) : Prop :=
  ∀ (f : Nat) (args : List AV) (h : List Obj) (r : AV) (h' : List Obj), call f args h = some (r, h') →
    (∃ fn, P.funcs[f]? = some fn ∧ (fn.name == "runtime.NumGoroutine") = false ∧ fn.body.isNone = false) ∧
    ∀ (G : Gh) (w : World) (vs : List Value), R F0 G (S0 h) #[] w → RepAs G.M G.B args vs →
      Go.Calls P f vs.toArray w fun e w' => ∃ v G', e = .returned v ∧ R F0 G' (S0 h') #[] w' ∧ RepC G' w' (.t 0) r v ∧ Ext G w G' w'

/-! ## Renaming -/
omit [Base] in
mutual
theorem ren_sound {M : Mem} {B B' : List Nat} {m : Nat → Option Nat} (hm : ∀ l l' b, m l = some l' → B[l]? = some b → B'[l']? = some b) :
    ∀ {a a' : AV} {x : Value}, ren m a = some a' → RepA M B a x → RepA M B' a' x
  | .ref l o, a', x, h, hr => by
    simp only [ren, Option.map_eq_some_iff] at h
    obtain ⟨l', h1, rfl⟩ := h
    simp only [RepA] at hr ⊢
    obtain ⟨b, h2, h3⟩ := hr
    exact ⟨b, hm _ _ _ h1 h2, h3⟩
  | .mref l, a', x, h, hr => by
    simp only [ren, Option.map_eq_some_iff] at h
    obtain ⟨l', h1, rfl⟩ := h
    simp only [RepA] at hr ⊢
    obtain ⟨b, h2, h3⟩ := hr
    exact ⟨b, hm _ _ _ h1 h2, h3⟩
  | .fn f a c, a', x, h, hr => by
    simp only [ren] at h
    split at h
    · rename_i a1 c1 h1 h2
      simp only [Option.some.injEq] at h; subst h
      simp only [RepA] at hr ⊢
      obtain ⟨va, vc, e1, e2, e3⟩ := hr
      exact ⟨va, vc, e1, renL_sound hm h1 e2, renL_sound hm h2 e3⟩
    · simp at h
  | .agg cs, a', x, h, hr => by
    simp only [ren, Option.map_eq_some_iff] at h
    obtain ⟨c, h1, rfl⟩ := h
    simp only [RepA] at hr ⊢
    obtain ⟨vs, e1, e2, e3⟩ := hr
    exact ⟨vs, e1, renL_sound hm h1 e2, e3⟩
  | .tup cs, a', x, h, hr => by
    simp only [ren, Option.map_eq_some_iff] at h
    obtain ⟨c, h1, rfl⟩ := h
    simp only [RepA] at hr ⊢
    obtain ⟨vs, e1, e2⟩ := hr
    exact ⟨vs, e1, renL_sound hm h1 e2⟩
  | .sl cs, a', x, h, hr => by
    simp only [ren, Option.map_eq_some_iff] at h
    obtain ⟨c, h1, rfl⟩ := h
    simp only [RepA] at hr ⊢
    obtain ⟨a, cc, vs, e1, e2, e3, e4⟩ := hr
    have hl := renL_sound hm h1 e2
    have h2 := hl.length
    have h3 := e2.length
    exact ⟨a, cc, vs, by rw [e1, ← h2, h3], hl, e3, e4⟩
  | .pt a, a', x, h, hr => by
    simp only [ren, Option.map_eq_some_iff] at h
    obtain ⟨c, h1, rfl⟩ := h
    simp only [RepA] at hr ⊢
    obtain ⟨b, o, y, e1, e2, e3, e4⟩ := hr
    exact ⟨b, o, y, e1, e2, ren_sound hm h1 e3, e4⟩
  | .undef, a', x, h, hr => by simp only [ren, Option.some.injEq] at h; subst h; simp [RepA]
  | .p v, a', x, h, hr => by simp only [ren, Option.some.injEq] at h; subst h; simpa [RepA] using hr
  | .own .., _, _, _, hr => by simp [RepA] at hr
  | .lent _, _, _, _, hr => by simp [RepA] at hr
  | .eref .., _, _, _, hr => by simp [RepA] at hr
theorem renL_sound {M : Mem} {B B' : List Nat} {m : Nat → Option Nat} (hm : ∀ l l' b, m l = some l' → B[l]? = some b → B'[l']? = some b) :
    ∀ {as as' : List AV} {xs : List Value}, renL m as = some as' → RepAs M B as xs → RepAs M B' as' xs
  | [], as', xs, h, hr => by
    simp only [renL, Option.some.injEq] at h; subst h
    cases xs <;> simp [RepAs] at hr ⊢
  | a :: as, as', xs, h, hr => by
    simp only [renL] at h
    split at h
    · rename_i a1 as1 h1 h2
      simp only [Option.some.injEq] at h; subst h
      cases xs with
      | nil => simp [RepAs] at hr
      | cons x xs =>
        simp only [RepAs] at hr ⊢
        exact ⟨ren_sound hm h1 hr.1, renL_sound hm h2 hr.2⟩
    · simp at h
end

omit [Base] in
theorem renL_length {m : Nat → Option Nat} : ∀ {as as' : List AV}, renL m as = some as' → as'.length = as.length
  | [], _, h => by simp only [renL, Option.some.injEq] at h; subst h; rfl
  | a :: as, _, h => by
    simp only [renL] at h
    split at h
    · rename_i a1 as1 h1 h2
      simp only [Option.some.injEq] at h; subst h
      simp [renL_length h2]
    · simp at h
omit [Base] in
theorem renL_get {m : Nat → Option Nat} : ∀ {as as' : List AV}, renL m as = some as' → ∀ (i : Nat) (a' : AV), as'[i]? = some a' → ∃ a, as[i]? = some a ∧ ren m a = some a'
  | [], _, h, i, a', hi => by simp only [renL, Option.some.injEq] at h; subst h; simp at hi
  | a :: as, _, h, i, a', hi => by
    simp only [renL] at h
    split at h
    · rename_i a1 as1 h1 h2
      simp only [Option.some.injEq] at h; subst h
      cases i with
      | zero => simp at hi; subst hi; exact ⟨a, by simp, h1⟩
      | succ i => simpa using renL_get h2 i a' (by simpa using hi)
    · simp at h
omit [Base] in
theorem ren_own {m : Nat → Option Nat} {a : AV} {fz sz xs} (h : ren m a = some (.own fz sz xs)) : a = .own fz sz xs := by
  cases a <;> simp only [ren, Option.map_eq_some_iff, Option.some.injEq, reduceCtorEq, and_false, exists_false] at h
  · simp [h]
  · split at h <;> simp at h

omit [Base] in
theorem findIx_some {l : Nat} : ∀ {ls : List Nat} {i n : Nat}, findIx l ls i = some n → i ≤ n ∧ ls[n - i]? = some l
  | [], _, _, h => by simp [findIx] at h
  | x :: r, i, n, h => by
    simp only [findIx] at h
    split at h
    · rename_i e
      simp only [Option.some.injEq] at h; subst h
      simp [e]
    · obtain ⟨h1, h2⟩ := findIx_some h
      refine ⟨by omega, ?_⟩
      rw [show n - i = (n - (i + 1)) + 1 by omega]
      simpa using h2
omit [Base] in
theorem findIx_none {l : Nat} : ∀ {ls : List Nat} {i : Nat}, findIx l ls i = none → l ∉ ls
  | [], _, _ => by simp
  | x :: r, i, h => by
    simp only [findIx] at h
    split at h
    · simp at h
    · rename_i e
      simp only [List.mem_cons, not_or]
      exact ⟨fun e' => e e'.symm, findIx_none h⟩
omit [Base] in
theorem findIx_at {l : Nat} : ∀ {ls : List Nat} {k : Nat} (i : Nat), ls.Nodup → ls[k]? = some l → findIx l ls i = some (i + k)
  | [], _, _, _, h => by simp at h
  | x :: r, k, i, hn, h => by
    simp only [findIx]
    cases k with
    | zero => simp at h; simp [h]
    | succ k =>
      simp at h
      have hx : x ≠ l := by
        intro e
        simp only [List.nodup_cons] at hn
        exact hn.1 (by rw [e]; exact List.mem_of_getElem? h)
      rw [if_neg hx, findIx_at (i + 1) (List.nodup_cons.1 hn).2 h]
      congr 1; omega

omit [Base] in
theorem addNew_nodup : ∀ (r seen : List Nat), seen.Nodup → (addNew r seen).Nodup
  | [], _, h => h
  | l :: r, seen, h => by
    simp only [addNew]
    split
    · exact addNew_nodup r seen h
    · rename_i hc
      refine addNew_nodup r _ ?_
      refine List.nodup_append.2 ⟨h, by simp, ?_⟩
      intro a ha b hb
      simp only [List.mem_singleton] at hb
      subst hb
      intro e
      subst e
      exact hc (by simpa using ha)
omit [Base] in
theorem reach_nodup (h : List Obj) : ∀ (n i : Nat) (seen : List Nat), seen.Nodup → (reach h n i seen).Nodup
  | 0, _, _, hs => hs
  | n + 1, i, seen, hs => by
    simp only [reach]
    split
    · exact hs
    · exact reach_nodup h n _ _ (addNew_nodup _ _ hs)

omit [Base] in
theorem pickObjs_get {h : List Obj} : ∀ {ls : List Nat} {os : List Obj}, pickObjs h ls = some os → os.length = ls.length ∧ ∀ (i l : Nat), ls[i]? = some l → ∃ o, h[l]? = some o ∧ os[i]? = some o
  | [], _, hp => by simp only [pickObjs, Option.some.injEq] at hp; subst hp; simp
  | l :: r, _, hp => by
    simp only [pickObjs] at hp
    split at hp
    · rename_i o q h1 h2
      simp only [Option.some.injEq] at hp; subst hp
      obtain ⟨i1, i2⟩ := pickObjs_get h2
      refine ⟨by simp [i1], fun i l' hi => ?_⟩
      cases i with
      | zero => simp at hi; subst hi; exact ⟨o, h1, by simp⟩
      | succ i => simpa using i2 i l' (by simpa using hi)
    · simp at hp
omit [Base] in
theorem renObjs_get {m : Nat → Option Nat} : ∀ {os os' : List Obj}, renObjs m os = some os' → os'.length = os.length ∧
    ∀ (i : Nat) (o' : Obj), os'[i]? = some o' → ∃ o cs, os[i]? = some o ∧ renL m o.cells = some cs ∧ o' = { o with cells := cs }
  | [], _, h => by simp only [renObjs, Option.some.injEq] at h; subst h; simp
  | o :: r, _, h => by
    simp only [renObjs] at h
    split at h
    · rename_i o1 r1 h1 h2
      simp only [Option.some.injEq] at h; subst h
      obtain ⟨i1, i2⟩ := renObjs_get h2
      refine ⟨by simp [i1], fun i o' hi => ?_⟩
      cases i with
      | zero =>
        simp at hi; subst hi
        simp only [renObj, Option.map_eq_some_iff] at h1
        obtain ⟨cs, e1, e2⟩ := h1
        exact ⟨o, cs, by simp, e1, e2.symm⟩
      | succ i => simpa using i2 i o' (by simpa using hi)
    · simp at h

omit [Base] in
/-- An object's meaning under new numbers. -/
theorem ObjRep.ren {G G' : Gh} {w : World} {l l' b : Nat} {o : Obj} {cs : List AV} {m : Nat → Option Nat} (h : ObjRep G w l b o) (hc : renL m o.cells = some cs) (hM : G'.M = G.M)
    (hm : ∀ l l' b, m l = some l' → G.B[l]? = some b → G'.B[l']? = some b)
    (hZ : ∀ k b, G.Z b = some (.k (.c l k)) → G'.Z b = some (.k (.c l' k))) : ObjRep G' w l' b { o with cells := cs } := by
  unfold ObjRep at h ⊢
  simp only
  split
  · rename_i hk
    simp only [hk] at h
    obtain ⟨arr, T, h1, h2, h3⟩ := h
    refine ⟨arr, T, h1, by rw [renL_length hc]; exact h2, fun k a' ha' => ?_⟩
    obtain ⟨a, e1, e2⟩ := renL_get hc k a' ha'
    obtain ⟨x, f1, f2, f3⟩ := h3 k a e1
    refine ⟨x, f1, f2, ?_⟩
    have nonown : isOwn a' = false → RepC G' w (.c l' k) a' x := by
      intro hn
      have ha : isOwn a = false := by
        cases a with
        | own fz sz xs => simp only [Abs.ren, Option.some.injEq] at e2; subst e2; simp [isOwn] at hn
        | _ => rfl
      have f4 : RepA G.M G.B a x := by cases a <;> first | exact f3 | simp [isOwn] at ha
      have f5 := ren_sound hm e2 f4
      rw [← hM] at f5
      cases a' <;> first | exact f5 | simp [isOwn] at hn
    cases ho : isOwn a' with
    | false => exact nonown ho
    | true =>
      cases a' <;> simp [isOwn] at ho
      rename_i fz sz xs
      have := ren_own e2
      subst this
      simp only [RepC] at f3 ⊢
      rcases f3 with f3 | ⟨b1, c, vs, arr1, T1, g1, g2, g3, g4, g5, g6, g7, g8, g9⟩
      · exact .inl f3
      · exact .inr ⟨b1, c, vs, arr1, T1, g1, g2, hZ _ _ g3, by rw [hM]; exact g4, g5, g6, g7, by rw [hM]; exact g8, by rw [hM]; exact g9⟩
  · rename_i hk
    simp only [hk] at h
    obtain ⟨st, pos, h1, h2, h3⟩ := h
    rw [h1] at hc
    simp only [renL, Abs.ren, Option.some.injEq] at hc
    exact ⟨st, pos, hc.symm, h2, h3⟩
  · rename_i hk
    simp only [hk] at h
    obtain ⟨es, es', clock, h1, h2, h3, h4⟩ := h
    rw [h1] at hc
    simp only [renL, Abs.ren, Option.some.injEq] at hc
    exact ⟨es, es', clock, hc.symm, h2, by rw [hM]; exact h3, h4⟩
end Go.Abs

namespace Go.Abs
open Go.RowKit
variable [Base]

/-- What the callee knows of the memory. -/
def Gc (G : Gh) (ls : List Nat) : Gh :=
  ⟨G.M, fun b => match G.Z b with
    | some (.o l) => (findIx l ls 0).map Own.o
    | some (.k (.c l i)) => (findIx l ls 0).map fun l' => Own.k (.c l' i)
    | _ => none, ls.map fun l => G.B.getD l 0⟩

omit [Base] in
theorem getD_of {l : List Nat} {i b : Nat} (h : l[i]? = some b) : l.getD i 0 = b := by simp [List.getD_eq_getElem?_getD, h]

theorem R.forCall {F G s t w} (hR : R F G s t w) {ls : List Nat} (hn : ls.Nodup) {objs objs' : List Obj} (hp : pickObjs s.heap ls = some objs)
    (hr : renObjs (fun l => findIx l ls 0) objs = some objs') : R F0 (Gc G ls) (S0 objs') #[] w := by
  obtain ⟨p1, p2⟩ := pickObjs_get hp
  obtain ⟨q1, q2⟩ := renObjs_get hr
  have hm : ∀ l l' b, findIx l ls 0 = some l' → G.B[l]? = some b → (Gc G ls).B[l']? = some b := by
    intro l l' b h hb
    obtain ⟨_, h2⟩ := findIx_some h
    simp only [Nat.sub_zero] at h2
    simp [Gc, h2, hb]
  refine ⟨hR.agree, hR.freshM, fun q o h => ⟨(hR.base q o h).1, by simp only [Gc, (hR.base q o h).2]⟩, ?_, by simp [Gc, S0, q1, p1], ?_, ?_, ?_, ?_⟩
  · intro b hb
    apply hR.freshZ
    intro e
    simp [Gc, e] at hb
  · intro κ κ' n h
    cases κ <;> simp [slotK, F0] at h
  · intro i a h; simp [S0] at h
  · intro i a h; simp [S0] at h
  · intro i o' h
    simp only [S0] at h
    obtain ⟨o, cs, h1, h2, rfl⟩ := q2 i o' h
    have hi : i < ls.length := by rw [← p1]; exact (List.getElem?_eq_some_iff.1 h1).1
    obtain ⟨o1, h3, h4⟩ := p2 i _ (List.getElem?_eq_getElem hi)
    rw [h1] at h4; simp at h4; subst h4
    obtain ⟨b, e1, e2, e3, e4⟩ := hR.objs _ _ h3
    have hix : findIx ls[i] ls 0 = some i := by simpa using findIx_at 0 hn (List.getElem?_eq_getElem hi)
    refine ⟨b, hm _ _ _ hix e1, by simp [Gc, e2, hix], e3, ?_⟩
    exact e4.ren h2 rfl hm (fun k q hq => by simp [Gc, hq, hix])

omit [Base] in
theorem putObjs_length : ∀ (h : List Obj) (ls : List Nat) (q : List Obj), (putObjs h ls q).length = h.length
  | h, [], q => by cases q <;> rfl
  | h, _ :: _, [] => rfl
  | h, l :: r, o :: q => by simp only [putObjs]; rw [putObjs_length]; simp
omit [Base] in
theorem putObjs_other {l : Nat} : ∀ (h : List Obj) (ls : List Nat) (q : List Obj), l ∉ ls → (putObjs h ls q)[l]? = h[l]?
  | h, [], q, _ => by cases q <;> rfl
  | h, _ :: _, [], _ => rfl
  | h, x :: r, o :: q, hl => by
    have hl1 : l ≠ x := fun e => hl (by simp [e])
    have hl2 : l ∉ r := fun e => hl (by simp [e])
    simp only [putObjs]
    rw [putObjs_other _ r q hl2]
    rw [List.getElem?_set, if_neg (fun e => hl1 e.symm)]
omit [Base] in
theorem putObjs_at {l : Nat} : ∀ (h : List Obj) (ls : List Nat) (q : List Obj) (i : Nat), ls.Nodup → ls[i]? = some l → i < q.length → l < h.length → (putObjs h ls q)[l]? = q[i]?
  | h, [], q, i, _, hi, _, _ => by simp at hi
  | h, _ :: _, [], i, _, _, hq, _ => by simp at hq
  | h, x :: r, o :: q, i, hn, hi, hq, hl => by
    simp only [List.nodup_cons] at hn
    simp only [putObjs]
    cases i with
    | zero =>
      simp at hi; subst hi
      rw [putObjs_other _ r q hn.1]
      simp [hl]
    | succ i =>
      simp at hi hq ⊢
      exact putObjs_at _ r q i hn.2 hi hq (by simpa using hl)

omit [Base] in
theorem dropL_spec (ls : List Nat) (a : AV) : dropL ls a = .undef ∨ (dropL ls a = a ∧ ∀ l k, loanOf a = some (.c l k) → l ∉ ls) := by
  cases a with
  | lent k =>
    cases k with
    | c l k =>
      simp only [dropL]
      by_cases h : ls.contains l = true
      · left; rw [if_pos h]
      · right; rw [if_neg h]; refine ⟨rfl, fun l' k' e => ?_⟩
        simp only [loanOf, Option.some.injEq, Key.c.injEq] at e
        rw [← e.1]; simpa using h
    | _ => right; exact ⟨rfl, fun l' k' e => by simp [loanOf] at e⟩
  | eref k i o =>
    cases k with
    | c l k =>
      simp only [dropL]
      by_cases h : ls.contains l = true
      · left; rw [if_pos h]
      · right; rw [if_neg h]; refine ⟨rfl, fun l' k' e => ?_⟩
        simp only [loanOf, Option.some.injEq, Key.c.injEq] at e
        rw [← e.1]; simpa using h
    | _ => right; exact ⟨rfl, fun l' k' e => by simp [loanOf] at e⟩
  | _ => right; exact ⟨rfl, fun l' k' e => by simp [loanOf] at e⟩
omit [Base] in
theorem dropL_own (ls : List Nat) (a : AV) (h : isOwn a = true) : dropL ls a = a := by cases a <;> simp [isOwn] at h; rfl

/-- Who owns what, when the call is over. -/
def Gb (G : Gh) (w : World) (ls : List Nat) (n k N : Nat) (G1 : Gh) : Gh :=
  ⟨G1.M, fun b => if b < w.heap.size ∧ (Gc G ls).Z b = none then G.Z b else match G1.Z b with
    | some (.o l) => (backTo ls n k l).map Own.o
    | some (.k (.c l i)) => (backTo ls n k l).map fun l' => Own.k (.c l' i)
    | some (.k (.t 0)) => some (.k (.t N))
    | _ => none, G.B ++ (G1.B.take k).drop ls.length⟩

theorem R.backCall {F G s t w} (hR : R F G s t w) {ls : List Nat} (hn : ls.Nodup) {objs : List Obj} (hp : pickObjs s.heap ls = some objs) {N : Nat}
    {G1 : Gh} {w1 : World} {h' hk h'' : List Obj} {r r' : AV} {v : Value} (hR1 : R F0 G1 (S0 h') #[] w1) (hr : RepC G1 w1 (.t 0) r v) (hE : Ext (Gc G ls) w G1 w1)
    (hkp : ∃ m, ls.length ≤ m ∧ hk = h'.take m) (hren : ren (backTo ls s.heap.length hk.length) r = some r')
    (hrens : renObjs (backTo ls s.heap.length hk.length) hk = some h'') :
    R F (Gb G w ls s.heap.length hk.length N G1) { vars := s.vars.map (dropL ls), tmps := s.tmps.map (dropL ls), heap := putObjs s.heap ls h'' ++ h''.drop ls.length } t w1 ∧
    RepT F (Gb G w ls s.heap.length hk.length N G1) { vars := s.vars.map (dropL ls), tmps := s.tmps.map (dropL ls), heap := putObjs s.heap ls h'' ++ h''.drop ls.length } t w1 (.t N) r' v ∧
    Ext G w (Gb G w ls s.heap.length hk.length N G1) w1 := by
  obtain ⟨p1, p2⟩ := pickObjs_get hp
  obtain ⟨q1, q2⟩ := renObjs_get hrens
  obtain ⟨m, hm0, hkm⟩ := hkp
  have hB1 : G1.B.length = h'.length := hR1.hB
  have hls1 : ls.length ≤ h'.length := by
    rw [← hB1]
    by_cases h0 : ls.length = 0
    · omega
    · have hl : ls.length - 1 < (Gc G ls).B.length := by simp [Gc]; omega
      have := (List.getElem?_eq_some_iff.1 (hE.pre _ _ (List.getElem?_eq_getElem hl))).1
      omega
  have hkl : hk.length ≤ h'.length := by rw [hkm]; simp; omega
  have hlk : ls.length ≤ hk.length := by rw [hkm]; simp; omega
  have hkget : ∀ (i : Nat) (o : Obj), hk[i]? = some o → h'[i]? = some o := by
    intro i o h
    rw [hkm, List.getElem?_take] at h
    split at h
    · exact h
    · simp at h
  have hBl : G.B.length = s.heap.length := hR.hB
  have hlsl : ∀ (i l : Nat), ls[i]? = some l → l < s.heap.length := by
    intro i l h
    obtain ⟨o, h1, _⟩ := p2 i l h
    exact (List.getElem?_eq_some_iff.1 h1).1
  -- not owned by the callee
  have unow : ∀ b, b < w.heap.size → (Gc G ls).Z b = none → w1.heap[b]? = w.heap[b]? ∧ G1.Z b = none ∧ (∀ off, G1.M b off = G.M b off) ∧ (Gb G w ls s.heap.length hk.length N G1).Z b = G.Z b := by
    intro b hb hz
    obtain ⟨h1, h2, h3⟩ := hE.unowned b hb hz
    exact ⟨h1, h2, h3, by simp only [Gb]; rw [if_pos ⟨hb, hz⟩]⟩
  have owned : ∀ b, G1.Z b ≠ none → ¬ (b < w.heap.size ∧ (Gc G ls).Z b = none) := fun b h hc => h (unow b hc.1 hc.2).2.1
  have hpre : ∀ (l b : Nat), G.B[l]? = some b → (Gb G w ls s.heap.length hk.length N G1).B[l]? = some b := by
    intro l b h
    simp only [Gb]
    rw [List.getElem?_append_left (List.getElem?_eq_some_iff.1 h).1]; exact h
  have hback : ∀ l l' b, backTo ls s.heap.length hk.length l = some l' → G1.B[l]? = some b → (Gb G w ls s.heap.length hk.length N G1).B[l']? = some b := by
    intro l l' b h hb
    unfold backTo at h
    split at h
    · rename_i hl
      have hl' := hlsl l l' h
      have h1 : (Gc G ls).B[l]? = some (G.B.getD l' 0) := by simp [Gc, h]
      have h2 := hE.pre _ _ h1
      rw [hb] at h2; simp only [Option.some.injEq] at h2
      refine hpre _ _ ?_
      rw [h2, List.getD_eq_getElem?_getD, List.getElem?_eq_getElem (by rw [hBl]; exact hl')]; rfl
    · rename_i hl
      split at h
      · rename_i hlk'
        simp only [Option.some.injEq] at h; subst h
        simp only [Gb]
        rw [List.getElem?_append_right (by rw [hBl]; omega), hBl, List.getElem?_drop, show ls.length + (s.heap.length + (l - ls.length) - s.heap.length) = l by omega, List.getElem?_take, if_pos hlk']
        exact hb
      · simp at h
  have hM : ∀ b o v, G.M b o = some v → (Gb G w ls s.heap.length hk.length N G1).M b o = some v := hE.mono
  have hzst : ∀ κ, (∀ l i, κ = .c l i → findIx l ls 0 = none) → ∀ b, G.Z b = some (.k κ) → (Gb G w ls s.heap.length hk.length N G1).Z b = some (.k κ) ∧ w1.heap[b]? = w.heap[b]? ∧ ∀ off, (Gb G w ls s.heap.length hk.length N G1).M b off = G.M b off := by
    intro κ hκ b h
    have hb := hR.freshZ b (by rw [h]; simp)
    have hz : (Gc G ls).Z b = none := by
      cases κ with
      | c l i => simp [Gc, h, hκ l i rfl]
      | v i => simp [Gc, h]
      | t i => simp [Gc, h]
    obtain ⟨h1, h2, h3, h4⟩ := unow b hb hz
    exact ⟨by rw [h4]; exact h, h1, h3⟩
  have hix : ∀ l, l ∉ ls → findIx l ls 0 = none := by
    intro l hl
    cases h : findIx l ls 0 with
    | none => rfl
    | some i => obtain ⟨_, h2⟩ := findIx_some h; exact absurd (List.mem_of_getElem? h2) hl
  have hplen := putObjs_length s.heap ls h''
  have keepT : ∀ κ a x, (∀ l i, κ ≠ .c l i) → RepT F G s t w κ a x → RepT F (Gb G w ls s.heap.length hk.length N G1) { vars := s.vars.map (dropL ls), tmps := s.tmps.map (dropL ls), heap := putObjs s.heap ls h'' ++ h''.drop ls.length } t w1 κ (dropL ls a) x := by
    intro κ a x hκ h
    rcases dropL_spec ls a with e | ⟨e, hl⟩
    · rw [e]; simp [RepT, RepA]
    · rw [e]
      refine h.keep hM hpre (hzst κ fun l i e => absurd e (hκ l i)) fun k hk' ho => ?_
      cases k with
      | v i =>
        refine ⟨?_, rfl⟩
        simp only [getK, List.getD_eq_getElem?_getD, List.getElem?_map] at ho ⊢
        cases hi : s.vars[i]? with
        | none => rfl
        | some c => simp [hi] at ho ⊢; exact dropL_own _ _ ho
      | t i =>
        refine ⟨?_, rfl⟩
        simp only [getK, List.getD_eq_getElem?_getD, List.getElem?_map] at ho ⊢
        cases hi : s.tmps[i]? with
        | none => rfl
        | some c => simp [hi] at ho ⊢; exact dropL_own _ _ ho
      | c l i =>
        have hnl := hl l i hk'
        have hls := own_there ho
        refine ⟨?_, ?_⟩
        · simp only [getK]
          rw [List.getElem?_append_left (by rw [hplen]; exact hls), putObjs_other _ _ _ hnl]
        · have hb : G.B[l]? = some G.B[l] := List.getElem?_eq_getElem (by rw [hBl]; exact hls)
          simp only [cvK, hpre _ _ hb, hb, Option.bind_some]
          obtain ⟨b, e1, e2, _, _⟩ := hR.objs l _ (List.getElem?_eq_getElem hls)
          rw [hb] at e1; simp only [Option.some.injEq] at e1
          have hz : (Gc G ls).Z b = none := by simp [Gc, e2, hix l hnl]
          rw [e1]
          exact cell_same (unow b (hR.freshZ b (by rw [e2]; simp)) hz).1 _
  have hnew : ∀ (i l : Nat) (o : Obj), backTo ls s.heap.length hk.length i = some l → h''[i]? = some o → ∃ b, (Gb G w ls s.heap.length hk.length N G1).B[l]? = some b ∧ (Gb G w ls s.heap.length hk.length N G1).Z b = some (.o l) ∧
      (∀ off, (Gb G w ls s.heap.length hk.length N G1).M b off = none) ∧ ObjRep (Gb G w ls s.heap.length hk.length N G1) w1 l b o := by
    intro i l o hb hi
    obtain ⟨o1, cs, h1, h2, rfl⟩ := q2 i o hi
    obtain ⟨b, e1, e2, e3, e4⟩ := hR1.objs i o1 (hkget _ _ h1)
    refine ⟨b, hback _ _ _ hb e1, ?_, e3, ?_⟩
    · simp only [Gb]
      rw [if_neg (owned b (by rw [e2]; simp)), e2]
      simp [hb]
    · refine e4.ren h2 rfl hback fun k q hq => ?_
      simp only [Gb]
      rw [if_neg (owned q (by rw [hq]; simp)), hq]
      simp [hb]
  have hbase : ∀ q o, Base.H0 q = some o → w1.heap[q]? = some o ∧ (Gb G w ls s.heap.length hk.length N G1).Z q = none := fun q o h => by
    obtain ⟨h1, h2⟩ := hR.base q o h
    refine ⟨(hR1.base q o h).1, ?_⟩
    simp only [Gb]
    rw [if_pos ⟨(Array.getElem?_eq_some_iff.1 h1).1, by simp only [Gc, h2]⟩]
    exact h2
  refine ⟨⟨hR1.agree, hR1.freshM, hbase, ?_, ?_, hR.inj, ?_, ?_, ?_⟩, ?_, ?_⟩
  · intro b hb
    simp only [Gb] at hb
    split at hb
    · have := hR.freshZ b hb; have := hE.size; omega
    · apply hR1.freshZ
      intro e; rw [e] at hb; simp at hb
  · simp only [Gb, List.length_append, List.length_drop, List.length_take, hplen, q1, hBl, hB1]; omega
  · intro i a h
    simp only [List.getElem?_map, Option.map_eq_some_iff] at h
    obtain ⟨a0, h1, rfl⟩ := h
    obtain ⟨n, x, e1, e2, e3⟩ := hR.vars i a0 h1
    exact ⟨n, x, e1, e2, keepT _ _ _ (by simp) e3⟩
  · intro i a h
    simp only [List.getElem?_map, Option.map_eq_some_iff] at h
    obtain ⟨a0, h1, rfl⟩ := h
    rcases hR.tmps i a0 h1 with rfl | ⟨n, x, e1, e2, e3⟩
    · exact .inl rfl
    · exact .inr ⟨n, x, e1, e2, keepT _ _ _ (by simp) e3⟩
  · intro l o h
    by_cases hl : l < s.heap.length
    · simp only at h
      rw [List.getElem?_append_left (by rw [hplen]; exact hl)] at h
      by_cases hin : l ∈ ls
      · obtain ⟨i, hi⟩ := List.mem_iff_getElem?.1 hin
        have hil := (List.getElem?_eq_some_iff.1 hi).1
        rw [putObjs_at _ _ _ i hn hi (by rw [q1]; omega) hl] at h
        exact hnew i l o (by unfold backTo; rw [if_pos hil]; exact hi) h
      · rw [putObjs_other _ _ _ hin] at h
        obtain ⟨b, e1, e2, e3, e4⟩ := hR.objs l o h
        have hz : (Gc G ls).Z b = none := by simp [Gc, e2, hix l hin]
        obtain ⟨u1, u2, u3, u4⟩ := unow b (hR.freshZ b (by rw [e2]; simp)) hz
        refine ⟨b, hpre _ _ e1, by rw [u4]; exact e2, fun off => ?_, ?_⟩
        · show G1.M b off = none
          rw [u3]; exact e3 off
        · exact e4.keep hM hpre u1 fun k => hzst (.c l k) fun l' i e => by injection e with e _; rw [← e]; exact hix l hin
    · simp only at h
      rw [List.getElem?_append_right (by rw [hplen]; omega), hplen, List.getElem?_drop] at h
      have hlt := (List.getElem?_eq_some_iff.1 h).1
      rw [q1] at hlt
      refine hnew (ls.length + (l - s.heap.length)) l o ?_ h
      unfold backTo
      rw [if_neg (by omega), if_pos hlt]
      congr 1; omega
  · cases ho : isOwn r with
    | true =>
      cases r <;> simp [isOwn] at ho
      simp only [ren, Option.some.injEq] at hren; subst hren
      simp only [RepC] at hr
      simp only [RepT]
      rcases hr with hr | ⟨b1, c, vs, arr1, T1, g1, g2, g3, g4, g5, g6, g7, g8, g9⟩
      · exact .inl hr
      · refine .inr ⟨b1, c, vs, arr1, T1, g1, g2, ?_, g4, g5, g6, g7, g8, g9⟩
        simp only [Gb]
        rw [if_neg (owned b1 (by rw [g3]; simp))]
        simp [g3]
    | false =>
      have hr2 : RepA G1.M G1.B r v := by cases r <;> first | exact hr | simp [isOwn] at ho
      exact RepA_T (ren_sound hback hren hr2)
  · refine ⟨hE.os, hE.tape, hE.output, hE.size, hE.mono, fun b hb hz => ?_, hpre⟩
    have hz' : (Gc G ls).Z b = none := by simp [Gc, hz]
    obtain ⟨u1, u2, u3, u4⟩ := unow b hb hz'
    exact ⟨u1, by rw [u4]; exact hz, u3⟩
end Go.Abs

namespace Go.Abs
open Go.RowKit
variable [Base]

omit [Base] in
omit [Base] in
mutual
theorem RepA_nb {M : Mem} {B B' : List Nat} : ∀ {a : AV} {x : Value}, refs a = [] → RepA M B a x → RepA M B' a x
  | .p _, _, _, hr => by simpa [RepA] using hr
  | .ref .., _, h, _ => by simp [refs] at h
  | .mref .., _, h, _ => by simp [refs] at h
  | .fn f a c, x, h, hr => by
    simp only [refs, List.append_eq_nil_iff] at h
    simp only [RepA] at hr ⊢
    obtain ⟨va, vc, h1, h2, h3⟩ := hr
    exact ⟨va, vc, h1, RepAs_nb h.1 h2, RepAs_nb h.2 h3⟩
  | .agg _, _, h, hr => by simp only [refs] at h; simp only [RepA] at hr ⊢; obtain ⟨a, h1, h2, h3⟩ := hr; exact ⟨a, h1, RepAs_nb h h2, h3⟩
  | .tup _, _, h, hr => by simp only [refs] at h; simp only [RepA] at hr ⊢; obtain ⟨a, h1, h2⟩ := hr; exact ⟨a, h1, RepAs_nb h h2⟩
  | .sl _, _, h, hr => by simp only [refs] at h; simp only [RepA] at hr ⊢; obtain ⟨a, c, vs, h1, h2, h3, h4⟩ := hr; exact ⟨a, c, vs, h1, RepAs_nb h h2, h3, h4⟩
  | .pt _, _, h, hr => by simp only [refs] at h; simp only [RepA] at hr ⊢; obtain ⟨b, o, y, h1, h2, h3, h4⟩ := hr; exact ⟨b, o, y, h1, h2, RepA_nb h h3, h4⟩
  | .undef, _, _, _ => by simp [RepA]
  | .own .., _, _, hr => by simp [RepA] at hr
  | .lent _, _, _, hr => by simp [RepA] at hr
  | .eref .., _, _, hr => by simp [RepA] at hr
theorem RepAs_nb {M : Mem} {B B' : List Nat} : ∀ {as : List AV} {xs : List Value}, refsL as = [] → RepAs M B as xs → RepAs M B' as xs
  | [], [], _, _ => by simp [RepAs]
  | a :: as, x :: xs, h, hr => by
    simp only [refsL, List.append_eq_nil_iff] at h
    simp only [RepAs] at hr ⊢
    exact ⟨RepA_nb h.1 hr.1, RepAs_nb h.2 hr.2⟩
  | [], _ :: _, _, hr => by simp [RepAs] at hr
  | _ :: _, [], _, hr => by simp [RepAs] at hr
end
omit [Base] in
omit [Base] in
mutual
theorem ren_nb {M : Mem} {B : List Nat} {m : Nat → Option Nat} : ∀ {a : AV} {x : Value}, refs a = [] → RepA M B a x → ren m a = some a
  | .p _, _, _, _ => rfl
  | .ref .., _, h, _ => by simp [refs] at h
  | .mref .., _, h, _ => by simp [refs] at h
  | .fn f a c, _, h, hr => by
    simp only [refs, List.append_eq_nil_iff] at h
    simp only [RepA] at hr
    obtain ⟨va, vc, _, h2, h3⟩ := hr
    simp only [ren, renL_nb h.1 h2, renL_nb h.2 h3]
  | .agg _, _, h, hr => by
    simp only [refs] at h
    simp only [RepA] at hr
    obtain ⟨a, _, h2, _⟩ := hr
    simp only [ren, renL_nb h h2, Option.map_some]
  | .tup _, _, h, hr => by
    simp only [refs] at h
    simp only [RepA] at hr
    obtain ⟨a, _, h2⟩ := hr
    simp only [ren, renL_nb h h2, Option.map_some]
  | .sl _, _, h, hr => by
    simp only [refs] at h
    simp only [RepA] at hr
    obtain ⟨a, c, vs, _, h2, _⟩ := hr
    simp only [ren, renL_nb h h2, Option.map_some]
  | .pt _, _, h, hr => by
    simp only [refs] at h
    simp only [RepA] at hr
    obtain ⟨b, o, y, _, _, h3, _⟩ := hr
    simp only [ren, ren_nb h h3, Option.map_some]
  | .undef, _, _, _ => rfl
  | .own .., _, _, hr => by simp [RepA] at hr
  | .lent _, _, _, hr => by simp [RepA] at hr
  | .eref .., _, _, hr => by simp [RepA] at hr
theorem renL_nb {M : Mem} {B : List Nat} {m : Nat → Option Nat} : ∀ {as : List AV} {xs : List Value}, refsL as = [] → RepAs M B as xs → renL m as = some as
  | [], _, _, _ => rfl
  | a :: as, x :: xs, h, hr => by
    simp only [refsL, List.append_eq_nil_iff] at h
    simp only [RepAs] at hr
    simp only [renL, ren_nb h.1 hr.1, renL_nb h.2 hr.2]
  | _ :: _, [], _, hr => by simp [RepAs] at hr
end

def FnOk (P : Program) (f : Nat) : Prop := ∃ fn, P.funcs[f]? = some fn ∧ (fn.name == "runtime.NumGoroutine") = false ∧ fn.body.isNone = false

section
variable {P : Program} {call : Calls} (hC : CallSound P call)
include hC

theorem callRefs_sound {F G s t w} (hR : R F G s t w) {f : Nat} {args : List AV} {vs : List Value} (hA : RepAs G.M G.B args vs) {ls : List Nat} (hn : ls.Nodup) {a : AV} {s' : St}
    (h : callRefs call s f args ls = some (a, s')) (N : Nat) : FnOk P f ∧ Go.Calls P f vs.toArray w fun e w' => ∃ v G', e = .returned v ∧ R F G' s' t w' ∧ RepT F G' s' t w' (.t N) a v ∧ Ext G w G' w' := by
  unfold callRefs at h
  split at h
  · rename_i args' objs' h1 h2
    simp only [Option.bind_eq_some_iff] at h2
    obtain ⟨objs, h2, h3⟩ := h2
    split at h
    · rename_i r h' hcall
      split at h
      · rename_i r' h'' h4 h5
        simp only [Option.some.injEq, Prod.mk.injEq] at h
        obtain ⟨rfl, rfl⟩ := h
        obtain ⟨c1, c2⟩ := hC _ _ _ _ _ hcall
        refine ⟨c1, ?_⟩
        have hRc := hR.forCall hn h2 h3
        have hAc : RepAs (Gc G ls).M (Gc G ls).B args' vs := by
          refine renL_sound ?_ h1 hA
          intro l l' b h hb
          obtain ⟨_, h6⟩ := findIx_some h
          simp only [Nat.sub_zero] at h6
          simp [Gc, h6, hb]
        refine (c2 (Gc G ls) w vs hRc hAc).mono fun e w1 he => ?_
        obtain ⟨v, G1, rfl, hR1, hr, hE⟩ := he
        have := hR.backCall hn h2 (N := N) hR1 hr hE (hk := keptObjs ls r h') (h'' := h'') (r' := r') (by
          unfold keptObjs
          split
          · exact ⟨max ls.length h'.length, Nat.le_max_left _ _, (List.take_of_length_le (Nat.le_max_right _ _)).symm⟩
          · exact ⟨ls.length, Nat.le_refl _, rfl⟩) h4 h5
        exact ⟨v, _, rfl, this.1, this.2.1, this.2.2⟩
      · simp at h
    · simp at h
  · simp at h

theorem doCall_sound {F G s t w} (hR : R F G s t w) {f : Nat} {args : List AV} {vs : List Value} (hA : RepAs G.M G.B args vs) {a : AV} {s' : St}
    {q : Bool} (h : doCall call s q f args = some (a, s')) (N : Nat) : FnOk P f ∧ Go.Calls P f vs.toArray w fun e w' => ∃ v G', e = .returned v ∧ R F G' s' t w' ∧ RepT F G' s' t w' (.t N) a v ∧ Ext G w G' w' := by
  unfold doCall at h
  split at h
  · rename_i hempty
    have hrefs : refsL args = [] := by simpa using hempty
    split at h
    · rename_i r h' hcall
      split at h
      · rename_i hre
        have hre' : refs r = [] := by simpa using hre
        simp only [Option.some.injEq, Prod.mk.injEq] at h
        obtain ⟨rfl, rfl⟩ := h
        obtain ⟨c1, c2⟩ := hC _ _ _ _ _ hcall
        refine ⟨c1, ?_⟩
        have hRc := hR.forCall (ls := []) (by simp) (objs := []) (objs' := []) rfl rfl
        refine (c2 (Gc G []) w vs hRc (RepAs_nb hrefs hA)).mono fun e w1 he => ?_
        obtain ⟨v, G1, rfl, hR1, hr, hE⟩ := he
        have drop0 : ∀ a, dropL [] a = a := by
          intro a
          rcases dropL_spec [] a with e | ⟨e, _⟩
          · cases a with
            | lent k => cases k <;> simp [dropL]
            | eref k _ _ => cases k <;> simp [dropL]
            | _ => rfl
          · exact e
        have hr' : ren (backTo [] s.heap.length ([] : List Obj).length) r = some r := by
          cases ho : isOwn r with
          | true => cases r <;> simp [isOwn] at ho; rfl
          | false =>
            have hr2 : RepA G1.M G1.B r v := by cases r <;> first | exact hr | simp [isOwn] at ho
            exact ren_nb hre' hr2
        have := hR.backCall (ls := []) (by simp) (objs := []) rfl (N := N) hR1 hr hE (hk := []) (h'' := []) (r' := r) ⟨0, Nat.le_refl _, by simp⟩ hr' rfl
        have hs : ({ vars := s.vars.map (dropL []), tmps := s.tmps.map (dropL []), heap := putObjs s.heap [] [] ++ ([] : List Obj).drop ([] : List Nat).length } : St) = s := by
          have hid : (dropL []) = (id : AV → AV) := funext drop0
          cases s
          simp [hid, putObjs]
        rw [hs] at this
        exact ⟨v, _, rfl, this.1, this.2.1, this.2.2⟩
      · split at h
        · simp at h
        · exact callRefs_sound hC hR hA (by simp) h N
    · simp at h
  · split at h
    · simp at h
    exact callRefs_sound hC hR hA (reach_nodup _ _ _ _ (addNew_nodup _ _ (by simp))) h N
end
end Go.Abs

namespace Go.Abs
open Go.RowKit
variable [Base]

/-- What an operation owes, where its value may be dropped. -/
def OpS' (P : Program) (F : Fr) (co : Oper) (o : AOp) (call : Calls) : Prop :=
  ∀ (G : Gh) (s : St) (t : Array Value) (w : World) (df : List Deferred) (a : AV) (s' : St) (N : Nat), s.tmps.length ≤ N → R F G s t w → evOp call o s = some (a, s') →
    ∀ (next : Act → World → Prop) (Q : Exit → Act → World → Prop),
      (∀ (G' : Gh) (w' : World) (v : Value), R F G' s' t w' → RepT F G' s' t w' (.t N) a v → Ext G w G' w' → next ((⟨t, df⟩ : Act).put co.dst v) w') →
      co.wp P ⟨t, df⟩ w next Q

theorem OpS.weak {P F co o call} (h : OpS P F co o call) : OpS' P F co o call :=
  fun G s t w df a s' N hN hR hev next Q hk => h G s t w df a s' N hN hR hev next Q fun G' w' v h1 h2 _ h4 => hk G' w' v h1 h2 h4

section
variable {P : Program} {F : Fr} {co : Oper} {call : Calls}

omit [Base] in
theorem run_callFunc {f : Nat} {args : Array Value} {w : World} (h : FnOk P f) : (callFunc f args).run P w = .ok (.enter f args) w := by
  obtain ⟨fn, h1, h2, h3⟩ := h
  have h2' : fn.name ≠ "runtime.NumGoroutine" := by simpa using h2
  have h3' : fn.body ≠ none := by intro e; simp [e] at h3
  simp [callFunc, Sem.run_bind, Result.andThen, h1, h2', h3']

omit [Base] in
theorem map_list {α β : Type} (A : Array α) (g : α → β) : A.map g = (A.toList.map g).toArray := by
  apply Array.ext'
  simp

theorem call_step (hC : CallSound P call) {G s t w df} {N : Nat} (hN : s.tmps.length ≤ N) (hR : R F G s t w) {q : Bool} {f : Nat} {args : List AV} {vs : List Value} (hA : RepAs G.M G.B args vs) {a : AV} {s' : St}
    (h : doCall call s q f args = some (a, s')) (hrun : FnOk P f → (execOp (⟨t, df⟩ : Act).eval co).run P w = .ok (.enter f vs.toArray) w)
    {next : Act → World → Prop} {Q : Exit → Act → World → Prop}
    (hk : ∀ (G' : Gh) (w' : World) (v : Value), R F G' s' t w' → RepT F G' s' t w' (.t N) a v → Ext G w G' w' → next ((⟨t, df⟩ : Act).put co.dst v) w') : co.wp P ⟨t, df⟩ w next Q := by
  obtain ⟨h1, h2⟩ := doCall_sound hC hR hA h N
  unfold Oper.wp
  rw [hrun h1]
  simp only [Oper.upon]
  refine h2.mono fun e w' he => ?_
  obtain ⟨v, G', rfl, g1, g2, g3⟩ := he
  exact hk G' w' v g1 g2 g3

theorem op_call (hC : CallSound P call) {f : Nat} {A : Array Operand} {Ts : Array TypeId} {q : Bool} {args : List Opd}
    (ho : co.op = .call { callee := .value (.func f), args := A, argTypes := Ts }) (hA : opdsOk F A.toList args = true) : OpS' P F co (.call q f args) call := by
  intro G s t w df a s' N hN hR hev next Q hk
  simp only [evOp, Option.bind_eq_some_iff] at hev
  obtain ⟨l, h1, h2⟩ := hev
  have hl := giveAll_sound (df := df) hR hA h1
  refine call_step hC hN hR hl h2 (fun hf => ?_) hk
  have hv : (⟨t, df⟩ : Act).eval (.func f) = .func (.func f) #[] #[] := rfl
  simp [execOp, ho, resolve, hv, Deferred.ofValue, Result.andThen, invoke, run_callFunc hf, map_list]

theorem op_callv (hC : CallSound P call) {X : Operand} {x : Opd} {A : Array Operand} {Ts : Array TypeId} {q : Bool} {args : List Opd}
    (ho : co.op = .call { callee := .value X, args := A, argTypes := Ts }) (hx : opdOk F X x = true) (hA : opdsOk F A.toList args = true) : OpS' P F co (.callv q x args) call := by
  intro G s t w df a s' N hN hR hev next Q hk
  simp only [evOp] at hev
  have hv := (val_sound (df := df) hR hx).1
  split at hev
  · rename_i f l hval hg
    rw [hval] at hv
    simp only [RepT, RepA, RepP] at hv
    have hl := giveAll_sound (df := df) hR hA hg
    refine call_step hC hN hR hl hev (fun hf => ?_) hk
    simp [execOp, ho, resolve, hv, Deferred.ofValue, Result.andThen, invoke, run_callFunc hf, map_list]
  · rename_i f first cap l hval hg
    rw [hval] at hv
    simp only [RepT, RepA] at hv
    obtain ⟨va, vc, e1, e2, e3⟩ := hv
    have hl := giveAll_sound (df := df) hR hA hg
    refine call_step hC hN hR ((e2.append hl).append e3) hev (fun hf => ?_) hk
    simp [execOp, ho, resolve, e1, Deferred.ofValue, Result.andThen, invoke, run_callFunc hf, map_list]
  · simp at hev

/-- What the machine finds behind an interface value's method. -/
def MethOk (P : Program) (name : String) (t f : Nat) : Prop := ∀ (v : Value) (args : Array Value) (w : World), (callMethod (.iface t v) name args).run P w = .ok (.enter f (#[v] ++ args)) w

theorem op_inv (hC : CallSound P call) {X : Operand} {x : Opd} {name : String} {A : Array Operand} {Ts : Array TypeId} {q : Bool} {tbl : List (Nat × Nat)} {args : List Opd}
    (ho : co.op = .call { callee := .invoke X name, args := A, argTypes := Ts }) (hx : opdOk F X x = true) (hA : opdsOk F A.toList args = true) (ht : ∀ t f, tbl.lookup t = some f → MethOk P name t f) :
    OpS' P F co (.inv q x tbl args) call := by
  intro G s t w df a s' N hN hR hev next Q hk
  simp only [evOp] at hev
  split at hev
  · rename_i u v l hval hg
    have hv := val_pure (df := df) hR hx hval
    simp only [RepP] at hv
    obtain ⟨y, h1, h2⟩ := hv
    split at hev
    · rename_i f hlk
      have hl := giveAll_sound (df := df) hR hA hg
      have hl2 : RepAs G.M G.B (AV.p v :: l) (y :: A.toList.map (⟨t, df⟩ : Act).eval) := by simp only [RepAs, RepA]; exact ⟨h2, hl⟩
      refine call_step hC hN hR hl2 hev (fun hf => ?_) hk
      have hm := ht u f hlk y (A.map (⟨t, df⟩ : Act).eval) w
      simp only [execOp, ho, resolve, Sem.run_bind, Sem.run_pure, Result.andThen_ok, invoke, h1]
      have hx0 : ∀ B : Array Value, (#[Value.iface u y] ++ B)[0]? = some (Value.iface u y) := by
        intro B
        rw [Array.getElem?_append_left (show 0 < (#[Value.iface u y]).size from Nat.one_pos)]
        rfl
      have hex : ∀ B : Array Value, (#[Value.iface u y] ++ B).extract 1 (#[Value.iface u y] ++ B).size = B := by
        intro B
        apply Array.ext'
        simp [Array.toList_extract, List.extract]
      rw [hx0, hex]
      simp only [hm]
      simp [map_list]
    · simp at hev
  · simp at hev
end
end Go.Abs
