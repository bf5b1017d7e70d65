/- Functions: what the evaluator says of a call holds. Functions: the evaluator of calls is sound. -/
import Derived.Test.YtjkjgloionfkgaaDoorCode

namespace Go.Abs
open Go.RowKit
variable [Base]

def resOk (P : Program) (σ : List Nat) : List Res → List ResultVar → Bool
  | [], [] => true
  | .v i :: r, .tmp t :: q => σ[i]? == some t && resOk P σ r q
  | .c i sh :: r, .cell a T :: q => σ[i]? == some a && shOk P T sh && resOk P σ r q
  | _, _ => false
def resRun (tmps : Array Value) : ResultVar → Sem Value
  | .tmp t => pure (tmps.getD t undef)
  | .cell a t => do loadVar t (← asAddr (tmps.getD a undef))

theorem resOf_sound {P : Program} {σ G s t w} (hR : R ⟨σ, []⟩ G s t w) {r : Res} {q : ResultVar} (h : resOk P σ [r] [q] = true) {a : AV} (ha : resOf s r = some a) :
    ∃ v, (resRun t q).run P w = .ok v w ∧ ((isOwn a = false ∧ RepA G.M G.B a v) ∨ ∃ i fz sz xs, r = .v i ∧ a = .own fz sz xs ∧ s.vars.getD i .undef = .own fz sz xs ∧ cvK ⟨σ, []⟩ G.B t w (.v i) = some v) := by
  cases r with
  | v i =>
    cases q with
    | cell _ _ => simp [resOk] at h
    | tmp n =>
      simp only [resOk, Bool.and_true, beq_iff_eq] at h
      have hv := val_sound (df := []) (x := .tmp n) (y := .v i) hR (by simp [opdOk, h])
      have heval : (⟨t, []⟩ : Act).eval (.tmp n) = t.getD n undef := rfl
      rw [heval] at hv
      refine ⟨t.getD n undef, rfl, ?_⟩
      simp only [resOf] at ha
      split at ha
      · rename_i fz sz xs hx
        simp only [Option.some.injEq] at ha; subst ha
        right
        exact ⟨i, fz, sz, xs, rfl, rfl, hx, hv.2 _ rfl (by simp) (by simp) (by simp only [val, hx]; rfl)⟩
      · simp at ha
      · left
        have h2 := give_sound hR hv.1 ha
        refine ⟨?_, h2⟩
        cases a <;> first | rfl | simp [RepA] at h2
  | c i sh =>
    cases q with
    | tmp _ => simp [resOk] at h
    | cell n T =>
      simp only [resOk, Bool.and_true, Bool.and_eq_true, beq_iff_eq] at h
      have hv := (val_sound (df := []) (x := .tmp n) (y := .v i) hR (by simp [opdOk, h.1])).1
      have heval : (⟨t, []⟩ : Act).eval (.tmp n) = t.getD n undef := rfl
      rw [heval] at hv
      simp only [resOf] at ha
      split at ha
      · rename_i l o hx
        simp only [val, hx] at hv
        simp only [Option.bind_eq_some_iff] at ha
        obtain ⟨b, h1, h2⟩ := ha
        have hv0 := hv
        simp only [RepT, RepA] at hv
        obtain ⟨bb, e1, e2⟩ := hv
        obtain ⟨z, f1, f2⟩ := load_sound (P := P) (F := ⟨σ, []⟩) (df := []) (co := { (default : Oper) with op := .load T (.tmp n) }) (X := .tmp n) (κ := .v i) hR rfl h.2 (av := .ref l o) (by rw [heval]; exact hv0) h1
        have h3 := give_sound hR f2 h2
        have hx2 : (execOp (⟨t, []⟩ : Act).eval { (default : Oper) with op := .load T (.tmp n) }).run P w = ((loadVar T ⟨bb, o, none⟩).run P w).andThen fun v w => .ok (.value v) w := by
          simp [execOp, Instr.loadAt, heval, e2, Instr.sureAddr, Sem.run_bind]
        rw [hx2] at f1
        refine ⟨z, ?_, .inl ⟨by cases a <;> first | rfl | simp [RepA] at h3, h3⟩⟩
        cases hr : (loadVar T ⟨bb, o, none⟩).run P w with
        | ok y w1 =>
          rw [hr] at f1
          simp only [Result.andThen, Result.ok.injEq, Next.value.injEq] at f1
          obtain ⟨rfl, rfl⟩ := f1
          simp [resRun, e2, asAddr, Result.andThen, hr]
        | halt _ _ => rw [hr] at f1; simp [Result.andThen] at f1
      · simp at ha

theorem giveRes_sound {P : Program} {σ G s t w} (hR : R ⟨σ, []⟩ G s t w) : ∀ {l : List Res} {q : List ResultVar} {as : List AV}, resOk P σ l q = true → giveRes s l = some as →
    ∃ vs, (q.mapM (resRun t)).run P w = .ok vs w ∧ RepAs G.M G.B as vs
  | [], [], as, _, h => by
    simp only [giveRes, Option.some.injEq] at h; subst h
    exact ⟨[], rfl, by simp [RepAs]⟩
  | r :: l, x :: q, as, hok, h => by
    have h1 : resOk P σ [r] [x] = true ∧ resOk P σ l q = true := by
      cases r <;> cases x <;> simp_all [resOk]
    simp only [giveRes] at h
    split at h
    · rename_i fz sz xs l' ha hl
      split at h
      · rename_i hf
        simp only [Option.some.injEq] at h; subst h
        obtain ⟨v, e1, e2⟩ := resOf_sound hR h1.1 ha
        obtain ⟨vs, f1, f2⟩ := giveRes_sound hR h1.2 hl
        refine ⟨v :: vs, by simp [List.mapM_cons, Sem.run_bind, e1, Result.andThen, f1], ?_⟩
        simp only [RepAs]
        refine ⟨?_, f2⟩
        rcases e2 with ⟨e2, _⟩ | ⟨i, fz', sz', xs', rfl, e4, e5, e6⟩
        · simp [isOwn] at e2
        · injection e4 with e7 e8 e9
          subst e7; subst e8; subst e9
          simp only [RepA]
          exact (hR.own_at (k := .v i) e5 e6).toP hf
      · simp at h
    · rename_i a l' hne ha hl
      simp only [Option.some.injEq] at h; subst h
      obtain ⟨v, e1, e2⟩ := resOf_sound hR h1.1 ha
      obtain ⟨vs, f1, f2⟩ := giveRes_sound hR h1.2 hl
      refine ⟨v :: vs, by simp [List.mapM_cons, Sem.run_bind, e1, Result.andThen, f1], ?_⟩
      simp only [RepAs]
      refine ⟨?_, f2⟩
      rcases e2 with ⟨_, e2⟩ | ⟨i, fz', sz', xs', rfl, e4, e5, e6⟩
      · exact e2
      · exact absurd e4 (hne _ _ _)
    · simp at h
  | [], _ :: _, _, h, _ => by simp [resOk] at h
  | r :: _, [], _, h, _ => by cases r <;> simp [resOk] at h

omit [Base] in
theorem results_run {P : Program} {fn : Func} {t : Array Value} {w : World} {vs : List Value} (h : (fn.results.toList.mapM (resRun t)).run P w = .ok vs w) :
    (Go.results fn t).run P w = .ok (if h : vs.toArray.size = 1 then vs.toArray[0] else .tuple vs.toArray) w := by
  have hdef : Go.results fn t = (do let vs ← fn.results.mapM (resRun t); pure (if h : vs.size = 1 then vs[0] else .tuple vs)) := by
    unfold Go.results
    congr 1
  have this : (fn.results.mapM (resRun t)).run P w = .ok vs.toArray w := by
    rw [← Array.toArray_toList (xs := fn.results), List.mapM_toArray, map_eq_pure_bind]
    simp only [Sem.run_bind]
    rw [h]
    rfl
  rw [hdef]
  simp only [Sem.run_bind, this]
  rfl

/-- The results of a function: the value, and what it stands for; an owned row leaves its variable. -/
theorem results_sound {P : Program} {fn : Func} {σ G s t w} (hR : R ⟨σ, []⟩ G s t w) {l : List Res} (h : resOk P σ l fn.results.toList = true) {r : AV} (hr : Abs.results s l = some r) :
    ∃ v, (Go.results fn t).run P w = .ok v w ∧ ((isOwn r = false ∧ RepA G.M G.B r v) ∨ ∃ i fz sz xs, r = .own fz sz xs ∧ OwnRep G w (.v i) fz sz xs v) := by
  have multi : ∀ as, giveRes s l = some as → l.length ≠ 1 → r = .tup as → ∃ v, (Go.results fn t).run P w = .ok v w ∧ ((isOwn r = false ∧ RepA G.M G.B r v) ∨ ∃ i fz sz xs, r = .own fz sz xs ∧ OwnRep G w (.v i) fz sz xs v) := by
    rintro as ha hl rfl
    obtain ⟨vs, f1, f2⟩ := giveRes_sound hR h ha
    have hlen : as.length = l.length := by
      clear h hl f2 hr
      induction l generalizing as with
      | nil => simp only [giveRes, Option.some.injEq] at ha; subst ha; rfl
      | cons x l ih =>
        simp only [giveRes] at ha
        split at ha
        · rename_i l' h1 h2
          split at ha
          · simp only [Option.some.injEq] at ha; subst ha; simp [ih _ h2]
          · simp at ha
        · rename_i l' hne h1 h2
          simp only [Option.some.injEq] at ha; subst ha; simp [ih _ h2]
        · simp at ha
    have hvl := f2.length
    refine ⟨_, results_run f1, .inl ⟨rfl, ?_⟩⟩
    rw [dif_neg (by simp; omega)]
    simp only [RepA]
    exact ⟨vs.toArray, rfl, by simpa using f2⟩
  match l, hr with
  | [x], hr =>
    cases hq : fn.results.toList with
    | nil => rw [hq] at h; cases x <;> simp [resOk] at h
    | cons y q =>
      cases q with
      | cons z q => rw [hq] at h; cases x <;> cases y <;> simp [resOk] at h
      | nil =>
        rw [hq] at h
        simp only [Abs.results] at hr
        obtain ⟨v, e1, e2⟩ := resOf_sound hR h hr
        have hm : (fn.results.toList.mapM (resRun t)).run P w = .ok [v] w := by
          rw [hq]
          simp [List.mapM_cons, Sem.run_bind, e1, Result.andThen]
        refine ⟨v, results_run hm, ?_⟩
        rcases e2 with e2 | ⟨i, fz, sz, xs, rfl, rfl, e4, e5⟩
        · exact .inl e2
        · exact .inr ⟨i, fz, sz, xs, rfl, hR.own_at (k := .v i) e4 e5⟩
  | [], hr =>
    simp only [Abs.results, Option.map_eq_some_iff] at hr
    obtain ⟨as, h1, rfl⟩ := hr
    exact multi as h1 (by simp) rfl
  | x :: y :: q, hr =>
    simp only [Abs.results, Option.map_eq_some_iff] at hr
    obtain ⟨as, h1, rfl⟩ := hr
    exact multi as h1 (by simp) rfl
end Go.Abs

namespace Go.Abs
open Go.RowKit
variable [Base]

def matchFun (P : Program) (mt : Meths) (f : Nat) (F : AFun) : Bool :=
  match P.funcs[f]? with
  | none => false
  | some fn => !(fn.name == "runtime.NumGoroutine") && match fn.body with
    | none => false
    | some c => nodupB F.sl && decide (F.sl.take F.np = List.range F.np) && F.sl.length == F.nv && decide (F.np ≤ F.nv) && F.sl.all (fun n => decide (n < fn.ntmps)) && decide (F.np ≤ fn.ntmps) &&
      matchCode P mt F.sl fn.ntmps F.body c && resOk P F.sl F.res fn.results.toList

/-- What a primitive owes. -/
def PrimSound (P : Program) (prim : Nat → Option (List AV → List Obj → Option (AV × List Obj))) : Prop :=
  ∀ f g, prim f = some g → ∀ args h r h', g args h = some (r, h') → FnOk P f ∧
    ∀ (G : Gh) (w : World) (vs : List Value), R F0 G (S0 h) #[] w → RepAs G.M G.B args vs →
      Go.Calls P f vs.toArray w fun e w' => ∃ v G', e = .returned v ∧ R F0 G' (S0 h') #[] w' ∧ RepC G' w' (.t 0) r v ∧ Ext G w G' w'

theorem evFun_sound {P : Program} {mt : Meths} (hmt : MethsOk P mt) (hmix : P.follows .mixedOrders = true) {prim : Nat → Option (List AV → List Obj → Option (AV × List Obj))} (hp : PrimSound P prim)
    {funs : Nat → Option AFun} (hf : ∀ f F, funs f = some F → matchFun P mt f F = true) (fuel : Nat) : ∀ n, CallSound P (evFun prim funs fuel n) := by
  intro n
  induction n with
  | zero => intro f args h r h' he; simp [evFun] at he
  | succ n ih =>
    intro f args h r h' he
    simp only [evFun] at he
    split at he
    · rename_i g hg
      exact hp f g hg args h r h' he
    · split at he
      · simp at he
      · rename_i F hF
        split at he
        · rename_i hlen
          have hm := hf f F hF
          unfold matchFun at hm
          split at hm
          · simp at hm
          · rename_i fn hfn
            simp only [Bool.and_eq_true] at hm
            obtain ⟨hname, hm⟩ := hm
            split at hm
            · simp at hm
            · rename_i c hbody
              simp only [Bool.and_eq_true, decide_eq_true_eq, beq_iff_eq] at hm
              obtain ⟨⟨⟨⟨⟨⟨⟨hnd, htake⟩, hsl⟩, hnp⟩, hall⟩, hnt⟩, hcode⟩, hres⟩ := hm
              refine ⟨⟨fn, hfn, by simpa using hname, by simp [hbody]⟩, fun G w vs hR hA => ?_⟩
              have hvl := hA.length
              refine calls_of_wp hfn hbody ?_
              have hsz : (vs.toArray ++ Array.replicate (fn.ntmps - vs.toArray.size) undef).size = fn.ntmps := by
                simp; omega
              have hslot : ∀ i, i < F.np → F.sl[i]? = some i := by
                intro i hi
                have : (F.sl.take F.np)[i]? = some i := by rw [htake]; simp [hi]
                rw [List.getElem?_take, if_pos hi] at this
                exact this
              have hR0 : R ⟨F.sl, []⟩ G { vars := args ++ List.replicate (F.nv - F.np) .undef, tmps := [], heap := h } (vs.toArray ++ Array.replicate (fn.ntmps - vs.toArray.size) undef) w := by
                refine ⟨hR.agree, hR.freshM, hR.base, hR.freshZ, hR.hB, frOk_inj (F := ⟨F.sl, []⟩) (by simpa [frOk, somes] using hnd), fun i a ha => ?_, fun i a ha => by simp at ha, hR.objs⟩
                by_cases hi : i < args.length
                · rw [List.getElem?_append_left hi] at ha
                  obtain ⟨x, e1, e2⟩ := hA.get ha
                  refine ⟨i, x, hslot i (by omega), ?_, RepA_T e2⟩
                  rw [Array.getElem?_append_left (by simp; omega)]
                  simpa using e1
                · rw [List.getElem?_append_right (by omega)] at ha
                  have hlt := (List.getElem?_eq_some_iff.1 ha).1
                  have hau : a = .undef := by
                    have := List.getElem?_replicate.symm.trans ha
                    split at this
                    · simp at this; exact this.symm
                    · simp at this
                  subst hau
                  simp only [List.length_replicate] at hlt
                  have hil : i < F.sl.length := by omega
                  have hn : F.sl[i] < fn.ntmps := by simpa using List.all_eq_true.1 hall F.sl[i] (List.getElem_mem hil)
                  exact ⟨F.sl[i], _, List.getElem?_eq_getElem hil, Array.getElem?_eq_getElem (by rw [hsz]; exact hn), by simp [RepT, RepA]⟩
              have fin : ∀ (ex : Ex) (s' : St), Abs.results s' F.res = some r → s'.heap = h' → ∀ G' t' w', R ⟨F.sl, []⟩ G' s' t' w' → Ext G w G' w' →
                  ∃ v, (Go.results fn t').run P w' = .ok v w' ∧ ∃ v' G2, Ending.returned v = .returned v' ∧ R F0 G2 (S0 h') #[] w' ∧ RepC G2 w' (.t 0) r v' ∧ Ext G w G2 w' := by
                intro ex s' hr hh G' t' w' k1 k2
                obtain ⟨v, e1, e2⟩ := results_sound k1 hres hr
                refine ⟨v, e1, v, ?_⟩
                have base : ∀ G2 : Gh, R ⟨F.sl, []⟩ G2 s' t' w' → R F0 G2 (S0 h') #[] w' := fun G2 q =>
                  ⟨q.agree, q.freshM, q.base, q.freshZ, by simp only [S0, ← hh]; exact q.hB, fun κ κ' n hk => by cases κ <;> simp [slotK, F0] at hk, fun i a ha => by simp [S0] at ha, fun i a ha => by simp [S0] at ha,
                    fun l o ho => q.objs l o (by simpa only [S0, ← hh] using ho)⟩
                rcases e2 with ⟨ho, e2⟩ | ⟨i, fz, sz, xs, rfl, e2⟩
                · exact ⟨G', rfl, base G' k1, by cases r <;> first | exact e2 | simp [isOwn] at ho, k2⟩
                · -- the row leaves its variable
                  have k3 := base G' k1
                  have := k3.moveZ (κ0 := .v i) (by simp [getK, S0, isOwn]) (.t 0)
                  exact ⟨_, rfl, this, by simp only [RepC]; exact e2.move _, k2.trans (Ext.moveZ G' w' (.v i) (.t 0))⟩
              split at he
              · simp at he
              · rename_i ex s' hne hev
                simp only [Option.map_eq_some_iff, Prod.mk.injEq] at he
                obtain ⟨r', hr, rfl, rfl⟩ := he
                refine evCode_sound ih hmt hmix F.body c hcode _ ex s' hev rfl G _ w _ hR0 hsz (Ext.refl _ _) fun G' t' w' _ r1 _ r3 => ?_
                obtain ⟨v, q1, q2⟩ := fin ex s' hr rfl G' t' w' r1 r3
                cases ex with
                | normal => exact ⟨rfl, v, q1, q2⟩
                | ret => exact ⟨rfl, v, q1, q2⟩
                | exit id => exact absurd rfl (hne id)
              · simp at he
        · simp at he
end Go.Abs
