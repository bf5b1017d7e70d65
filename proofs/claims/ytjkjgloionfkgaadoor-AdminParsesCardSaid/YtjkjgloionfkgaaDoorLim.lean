/- The evaluator without bounds on rounds and depth: the limit of the evaluators with bounds, and its equations. -/
import Derived.Test.YtjkjgloionfkgaaDoorEv

namespace Go.Abs

/-- From some n on the callers of a family answer what a caller answers. -/
def App (C : Nat → Calls) (d : Calls) : Prop := ∀ f a h r, d f a h = some r → ∃ n, ∀ m, n ≤ m → C m f a h = some r

/-- From some n on. -/
def Evt (p : Nat → Prop) : Prop := ∃ n, ∀ m, n ≤ m → p m
theorem Evt.of {p : Nat → Prop} (h : ∀ m, p m) : Evt p := ⟨0, fun m _ => h m⟩
theorem Evt.and {p q : Nat → Prop} (h : Evt p) (k : Evt q) : Evt fun m => p m ∧ q m := by
  obtain ⟨n, h⟩ := h
  obtain ⟨l, k⟩ := k
  exact ⟨n + l, fun m hm => ⟨h m (by omega), k m (by omega)⟩⟩
theorem Evt.mono {p q : Nat → Prop} (h : Evt p) (k : ∀ m, p m → q m) : Evt q := by
  obtain ⟨n, h⟩ := h
  exact ⟨n, fun m hm => k m (h m hm)⟩

section
variable {C : Nat → Calls} {d : Calls} (hA : App C d)
include hA

theorem callRefs_app {s f args ls r} (h : callRefs d s f args ls = some r) : Evt fun m => callRefs (C m) s f args ls = some r := by
  unfold callRefs at h ⊢
  split at h
  · rename_i a o h1 h2
    split at h
    · rename_i r1 h3 h4
      obtain ⟨n, hn⟩ := hA _ _ _ _ h4
      refine ⟨n, fun m hm => ?_⟩
      simp only [h1, h2, hn m hm]
      exact h
    · simp at h
  · simp at h

theorem doCall_app {s q f args r} (h : doCall d s q f args = some r) : Evt fun m => doCall (C m) s q f args = some r := by
  unfold doCall at h ⊢
  split at h
  · rename_i he
    split at h
    · rename_i r1 h1 h2
      obtain ⟨n, hn⟩ := hA _ _ _ _ h2
      split at h
      · rename_i hr
        refine ⟨n, fun m hm => ?_⟩
        simp only [he, if_true, hn m hm, hr]
        exact h
      · rename_i hr
        split at h
        · simp at h
        · rename_i hq
          obtain ⟨l, hl⟩ := callRefs_app hA h
          refine ⟨n + l, fun m hm => ?_⟩
          simp only [he, if_true, hn m (by omega), hr, hq, if_false]
          exact hl m (by omega)
    · simp at h
  · rename_i he
    split at h
    · simp at h
    · rename_i hq
      refine (callRefs_app hA h).mono fun m hm => ?_
      simp only [he, hq, if_false]
      exact hm

theorem evOp_app {o s r} (h : evOp d o s = some r) : Evt fun m => evOp (C m) o s = some r := by
  cases o with
  | call q f args =>
    simp only [evOp, Option.bind_eq_some_iff] at h ⊢
    obtain ⟨l, h1, h2⟩ := h
    exact (doCall_app hA h2).mono fun m hm => ⟨l, h1, hm⟩
  | callv q x args =>
    simp only [evOp] at h ⊢
    split at h
    · rename_i h1 h2
      refine (doCall_app hA h).mono fun m hm => ?_
      exact hm
    · rename_i h1 h2
      refine (doCall_app hA h).mono fun m hm => ?_
      exact hm
    · simp at h
  | inv q x tbl args =>
    simp only [evOp] at h ⊢
    split at h
    · rename_i h1 h2
      split at h
      · rename_i f hf
        refine (doCall_app hA h).mono fun m hm => ?_
        exact hm
      · simp at h
    · simp at h
  | _ => exact Evt.of fun m => h

theorem evOps_app : ∀ {ops j s r}, evOps d ops j s = some r → Evt fun m => evOps (C m) ops j s = some r
  | [], j, s, r, h => Evt.of fun m => h
  | o :: ops, j, s, r, h => by
    simp only [evOps] at h
    split at h
    · rename_i hw
      split at h
      · rename_i a s' he
        refine ((evOp_app hA he).and (evOps_app h)).mono fun m hm => ?_
        simp only [evOps, hw, hm.1]; exact hm.2
      · simp at h
    · rename_i hw
      refine (evOps_app h).mono fun m hm => ?_
      simp only [evOps, hw]; exact hm
    · simp at h

theorem evQ_app {o s a} (h : evQ d o s = some a) : Evt fun m => evQ (C m) o s = some a := by
  unfold evQ at h ⊢
  split at h
  · rename_i hw
    simp only [Option.map_eq_some_iff] at h
    obtain ⟨r, h1, h2⟩ := h
    refine (evOp_app hA h1).mono fun m hm => ?_
    simp only [hw, hm, Option.map_some, h2]
  · rename_i hw
    refine Evt.of fun m => ?_
    exact h
  · simp at h

theorem evQs_app {ops} : ∀ {js s r}, evQs d ops js s = some r → Evt fun m => evQs (C m) ops js s = some r
  | [], s, r, h => Evt.of fun m => h
  | j :: js, s, r, h => by
    simp only [evQs] at h
    split at h
    · rename_i o ho
      split at h
      · rename_i a ha
        refine ((evQ_app hA ha).and (evQs_app h)).mono fun m hm => ?_
        simp only [evQs, ho, hm.1]; exact hm.2
      · simp at h
    · simp at h

theorem againOk_app {ops s j} (h : againOk d ops s j = true) : Evt fun m => againOk (C m) ops s j = true := by
  unfold againOk at h ⊢
  split at h
  · rename_i o ho
    split at h
    · rename_i a ha
      refine (evQ_app hA ha).mono fun m hm => ?_
      simp only [ho, hm]; exact h
    · simp at h
  · simp at h

theorem again_app {ops s} : ∀ {l : List Nat}, l.all (againOk d ops s) = true → Evt fun m => l.all (againOk (C m) ops s) = true
  | [], _ => Evt.of fun _ => rfl
  | j :: l, h => by
    simp only [List.all_cons, Bool.and_eq_true] at h ⊢
    exact (againOk_app hA h.1).and (again_app h.2)

theorem evK_app {o k s r} (h : evK d o k s = some r) : Evt fun m => evK (C m) o k s = some r := by
  unfold evK at h ⊢
  split at h
  · rename_i hw
    split at h
    · rename_i a s1 he
      refine (evOp_app hA he).mono fun m hm => ?_
      simp only [hw, hm]; exact h
    · simp at h
  · rename_i hw
    refine Evt.of fun m => ?_
    exact h
  · simp at h

theorem evPhs_app {ops} : ∀ {phs s r}, evPhs d ops phs s = some r → Evt fun m => evPhs (C m) ops phs s = some r
  | [], s, r, h => Evt.of fun m => h
  | ph :: phs, s, r, h => by
    simp only [evPhs] at h
    split at h
    · rename_i s1 h1
      split at h
      · rename_i hg
        have hq := (evQs_app hA h1).and (again_app hA hg)
        split at h
        · rename_i k hk
          split at h
          · rename_i o ho
            split at h
            · rename_i s2 h2
              refine (hq.and ((evK_app hA h2).and (evPhs_app h))).mono fun m hm => ?_
              simp only [evPhs, hm.1.1, hm.1.2, if_true, hk, ho, hm.2.1]; exact hm.2.2
            · simp at h
          · simp at h
        · rename_i hk
          refine (hq.and (evPhs_app h)).mono fun m hm => ?_
          simp only [evPhs, hm.1.1, hm.1.2, if_true, hk]; exact hm.2
      · simp at h
    · simp at h

omit hA in
theorem iterate_app {f : St → Option (Ex × St)} {g : Nat → Nat → St → Option (Ex × St)} {c : St → Option St} {n0 : Nat} (hf : ∀ s r, f s = some r → Evt fun m => ∀ k, n0 ≤ k → g m k s = some r) :
    ∀ {n s r}, iterate f c n s = some r → Evt fun m => ∀ k, n0 ≤ k → ∀ q, n ≤ q → iterate (g m k) c q s = some r
  | 0, s, r, h => by simp [iterate] at h
  | n + 1, s, r, h => by
    simp only [iterate] at h
    split at h
    · rename_i s1 h1
      split at h
      · rename_i s2 h2
        refine ((hf _ _ h1).and (iterate_app hf h)).mono fun m hm k hk q hq => ?_
        obtain ⟨q, rfl⟩ : ∃ p, q = p + 1 := ⟨q - 1, by omega⟩
        simp only [iterate, hm.1 k hk, h2]
        exact hm.2 k hk q (by omega)
      · simp at h
    · rename_i hne
      refine (hf _ _ h).mono fun m hm k hk q hq => ?_
      obtain ⟨q, rfl⟩ : ∃ p, q = p + 1 := ⟨q - 1, by omega⟩
      simp only [iterate, hm k hk]
      split
      · rename_i s1 e
        simp only [Option.some.injEq] at e
        subst e
        exact absurd h (hne _)
      · rfl

theorem evCode_app : ∀ {b n s r}, evCode d n b s = some r → Evt fun m => ∀ k, n ≤ k → evCode (C m) k b s = some r := by
  intro b
  induction b with
  | skip => intro n s r h; exact Evt.of fun m k _ => h
  | exit id => intro n s r h; exact Evt.of fun m k _ => h
  | ret => intro n s r h; exact Evt.of fun m k _ => h
  | reg fr ops =>
    intro n s r h
    simp only [evCode] at h ⊢
    split at h
    · rename_i s1 h1
      split at h
      · rename_i s2 h2
        refine (evOps_app hA h2).mono fun m hm k _ => ?_
        simp only [hm]; exact h
      · simp at h
    · simp at h
  | dreg fr ops phs =>
    intro n s r h
    simp only [evCode] at h ⊢
    split at h
    · rename_i s1 h1
      split at h
      · rename_i s2 h2
        refine (evPhs_app hA h2).mono fun m hm k _ => ?_
        simp only [hm]; exact h
      · simp at h
    · simp at h
  | seq a b iha ihb =>
    intro n s r h
    simp only [evCode] at h ⊢
    split at h
    · rename_i s1 h1
      refine ((iha h1).and (ihb h)).mono fun m hm k hk => ?_
      simp only [hm.1 k hk]; exact hm.2 k hk
    · rename_i hne
      refine (iha h).mono fun m hm k hk => ?_
      simp only [hm k hk]
      split
      · rename_i s1 e
        simp only [Option.some.injEq] at e
        subst e
        exact absurd h (hne _)
      · rfl
  | ifc x a b iha ihb =>
    intro n s r h
    simp only [evCode] at h ⊢
    split at h
    · exact iha h
    · exact ihb h
    · simp at h
  | blk id keep b ih =>
    intro n s r h
    simp only [evCode] at h ⊢
    split at h
    · rename_i id' s1 h1
      refine (ih h1).mono fun m hm k hk => ?_
      simp only [hm k hk]; exact h
    · rename_i s1 h1
      refine (ih h1).mono fun m hm k hk => ?_
      simp only [hm k hk]; exact h
    · rename_i n1 n2
      refine (ih h).mono fun m hm k hk => ?_
      simp only [hm k hk]
      split
      · rename_i id' s1 e
        simp only [Option.some.injEq] at e
        subst e
        exact absurd h (n1 _ _)
      · rename_i s1 e
        simp only [Option.some.injEq] at e
        subst e
        exact absurd h (n2 _)
      · rfl
  | loop keep b ih =>
    intro n s r h
    simp only [evCode] at h ⊢
    split at h
    · rename_i s0 h0
      exact (iterate_app (g := fun m k s => evCode (C m) k b s) (fun s r e => ih e) h).mono fun m hm k hk => hm k hk k hk
    · simp at h
end

theorem App.const {c d : Calls} (h : ∀ f a l r, d f a l = some r → c f a l = some r) : App (fun _ => c) d := fun f a l r e => ⟨0, fun _ _ => h f a l r e⟩
theorem Evt.const {p : Prop} (h : Evt fun _ => p) : p := by
  obtain ⟨n, h⟩ := h
  exact h n (Nat.le_refl _)

/-! ## Limits of chains -/
open Classical in
noncomputable def olim {α : Type} (x : Nat → Option α) : Option α := if h : ∃ n, (x n).isSome then x (Classical.choose h) else none
def Chain {α : Type} (x : Nat → Option α) : Prop := ∀ n m r, n ≤ m → x n = some r → x m = some r
theorem olim_some {α : Type} {x : Nat → Option α} (hx : Chain x) {r : α} : olim x = some r ↔ ∃ n, x n = some r := by
  unfold olim
  constructor
  · intro h
    split at h
    · exact ⟨_, h⟩
    · simp at h
  · rintro ⟨n, h⟩
    have hex : ∃ n, (x n).isSome := ⟨n, by rw [h]; rfl⟩
    rw [dif_pos hex]
    have hs := Classical.choose_spec hex
    obtain ⟨q, hq⟩ := Option.isSome_iff_exists.1 hs
    rw [hq]
    rcases Nat.le_total n (Classical.choose hex) with hle | hle
    · rw [← hx _ _ _ hle h]; exact hq.symm
    · rw [← h]; exact (hx _ _ _ hle hq).symm
theorem olim_evt {α : Type} {x : Nat → Option α} (hx : Chain x) {r : α} (h : Evt fun n => x n = some r) : olim x = some r := by
  obtain ⟨n, h⟩ := h
  exact (olim_some hx).2 ⟨n, h n (Nat.le_refl _)⟩
theorem opt_eq {α : Type} {x y : Option α} (h : ∀ r, x = some r ↔ y = some r) : x = y := by
  cases hx : x with
  | some r => exact ((h r).1 hx).symm
  | none =>
    cases hy : y with
    | none => rfl
    | some r => have := (h r).2 hy; rw [hx] at this; simp at this

theorem evCode_chain (c : Calls) (b : ACode) (s : St) : Chain fun n => evCode c n b s := fun n m r h e =>
  (evCode_app (App.const (c := c) (d := c) fun _ _ _ _ h => h) e).const m h
theorem iterate_chain (f : St → Option (Ex × St)) (c : St → Option St) (s : St) : Chain fun n => iterate f c n s := fun n m r h e =>
  (iterate_app (g := fun _ _ => f) (n0 := 0) (fun s r e => Evt.of fun _ _ _ => e) e).const 0 (Nat.le_refl _) m h

/-- Code, as many rounds as it takes. -/
noncomputable def evC (call : Calls) (b : ACode) (s : St) : Option (Ex × St) := olim fun n => evCode call n b s
/-- A loop, as many rounds as it takes. -/
noncomputable def iter (f : St → Option (Ex × St)) (c : St → Option St) (s : St) : Option (Ex × St) := olim fun n => iterate f c n s

theorem evC_some {c b s r} : evC c b s = some r ↔ ∃ n, evCode c n b s = some r := olim_some (evCode_chain c b s)
theorem iter_some {f c s r} : iter f c s = some r ↔ ∃ n, iterate f c n s = some r := olim_some (iterate_chain f c s)

theorem evC_skip {call s} : evC call .skip s = some (.normal, s) := evC_some.2 ⟨0, rfl⟩
theorem evC_exit {call id s} : evC call (.exit id) s = some (.exit id, s) := evC_some.2 ⟨0, rfl⟩
theorem evC_ret {call s} : evC call .ret s = some (.ret, s) := evC_some.2 ⟨0, rfl⟩
theorem evC_reg {call fr ops s} : evC call (.reg fr ops) s = match freezeAll fr s with
    | some s1 => match evOps call ops 0 { s1 with tmps := List.replicate ops.length .undef } with
      | some s2 => some (.normal, { s2 with vars := s2.vars.map dropT, tmps := [] })
      | none => none
    | none => none := opt_eq fun r => by rw [evC_some]; exact ⟨fun ⟨_, h⟩ => h, fun h => ⟨0, h⟩⟩
theorem evC_dreg {call fr ops phs s} : evC call (.dreg fr ops phs) s = match freezeAll fr s with
    | some s1 => match evPhs call ops phs { s1 with tmps := List.replicate ops.length .undef } with
      | some s2 => some (.normal, { s2 with vars := s2.vars.map dropT, tmps := [] })
      | none => none
    | none => none := opt_eq fun r => by rw [evC_some]; exact ⟨fun ⟨_, h⟩ => h, fun h => ⟨0, h⟩⟩
theorem evC_seq {call a b s} : evC call (.seq a b) s = match evC call a s with
    | some (.normal, s') => evC call b s'
    | r => r := opt_eq fun r => by
  rw [evC_some]
  constructor
  · rintro ⟨n, h⟩
    simp only [evCode] at h
    split at h
    · rename_i s1 h1
      simp only [evC_some.2 ⟨n, h1⟩]
      exact evC_some.2 ⟨n, h⟩
    · rename_i hne
      simp only [evC_some.2 ⟨n, h⟩]
      split
      · rename_i s1 e
        simp only [Option.some.injEq] at e
        subst e
        exact absurd h (hne _)
      · rfl
  · intro h
    split at h
    · rename_i s1 h1
      obtain ⟨n, h1⟩ := evC_some.1 h1
      obtain ⟨m, h2⟩ := evC_some.1 h
      refine ⟨n + m, ?_⟩
      simp only [evCode, evCode_chain call a s _ _ _ (Nat.le_add_right n m) h1]
      exact evCode_chain call b s1 _ _ _ (Nat.le_add_left m n) h2
    · rename_i hne
      obtain ⟨n, h1⟩ := evC_some.1 h
      refine ⟨n, ?_⟩
      simp only [evCode, h1]
      split
      · rename_i s1 e
        simp only [Option.some.injEq] at e
        subst e
        exact absurd h (hne _)
      · rfl
theorem evC_ifc {call x a b s} : evC call (.ifc x a b) s = match val s x with
    | .p (.bool true) => evC call a s
    | .p (.bool false) => evC call b s
    | _ => none := opt_eq fun r => by
  rw [evC_some]
  constructor
  · rintro ⟨n, h⟩
    simp only [evCode] at h
    split at h
    · rename_i hv
      simp only [hv]; exact evC_some.2 ⟨n, h⟩
    · rename_i hv
      simp only [hv]; exact evC_some.2 ⟨n, h⟩
    · simp at h
  · intro h
    split at h
    · rename_i hv
      obtain ⟨n, h⟩ := evC_some.1 h
      exact ⟨n, by simp only [evCode, hv]; exact h⟩
    · rename_i hv
      obtain ⟨n, h⟩ := evC_some.1 h
      exact ⟨n, by simp only [evCode, hv]; exact h⟩
    · simp at h
theorem evC_blk {call id keep b s} : evC call (.blk id keep b) s = match evC call b s with
    | some (.exit id', s') => if id' = id then (clean s.heap.length keep s').map fun s'' => (.normal, s'') else some (.exit id', s')
    | some (.normal, s') => (clean s.heap.length keep s').map fun s'' => (.normal, s'')
    | r => r := opt_eq fun r => by
  rw [evC_some]
  constructor
  · rintro ⟨n, h⟩
    simp only [evCode] at h
    cases hb : evCode call n b s with
    | none => rw [hb] at h; simp at h
    | some q => rw [hb] at h; rw [evC_some.2 ⟨n, hb⟩]; exact h
  · intro h
    cases hb : evC call b s with
    | none => rw [hb] at h; simp at h
    | some q =>
      rw [hb] at h
      obtain ⟨n, hb⟩ := evC_some.1 hb
      exact ⟨n, by simp only [evCode, hb]; exact h⟩
theorem evC_loop {call keep b s} : evC call (.loop keep b) s = match clean s.heap.length keep s with
    | some s0 => iter (evC call b) (clean s.heap.length keep) s0
    | none => none := opt_eq fun r => by
  rw [evC_some]
  constructor
  · rintro ⟨n, h⟩
    simp only [evCode] at h
    split at h
    · rename_i s0 h0
      simp only [h0]
      refine iter_some.2 ⟨n, ?_⟩
      exact (iterate_app (g := fun _ _ => evC call b) (n0 := 0) (fun s r e => Evt.of fun _ _ _ => evC_some.2 ⟨n, e⟩) h).const 0 (Nat.le_refl _) n (Nat.le_refl _)
    · simp at h
  · intro h
    split at h
    · rename_i s0 h0
      obtain ⟨n, h⟩ := iter_some.1 h
      have key : ∀ n s0 r, iterate (evC call b) (clean s.heap.length keep) n s0 = some r → ∃ m, ∀ k, m ≤ k → iterate (evCode call k b) (clean s.heap.length keep) k s0 = some r := by
        intro n s0 r h
        obtain ⟨q, hq⟩ := iterate_app (g := fun m _ => evCode call m b) (n0 := 0) (fun s r e => by
          obtain ⟨m, hm⟩ := evC_some.1 e
          exact ⟨m, fun k hk _ _ => evCode_chain call b s _ _ _ hk hm⟩) h
        exact ⟨q + n, fun k hk => hq k (by omega) 0 (Nat.le_refl _) k (by omega)⟩
      obtain ⟨m, hm⟩ := key _ _ _ h
      exact ⟨m, by simp only [evCode, h0]; exact hm m (Nat.le_refl _)⟩
    · simp at h
theorem iter_eq {f c s} : iter f c s = match f s with
    | some (.normal, s') => match c s' with
      | some s'' => iter f c s''
      | none => none
    | r => r := opt_eq fun r => by
  rw [iter_some]
  constructor
  · rintro ⟨n, h⟩
    cases n with
    | zero => simp [iterate] at h
    | succ n =>
      simp only [iterate] at h
      split at h
      · rename_i s1 h1
        simp only [h1]
        split at h
        · rename_i s2 h2
          simp only [h2]
          exact iter_some.2 ⟨n, h⟩
        · simp at h
      · rename_i hne
        simp only [h]
        split
        · rename_i s1 e
          simp only [Option.some.injEq] at e
          subst e
          exact absurd h (hne _)
        · rfl
  · intro h
    split at h
    · rename_i s1 h1
      split at h
      · rename_i s2 h2
        obtain ⟨n, h⟩ := iter_some.1 h
        exact ⟨n + 1, by simp only [iterate, h1, h2]; exact h⟩
      · simp at h
    · rename_i hne
      refine ⟨1, ?_⟩
      simp only [iterate, h]
      split
      · rename_i s1 e
        simp only [Option.some.injEq] at e
        subst e
        exact absurd h (hne _)
      · rfl

/-! ## Functions -/
section
variable (prim : Nat → Option (List AV → List Obj → Option (AV × List Obj))) (funs : Nat → Option AFun)

theorem evFun_mono : ∀ n f args h r fuel, evFun prim funs fuel n f args h = some r → ∀ m k, n ≤ m → fuel ≤ k → evFun prim funs k m f args h = some r := by
  intro n
  induction n with
  | zero => intro f args h r fuel e; simp [evFun] at e
  | succ n ih =>
    intro f args h r fuel e m k hm hk
    obtain ⟨m, rfl⟩ : ∃ p, m = p + 1 := ⟨m - 1, by omega⟩
    simp only [evFun] at e ⊢
    split at e
    · exact e
    · split at e
      · simp at e
      · rename_i F hF
        try simp only [hF]
        split at e
        · rename_i hl
          try simp only [hl, if_true]
          split at e
          · simp at e
          · rename_i ex s1 hne he
            have := (evCode_app (App.const (c := evFun prim funs k m) fun f a l r e => ih f a l r fuel e m k (by omega) hk) he).const k hk
            rw [this]
            cases ex with
            | exit id => exact absurd rfl (hne id)
            | normal => exact e
            | ret => exact e
          · simp at e
        · simp at e

theorem evFun_chain (f : Nat) (args : List AV) (h : List Obj) : Chain fun n => evFun prim funs n n f args h :=
  fun n m r hnm e => evFun_mono prim funs n f args h r n e m m hnm hnm

/-- A call, as deep as it takes. -/
noncomputable def EV : Calls := fun f args h => olim fun n => evFun prim funs n n f args h
theorem EV_some {f args h r} : EV prim funs f args h = some r ↔ ∃ n, evFun prim funs n n f args h = some r := olim_some (evFun_chain prim funs f args h)

theorem EV_prim {f args h g} (hg : prim f = some g) : EV prim funs f args h = g args h := opt_eq fun r => by
  rw [EV_some]
  constructor
  · rintro ⟨n, e⟩
    cases n with
    | zero => simp [evFun] at e
    | succ n => simpa only [evFun, hg] using e
  · intro e
    exact ⟨1, by simpa only [evFun, hg] using e⟩

/-- What a function's body comes to. -/
def outOf (F : AFun) : Option (Ex × St) → Option (AV × List Obj)
  | some (.exit _, _) => none
  | some (_, s) => (results s F.res).map fun r => (r, s.heap)
  | none => none

theorem EV_fun {f args h F} (hg : prim f = none) (hF : funs f = some F) (hl : args.length = F.np) :
    EV prim funs f args h = outOf F (evC (EV prim funs) F.body { vars := args ++ List.replicate (F.nv - F.np) .undef, tmps := [], heap := h }) := opt_eq fun r => by
  rw [EV_some]
  constructor
  · rintro ⟨n, e⟩
    cases n with
    | zero => simp [evFun] at e
    | succ n =>
      simp only [evFun, hg, hF, hl, if_true] at e
      cases hb : evCode (evFun prim funs (n + 1) n) (n + 1) F.body { vars := args ++ List.replicate (F.nv - F.np) .undef, tmps := [], heap := h } with
      | none => rw [hb] at e; simp at e
      | some q =>
        rw [hb] at e
        have hle : ∀ f a l r, evFun prim funs (n + 1) n f a l = some r → EV prim funs f a l = some r := by
          intro f a l r e
          refine EV_some prim funs |>.2 ⟨n + 1, ?_⟩
          exact evFun_mono prim funs n f a l r (n + 1) e (n + 1) (n + 1) (by omega) (by omega)
        have := (evCode_app (App.const hle) hb).const (n + 1) (Nat.le_refl _)
        rw [evC_some.2 ⟨n + 1, this⟩]
        obtain ⟨ex, s1⟩ := q
        cases ex with
        | exit id => simp at e
        | normal => exact e
        | ret => exact e
  · intro e
    cases hb : evC (EV prim funs) F.body { vars := args ++ List.replicate (F.nv - F.np) .undef, tmps := [], heap := h } with
    | none => rw [hb] at e; simp [outOf] at e
    | some q =>
      rw [hb] at e
      obtain ⟨k, hk⟩ := evC_some.1 hb
      have hA : App (fun n => evFun prim funs n n) (EV prim funs) := by
        intro f a l r e
        obtain ⟨n, hn⟩ := EV_some prim funs |>.1 e
        exact ⟨n, fun m hm => evFun_chain prim funs f a l n m r hm hn⟩
      obtain ⟨n, hn⟩ := evCode_app hA hk
      -- the callers' bound on rounds and the code's
      have h1 := hn (n + k) (by omega) (n + k + 1) (by omega)
      have hle : ∀ f a l r, evFun prim funs (n + k) (n + k) f a l = some r → evFun prim funs (n + k + 1) (n + k) f a l = some r :=
        fun f a l r e => evFun_mono prim funs _ _ _ _ _ _ e _ _ (Nat.le_refl _) (by omega)
      have h2 := (evCode_app (App.const hle) h1).const (n + k + 1) (Nat.le_refl _)
      refine ⟨n + k + 1, ?_⟩
      simp only [evFun, hg, hF, hl, if_true, h2]
      obtain ⟨ex, s1⟩ := q
      cases ex with
      | exit id => simp [outOf] at e
      | normal => exact e
      | ret => exact e
end
end Go.Abs
