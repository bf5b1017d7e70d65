/- Operands, and where results are laid. Operations that only compute. Arithmetic, comparisons, parts of data. Comparisons with '==' and '!=' of bools, structs of plain fields, and with nil. -/
import Derived.Test.YtjkjgloionfkgaaDoorInva
import Derived.Laws.Strings
import Derived.Laws.StructEq
import Derived.Laws.Pointers

namespace Go.Abs
open Go.RowKit
variable [Base]

def pvOk : Value → PV → Bool
  | .bool a, .bool b => a == b
  | .int j a, .int k b => j == k && a == b
  | .string s, .str l => s.data.toList == l
  | .pointer none, .nilPtr => true
  | .nilIface, .nilIface => true
  | .nilFunc, .nilFunc => true
  | .map none, .nilMap => true
  | .slice none 0 0, .slice _ [] => true
  | .slice none 0 0, .nilS _ => true
  | _, _ => false
omit [Base] in
theorem pvOk_rep {M : Mem} {v : Value} {p : PV} (h : pvOk v p = true) : RepP M p v := by
  unfold pvOk at h
  split at h
  · simp at h; subst h; simp [RepP]
  · simp at h; obtain ⟨rfl, rfl⟩ := h; simp [RepP]
  · simp at h; subst h; simp [RepP]
  · simp [RepP]
  · simp [RepP]
  · simp [RepP]
  · simp [RepP]
  · simp only [RepP]; exact ⟨none, 0, [], rfl, Nat.le_refl _, by simp [RepL], .inl rfl⟩
  · simp [RepP]
  · simp at h

def opdOk (F : Fr) (x : Operand) : Opd → Bool
  | .v i => match x with | .tmp n => F.σ[i]? == some n | _ => false
  | .t j => match x with | .tmp n => F.τ[j]? == some (some n) | _ => false
  | .k p => match x with | .const v => pvOk v p | _ => false
  | .f n => match x with | .func f => f == n | _ => false

theorem val_sound {F G s t w df} (hR : R F G s t w) {x : Operand} {y : Opd} (h : opdOk F x y = true) :
    RepT F G s t w (keyOf y) (val s y) ((⟨t, df⟩ : Act).eval x) ∧ ∀ k, keyOf y = k → (∀ p, y ≠ .k p) → (∀ f, y ≠ .f f) → isOwn (val s y) = true → cvK F G.B t w k = some ((⟨t, df⟩ : Act).eval x) := by
  cases y with
  | v i =>
    cases x <;> simp only [opdOk, beq_iff_eq, Bool.false_eq_true] at h
    rename_i n
    simp only [keyOf, val, List.getD_eq_getElem?_getD, Act.eval, Array.getD_eq_getD_getElem?]
    cases hi : s.vars[i]? with
    | none => simp [RepT, RepA, isOwn]
    | some a =>
      obtain ⟨m, v, e1, e2, e3⟩ := hR.vars i a hi
      rw [h] at e1; simp at e1; subst e1
      simp only [Option.getD_some, e2]
      refine ⟨e3, ?_⟩
      rintro k rfl _ _ _
      simp [cvK, slotK, h, e2]
  | t j =>
    cases x <;> simp only [opdOk, beq_iff_eq, Bool.false_eq_true] at h
    rename_i n
    simp only [keyOf, val, List.getD_eq_getElem?_getD, Act.eval, Array.getD_eq_getD_getElem?]
    cases hi : s.tmps[j]? with
    | none => simp [RepT, RepA, isOwn]
    | some a =>
      rcases hR.tmps j a hi with rfl | ⟨m, v, e1, e2, e3⟩
      · simp [RepT, RepA, isOwn]
      · simp only [slotK, h, Option.bind_some, id, Option.some.injEq] at e1; subst e1
        simp only [Option.getD_some, e2]
        refine ⟨e3, ?_⟩
        rintro k rfl _ _ _
        simp [cvK, slotK, h, e2]
  | k p =>
    cases x <;> simp only [opdOk, Bool.false_eq_true] at h
    refine ⟨?_, fun _ _ hp => absurd rfl (hp p)⟩
    simp only [val, RepT, RepA, Act.eval]
    exact pvOk_rep h
  | f n =>
    cases x <;> simp only [opdOk, Bool.false_eq_true, beq_iff_eq] at h
    refine ⟨?_, fun _ _ _ hp => absurd rfl (hp n)⟩
    subst h
    simp only [val, RepT, RepA, RepP, Act.eval]

/-- A copy: of what is owned a loan. -/
theorem copy_sound {F G s t w df} (hR : R F G s t w) {x : Operand} {y : Opd} (h : opdOk F x y = true) (κ : Key) : RepT F G s t w κ (copy s y) ((⟨t, df⟩ : Act).eval x) := by
  obtain ⟨h1, h2⟩ := val_sound (df := df) hR h
  have any : ∀ a, val s y = a → isOwn a = false → RepT F G s t w κ a ((⟨t, df⟩ : Act).eval x) := by
    intro a ha ho
    rw [ha] at h1
    cases a <;> first | exact h1 | simp [isOwn] at ho
  cases y with
  | v i =>
    cases ho : val s (.v i) with
    | own fz sz xs =>
      simp only [copy, ho, RepT]
      exact ⟨h2 _ rfl (by simp) (by simp) (by rw [ho]; rfl), by have : getK s (.v i) = val s (.v i) := rfl; rw [this, ho]; rfl⟩
    | _ => simp only [copy, ho]; exact any _ ho rfl
  | t j =>
    cases ho : val s (.t j) with
    | own fz sz xs =>
      simp only [copy, ho, RepT]
      exact ⟨h2 _ rfl (by simp) (by simp) (by rw [ho]; rfl), by have : getK s (.t j) = val s (.t j) := rfl; rw [this, ho]; rfl⟩
    | _ => simp only [copy, ho]; exact any _ ho rfl
  | k p => simp only [copy]; exact any _ rfl rfl
  | f n => simp only [copy]; exact any _ rfl rfl

theorem fitDst_sound {F G s t w} (hR : R F G s t w) {κ : Key} {a : AV} {x : Value} (h : RepT F G s t w κ a x) : RepT F G s t w κ (fitDst s κ a) x ∧ loanOf (fitDst s κ a) ≠ some κ := by
  have undef : RepT F G s t w κ .undef x ∧ loanOf .undef ≠ some κ := ⟨by simp [RepT, RepA], by simp [loanOf]⟩
  cases a with
  | lent k =>
    simp only [fitDst]
    cases κ with
    | v i =>
      simp only
      cases hg : give s (.lent k) with
      | none => exact undef
      | some b =>
        have := give_sound hR h hg
        exact ⟨RepA_T this, RepA_loan this _⟩
    | t j =>
      simp only
      by_cases e : k = .t j
      · rw [if_pos e]; exact undef
      · rw [if_neg e]; exact ⟨h, by simpa [loanOf] using e⟩
    | c l i =>
      simp only
      by_cases e : k = .c l i
      · rw [if_pos e]; exact undef
      · rw [if_neg e]; exact ⟨h, by simpa [loanOf] using e⟩
  | eref k i o =>
    simp only [fitDst]
    by_cases e : k = κ
    · rw [if_pos e]; exact undef
    · rw [if_neg e]; exact ⟨h, by simpa [loanOf] using e⟩
  | _ => exact ⟨h, by simp [fitDst, loanOf]⟩

/-- Nothing is said of a temporary that no operation has laid. -/
theorem R.setUndef {F G s t w} (hR : R F G s t w) (j : Nat) (hn : isOwn (getK s (.t j)) = false) : R F G { s with tmps := s.tmps.set j .undef } t w := by
  have hg : ∀ k, isOwn (getK s k) = true → getK { s with tmps := s.tmps.set j .undef } k = getK s k := by
    intro k hk
    cases k with
    | v i => rfl
    | c l i => rfl
    | t i =>
      by_cases e : j = i
      · subst e; rw [hn] at hk; simp at hk
      · simp only [getK]; exact getD_set_ne _ _ _ _ _ e
  refine ⟨hR.agree, hR.freshM, hR.base, hR.freshZ, hR.hB, hR.inj, fun i a h => ?_, fun i a h => ?_, hR.objs⟩
  · obtain ⟨n, x, e1, e2, e3⟩ := hR.vars i a h
    exact ⟨n, x, e1, e2, e3.state hg⟩
  · simp only [List.getElem?_set] at h
    by_cases e : j = i
    · subst e
      simp only [if_true] at h
      split at h
      · simp at h; exact .inl h.symm
      · simp at h
    · simp only [e, if_false] at h
      rcases hR.tmps i a h with h0 | ⟨n, x, e1, e2, e3⟩
      · exact .inl h0
      · exact .inr ⟨n, x, e1, e2, e3.state hg⟩

/-- Where the machine's operation lays its value, and where the evaluator's. -/
def dstOk (F : Fr) (j : Nat) (d : Option Nat) (cd : Option Tmp) : Bool :=
  match d with
  | some i => match cd with | some n => F.σ[i]? == some n | none => false
  | none => F.τ[j]? == some cd

theorem putRes_sound {F G s t w df} (hR : R F G s t w) {j : Nat} {d : Option Nat} {cd : Option Tmp} (h : dstOk F j d cd = true) (hsz : ∀ n, cd = some n → n < t.size) (hj : isOwn (getK s (.t j)) = false)
    {a : AV} {x : Value} (ha : RepT F G s t w (dstKey j d) a x) (hnone : cd = none → a = .undef) : R F G (putRes s j d a) (((⟨t, df⟩ : Act).put cd x)).tmps w := by
  obtain ⟨h1, h2⟩ := fitDst_sound hR ha
  cases d with
  | some i =>
    cases cd with
    | none => simp [dstOk] at h
    | some n =>
      simp only [dstOk, beq_iff_eq] at h
      exact hR.putSlot (κ := .v i) (by simpa [slotK] using h) (hsz n rfl) h1 h2
  | none =>
    simp only [dstOk, beq_iff_eq] at h
    cases cd with
    | some n => exact hR.putSlot (κ := .t j) (by simp [slotK, h]) (hsz n rfl) h1 h2
    | none =>
      rw [hnone rfl]
      simp only [putRes, dstKey, fitDst, putK, hj, Act.put, setK]
      exact hR.setUndef j hj
end Go.Abs

namespace Go.Abs
open Go.RowKit
variable [Base]

/-- What an operation owes: of the machine's operation 'co' that the state behind it, and its value, are the evaluator's. -/
def OpS (P : Program) (F : Fr) (co : Oper) (o : AOp) (call : Calls) : Prop :=
  ∀ (G : Gh) (s : St) (t : Array Value) (w : World) (df : List Deferred) (a : AV) (s' : St) (N : Nat), s.tmps.length ≤ N → R F G s t w → evOp call o s = some (a, s') →
    ∀ (next : Act → World → Prop) (Q : Exit → Act → World → Prop),
      (∀ (G' : Gh) (w' : World) (v : Value), R F G' s' t w' → RepT F G' s' t w' (.t N) a v → (co.dst = none → a = .undef) → Ext G w G' w' → next ((⟨t, df⟩ : Act).put co.dst v) w') →
      co.wp P ⟨t, df⟩ w next Q

theorem opS_pure {P F co o call} (hd : co.dst ≠ none)
    (h : ∀ (G : Gh) (s : St) (t : Array Value) (w : World) (df : List Deferred) (a : AV) (s' : St) (κ : Key), R F G s t w → evOp call o s = some (a, s') →
      ∃ v, s' = s ∧ (execOp (⟨t, df⟩ : Act).eval co).run P w = .ok (.value v) w ∧ RepT F G s t w κ a v) : OpS P F co o call := by
  intro G s t w df a s' N _ hR hev next Q hk
  obtain ⟨v, rfl, h1, h2⟩ := h G s t w df a s' (.t N) hR hev
  unfold Oper.wp
  rw [h1]
  exact hk G w v hR h2 (fun e => absurd e hd) (Ext.refl _ _)

section
variable {P : Program} {F : Fr} {co : Oper} {call : Calls}

theorem op_mv {X : Operand} {x : Opd} (hd : co.dst ≠ none) (ho : co.op = .move X) (hx : opdOk F X x = true) : OpS P F co (.mv x) call := by
  refine opS_pure hd fun G s t w df a s' κ hR hev => ?_
  simp only [evOp, Option.some.injEq, Prod.mk.injEq] at hev
  obtain ⟨rfl, rfl⟩ := hev
  exact ⟨_, rfl, by simp only [execOp, ho]; rfl, copy_sound hR hx κ⟩

theorem op_asg {X : Operand} {x : Opd} (hd : co.dst ≠ none) (ho : co.op = .assign X) (hx : opdOk F X x = true) : OpS P F co (.asg x) call := by
  intro G s t w df a s' N _ hR hev next Q hk
  simp only [evOp] at hev
  obtain ⟨h1, h2⟩ := val_sound (df := df) hR hx
  obtain ⟨G', k1, k2, k3, k4⟩ := take_sound hR h1 (fun j e ho => by subst e; exact h2 _ rfl (by simp) (by simp) ho) hev (.t N)
  unfold Oper.wp
  have : (execOp (⟨t, df⟩ : Act).eval co).run P w = .ok (.value ((⟨t, df⟩ : Act).eval X)) w := by simp only [execOp, ho]; rfl
  rw [this]
  exact hk G' w _ k1 k4 (fun e => absurd e hd) k2

theorem val_pure {G s t w df} (hR : R F G s t w) {X : Operand} {x : Opd} (hx : opdOk F X x = true) {p : PV} (hp : val s x = .p p) : RepP G.M p ((⟨t, df⟩ : Act).eval X) := by
  have := (val_sound (df := df) hR hx).1
  rw [hp] at this
  exact this

theorem giveP_sound {G s t w df} (hR : R F G s t w) {X : Operand} {x : Opd} (hx : opdOk F X x = true) {p : PV} (hp : giveP s (val s x) = some p) : RepP G.M p ((⟨t, df⟩ : Act).eval X) := by
  unfold giveP at hp
  split at hp
  · rename_i v hg
    simp at hp; subst hp
    exact give_sound hR (val_sound (df := df) hR hx).1 hg
  · simp at hp

theorem op_pick {C A B : Operand} {c a b : Opd} (hd : co.dst ≠ none) (ho : co.op = .pick C A B) (hc : opdOk F C c = true) (ha : opdOk F A a = true) (hb : opdOk F B b = true) :
    OpS P F co (.pick c a b) call := by
  refine opS_pure hd fun G s t w df r s' κ hR hev => ?_
  simp only [evOp] at hev
  split at hev
  · rename_i tt hv
    simp only [Option.some.injEq, Prod.mk.injEq] at hev
    obtain ⟨rfl, rfl⟩ := hev
    have h1 := val_pure (df := df) hR hc hv
    simp only [RepP] at h1
    refine ⟨if tt then (⟨t, df⟩ : Act).eval A else (⟨t, df⟩ : Act).eval B, rfl, by simp only [execOp, ho, h1]; rfl, ?_⟩
    cases tt with
    | true => exact copy_sound hR ha κ
    | false => exact copy_sound hR hb κ
  · simp at hev

theorem op_un {X : Operand} {x : Opd} {op : UOp} {cop : UnOp} {T : TypeId} (hd : co.dst ≠ none) (ho : co.op = .unOp cop T X) (hx : opdOk F X x = true)
    (hop : (op = .not ∧ cop = .not) ∨ (op = .neg ∧ cop = .neg)) : OpS P F co (.un op x) call := by
  refine opS_pure hd fun G s t w df r s' κ hR hev => ?_
  simp only [evOp] at hev
  split at hev
  · rename_i b hv
    simp only [Option.some.injEq, Prod.mk.injEq] at hev
    obtain ⟨rfl, rfl⟩ := hev
    have h1 := val_pure (df := df) hR hx hv
    simp only [RepP] at h1
    have hc : cop = .not := by rcases hop with ⟨_, h⟩ | ⟨h, _⟩ <;> simp_all
    exact ⟨.bool (!b), rfl, by simp only [execOp, ho, h1, hc]; rfl, by simp only [RepT, RepA, RepP]⟩
  · rename_i k n hv
    simp only [Option.some.injEq, Prod.mk.injEq] at hev
    obtain ⟨rfl, rfl⟩ := hev
    have h1 := val_pure (df := df) hR hx hv
    simp only [RepP] at h1
    have hc : cop = .neg := by rcases hop with ⟨h, _⟩ | ⟨_, h⟩ <;> simp_all
    refine ⟨.int k (k.wrap (-n)), rfl, ?_, by simp only [RepT, RepA, RepP]⟩
    simp only [execOp, ho, h1, hc, Op.unary, Op.intArith, Int.zero_sub]; rfl
  · simp at hev

theorem op_conv {X : Operand} {x : Opd} {k : IntKind} {S D : TypeId} (hd : co.dst ≠ none) (ho : co.op = .convert S D X) (hx : opdOk F X x = true)
    (hS : ∃ j, P.underlying S = some (.int j)) (hD : P.underlying D = some (.int k)) : OpS P F co (.conv k x) call := by
  refine opS_pure hd fun G s t w df r s' κ hR hev => ?_
  simp only [evOp] at hev
  split at hev
  · rename_i j n hv
    simp only [Option.some.injEq, Prod.mk.injEq] at hev
    obtain ⟨rfl, rfl⟩ := hev
    have h1 := val_pure (df := df) hR hx hv
    simp only [RepP] at h1
    obtain ⟨j', hS⟩ := hS
    refine ⟨.int k (k.wrap n), rfl, ?_, by simp only [RepT, RepA, RepP]⟩
    simp [execOp, ho, h1, convert, run_underlying hS, run_underlying hD, Conv.intToInt]
  · simp at hev

theorem op_cstr {X : Operand} {x : Opd} {S D : TypeId} (hd : co.dst ≠ none) (ho : co.op = .convert S D X) (hx : opdOk F X x = true)
    (hS : P.underlying S = some .string) (hD : P.underlying D = some .string) : OpS P F co (.cstr x) call := by
  refine opS_pure hd fun G s t w df r s' κ hR hev => ?_
  simp only [evOp] at hev
  split at hev
  · rename_i b hv
    simp only [Option.some.injEq, Prod.mk.injEq] at hev
    obtain ⟨rfl, rfl⟩ := hev
    have h1 := val_pure (df := df) hR hx hv
    simp only [RepP] at h1
    refine ⟨_, rfl, ?_, by simp only [RepT, RepA, RepP]; rfl⟩
    simp [execOp, ho, h1, convert, run_underlying hS, run_underlying hD]
  · simp at hev

theorem op_mkif {X : Operand} {x : Opd} {T : TypeId} {d : TypeDesc} (hd : co.dst ≠ none) (ho : co.op = .makeInterface T X) (hx : opdOk F X x = true)
    (hT : P.underlying T = some d) (hni : ∀ ms, d ≠ .interface ms) : OpS P F co (.mkif T x) call := by
  refine opS_pure hd fun G s t w df r s' κ hR hev => ?_
  simp only [evOp] at hev
  split at hev
  · rename_i v hv
    simp only [Option.some.injEq, Prod.mk.injEq] at hev
    obtain ⟨rfl, rfl⟩ := hev
    have h1 := give_sound hR (val_sound (df := df) hR hx).1 hv
    refine ⟨.iface T ((⟨t, df⟩ : Act).eval X), rfl, ?_, by simp only [RepT, RepA, RepP] at h1 ⊢; exact ⟨_, rfl, h1⟩⟩
    simp only [execOp, ho, Instr.makeInterface, Sem.run_bind, run_underlying hT, Result.andThen_ok]
    cases d <;> first | rfl | exact absurd rfl (hni _)
  · simp at hev

theorem op_ext {X : Operand} {x : Opd} {i : Nat} (hd : co.dst ≠ none) (ho : co.op = .extract X i) (hx : opdOk F X x = true) : OpS P F co (.ext x i) call := by
  refine opS_pure hd fun G s t w df r s' κ hR hev => ?_
  simp only [evOp] at hev
  split at hev
  · rename_i l hv
    have h1 := (val_sound (df := df) hR hx).1
    rw [hv] at h1
    simp only [RepT, RepA] at h1
    obtain ⟨vs, e1, e2⟩ := h1
    split at hev
    · rename_i c hc
      obtain ⟨v, f1, f2⟩ := e2.get hc
      simp only [Option.map_eq_some_iff, Prod.mk.injEq] at hev
      obtain ⟨b, g1, rfl, rfl⟩ := hev
      have g2 := give_sound (κ := κ) hR (RepA_T f2) g1
      refine ⟨v, rfl, ?_, RepA_T g2⟩
      have f1' : vs[i]? = some v := by simpa using f1
      simp only [execOp, ho, Instr.extract, e1, f1']; rfl
    · simp at hev
  · simp at hev
end
end Go.Abs

namespace Go.Abs
open Go.RowKit
variable [Base]

omit [Base] in
theorem mkBytes_toList (l : List UInt8) : (⟨l.toArray⟩ : ByteArray).toList = l := by
  rw [ByteArray.toList_eq]
omit [Base] in
theorem mkBytes_size (l : List UInt8) : (⟨l.toArray⟩ : ByteArray).size = l.length := by
  simp [ByteArray.size]
omit [Base] in
theorem mkBytes_append (a b : List UInt8) : (⟨a.toArray⟩ : ByteArray) ++ ⟨b.toArray⟩ = ⟨(a ++ b).toArray⟩ := by
  apply ByteArray.ext
  simp
omit [Base] in
theorem bytesLess_eq : ∀ a b, Op.bytesLess a b = ltL a b
  | [], [] => rfl
  | _ :: _, [] => rfl
  | [], _ :: _ => rfl
  | a :: x, b :: y => by simp [Op.bytesLess, ltL, bytesLess_eq x y]

def bopOk : BinOp → BOp → Bool
  | .add, .add | .sub, .sub | .mul, .mul | .quo, .quo | .rem, .rem | .lss, .lss | .leq, .leq | .gtr, .gtr | .geq, .geq | .eql, .eql | .neq, .neq => true
  | _, _ => false

omit [Base] in
theorem eqGuard_scalar (P : Program) (w : World) (op : BinOp) (T : TypeId) (X Y : Operand) (a b : Value) (h : (∃ k n, a = .int k n) ∨ (∃ s, a = .string s) ∨ (∃ c, a = .bool c)) :
    (eqGuard op T X Y a b).run P w = .ok () w := by
  unfold eqGuard
  rcases h with ⟨k, n, rfl⟩ | ⟨s, rfl⟩ | ⟨c, rfl⟩ <;> cases op <;> simp <;> cases b <;> rfl

section
variable {P : Program} {F : Fr} {co : Oper} {call : Calls}

omit [Base] in
theorem run_binInt {w : World} {op : BinOp} {aop : BOp} {k : IntKind} {a b : Int} {v : PV} {T : TypeId} (hb : bopOk op aop = true) (h : binInt aop k a b = some v) :
    ∃ x, (binOp op T (.int k a) (.int k b)).run P w = .ok x w ∧ ∀ M, RepP M v x := by
  have quo : aop = .quo → op = .quo → ∃ x, (binOp op T (.int k a) (.int k b)).run P w = .ok x w ∧ ∀ M, RepP M v x := by
    rintro rfl rfl
    simp only [binInt] at h
    split at h
    · simp at h
    · rename_i h0
      simp at h; subst h
      exact ⟨.int k (k.wrap (a.tdiv b)), by simp [binOp, Op.intDiv, h0], fun M => by simp only [RepP]⟩
  have rem : aop = .rem → op = .rem → ∃ x, (binOp op T (.int k a) (.int k b)).run P w = .ok x w ∧ ∀ M, RepP M v x := by
    rintro rfl rfl
    simp only [binInt] at h
    split at h
    · simp at h
    · rename_i h0
      simp at h; subst h
      exact ⟨.int k (a.tmod b), by simp [binOp, Op.intDiv, h0], fun M => by simp only [RepP]⟩
  unfold bopOk at hb
  split at hb
  · simp only [binInt, Option.some.injEq] at h; subst h; exact ⟨_, by simp [binOp, Op.intArith]; rfl, fun M => by simp only [RepP]⟩
  · simp only [binInt, Option.some.injEq] at h; subst h; exact ⟨_, by simp [binOp, Op.intArith]; rfl, fun M => by simp only [RepP]⟩
  · simp only [binInt, Option.some.injEq] at h; subst h; exact ⟨_, by simp [binOp, Op.intArith]; rfl, fun M => by simp only [RepP]⟩
  · exact quo rfl rfl
  · exact rem rfl rfl
  · simp only [binInt, Option.some.injEq] at h; subst h; exact ⟨.bool (decide (a < b)), by simp [binOp, Op.intCmp], fun M => by simp only [RepP]⟩
  · simp only [binInt, Option.some.injEq] at h; subst h; exact ⟨.bool (decide (a ≤ b)), by simp [binOp, Op.intCmp], fun M => by simp only [RepP]⟩
  · simp only [binInt, Option.some.injEq] at h; subst h; exact ⟨.bool (decide (a > b)), by simp [binOp, Op.intCmp], fun M => by simp only [RepP]⟩
  · simp only [binInt, Option.some.injEq] at h; subst h; exact ⟨.bool (decide (a ≥ b)), by simp [binOp, Op.intCmp], fun M => by simp only [RepP]⟩
  · simp only [binInt, Option.some.injEq] at h; subst h; exact ⟨.bool (a == b), by simp [binOp, Op.intCmp], fun M => by simp only [RepP]⟩
  · simp only [binInt, Option.some.injEq] at h; subst h; exact ⟨.bool (a != b), by simp [binOp, Op.intCmp], fun M => by simp only [RepP]⟩
  · simp at hb

omit [Base] in
theorem run_binStr {w : World} {op : BinOp} {aop : BOp} {a b : List UInt8} {v : PV} {T : TypeId} (hb : bopOk op aop = true) (h : binStr aop a b = some v) :
    ∃ x, (binOp op T (.string ⟨a.toArray⟩) (.string ⟨b.toArray⟩)).run P w = .ok x w ∧ ∀ M, RepP M v x := by
  have hbeq : (a == b) = decide (a = b) := by rw [Bool.eq_iff_iff]; simp
  unfold bopOk at hb
  split at hb
  · simp only [binStr] at h
    split at h
    · rename_i h0
      simp only [Option.some.injEq] at h; subst h
      refine ⟨.string (⟨a.toArray⟩ ++ ⟨b.toArray⟩), ?_, fun M => by simp only [RepP]; rw [mkBytes_append]⟩
      simp only [binOp, Op.stringOp]
      rw [if_neg]
      · rfl
      · rw [mkBytes_size, mkBytes_size]
        have : (a.length + b.length : Nat) ≤ 2 ^ 40 := h0
        simp only [IntKind.max, IntKind.signed, IntKind.bits]
        omega
    · simp at h
  · simp [binStr] at h
  · simp [binStr] at h
  · simp [binStr] at h
  · simp [binStr] at h
  · simp only [binStr, Option.some.injEq] at h; subst h
    exact ⟨_, by simp only [binOp, Op.stringOp, mkBytes_toList, bytesLess_eq, hbeq]; rfl, fun M => by simp only [RepP]⟩
  · simp only [binStr, Option.some.injEq] at h; subst h
    exact ⟨_, by simp only [binOp, Op.stringOp, mkBytes_toList, bytesLess_eq, hbeq]; rfl, fun M => by simp only [RepP]⟩
  · simp only [binStr, Option.some.injEq] at h; subst h
    exact ⟨_, by simp only [binOp, Op.stringOp, mkBytes_toList, bytesLess_eq, hbeq]; rfl, fun M => by simp only [RepP]⟩
  · simp only [binStr, Option.some.injEq] at h; subst h
    exact ⟨_, by simp only [binOp, Op.stringOp, mkBytes_toList, bytesLess_eq, hbeq]; rfl, fun M => by simp only [RepP]⟩
  · simp only [binStr, Option.some.injEq] at h; subst h
    exact ⟨_, by simp only [binOp, Op.stringOp, mkBytes_toList, bytesLess_eq, hbeq]; rfl, fun M => by simp only [RepP]⟩
  · simp only [binStr, Option.some.injEq] at h; subst h
    exact ⟨_, by simp only [binOp, Op.stringOp, mkBytes_toList, bytesLess_eq, hbeq]; rfl, fun M => by simp only [RepP]⟩
  · simp at hb

theorem op_bin {X Y : Operand} {x y : Opd} {cop : BinOp} {op : BOp} {T T' : TypeId} (hd : co.dst ≠ none) (ho : co.op = .binOp cop T X Y T') (hx : opdOk F X x = true) (hy : opdOk F Y y = true)
    (hop : bopOk cop op = true) : OpS P F co (.bin op x y) call := by
  refine opS_pure hd fun G s t w df r s' κ hR hev => ?_
  simp only [evOp] at hev
  split at hev
  · rename_i a b ha hb
    simp only [Option.map_eq_some_iff, Prod.mk.injEq] at hev
    obtain ⟨v, h1, rfl, rfl⟩ := hev
    have h2 := val_pure (df := df) hR hx ha
    have h3 := val_pure (df := df) hR hy hb
    unfold binP at h1
    split at h1
    · rename_i j m k n
      simp only [RepP] at h2 h3
      split at h1
      · rename_i hjk
        subst hjk
        obtain ⟨u, e1, e2⟩ := run_binInt (P := P) (w := w) (T := T) hop h1
        refine ⟨u, rfl, ?_, by simp only [RepT, RepA]; exact e2 _⟩
        simp only [execOp, ho, h2, h3, Sem.run_bind, eqGuard_scalar P w cop T X Y _ _ (.inl ⟨j, m, rfl⟩), Result.andThen_ok, e1]
        rfl
      · simp at h1
    · rename_i l m
      simp only [RepP] at h2 h3
      obtain ⟨u, e1, e2⟩ := run_binStr (P := P) (w := w) (T := T) hop h1
      refine ⟨u, rfl, ?_, by simp only [RepT, RepA]; exact e2 _⟩
      simp only [execOp, ho, h2, h3, Sem.run_bind, eqGuard_scalar P w cop T X Y _ _ (.inr (.inl ⟨_, rfl⟩)), Result.andThen_ok, e1]
      rfl
    · simp at h1
  · simp at hev
end
end Go.Abs

namespace Go.Abs
open Go.RowKit
variable [Base]

def kindOk (P : Program) (t : TypeId) : EqK → Bool
  | .bool => match P.underlying t with | some .bool => true | _ => false
  | .int => match P.underlying t with | some (.int _) => true | _ => false
  | .str => match P.underlying t with | some .string => true | _ => false
  | _ => false
def fieldsOk (P : Program) : List EqK → List Field → Nat → Bool
  | [], [], _ => true
  | k :: ks, f :: fs, i => f.name != "_" && f.offset == i && kindOk P f.type k && fieldsOk P ks fs (i + 1)
  | _, _, _ => false

section
variable {P : Program}

omit [Base] in
theorem run_isAgg_no {t : TypeId} {d : TypeDesc} (h : P.underlying t = some d) (h1 : ∀ fs, d ≠ .struct fs) (h2 : ∀ n e, d ≠ .array n e) (w : World) : (isAgg t).run P w = .ok false w := by
  simp only [isAgg, Sem.run_bind, run_underlying h, Result.andThen_ok]
  cases d <;> first | rfl | exact absurd rfl (h1 _) | exact absurd rfl (h2 _ _)
omit [Base] in
theorem run_part_no {t : TypeId} {d : TypeDesc} (h : P.underlying t = some d) (h1 : ∀ fs, d ≠ .struct fs) (h2 : ∀ n e, d ≠ .array n e) {cs : Array Value} {i : Nat} {x : Value} (hx : cs[i]? = some x) (w : World) :
    (part t cs i).run P w = .ok x w := by
  simp only [part, Sem.run_bind, run_isAgg_no h h1 h2, Result.andThen_ok, Bool.false_eq_true, if_false, hx]
  rfl

omit [Base] in
theorem scalar_eq {M : Mem} {k : EqK} {a b : PV} {x y : Value} {r : Bool} {t : TypeId} (hk : kindOk P t k = true) (ha : RepP M a x) (hb : RepP M b y) (h : eqScalar k a b = some r) (d : Nat) (w : World) :
    (Op.equalIn (d + 1) t x y).run P w = .ok r w ∧ ∃ e, P.underlying t = some e ∧ (∀ fs, e ≠ .struct fs) ∧ ∀ n z, e ≠ .array n z := by
  unfold eqScalar at h
  split at h
  · simp only [kindOk] at hk
    split at hk
    · rename_i hu
      simp only [RepP] at ha hb; subst ha; subst hb
      simp at h; subst h
      exact ⟨run_equalIn_bool _ _ _ _ _ hu, _, hu, by simp, by simp⟩
    · simp at hk
  · simp only [kindOk] at hk
    split at hk
    · rename_i hu
      simp only [RepP] at ha hb; subst ha; subst hb
      split at h
      · rename_i e; subst e
        simp at h; subst h
        exact ⟨run_equalIn_int _ _ _ _ _ _ _ hu, _, hu, by simp, by simp⟩
      · simp at h
    · simp at hk
  · simp only [kindOk] at hk
    split at hk
    · rename_i hu
      simp only [RepP] at ha hb; subst ha; subst hb
      simp at h; subst h
      refine ⟨?_, _, hu, by simp, by simp⟩
      rw [run_equalIn_string _ _ _ _ _ hu, mkBytes_toList, mkBytes_toList]
      congr 1
      rw [Bool.eq_iff_iff]; simp
    · simp at hk
  · simp at h

omit [Base] in
theorem run_eqFields {M : Mem} (d : Nat) (xs ys : Array Value) (w : World) : ∀ (ks : List EqK) (fs : List Field) (as bs : List PV) (i : Nat) (r : Bool), fieldsOk P ks fs i = true →
    RepL M as (xs.toList.drop i) → RepL M bs (ys.toList.drop i) → eqCells ks as bs = some r → (Op.eqFields (d + 1) xs ys fs).run P w = .ok r w
  | [], [], as, bs, i, r, _, _, _, h => by
    cases as <;> cases bs <;> simp [eqCells] at h
    subst h
    simp [Op.eqFields]
  | k :: ks, f :: fs, a :: as, b :: bs, i, r, hf, hx, hy, h => by
    simp only [fieldsOk, Bool.and_eq_true, bne_iff_ne, ne_eq, beq_iff_eq] at hf
    obtain ⟨⟨⟨h1, h2⟩, h3⟩, h4⟩ := hf
    simp only [eqCells] at h
    split at h
    · rename_i u v hu hv
      simp at h; subst h
      cases hxd : xs.toList.drop i with
      | nil => rw [hxd] at hx; simp [RepL] at hx
      | cons x xr =>
        cases hyd : ys.toList.drop i with
        | nil => rw [hyd] at hy; simp [RepL] at hy
        | cons y yr =>
          rw [hxd] at hx; rw [hyd] at hy
          simp only [RepL] at hx hy
          have gx : xs[i]? = some x := by
            have : (xs.toList.drop i)[0]? = some x := by rw [hxd]; rfl
            simpa using this
          have gy : ys[i]? = some y := by
            have : (ys.toList.drop i)[0]? = some y := by rw [hyd]; rfl
            simpa using this
          have dx : xs.toList.drop (i + 1) = xr := by rw [← List.drop_drop, hxd]; rfl
          have dy : ys.toList.drop (i + 1) = yr := by rw [← List.drop_drop, hyd]; rfl
          obtain ⟨e1, e, e2, e3, e4⟩ := scalar_eq (P := P) h3 hx.1 hy.1 hu d w
          have ih := run_eqFields d xs ys w ks fs as bs (i + 1) v h4 (by rw [dx]; exact hx.2) (by rw [dy]; exact hy.2) hv
          subst h2
          simp only [Op.eqFields, ne_eq, h1, not_false_eq_true, if_true, Sem.run_bind, run_part_no e2 e3 e4 gx, run_part_no e2 e3 e4 gy, Result.andThen_ok, e1]
          cases u with
          | true => simp only [Bool.not_true, Bool.false_eq_true, if_false, Bool.true_and]; exact ih
          | false => simp
    · simp at h
  | [], _ :: _, _, _, _, _, hf, _, _, _ => by simp [fieldsOk] at hf
  | _ :: _, [], _, _, _, _, hf, _, _, _ => by simp [fieldsOk] at hf
  | _ :: _, _ :: _, [], _, _, _, _, _, _, h => by simp [eqCells] at h
  | _ :: _, _ :: _, _ :: _, [], _, _, _, _, _, h => by simp [eqCells] at h

def isConstO : Operand → Bool
  | .const _ => true
  | _ => false

/-- What must hold of a comparison's type and operands. -/
def eqKOk (P : Program) (T : TypeId) (X Y : Operand) : EqK → Bool
  | .bool => match P.underlying T with | some .bool => true | _ => false
  | .iface => (match P.underlying T with | some (.interface _) => true | _ => false) && (isConstO X || isConstO Y)
  | .func => match P.underlying T with | some (.func _ _ _) => true | _ => false
  | .ptr => match P.underlying T with | some (.pointer _) => true | _ => false
  | .agg ks => (match P.underlying T with | some (.struct fs) => fieldsOk P ks fs.toList 0 | _ => false) && !P.stoodInHeld T && !P.eqGuardType P.depth T
  | _ => false

omit [Base] in
theorem eqGuard_nil {op : BinOp} {T : TypeId} {X Y : Operand} (h : isConstO X = true ∨ isConstO Y = true) : eqGuard op T X Y .nilIface .nilIface = pure () := by
  rcases h with h | h
  · cases X <;> simp only [isConstO, Bool.false_eq_true] at h
    cases op <;> rfl
  · cases Y <;> simp only [isConstO, Bool.false_eq_true] at h
    cases X <;> cases op <;> rfl

theorem op_eq {F : Fr} {co : Oper} {call : Calls} {X Y : Operand} {x y : Opd} {neg : Bool} {k : EqK} {T T' : TypeId} (hd : co.dst ≠ none) (ho : co.op = .binOp (if neg then .neq else .eql) T X Y T')
    (hx : opdOk F X x = true) (hy : opdOk F Y y = true) (hk : eqKOk P T X Y k = true) : OpS P F co (.eq neg k x y) call := by
  refine opS_pure hd fun G s t w df r s' κ hR hev => ?_
  simp only [evOp, Option.map_eq_some_iff, Prod.mk.injEq] at hev
  obtain ⟨b, h1, rfl, rfl⟩ := hev
  have hX := (val_sound (df := df) hR hx).1
  have hY := (val_sound (df := df) hR hy).1
  refine ⟨.bool (b != neg), rfl, ?_, by simp only [RepT, RepA, RepP]⟩
  have hex : ∀ u v, (⟨t, df⟩ : Act).eval X = u → (⟨t, df⟩ : Act).eval Y = v → (eqGuard (if neg then .neq else .eql) T X Y u v).run P w = .ok () w →
      (binOp (if neg then .neq else .eql) T u v).run P w = .ok (.bool (b != neg)) w → (execOp (⟨t, df⟩ : Act).eval co).run P w = .ok (.value (.bool (b != neg))) w := by
    intro u v hu hv hg he
    simp only [execOp, ho, hu, hv, Sem.run_bind, hg, Result.andThen_ok, he]
    rfl
  have eqd : ∀ u v, (∀ d w, (Op.equalIn (d + 1) T u v).run P w = .ok b w) → (binOp .eql T u v = do pure (.bool (← Op.equal T u v))) → (binOp .neq T u v = do pure (.bool (!(← Op.equal T u v)))) →
      (binOp (if neg then .neq else .eql) T u v).run P w = .ok (.bool (b != neg)) w := by
    intro u v hq he hn
    have : (Op.equal T u v).run P w = .ok b w := hq 9999 w
    cases neg with
    | true => simp only [if_true, hn, Sem.run_bind, this, Result.andThen_ok, Sem.run_pure]; simp
    | false => simp only [Bool.false_eq_true, if_false, he, Sem.run_bind, this, Result.andThen_ok, Sem.run_pure]; simp
  have guardNone : ∀ u v, (∀ op, eqGuard op T X Y u v = pure ()) → (eqGuard (if neg then .neq else .eql) T X Y u v).run P w = .ok () w := by
    intro u v h; rw [h]; rfl
  unfold eqA at h1
  split at h1
  · -- iface nil nil
    rename_i e1 e2
    rw [e1] at hX; rw [e2] at hY
    simp only [RepT, RepA, RepP] at hX hY
    simp at h1; subst h1
    simp only [eqKOk, Bool.and_eq_true, Bool.or_eq_true] at hk
    obtain ⟨hT, hc⟩ := hk
    split at hT
    · rename_i ms hT'
      exact hex _ _ hX hY (guardNone _ _ fun op => eqGuard_nil hc) (eqd _ _ (fun d w => by simp [Op.equalIn, run_underlying hT']) rfl rfl)
    · simp at hT
  · rename_i e1 e2
    rw [e1] at hX; rw [e2] at hY
    simp only [RepT, RepA, RepP] at hX hY
    simp at h1; subst h1
    obtain ⟨z, hz, _⟩ := hY
    simp only [eqKOk, Bool.and_eq_true] at hk
    obtain ⟨hT, -⟩ := hk
    split at hT
    · rename_i ms hT'
      exact hex _ _ hX hz (guardNone _ _ fun op => by cases op <;> rfl) (eqd _ _ (fun d w => by simp [Op.equalIn, run_underlying hT']) rfl rfl)
    · simp at hT
  · rename_i e1 e2
    rw [e1] at hX; rw [e2] at hY
    simp only [RepT, RepA, RepP] at hX hY
    simp at h1; subst h1
    obtain ⟨z, hz, _⟩ := hX
    simp only [eqKOk, Bool.and_eq_true] at hk
    obtain ⟨hT, -⟩ := hk
    split at hT
    · rename_i ms hT'
      exact hex _ _ hz hY (guardNone _ _ fun op => by cases op <;> rfl) (eqd _ _ (fun d w => by simp [Op.equalIn, run_underlying hT']) rfl rfl)
    · simp at hT
  · rename_i e1 e2
    rw [e1] at hX; rw [e2] at hY
    simp only [RepT, RepA, RepP] at hX hY
    simp at h1; subst h1
    simp only [eqKOk] at hk
    split at hk
    · rename_i hT'
      exact hex _ _ hX hY (guardNone _ _ fun op => by cases op <;> rfl) (eqd _ _ (fun d w => by simp [Op.equalIn, run_underlying hT']) rfl rfl)
    · simp at hk
  · rename_i e1 e2
    rw [e1] at hX; rw [e2] at hY
    simp only [RepT, RepA, RepP] at hX hY
    simp at h1; subst h1
    simp only [eqKOk] at hk
    split at hk
    · rename_i hT'
      exact hex _ _ hX hY (guardNone _ _ fun op => by cases op <;> rfl) (eqd _ _ (fun d w => by simp [Op.equalIn, run_underlying hT']) rfl rfl)
    · simp at hk
  · rename_i e1 e2
    rw [e1] at hX; rw [e2] at hY
    simp only [RepT, RepA, RepP] at hX hY
    simp at h1; subst h1
    obtain ⟨va, vc, hz, _⟩ := hX
    simp only [eqKOk] at hk
    split at hk
    · rename_i hT'
      exact hex _ _ hz hY (guardNone _ _ fun op => by cases op <;> rfl) (eqd _ _ (fun d w => by simp [Op.equalIn, run_underlying hT']) rfl rfl)
    · simp at hk
  · rename_i e1 e2
    rw [e1] at hX; rw [e2] at hY
    simp only [RepT, RepA, RepP] at hX hY
    simp at h1; subst h1
    simp only [eqKOk] at hk
    split at hk
    · rename_i hT'
      exact hex _ _ hX hY (guardNone _ _ fun op => by cases op <;> rfl) (eqd _ _ (fun d w => by simp [Op.equalIn, run_underlying hT']) rfl rfl)
    · simp at hk
  · rename_i e1 e2
    rw [e1] at hX; rw [e2] at hY
    simp only [RepT, RepA, RepP] at hX hY
    simp at h1; subst h1
    obtain ⟨bb, oo, yy, hz, _⟩ := hX
    simp only [eqKOk] at hk
    split at hk
    · rename_i hT'
      exact hex _ _ hz hY (guardNone _ _ fun op => by cases op <;> rfl) (eqd _ _ (fun d w => by simp [Op.equalIn, run_underlying hT']) rfl rfl)
    · simp at hk
  · rename_i e1 e2
    rw [e1] at hX; rw [e2] at hY
    simp only [RepT, RepA, RepP] at hX hY
    simp at h1; subst h1
    obtain ⟨bb, _, hz⟩ := hX
    simp only [eqKOk] at hk
    split at hk
    · rename_i hT'
      exact hex _ _ hz hY (guardNone _ _ fun op => by cases op <;> rfl) (eqd _ _ (fun d w => by simp [Op.equalIn, run_underlying hT']) rfl rfl)
    · simp at hk
  · rename_i ks as bs e1 e2
    rw [e1] at hX; rw [e2] at hY
    simp only [RepT, RepA, RepP] at hX hY
    obtain ⟨xs, hx1, hx2, _⟩ := hX
    obtain ⟨ys, hy1, hy2, _⟩ := hY
    simp only [eqKOk, Bool.and_eq_true, Bool.not_eq_true'] at hk
    obtain ⟨⟨hT, hs⟩, hg⟩ := hk
    split at hT
    · rename_i fs hT'
      have hfs : P.fieldsOf T = fs := by simp [Program.fieldsOf, hT']
      refine hex _ _ hx1 hy1 (run_eqGuard_agg _ _ _ _ _ _ _ hg) ?_
      have he : (Op.equalIn 10000 T (.agg xs) (.agg ys)).run P w = .ok b w := by
        rw [run_equalIn_struct w 9999 T xs ys (by rw [hfs]; exact hT') hs, hfs]
        exact run_eqFields 9998 xs ys w ks fs.toList as bs 0 b hT (by simpa using hx2) (by simpa using hy2) h1
      cases neg with
      | true => simp only [if_true, run_neq_struct, he, Result.andThen_ok]; simp
      | false => simp only [Bool.false_eq_true, if_false, run_eql_struct, he, Result.andThen_ok]; simp
    · simp at hT
  · rename_i p q e1 e2
    rw [e1] at hX; rw [e2] at hY
    simp only [eqKOk] at hk
    unfold eqScalar at h1
    split at h1
    · simp only [RepT, RepA, RepP] at hX hY
      simp at h1; subst h1
      split at hk
      · rename_i hT'
        exact hex _ _ hX hY (guardNone _ _ fun op => by cases op <;> rfl) (eqd _ _ (fun d w => run_equalIn_bool _ _ _ _ _ hT') rfl rfl)
      · simp at hk
    · contradiction
    · contradiction
    · simp at h1
  · simp at h1
end
end Go.Abs
