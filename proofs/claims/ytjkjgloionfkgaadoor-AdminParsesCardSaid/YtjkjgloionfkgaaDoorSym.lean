/- The evaluator's equations in the form in which a proof steps through code. -/
import Derived.Test.YtjkjgloionfkgaaDoorLim
import Derived.Attr

namespace Go.Abs

/-! ## What goes on behind a piece of code -/
def thenC (r : Option (Ex × St)) (k : St → Option (Ex × St)) : Option (Ex × St) :=
  match r with
  | some (.normal, s) => k s
  | r => r
def blkC (id : Nat) (c : St → Option St) (r : Option (Ex × St)) : Option (Ex × St) :=
  match r with
  | some (.exit id', s') => if id' = id then (c s').map fun s'' => (.normal, s'') else some (.exit id', s')
  | some (.normal, s') => (c s').map fun s'' => (.normal, s'')
  | r => r
def ifC (v : AV) (a b : Option (Ex × St)) : Option (Ex × St) :=
  match v with
  | .p (.bool true) => a
  | .p (.bool false) => b
  | _ => none
def endR (s : Option St) : Option (Ex × St) := match s with
  | some s2 => some (.normal, { s2 with vars := s2.vars.map dropT, tmps := [] })
  | none => none
def undefs : List GOp → List AV
  | [] => []
  | _ :: r => .undef :: undefs r
theorem undefs_eq : ∀ l : List GOp, List.replicate l.length AV.undef = undefs l
  | [] => rfl
  | _ :: r => by simp only [undefs, List.length_cons, List.replicate_succ, undefs_eq r]
noncomputable def roundC (f : St → Option (Ex × St)) (c : St → Option St) (r : Option (Ex × St)) : Option (Ex × St) :=
  match r with
  | some (.normal, s') => match c s' with
    | some s'' => iter f c s''
    | none => none
  | r => r
noncomputable def loopC (f : St → Option (Ex × St)) (c : St → Option St) (s : Option St) : Option (Ex × St) :=
  match s with
  | some s0 => iter f c s0
  | none => none

@[go_sem] theorem thenC_normal {s k} : thenC (some (.normal, s)) k = k s := rfl
@[go_sem] theorem thenC_ret {s k} : thenC (some (.ret, s)) k = some (.ret, s) := rfl
@[go_sem] theorem thenC_exit {i s k} : thenC (some (.exit i, s)) k = some (.exit i, s) := rfl
@[go_sem] theorem thenC_none {k} : thenC none k = none := rfl
@[go_sem] theorem thenC_ite {c : Prop} [Decidable c] {a b k} : thenC (if c then a else b) k = if c then thenC a k else thenC b k := by split <;> rfl
@[go_sem] theorem blkC_normal {i c s} : blkC i c (some (.normal, s)) = (c s).map fun s'' => (.normal, s'') := rfl
@[go_sem] theorem blkC_ret {i c s} : blkC i c (some (.ret, s)) = some (.ret, s) := rfl
@[go_sem] theorem blkC_exit {i j c s} : blkC i c (some (.exit j, s)) = if j = i then (c s).map fun s'' => (.normal, s'') else some (.exit j, s) := rfl
@[go_sem] theorem blkC_none {i c} : blkC i c none = none := rfl
@[go_sem] theorem blkC_ite {c : Prop} [Decidable c] {a b i cl} : blkC i cl (if c then a else b) = if c then blkC i cl a else blkC i cl b := by split <;> rfl
@[go_sem] theorem ifC_bool {b x y} : ifC (.p (.bool b)) x y = if b = true then x else y := by cases b <;> rfl
@[go_sem] theorem endR_some {s} : endR (some s) = some (.normal, { s with vars := s.vars.map dropT, tmps := [] }) := rfl
@[go_sem] theorem endR_none : endR none = none := rfl
@[go_sem] theorem endR_ite {c : Prop} [Decidable c] {a b} : endR (if c then a else b) = if c then endR a else endR b := by split <;> rfl
@[go_sem] theorem roundC_normal {f c s} : roundC f c (some (.normal, s)) = loopC f c (c s) := rfl
@[go_sem] theorem roundC_ret {f c s} : roundC f c (some (.ret, s)) = some (.ret, s) := rfl
@[go_sem] theorem roundC_exit {f c i s} : roundC f c (some (.exit i, s)) = some (.exit i, s) := rfl
@[go_sem] theorem roundC_none {f c} : roundC f c none = none := rfl
@[go_sem] theorem roundC_ite {c : Prop} [Decidable c] {a b f cl} : roundC f cl (if c then a else b) = if c then roundC f cl a else roundC f cl b := by split <;> rfl
@[go_sem] theorem loopC_some {f c s} : loopC f c (some s) = iter f c s := rfl
theorem iter_round {f c s} : iter f c s = roundC f c (f s) := by
  rw [iter_eq]
  unfold roundC
  rfl

section
variable {call : Calls}
@[go_sem] theorem ev_skip {s} : evC call .skip s = some (.normal, s) := evC_skip
@[go_sem] theorem ev_exit {id s} : evC call (.exit id) s = some (.exit id, s) := evC_exit
@[go_sem] theorem ev_ret {s} : evC call .ret s = some (.ret, s) := evC_ret
@[go_sem] theorem ev_seq {a b s} : evC call (.seq a b) s = thenC (evC call a s) (evC call b) := by
  rw [evC_seq]; unfold thenC; rfl
@[go_sem] theorem ev_ifc {x a b s} : evC call (.ifc x a b) s = ifC (val s x) (evC call a s) (evC call b s) := by
  rw [evC_ifc]; unfold ifC; rfl
@[go_sem] theorem ev_blk {id keep b s} : evC call (.blk id keep b) s = blkC id (clean s.heap.length keep) (evC call b s) := by
  rw [evC_blk]; unfold blkC; rfl
@[go_sem] theorem ev_loop {keep b s} : evC call (.loop keep b) s = loopC (evC call b) (clean s.heap.length keep) (clean s.heap.length keep s) := by
  rw [evC_loop]; unfold loopC; rfl
@[go_sem] theorem ev_reg {ops s} : evC call (.reg [] ops) s = endR (evOps call ops 0 { s with tmps := undefs ops }) := by
  rw [evC_reg, undefs_eq]; simp only [freezeAll]; unfold endR; rfl
@[go_sem] theorem ev_dreg {ops phs s} : evC call (.dreg [] ops phs) s = endR (evPhs call ops phs { s with tmps := undefs ops }) := by
  rw [evC_dreg, undefs_eq]; simp only [freezeAll]; unfold endR; rfl

/-! ## One operation -/
/-- A value under a guard. -/
def gv (c : Bool) (a : AV) : AV := bif c then a else .tup []
def whenO {α : Type} (c : Bool) (r : Option α) : Option α := bif c then r else none
def impB (b c : Bool) : Bool := !b || c
@[go_sem] theorem impB_refl {b} : impB b b = true := by cases b <;> rfl
@[go_sem] theorem impB_and {b c} : impB (b && c) b = true := by cases b <;> cases c <;> rfl
@[go_sem] theorem impB_true {b} : impB b true = true := by cases b <;> rfl
@[go_sem] theorem impB_and2 {b c d} (h : impB b d = true) : impB (b && c) d = true := by cases b <;> cases c <;> cases d <;> first | rfl | exact absurd h (by decide)
@[go_sem] theorem gv_true {a} : gv true a = a := rfl
@[go_sem] theorem gv_false {a} : gv false a = .tup [] := rfl
@[go_sem] theorem whenO_true {α : Type} {a : Option α} : whenO true a = a := rfl
@[go_sem] theorem gv_gv {c a} : gv c (gv c a) = gv c a := by cases c <;> rfl
@[go_sem] theorem gv_pick {g t : Bool} {x y : AV} : gv g (bif t then gv (g && t) x else y) = gv g (bif t then x else y) := by cases g <;> cases t <;> rfl
@[go_sem] theorem gv_pickn {g t : Bool} {x y : AV} : gv g (bif t then x else gv (g && !t) y) = gv g (bif t then x else y) := by cases g <;> cases t <;> rfl
@[go_sem] theorem pick_gv {t : Bool} {x y : AV} : (bif t then gv t x else y) = bif t then x else y := by cases t <;> rfl
@[go_sem] theorem pick_gvn {t : Bool} {x y : AV} : (bif t then x else gv (!t) y) = bif t then x else y := by cases t <;> rfl
def stepG (g : Option Bool) (ops : List GOp) (o : GOp) (j : Nat) (call : Calls) (s : St) (r : Option (AV × St)) : Option St := match g with
  | some true => match r with
    | some (a, s') => evOps call ops (j + 1) (lay1 o j s' a)
    | none => none
  | some false => evOps call ops (j + 1) (lay1 o j s (.tup []))
  | none => none
@[go_sem] theorem evOps_nil {j s} : evOps call [] j s = some s := rfl
@[go_sem] theorem evOps_cons {o ops j s} : evOps call (o :: ops) j s = stepG (wantedG s o.g) ops o j call s (evOp call o.op s) := by
  simp only [evOps]; unfold stepG; rfl
@[go_sem] theorem stepG_true {ops o j s a s'} : stepG (some true) ops o j call s (some (a, s')) = evOps call ops (j + 1) (lay1 o j s' a) := rfl
@[go_sem] theorem stepG_false {ops o j s r} : stepG (some false) ops o j call s r = evOps call ops (j + 1) (lay1 o j s (.tup [])) := rfl
@[go_sem] theorem stepG_merge {b ops o j s a} : stepG (some b) ops o j call s (some (a, s)) = evOps call ops (j + 1) (lay1 o j s (gv b a)) := by cases b <;> rfl
@[go_sem] theorem stepG_when {b c ops o j s r} (h : impB b c = true) : stepG (some b) ops o j call s (whenO c r) = stepG (some b) ops o j call s r := by
  cases b <;> cases c <;> first | rfl | exact absurd h (by decide)
@[go_sem] theorem stepG_call1 {b c ops o j s q f a} (h : impB b c = true) : stepG (some b) ops o j call s (doCall call s q f [gv c a]) = stepG (some b) ops o j call s (doCall call s q f [a]) := by
  cases b <;> cases c <;> first | rfl | exact absurd h (by decide)
@[go_sem] theorem stepG_call2 {b c d ops o j s q f a a'} (h : impB b c = true) (h' : impB b d = true) : stepG (some b) ops o j call s (doCall call s q f [gv c a, gv d a']) = stepG (some b) ops o j call s (doCall call s q f [a, a']) := by
  cases b <;> cases c <;> cases d <;> first | rfl | exact absurd h (by decide) | exact absurd h' (by decide)
theorem stepG_split {b ops o j s r} : stepG (some b) ops o j call s r = if b = true then stepG (some true) ops o j call s r else evOps call ops (j + 1) (lay1 o j s (.tup [])) := by cases b <;> rfl
@[go_sem] theorem stepG_none {ops o j s} : stepG (some true) ops o j call s none = none := rfl
@[go_sem] theorem stepG_ite {c : Prop} [Decidable c] {ops o j s x y} : stepG (some true) ops o j call s (if c then x else y) = if c then stepG (some true) ops o j call s x else stepG (some true) ops o j call s y := by split <;> rfl
end

/-! ## Guards -/
def wantV (w : Bool) : AV → Option Bool
  | .p (.bool t) => some (t == w)
  | .tup _ => some false
  | _ => none
@[go_sem] theorem wantedG_none {s} : wantedG s none = some true := rfl
@[go_sem] theorem wantedG_some {s x w} : wantedG s (some (x, w)) = wantV w (val s x) := by unfold wantedG wantV; rfl
@[go_sem] theorem wantV_t {t} : wantV true (.p (.bool t)) = some t := by cases t <;> rfl
@[go_sem] theorem wantV_f {t} : wantV false (.p (.bool t)) = some (!t) := by cases t <;> rfl
@[go_sem] theorem wantV_tup {w l} : wantV w (.tup l) = some false := rfl
@[go_sem] theorem wantV_cond_t {c t} : wantV true (gv c (.p (.bool t))) = some (c && t) := by cases c <;> cases t <;> rfl
@[go_sem] theorem wantV_cond_f {c t} : wantV false (gv c (.p (.bool t))) = some (c && !t) := by cases c <;> cases t <;> rfl

/-! ## Operands -/
@[go_sem] theorem val_v {vs ts h i} : val ⟨vs, ts, h⟩ (.v i) = vs.getD i .undef := rfl
@[go_sem] theorem val_t {vs ts h i} : val ⟨vs, ts, h⟩ (.t i) = ts.getD i .undef := rfl
@[go_sem] theorem val_k {s p} : val s (.k p) = .p p := rfl
@[go_sem] theorem val_f {s n} : val s (.f n) = .p (.fn n) := rfl
def copyV (x : Opd) (a : AV) : AV := match x, a with
  | .v i, .own .. => .lent (.v i)
  | .t j, .own .. => .lent (.t j)
  | _, a => a
theorem copy_eq {s x} : copy s x = copyV x (val s x) := by unfold copy copyV; rfl
@[go_sem] theorem copyV_p {x v} : copyV x (.p v) = .p v := by cases x <;> rfl
@[go_sem] theorem copyV_own_v {i a b c} : copyV (.v i) (.own a b c) = .lent (.v i) := rfl
@[go_sem] theorem copyV_own_t {i a b c} : copyV (.t i) (.own a b c) = .lent (.t i) := rfl
@[go_sem] theorem copyV_lent {x k} : copyV x (.lent k) = .lent k := by cases x <;> rfl
@[go_sem] theorem copyV_eref {x k i o} : copyV x (.eref k i o) = .eref k i o := by cases x <;> rfl
@[go_sem] theorem copyV_ref {x l o} : copyV x (.ref l o) = .ref l o := by cases x <;> rfl
@[go_sem] theorem copyV_mref {x l} : copyV x (.mref l) = .mref l := by cases x <;> rfl
@[go_sem] theorem copyV_fn {x f a b} : copyV x (.fn f a b) = .fn f a b := by cases x <;> rfl
@[go_sem] theorem copyV_agg {x a} : copyV x (.agg a) = .agg a := by cases x <;> rfl
@[go_sem] theorem copyV_tup {x a} : copyV x (.tup a) = .tup a := by cases x <;> rfl
@[go_sem] theorem copyV_sl {x a} : copyV x (.sl a) = .sl a := by cases x <;> rfl
@[go_sem] theorem copyV_pt {x a} : copyV x (.pt a) = .pt a := by cases x <;> rfl
@[go_sem] theorem copyV_undef {x} : copyV x .undef = .undef := by cases x <;> rfl
@[go_sem] theorem copyV_cond {x c a} : copyV x (gv c a) = gv c (copyV x a) := by cases c <;> cases x <;> rfl

/-! ## Laying values -/
@[go_sem] theorem sv_getK_v {vs ts h i} : getK ⟨vs, ts, h⟩ (.v i) = vs.getD i .undef := rfl
@[go_sem] theorem sv_getK_t {vs ts h i} : getK ⟨vs, ts, h⟩ (.t i) = ts.getD i .undef := rfl
@[go_sem] theorem setK_v {vs ts h i a} : setK ⟨vs, ts, h⟩ (.v i) a = ⟨vs.set i a, ts, h⟩ := rfl
@[go_sem] theorem setK_t {vs ts h i a} : setK ⟨vs, ts, h⟩ (.t i) a = ⟨vs, ts.set i a, h⟩ := rfl
def isOwnC : AV → Bool := isOwn
@[go_sem] theorem isOwn_p {v} : isOwn (.p v) = false := rfl
@[go_sem] theorem isOwn_own {a b c} : isOwn (.own a b c) = true := rfl
@[go_sem] theorem isOwn_lent {k} : isOwn (.lent k) = false := rfl
@[go_sem] theorem isOwn_eref {k i o} : isOwn (.eref k i o) = false := rfl
@[go_sem] theorem isOwn_ref {l o} : isOwn (.ref l o) = false := rfl
@[go_sem] theorem isOwn_mref {l} : isOwn (.mref l) = false := rfl
@[go_sem] theorem isOwn_fn {f a b} : isOwn (.fn f a b) = false := rfl
@[go_sem] theorem isOwn_agg {a} : isOwn (.agg a) = false := rfl
@[go_sem] theorem isOwn_tup {a} : isOwn (.tup a) = false := rfl
@[go_sem] theorem isOwn_sl {a} : isOwn (.sl a) = false := rfl
@[go_sem] theorem isOwn_pt {a} : isOwn (.pt a) = false := rfl
@[go_sem] theorem isOwn_undef : isOwn .undef = false := rfl
@[go_sem] theorem isOwn_cond {c a} : isOwn (gv c a) = (c && isOwn a) := by cases c <;> rfl
@[go_sem] theorem fitDst_p {s κ v} : fitDst s κ (.p v) = .p v := rfl
@[go_sem] theorem fitDst_own {s κ a b c} : fitDst s κ (.own a b c) = .own a b c := rfl
@[go_sem] theorem fitDst_ref {s κ l o} : fitDst s κ (.ref l o) = .ref l o := rfl
@[go_sem] theorem fitDst_mref {s κ l} : fitDst s κ (.mref l) = .mref l := rfl
@[go_sem] theorem fitDst_fn {s κ f a b} : fitDst s κ (.fn f a b) = .fn f a b := rfl
@[go_sem] theorem fitDst_agg {s κ a} : fitDst s κ (.agg a) = .agg a := rfl
@[go_sem] theorem fitDst_tup {s κ a} : fitDst s κ (.tup a) = .tup a := rfl
@[go_sem] theorem fitDst_sl {s κ a} : fitDst s κ (.sl a) = .sl a := rfl
@[go_sem] theorem fitDst_pt {s κ a} : fitDst s κ (.pt a) = .pt a := rfl
@[go_sem] theorem fitDst_undef {s κ} : fitDst s κ .undef = .undef := rfl
@[go_sem] theorem fitDst_lent_t {s j k} : fitDst s (.t j) (.lent k) = if k = .t j then .undef else .lent k := rfl
@[go_sem] theorem fitDst_lent_v {s i k} : fitDst s (.v i) (.lent k) = (give s (.lent k)).getD .undef := rfl
@[go_sem] theorem fitDst_eref {s κ k i o} : fitDst s κ (.eref k i o) = if k = κ then .undef else .eref k i o := rfl
@[go_sem] theorem fitDst_cond {s κ c a} : fitDst s κ (gv c a) = gv c (fitDst s κ a) := by cases c <;> rfl
@[go_sem] theorem dstKey_none {j} : dstKey j none = .t j := rfl
@[go_sem] theorem dstKey_some {j i} : dstKey j (some i) = .v i := rfl
@[go_sem] theorem lay1_eq {o j s a} : lay1 o j s a = bif o.nd then s else putRes s j o.d a := by unfold lay1; cases o.nd <;> rfl
@[go_sem] theorem putRes_eq {s j d a} : putRes s j d a = putK s (dstKey j d) (fitDst s (dstKey j d) a) := rfl
@[go_sem] theorem putK_eq {s k a} : putK s k a = bif isOwn (getK s k) then setK (inval s k) k a else setK s k a := by unfold putK; cases isOwn (getK s k) <;> rfl
@[go_sem] theorem inval_eq {vs ts h k} : inval ⟨vs, ts, h⟩ k = ⟨vs.map (dropK k), ts.map (dropK k), h⟩ := rfl

/-! ## Operations -/
section
variable {call : Calls} {s : St}
@[go_sem] theorem sv_mv {x} : evOp call (.mv x) s = some (copyV x (val s x), s) := by simp only [evOp, copy_eq]
def takeV (s : St) (x : Opd) (a : AV) : Option (AV × St) := match x, a with
  | .t j, .own fz sz xs => some (.own fz sz xs, setK (inval s (.t j)) (.t j) (if fz then .p (.slice sz xs) else .undef))
  | _, .p (.nilS sz) => some (.own true sz [], s)
  | _, .eref k i o => some (.eref k i o, s)
  | _, .undef => some (.undef, s)
  | _, a => (give s a).map fun b => (b, s)
@[go_sem] theorem sv_asg {x} : evOp call (.asg x) s = takeV s x (val s x) := by simp only [evOp]; unfold take takeV; rfl
/-- The nil row is an owner. -/
def layP : PV → AV
  | .nilS sz => .own true sz []
  | v => .p v
@[go_sem] theorem layP_bool {b} : layP (.bool b) = .p (.bool b) := rfl
@[go_sem] theorem layP_int {k n} : layP (.int k n) = .p (.int k n) := rfl
@[go_sem] theorem layP_str {b} : layP (.str b) = .p (.str b) := rfl
@[go_sem] theorem layP_nilPtr : layP .nilPtr = .p .nilPtr := rfl
@[go_sem] theorem layP_nilIface : layP .nilIface = .p .nilIface := rfl
@[go_sem] theorem layP_nilFunc : layP .nilFunc = .p .nilFunc := rfl
@[go_sem] theorem layP_nilMap : layP .nilMap = .p .nilMap := rfl
@[go_sem] theorem layP_iface {t v} : layP (.iface t v) = .p (.iface t v) := rfl
@[go_sem] theorem layP_agg {c} : layP (.agg c) = .p (.agg c) := rfl
@[go_sem] theorem layP_slice {z x} : layP (.slice z x) = .p (.slice z x) := rfl
@[go_sem] theorem layP_nilS {z} : layP (.nilS z) = .own true z [] := rfl
@[go_sem] theorem layP_ptr {v} : layP (.ptr v) = .p (.ptr v) := rfl
@[go_sem] theorem layP_fn {f} : layP (.fn f) = .p (.fn f) := rfl
@[go_sem] theorem takeV_p {x v} : takeV s x (.p v) = some (layP v, s) := by cases x <;> cases v <;> rfl
@[go_sem] theorem takeV_own_t {j fz sz xs} : takeV s (.t j) (.own fz sz xs) = some (.own fz sz xs, setK (inval s (.t j)) (.t j) (if fz then .p (.slice sz xs) else .undef)) := rfl
@[go_sem] theorem takeV_own_v {i fz sz xs} : takeV s (.v i) (.own fz sz xs) = (give s (.own fz sz xs)).map fun b => (b, s) := rfl
@[go_sem] theorem takeV_undef {x} : takeV s x .undef = some (.undef, s) := by cases x <;> rfl
@[go_sem] theorem takeV_eref {x k i o} : takeV s x (.eref k i o) = some (.eref k i o, s) := by cases x <;> rfl
@[go_sem] theorem takeV_ref {x l o} : takeV s x (.ref l o) = some (.ref l o, s) := by cases x <;> rfl
@[go_sem] theorem takeV_mref {x l} : takeV s x (.mref l) = some (.mref l, s) := by cases x <;> rfl
@[go_sem] theorem takeV_fn {x f a b} : takeV s x (.fn f a b) = some (.fn f a b, s) := by cases x <;> rfl
@[go_sem] theorem takeV_agg {x a} : takeV s x (.agg a) = some (.agg a, s) := by cases x <;> rfl
@[go_sem] theorem takeV_tup {x a} : takeV s x (.tup a) = some (.tup a, s) := by cases x <;> rfl
@[go_sem] theorem takeV_sl {x a} : takeV s x (.sl a) = some (.sl a, s) := by cases x <;> rfl
@[go_sem] theorem takeV_pt {x a} : takeV s x (.pt a) = some (.pt a, s) := by cases x <;> rfl
@[go_sem] theorem takeV_lent {x k} : takeV s x (.lent k) = (give s (.lent k)).map fun b => (b, s) := by cases x <;> rfl

def pickV (s : St) (c x y : AV) : Option (AV × St) := match c with
  | .p (.bool t) => some (bif t then x else y, s)
  | _ => none
@[go_sem] theorem sv_pick {c a b} : evOp call (.pick c a b) s = pickV s (val s c) (copyV a (val s a)) (copyV b (val s b)) := by
  simp only [evOp]; unfold pickV
  split
  · rename_i t h
    simp only [h, copy_eq]
    cases t <;> rfl
  · rename_i hne
    split
    · rename_i t h
      exact absurd h (hne t)
    · rfl
@[go_sem] theorem pickV_bool {t x y} : pickV s (.p (.bool t)) x y = some (bif t then x else y, s) := rfl
@[go_sem] theorem pickV_cond {c t x y} : pickV s (gv c (.p (.bool t))) x y = whenO c (some (bif t then x else y, s)) := by cases c <;> rfl

def binA (s : St) (op : BOp) (a b : AV) : Option (AV × St) := match a, b with
  | .p a, .p b => (binP op a b).map fun v => (.p v, s)
  | _, _ => none
@[go_sem] theorem sv_bin {op x y} : evOp call (.bin op x y) s = binA s op (val s x) (val s y) := by simp only [evOp]; unfold binA; rfl
@[go_sem] theorem binA_p {op a b} : binA s op (.p a) (.p b) = (binP op a b).map fun v => (.p v, s) := rfl
@[go_sem] theorem binA_l {c op a b} : binA s op (gv c (.p a)) (.p b) = whenO c (binA s op (.p a) (.p b)) := by cases c <;> rfl
@[go_sem] theorem binA_r {c op a b} : binA s op (.p a) (gv c (.p b)) = whenO c (binA s op (.p a) (.p b)) := by cases c <;> rfl
@[go_sem] theorem binA_lr {c d op a b} : binA s op (gv c (.p a)) (gv d (.p b)) = whenO c (whenO d (binA s op (.p a) (.p b))) := by cases c <;> cases d <;> rfl
@[go_sem] theorem binP_int {op k a b} : binP op (.int k a) (.int k b) = binInt op k a b := by simp only [binP, if_true]
@[go_sem] theorem binP_str {op a b} : binP op (.str a) (.str b) = binStr op a b := rfl
@[go_sem] theorem bi_add {k a b} : binInt .add k a b = some (.int k (k.wrap (a + b))) := rfl
@[go_sem] theorem bi_sub {k a b} : binInt .sub k a b = some (.int k (k.wrap (a - b))) := rfl
@[go_sem] theorem bi_mul {k a b} : binInt .mul k a b = some (.int k (k.wrap (a * b))) := rfl
@[go_sem] theorem bi_quo {k a b} : binInt .quo k a b = if b = 0 then none else some (.int k (k.wrap (a.tdiv b))) := rfl
@[go_sem] theorem bi_rem {k a b} : binInt .rem k a b = if b = 0 then none else some (.int k (a.tmod b)) := rfl
@[go_sem] theorem bi_lss {k a b} : binInt .lss k a b = some (.bool (decide (a < b))) := rfl
@[go_sem] theorem bi_leq {k a b} : binInt .leq k a b = some (.bool (decide (a ≤ b))) := rfl
@[go_sem] theorem bi_gtr {k a b} : binInt .gtr k a b = some (.bool (decide (b < a))) := rfl
@[go_sem] theorem bi_geq {k a b} : binInt .geq k a b = some (.bool (decide (b ≤ a))) := rfl
@[go_sem] theorem bi_eql {k a b} : binInt .eql k a b = some (.bool (decide (a = b))) := by
  simp only [binInt, Option.some.injEq, PV.bool.injEq]
  exact Bool.eq_iff_iff.2 (by simp)
@[go_sem] theorem bi_neq {k a b} : binInt .neq k a b = some (.bool (!decide (a = b))) := by
  simp only [binInt, Option.some.injEq, PV.bool.injEq]
  exact Bool.eq_iff_iff.2 (by simp)
@[go_sem] theorem bs_add {a b} : binStr .add a b = if a.length + b.length ≤ maxStr then some (.str (a ++ b)) else none := rfl
@[go_sem] theorem bs_eql {a b} : binStr .eql a b = some (.bool (decide (a = b))) := rfl
@[go_sem] theorem bs_neq {a b} : binStr .neq a b = some (.bool (!decide (a = b))) := rfl
@[go_sem] theorem bs_lss {a b} : binStr .lss a b = some (.bool (ltL a b)) := rfl
@[go_sem] theorem bs_leq {a b} : binStr .leq a b = some (.bool (ltL a b || decide (a = b))) := rfl
@[go_sem] theorem bs_gtr {a b} : binStr .gtr a b = some (.bool (!(ltL a b || decide (a = b)))) := rfl
@[go_sem] theorem bs_geq {a b} : binStr .geq a b = some (.bool (!ltL a b)) := rfl
@[go_sem] theorem sv_eq {neg k x y} : evOp call (.eq neg k x y) s = (eqA k (val s x) (val s y)).map fun b => (.p (.bool (b != neg)), s) := rfl
def unA (s : St) (op : UOp) (a : AV) : Option (AV × St) := match op, a with
  | .not, .p (.bool b) => some (.p (.bool (!b)), s)
  | .neg, .p (.int k n) => some (.p (.int k (k.wrap (-n))), s)
  | _, _ => none
@[go_sem] theorem sv_un {op x} : evOp call (.un op x) s = unA s op (val s x) := by simp only [evOp]; unfold unA; rfl
@[go_sem] theorem unA_not {b} : unA s .not (.p (.bool b)) = some (.p (.bool (!b)), s) := rfl
@[go_sem] theorem unA_cond {op c a} : unA s op (gv c (.p a)) = whenO c (unA s op (.p a)) := by cases c <;> cases op <;> rfl
@[go_sem] theorem unA_neg {k n} : unA s .neg (.p (.int k n)) = some (.p (.int k (k.wrap (-n))), s) := rfl
def convA (s : St) (k : IntKind) (a : AV) : Option (AV × St) := match a with
  | .p (.int _ n) => some (.p (.int k (k.wrap n)), s)
  | _ => none
@[go_sem] theorem sv_conv {k x} : evOp call (.conv k x) s = convA s k (val s x) := by simp only [evOp]; unfold convA; rfl
@[go_sem] theorem convA_int {k j n} : convA s k (.p (.int j n)) = some (.p (.int k (k.wrap n)), s) := rfl
def cstrA (s : St) (a : AV) : Option (AV × St) := match a with
  | .p (.str b) => some (.p (.str b), s)
  | _ => none
@[go_sem] theorem sv_cstr {x} : evOp call (.cstr x) s = cstrA s (val s x) := by simp only [evOp]; unfold cstrA; rfl
@[go_sem] theorem cstrA_str {b} : cstrA s (.p (.str b)) = some (.p (.str b), s) := rfl
def slenA (s : St) (a : AV) : Option (AV × St) := match a with
  | .p (.str b) => some (.p (.int .i64 b.length), s)
  | _ => none
@[go_sem] theorem sv_slen {x} : evOp call (.slen x) s = slenA s (val s x) := by simp only [evOp]; unfold slenA; rfl
@[go_sem] theorem slenA_cond {c a} : slenA s (gv c (.p a)) = whenO c (slenA s (.p a)) := by cases c <;> rfl
@[go_sem] theorem convA_cond {k c a} : convA s k (gv c (.p a)) = whenO c (convA s k (.p a)) := by cases c <;> rfl
@[go_sem] theorem slenA_str {b} : slenA s (.p (.str b)) = some (.p (.int .i64 b.length), s) := rfl
/-- A value that may be handed on, of those that no row stands behind. -/
def giveV (s : St) (a : AV) : Option AV := give s a
@[go_sem] theorem give_p {v} : give s (.p v) = some (.p v) := rfl
@[go_sem] theorem give_cond {c v} : give s (gv c (.p v)) = some (gv c (.p v)) := by cases c <;> rfl
@[go_sem] theorem give_ref {l o} : give s (.ref l o) = some (.ref l o) := rfl
@[go_sem] theorem give_mref {l} : give s (.mref l) = some (.mref l) := rfl
@[go_sem] theorem give_fn {f a b} : give s (.fn f a b) = some (.fn f a b) := rfl
@[go_sem] theorem give_agg {a} : give s (.agg a) = some (.agg a) := rfl
@[go_sem] theorem give_tup {a} : give s (.tup a) = some (.tup a) := rfl
@[go_sem] theorem give_sl {a} : give s (.sl a) = some (.sl a) := rfl
@[go_sem] theorem give_pt {a} : give s (.pt a) = some (.pt a) := rfl
@[go_sem] theorem give_own {fz sz xs} : give s (.own fz sz xs) = if fz || xs.isEmpty then some (.p (.slice sz xs)) else none := rfl
def giveO (a : AV) : Option AV := match a with
  | .own fz sz xs => if fz || xs.isEmpty then some (.p (.slice sz xs)) else none
  | _ => none
@[go_sem] theorem give_lent {k} : give s (.lent k) = giveO (getK s k) := by simp only [give]; unfold giveO; rfl
@[go_sem] theorem giveO_own {fz sz xs} : giveO (.own fz sz xs) = if fz || xs.isEmpty then some (.p (.slice sz xs)) else none := rfl
def giveQ (a : Option AV) : Option PV := match a with
  | some (.p v) => some v
  | _ => none
@[go_sem] theorem giveP_eq {a} : giveP s a = giveQ (give s a) := by unfold giveP giveQ; rfl
@[go_sem] theorem giveQ_p {v} : giveQ (some (.p v)) = some v := rfl
@[go_sem] theorem giveQ_cond {c v} : giveQ (some (gv c (.p v))) = whenO c (some v) := by cases c <;> rfl
def giveC (a : Option AV) (l : Option (List AV)) : Option (List AV) := match a, l with
  | some a, some l => some (a :: l)
  | _, _ => none
@[go_sem] theorem giveAll_nil : giveAll s [] = some [] := rfl
@[go_sem] theorem giveAll_cons {x r} : giveAll s (x :: r) = giveC (give s (val s x)) (giveAll s r) := by simp only [giveAll]; unfold giveC; rfl
@[go_sem] theorem giveC_some {a l} : giveC (some a) (some l) = some (a :: l) := rfl

def idxA (s : St) (a : AV) (i : Option PV) : Option (AV × St) := match a, i with
  | .p (.str b), some (.int _ n) => if 0 ≤ n then (b[n.toNat]?).map fun c => (.p (.int .u8 c.toNat), s) else none
  | _, _ => none
@[go_sem] theorem sv_idx {x i} : evOp call (.idx x i) s = idxA s (val s x) (giveP s (val s i)) := by simp only [evOp]; unfold idxA; rfl
@[go_sem] theorem idxA_l {c v i} : idxA s (gv c (.p v)) i = whenO c (idxA s (.p v) i) := by cases c <;> rfl
@[go_sem] theorem idxA_r {c a i} : idxA s a (whenO c i) = whenO c (idxA s a i) := by cases c <;> cases a <;> first | rfl | (rename_i v; cases v <;> rfl)
@[go_sem] theorem idxA_str {b k n} : idxA s (.p (.str b)) (some (.int k n)) = if 0 ≤ n then (b[n.toNat]?).map fun c => (.p (.int .u8 c.toNat), s) else none := rfl
def sslcA (s : St) (a : AV) (lo hi : Nat → Option Int) : Option (AV × St) := match a with
  | .p (.str b) => match lo b.length, hi b.length with
    | some i, some j => if boundOk i j b.length then some (.p (.str ((b.drop i.toNat).take (j.toNat - i.toNat))), s) else none
    | _, _ => none
  | _ => none
@[go_sem] theorem sv_sslc {x lo hi} : evOp call (.sslc x lo hi) s = sslcA s (val s x) (fun _ => optInt s 0 lo) (fun n => optInt s n hi) := by
  simp only [evOp]; unfold sslcA; rfl
@[go_sem] def sslcO (s : St) (b : List UInt8) (i j : Option Int) : Option (AV × St) := match i, j with
  | some i, some j => if boundOk i j b.length then some (.p (.str ((b.drop i.toNat).take (j.toNat - i.toNat))), s) else none
  | _, _ => none
@[go_sem] theorem sslcA_str {b lo hi} : sslcA s (.p (.str b)) lo hi = sslcO s b (lo b.length) (hi b.length) := by simp only [sslcA]; unfold sslcO; rfl
@[go_sem] theorem sslcO_some {b i j} : sslcO s b (some i) (some j) = if boundOk i j b.length then some (.p (.str ((b.drop i.toNat).take (j.toNat - i.toNat))), s) else none := rfl
def optQ (a : Option PV) : Option Int := match a with
  | some (.int _ n) => some n
  | _ => none
@[go_sem] theorem optInt_none {d} : optInt s d none = some d := rfl
@[go_sem] theorem optInt_some {d x} : optInt s d (some x) = optQ (giveP s (val s x)) := by simp only [optInt]; unfold optQ; rfl
@[go_sem] theorem optQ_int {k n} : optQ (some (.int k n)) = some n := rfl

def extA (s : St) (i : Nat) (a : AV) : Option (AV × St) := match a with
  | .tup l => match l[i]? with
    | some a => (give s a).map fun b => (b, s)
    | none => none
  | _ => none
@[go_sem] theorem sv_ext {x i} : evOp call (.ext x i) s = extA s i (val s x) := by simp only [evOp]; unfold extA; rfl
def extL (s : St) (a : Option AV) : Option (AV × St) := match a with
  | some a => (give s a).map fun b => (b, s)
  | none => none
@[go_sem] theorem extA_cond {i c l} (h : l[i]?.isSome = true) : extA s i (gv c (.tup l)) = whenO c (extA s i (.tup l)) := by
  cases c
  · rfl
  · rfl
@[go_sem] theorem extA_tup {i l} : extA s i (.tup l) = extL s l[i]? := by simp only [extA]; unfold extL; rfl
@[go_sem] theorem extL_some {a} : extL s (some a) = (give s a).map fun b => (b, s) := rfl
@[go_sem] theorem sv_call {q f args} : evOp call (.call q f args) s = (giveAll s args).bind (doCall call s q f) := rfl
end

/-! ## Rows -/
section
variable {call : Calls} {s : St}
def rowA (a : AV) : Option (Bool × Nat × List PV) := match a with
  | .own fz sz xs => some (fz, sz, xs)
  | _ => none
@[go_sem] theorem rowOf_slice {z xs} : rowOf s (.p (.slice z xs)) = some (true, z, xs) := rfl
@[go_sem] theorem rowOf_nil {z} : rowOf s (.p (.nilS z)) = some (true, z, []) := rfl
@[go_sem] theorem rowOf_own {fz z xs} : rowOf s (.own fz z xs) = some (fz, z, xs) := rfl
@[go_sem] theorem rowOf_lent {k} : rowOf s (.lent k) = rowA (getK s k) := by simp only [rowOf]; unfold rowA; rfl
@[go_sem] theorem rowA_own {fz sz xs} : rowA (.own fz sz xs) = some (fz, sz, xs) := rfl
def lenA (s : St) (a : AV) : Option (AV × St) := match a with
  | .sl l => some (.p (.int .i64 l.length), s)
  | a => match rowOf s a with
    | some (_, _, xs) => some (.p (.int .i64 xs.length), s)
    | none => none
@[go_sem] theorem sv_len {x} : evOp call (.len x) s = lenA s (copyV x (val s x)) := by simp only [evOp, copy_eq]; unfold lenA; rfl
def lenO (s : St) (r : Option (Bool × Nat × List PV)) : Option (AV × St) := match r with
  | some (_, _, xs) => some (.p (.int .i64 xs.length), s)
  | none => none
@[go_sem] theorem lenA_slice {z xs} : lenA s (.p (.slice z xs)) = some (.p (.int .i64 xs.length), s) := rfl
@[go_sem] theorem lenA_nil {z} : lenA s (.p (.nilS z)) = some (.p (.int .i64 0), s) := rfl
@[go_sem] theorem lenA_lent {k} : lenA s (.lent k) = lenO s (rowA (getK s k)) := by simp only [lenA, rowOf_lent]; unfold lenO; rfl
@[go_sem] theorem lenO_some {a b xs} : lenO s (some (a, b, xs)) = some (.p (.int .i64 xs.length), s) := rfl
@[go_sem] theorem lenA_sl {l} : lenA s (.sl l) = some (.p (.int .i64 l.length), s) := rfl
@[go_sem] theorem lenA_cond {c v} (h : (lenA s (.p v)).isSome = true) : lenA s (gv c (.p v)) = whenO c (lenA s (.p v)) := by
  cases c
  · rfl
  · rfl

/-- An element's address. -/
def iaddrR (s : St) (sz : Nat) (sh : Sh) (n : Int) (a : AV) (r : Option (Bool × Nat × List PV)) : Option (AV × St) := match r with
  | some (fz, z, xs) => if z = sz && decide (0 ≤ n) then match xs[n.toNat]? with
      | some v => if shapeOk sh v then
          if fz then some (.p (.ptr v), s) else match a with
            | .lent k => some (.eref k n.toNat 0, s)
            | _ => none
        else none
      | none => none
    else none
  | none => none
def iaddrA (s : St) (sz : Nat) (sh : Sh) (a : AV) (i : Option PV) : Option (AV × St) := match i with
  | some (.int _ n) => match a with
    | .sl l => if 0 ≤ n ∧ sz = 1 then (l[n.toNat]?).map fun a => (.pt a, s) else none
    | a => iaddrR s sz sh n a (rowOf s a)
  | _ => none
@[go_sem] theorem sv_iaddr {x i sz sh} : evOp call (.iaddr x i sz sh) s = iaddrA s sz sh (copyV x (val s x)) (giveP s (val s i)) := by
  simp only [evOp, copy_eq]; unfold iaddrA iaddrR; rfl
def iaddrF (s : St) (n : Int) (a : AV) (fz : Bool) (v : PV) : Option (AV × St) :=
  if fz then some (.p (.ptr v), s) else match a with
    | .lent k => some (.eref k n.toNat 0, s)
    | _ => none
def iaddrV (s : St) (sh : Sh) (n : Int) (a : AV) (fz : Bool) (v : Option PV) : Option (AV × St) := match v with
  | some v => if shapeOk sh v then iaddrF s n a fz v else none
  | none => none
@[go_sem] theorem iaddrA_slice {sz sh z xs k n} : iaddrA s sz sh (.p (.slice z xs)) (some (.int k n)) = iaddrR s sz sh n (.p (.slice z xs)) (some (true, z, xs)) := rfl
@[go_sem] theorem iaddrA_lent {sz sh q k n} : iaddrA s sz sh (.lent q) (some (.int k n)) = iaddrR s sz sh n (.lent q) (rowA (getK s q)) := by
  simp only [iaddrA, rowOf_lent]
@[go_sem] theorem iaddrA_gv {c a sz sh i} : iaddrA s sz sh (gv c a) i = whenO c (iaddrA s sz sh a i) := by
  cases c
  · cases i with
    | none => rfl
    | some v => cases v <;> rfl
  · rfl
@[go_sem] theorem iaddrA_sl {l k n sh} : iaddrA s 1 sh (.sl l) (some (.int k n)) = if 0 ≤ n then (l[n.toNat]?).map fun a => (.pt a, s) else none := by
  simp only [iaddrA, and_true]
@[go_sem] theorem iaddrR_some {sz sh n a fz xs} : iaddrR s sz sh n a (some (fz, sz, xs)) = if 0 ≤ n then iaddrV s sh n a fz xs[n.toNat]? else none := by
  simp only [iaddrR, decide_true, Bool.true_and, decide_eq_true_eq]
  unfold iaddrV iaddrF
  rfl
@[go_sem] theorem iaddrV_some {sh n a fz v} : iaddrV s sh n a fz (some v) = if shapeOk sh v then iaddrF s n a fz v else none := rfl
@[go_sem] theorem iaddrV_none {sh n a fz} : iaddrV s sh n a fz none = none := rfl
@[go_sem] theorem iaddrF_true {n a v} : iaddrF s n a true v = some (.p (.ptr v), s) := rfl
@[go_sem] theorem iaddrF_lent {n k v} : iaddrF s n (.lent k) false v = some (.eref k n.toNat 0, s) := rfl
@[go_sem] theorem shapeOk_int {k n} : shapeOk .s (.int k n) = true := rfl
@[go_sem] theorem shapeOk_str {b} : shapeOk .s (.str b) = true := rfl
@[go_sem] theorem shapeOk_bool {b} : shapeOk .s (.bool b) = true := rfl
@[go_sem] theorem shapeOk_iface {t v} : shapeOk .s (.iface t v) = true := rfl
@[go_sem] theorem shapeOk_nilIface : shapeOk .s .nilIface = true := rfl
@[go_sem] theorem shapeOk_agg {n l} : shapeOk (.a n) (.agg l) = (l.length == n) := rfl
/-- A load. -/
@[go_sem] theorem sv_ld {x sh} : evOp call (.ld x sh) s = (load s sh (copyV x (val s x))).map fun a => (a, s) := by simp only [evOp, copy_eq]
@[go_sem] theorem load_ptr {sh v} : load s sh (.p (.ptr v)) = if shapeOk sh v then some (.p v) else none := rfl
@[go_sem] theorem load_ptr_cond {c sh v} : load s sh (gv c (.p (.ptr v))) = whenO c (load s sh (.p (.ptr v))) := by cases c <;> rfl
@[go_sem] theorem load_pt {a} : load s .s (.pt a) = some a := rfl
@[go_sem] theorem map_when {α β : Type} {c : Bool} {r : Option α} {f : α → β} : Option.map f (whenO c r) = whenO c (Option.map f r) := by cases c <;> rfl
@[go_sem] theorem map_ite {α β : Type} {c : Prop} [Decidable c] {x y : Option α} {f : α → β} : Option.map f (if c then x else y) = if c then Option.map f x else Option.map f y := by split <;> rfl

/-- Slices of rows. -/
def slcR (s : St) (sz : Nat) (lo : Option Int) (hi : Nat → Option Int) (r : Option (Bool × Nat × List PV)) : Option (AV × St) := match r with
  | some (fz, z, xs) => match lo, hi xs.length with
    | some i, some j => if boundOk i j xs.length && (fz || xs.isEmpty) && z == sz then some (.p (.slice z ((xs.drop i.toNat).take (j.toNat - i.toNat))), s) else none
    | _, _ => none
  | none => none
@[go_sem] theorem sv_slc {x lo hi sz} : evOp call (.slc x lo hi sz) s = slcR s sz (optInt s 0 lo) (fun n => optInt s n hi) (rowOf s (copyV x (val s x))) := by
  simp only [evOp, copy_eq]; unfold slcR; rfl
def slcO (s : St) (sz : Nat) (i : Int) (fz : Bool) (xs : List PV) (hi : Option Int) : Option (AV × St) := match hi with
  | some j => if boundOk i j xs.length && (fz || xs.isEmpty) then some (.p (.slice sz ((xs.drop i.toNat).take (j.toNat - i.toNat))), s) else none
  | none => none
@[go_sem] theorem slcR_some {sz i hi fz xs} : slcR s sz (some i) hi (some (fz, sz, xs)) = slcO s sz i fz xs (hi xs.length) := by
  simp only [slcR, beq_self_eq_true, Bool.and_true]
  cases hi xs.length <;> rfl
@[go_sem] theorem slcO_some {sz i fz xs j} : slcO s sz i fz xs (some j) = if boundOk i j xs.length && (fz || xs.isEmpty) then some (.p (.slice sz ((xs.drop i.toNat).take (j.toNat - i.toNat))), s) else none := rfl

/-- Literal rows. -/
def rowC (sh : Sh) (a : Option AV) (l : Option (List AV)) : Option (List AV) := match a, l with
  | some a, some l => if (cellsOf sh a).isSome then some (a :: l) else none
  | _, _ => none
@[go_sem] theorem rowParts_nil : rowParts s [] = some [] := rfl
@[go_sem] theorem rowParts_cons {x sh r} : rowParts s ((x, sh) :: r) = rowC sh (give s (val s x)) (rowParts s r) := by simp only [rowParts]; unfold rowC; rfl
@[go_sem] theorem rowC_some {sh a l} : rowC sh (some a) (some l) = if (cellsOf sh a).isSome then some (a :: l) else none := rfl
@[go_sem] theorem cellsOf_int {k n} : cellsOf .s (.p (.int k n)) = some [.p (.int k n)] := rfl
@[go_sem] theorem cellsOf_str {b} : cellsOf .s (.p (.str b)) = some [.p (.str b)] := rfl
@[go_sem] theorem cellsOf_bool {b} : cellsOf .s (.p (.bool b)) = some [.p (.bool b)] := rfl
@[go_sem] theorem cellsOf_iface {t v} : cellsOf .s (.p (.iface t v)) = some [.p (.iface t v)] := rfl
@[go_sem] theorem cellsOf_nilIface : cellsOf .s (.p .nilIface) = some [.p .nilIface] := rfl
@[go_sem] theorem cellsOf_slice {z xs} : cellsOf .s (.p (.slice z xs)) = some [.p (.slice z xs)] := rfl
@[go_sem] theorem cellsOf_nilS {z} : cellsOf .s (.p (.nilS z)) = some [.p (.nilS z)] := rfl
@[go_sem] theorem cellsOf_agg {n cs} : cellsOf (.a n) (.p (.agg cs)) = if cs.length = n then some (cs.map AV.p) else none := rfl
@[go_sem] theorem isSome_ite {α : Type} {c : Prop} [Decidable c] {x : α} : (if c then some x else none).isSome = decide c := by split <;> simp [*]
def bsliceR (s : St) (fz : Bool) (sz : Nat) (ps : List (Opd × Sh)) (l : Option (List AV)) : Option (AV × St) := match l with
  | some l => match allP l with
    | some xs => some (.own fz sz xs, s)
    | none => if sz = 1 ∧ ps.all (fun p => decide (p.2 = .s)) = true then some (.sl l, s) else none
  | none => none
@[go_sem] theorem sv_bslice {fz sz ps} : evOp call (.bslice fz sz ps) s = bsliceR s fz sz ps (rowParts s ps) := by simp only [evOp]; unfold bsliceR; rfl
def bsliceO (s : St) (fz : Bool) (sz : Nat) (ps : List (Opd × Sh)) (l : List AV) (r : Option (List PV)) : Option (AV × St) := match r with
  | some xs => some (.own fz sz xs, s)
  | none => if sz = 1 ∧ ps.all (fun p => decide (p.2 = .s)) = true then some (.sl l, s) else none
@[go_sem] theorem bsliceR_some {fz sz ps l} : bsliceR s fz sz ps (some l) = bsliceO s fz sz ps l (allP l) := by simp only [bsliceR]; unfold bsliceO; rfl
@[go_sem] theorem bsliceO_some {fz sz ps l xs} : bsliceO s fz sz ps l (some xs) = some (.own fz sz xs, s) := rfl
def allC (v : PV) (l : Option (List PV)) : Option (List PV) := match l with
  | some l => some (v :: l)
  | none => none
@[go_sem] theorem allP_nil : allP [] = some [] := rfl
@[go_sem] theorem allP_cons {v r} : allP (.p v :: r) = allC v (allP r) := by simp only [allP]; unfold allC; rfl
@[go_sem] theorem allC_some {v l} : allC v (some l) = some (v :: l) := rfl

/-- Struct literals. -/
def partC (c l : Option (List AV)) : Option (List AV) := match c, l with
  | some c, some l => some (c ++ l)
  | _, _ => none
def partZ (v : AV) (l : Option (List AV)) : Option (List AV) := match l with
  | some l => some (v :: l)
  | none => none
@[go_sem] theorem partsP_nil : partsP s [] = some [] := rfl
@[go_sem] theorem partsP_z {v r} : partsP s (.z v :: r) = partZ v (partsP s r) := by simp only [partsP]; unfold partZ; rfl
@[go_sem] theorem partsP_o {x sh r} : partsP s (.o x sh :: r) = partC ((give s (val s x)).bind (cellsOf sh)) (partsP s r) := by simp only [partsP]; unfold partC; rfl
@[go_sem] theorem partC_some {c l} : partC (some c) (some l) = some (c ++ l) := rfl
@[go_sem] theorem partZ_some {v l} : partZ v (some l) = some (v :: l) := rfl
def buildO (s : St) (l : Option (List AV)) : Option (AV × St) := match l with
  | some cs => some (mkAgg cs, s)
  | none => none
@[go_sem] theorem sv_build {ps} : evOp call (.build ps) s = buildO s (partsP s ps) := by simp only [evOp]; unfold buildO; rfl
@[go_sem] theorem buildO_some {cs} : buildO s (some cs) = some (mkAgg cs, s) := rfl
def aggO (l : List AV) (r : Option (List PV)) : AV := match r with
  | some l => .p (.agg l)
  | none => .agg l
@[go_sem] theorem mkAgg_eq {cs} : mkAgg cs = aggO cs (allP cs) := by unfold mkAgg aggO; rfl
@[go_sem] theorem aggO_some {cs l} : aggO cs (some l) = .p (.agg l) := rfl

/-- Appends. -/
def appR (s : St) (fz : Bool) (sz bytes : Nat) (x : AV) (y : Option (Bool × Nat × List PV)) : Option (AV × St) :=
  match y with
  | some (_, sy, ys) =>
    if ys.isEmpty then
      match x with
      | .lent k => match getK s k with
        | .own f z xs => some (.own f z xs, setK (inval s k) k (if f then .p (.slice z xs) else .undef))
        | _ => none
      | .p (.nilS z) => some (.own true z [], s)
      | .p (.slice z xs) => some (.p (.slice z xs), s)
      | _ => none
    else if sy = sz then
      match x with
      | .lent k => match getK s k with
        | .own f z xs => if z = sz ∧ (fz || !f || xs.isEmpty) = true ∧ (xs.length + ys.length) * bytes ≤ 2 ^ 46 then
            some (.own fz sz (xs ++ ys), setK (inval s k) k (if f then .p (.slice z xs) else .undef)) else none
        | _ => none
      | .p (.nilS _) => if ys.length * bytes ≤ 2 ^ 46 then some (.own fz sz ys, s) else none
      | _ => none
    else none
  | none => none
@[go_sem] theorem sv_app {x y fz sz bytes} : evOp call (.app x y fz sz bytes) s = appR s fz sz bytes (copyV x (val s x)) (rowOf s (copyV y (val s y))) := by
  simp only [evOp, doAppend, copy_eq]; unfold appR; rfl
def appE (s : St) (k : Key) (a : AV) : Option (AV × St) := match a with
  | .own f z xs => some (.own f z xs, setK (inval s k) k (if f then .p (.slice z xs) else .undef))
  | _ => none
@[go_sem] theorem appE_own {k f z xs} : appE s k (.own f z xs) = some (.own f z xs, setK (inval s k) k (if f then .p (.slice z xs) else .undef)) := rfl
def appO (s : St) (fz : Bool) (sz bytes : Nat) (k : Key) (ys : List PV) (a : AV) : Option (AV × St) := match a with
  | .own f z xs => if z = sz ∧ (fz || (!f || xs.isEmpty)) = true ∧ (xs.length + ys.length) * bytes ≤ 2 ^ 46 then
      some (.own fz sz (xs ++ ys), setK (inval s k) k (if f then .p (.slice z xs) else .undef)) else none
  | _ => none
@[go_sem] theorem appR_lent {k fz sz bytes v r g} : appR s fz sz bytes (.lent k) (some (g, sz, v :: r)) = appO s fz sz bytes k (v :: r) (getK s k) := by
  simp only [appR, List.isEmpty_cons, Bool.false_eq_true, if_false, if_true, Bool.or_assoc]; unfold appO; rfl
@[go_sem] theorem appO_own {fz sz bytes k f z xs ys} : appO s fz sz bytes k ys (.own f z xs) = if z = sz ∧ (fz || (!f || xs.isEmpty)) = true ∧ (xs.length + ys.length) * bytes ≤ 2 ^ 46 then
      some (.own fz sz (xs ++ ys), setK (inval s k) k (if f then .p (.slice z xs) else .undef)) else none := rfl
@[go_sem] theorem appR_nil {z fz sz bytes v r g} : appR s fz sz bytes (.p (.nilS z)) (some (g, sz, v :: r)) = if (r.length + 1) * bytes ≤ 2 ^ 46 then some (.own fz sz (v :: r), s) else none := by
  simp only [appR, List.isEmpty_cons, Bool.false_eq_true, if_false, if_true, List.length_cons]
@[go_sem] theorem appR_none {k fz sz bytes g z} : appR s fz sz bytes (.lent k) (some (g, z, [])) = appE s k (getK s k) := by
  simp only [appR, List.isEmpty_nil, if_true]; unfold appE; rfl

/-- Going over a text. -/
def rangeA (s : St) (a : AV) : Option (AV × St) := match a with
  | .p (.str b) => some (.ref s.heap.length 0, { s with heap := s.heap ++ [⟨.iter, [.p (.str b), .p (.int .i64 0)]⟩] })
  | _ => none
@[go_sem] theorem sv_range {x} : evOp call (.range x) s = rangeA s (val s x) := by simp only [evOp]; unfold rangeA; rfl
@[go_sem] theorem rangeA_str {vs ts h b} : rangeA ⟨vs, ts, h⟩ (.p (.str b)) = some (.ref h.length 0, ⟨vs, ts, h ++ [⟨.iter, [.p (.str b), .p (.int .i64 0)]⟩]⟩) := rfl
def nextO (s : St) (l : Nat) (o : Option Obj) : Option (AV × St) := match o with
  | some ⟨.iter, [.p (.str b), .p (.int .i64 pos)]⟩ =>
    if pos < b.length then
      some (.tup [.p (.bool true), .p (.int .i64 pos), .p (.int .i32 (decodeL (b.drop pos.toNat)).1)],
        { s with heap := s.heap.set l ⟨.iter, [.p (.str b), .p (.int .i64 (pos + (decodeL (b.drop pos.toNat)).2))]⟩ })
    else some (.tup [.p (.bool false)], s)
  | _ => none
def nextA (s : St) (a : AV) : Option (AV × St) := match a with
  | .ref l 0 => nextO s l s.heap[l]?
  | _ => none
@[go_sem] theorem sv_next {x} : evOp call (.next x) s = nextA s (val s x) := by simp only [evOp]; unfold nextA nextO; rfl
@[go_sem] theorem nextA_ref {vs ts h l} : nextA ⟨vs, ts, h⟩ (.ref l 0) = nextO ⟨vs, ts, h⟩ l h[l]? := rfl
@[go_sem] theorem nextO_iter {vs ts h l b pos} : nextO ⟨vs, ts, h⟩ l (some ⟨.iter, [.p (.str b), .p (.int .i64 pos)]⟩) =
    if pos < b.length then some (.tup [.p (.bool true), .p (.int .i64 pos), .p (.int .i32 (decodeL (b.drop pos.toNat)).1)],
        ⟨vs, ts, h.set l ⟨.iter, [.p (.str b), .p (.int .i64 (pos + (decodeL (b.drop pos.toNat)).2))]⟩⟩)
    else some (.tup [.p (.bool false)], ⟨vs, ts, h⟩) := rfl
/-- Errors against nil. -/
@[go_sem] theorem eqA_nn : eqA .iface (.p .nilIface) (.p .nilIface) = some true := rfl
@[go_sem] theorem eqA_ni {t v} : eqA .iface (.p .nilIface) (.p (.iface t v)) = some false := rfl
@[go_sem] theorem eqA_in {t v} : eqA .iface (.p (.iface t v)) (.p .nilIface) = some false := rfl
@[go_sem] theorem eqA_bool {a b} : eqA .bool (.p (.bool a)) (.p (.bool b)) = some (a == b) := rfl
end

/-! ## Regions whose order is open -/
section
variable {call : Calls}
def qG (g : Option Bool) (r : Option (AV × St)) : Option AV := match g with
  | some true => r.map (·.1)
  | some false => some (.tup [])
  | none => none
@[go_sem] theorem evQ_eq {o s} : evQ call o s = qG (wantedG (mask o.D s) o.g) (evOp call o.op (mask o.D s)) := by unfold evQ qG; rfl
@[go_sem] theorem qG_true {a s} : qG (some true) (some (a, s)) = some a := rfl
@[go_sem] theorem qG_false {r} : qG (some false) r = some (.tup []) := rfl
@[go_sem] theorem qG_merge {b a s} : qG (some b) (some (a, s)) = some (gv b a) := by cases b <;> rfl
@[go_sem] theorem qG_when {b c r} (h : impB b c = true) : qG (some b) (whenO c r) = qG (some b) r := by
  cases b <;> cases c <;> first | rfl | exact absurd h (by decide)
@[go_sem] theorem qG_call1 {b c s q f a} (h : impB b c = true) : qG (some b) (doCall call s q f [gv c a]) = qG (some b) (doCall call s q f [a]) := by
  cases b <;> cases c <;> first | rfl | exact absurd h (by decide)
@[go_sem] theorem mask_eq {D vs ts h} : mask D ⟨vs, ts, h⟩ = ⟨vs, maskL D ts 0, h⟩ := rfl
@[go_sem] theorem maskL_nil {D i} : maskL D [] i = [] := rfl
@[go_sem] theorem maskL_cons {D a r i} : maskL D (a :: r) i = (bif D.contains i then a else .undef) :: maskL D r (i + 1) := by
  simp only [maskL]; cases D.contains i <;> rfl
@[go_sem] theorem mergeL_nil {D q i} : mergeL D [] q i = q := rfl
@[go_sem] theorem mergeL_cons {D a r b q i} : mergeL D (a :: r) (b :: q) i = (bif D.contains i then a else b) :: mergeL D r q (i + 1) := by
  simp only [mergeL]; cases D.contains i <;> rfl
@[go_sem] theorem freeL_nil {D i} : freeL D [] i = true := rfl
@[go_sem] theorem freeL_cons {D a r i} : freeL D (a :: r) i = ((D.contains i || noLoanA a) && freeL D r (i + 1)) := rfl
@[go_sem] theorem noLoanA_p {v} : noLoanA (.p v) = true := rfl
@[go_sem] theorem noLoanA_own {a b c} : noLoanA (.own a b c) = true := rfl
@[go_sem] theorem noLoanA_ref {l o} : noLoanA (.ref l o) = true := rfl
@[go_sem] theorem noLoanA_mref {l} : noLoanA (.mref l) = true := rfl
@[go_sem] theorem noLoanA_fn {f a b} : noLoanA (.fn f a b) = true := rfl
@[go_sem] theorem noLoanA_agg {a} : noLoanA (.agg a) = true := rfl
@[go_sem] theorem noLoanA_tup {a} : noLoanA (.tup a) = true := rfl
@[go_sem] theorem noLoanA_sl {a} : noLoanA (.sl a) = true := rfl
@[go_sem] theorem noLoanA_pt {a} : noLoanA (.pt a) = true := rfl
@[go_sem] theorem noLoanA_undef : noLoanA .undef = true := rfl
@[go_sem] theorem noLoanA_lent {k} : noLoanA (.lent k) = false := rfl
@[go_sem] theorem noLoanA_eref {k i o} : noLoanA (.eref k i o) = false := rfl
@[go_sem] theorem noLoanA_gv {c a} : noLoanA (gv c a) = (!c || noLoanA a) := by cases c <;> rfl
@[go_sem] theorem layQ_eq {o j vs ts h a} : layQ o j ⟨vs, ts, h⟩ a = ⟨vs, ts.set j (bif o.nd then .undef else fitDst ⟨vs, ts, h⟩ (.t j) a), h⟩ := by
  simp only [layQ]; cases o.nd <;> rfl
def qsA (call : Calls) (ops : List GOp) (r : List Nat) (o : GOp) (j : Nat) (s : St) (a : Option AV) : Option St := match a with
  | some a => evQs call ops r (layQ o j s a)
  | none => none
def qsO (call : Calls) (ops : List GOp) (r : List Nat) (j : Nat) (s : St) (o : Option GOp) : Option St := match o with
  | some o => qsA call ops r o j s (evQ call o s)
  | none => none
@[go_sem] theorem evQs_nil {ops s} : evQs call ops [] s = some s := rfl
@[go_sem] theorem evQs_cons {ops j r s} : evQs call ops (j :: r) s = qsO call ops r j s ops[j]? := by
  simp only [evQs]; unfold qsO qsA; rfl
@[go_sem] theorem qsO_some {ops j r s o} : qsO call ops r j s (some o) = qsA call ops r o j s (evQ call o s) := rfl
@[go_sem] theorem qsA_some {ops j r s o a} : qsA call ops r o j s (some a) = evQs call ops r (layQ o j s a) := rfl
def kG (o : GOp) (k : Nat) (s : St) (g : Option Bool) (r : Option (AV × St)) : Option St := match g with
  | some true => match r with
    | some (a, s1) => if noLoanA a && freeL o.D s.tmps 0 then some (layK o k { s1 with tmps := mergeL o.D s1.tmps s.tmps 0 } a) else none
    | none => none
  | some false => some (layK o k s (.tup []))
  | none => none
@[go_sem] theorem evK_eq {o k s} : evK call o k s = kG o k s (wantedG (mask o.D s) o.g) (evOp call o.op (mask o.D s)) := by unfold evK kG; rfl
@[go_sem] theorem kG_true {o k s a vs ts h} : kG o k s (some true) (some (a, ⟨vs, ts, h⟩)) = if noLoanA a && freeL o.D s.tmps 0 then some (layK o k ⟨vs, mergeL o.D ts s.tmps 0, h⟩ a) else none := rfl
@[go_sem] theorem kG_false {o k s r} : kG o k s (some false) r = some (layK o k s (.tup [])) := rfl
theorem kG_split {o k s b r} : kG o k s (some b) r = if b = true then kG o k s (some true) r else some (layK o k s (.tup [])) := by cases b <;> rfl
def layK2 (k : Nat) (s : St) : St := { s with tmps := s.tmps.set k .undef }
def layKd (d : Option Nat) (k : Nat) (s : St) (a : AV) : St := match d with
  | none => { s with tmps := s.tmps.set k a }
  | some i => layK2 k (putK s (.v i) a)
@[go_sem] theorem layK_eq {o k s a} : layK o k s a = bif o.nd then layK2 k s else layKd o.d k s a := by
  unfold layK layK2 layKd
  cases o.nd
  · cases o.d <;> rfl
  · rfl
@[go_sem] theorem layK2_eq {k vs ts h} : layK2 k ⟨vs, ts, h⟩ = ⟨vs, ts.set k .undef, h⟩ := rfl
@[go_sem] theorem layKd_none {k vs ts h a} : layKd none k ⟨vs, ts, h⟩ a = ⟨vs, ts.set k a, h⟩ := rfl
@[go_sem] theorem layKd_some {k i s a} : layKd (some i) k s a = layK2 k (putK s (.v i) a) := rfl
def phE (call : Calls) (ops : List GOp) (r : List Ph) (s : Option St) : Option St := match s with
  | some s => evPhs call ops r s
  | none => none
def phO (call : Calls) (ops : List GOp) (r : List Ph) (k : Nat) (s : St) (o : Option GOp) : Option St := match o with
  | some o => phE call ops r (evK call o k s)
  | none => none
def phK (call : Calls) (ops : List GOp) (r : List Ph) (s : St) (k : Option Nat) (ok : Bool) : Option St :=
  if ok then match k with
    | some k => phO call ops r k s ops[k]?
    | none => evPhs call ops r s
  else none
def phQ (call : Calls) (ops : List GOp) (ag : List Nat) (k : Option Nat) (r : List Ph) (s : Option St) : Option St := match s with
  | some s => phK call ops r s k (ag.all (againOk call ops s))
  | none => none
@[go_sem] theorem evPhs_nil {ops s} : evPhs call ops [] s = some s := rfl
@[go_sem] theorem sv_evPhs_cons {ops qs ag k r s} : evPhs call ops (⟨qs, ag, k⟩ :: r) s = phQ call ops ag k r (evQs call ops qs s) := by
  simp only [evPhs]
  unfold phQ phK phO phE
  rfl
@[go_sem] theorem phQ_some {ops ag k r s} : phQ call ops ag k r (some s) = phK call ops r s k (ag.all (againOk call ops s)) := rfl
@[go_sem] theorem phK_none {ops r s} : phK call ops r s none true = evPhs call ops r s := rfl
@[go_sem] theorem phK_some {ops r s k} : phK call ops r s (some k) true = phO call ops r k s ops[k]? := rfl
@[go_sem] theorem phO_some {ops r s k o} : phO call ops r k s (some o) = phE call ops r (evK call o k s) := rfl
@[go_sem] theorem phE_some {ops r s} : phE call ops r (some s) = evPhs call ops r s := rfl
@[go_sem] theorem phE_none {ops r} : phE call ops r none = none := rfl
@[go_sem] theorem phE_ite {c : Prop} [Decidable c] {ops r x y} : phE call ops r (if c then x else y) = if c then phE call ops r x else phE call ops r y := by split <;> rfl
end

/-! ## Calls without objects -/
def callP (s : St) (q : Bool) (f : Nat) (args : List AV) (call : Calls) (r : Option (AV × List Obj)) : Option (AV × St) :=
  match r with
  | some (r, _) => if (refs r).isEmpty then some (r, s) else if q then none else callRefs call s f args []
  | none => none
/-- What a call without objects gives back. -/
def ret1 (call : Calls) (f : Nat) (args : List AV) : Option AV := (call f args []).map Prod.fst
def callR (s : St) (q : Bool) (f : Nat) (args : List AV) (call : Calls) (r : Option AV) : Option (AV × St) :=
  match r with
  | some r => if (refs r).isEmpty then some (r, s) else if q then none else callRefs call s f args []
  | none => none
@[go_sem] theorem doCall_ret {call s q f args} (h : (refsL args).isEmpty = true) : doCall call s q f args = callR s q f args call (ret1 call f args) := by
  simp only [doCall, h, if_true, ret1, callR]
  cases call f args [] <;> rfl
@[go_sem] theorem doCall_nil {call s q f} : doCall call s q f [] = callR s q f [] call (ret1 call f []) := doCall_ret rfl
@[go_sem] theorem callR_some {s q f args call r} : callR s q f args call (some r) = if (refs r).isEmpty then some (r, s) else if q then none else callRefs call s f args [] := rfl
theorem doCall_plain {call s q f args} (h : (refsL args).isEmpty = true) : doCall call s q f args = callP s q f args call (call f args []) := by
  simp only [doCall, h, if_true]; unfold callP; rfl
theorem doCall_refs {call s f args} (h : (refsL args).isEmpty = false) : doCall call s false f args = callRefs call s f args (reach s.heap 40 0 (addNew (refsL args) [])) := by
  simp only [doCall, h, Bool.false_eq_true, if_false]
@[go_sem] theorem callP_some {s q f args call r h} : callP s q f args call (some (r, h)) = if (refs r).isEmpty then some (r, s) else if q then none else callRefs call s f args [] := rfl

/-! ## Behind a region, a block, a function -/
@[go_sem] theorem dropT_p {v} : dropT (.p v) = .p v := rfl
@[go_sem] theorem dropT_own {a b c} : dropT (.own a b c) = .own a b c := rfl
@[go_sem] theorem dropT_undef : dropT .undef = .undef := rfl
@[go_sem] theorem dropT_ref {l o} : dropT (.ref l o) = .ref l o := rfl
@[go_sem] theorem dropT_mref {l} : dropT (.mref l) = .mref l := rfl
@[go_sem] theorem dropT_fn {f a b} : dropT (.fn f a b) = .fn f a b := rfl
@[go_sem] theorem dropT_agg {a} : dropT (.agg a) = .agg a := rfl
@[go_sem] theorem dropT_tup {a} : dropT (.tup a) = .tup a := rfl
@[go_sem] theorem dropT_sl {a} : dropT (.sl a) = .sl a := rfl
@[go_sem] theorem dropT_pt {a} : dropT (.pt a) = .pt a := rfl
@[go_sem] theorem dropT_lent_v {i} : dropT (.lent (.v i)) = .lent (.v i) := rfl
@[go_sem] theorem dropT_lent_t {i} : dropT (.lent (.t i)) = .undef := rfl
@[go_sem] theorem dropT_lent_c {l i} : dropT (.lent (.c l i)) = .lent (.c l i) := rfl
@[go_sem] theorem dropT_eref_v {i j o} : dropT (.eref (.v i) j o) = .eref (.v i) j o := rfl
@[go_sem] theorem dropT_eref_t {i j o} : dropT (.eref (.t i) j o) = .undef := rfl
@[go_sem] theorem dropT_eref_c {l i j o} : dropT (.eref (.c l i) j o) = .eref (.c l i) j o := rfl
@[go_sem] theorem dropK_p {k v} : dropK k (.p v) = .p v := rfl
@[go_sem] theorem sv_dropK_own {k a b c} : dropK k (.own a b c) = .own a b c := rfl
@[go_sem] theorem dropK_undef {k} : dropK k .undef = .undef := rfl
@[go_sem] theorem dropK_ref {k l o} : dropK k (.ref l o) = .ref l o := rfl
@[go_sem] theorem dropK_mref {k l} : dropK k (.mref l) = .mref l := rfl
@[go_sem] theorem dropK_fn {k f a b} : dropK k (.fn f a b) = .fn f a b := rfl
@[go_sem] theorem dropK_agg {k a} : dropK k (.agg a) = .agg a := rfl
@[go_sem] theorem dropK_tup {k a} : dropK k (.tup a) = .tup a := rfl
@[go_sem] theorem dropK_sl {k a} : dropK k (.sl a) = .sl a := rfl
@[go_sem] theorem dropK_pt {k a} : dropK k (.pt a) = .pt a := rfl
@[go_sem] theorem dropK_lent {k k'} : dropK k (.lent k') = if k' = k then .undef else .lent k' := rfl
@[go_sem] theorem dropK_eref {k k' i o} : dropK k (.eref k' i o) = if k' = k then .undef else .eref k' i o := rfl
@[go_sem] theorem dropK_cond {k c a} : dropK k (gv c a) = gv c (dropK k a) := by cases c <;> rfl
@[go_sem] theorem dropT_cond {c a} : dropT (gv c a) = gv c (dropT a) := by cases c <;> rfl
def cleanC (ok : Bool) (n : Nat) (keep : List Nat) (vs : List AV) (h : List Obj) : Option St := if ok then some { vars := cutV n keep vs 0, tmps := [], heap := h.take n } else none
@[go_sem] theorem clean_eq {n keep vs ts h} : clean n keep ⟨vs, ts, h⟩ = cleanC ((refsL (objCells (h.take n))).all (fun x => decide (x < n))) n keep vs h := by
  unfold clean cleanC; rfl
@[go_sem] theorem cleanC_true {n keep vs h} : cleanC true n keep vs h = some { vars := cutV n keep vs 0, tmps := [], heap := h.take n } := rfl
@[go_sem] theorem cutV_nil {n keep i} : cutV n keep [] i = [] := rfl
@[go_sem] theorem cutV_cons {n keep a r i} : cutV n keep (a :: r) i = (bif keep.contains i then cutA n keep a else .undef) :: cutV n keep r (i + 1) := by
  simp only [cutV]; cases keep.contains i <;> rfl
@[go_sem] theorem cutA_p {n keep v} : cutA n keep (.p v) = .p v := rfl
@[go_sem] theorem cutA_own {n keep a b c} : cutA n keep (.own a b c) = .own a b c := rfl
@[go_sem] theorem cutA_undef {n keep} : cutA n keep .undef = .undef := rfl
@[go_sem] theorem cutA_lent_v {n keep i} : cutA n keep (.lent (.v i)) = if keep.contains i then .lent (.v i) else .undef := rfl
@[go_sem] theorem cutA_lent_t {n keep i} : cutA n keep (.lent (.t i)) = .undef := rfl
@[go_sem] theorem cutA_lent_c {n keep l i} : cutA n keep (.lent (.c l i)) = if l < n then .lent (.c l i) else .undef := rfl
@[go_sem] theorem cutA_eref_v {n keep i j o} : cutA n keep (.eref (.v i) j o) = if keep.contains i then .eref (.v i) j o else .undef := rfl
@[go_sem] theorem cutA_eref_t {n keep i j o} : cutA n keep (.eref (.t i) j o) = .undef := rfl
@[go_sem] theorem cutA_eref_c {n keep l i j o} : cutA n keep (.eref (.c l i) j o) = if l < n then .eref (.c l i) j o else .undef := rfl
@[go_sem] theorem cutA_ref {n keep l o} : cutA n keep (.ref l o) = if l < n then .ref l o else .undef := by
  simp only [cutA, refs, List.all_cons, List.all_nil, Bool.and_true, decide_eq_true_eq]
@[go_sem] theorem cutA_mref {n keep l} : cutA n keep (.mref l) = if l < n then .mref l else .undef := by
  simp only [cutA, refs, List.all_cons, List.all_nil, Bool.and_true, decide_eq_true_eq]
@[go_sem] theorem cutA_tup {n keep l} : cutA n keep (.tup l) = if (refsL l).all (fun x => decide (x < n)) then .tup l else .undef := by simp only [cutA, refs]; rfl
@[go_sem] theorem cutA_agg {n keep l} : cutA n keep (.agg l) = if (refsL l).all (fun x => decide (x < n)) then .agg l else .undef := by simp only [cutA, refs]; rfl
@[go_sem] theorem cutA_sl {n keep l} : cutA n keep (.sl l) = if (refsL l).all (fun x => decide (x < n)) then .sl l else .undef := by simp only [cutA, refs]; rfl
@[go_sem] theorem cutA_fn {n keep f a b} : cutA n keep (.fn f a b) = if (refsL a ++ refsL b).all (fun x => decide (x < n)) then .fn f a b else .undef := by simp only [cutA, refs]; rfl
@[go_sem] theorem cutA_pt {n keep a} : cutA n keep (.pt a) = if (refs a).all (fun x => decide (x < n)) then .pt a else .undef := by simp only [cutA, refs]; rfl
@[go_sem] theorem cutA_cond {n keep c a} : cutA n keep (gv c a) = gv c (cutA n keep a) := by cases c <;> rfl
@[go_sem] theorem refs_p {v} : refs (.p v) = [] := rfl
@[go_sem] theorem refs_own {a b c} : refs (.own a b c) = [] := rfl
@[go_sem] theorem refs_ref {l o} : refs (.ref l o) = [l] := rfl
@[go_sem] theorem refs_tup {l} : refs (.tup l) = refsL l := by simp only [refs]
@[go_sem] theorem refs_agg {l} : refs (.agg l) = refsL l := by simp only [refs]
@[go_sem] theorem refs_undef : refs .undef = [] := rfl
@[go_sem] theorem refsL_nil : refsL [] = [] := rfl
@[go_sem] theorem refsL_cons {a l} : refsL (a :: l) = refs a ++ refsL l := rfl

/-- What a function's body gives back. -/
def outR (l : List Res) : Option (Ex × St) → Option AV
  | some (.exit _, _) => none
  | some (_, s) => results s l
  | none => none
theorem outR_eq {F r} : (outOf F r).map Prod.fst = outR F.res r := by
  cases r with
  | none => rfl
  | some r =>
    obtain ⟨ex, s⟩ := r
    cases ex <;> simp only [outOf, outR, Option.map_none, Option.map_map] <;> exact Option.map_id' (x := results s F.res)
theorem ret1_fun {prim : Nat → Option (List AV → List Obj → Option (AV × List Obj))} {funs : Nat → Option AFun} {f : Nat} {args : List AV} {F : AFun} (hg : prim f = none) (hF : funs f = some F) (hl : args.length = F.np) :
    ret1 (EV prim funs) f args = outR F.res (evC (EV prim funs) F.body { vars := args ++ List.replicate (F.nv - F.np) .undef, tmps := [], heap := [] }) := by
  unfold ret1
  rw [EV_fun prim funs hg hF hl, outR_eq]
theorem ret1_prim {prim : Nat → Option (List AV → List Obj → Option (AV × List Obj))} {funs : Nat → Option AFun} {f : Nat} {args : List AV} {g} (hg : prim f = some g) :
    ret1 (EV prim funs) f args = (g args []).map Prod.fst := by
  unfold ret1
  rw [EV_prim prim funs hg]
@[go_sem] theorem outR_ret {F s} : outR F (some (.ret, s)) = results s F := rfl
@[go_sem] theorem outR_normal {F s} : outR F (some (.normal, s)) = results s F := rfl
@[go_sem] theorem outR_none {F} : outR F none = none := rfl
@[go_sem] theorem outR_ite {c : Prop} [Decidable c] {F a b} : outR F (if c then a else b) = if c then outR F a else outR F b := by split <;> rfl
@[go_sem] theorem outOf_ret {F s} : outOf F (some (.ret, s)) = (results s F.res).map fun r => (r, s.heap) := rfl
@[go_sem] theorem outOf_normal {F s} : outOf F (some (.normal, s)) = (results s F.res).map fun r => (r, s.heap) := rfl
@[go_sem] theorem outOf_ite {c : Prop} [Decidable c] {F a b} : outOf F (if c then a else b) = if c then outOf F a else outOf F b := by split <;> rfl
def resV (s : St) : AV → Option AV
  | .own fz sz xs => some (.own fz sz xs)
  | .undef => none
  | a => give s a
@[go_sem] theorem resOf_v {s i} : resOf s (.v i) = resV s (s.vars.getD i .undef) := by simp only [resOf]; unfold resV; rfl
@[go_sem] theorem resV_p {s v} : resV s (.p v) = some (.p v) := rfl
@[go_sem] theorem resV_own {s a b c} : resV s (.own a b c) = some (.own a b c) := rfl
@[go_sem] theorem resV_ref {s l o} : resV s (.ref l o) = some (.ref l o) := rfl
@[go_sem] theorem resV_agg {s l} : resV s (.agg l) = some (.agg l) := rfl
@[go_sem] theorem results_one {s r} : results s [r] = resOf s r := rfl
@[go_sem] theorem results_two {s r q l} : results s (r :: q :: l) = (giveRes s (r :: q :: l)).map AV.tup := rfl
@[go_sem] theorem results_nil {s} : results s [] = some (.tup []) := rfl
def giveRC (a : Option AV) (l : Option (List AV)) : Option (List AV) := match a, l with
  | some (.own fz sz xs), some l => if fz || xs.isEmpty then some (.p (.slice sz xs) :: l) else none
  | some a, some l => some (a :: l)
  | _, _ => none
@[go_sem] theorem giveRes_nil {s} : giveRes s [] = some [] := rfl
@[go_sem] theorem giveRes_cons {s r q} : giveRes s (r :: q) = giveRC (resOf s r) (giveRes s q) := by simp only [giveRes]; unfold giveRC; rfl
@[go_sem] theorem giveRC_p {v l} : giveRC (some (.p v)) (some l) = some (.p v :: l) := rfl
@[go_sem] theorem giveRC_own {fz sz xs l} : giveRC (some (.own fz sz xs)) (some l) = if fz || xs.isEmpty then some (.p (.slice sz xs) :: l) else none := rfl

/-! ## Booleans -/
@[go_sem] theorem cond_false_right {c t : Bool} : (bif c then AV.p (.bool t) else .p (.bool false)) = .p (.bool (c && t)) := by cases c <;> rfl
@[go_sem] theorem cond_true_left {c t : Bool} : (bif c then AV.p (.bool true) else .p (.bool t)) = .p (.bool (c || t)) := by cases c <;> rfl
@[go_sem] theorem bif_and {c t : Bool} : (bif c then t else false) = (c && t) := by cases c <;> rfl
@[go_sem] theorem bif_or {c t : Bool} : (bif c then true else t) = (c || t) := by cases c <;> rfl
@[go_sem] theorem cond_bools {c t u : Bool} : (bif c then AV.p (.bool t) else .p (.bool u)) = .p (.bool (bif c then t else u)) := by cases c <;> rfl

theorem boundOk_true {i j n : Int} (h : 0 ≤ i ∧ i ≤ j ∧ j ≤ n) : boundOk i j n = true := by simp only [boundOk, h.1, h.2.1, h.2.2, decide_true, Bool.and_true]
attribute [go_sem] Int.natCast_nonneg true_and and_true eq_self List.length_map Int.toNat_natCast decide_false Bool.or_assoc Bool.and_assoc List.length_cons List.length_nil List.getElem?_cons_zero List.getElem?_cons_succ List.getElem?_nil List.take_succ_cons Option.isSome_some decide_true List.getD_cons_zero List.getD_cons_succ List.set_cons_zero List.set_cons_succ List.map_cons List.map_nil undefs cond_true cond_false List.cons_append List.nil_append List.append_nil
  Bool.and_true Bool.true_and Bool.and_false Bool.false_and Bool.or_true Bool.true_or Bool.or_false Bool.false_or Bool.not_true Bool.not_false List.isEmpty_nil List.isEmpty_cons if_true if_false
  Option.map_some Option.map_none Option.bind_some Option.bind_none List.all_nil List.take_nil objCells List.contains_cons List.contains_nil Option.getD_some Bool.bne_true Bool.bne_false Bool.false_eq_true
end Go.Abs
