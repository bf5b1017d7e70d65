/- The check that an operation of the evaluator stands for an operation of the machine, and what it yields. -/
import Derived.Test.YtjkjgloionfkgaaDoorOpse

namespace Go.Abs
open Go.RowKit
variable [Base]

def undIs (P : Program) (T : TypeId) (f : TypeDesc → Bool) : Bool := match P.underlying T with | some d => f d | none => false
omit [Base] in
theorem undIs_spec {P : Program} {T : TypeId} {f : TypeDesc → Bool} (h : undIs P T f = true) : ∃ d, P.underlying T = some d ∧ f d = true := by
  unfold undIs at h
  split at h
  · rename_i d hd; exact ⟨d, hd, h⟩
  · simp at h
def isStr : TypeDesc → Bool | .string => true | _ => false
omit [Base] in
theorem isStr_spec {d : TypeDesc} (h : isStr d = true) : d = .string := by cases d <;> simp [isStr] at h; rfl
def isIntAny : TypeDesc → Bool | .int _ => true | _ => false
def isInt (k : IntKind) : TypeDesc → Bool | .int j => j == k | _ => false
omit [Base] in
theorem isInt_spec {k} {d : TypeDesc} (h : isInt k d = true) : d = .int k := by cases d <;> simp [isInt] at h; rw [h]
omit [Base] in
theorem isIntAny_spec {d : TypeDesc} (h : isIntAny d = true) : ∃ j, d = .int j := by cases d <;> simp [isIntAny] at h; exact ⟨_, rfl⟩
def isIfc : TypeDesc → Bool | .interface _ => true | _ => false
omit [Base] in
theorem isIfc_spec {d : TypeDesc} (h : (!isIfc d) = true) : ∀ ms, d ≠ .interface ms := by rintro ms rfl; simp [isIfc] at h
/-- The type of a slice's parts. -/
def elemOf (P : Program) (T : TypeId) : Option TypeId := match P.underlying T with | some (.slice e) => some e | _ => none
omit [Base] in
theorem elemOf_spec {P : Program} {T e : TypeId} (h : elemOf P T = some e) : P.underlying T = some (.slice e) := by
  unfold elemOf at h
  split at h
  · rename_i e' he; simp at h; rw [he, h]
  · simp at h
def fieldsOf (P : Program) (T : TypeId) : Option (Array Field) := match P.underlying T with | some (.struct fs) => some fs | _ => none
omit [Base] in
theorem fieldsOf_spec {P : Program} {T : TypeId} {fs} (h : fieldsOf P T = some fs) : P.underlying T = some (.struct fs) := by
  unfold fieldsOf at h
  split at h
  · rename_i e' he; simp at h; rw [he, h]
  · simp at h
def mapOf (P : Program) (T : TypeId) : Option (TypeId × TypeId) := match P.underlying T with | some (.map k e) => some (k, e) | _ => none
omit [Base] in
theorem mapOf_spec {P : Program} {T k e : TypeId} (h : mapOf P T = some (k, e)) : P.underlying T = some (.map k e) := by
  unfold mapOf at h
  split at h
  · rename_i k' e' he; simp at h; rw [he, h.1, h.2]
  · simp at h
def zeroOf (P : Program) (T : TypeId) : Option (TypeInfo × Value) := match P.info? T with | some i => (match i.zero with | some z => some (i, z) | none => none) | none => none
omit [Base] in
theorem zeroOf_spec {P : Program} {T : TypeId} {i z} (h : zeroOf P T = some (i, z)) : P.info? T = some i ∧ i.zero = some z := by
  unfold zeroOf at h
  split at h
  · rename_i i' hi
    split at h
    · rename_i z' hz
      simp at h
      obtain ⟨rfl, rfl⟩ := h
      exact ⟨hi, hz⟩
    · simp at h
  · simp at h
def sizeIs (P : Program) (T : TypeId) (f : TypeInfo → Bool) : Bool := match P.info? T with | some i => f i | none => false
omit [Base] in
theorem sizeIs_spec {P : Program} {T : TypeId} {f : TypeInfo → Bool} (h : sizeIs P T f = true) : ∃ i, P.info? T = some i ∧ f i = true := by
  unfold sizeIs at h
  split at h
  · rename_i i hi; exact ⟨i, hi, h⟩
  · simp at h

abbrev Meths := List (String × List (Nat × Nat))
def MethsOk (P : Program) (mt : Meths) : Prop := ∀ n tbl, mt.lookup n = some tbl → ∀ t f, tbl.lookup t = some f → MethOk P n t f

def allStr : List TypeId := []

def matchOp (P : Program) (mt : Meths) (F : Fr) (co : Oper) : AOp → Bool
  | .mv x => co.dst.isSome && match co.op with | .move X => opdOk F X x | _ => false
  | .asg x => co.dst.isSome && match co.op with | .assign X => opdOk F X x | _ => false
  | .pick c a b => co.dst.isSome && match co.op with | .pick C A B => opdOk F C c && opdOk F A a && opdOk F B b | _ => false
  | .alloc z => co.dst.isSome && match co.op with
    | .alloc T => match zeroOf P T with | some (_, zv) => zCellsOk zv.cells.toList z | none => false
    | _ => false
  | .box x _ => co.dst.isSome && match co.op with | .box _ X => opdOk F X x | _ => false
  | .build ps => co.dst.isSome && match co.op with
    | .build T parts => match fieldsOf P T, zeroOf P T with
      | some fs, some (_, zv) => match fs.toList.mapM (fun f => (P.info? f.type).map fun i => (f.offset, i.size)) with
        | some places => bOk (places.toArray[·]?) zv.cells F ps parts.toList 0
        | none => false
      | _, _ => false
    | _ => false
  | .bslice _ sz ps => co.dst.isSome && match co.op with
    | .buildSlice T len parts => match elemOf P T with
      | some e => match zeroOf P e with
        | some (inf, _) => inf.size == sz && decide (len * sz ≤ 2 ^ 24) && ps.length == len && rOk F sz ps parts.toList 0
        | none => false
      | none => false
    | _ => false
  | .ld x sh => co.dst.isSome && match co.op with | .load T X => opdOk F X x && shOk P T sh | _ => false
  | .st x y sh => co.dst.isNone && match co.op with | .store T X Y => opdOk F X x && opdOk F Y y && shOk P T sh | _ => false
  | .nilck x => co.dst.isSome && match co.op with | .nilCheck X => opdOk F X x | _ => false
  | .bin op x y => co.dst.isSome && match co.op with | .binOp cop _ X Y _ => opdOk F X x && opdOk F Y y && bopOk cop op | _ => false
  | .eq neg k x y => co.dst.isSome && match co.op with
    | .binOp cop T X Y _ => (match neg, cop with | true, .neq => true | false, .eql => true | _, _ => false) && opdOk F X x && opdOk F Y y && eqKOk P T X Y k
    | _ => false
  | .un op x => co.dst.isSome && match co.op with
    | .unOp cop _ X => (match op, cop with | .not, .not => true | .neg, .neg => true | _, _ => false) && opdOk F X x
    | _ => false
  | .conv k x => co.dst.isSome && match co.op with | .convert S D X => opdOk F X x && undIs P S isIntAny && undIs P D (isInt k) | _ => false
  | .cstr x => co.dst.isSome && match co.op with | .convert S D X => opdOk F X x && undIs P S isStr && undIs P D isStr | _ => false
  | .mkif t x => co.dst.isSome && match co.op with | .makeInterface T X => T == t && opdOk F X x && undIs P T (fun d => !isIfc d) | _ => false
  | .fld x off sh => co.dst.isSome && match co.op with
    | .field T X fi => opdOk F X x && match fieldsOf P T with
      | some fs => match fs[fi]? with | some f => f.offset == off && shOk P f.type sh | none => false
      | none => false
    | _ => false
  | .faddr x off _ => co.dst.isSome && match co.op with
    | .fieldAddr T X fi => opdOk F X x && match fieldsOf P T with
      | some fs => match fs[fi]? with | some f => f.offset == off && sizeIs P f.type (fun i => i.size != 0) | none => false
      | none => false
    | _ => false
  | .iaddr x i sz _ => co.dst.isSome && match co.op with
    | .indexAddr T X I => opdOk F X x && opdOk F I i && match elemOf P T with | some e => sizeIs P e (fun i => i.size == sz) | none => false
    | _ => false
  | .idx x i => co.dst.isSome && match co.op with | .index T X I => opdOk F X x && opdOk F I i && undIs P T isStr | _ => false
  | .sslc x l h => co.dst.isSome && match co.op with | .slice T X lo hi none => opdOk F X x && optOk F lo l && optOk F hi h && undIs P T isStr | _ => false
  | .slc x l h sz => co.dst.isSome && match co.op with
    | .slice T X lo hi none => opdOk F X x && optOk F lo l && optOk F hi h && match elemOf P T with | some e => sizeIs P e (fun i => i.size == sz) | none => false
    | _ => false
  | .slc0 x a b c _ => co.dst.isSome && match co.op with
    | .slice T X (some A) (some B) (some C) => opdOk F X x && opdOk F A a && opdOk F B b && opdOk F C c && match elemOf P T with | some e => sizeIs P e (fun _ => true) | none => false
    | _ => false
  | .ext x i => co.dst.isSome && match co.op with | .extract X j => opdOk F X x && i == j | _ => false
  | .tas x t zero => co.dst.isSome && match co.op with
    | .typeAssert X T A ok => A == t && opdOk F X x && undIs P A (fun d => !isIfc d) && ok == zero.isSome && match P.info? A with
      | some inf => match zero with
        | none => true
        | some z => match inf.zero with | some v => pvOkA v z | none => false
      | none => false
    | _ => false
  | .call _ f args => match co.op with
    | .call { callee := .value (.func g), args := A, .. } => f == g && opdsOk F A.toList args
    | _ => false
  | .callv _ x args => match co.op with
    | .call { callee := .value X, args := A, .. } => opdOk F X x && opdsOk F A.toList args
    | _ => false
  | .inv _ x tbl args => match co.op with
    | .call { callee := .invoke X n, args := A, .. } => opdOk F X x && opdsOk F A.toList args && (match mt.lookup n with | some l => decide (l = tbl) | none => false)
    | _ => false
  | .slen x => co.dst.isSome && match co.op with
    | .call { callee := .builtin .len, args := A, argTypes := Ts } => (match A.toList, Ts.toList with | [X], [T] => opdOk F X x && undIs P T isStr | _, _ => false)
    | _ => false
  | .len x => co.dst.isSome && match co.op with
    | .call { callee := .builtin .len, args := A, argTypes := Ts } => (match A.toList, Ts.toList with | [X], [T] => opdOk F X x && (elemOf P T).isSome | _, _ => false)
    | _ => false
  | .app x y _ sz bytes => co.dst.isSome && match co.op with
    | .call { callee := .builtin .append, args := A, argTypes := Ts } => (match A.toList, Ts.toList with
      | [X, Y], [T, T'] => opdOk F X x && opdOk F Y y && match elemOf P T, elemOf P T' with
        | some e, some _ => match zeroOf P e with
          | some (inf, zv) => zv.cells.size == inf.size && decide (1 ≤ inf.bytes) && decide (inf.bytes ≤ 65536) && inf.size == sz && inf.bytes == bytes
          | none => false
        | _, _ => false
      | _, _ => false)
    | _ => false
  | .mn l => co.dst.isSome && match co.op with
    | .call { callee := .builtin .min, args := A, .. } => (match l, A.toList with | [x, y], [X, Y] => opdOk F X x && opdOk F Y y | _, _ => false)
    | _ => false
  | .mx l => co.dst.isSome && match co.op with
    | .call { callee := .builtin .max, args := A, .. } => (match l, A.toList with | [x, y], [X, Y] => opdOk F X x && opdOk F Y y | _, _ => false)
    | _ => false
  | .mkfn f a c => co.dst.isSome && match co.op with | .makeFunc (.func g) A C => f == g && opdsOk F A.toList a && opdsOk F C.toList c | _ => false
  | .range x => co.dst.isSome && match co.op with | .range T X => opdOk F X x && undIs P T isStr | _ => false
  | .next x => co.dst.isSome && match co.op with | .next X true => opdOk F X x | _ => false
  | .mkmap => co.dst.isSome && match co.op with | .makeMap _ none => true | _ => false
  | .look x k ok zero => co.dst.isSome && match co.op with
    | .lookup T X I ok' => ok == ok' && opdOk F X x && opdOk F I k && match mapOf P T with
      | some (kt, et) => undIs P kt isStr && match zeroOf P et with | some (_, zv) => pvOkA zv zero | none => false
      | none => false
    | _ => false
  | .mset x k y => co.dst.isNone && match co.op with
    | .mapUpdate T X I Y => opdOk F X x && opdOk F I k && opdOk F Y y && match mapOf P T with | some (kt, _) => undIs P kt isStr | none => false
    | _ => false

omit [Base] in
theorem arr_of {α : Type} {A : Array α} {l : List α} (h : A.toList = l) : A = l.toArray := by subst h; rfl
omit [Base] in
theorem isSome_ne {α : Type} {o : Option α} (h : o.isSome = true) : o ≠ none := by intro e; simp [e] at h
omit [Base] in
theorem isNone_eq {α : Type} {o : Option α} (h : o.isNone = true) : o = none := by simpa using h

theorem matchOp_sound {P : Program} {mt : Meths} {F : Fr} {co : Oper} {o : AOp} {call : Calls} (hC : CallSound P call) (hmt : MethsOk P mt) (h : matchOp P mt F co o = true) : OpS' P F co o call := by
  cases o with
  | mv x =>
    simp only [matchOp, Bool.and_eq_true] at h
    obtain ⟨hd, h⟩ := h
    split at h
    · rename_i X ho; exact (op_mv (isSome_ne hd) ho h).weak
    · simp at h
  | asg x =>
    simp only [matchOp, Bool.and_eq_true] at h
    obtain ⟨hd, h⟩ := h
    split at h
    · rename_i X ho; exact (op_asg (isSome_ne hd) ho h).weak
    · simp at h
  | pick c a b =>
    simp only [matchOp, Bool.and_eq_true] at h
    obtain ⟨hd, h⟩ := h
    split at h
    · rename_i C A B ho
      simp only [Bool.and_eq_true] at h
      exact (op_pick (isSome_ne hd) ho h.1.1 h.1.2 h.2).weak
    · simp at h
  | alloc z =>
    simp only [matchOp, Bool.and_eq_true] at h
    obtain ⟨hd, h⟩ := h
    split at h
    · rename_i T ho
      split at h
      · rename_i inf zv hz
        obtain ⟨z1, z2⟩ := zeroOf_spec hz
        exact (op_alloc (isSome_ne hd) ho z1 z2 h).weak
      · simp at h
    · simp at h
  | box x sh =>
    simp only [matchOp, Bool.and_eq_true] at h
    obtain ⟨hd, h⟩ := h
    split at h
    · rename_i T X ho; exact (op_box (isSome_ne hd) ho h).weak
    · simp at h
  | build ps =>
    simp only [matchOp, Bool.and_eq_true] at h
    obtain ⟨hd, h⟩ := h
    split at h
    · rename_i T parts ho
      split at h
      · rename_i fs inf zv hf hz
        obtain ⟨z1, z2⟩ := zeroOf_spec hz
        split at h
        · rename_i places hp
          exact (op_build (isSome_ne hd) ho (fieldsOf_spec hf) z1 z2 hp h).weak
        · simp at h
      · simp at h
    · simp at h
  | bslice fz sz ps =>
    simp only [matchOp, Bool.and_eq_true] at h
    obtain ⟨hd, h⟩ := h
    split at h
    · rename_i T len parts ho
      split at h
      · rename_i e he
        split at h
        · rename_i inf zv hz
          obtain ⟨z1, z2⟩ := zeroOf_spec hz
          simp only [Bool.and_eq_true, beq_iff_eq, decide_eq_true_eq] at h
          exact (op_bslice (isSome_ne hd) ho (elemOf_spec he) z1 z2 h.1.1.1 h.1.1.2 h.1.2 h.2).weak
        · simp at h
      · simp at h
    · simp at h
  | ld x sh =>
    simp only [matchOp, Bool.and_eq_true] at h
    obtain ⟨hd, h⟩ := h
    split at h
    · rename_i T X ho
      simp only [Bool.and_eq_true] at h
      exact (op_ld (isSome_ne hd) ho h.1 h.2).weak
    · simp at h
  | st x y sh =>
    simp only [matchOp, Bool.and_eq_true] at h
    obtain ⟨hd, h⟩ := h
    split at h
    · rename_i T X Y ho
      simp only [Bool.and_eq_true] at h
      exact (op_st (isNone_eq hd) ho h.1.1 h.1.2 h.2).weak
    · simp at h
  | nilck x =>
    simp only [matchOp, Bool.and_eq_true] at h
    obtain ⟨hd, h⟩ := h
    split at h
    · rename_i X ho; exact (op_nilck (isSome_ne hd) ho h).weak
    · simp at h
  | bin op x y =>
    simp only [matchOp, Bool.and_eq_true] at h
    obtain ⟨hd, h⟩ := h
    split at h
    · rename_i cop T X Y T' ho
      simp only [Bool.and_eq_true] at h
      exact (op_bin (isSome_ne hd) ho h.1.1 h.1.2 h.2).weak
    · simp at h
  | eq neg k x y =>
    simp only [matchOp, Bool.and_eq_true] at h
    obtain ⟨hd, h⟩ := h
    split at h
    · rename_i cop T X Y T' ho
      simp only [Bool.and_eq_true] at h
      have hc : cop = if neg then .neq else .eql := by
        have := h.1.1.1
        split at this <;> simp_all
      subst hc
      exact (op_eq (isSome_ne hd) ho h.1.1.2 h.1.2 h.2).weak
    · simp at h
  | un op x =>
    simp only [matchOp, Bool.and_eq_true] at h
    obtain ⟨hd, h⟩ := h
    split at h
    · rename_i cop T X ho
      simp only [Bool.and_eq_true] at h
      refine (op_un (isSome_ne hd) ho h.2 ?_).weak
      have := h.1
      split at this <;> simp_all
    · simp at h
  | conv k x =>
    simp only [matchOp, Bool.and_eq_true] at h
    obtain ⟨hd, h⟩ := h
    split at h
    · rename_i S D X ho
      simp only [Bool.and_eq_true] at h
      obtain ⟨d1, e1, e2⟩ := undIs_spec h.1.2
      obtain ⟨d2, e3, e4⟩ := undIs_spec h.2
      obtain ⟨j, rfl⟩ := isIntAny_spec e2
      have := isInt_spec e4; subst this
      exact (op_conv (isSome_ne hd) ho h.1.1 ⟨j, e1⟩ e3).weak
    · simp at h
  | cstr x =>
    simp only [matchOp, Bool.and_eq_true] at h
    obtain ⟨hd, h⟩ := h
    split at h
    · rename_i S D X ho
      simp only [Bool.and_eq_true] at h
      obtain ⟨d1, e1, e2⟩ := undIs_spec h.1.2
      obtain ⟨d2, e3, e4⟩ := undIs_spec h.2
      have := isStr_spec e2; subst this
      have := isStr_spec e4; subst this
      exact (op_cstr (isSome_ne hd) ho h.1.1 e1 e3).weak
    · simp at h
  | mkif t x =>
    simp only [matchOp, Bool.and_eq_true] at h
    obtain ⟨hd, h⟩ := h
    split at h
    · rename_i T X ho
      simp only [Bool.and_eq_true, beq_iff_eq] at h
      obtain ⟨d, e1, e2⟩ := undIs_spec h.2
      have := h.1.1; subst this
      exact (op_mkif (isSome_ne hd) ho h.1.2 e1 (isIfc_spec e2)).weak
    · simp at h
  | fld x off sh =>
    simp only [matchOp, Bool.and_eq_true] at h
    obtain ⟨hd, h⟩ := h
    split at h
    · rename_i T X fi ho
      simp only [Bool.and_eq_true] at h
      obtain ⟨hx, h⟩ := h
      split at h
      · rename_i fs hf
        split at h
        · rename_i f hfi
          simp only [Bool.and_eq_true, beq_iff_eq] at h
          exact (op_fld (isSome_ne hd) ho hx (fieldsOf_spec hf) hfi h.1 h.2).weak
        · simp at h
      · simp at h
    · simp at h
  | faddr x off sh =>
    simp only [matchOp, Bool.and_eq_true] at h
    obtain ⟨hd, h⟩ := h
    split at h
    · rename_i T X fi ho
      simp only [Bool.and_eq_true] at h
      obtain ⟨hx, h⟩ := h
      split at h
      · rename_i fs hf
        split at h
        · rename_i f hfi
          simp only [Bool.and_eq_true, beq_iff_eq] at h
          obtain ⟨i, e1, e2⟩ := sizeIs_spec h.2
          exact (op_faddr (isSome_ne hd) ho hx (fieldsOf_spec hf) hfi h.1 e1 (by simpa using e2)).weak
        · simp at h
      · simp at h
    · simp at h
  | iaddr x i sz sh =>
    simp only [matchOp, Bool.and_eq_true] at h
    obtain ⟨hd, h⟩ := h
    split at h
    · rename_i T X I ho
      simp only [Bool.and_eq_true] at h
      obtain ⟨hx, h⟩ := h
      split at h
      · rename_i e he
        obtain ⟨inf, e1, e2⟩ := sizeIs_spec h
        exact (op_iaddr (isSome_ne hd) ho hx.1 hx.2 (elemOf_spec he) e1 (by simpa using e2)).weak
      · simp at h
    · simp at h
  | idx x i =>
    simp only [matchOp, Bool.and_eq_true] at h
    obtain ⟨hd, h⟩ := h
    split at h
    · rename_i T X I ho
      simp only [Bool.and_eq_true] at h
      obtain ⟨d, e1, e2⟩ := undIs_spec h.2
      have := isStr_spec e2; subst this
      exact (op_idx (isSome_ne hd) ho h.1.1 h.1.2 e1).weak
    · simp at h
  | sslc x l hh =>
    simp only [matchOp, Bool.and_eq_true] at h
    obtain ⟨hd, h⟩ := h
    split at h
    · rename_i T X lo hi ho
      simp only [Bool.and_eq_true] at h
      obtain ⟨d, e1, e2⟩ := undIs_spec h.2
      have := isStr_spec e2; subst this
      exact (op_slc_str (isSome_ne hd) ho h.1.1.1 h.1.1.2 h.1.2 e1).weak
    · simp at h
  | slc x l hh sz =>
    simp only [matchOp, Bool.and_eq_true] at h
    obtain ⟨hd, h⟩ := h
    split at h
    · rename_i T X lo hi ho
      simp only [Bool.and_eq_true] at h
      obtain ⟨hx, h⟩ := h
      split at h
      · rename_i e he
        obtain ⟨inf, e1, e2⟩ := sizeIs_spec h
        exact (op_slc (isSome_ne hd) ho hx.1.1 hx.1.2 hx.2 (elemOf_spec he) e1 (by simpa using e2)).weak
      · simp at h
    · simp at h
  | slc0 x a b c sz =>
    simp only [matchOp, Bool.and_eq_true] at h
    obtain ⟨hd, h⟩ := h
    split at h
    · rename_i T X A B C ho
      simp only [Bool.and_eq_true] at h
      obtain ⟨hx, h⟩ := h
      split at h
      · rename_i e he
        obtain ⟨inf, e1, e2⟩ := sizeIs_spec h
        exact (op_slc0 (isSome_ne hd) ho hx.1.1.1 hx.1.1.2 hx.1.2 hx.2 (elemOf_spec he) e1).weak
      · simp at h
    · simp at h
  | ext x i =>
    simp only [matchOp, Bool.and_eq_true] at h
    obtain ⟨hd, h⟩ := h
    split at h
    · rename_i X j ho
      simp only [Bool.and_eq_true, beq_iff_eq] at h
      obtain ⟨hx, rfl⟩ := h
      exact (op_ext (isSome_ne hd) ho hx).weak
    · simp at h
  | tas x t zero =>
    simp only [matchOp, Bool.and_eq_true] at h
    obtain ⟨hd, h⟩ := h
    split at h
    · rename_i X T A ok ho
      simp only [Bool.and_eq_true, beq_iff_eq] at h
      obtain ⟨⟨⟨⟨rfl, hx⟩, hu⟩, hok⟩, h⟩ := h
      obtain ⟨d, e1, e2⟩ := undIs_spec hu
      split at h
      · rename_i inf hinf
        refine (op_tas (isSome_ne hd) ho hx e1 (isIfc_spec e2) hok hinf ?_).weak
        rintro z rfl
        simp only at h
        split at h
        · rename_i v hv; exact ⟨v, hv, h⟩
        · simp at h
      · simp at h
    · simp at h
  | call q f args =>
    simp only [matchOp] at h
    split at h
    · rename_i g A ats ho
      simp only [Bool.and_eq_true, beq_iff_eq] at h
      obtain ⟨rfl, h⟩ := h
      exact op_call hC ho h
    · simp at h
  | callv q x args =>
    simp only [matchOp] at h
    split at h
    · rename_i X A ats ho
      simp only [Bool.and_eq_true] at h
      exact op_callv hC ho h.1 h.2
    · simp at h
  | inv q x tbl args =>
    simp only [matchOp] at h
    split at h
    · rename_i X n A ats ho
      simp only [Bool.and_eq_true] at h
      obtain ⟨h1, h2⟩ := h
      split at h2
      · rename_i l hl
        simp only [decide_eq_true_eq] at h2; subst h2
        exact op_inv hC ho h1.1 h1.2 (hmt n l hl)
      · simp at h2
    · simp at h
  | slen x =>
    simp only [matchOp, Bool.and_eq_true] at h
    obtain ⟨hd, h⟩ := h
    split at h
    · rename_i A Ts ho
      split at h
      · rename_i X T hA hT
        simp only [Bool.and_eq_true] at h
        obtain ⟨d, e1, e2⟩ := undIs_spec h.2
        have := isStr_spec e2; subst this
        rw [arr_of hA, arr_of hT] at ho
        exact (op_slen (isSome_ne hd) ho h.1 e1).weak
      · simp at h
    · simp at h
  | len x =>
    simp only [matchOp, Bool.and_eq_true] at h
    obtain ⟨hd, h⟩ := h
    split at h
    · rename_i A Ts ho
      split at h
      · rename_i X T hA hT
        simp only [Bool.and_eq_true] at h
        obtain ⟨e, he⟩ := Option.isSome_iff_exists.1 h.2
        rw [arr_of hA, arr_of hT] at ho
        exact (op_len (isSome_ne hd) ho h.1 (elemOf_spec he)).weak
      · simp at h
    · simp at h
  | app x y fz sz bytes =>
    simp only [matchOp, Bool.and_eq_true] at h
    obtain ⟨hd, h⟩ := h
    split at h
    · rename_i A Ts ho
      split at h
      · rename_i X Y T T' hA hT
        simp only [Bool.and_eq_true] at h
        obtain ⟨hx, h⟩ := h
        rw [arr_of hA, arr_of hT] at ho
        split at h
        · rename_i e e' he he'
          split at h
          · rename_i inf zv hz
            obtain ⟨z1, z2⟩ := zeroOf_spec hz
            simp only [Bool.and_eq_true, beq_iff_eq, decide_eq_true_eq] at h
            exact (op_app (isSome_ne hd) ho hx.1 hx.2 (elemOf_spec he) (elemOf_spec he') z1 z2 h.1.1.1.1 h.1.1.1.2 h.1.1.2 h.1.2 h.2).weak
          · simp at h
        · simp at h
      · simp at h
    · simp at h
  | mn l =>
    simp only [matchOp, Bool.and_eq_true] at h
    obtain ⟨hd, h⟩ := h
    split at h
    · rename_i A ats ho
      split at h
      · rename_i x y X Y hA
        simp only [Bool.and_eq_true] at h
        rw [arr_of hA] at ho
        exact (op_mn (isSome_ne hd) ho h.1 h.2).weak
      · simp at h
    · simp at h
  | mx l =>
    simp only [matchOp, Bool.and_eq_true] at h
    obtain ⟨hd, h⟩ := h
    split at h
    · rename_i A ats ho
      split at h
      · rename_i x y X Y hA
        simp only [Bool.and_eq_true] at h
        rw [arr_of hA] at ho
        exact (op_mx (isSome_ne hd) ho h.1 h.2).weak
      · simp at h
    · simp at h
  | mkfn f a c =>
    simp only [matchOp, Bool.and_eq_true] at h
    obtain ⟨hd, h⟩ := h
    split at h
    · rename_i g A C ho
      simp only [Bool.and_eq_true, beq_iff_eq] at h
      obtain ⟨⟨rfl, h1⟩, h2⟩ := h
      exact (op_mkfn (isSome_ne hd) ho h1 h2).weak
    · simp at h
  | range x =>
    simp only [matchOp, Bool.and_eq_true] at h
    obtain ⟨hd, h⟩ := h
    split at h
    · rename_i T X ho
      simp only [Bool.and_eq_true] at h
      obtain ⟨d, e1, e2⟩ := undIs_spec h.2
      have := isStr_spec e2; subst this
      exact (op_range (isSome_ne hd) ho h.1 e1).weak
    · simp at h
  | next x =>
    simp only [matchOp, Bool.and_eq_true] at h
    obtain ⟨hd, h⟩ := h
    split at h
    · rename_i X ho; exact (op_next (isSome_ne hd) ho h).weak
    · simp at h
  | mkmap =>
    simp only [matchOp, Bool.and_eq_true] at h
    obtain ⟨hd, h⟩ := h
    split at h
    · rename_i T ho; exact (op_mkmap (isSome_ne hd) ho rfl).weak
    · simp at h
  | look x k ok zero =>
    simp only [matchOp, Bool.and_eq_true] at h
    obtain ⟨hd, h⟩ := h
    split at h
    · rename_i T X I ok' ho
      simp only [Bool.and_eq_true, beq_iff_eq] at h
      obtain ⟨⟨⟨rfl, hx⟩, hi⟩, h⟩ := h
      split at h
      · rename_i kt et hm
        simp only [Bool.and_eq_true] at h
        obtain ⟨hu, h⟩ := h
        obtain ⟨d, e1, e2⟩ := undIs_spec hu
        have := isStr_spec e2; subst this
        split at h
        · rename_i inf zv hz
          obtain ⟨z1, z2⟩ := zeroOf_spec hz
          exact (op_look (isSome_ne hd) ho hx hi (mapOf_spec hm) e1 z1 z2 h).weak
        · simp at h
      · simp at h
    · simp at h
  | mset x k y =>
    simp only [matchOp, Bool.and_eq_true] at h
    obtain ⟨hd, h⟩ := h
    split at h
    · rename_i T X I Y ho
      simp only [Bool.and_eq_true] at h
      obtain ⟨hx, h⟩ := h
      split at h
      · rename_i kt et hm
        obtain ⟨d, e1, e2⟩ := undIs_spec h
        have := isStr_spec e2; subst this
        exact (op_mset (isNone_eq hd) ho hx.1.1 hx.1.2 hx.2 (mapOf_spec hm) e1).weak
      · simp at h
    · simp at h
end Go.Abs
