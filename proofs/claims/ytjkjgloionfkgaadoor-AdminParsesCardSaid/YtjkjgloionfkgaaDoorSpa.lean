/- What the functions of admin.Parse and of its reference compute, by the evaluator. The kinds of the words behind a request's first word. -/
import Derived.Test.YtjkjgloionfkgaaDoorSym
import Derived.Test.YtjkjgloionfkgaaDoorIra
import Derived.Test.YtjkjgloionfkgaaDoorPla

namespace Go.Abs.A

/-- An error of strconv's. -/
def numErr (t : Nat) : PV := .iface t (.ptr (.agg []))
abbrev tNumErr : Nat := 75
def prim : Nat → Option (List AV → List Obj → Option (AV × List Obj))
  | 10 => some fun a h => match a with
    | [.p (.str s), .p (.str p)] => some (.tup [.p (.str (Lib.trimPrefix s p)), .p (.bool (Lib.hasPrefix s p))], h)
    | _ => none
  | 11 => some fun a h => match a with
    | [.p (.str s), .p (.str [c])] => if s.length < 4294967281 then some (.p (.slice 1 ((pieces c s).map PV.str)), h) else none
    | _ => none
  | 23 => some fun a h => match a with
    | [.p (.str s)] => if s.length ≤ 281474976710656 then (match Lib.atoiAll s with
      | .ok v => some (.tup [.p (.int .i64 v), .p .nilIface], h)
      | .range => some (.tup [.p (.int .i64 (Lib.atoiSat s)), .p (numErr tNumErr)], h)
      | _ => some (.tup [.p (.int .i64 0), .p (numErr tNumErr)], h)) else none
    | _ => none
  | 24 => some fun a h => match a with
    | [.p (.int .i64 n)] => if -9223372036854775808 ≤ n ∧ n ≤ 9223372036854775807 then some (.p (.str (Lib.itoa n)), h) else none
    | _ => none
  | 27 => some fun a h => match a with
    | [.p (.str s), .p (.str p)] => if s.length < 4294967281 then some (.tup [.p (.str (Lib.cut s p).1), .p (.str (Lib.cut s p).2.1), .p (.bool (Lib.cut s p).2.2)], h) else none
    | _ => none
  | 41 => some fun a h => match a with
    | [.p (.str s)] => some (.tup [.p (.int .i32 (if s = [] then 65533 else (decodeL s).1)), .p (.int .i64 (if s = [] then 0 else (decodeL s).2))], h)
    | _ => none
  | _ => none
noncomputable abbrev E : Calls := EV prim funs

theorem e53 (r : Int) : ret1 E 53 [.p (.int .i32 r)] = some (.p (.bool (digitB r))) := by
  rw [ret1_fun (F := f53) rfl rfl rfl]
  simp only [f53, List.replicate, Nat.reduceSub, Nat.reduceAdd, go_sem, digitB]
theorem e39 (r : Int) : ret1 E 39 [.p (.int .i32 r)] = some (.p (.bool (digitB r))) := by
  rw [ret1_fun (F := f39) rfl rfl rfl]
  simp only [f39, List.replicate, Nat.reduceSub, Nat.reduceAdd, go_sem, digitB]
theorem e26 (r : Int) : ret1 E 26 [.p (.int .i32 r)] = some (.p (.bool (letterB r))) := by
  rw [ret1_fun (F := f26) rfl rfl rfl]
  simp only [f26, List.replicate, Nat.reduceSub, Nat.reduceAdd, go_sem, letterB]
theorem e31 (r : Int) : ret1 E 31 [.p (.int .i32 r)] = some (.p (.bool (letterB r))) := by
  rw [ret1_fun (F := f31) rfl rfl rfl]
  simp only [f31, List.replicate, Nat.reduceSub, Nat.reduceAdd, go_sem, letterB]
theorem e25 (r : Int) : ret1 E 25 [.p (.int .i32 r)] = some (.p (.bool (insideB r))) := by
  rw [ret1_fun (F := f25) rfl rfl rfl]
  simp only [f25, List.replicate, Nat.reduceSub, Nat.reduceAdd, go_sem, e26, e39, insideB]
theorem e42 (r : Int) : ret1 E 42 [.p (.int .i32 r)] = some (.p (.bool (insideB r))) := by
  rw [ret1_fun (F := f42) rfl rfl rfl]
  simp only [f42, List.replicate, Nat.reduceSub, Nat.reduceAdd, go_sem, e31, e53, insideB]

/-! ## glyph.Name -/
theorem wrap64 {n : Int} (h0 : -9223372036854775808 ≤ n) (h1 : n < 9223372036854775808) : IntKind.i64.wrap n = n := by
  unfold IntKind.wrap; simp [IntKind.bits, IntKind.signed]; omega

/-- What glyph.Name says of what is left of a text, behind n runes that are fine. -/
def nameR (n : Nat) (s : List UInt8) : Bool := (runes s).all (fun r => insideB r) && (decide (0 < n + (runes s).length) && decide (n + (runes s).length ≤ 24))

theorem drop_drop' (s : List UInt8) (a b : Nat) : (s.drop a).drop b = s.drop (a + b) := by rw [List.drop_drop]

theorem e14_loop (s : List UInt8) (hs : s.length ≤ 2 ^ 47) : ∀ (m pos n : Nat), s.length - pos ≤ m → 1 ≤ pos → pos ≤ s.length → n ≤ pos →
    outR [Res.v 1] (thenC (blkC 0 (clean 1 [2]) (iter (evC E f14_l0) (clean 1 [2, 5])
      ⟨[.undef, .undef, .p (.int .i64 n), .undef, .undef, .ref 0 0, .undef, .undef, .undef], [], [⟨.iter, [.p (.str s), .p (.int .i64 pos)]⟩]⟩)) (evC E f14_k1)) =
    some (.p (.bool (nameR n (s.drop pos)))) := by
  intro m
  induction m with
  | zero =>
    intro pos n hm h1 h2 h3
    have hp : ¬ ((pos : Int) < (s.length : Int)) := by omega
    have hd : s.drop pos = [] := by simp; omega
    rw [iter_round]
    simp only [f14_l0_ev, f14_b0, f14_k1, Nat.reduceAdd, Nat.reduceBEq, Nat.reduceLT, go_sem, hp, hd, nameR, runes_nil]
    simp; congr 1; exact decide_eq_decide.2 (by omega)
  | succ m ih =>
    intro pos n hm h1 h2 h3
    rw [iter_round]
    by_cases hp : pos < s.length
    · have hp' : ((pos : Int) < (s.length : Int)) := by omega
      have hne : s.drop pos ≠ [] := by simp; omega
      have hk := decodeL_le _ hne
      have hk1 := decodeL_pos (s.drop pos)
      rw [List.length_drop] at hk
      have hpz : ¬ ((pos : Int) = 0) := by omega
      have hw : IntKind.i64.wrap ((n : Int) + 1) = ((n + 1 : Nat) : Int) := by rw [wrap64] <;> omega
      have hcast : (pos : Int) + ((decodeL (s.drop pos)).2 : Int) = ((pos + (decodeL (s.drop pos)).2 : Nat) : Int) := by omega
      simp only [f14_l0_ev, f14_b0, Nat.reduceAdd, Nat.reduceBEq, Nat.reduceLT, go_sem, hp', e25, Int.toNat_natCast, hpz, decide_false, hw, hcast]
      rw [ih (pos + (decodeL (s.drop pos)).2) (n + 1) (by omega) (by omega) (by omega) (by omega)]
      simp only [nameR]
      rw [runes_cons hne, List.drop_drop, List.length_cons, List.all_cons]
      generalize (runes (s.drop (pos + (decodeL (s.drop pos)).2))).length = L
      rw [show n + (L + 1) = n + 1 + L by omega]
      cases hi : insideB (decodeL (s.drop pos)).1 <;> simp
    · have hp' : ¬ ((pos : Int) < (s.length : Int)) := by omega
      have hd : s.drop pos = [] := by simp; omega
      simp only [f14_l0_ev, f14_b0, f14_k1, Nat.reduceAdd, Nat.reduceBEq, Nat.reduceLT, go_sem, hp', hd, nameR, runes_nil]
      simp; congr 1; exact decide_eq_decide.2 (by omega)

theorem e14 (s : List UInt8) (hs : s.length ≤ 2 ^ 47) : ret1 E 14 [.p (.str s)] = some (.p (.bool (nameB s))) := by
  rw [ret1_fun (F := f14) rfl rfl rfl]
  simp only [f14, List.replicate, Nat.reduceSub, Nat.reduceAdd, Nat.reduceBEq, Nat.reduceLT, go_sem]
  rw [iter_round]
  by_cases h : s = []
  · subst h
    simp only [f14_l0_ev, f14_b0, f14_k1, Nat.reduceAdd, Nat.reduceBEq, Nat.reduceLT, Int.reduceToNat, go_sem, nameB, runes_nil, Int.natCast_zero, Int.lt_irrefl]
    try simp
  · have hp : (0 : Int) < (s.length : Int) := by cases s with | nil => exact absurd rfl h | cons a r => simp
    have hk := decodeL_le _ h
    have hk1 := decodeL_pos s
    have hw : IntKind.i64.wrap (0 + 1) = ((1 : Nat) : Int) := by decide
    have hcast : (0 : Int) + ((decodeL s).2 : Int) = (((decodeL s).2 : Nat) : Int) := by omega
    simp only [f14_l0_ev, f14_b0, Nat.reduceAdd, Nat.reduceBEq, Nat.reduceLT, go_sem, hp, e25, e26, hw, hcast, Int.toNat_zero, List.drop_zero]
    rw [e14_loop s hs s.length (decodeL s).2 1 (by omega) hk1 hk hk1]
    simp only [nameB, nameR]
    rw [runes_cons h]
    simp only
    generalize (runes (s.drop (decodeL s).2)).length = L
    rw [Nat.add_comm 1 L]
    cases insideB (decodeL s).1 <;> cases letterB (decodeL s).1 <;> simp

/-! ## The reference's names -/
theorem e41 (s : List UInt8) : ret1 E 41 [.p (.str s)] = some (.tup [.p (.int .i32 (if s = [] then 65533 else (decodeL s).1)), .p (.int .i64 (if s = [] then 0 else (decodeL s).2))]) := by rw [ret1_prim (f := 41) rfl]; rfl
def nextL (s : List UInt8) : Int × Nat := if s = [] then (-1, 0) else if (decodeL s).1 = 65533 ∧ (decodeL s).2 ≤ 1 then (-1, (decodeL s).2) else ((decodeL s).1, (decodeL s).2)
theorem e29 (s : List UInt8) : ret1 E 29 [.p (.str s)] = some (.tup [.p (.int .i32 (nextL s).1), .p (.int .i64 (nextL s).2)]) := by
  rw [ret1_fun (F := f29) rfl rfl rfl]
  unfold nextL
  by_cases h : s = []
  · simp only [f29, List.replicate, Nat.reduceSub, Nat.reduceAdd, Int.reduceLE, go_sem, e41, h]
    rfl
  · simp only [f29, List.replicate, Nat.reduceSub, Nat.reduceAdd, go_sem, e41, h]
    by_cases h2 : (decodeL s).1 = 65533 ∧ (decodeL s).2 ≤ 1
    · have h3 : (((decodeL s).1 : Int) = 65533) := by omega
      have h4 : (((decodeL s).2 : Int) ≤ 1) := by omega
      simp [h2, h4]
    · have h3 : ¬ (((decodeL s).1 : Int) = 65533 ∧ ((decodeL s).2 : Int) ≤ 1) := by omega
      simp [h2, h3]
theorem next_inside {s : List UInt8} (h : s ≠ []) : insideB (nextL s).1 = insideB (decodeL s).1 ∧ (nextL s).2 = (decodeL s).2 := by
  unfold nextL
  rw [if_neg h]
  split
  · rename_i h2
    rw [h2.1]
    exact ⟨show insideB (-1) = insideB 65533 by decide, rfl⟩
  · exact ⟨rfl, rfl⟩
/-- How many bytes, and runes, of what may stand in a name a text begins with. -/
def runL (s : List UInt8) : Nat × Nat :=
  if h : s = [] then (0, 0) else if insideB (decodeL s).1 then ((decodeL s).2 + (runL (s.drop (decodeL s).2)).1, 1 + (runL (s.drop (decodeL s).2)).2) else (0, 0)
termination_by s.length
decreasing_by
  all_goals
    have := decodeL_pos s
    have : 1 ≤ s.length := by cases s with | nil => exact absurd rfl h | cons a r => simp
    simp; omega
theorem runL_nil : runL [] = (0, 0) := by rw [runL]; rfl
theorem runL_no {s : List UInt8} (h : s ≠ []) (hi : insideB (decodeL s).1 = false) : runL s = (0, 0) := by rw [runL, dif_neg h, hi]; rfl
theorem runL_yes {s : List UInt8} (h : s ≠ []) (hi : insideB (decodeL s).1 = true) : runL s = ((decodeL s).2 + (runL (s.drop (decodeL s).2)).1, 1 + (runL (s.drop (decodeL s).2)).2) := by rw [runL, dif_neg h, hi]; rfl

theorem e30_loop (s : List UInt8) (hs : s.length ≤ 2 ^ 47) : ∀ (m pos n : Nat), s.length - pos ≤ m → pos ≤ s.length → n ≤ pos →
    outR [Res.v 1, Res.v 2] (thenC (blkC 0 (clean 0 [3, 4]) (iter (evC E f30_l0) (clean 0 [0, 3, 4])
      ⟨[.p (.str s), .undef, .undef, .p (.int .i64 pos), .p (.int .i64 n), .undef, .undef, .undef, .undef], [], []⟩)) (evC E f30_k1)) =
    some (.tup [.p (.int .i64 ((pos + (runL (s.drop pos)).1 : Nat) : Int)), .p (.int .i64 ((n + (runL (s.drop pos)).2 : Nat) : Int))]) := by
  intro m
  induction m with
  | zero =>
    intro pos n hm h2 h3
    have hp : ¬ ((pos : Int) < (s.length : Int)) := by omega
    have hd : s.drop pos = [] := by simp; omega
    rw [iter_round, hd, runL_nil]
    simp only [f30_l0_ev, f30_b0, f30_k1, Nat.reduceAdd, Nat.reduceBEq, go_sem, hp, Nat.add_zero]
  | succ m ih =>
    intro pos n hm h2 h3
    rw [iter_round]
    by_cases hp : pos < s.length
    · have hp' : ((pos : Int) < (s.length : Int)) := by omega
      have hne : s.drop pos ≠ [] := by simp; omega
      have hk := decodeL_le _ hne
      have hk1 := decodeL_pos (s.drop pos)
      have hn := next_inside hne
      have hb : boundOk (pos : Int) (s.length : Int) (s.length : Int) = true := boundOk_true (by omega)
      have ht : (s.drop pos).take (s.length - pos) = s.drop pos := List.take_of_length_le (by simp)
      rw [List.length_drop] at hk
      have hw : IntKind.i64.wrap ((n : Int) + 1) = ((n + 1 : Nat) : Int) := by rw [wrap64] <;> omega
      have hcast : IntKind.i64.wrap ((pos : Int) + ((decodeL (s.drop pos)).2 : Int)) = ((pos + (decodeL (s.drop pos)).2 : Nat) : Int) := by rw [wrap64] <;> omega
      simp only [f30_l0_ev, f30_b0, Nat.reduceAdd, Nat.reduceBEq, reduceCtorEq, go_sem, hp', hb, Int.toNat_natCast, ht, e29, e42, hn.1, hn.2, hw, hcast]
      cases hi : insideB (decodeL (s.drop pos)).1
      · rw [runL_no hne hi]
        simp only [f30_k1, Nat.reduceAdd, go_sem, Nat.add_zero]
      · rw [runL_yes hne hi]
        simp only [Bool.not_true, Bool.false_eq_true, if_false]
        rw [ih (pos + (decodeL (s.drop pos)).2) (n + 1) (by omega) (by omega) (by omega), List.drop_drop]
        simp only [Nat.add_assoc]
    · have hp' : ¬ ((pos : Int) < (s.length : Int)) := by omega
      have hd : s.drop pos = [] := by simp; omega
      rw [hd, runL_nil]
      simp only [f30_l0_ev, f30_b0, f30_k1, Nat.reduceAdd, Nat.reduceBEq, go_sem, hp', Nat.add_zero]
theorem e30 (s : List UInt8) (hs : s.length ≤ 2 ^ 47) : ret1 E 30 [.p (.str s)] = some (.tup [.p (.int .i64 (runL s).1), .p (.int .i64 (runL s).2)]) := by
  rw [ret1_fun (F := f30) rfl rfl rfl]
  simp only [f30, List.replicate, Nat.reduceSub, Nat.reduceAdd, Nat.reduceBEq, go_sem]
  have := e30_loop s hs s.length 0 0 (by omega) (by omega) (by omega)
  simp only [Nat.zero_add, List.drop_zero] at this
  exact this
theorem runL_name : ∀ (m : Nat) (s : List UInt8), s.length ≤ m → (runL s).1 ≤ s.length ∧ ((runL s).1 = s.length ↔ (runes s).all (fun r => insideB r) = true) ∧ ((runL s).1 = s.length → (runL s).2 = (runes s).length) := by
  intro m
  induction m with
  | zero =>
    intro s h
    have : s = [] := by cases s with | nil => rfl | cons a r => simp at h
    subst this
    simp [runL_nil, runes_nil]
  | succ m ih =>
    intro s h
    by_cases hs : s = []
    · subst hs; simp [runL_nil, runes_nil]
    · have hk := decodeL_le _ hs
      have hk1 := decodeL_pos s
      obtain ⟨i1, i2, i3⟩ := ih (s.drop (decodeL s).2) (by simp; omega)
      rw [List.length_drop] at i1 i2 i3
      rw [runes_cons hs]
      cases hi : insideB (decodeL s).1
      · rw [runL_no hs hi]
        simp [hi]
        omega
      · rw [runL_yes hs hi]
        simp only [List.all_cons, hi, Bool.true_and, List.length_cons]
        refine ⟨by omega, ?_, fun h => ?_⟩
        · rw [← i2]; omega
        · have := i3 (by omega); omega
theorem e19 (s : List UInt8) (hs : s.length ≤ 2 ^ 47) : ret1 E 19 [.p (.str s)] = some (.p (.bool (nameB s))) := by
  rw [ret1_fun (F := f19) rfl rfl rfl]
  simp only [f19, List.replicate, Nat.reduceSub, Nat.reduceAdd, go_sem, e29, e30 s hs, e31]
  obtain ⟨i1, i2, i3⟩ := runL_name s.length s (Nat.le_refl _)
  by_cases h : s = []
  · subst h
    simp [nextL, nameB, runes_nil]
    decide
  · have hl : letterB (nextL s).1 = letterB (decodeL s).1 := by
      unfold nextL
      rw [if_neg h]
      split
      · rename_i h2; rw [h2.1]; exact (show letterB (-1) = letterB 65533 by decide)
      · rfl
    rw [hl]
    unfold nameB
    have e := runes_cons h
    rw [e] at i2 i3 ⊢
    simp only [List.all_cons, List.length_cons] at i2 i3 ⊢
    by_cases hq : (runL s).1 = s.length
    · have := i3 hq
      have hq' := i2.1 hq
      rw [Bool.and_eq_true] at hq'
      rw [hq'.1, hq'.2, hq, this]
      simp
      congr 1
      exact decide_eq_decide.2 (by omega)
    · have hq' : ¬ (((runL s).1 : Int) = (s.length : Int)) := by omega
      have hq2 : ¬ ((insideB (decodeL s).1 && (runes (s.drop (decodeL s).2)).all fun r => insideB r) = true) := fun e => hq (i2.2 e)
      simp only [hq', decide_false, Bool.false_and, Bool.and_false]
      cases h1 : insideB (decodeL s).1
      · simp
      · rw [h1, Bool.true_and] at hq2
        simp [hq2]
end Go.Abs.A

namespace Go.Abs.A

/-- Of a request: 1 a number, 2 a name, 3 pairs. -/
def kindsL (s : List UInt8) : List Nat × Bool := if s = [115, 116, 97, 114, 116] then ([2, 1], true) else if s = [99, 97, 110, 99, 101, 108] then ([1], true) else if s = [104, 111, 108, 100] then ([1], true) else if s = [114, 101, 108, 101, 97, 115, 101] then ([1], true) else if s = [115, 116, 97, 116, 117, 115] then ([1], true) else if s = [115, 116, 97, 99, 107] then ([1], true) else if s = [115, 105, 103, 110, 97, 108] then ([1, 2], true) else if s = [109, 105, 103, 114, 97, 116, 101] then ([1, 2, 1, 3], true) else if s = [108, 105, 115, 116] then ([], true) else if s = [99, 104, 97, 114, 116, 115] then ([], true) else if s = [99, 111, 109, 112, 97, 99, 116] then ([], true) else ([], false)
def kindLetter (n : Nat) : UInt8 := if n = 1 then 105 else if n = 2 then 110 else 112
theorem e12 (s : List UInt8) : ret1 E 12 [.p (.str s)] = some (.tup [.p (.str ((kindsL s).1.map kindLetter)), .p (.bool (kindsL s).2)]) := by
  rw [ret1_fun (F := f12) rfl rfl rfl]
  by_cases h0 : s = [115, 116, 97, 114, 116]
  · subst h0
    simp (config := {decide := true}) only [f12, List.replicate, Nat.reduceSub, Nat.reduceAdd, go_sem]
    rfl
  by_cases h1 : s = [99, 97, 110, 99, 101, 108]
  · subst h1
    simp (config := {decide := true}) only [f12, List.replicate, Nat.reduceSub, Nat.reduceAdd, go_sem]
    rfl
  by_cases h2 : s = [104, 111, 108, 100]
  · subst h2
    simp (config := {decide := true}) only [f12, List.replicate, Nat.reduceSub, Nat.reduceAdd, go_sem]
    rfl
  by_cases h3 : s = [114, 101, 108, 101, 97, 115, 101]
  · subst h3
    simp (config := {decide := true}) only [f12, List.replicate, Nat.reduceSub, Nat.reduceAdd, go_sem]
    rfl
  by_cases h4 : s = [115, 116, 97, 116, 117, 115]
  · subst h4
    simp (config := {decide := true}) only [f12, List.replicate, Nat.reduceSub, Nat.reduceAdd, go_sem]
    rfl
  by_cases h5 : s = [115, 116, 97, 99, 107]
  · subst h5
    simp (config := {decide := true}) only [f12, List.replicate, Nat.reduceSub, Nat.reduceAdd, go_sem]
    rfl
  by_cases h6 : s = [115, 105, 103, 110, 97, 108]
  · subst h6
    simp (config := {decide := true}) only [f12, List.replicate, Nat.reduceSub, Nat.reduceAdd, go_sem]
    rfl
  by_cases h7 : s = [109, 105, 103, 114, 97, 116, 101]
  · subst h7
    simp (config := {decide := true}) only [f12, List.replicate, Nat.reduceSub, Nat.reduceAdd, go_sem]
    rfl
  by_cases h8 : s = [108, 105, 115, 116]
  · subst h8
    simp (config := {decide := true}) only [f12, List.replicate, Nat.reduceSub, Nat.reduceAdd, go_sem]
    rfl
  by_cases h9 : s = [99, 104, 97, 114, 116, 115]
  · subst h9
    simp (config := {decide := true}) only [f12, List.replicate, Nat.reduceSub, Nat.reduceAdd, go_sem]
    rfl
  by_cases h10 : s = [99, 111, 109, 112, 97, 99, 116]
  · subst h10
    simp (config := {decide := true}) only [f12, List.replicate, Nat.reduceSub, Nat.reduceAdd, go_sem]
    rfl
  simp only [f12, List.replicate, Nat.reduceSub, Nat.reduceAdd, go_sem, kindsL, h0, h1, h2, h3, h4, h5, h6, h7, h8, h9, h10]
  try rfl
theorem e17 (s : List UInt8) : ret1 E 17 [.p (.str s)] = some (.tup [.p (.slice 1 ((kindsL s).1.map fun (n : Nat) => PV.int .i64 (n : Int))), .p (.bool (kindsL s).2)]) := by
  rw [ret1_fun (F := f17) rfl rfl rfl]
  by_cases h0 : s = [115, 116, 97, 114, 116]
  · subst h0
    simp (config := {decide := true}) only [f17, List.replicate, Nat.reduceSub, Nat.reduceAdd, go_sem]
    rfl
  by_cases h1 : s = [99, 97, 110, 99, 101, 108]
  · subst h1
    simp (config := {decide := true}) only [f17, List.replicate, Nat.reduceSub, Nat.reduceAdd, go_sem]
    rfl
  by_cases h2 : s = [104, 111, 108, 100]
  · subst h2
    simp (config := {decide := true}) only [f17, List.replicate, Nat.reduceSub, Nat.reduceAdd, go_sem]
    rfl
  by_cases h3 : s = [114, 101, 108, 101, 97, 115, 101]
  · subst h3
    simp (config := {decide := true}) only [f17, List.replicate, Nat.reduceSub, Nat.reduceAdd, go_sem]
    rfl
  by_cases h4 : s = [115, 116, 97, 116, 117, 115]
  · subst h4
    simp (config := {decide := true}) only [f17, List.replicate, Nat.reduceSub, Nat.reduceAdd, go_sem]
    rfl
  by_cases h5 : s = [115, 116, 97, 99, 107]
  · subst h5
    simp (config := {decide := true}) only [f17, List.replicate, Nat.reduceSub, Nat.reduceAdd, go_sem]
    rfl
  by_cases h6 : s = [115, 105, 103, 110, 97, 108]
  · subst h6
    simp (config := {decide := true}) only [f17, List.replicate, Nat.reduceSub, Nat.reduceAdd, go_sem]
    rfl
  by_cases h7 : s = [109, 105, 103, 114, 97, 116, 101]
  · subst h7
    simp (config := {decide := true}) only [f17, List.replicate, Nat.reduceSub, Nat.reduceAdd, go_sem]
    rfl
  by_cases h8 : s = [108, 105, 115, 116]
  · subst h8
    simp (config := {decide := true}) only [f17, List.replicate, Nat.reduceSub, Nat.reduceAdd, go_sem]
    rfl
  by_cases h9 : s = [99, 104, 97, 114, 116, 115]
  · subst h9
    simp (config := {decide := true}) only [f17, List.replicate, Nat.reduceSub, Nat.reduceAdd, go_sem]
    rfl
  by_cases h10 : s = [99, 111, 109, 112, 97, 99, 116]
  · subst h10
    simp (config := {decide := true}) only [f17, List.replicate, Nat.reduceSub, Nat.reduceAdd, go_sem]
    rfl
  simp only [f17, List.replicate, Nat.reduceSub, Nat.reduceAdd, go_sem, kindsL, h0, h1, h2, h3, h4, h5, h6, h7, h8, h9, h10]
  try rfl
end Go.Abs.A
