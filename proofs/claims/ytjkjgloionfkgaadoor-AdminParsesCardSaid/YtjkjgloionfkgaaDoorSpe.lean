/- Requests' words. The reference's words of a request; the law. -/
import Derived.Test.YtjkjgloionfkgaaDoorSpd

namespace Go.Abs.A
open Go.Lib

def checkW (k : Nat) (w : List UInt8) : Bool := if k = 1 then numB w else if k = 2 then nameB w else pairsB w
def checks : List Nat → List (List UInt8) → Bool
  | k :: ks, w :: ws => checkW k w && checks ks ws
  | _, _ => true
/-- A request's words, and its error. -/
def parseL (s : List UInt8) : List (List UInt8) × Int :=
  if 13000 < s.length then ([], 4)
  else if hasPrefix s [97, 100, 100, 32] then ([[97, 100, 100], s.drop 4], 0)
  else match pieces 32 s with
    | [] => ([], 2)
    | w :: ws => if (kindsL w).2 && decide (ws.length = (kindsL w).1.length) then (if checks (kindsL w).1 ws then (w :: ws, 0) else ([], 2)) else ([], 2)
theorem ite_P {α : Type} {P : α → Prop} {c : Prop} [Decidable c] {a b : α} (ha : P a) (hb : P b) : P (if c then a else b) := by split <;> assumption
theorem kindsL_mem (s : List UInt8) : ∀ k ∈ (kindsL s).1, k = 1 ∨ k = 2 ∨ k = 3 := by
  unfold kindsL
  repeat' (refine ite_P (P := fun r : List Nat × Bool => ∀ k ∈ r.1, k = 1 ∨ k = 2 ∨ k = 3) ?_ ?_)
  all_goals simp
theorem kindsL_len (s : List UInt8) : (kindsL s).1.length ≤ 4 := by
  unfold kindsL
  repeat' split
  all_goals decide

theorem e10 (s p : List UInt8) : ret1 E 10 [.p (.str s), .p (.str p)] = some (.tup [.p (.str (trimPrefix s p)), .p (.bool (hasPrefix s p))]) := by
  rw [ret1_prim (f := 10) rfl]; rfl

theorem e5_loop (w0 : List UInt8) (ws : List (List UInt8)) (ks : List Nat) (hk : ∀ k ∈ ks, k = 1 ∨ k = 2 ∨ k = 3) (hl : ws.length = ks.length) (h4 : ks.length ≤ 4) (hp : ∀ w ∈ ws, w.length ≤ 2 ^ 20) :
    ∀ (m i : Nat), ws.length - i ≤ m → i ≤ ws.length →
    outR [Res.v 1, Res.v 2] (thenC (blkC 0 (clean 0 [5]) (iter (evC E f5_l0) (clean 0 [5, 6, 13, 14, 15])
      ⟨[.undef, .undef, .undef, .undef, .undef, .p (.slice 1 ((w0 :: ws).map PV.str)), .p (.str (ks.map kindLetter)), .undef, .undef, .undef, .undef, .undef, .undef, .p (.slice 1 (ws.map PV.str)), .p (.int .i64 ws.length), .p (.int .i64 i), .undef, .undef, .undef, .undef, .undef], [], []⟩)) (evC E f5_k1)) =
    some (if checks (ks.drop i) (ws.drop i) then .tup [.p (.slice 1 ((w0 :: ws).map PV.str)), .p (.int .i64 0)] else .tup [.p (.slice 1 []), .p (.int .i64 2)]) := by
  intro m
  induction m with
  | zero =>
    intro i hm h1
    have hi : i = ws.length := by omega
    subst hi
    rw [iter_round, List.drop_length, hl, List.drop_length]
    simp only [f5_l0_ev, f5_b0, f5_k1, Nat.reduceAdd, Nat.reduceBEq, go_sem, Int.lt_irrefl, checks]
  | succ m ih =>
    intro i hm h1
    by_cases hlt : i < ws.length
    · have hlt' : ((i : Int) < (ws.length : Int)) := by omega
      have hg : (ws.map PV.str)[i]? = some (.str ws[i]) := by simp [hlt]
      have hkl : i < ks.length := by omega
      have hgk : (ks.map kindLetter)[i]? = some (kindLetter ks[i]) := by simp [hkl]
      have hd : ws.drop i = ws[i] :: ws.drop (i + 1) := List.drop_eq_getElem_cons hlt
      have hdk : ks.drop i = ks[i] :: ks.drop (i + 1) := List.drop_eq_getElem_cons hkl
      have hw2 : IntKind.i64.wrap ((i : Int) + 1) = ((i + 1 : Nat) : Int) := by rw [wrap64] <;> omega
      have hlen := hp ws[i] (List.getElem_mem hlt)
      have hs := ih (i + 1) (by omega) (by omega)
      rw [iter_round, hd, hdk]
      simp only [checks, checkW]
      rcases hk ks[i] (List.getElem_mem hkl) with e | e | e
      · obtain ⟨v, hv⟩ := e13 ws[i] (by omega)
        have ek : ((kindLetter 1).toNat : Int) = 105 := by decide
        rw [e] at hgk ⊢
        rcases Bool.eq_false_or_eq_true (numB ws[i]) with c | c
        · simp (config := {decide := true}) only [f5_l0_ev, f5_b0, Nat.reduceAdd, Nat.reduceBEq, go_sem, hlt', hg, hgk, ek, hv, c, hw2]
          exact hs
        · simp (config := {decide := true}) only [f5_l0_ev, f5_b0, Nat.reduceAdd, Nat.reduceBEq, go_sem, hlt', hg, hgk, ek, hv, c]
      · have hv := e14 ws[i] (by omega)
        have ek : ((kindLetter 2).toNat : Int) = 110 := by decide
        rw [e] at hgk ⊢
        rcases Bool.eq_false_or_eq_true (nameB ws[i]) with c | c
        · simp (config := {decide := true}) only [f5_l0_ev, f5_b0, Nat.reduceAdd, Nat.reduceBEq, go_sem, hlt', hg, hgk, ek, hv, c, hw2]
          exact hs
        · simp (config := {decide := true}) only [f5_l0_ev, f5_b0, Nat.reduceAdd, Nat.reduceBEq, go_sem, hlt', hg, hgk, ek, hv, c]
      · obtain ⟨v, hv⟩ := e15 ws[i] (by omega)
        have ek : ((kindLetter 3).toNat : Int) = 112 := by decide
        rw [e] at hgk ⊢
        rcases Bool.eq_false_or_eq_true (pairsB ws[i]) with c | c
        · simp (config := {decide := true}) only [f5_l0_ev, f5_b0, Nat.reduceAdd, Nat.reduceBEq, go_sem, hlt', hg, hgk, ek, hv, c, hw2]
          exact hs
        · simp (config := {decide := true}) only [f5_l0_ev, f5_b0, Nat.reduceAdd, Nat.reduceBEq, go_sem, hlt', hg, hgk, ek, hv, c]
    · have hi : i = ws.length := by omega
      subst hi
      rw [iter_round, List.drop_length, hl, List.drop_length]
      simp only [f5_l0_ev, f5_b0, f5_k1, Nat.reduceAdd, Nat.reduceBEq, go_sem, Int.lt_irrefl, checks]
theorem e5 (s : List UInt8) : ret1 E 5 [.p (.str s)] = some (.tup [.p (.slice 1 ((parseL s).1.map PV.str)), .p (.int .i64 (parseL s).2)]) := by
  rw [ret1_fun (F := f5) rfl rfl rfl]
  unfold parseL
  by_cases h : 13000 < s.length
  · have h' : (13000 : Int) < (s.length : Int) := by omega
    simp only [f5, List.replicate, Nat.reduceSub, Nat.reduceAdd, go_sem, h, h']
  · have h' : ¬ (13000 : Int) < (s.length : Int) := by omega
    have hs : s.length ≤ 2 ^ 20 := by omega
    rw [if_neg h]
    cases ha : hasPrefix s [97, 100, 100, 32] with
    | true =>
      have ht : trimPrefix s [97, 100, 100, 32] = s.drop 4 := by unfold trimPrefix; rw [ha]; rfl
      simp only [f5, List.replicate, Nat.reduceSub, Nat.reduceAdd, go_sem, h', e10, ha, ht]
    | false =>
      have hl := pieces_len 32 s
      cases e : pieces 32 s with
      | nil => exact absurd e (pieces_ne 32 s)
      | cons w ws =>
        have hm := pieces_mem 32 s
        have q11 := e11 (c := 32) hs
        rw [e] at hl hm q11
        simp only [List.map_cons] at q11
        have hb : boundOk 1 (((ws.map PV.str).length + 1 : Nat) : Int) (((ws.map PV.str).length + 1 : Nat) : Int) = true := boundOk_true (by omega)
        simp only [List.length_map] at hb
        have ht : (ws.map PV.str).take (ws.length + 1 - 1) = ws.map PV.str := List.take_of_length_le (by simp)
        have hkl := kindsL_len w
        have hw1 : IntKind.i64.wrap (((kindsL w).1.length : Int) + 1) = (((kindsL w).1.length + 1 : Nat) : Int) := by rw [wrap64] <;> omega
        have t1 : ((((ws.length + 1 : Nat) : Int)).toNat - Int.toNat 1) = ws.length + 1 - 1 := by omega
        cases hk : (kindsL w).2 with
        | false => simp (config := {decide := true}) only [f5, List.replicate, Nat.reduceSub, Nat.reduceAdd, Int.reduceToNat, go_sem, h', e10, ha, q11, e12, hk]
        | true =>
          by_cases hn : ws.length = (kindsL w).1.length
          · have hn1 : decide ((((ws.length + 1 : Nat) : Int)) = (((kindsL w).1.length + 1 : Nat) : Int)) = true := decide_eq_true (by omega)
            have loop := e5_loop w ws (kindsL w).1 (kindsL_mem w) hn hkl (fun x hx => Nat.le_trans (hm x (by simp [hx])) hs) ws.length 0 (by omega) (by omega)
            simp only [List.drop_zero, List.map_cons] at loop
            have hR : ((kindsL w).2 && decide (ws.length = (kindsL w).1.length)) = true := by rw [hk]; simp [hn]
            simp only [hR, if_true, Bool.false_eq_true, if_false]
            simp (config := {decide := true}) only [f5, List.replicate, Nat.reduceSub, Nat.reduceAdd, Nat.reduceBEq, Int.reduceToNat, go_sem, h', e10, ha, q11, e12, hk, hb, ht, hw1, hn1, List.drop_succ_cons, List.drop_zero]
            refine loop.trans ?_
            split <;> rfl
          · have hn1 : decide ((((ws.length + 1 : Nat) : Int)) = (((kindsL w).1.length + 1 : Nat) : Int)) = false := decide_eq_false (by omega)
            simp (config := {decide := true}) only [f5, List.replicate, Nat.reduceSub, Nat.reduceAdd, Int.reduceToNat, go_sem, h', e10, ha, q11, e12, hk, hw1, hn1, hn]
end Go.Abs.A

namespace Go.Abs.A
open Go.Lib

theorem hasPrefix_take (s p : List UInt8) : hasPrefix s p = decide (s.take p.length = p) := by
  unfold hasPrefix
  rw [Bool.eq_iff_iff, List.isPrefixOf_iff_prefix, decide_eq_true_eq, List.prefix_iff_eq_take]
  exact ⟨fun h => h.symm, fun h => h.symm⟩

theorem e6_loop (w0 : List UInt8) (ws : List (List UInt8)) (ks : List Nat) (hk : ∀ k ∈ ks, k = 1 ∨ k = 2 ∨ k = 3) (hl : ws.length = ks.length) (h4 : ks.length ≤ 4) (hp : ∀ w ∈ ws, w.length ≤ 2 ^ 20) :
    ∀ (m i : Nat), ws.length - i ≤ m → i ≤ ws.length →
    outR [Res.v 1, Res.v 2] (thenC (blkC 0 (clean 0 [3]) (iter (evC E f6_l0) (clean 0 [3, 4, 5, 10, 11])
      ⟨[.undef, .undef, .undef, .own true 1 ((w0 :: ws).map PV.str), .p (.slice 1 (ks.map fun (n : Nat) => PV.int .i64 (n : Int))), .p (.bool true), .undef, .undef, .undef, .undef, .p (.int .i64 ks.length), .p (.int .i64 i), .undef, .undef, .undef, .undef, .undef, .undef], [], []⟩)) (evC E f6_k1)) =
    some (if checks (ks.drop i) (ws.drop i) then .tup [.p (.slice 1 ((w0 :: ws).map PV.str)), .p (.int .i64 0)] else .tup [.p (.slice 1 []), .p (.int .i64 2)]) := by
  intro m
  induction m with
  | zero =>
    intro i hm h1
    have hi : i = ks.length := by omega
    subst hi
    rw [iter_round, List.drop_length]
    simp only [f6_l0_ev, f6_b0, f6_k1, Nat.reduceAdd, Nat.reduceBEq, reduceCtorEq, go_sem, Int.lt_irrefl, checks]
  | succ m ih =>
    intro i hm h1
    by_cases hlt : i < ws.length
    · have hkl : i < ks.length := by omega
      have hlt' : ((i : Int) < (ks.length : Int)) := by omega
      have hg : (ws.map PV.str)[i]? = some (.str ws[i]) := by simp [hlt]
      have hgk : (ks.map fun (n : Nat) => PV.int .i64 (n : Int))[i]? = some (.int .i64 (ks[i] : Int)) := by simp [hkl]
      have hd : ws.drop i = ws[i] :: ws.drop (i + 1) := List.drop_eq_getElem_cons hlt
      have hdk : ks.drop i = ks[i] :: ks.drop (i + 1) := List.drop_eq_getElem_cons hkl
      have hw2 : IntKind.i64.wrap ((i : Int) + 1) = ((i + 1 : Nat) : Int) := by rw [wrap64] <;> omega
      have hlen := hp ws[i] (List.getElem_mem hlt)
      have hs := ih (i + 1) (by omega) (by omega)
      simp only [List.map_cons] at hs ⊢
      rw [iter_round, hd, hdk]
      simp only [checks, checkW]
      rcases hk ks[i] (List.getElem_mem hkl) with e | e | e
      · obtain ⟨v, hv⟩ := e18 ws[i]
        have ek : ((1 : Nat) : Int) = 1 := rfl
        rw [e] at hgk ⊢
        rw [ek] at hgk
        rcases Bool.eq_false_or_eq_true (numB ws[i]) with c | c
        · simp (config := {decide := true}) only [f6_l0_ev, f6_b0, Nat.reduceAdd, Nat.reduceBEq, go_sem, hlt', hg, hgk, hv, c, hw2]
          exact hs
        · simp (config := {decide := true}) only [f6_l0_ev, f6_b0, Nat.reduceAdd, Nat.reduceBEq, go_sem, hlt', hg, hgk, hv, c, hw2]
      · have hv := e19 ws[i] (by omega)
        have ek : ((2 : Nat) : Int) = 2 := rfl
        rw [e] at hgk ⊢
        rw [ek] at hgk
        rcases Bool.eq_false_or_eq_true (nameB ws[i]) with c | c
        · simp (config := {decide := true}) only [f6_l0_ev, f6_b0, Nat.reduceAdd, Nat.reduceBEq, go_sem, hlt', hg, hgk, hv, c, hw2]
          exact hs
        · simp (config := {decide := true}) only [f6_l0_ev, f6_b0, Nat.reduceAdd, Nat.reduceBEq, go_sem, hlt', hg, hgk, hv, c, hw2]
      · obtain ⟨v, hv⟩ := e20 ws[i] (by omega)
        have ek : ((3 : Nat) : Int) = 3 := rfl
        rw [e] at hgk ⊢
        rw [ek] at hgk
        rcases Bool.eq_false_or_eq_true (pairsB ws[i]) with c | c
        · simp (config := {decide := true}) only [f6_l0_ev, f6_b0, Nat.reduceAdd, Nat.reduceBEq, go_sem, hlt', hg, hgk, hv, c, hw2]
          exact hs
        · simp (config := {decide := true}) only [f6_l0_ev, f6_b0, Nat.reduceAdd, Nat.reduceBEq, go_sem, hlt', hg, hgk, hv, c, hw2]
    · have hi : i = ks.length := by omega
      subst hi
      rw [iter_round, List.drop_length]
      simp only [f6_l0_ev, f6_b0, f6_k1, Nat.reduceAdd, Nat.reduceBEq, reduceCtorEq, go_sem, Int.lt_irrefl, checks]
theorem e6 (s : List UInt8) : ret1 E 6 [.p (.str s)] = some (.tup [.p (.slice 1 ((parseL s).1.map PV.str)), .p (.int .i64 (parseL s).2)]) := by
  rw [ret1_fun (F := f6) rfl rfl rfl]
  unfold parseL
  by_cases h : 13000 < s.length
  · have h' : (13000 : Int) < (s.length : Int) := by omega
    simp only [f6, List.replicate, Nat.reduceSub, Nat.reduceAdd, go_sem, h, h']
  · have h' : ¬ (13000 : Int) < (s.length : Int) := by omega
    have hs : s.length ≤ 2 ^ 20 := by omega
    rw [if_neg h]
    have hpre : hasPrefix s [97, 100, 100, 32] = decide (s.take 4 = [97, 100, 100, 32]) := hasPrefix_take s _
    cases ha : hasPrefix s [97, 100, 100, 32] with
    | true =>
      have h4 : 4 ≤ s.length := by
        rw [ha] at hpre
        have := of_decide_eq_true hpre.symm
        have := congrArg List.length this
        simp at this
        omega
      have h4' : (4 : Int) ≤ (s.length : Int) := by omega
      have hb1 : boundOk 0 4 (s.length : Int) = true := boundOk_true (by omega)
      have hb2 : boundOk 4 (s.length : Int) (s.length : Int) = true := boundOk_true (by omega)
      have hd : decide (s.take 4 = [97, 100, 100, 32]) = true := by rw [← hpre]; exact ha
      have ht : (s.drop 4).take (s.length - 4) = s.drop 4 := List.take_of_length_le (by simp)
      simp only [f6, List.replicate, Nat.reduceSub, Nat.reduceAdd, Int.reduceToNat, go_sem, h', h4', hb1, hb2, hd, ht, List.drop_zero]
    | false =>
      have hl := pieces_len 32 s
      have hd : decide (s.take 4 = [97, 100, 100, 32]) = false := by rw [← hpre]; exact ha
      cases e : pieces 32 s with
      | nil => exact absurd e (pieces_ne 32 s)
      | cons w ws =>
        have hm := pieces_mem 32 s
        have q16 := e16 s 32 hs
        rw [show (((32 : UInt8).toNat : Nat) : Int) = 32 by decide, e] at q16
        rw [e] at hl hm
        simp only [List.map_cons] at q16
        have hkl := kindsL_len w
        have hw1 : IntKind.i64.wrap (((kindsL w).1.length : Int) + 1) = (((kindsL w).1.length + 1 : Nat) : Int) := by rw [wrap64] <;> omega
        have step : ∀ (h4 : (4 : Int) ≤ (s.length : Int) ∧ boundOk 0 4 (s.length : Int) = true ∨ ¬ (4 : Int) ≤ (s.length : Int)),
            outR f6.res (evC E f6.body ⟨[.p (.str s)] ++ List.replicate (f6.nv - f6.np) .undef, [], []⟩) = some (if (kindsL w).2 && decide (ws.length = (kindsL w).1.length) then (if checks (kindsL w).1 ws then .tup [.p (.slice 1 ((w :: ws).map PV.str)), .p (.int .i64 0)] else .tup [.p (.slice 1 []), .p (.int .i64 2)]) else .tup [.p (.slice 1 []), .p (.int .i64 2)]) := by
          intro h4
          cases hk : (kindsL w).2 with
          | false =>
            rcases h4 with ⟨a, b⟩ | a
            · simp (config := {decide := true}) only [f6, List.replicate, Nat.reduceSub, Nat.reduceAdd, Int.reduceToNat, go_sem, h', a, b, hd, List.drop_zero, q16, e17, hk]
            · simp (config := {decide := true}) only [f6, List.replicate, Nat.reduceSub, Nat.reduceAdd, Int.reduceToNat, go_sem, h', a, q16, e17, hk]
          | true =>
            by_cases hn : ws.length = (kindsL w).1.length
            · have hn1 : decide ((((ws.length + 1 : Nat) : Int)) = (((kindsL w).1.length + 1 : Nat) : Int)) = true := decide_eq_true (by omega)
              have loop := e6_loop w ws (kindsL w).1 (kindsL_mem w) hn hkl (fun x hx => Nat.le_trans (hm x (by simp [hx])) hs) ws.length 0 (by omega) (by omega)
              simp only [List.drop_zero, List.map_cons] at loop
              have hR : (true && decide (ws.length = (kindsL w).1.length)) = true := by simp [hn]
              rw [if_pos hR]
              rcases h4 with ⟨a, b⟩ | a
              · simp (config := {decide := true}) only [f6, List.replicate, Nat.reduceSub, Nat.reduceAdd, Nat.reduceBEq, Int.reduceToNat, go_sem, h', a, b, hd, List.drop_zero, q16, e17, hk, hw1, hn1]
                exact loop
              · simp (config := {decide := true}) only [f6, List.replicate, Nat.reduceSub, Nat.reduceAdd, Nat.reduceBEq, Int.reduceToNat, go_sem, h', a, q16, e17, hk, hw1, hn1]
                exact loop
            · have hn1 : decide ((((ws.length + 1 : Nat) : Int)) = (((kindsL w).1.length + 1 : Nat) : Int)) = false := decide_eq_false (by omega)
              rcases h4 with ⟨a, b⟩ | a
              · simp (config := {decide := true}) only [f6, List.replicate, Nat.reduceSub, Nat.reduceAdd, Int.reduceToNat, go_sem, h', a, b, hd, List.drop_zero, q16, e17, hk, hw1, hn1, hn]
              · simp (config := {decide := true}) only [f6, List.replicate, Nat.reduceSub, Nat.reduceAdd, Int.reduceToNat, go_sem, h', a, q16, e17, hk, hw1, hn1, hn]
        rw [step (by
          by_cases h4 : (4 : Int) ≤ (s.length : Int)
          · exact .inl ⟨h4, boundOk_true (by omega)⟩
          · exact .inr h4)]
        simp only [Bool.false_eq_true, if_false]
        split
        · split <;> rfl
        · rfl

/-! ## The law -/
theorem doCall_nil' {s q f} : doCall E s q f [] = callR s q f [] E (ret1 E f []) := doCall_ret rfl
theorem e4 : ret1 E 4 [] = some (.p (.bool true)) := by
  rw [ret1_fun (F := f4) rfl rfl rfl]
  simp (config := {decide := true}) only [f4, List.replicate, Nat.reduceSub, Nat.reduceAdd, go_sem, e8]
theorem parseL_len (s : List UInt8) : (parseL s).1.length ≤ 2 ^ 40 := by
  unfold parseL
  have hl := pieces_len 32 s
  split
  · simp
  · split
    · simp
    · split
      · simp
      · rename_i w ws e
        rw [e] at hl
        split
        · split
          · simp at hl ⊢; omega
          · simp
        · simp
/-- AdminParses holds at every line and error. -/
theorem adminParses_true (s : List UInt8) (e : Int) : ret1 E 3 [.p (.str s), .p (.int .i64 e)] = some (.p (.bool true)) := by
  rw [ret1_fun (F := f3) rfl rfl rfl]
  by_cases h : (20000 : Int) < (s.length : Int)
  · simp (config := {decide := true}) only [f3, List.replicate, Nat.reduceSub, Nat.reduceAdd, go_sem, doCall_nil', e4, h]
  · simp (config := {decide := true}) only [f3, List.replicate, Nat.reduceSub, Nat.reduceAdd, go_sem, doCall_nil', e4, h, e5, e6, e7 _ _ (parseL_len s), e8, e9]
end Go.Abs.A
