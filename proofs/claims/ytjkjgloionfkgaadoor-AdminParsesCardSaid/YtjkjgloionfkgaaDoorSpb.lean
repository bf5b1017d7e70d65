/- Errors' words. Pieces. -/
import Derived.Test.YtjkjgloionfkgaaDoorSpa

namespace Go.Abs.A
def wordL (e : Int) : List UInt8 := if e < 0 then [] else match e.toNat with
  | 0 => []
  | 1 => [97, 114, 103]
  | 2 => [102, 111, 114, 109]
  | 3 => [114, 97, 110, 103, 101]
  | 4 => [108, 111, 110, 103]
  | 5 => [110, 111, 110, 101]
  | 6 => [101, 120, 105, 115, 116, 115]
  | 7 => [102, 117, 108, 108]
  | 8 => [108, 111, 115, 116]
  | 9 => [98, 97, 100]
  | 10 => [115, 116, 97, 116, 101]
  | 11 => [119, 111, 114, 100]
  | 12 => [115, 121, 110, 116, 97, 120]
  | 13 => [100, 101, 101, 112]
  | 14 => [110, 97, 109, 101]
  | 15 => [116, 97, 114, 103, 101, 116]
  | 16 => [108, 101, 97, 102]
  | 17 => [98, 97, 99, 107]
  | 18 => [109, 97, 112]
  | _ => []
theorem wordL_big {e : Int} (h : 19 ≤ e) : wordL e = [] := by
  unfold wordL
  rw [if_neg (by omega)]
  split
  all_goals first | rfl | omega
theorem wordL_neg {e : Int} (h : e < 0) : wordL e = [] := by
  unfold wordL
  rw [if_pos h]
theorem cases19 (e : Int) : e < 0 ∨ 19 ≤ e ∨ e = 0 ∨ e = 1 ∨ e = 2 ∨ e = 3 ∨ e = 4 ∨ e = 5 ∨ e = 6 ∨ e = 7 ∨ e = 8 ∨ e = 9 ∨ e = 10 ∨ e = 11 ∨ e = 12 ∨ e = 13 ∨ e = 14 ∨ e = 15 ∨ e = 16 ∨ e = 17 ∨ e = 18 := by omega
set_option maxHeartbeats 1000000 in
theorem e8 (e : Int) : ret1 E 8 [.p (.int .i64 e)] = some (.p (.str (wordL e))) := by
  rw [ret1_fun (F := f8) rfl rfl rfl]
  rcases cases19 e with h | h | rfl | rfl | rfl | rfl | rfl | rfl | rfl | rfl | rfl | rfl | rfl | rfl | rfl | rfl | rfl | rfl | rfl | rfl | rfl
  · have h2 : ¬ (19 : Int) ≤ e := by omega
    rw [wordL_neg h]
    simp only [f8, List.replicate, Nat.reduceSub, Nat.reduceAdd, go_sem, h]
  · have h2 : ¬ e < 0 := by omega
    rw [wordL_big h]
    simp only [f8, List.replicate, Nat.reduceSub, Nat.reduceAdd, reduceCtorEq, go_sem, h2]
    simp [h]
  all_goals
    simp (config := {decide := true}) only [f8, List.replicate, Nat.reduceSub, Nat.reduceAdd, Int.reduceToNat, go_sem]
    rfl
set_option maxHeartbeats 1000000 in
theorem e9 (e : Int) : ret1 E 9 [.p (.int .i64 e)] = some (.p (.str (wordL e))) := by
  rw [ret1_fun (F := f9) rfl rfl rfl]
  rcases cases19 e with h | h | rfl | rfl | rfl | rfl | rfl | rfl | rfl | rfl | rfl | rfl | rfl | rfl | rfl | rfl | rfl | rfl | rfl | rfl | rfl
  · rw [wordL_neg h]
    have a1 : ¬ e = 1 := by omega
    have a2 : ¬ e = 2 := by omega
    have a3 : ¬ e = 3 := by omega
    have a4 : ¬ e = 4 := by omega
    have a5 : ¬ e = 5 := by omega
    have a6 : ¬ e = 6 := by omega
    have a7 : ¬ e = 7 := by omega
    have a8 : ¬ e = 8 := by omega
    have a9 : ¬ e = 9 := by omega
    have a10 : ¬ e = 10 := by omega
    have a11 : ¬ e = 11 := by omega
    have a12 : ¬ e = 12 := by omega
    have a13 : ¬ e = 13 := by omega
    have a14 : ¬ e = 14 := by omega
    have a15 : ¬ e = 15 := by omega
    have a16 : ¬ e = 16 := by omega
    have a17 : ¬ e = 17 := by omega
    have a18 : ¬ e = 18 := by omega
    simp only [f9, List.replicate, Nat.reduceSub, Nat.reduceAdd, go_sem, a1, a2, a3, a4, a5, a6, a7, a8, a9, a10, a11, a12, a13, a14, a15, a16, a17, a18]
  · rw [wordL_big h]
    have a1 : ¬ e = 1 := by omega
    have a2 : ¬ e = 2 := by omega
    have a3 : ¬ e = 3 := by omega
    have a4 : ¬ e = 4 := by omega
    have a5 : ¬ e = 5 := by omega
    have a6 : ¬ e = 6 := by omega
    have a7 : ¬ e = 7 := by omega
    have a8 : ¬ e = 8 := by omega
    have a9 : ¬ e = 9 := by omega
    have a10 : ¬ e = 10 := by omega
    have a11 : ¬ e = 11 := by omega
    have a12 : ¬ e = 12 := by omega
    have a13 : ¬ e = 13 := by omega
    have a14 : ¬ e = 14 := by omega
    have a15 : ¬ e = 15 := by omega
    have a16 : ¬ e = 16 := by omega
    have a17 : ¬ e = 17 := by omega
    have a18 : ¬ e = 18 := by omega
    simp only [f9, List.replicate, Nat.reduceSub, Nat.reduceAdd, go_sem, a1, a2, a3, a4, a5, a6, a7, a8, a9, a10, a11, a12, a13, a14, a15, a16, a17, a18]
  all_goals
    simp (config := {decide := true}) only [f9, List.replicate, Nat.reduceSub, Nat.reduceAdd, go_sem]
    rfl
end Go.Abs.A

namespace Go.Abs.A

def addHead (p : List UInt8) : List (List UInt8) → List (List UInt8)
  | [] => []
  | x :: r => (p ++ x) :: r
theorem pieces_hit (c : UInt8) (r : List UInt8) : pieces c (c :: r) = [] :: pieces c r := by simp [pieces]
theorem pieces_miss {c b : UInt8} (h : b ≠ c) (r : List UInt8) : pieces c (b :: r) = addHead [b] (pieces c r) := by
  simp only [pieces, h, if_false]
  split
  · rename_i e; exact absurd e (pieces_ne c r)
  · rename_i p ps e; rw [e]; rfl
theorem addHead_add (p q : List UInt8) (l : List (List UInt8)) : addHead p (addHead q l) = addHead (p ++ q) l := by
  cases l <;> simp [addHead]
theorem addHead_nil (l : List (List UInt8)) : addHead [] l = l := by cases l <;> simp [addHead]

theorem e16_loop (s : List UInt8) (c : UInt8) (hs : s.length ≤ 2 ^ 20) : ∀ (m i fr : Nat) (xs : List (List UInt8)), s.length - i ≤ m → i ≤ s.length → fr ≤ i → xs.length ≤ i →
    outR [Res.v 2] (thenC (blkC 0 (clean 0 [0, 3, 4]) (iter (evC E f16_l0) (clean 0 [0, 1, 3, 4, 5])
      ⟨[.p (.str s), .p (.int .u8 c.toNat), .undef, .own true 1 (xs.map PV.str), .p (.int .i64 fr), .p (.int .i64 i), .undef, .undef], [], []⟩)) (evC E f16_k1)) =
    some (.own true 1 ((xs ++ addHead ((s.drop fr).take (i - fr)) (pieces c (s.drop i))).map PV.str)) := by
  intro m
  induction m with
  | zero =>
    intro i fr xs hm h1 h2 h3
    have hi : i = s.length := by omega
    subst hi
    have hb : boundOk (fr : Int) (s.length : Int) (s.length : Int) = true := boundOk_true (by omega)
    have hx : (xs.length + (0 + 1)) * 16 ≤ 2 ^ 46 := by omega
    rw [iter_round]
    simp only [f16_l0_ev, f16_b0, f16_k1, Nat.reduceAdd, Nat.reduceBEq, reduceCtorEq, go_sem, Int.lt_irrefl, hb, hx, List.drop_length, pieces, addHead, List.map_append]
  | succ m ih =>
    intro i fr xs hm h1 h2 h3
    by_cases hlt : i < s.length
    · have hlt' : ((i : Int) < (s.length : Int)) := by omega
      have hg : s[i]? = some s[i] := List.getElem?_eq_getElem hlt
      have h0 : (0 : Int) ≤ i := by omega
      have hd : s.drop i = s[i] :: s.drop (i + 1) := List.drop_eq_getElem_cons hlt
      have hw : IntKind.i64.wrap ((i : Int) + 1) = ((i + 1 : Nat) : Int) := by rw [wrap64] <;> omega
      have hx : (xs.length + (0 + 1)) * 16 ≤ 2 ^ 46 := by omega
      have hb : boundOk (fr : Int) (i : Int) (s.length : Int) = true := boundOk_true (by omega)
      rw [iter_round]
      by_cases hc : s[i] = c
      · have hc' : ((s[i].toNat : Int) = (c.toNat : Int)) := by rw [hc]
        simp only [f16_l0_ev, f16_b0, Nat.reduceAdd, Nat.reduceBEq, reduceCtorEq, go_sem, hlt', h0, hg, hc', hb, hx, hw]
        have e : List.map PV.str xs ++ [PV.str ((s.drop fr).take (i - fr))] = (xs ++ [(s.drop fr).take (i - fr)]).map PV.str := by simp
        rw [e, ih (i + 1) (i + 1) _ (by omega) (by omega) (by omega) (by simp; omega), hd, hc, pieces_hit]
        simp [addHead]
        cases pieces c (s.drop (i + 1)) <;> rfl
      · have hc' : ¬ ((s[i].toNat : Int) = (c.toNat : Int)) := fun e => hc (UInt8.toNat_inj.1 (by omega))
        simp only [f16_l0_ev, f16_b0, Nat.reduceAdd, Nat.reduceBEq, reduceCtorEq, go_sem, hlt', h0, hg, hc', hw]
        rw [ih (i + 1) fr xs (by omega) (by omega) (by omega) (by omega), hd, pieces_miss hc, addHead_add]
        congr 5
        rw [show i + 1 - fr = (i - fr) + 1 by omega, List.take_succ_eq_append_getElem (by simp; omega)]
        congr 2
        rw [List.getElem_drop]
        congr 1
        omega
    · have hi : i = s.length := by omega
      subst hi
      have hb : boundOk (fr : Int) (s.length : Int) (s.length : Int) = true := boundOk_true (by omega)
      have hx : (xs.length + (0 + 1)) * 16 ≤ 2 ^ 46 := by omega
      rw [iter_round]
      simp only [f16_l0_ev, f16_b0, f16_k1, Nat.reduceAdd, Nat.reduceBEq, reduceCtorEq, go_sem, Int.lt_irrefl, hb, hx, List.drop_length, pieces, addHead, List.map_append]
theorem e16 (s : List UInt8) (c : UInt8) (hs : s.length ≤ 2 ^ 20) : ret1 E 16 [.p (.str s), .p (.int .u8 c.toNat)] = some (.own true 1 ((pieces c s).map PV.str)) := by
  rw [ret1_fun (F := f16) rfl rfl rfl]
  simp only [f16, List.replicate, Nat.reduceSub, Nat.reduceAdd, Nat.reduceBEq, go_sem]
  have := e16_loop s c hs s.length 0 0 [] (by omega) (by omega) (by omega) (by simp)
  simp only [List.drop_zero, Nat.sub_zero, List.take_zero, addHead_nil, List.nil_append, List.map_nil] at this
  exact this
end Go.Abs.A
