/- Mappings. -/
import Derived.Test.YtjkjgloionfkgaaDoorSpc
import Derived.Test.YtjkjgloionfkgaaDoorPla

namespace Go.Abs.A
open Go.Lib

theorem e11 {s : List UInt8} {c : UInt8} (hs : s.length ≤ 2 ^ 20) : ret1 E 11 [.p (.str s), .p (.str [c])] = some (.p (.slice 1 ((pieces c s).map PV.str))) := by
  have h : s.length < 4294967281 := by omega
  rw [ret1_prim (f := 11) rfl]
  simp only [h, if_true]
  rfl
theorem e27 {s p : List UInt8} (hs : s.length ≤ 2 ^ 20) : ret1 E 27 [.p (.str s), .p (.str p)] = some (.tup [.p (.str (cut s p).1), .p (.str (cut s p).2.1), .p (.bool (cut s p).2.2)]) := by
  have h : s.length < 4294967281 := by omega
  rw [ret1_prim (f := 27) rfl]
  simp only [h, if_true]
  rfl
theorem cut_len (s : List UInt8) (p : List UInt8) : (cut s p).1.length ≤ s.length ∧ (cut s p).2.1.length ≤ s.length := by
  unfold cut
  split
  · simp; omega
  · simp

theorem e15_loop (ws : List (List UInt8)) (hw : ws.length ≤ 2 ^ 21) (hp : ∀ w ∈ ws, w.length ≤ 2 ^ 20) : ∀ (m i : Nat) (xs : List PV), ws.length - i ≤ m → i ≤ ws.length → xs.length ≤ i →
    ∃ ys, outR [Res.v 1, Res.v 2] (thenC (blkC 0 (clean 0 [3]) (iter (evC E f15_l0) (clean 0 [3, 9, 10, 11])
      ⟨[.undef, .undef, .undef, .own true 2 xs, .undef, .undef, .undef, .undef, .undef, .p (.slice 1 (ws.map PV.str)), .p (.int .i64 ws.length), .p (.int .i64 i), .undef, .undef], [], []⟩)) (evC E f15_k1)) =
    some (.tup [.p (.slice 2 ys), .p (.bool ((ws.drop i).all pairOk))]) := by
  intro m
  induction m with
  | zero =>
    intro i xs hm h1 h2
    have hi : i = ws.length := by omega
    subst hi
    refine ⟨xs, ?_⟩
    rw [iter_round]
    simp only [f15_l0_ev, f15_b0, f15_k1, Nat.reduceAdd, Nat.reduceBEq, reduceCtorEq, go_sem, Int.lt_irrefl, List.drop_length]
  | succ m ih =>
    intro i xs hm h1 h2
    by_cases hlt : i < ws.length
    · have hlt' : ((i : Int) < (ws.length : Int)) := by omega
      have hg : (ws.map PV.str)[i]? = some (.str ws[i]) := by simp [hlt]
      have hd : ws.drop i = ws[i] :: ws.drop (i + 1) := List.drop_eq_getElem_cons hlt
      have hw2 : IntKind.i64.wrap ((i : Int) + 1) = ((i + 1 : Nat) : Int) := by rw [wrap64] <;> omega
      have hl := hp ws[i] (List.getElem_mem hlt)
      have hc := cut_len ws[i] [62]
      have hx : (xs.length + (0 + 1)) * 32 ≤ 2 ^ 46 := by omega
      have n1 := e14 (cut ws[i] [62]).1 (by omega)
      have n2 := e14 (cut ws[i] [62]).2.1 (by omega)
      rw [iter_round, hd, List.all_cons]
      cases hk : pairOk ws[i] with
      | true =>
        have hk2 := hk
        unfold pairOk at hk2
        simp only [Bool.and_eq_true] at hk2
        obtain ⟨k1, k2, k3⟩ := hk2
        obtain ⟨ys, hy⟩ := ih (i + 1) (xs ++ [.agg [.str (cut ws[i] [62]).1, .str (cut ws[i] [62]).2.1]]) (by omega) (by omega) (by simp; omega)
        refine ⟨ys, ?_⟩
        simp only [f15_l0_ev, f15_b0, Nat.reduceAdd, Nat.reduceBEq, reduceCtorEq, go_sem, hlt', hg, e27 hl, n1, n2, k1, k2, k3, hw2, hx]
        exact hy
      | false =>
        refine ⟨[], ?_⟩
        unfold pairOk at hk
        cases k1 : (cut ws[i] [62]).2.2 with
        | false => simp only [f15_l0_ev, f15_b0, Nat.reduceAdd, go_sem, hlt', hg, e27 hl, k1]
        | true =>
          rw [k1] at hk
          cases k2 : nameB (cut ws[i] [62]).1 with
          | false => simp only [f15_l0_ev, f15_b0, Nat.reduceAdd, go_sem, hlt', hg, e27 hl, n1, k1, k2]
          | true =>
            rw [k2] at hk
            simp only [Bool.true_and] at hk
            simp only [f15_l0_ev, f15_b0, Nat.reduceAdd, go_sem, hlt', hg, e27 hl, n1, n2, k1, k2, hk]
    · have hi : i = ws.length := by omega
      subst hi
      refine ⟨xs, ?_⟩
      rw [iter_round]
      simp only [f15_l0_ev, f15_b0, f15_k1, Nat.reduceAdd, Nat.reduceBEq, reduceCtorEq, go_sem, Int.lt_irrefl, List.drop_length]
theorem e15 (s : List UInt8) (hs : s.length ≤ 2 ^ 20) : ∃ xs, ret1 E 15 [.p (.str s)] = some (.tup [.p (.slice 2 xs), .p (.bool (pairsB s))]) := by
  rw [ret1_fun (F := f15) rfl rfl rfl]
  by_cases h : s = [45]
  · refine ⟨[], ?_⟩
    simp only [f15, List.replicate, Nat.reduceSub, Nat.reduceAdd, go_sem, h]
    rfl
  · have hl := pieces_len 44 s
    obtain ⟨ys, hy⟩ := e15_loop (pieces 44 s) (by omega) (fun w hw => Nat.le_trans (pieces_mem 44 s w hw) hs) (pieces 44 s).length 0 [] (by omega) (by omega) (by simp)
    refine ⟨ys, ?_⟩
    rw [List.drop_zero] at hy
    have hB : pairsB s = (pieces 44 s).all pairOk := by
      unfold pairsB
      simp only [h, decide_false, Bool.false_or]
      congr 1
      funext p
      exact (pairOk_eq p).symm
    rw [hB]
    simp only [f15, List.replicate, Nat.reduceSub, Nat.reduceAdd, Nat.reduceBEq, go_sem, h, e11 hs]
    exact hy

theorem e20_loop (ws : List (List UInt8)) (hw : ws.length ≤ 2 ^ 21) (hp : ∀ w ∈ ws, w.length ≤ 2 ^ 20) : ∀ (m i : Nat) (xs : List PV), ws.length - i ≤ m → i ≤ ws.length → xs.length ≤ i →
    ∃ ys, outR [Res.v 1, Res.v 2] (thenC (blkC 0 (clean 0 [3]) (iter (evC E f20_l0) (clean 0 [3, 4, 8, 9])
      ⟨[.undef, .undef, .undef, .own true 2 xs, .own true 1 (ws.map PV.str), .undef, .undef, .undef, .p (.int .i64 ws.length), .p (.int .i64 i), .undef, .undef], [], []⟩)) (evC E f20_k1)) =
    some (.tup [.p (.slice 2 ys), .p (.bool ((ws.drop i).all pairB))]) := by
  intro m
  induction m with
  | zero =>
    intro i xs hm h1 h2
    have hi : i = ws.length := by omega
    subst hi
    refine ⟨xs, ?_⟩
    rw [iter_round]
    simp only [f20_l0_ev, f20_b0, f20_k1, Nat.reduceAdd, Nat.reduceBEq, reduceCtorEq, go_sem, Int.lt_irrefl, List.drop_length]
  | succ m ih =>
    intro i xs hm h1 h2
    by_cases hlt : i < ws.length
    · have hlt' : ((i : Int) < (ws.length : Int)) := by omega
      have hg : (ws.map PV.str)[i]? = some (.str ws[i]) := by simp [hlt]
      have hd : ws.drop i = ws[i] :: ws.drop (i + 1) := List.drop_eq_getElem_cons hlt
      have hw2 : IntKind.i64.wrap ((i : Int) + 1) = ((i + 1 : Nat) : Int) := by rw [wrap64] <;> omega
      have hl := hp ws[i] (List.getElem_mem hlt)
      have hx : (xs.length + (0 + 1)) * 32 ≤ 2 ^ 46 := by omega
      have hq := e16 ws[i] 62 hl
      have hm2 := pieces_mem 62 ws[i]
      rw [iter_round, hd, List.all_cons]
      have h62 : ((62 : UInt8).toNat : Int) = 62 := by decide
      rw [h62] at hq
      by_cases hn : (pieces 62 ws[i]).length = 2
      · obtain ⟨a, b, hab⟩ : ∃ a b, pieces 62 ws[i] = [a, b] := by
          match e : pieces 62 ws[i], hn with
          | [a, b], _ => exact ⟨a, b, rfl⟩
        rw [hab] at hq hm2
        have n1 := e19 a (by have := hm2 a (by simp); omega)
        have n2 := e19 b (by have := hm2 b (by simp); omega)
        have hB : pairB ws[i] = (nameB a && nameB b) := by unfold pairB; rw [hab]
        rw [hB]
        cases k1 : nameB a with
        | false =>
          refine ⟨[], ?_⟩
          simp (config := {decide := true}) only [f20_l0_ev, f20_b0, Nat.reduceAdd, Int.reduceToNat, go_sem, hlt', hg, hq, n1, k1]
        | true =>
          cases k2 : nameB b with
          | false =>
            refine ⟨[], ?_⟩
            simp (config := {decide := true}) only [f20_l0_ev, f20_b0, Nat.reduceAdd, Int.reduceToNat, go_sem, hlt', hg, hq, n1, n2, k1, k2]
          | true =>
            obtain ⟨ys, hy⟩ := ih (i + 1) (xs ++ [.agg [.str a, .str b]]) (by omega) (by omega) (by simp; omega)
            refine ⟨ys, ?_⟩
            simp (config := {decide := true}) only [f20_l0_ev, f20_b0, Nat.reduceAdd, Nat.reduceBEq, Int.reduceToNat, go_sem, hlt', hg, hq, n1, n2, k1, k2, hw2, hx]
            exact hy
      · have hn' : ¬ (((pieces 62 ws[i]).length : Int) = 2) := by omega
        have hB : pairB ws[i] = false := by
          unfold pairB
          split
          · rename_i a b e; rw [e] at hn; simp at hn
          · rfl
        rw [hB]
        refine ⟨[], ?_⟩
        simp only [f20_l0_ev, f20_b0, Nat.reduceAdd, reduceCtorEq, go_sem, hlt', hg, hq, hn']
    · have hi : i = ws.length := by omega
      subst hi
      refine ⟨xs, ?_⟩
      rw [iter_round]
      simp only [f20_l0_ev, f20_b0, f20_k1, Nat.reduceAdd, Nat.reduceBEq, reduceCtorEq, go_sem, Int.lt_irrefl, List.drop_length]
theorem e20 (s : List UInt8) (hs : s.length ≤ 2 ^ 20) : ∃ xs, ret1 E 20 [.p (.str s)] = some (.tup [.p (.slice 2 xs), .p (.bool (pairsB s))]) := by
  rw [ret1_fun (F := f20) rfl rfl rfl]
  by_cases h : s = [45]
  · refine ⟨[], ?_⟩
    simp only [f20, List.replicate, Nat.reduceSub, Nat.reduceAdd, go_sem, h]
    rfl
  · have hl := pieces_len 44 s
    obtain ⟨ys, hy⟩ := e20_loop (pieces 44 s) (by omega) (fun w hw => Nat.le_trans (pieces_mem 44 s w hw) hs) (pieces 44 s).length 0 [] (by omega) (by omega) (by simp)
    refine ⟨ys, ?_⟩
    rw [List.drop_zero] at hy
    have hB : pairsB s = (pieces 44 s).all pairB := by
      unfold pairsB
      simp only [h, decide_false, Bool.false_or]
    have hq := e16 s 44 hs
    have h44 : ((44 : UInt8).toNat : Int) = 44 := by decide
    rw [h44] at hq
    rw [hB]
    simp only [f20, List.replicate, Nat.reduceSub, Nat.reduceAdd, Nat.reduceBEq, reduceCtorEq, go_sem, h, hq]
    exact hy
end Go.Abs.A
