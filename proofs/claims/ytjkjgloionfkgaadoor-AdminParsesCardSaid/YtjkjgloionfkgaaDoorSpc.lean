/- Lists that are alike; numbers. -/
import Derived.Test.YtjkjgloionfkgaaDoorSpb
import Derived.Test.YtjkjgloionfkgaaDoorPla

namespace Go.Abs.A
open Go.Lib

/-! ## same -/
theorem e7_loop (a b : List (List UInt8)) (hl : a.length = b.length) (ha : a.length ≤ 2 ^ 40) : ∀ (m i : Nat), a.length - i ≤ m → i ≤ a.length → a.take i = b.take i →
    outR [Res.v 2] (thenC (blkC 0 (clean 0 []) (iter (evC E f7_l0) (clean 0 [0, 1, 5, 6])
      ⟨[.p (.slice 1 (a.map PV.str)), .p (.slice 1 (b.map PV.str)), .undef, .undef, .undef, .p (.int .i64 a.length), .p (.int .i64 i), .undef, .undef], [], []⟩)) (evC E f7_k1)) =
    some (.p (.bool (decide (a = b)))) := by
  intro m
  induction m with
  | zero =>
    intro i hm h1 h2
    have hi : i = a.length := by omega
    subst hi
    have : a = b := by
      rw [List.take_length, hl, List.take_length] at h2; exact h2
    rw [iter_round]
    simp only [f7_l0_ev, f7_b0, f7_k1, Nat.reduceAdd, go_sem, Int.lt_irrefl, this]
  | succ m ih =>
    intro i hm h1 h2
    by_cases hlt : i < a.length
    · have hlt' : ((i : Int) < (a.length : Int)) := by omega
      have hga : (a.map PV.str)[i]? = some (.str a[i]) := by simp [hlt]
      have hgb : (b.map PV.str)[i]? = some (.str (b[i]'(by omega))) := by simp [show i < b.length by omega]
      have h0 : (0 : Int) ≤ i := by omega
      have hw : IntKind.i64.wrap ((i : Int) + 1) = ((i + 1 : Nat) : Int) := by rw [wrap64] <;> omega
      rw [iter_round]
      simp only [f7_l0_ev, f7_b0, Nat.reduceAdd, Nat.reduceBEq, go_sem, hlt', hga, hgb, hw]
      by_cases hc : a[i] = b[i]'(by omega)
      · simp only [hc, go_sem]
        rw [ih (i + 1) (by omega) (by omega) (by rw [List.take_succ_eq_append_getElem hlt, List.take_succ_eq_append_getElem (by omega), h2, hc])]
      · have hn : ¬ a = b := fun e => hc (by subst e; rfl)
        simp only [hc, hn, go_sem]
    · have hi : i = a.length := by omega
      subst hi
      have : a = b := by
        rw [List.take_length, hl, List.take_length] at h2; exact h2
      rw [iter_round]
      simp only [f7_l0_ev, f7_b0, f7_k1, Nat.reduceAdd, go_sem, Int.lt_irrefl, this]
theorem e7 (a b : List (List UInt8)) (ha : a.length ≤ 2 ^ 40) : ret1 E 7 [.p (.slice 1 (a.map PV.str)), .p (.slice 1 (b.map PV.str))] = some (.p (.bool (decide (a = b)))) := by
  rw [ret1_fun (F := f7) rfl rfl rfl]
  by_cases hl : a.length = b.length
  · have hl' : ((a.length : Int) = (b.length : Int)) := by omega
    have := e7_loop a b hl ha a.length 0 (by omega) (by omega) (by simp)
    simp only [f7, List.replicate, Nat.reduceSub, Nat.reduceAdd, Nat.reduceBEq, go_sem, hl']
    rw [hl] at this
    exact this
  · have hl' : ¬ ((a.length : Int) = (b.length : Int)) := by omega
    have hn : ¬ a = b := fun e => hl (by rw [e])
    simp only [f7, List.replicate, Nat.reduceSub, Nat.reduceAdd, go_sem, hl', hn]

/-! ## Number -/
theorem wrapu8 {n : Int} (h0 : 0 ≤ n) (h1 : n < 256) : IntKind.u8.wrap n = n := by
  unfold IntKind.wrap; simp [IntKind.bits, IntKind.signed]; omega
theorem e28_loop (s : List UInt8) (hs : s.length ≤ 9) : ∀ (m i : Nat) (n : Int), s.length - i ≤ m → i ≤ s.length → 0 ≤ n → n < 10 ^ i →
    ∃ v, outR [Res.v 1, Res.v 2] (thenC (blkC 0 (clean 0 [3]) (iter (evC E f28_l0) (clean 0 [0, 3, 4])
      ⟨[.p (.str s), .undef, .undef, .p (.int .i64 n), .p (.int .i64 i), .undef, .undef, .undef], [], []⟩)) (evC E f28_k1)) =
    some (.tup [.p (.int .i64 v), .p (.bool ((s.drop i).all isDig))]) := by
  intro m
  induction m with
  | zero =>
    intro i n hm h1 h2 h3
    have hi : i = s.length := by omega
    subst hi
    have hp : (10 : Int) ^ s.length ≤ 10 ^ 9 := by
      have := Nat.pow_le_pow_right (n := 10) (by omega) hs
      exact_mod_cast this
    have hn : n ≤ 1000000000 := by omega
    refine ⟨n, ?_⟩
    rw [iter_round]
    simp only [f28_l0_ev, f28_b0, f28_k1, Nat.reduceAdd, Nat.reduceBEq, go_sem, Int.lt_irrefl, hn, List.drop_length]
  | succ m ih =>
    intro i n hm h1 h2 h3
    by_cases hlt : i < s.length
    · have hlt' : ((i : Int) < (s.length : Int)) := by omega
      have hg : s[i]? = some s[i] := List.getElem?_eq_getElem hlt
      have h0 : (0 : Int) ≤ i := by omega
      have hd : s.drop i = s[i] :: s.drop (i + 1) := List.drop_eq_getElem_cons hlt
      have hw : IntKind.i64.wrap ((i : Int) + 1) = ((i + 1 : Nat) : Int) := by rw [wrap64] <;> omega
      have hp : (10 : Int) ^ i ≤ 10 ^ 8 := by
        have := Nat.pow_le_pow_right (n := 10) (by omega) (show i ≤ 8 by omega)
        exact_mod_cast this
      have hb : s[i].toNat < 256 := s[i].toNat_lt
      rw [iter_round, hd, List.all_cons]
      by_cases hc : isDig s[i] = true
      · have hc2 := isDig_iff.1 hc
        have a1 : ¬ ((s[i].toNat : Int) < 48) := by omega
        have a2 : ¬ ((57 : Int) < (s[i].toNat : Int)) := by omega
        have w1 : IntKind.i64.wrap (10 * n) = 10 * n := by rw [wrap64] <;> omega
        have w2 : IntKind.u8.wrap ((s[i].toNat : Int) - 48) = (s[i].toNat : Int) - 48 := by rw [wrapu8] <;> omega
        have w3 : IntKind.i64.wrap ((s[i].toNat : Int) - 48) = (s[i].toNat : Int) - 48 := by rw [wrap64] <;> omega
        have w4 : IntKind.i64.wrap (10 * n + ((s[i].toNat : Int) - 48)) = 10 * n + ((s[i].toNat : Int) - 48) := by rw [wrap64] <;> omega
        obtain ⟨v, hv⟩ := ih (i + 1) (10 * n + ((s[i].toNat : Int) - 48)) (by omega) (by omega) (by omega) (by rw [Int.pow_succ]; omega)
        refine ⟨v, ?_⟩
        simp only [f28_l0_ev, f28_b0, Nat.reduceAdd, Nat.reduceBEq, go_sem, hlt', h0, hg, a1, a2, w1, w2, w3, w4, hw, hc]
        exact hv
      · have hc2 : ¬ (48 ≤ s[i].toNat ∧ s[i].toNat ≤ 57) := fun e => hc (isDig_iff.2 e)
        have hc3 : isDig s[i] = false := by simpa using hc
        refine ⟨0, ?_⟩
        by_cases a1 : (s[i].toNat : Int) < 48
        · simp only [f28_l0_ev, f28_b0, Nat.reduceAdd, go_sem, hlt', h0, hg, a1, hc3]
        · have a2 : (57 : Int) < (s[i].toNat : Int) := by omega
          simp only [f28_l0_ev, f28_b0, Nat.reduceAdd, go_sem, hlt', h0, hg, a1, a2, hc3]
    · have hi : i = s.length := by omega
      subst hi
      have hp : (10 : Int) ^ s.length ≤ 10 ^ 9 := by
        have := Nat.pow_le_pow_right (n := 10) (by omega) hs
        exact_mod_cast this
      have hn : n ≤ 1000000000 := by omega
      refine ⟨n, ?_⟩
      rw [iter_round]
      simp only [f28_l0_ev, f28_b0, f28_k1, Nat.reduceAdd, Nat.reduceBEq, go_sem, Int.lt_irrefl, hn, List.drop_length]
theorem e28 (s : List UInt8) (hs : s.length ≤ 9) : ∃ v, ret1 E 28 [.p (.str s)] = some (.tup [.p (.int .i64 v), .p (.bool (numB s))]) := by
  rw [ret1_fun (F := f28) rfl rfl rfl]
  cases s with
  | nil =>
    refine ⟨0, ?_⟩
    simp (config := {decide := true}) only [f28, List.replicate, Nat.reduceSub, Nat.reduceAdd, go_sem]
    rfl
  | cons c r =>
    have l1 : ¬ (((r.length + 1 : Nat) : Int) < 1) := by omega
    have l2 : ¬ ((10 : Int) < ((r.length + 1 : Nat) : Int)) := by simp at hs; omega
    by_cases hz : c.toNat = 48 ∧ 1 ≤ r.length
    · have z1 : ((c.toNat : Int) = 48) := by omega
      have z2 : ((1 : Int) < ((r.length + 1 : Nat) : Int)) := by omega
      have hc : c = 48 := UInt8.toNat_inj.1 hz.1
      refine ⟨0, ?_⟩
      simp only [f28, List.replicate, Nat.reduceSub, Nat.reduceAdd, go_sem, l1, l2, z1, z2, Int.toNat_zero, Int.le_refl]
      simp [numB, hc]
      omega
    · obtain ⟨v, hv⟩ := e28_loop (c :: r) hs (c :: r).length 0 0 (by omega) (by omega) (by omega) (by simp)
      refine ⟨v, ?_⟩
      have hB : numB (c :: r) = (c :: r).all isDig := by
        rw [Bool.eq_iff_iff, numB_iff]
        constructor
        · exact fun h => h.2.2.1
        · intro h
          refine ⟨by simp, hs, h, fun ⟨a, b⟩ => hz ⟨?_, by simp at b; omega⟩⟩
          simp only [List.head?_cons, Option.some.injEq] at a
          rw [a]; rfl
      rw [hB]
      rw [List.drop_zero] at hv
      by_cases z1 : (c.toNat : Int) = 48
      · have z2 : ¬ ((1 : Int) < ((r.length + 1 : Nat) : Int)) := by omega
        simp only [f28, List.replicate, Nat.reduceSub, Nat.reduceAdd, Nat.reduceBEq, go_sem, l1, l2, z1, z2, Int.toNat_zero, Int.le_refl]
        exact hv
      · simp only [f28, List.replicate, Nat.reduceSub, Nat.reduceAdd, Nat.reduceBEq, go_sem, l1, l2, z1, Int.toNat_zero, Int.le_refl]
        exact hv
theorem e18 (s : List UInt8) : ∃ v, ret1 E 18 [.p (.str s)] = some (.tup [.p (.int .i64 v), .p (.bool (numB s))]) := by
  rw [ret1_fun (F := f18) rfl rfl rfl]
  by_cases h : s.length ≤ 9
  · have h' : ¬ ((9 : Int) < (s.length : Int)) := by omega
    obtain ⟨v, hv⟩ := e28 s h
    refine ⟨v, ?_⟩
    simp only [f18, List.replicate, Nat.reduceSub, Nat.reduceAdd, go_sem, h', hv]
  · have h' : ((9 : Int) < (s.length : Int)) := by omega
    have hB : numB s = false := by
      cases e : numB s with
      | false => rfl
      | true => rw [numB_iff] at e; omega
    refine ⟨0, ?_⟩
    simp only [f18, List.replicate, Nat.reduceSub, Nat.reduceAdd, go_sem, h', hB]

/-! ## number -/
theorem e23_ok {s : List UInt8} {v : Int} (hs : s.length ≤ 281474976710656) (h : atoiAll s = .ok v) : ret1 E 23 [.p (.str s)] = some (.tup [.p (.int .i64 v), .p .nilIface]) := by
  rw [ret1_prim (f := 23) rfl]
  simp only [hs, if_true, h]
  rfl
theorem e23_no {s : List UInt8} (hs : s.length ≤ 281474976710656) (h : ∀ v, atoiAll s ≠ .ok v) : ∃ v, ret1 E 23 [.p (.str s)] = some (.tup [.p (.int .i64 v), .p (numErr tNumErr)]) := by
  rw [ret1_prim (f := 23) rfl]
  cases e : atoiAll s
  case ok v => exact absurd e (h v)
  case range => exact ⟨atoiSat s, by simp only [hs, if_true, e]; rfl⟩
  all_goals exact ⟨0, by simp only [hs, if_true, e]; rfl⟩
theorem e24 {n : Int} (h0 : -9223372036854775808 ≤ n) (h1 : n ≤ 9223372036854775807) : ret1 E 24 [.p (.int .i64 n)] = some (.p (.str (itoa n))) := by
  rw [ret1_prim (f := 24) rfl]
  simp only [h0, h1, and_self, if_true]
  rfl
theorem atoi_bound {s : List UInt8} {v : Int} (h : atoiAll s = .ok v) : -9223372036854775808 ≤ v ∧ v ≤ 9223372036854775807 := by
  cases s with
  | nil => simp [atoiAll] at h
  | cons c r =>
    simp only [atoiAll] at h
    split at h
    · cases h
    · cases h
    · split at h
      · cases h
      · split at h
        · cases h
        · injection h with h
          subst h
          split <;> omega
theorem e13 (s : List UInt8) (hs : s.length ≤ 281474976710656) : ∃ v, ret1 E 13 [.p (.str s)] = some (.tup [.p (.int .i64 v), .p (.bool (numB s))]) := by
  rw [ret1_fun (F := f13) rfl rfl rfl]
  by_cases h : ∃ v, atoiAll s = .ok v
  · obtain ⟨v, hv⟩ := h
    have hb := atoi_bound hv
    refine ⟨v, ?_⟩
    simp only [f13, List.replicate, Nat.reduceSub, Nat.reduceAdd, go_sem, e23_ok hs hv, e24 hb.1 hb.2]
    congr 5
    cases e : numB s with
    | true =>
      obtain ⟨u, h1, h2, h3⟩ := num_yes e
      rw [hv] at h1
      injection h1 with h1
      subst h1
      rw [numB_iff] at e
      simp [h2]
      omega
    | false =>
      by_cases h0 : 0 ≤ v
      · by_cases hl : (s.length : Int) ≤ 9
        · have := num_no e h0 (by omega)
          simp [this]
        · simp [hl]
      · simp [h0]
  · obtain ⟨v, hv⟩ := e23_no hs fun v e => h ⟨v, e⟩
    have hB : numB s = false := by
      cases e : numB s with
      | false => rfl
      | true => obtain ⟨u, h1, _⟩ := num_yes e; exact absurd ⟨_, h1⟩ h
    refine ⟨v, ?_⟩
    simp only [f13, List.replicate, Nat.reduceSub, Nat.reduceAdd, go_sem, hv, hB, numErr]
end Go.Abs.A
