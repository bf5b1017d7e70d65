/- Plain words: letters, runes, names, pieces, numbers. Numerals: a text is 1 to 9 digits without noughts ahead just if it is the numeral of the number that it spells. Pairs of names. strings.Split at one byte gives the pieces. -/
import Derived.Test.YtjkjgloionfkgaaDoorEv
import Derived.Lib.Strings
import Derived.Lib.IndexMore
import Derived.Lib.AtoiAll
import Derived.Lib.ItoaNum
import Derived.Lib.Split

namespace Go.Abs

def letterB (r : Int) : Bool := (decide (97 ≤ r) && decide (r ≤ 122)) || ((decide (65 ≤ r) && decide (r ≤ 90)) || (decide (1072 ≤ r) && decide (r ≤ 1103)))
def digitB (r : Int) : Bool := decide (48 ≤ r) && decide (r ≤ 57)
def insideB (r : Int) : Bool := letterB r || (digitB r || decide (r = 95))

theorem decodeL_pos (s : List UInt8) : 1 ≤ (decodeL s).2 := by
  unfold decodeL
  simp only
  repeat' split
  all_goals (first | exact Nat.le_refl _ | (simp only; omega))
theorem decodeL_le (s : List UInt8) (h : s ≠ []) : (decodeL s).2 ≤ s.length := by
  have h0 : 1 ≤ s.length := by cases s with | nil => exact absurd rfl h | cons a r => simp
  unfold decodeL
  simp only [Bool.and_eq_true, decide_eq_true_eq]
  repeat' split
  all_goals (first | exact h0 | (simp only; omega))

/-- The code points of a text. -/
def runes (s : List UInt8) : List Nat :=
  if h : s = [] then [] else (decodeL s).1 :: runes (s.drop (decodeL s).2)
termination_by s.length
decreasing_by
  have := decodeL_pos s
  have : 1 ≤ s.length := by cases s with | nil => exact absurd rfl h | cons a r => simp
  simp; omega
theorem runes_nil : runes [] = [] := by rw [runes]; rfl
theorem runes_cons {s : List UInt8} (h : s ≠ []) : runes s = (decodeL s).1 :: runes (s.drop (decodeL s).2) := by
  rw [runes, dif_neg h]

/-- Is a text a name? -/
def nameB (s : List UInt8) : Bool := match runes s with
  | [] => false
  | r :: rs => letterB r && (insideB r && (rs.all (fun r => insideB r) && decide (rs.length + 1 ≤ 24)))

/-- What stands between bytes of a kind. -/
def pieces (c : UInt8) : List UInt8 → List (List UInt8)
  | [] => [[]]
  | b :: r => if b = c then [] :: pieces c r else match pieces c r with
    | [] => [[b]]
    | p :: ps => (b :: p) :: ps
theorem pieces_ne (c : UInt8) : ∀ s, pieces c s ≠ []
  | [] => by simp [pieces]
  | b :: r => by
    simp only [pieces]
    split
    · simp
    · split <;> simp

/-- Is a text 1 to 9 digits without noughts ahead? -/
def numB (s : List UInt8) : Bool := decide (1 ≤ s.length) && (decide (s.length ≤ 9) && (s.all (fun c => decide (48 ≤ c.toNat) && decide (c.toNat ≤ 57)) && !(decide (s.head? = some 48) && decide (1 < s.length))))
/-- Is a text a mapping's? -/
def pairB (s : List UInt8) : Bool := match pieces 62 s with
  | [a, b] => nameB a && nameB b
  | _ => false
def pairsB (s : List UInt8) : Bool := decide (s = [45]) || (pieces 44 s).all pairB
end Go.Abs

namespace Go.Abs
open Go.Lib

def dig10 (a : Nat) (c : UInt8) : Nat := a * 10 + (c.toNat - 48)
/-- The number that digits spell, behind others. -/
def dval (acc : Nat) (l : List UInt8) : Nat := l.foldl dig10 acc
theorem dval_nil (acc : Nat) : dval acc [] = acc := rfl
theorem dval_cons (acc : Nat) (c : UInt8) (r : List UInt8) : dval acc (c :: r) = dval (dig10 acc c) r := by unfold dval; rw [List.foldl_cons]
theorem pu_nil (acc : Nat) : parseUint10 acc [] = .ok acc := rfl
theorem pu_cons (acc : Nat) (c : UInt8) (r : List UInt8) (h : 48 ≤ c.toNat ∧ c.toNat ≤ 57) (h1 : ¬ 1844674407370955162 ≤ acc) (h2 : ¬ 18446744073709551616 ≤ acc * 10 + (c.toNat - 48)) :
    parseUint10 acc (c :: r) = parseUint10 (acc * 10 + (c.toNat - 48)) r := by
  rw [parseUint10, if_pos h, if_neg h1, if_neg h2]
def isDig (c : UInt8) : Bool := decide (48 ≤ c.toNat) && decide (c.toNat ≤ 57)
theorem isDig_iff {c : UInt8} : isDig c = true ↔ 48 ≤ c.toNat ∧ c.toNat ≤ 57 := by simp [isDig]

theorem pow10_pos (n : Nat) : 1 ≤ 10 ^ n := Nat.pos_of_ne_zero (by simp)
theorem parse_dval (l : List UInt8) : ∀ (acc : Nat), l.all isDig = true → (acc + 1) * 10 ^ l.length ≤ 1000000000000000000 → parseUint10 acc l = .ok (dval acc l) ∧ dval acc l < (acc + 1) * 10 ^ l.length := by
  induction l with
  | nil => intro acc _ _; rw [pu_nil, dval_nil]; simp
  | cons c r ih =>
    intro acc h hb
    simp only [List.all_cons, Bool.and_eq_true, isDig_iff] at h
    obtain ⟨⟨h1, h2⟩, h3⟩ := h
    rw [List.length_cons, Nat.pow_succ] at hb ⊢
    have hp : 1 ≤ 10 ^ r.length := pow10_pos _
    generalize 10 ^ r.length = p at hb hp ih ⊢
    have hle : (acc * 10 + (c.toNat - 48) + 1) * p ≤ (acc + 1) * (p * 10) := by
      have e1 : (acc * 10 + (c.toNat - 48) + 1) * p ≤ ((acc + 1) * 10) * p := Nat.mul_le_mul_right _ (by omega)
      have e2 : ((acc + 1) * 10) * p = (acc + 1) * (p * 10) := by rw [Nat.mul_assoc, Nat.mul_comm 10]
      omega
    obtain ⟨i1, i2⟩ := ih (acc * 10 + (c.toNat - 48)) h3 (Nat.le_trans hle hb)
    have hsm : acc * 10 + (c.toNat - 48) + 1 ≤ (acc * 10 + (c.toNat - 48) + 1) * p := Nat.le_mul_of_pos_right _ hp
    rw [pu_cons _ _ _ ⟨h1, h2⟩ (by omega) (by omega), dval_cons]
    exact ⟨i1, Nat.lt_of_lt_of_le i2 hle⟩

theorem digit_back {c : UInt8} (h1 : 48 ≤ c.toNat) (h2 : c.toNat ≤ 57) : UInt8.ofNat (48 + (c.toNat - 48)) = c := by
  rw [show 48 + (c.toNat - 48) = c.toNat by omega]
  simp
theorem decDigits_snoc {acc : Nat} {c : UInt8} (ha : 1 ≤ acc) (h1 : 48 ≤ c.toNat) (h2 : c.toNat ≤ 57) : decDigits (acc * 10 + (c.toNat - 48)) = decDigits acc ++ [c] := by
  rw [decDigits, dif_neg (by omega)]
  rw [show (acc * 10 + (c.toNat - 48)) / 10 = acc by omega, show (acc * 10 + (c.toNat - 48)) % 10 = c.toNat - 48 by omega, digit_back h1 h2]
theorem decDigits_dval (l : List UInt8) : ∀ (acc : Nat), 1 ≤ acc → l.all isDig = true → decDigits (dval acc l) = decDigits acc ++ l := by
  induction l with
  | nil => intro acc _ _; rw [dval_nil]; simp
  | cons c r ih =>
    intro acc ha h
    simp only [List.all_cons, Bool.and_eq_true, isDig_iff] at h
    rw [dval_cons, ih _ (by unfold dig10; omega) h.2]
    unfold dig10
    rw [decDigits_snoc ha h.1.1 h.1.2]
    simp
theorem decDigits_all (u : Nat) : (decDigits u).all isDig = true ∧ decDigits u ≠ [] ∧ ((decDigits u).head? = some 48 → u = 0) := by
  induction u using Nat.strongRecOn with
  | _ u ih =>
    rw [decDigits]
    split
    · rename_i h
      have hd : (UInt8.ofNat (48 + u)).toNat = 48 + u := by simp; omega
      refine ⟨by simp [isDig_iff, hd]; omega, by simp, fun e => ?_⟩
      simp only [List.head?_cons, Option.some.injEq] at e
      have := congrArg UInt8.toNat e
      rw [hd] at this
      simp at this; omega
    · rename_i h
      obtain ⟨i1, i2, i3⟩ := ih (u / 10) (by omega)
      have hd : (UInt8.ofNat (48 + u % 10)).toNat = 48 + u % 10 := by simp; omega
      refine ⟨?_, by simp, fun e => ?_⟩
      · rw [List.all_append, i1]
        simp [isDig_iff, hd]; omega
      · cases hq : decDigits (u / 10) with
        | nil => exact absurd hq i2
        | cons a b =>
          rw [hq] at e i3
          have := i3 (by simpa using e)
          omega

theorem numB_iff (s : List UInt8) : numB s = true ↔ 1 ≤ s.length ∧ s.length ≤ 9 ∧ s.all isDig = true ∧ ¬ (s.head? = some 48 ∧ 1 < s.length) := by
  unfold numB
  simp only [Bool.and_eq_true, decide_eq_true_eq, Bool.not_eq_true', Bool.and_eq_false_iff, decide_eq_false_iff_not]
  rw [show (s.all fun c => decide (48 ≤ c.toNat) && decide (c.toNat ≤ 57)) = s.all isDig from rfl]
  constructor
  · rintro ⟨a, b, c, d⟩
    exact ⟨a, b, c, fun ⟨e, f⟩ => by rcases d with d | d <;> contradiction⟩
  · rintro ⟨a, b, c, d⟩
    refine ⟨a, b, c, ?_⟩
    by_cases e : s.head? = some 48
    · exact .inr fun f => d ⟨e, f⟩
    · exact .inl e

theorem num_yes {s : List UInt8} (h : numB s = true) : ∃ v : Nat, atoiAll s = .ok (v : Int) ∧ itoa (v : Int) = s ∧ (v : Int) ≤ 999999999 := by
  rw [numB_iff] at h
  obtain ⟨h1, h2, h3, h4⟩ := h
  cases s with
  | nil => simp at h1
  | cons c r =>
    have hd : isDig c = true := by simp only [List.all_cons, Bool.and_eq_true] at h3; exact h3.1
    have hr : r.all isDig = true := by simp only [List.all_cons, Bool.and_eq_true] at h3; exact h3.2
    rw [isDig_iff] at hd
    obtain ⟨p1, p2⟩ := parse_dval (c :: r) 0 h3 (by
      have : 10 ^ (c :: r).length ≤ 10 ^ 9 := Nat.pow_le_pow_right (by omega) h2
      omega)
    have hlt : dval 0 (c :: r) < 1000000000 := by
      have : 10 ^ (c :: r).length ≤ 10 ^ 9 := Nat.pow_le_pow_right (by omega) h2
      generalize 10 ^ (c :: r).length = p at p2 this
      omega
    refine ⟨dval 0 (c :: r), ?_, ?_, by omega⟩
    · have e1 : ¬ (c.toNat = 43 ∨ c.toNat = 45) := by omega
      have e2 : ¬ c.toNat = 45 := by omega
      simp only [atoiAll]
      rw [if_neg e1]
      simp only [parseMag, reduceCtorEq, if_false, p1, e2, not_false_eq_true, true_and, false_and]
      rw [if_neg (by omega)]
    · unfold itoa
      rw [if_neg (by omega)]
      rw [Int.toNat_natCast, dval_cons, show dig10 0 c = c.toNat - 48 by unfold dig10; omega]
      by_cases hz : c.toNat = 48
      · have hc : c = 48 := UInt8.toNat_inj.1 hz
        have : r = [] := by
          cases r with
          | nil => rfl
          | cons a b => exact absurd ⟨by rw [hc]; rfl, by simp⟩ h4
        subst this
        rw [dval_nil]
        rw [decDigits, dif_pos (by omega), digit_back hd.1 hd.2]
      · rw [decDigits_dval r _ (by omega) hr, decDigits, dif_pos (by omega), digit_back hd.1 hd.2]
        rfl
theorem num_no {s : List UInt8} (h : numB s = false) {v : Int} (h0 : 0 ≤ v) (hl : s.length ≤ 9) : itoa v ≠ s := by
  intro e
  have : numB s = true := by
    rw [numB_iff]
    unfold itoa at e
    rw [if_neg (by omega)] at e
    obtain ⟨d1, d2, d3⟩ := decDigits_all v.toNat
    rw [e] at d1 d2 d3
    refine ⟨?_, hl, d1, fun ⟨a, b⟩ => ?_⟩
    · cases s with
      | nil => exact absurd rfl d2
      | cons a r => simp
    · have := d3 a
      rw [this] at e
      rw [decDigits, dif_pos (by omega)] at e
      rw [← e] at b
      simp at b
  rw [h] at this; simp at this
end Go.Abs

namespace Go.Abs
open Go.Lib

theorem pieces_len (c : UInt8) : ∀ s, (pieces c s).length ≤ s.length + 1
  | [] => by simp [pieces]
  | b :: r => by
    have := pieces_len c r
    simp only [pieces]
    split
    · simp; omega
    · split
      · simp
      · rename_i p ps e; rw [e] at this; simp at this ⊢; omega
theorem pieces_mem (c : UInt8) : ∀ s, ∀ p ∈ pieces c s, p.length ≤ s.length
  | [], p, h => by simp [pieces] at h; subst h; simp
  | b :: r, p, h => by
    have ih := pieces_mem c r
    simp only [pieces] at h
    split at h
    · rcases List.mem_cons.1 h with rfl | h
      · simp
      · have := ih p h; simp; omega
    · split at h
      · simp at h; subst h; simp
      · rename_i q ps e
        rcases List.mem_cons.1 h with rfl | h
        · have := ih q (by rw [e]; simp); simp; omega
        · have := ih p (by rw [e]; simp [h]); simp; omega

/-- What strings.Cut says of a pair. -/
def pairOk (p : List UInt8) : Bool := (cut p [62]).2.2 && (nameB (cut p [62]).1 && nameB (cut p [62]).2.1)

theorem decodeL_ascii {b : UInt8} (h : b.toNat < 128) (r : List UInt8) : decodeL (b :: r) = (b.toNat, 1) := by
  unfold decodeL
  simp only [List.getD_cons_zero]
  rw [if_pos (by omega)]
/-- What a code point takes behind its first byte is no ASCII. -/
theorem decodeL_cont {s : List UInt8} {i : Nat} (h1 : 1 ≤ i) (h2 : i < (decodeL s).2) : 128 ≤ (s.getD i 0).toNat := by
  have key : ∀ k, (decide (k < s.length) && (s.getD k 0).toNat / 64 == 2) = true → 128 ≤ (s.getD k 0).toNat := by
    intro k hk
    simp only [Bool.and_eq_true, beq_iff_eq] at hk
    omega
  unfold decodeL at h2
  simp only [Bool.and_eq_true] at h2
  split at h2
  · simp only at h2; omega
  split at h2
  · rename_i hc
    split at h2
    · simp only at h2
      obtain rfl : i = 1 := by omega
      exact key 1 (by simpa using hc.2)
    · simp only at h2; omega
  split at h2
  · rename_i hc
    split at h2
    · simp only at h2
      obtain rfl | rfl : i = 1 ∨ i = 2 := by omega
      · exact key 1 (by simpa using hc.1.2)
      · exact key 2 (by simpa using hc.2)
    · simp only at h2; omega
  split at h2
  · rename_i hc
    split at h2
    · simp only at h2
      obtain rfl | rfl | rfl : i = 1 ∨ i = 2 ∨ i = 3 := by omega
      · exact key 1 (by simpa using hc.1.1.2)
      · exact key 2 (by simpa using hc.1.2)
      · exact key 3 (by simpa using hc.2)
    · simp only at h2; omega
  · simp only at h2; omega
theorem runes_ascii {c : UInt8} (hc : c.toNat < 128) : ∀ (m : Nat) (s : List UInt8), s.length ≤ m → c ∈ s → c.toNat ∈ runes s := by
  intro m
  induction m with
  | zero =>
    intro s h hm
    have : s = [] := by cases s with | nil => rfl | cons a r => simp at h
    subst this; simp at hm
  | succ m ih =>
    intro s h hm
    cases s with
    | nil => simp at hm
    | cons b r =>
      have hne : b :: r ≠ [] := by simp
      rw [runes_cons hne]
      obtain ⟨i, hi, he⟩ := List.mem_iff_getElem.1 hm
      by_cases hlt : i < (decodeL (b :: r)).2
      · by_cases h0 : i = 0
        · subst h0
          simp only [List.getElem_cons_zero] at he
          subst he
          rw [decodeL_ascii hc]
          simp
        · have := decodeL_cont (s := b :: r) (i := i) (by omega) hlt
          rw [List.getD_eq_getElem?_getD, List.getElem?_eq_getElem hi, Option.getD_some, he] at this
          omega
      · have hp := decodeL_pos (b :: r)
        refine List.mem_cons_of_mem _ (ih _ (by simp at h ⊢; omega) ?_)
        rw [List.mem_iff_getElem]
        refine ⟨i - (decodeL (b :: r)).2, by simp at hi ⊢; omega, ?_⟩
        rw [List.getElem_drop]
        rw [← he]
        congr 1
        omega
theorem name_no62 {s : List UInt8} (h : nameB s = true) : (62 : UInt8) ∉ s := by
  intro hm
  have := runes_ascii (c := 62) (by decide) s.length s (Nat.le_refl _) hm
  unfold nameB at h
  split at h
  · simp at h
  · rename_i r rs e
    rw [e] at this
    simp only [Bool.and_eq_true, List.all_eq_true] at h
    have h62 : insideB ((62 : UInt8).toNat : Int) = false := by decide
    rcases List.mem_cons.1 this with e1 | e1
    · rw [← e1, h62] at h; simp at h
    · have := h.2.2.1 _ e1; rw [h62] at this; simp at this
theorem index_cons (b c : UInt8) (r : List UInt8) : index (b :: r) [c] = if b = c then 0 else if index r [c] = -1 then -1 else index r [c] + 1 := by
  simp only [index, List.isPrefixOf, Bool.and_true, beq_iff_eq]
  by_cases h : b = c
  · simp [h]
  · have h' : ¬ c = b := fun e => h e.symm
    simp [h, h']
theorem cut_cons (b c : UInt8) (r : List UInt8) : cut (b :: r) [c] = if b = c then ([], r, true) else (b :: (cut r [c]).1, (cut r [c]).2.1, (cut r [c]).2.2) := by
  have hge := index_ge r [c]
  unfold cut
  rw [index_cons]
  by_cases h : b = c
  · simp [h]
  · simp only [h, if_false]
    by_cases h2 : index r [c] = -1
    · simp [h2]
    · have h3 : 0 ≤ index r [c] := by omega
      obtain ⟨n, hn⟩ := Int.eq_ofNat_of_zero_le h3
      have hm1 : ¬ ((n : Int) = -1) := by omega
      have p1 : (0 : Int) ≤ (n : Int) + 1 := by omega
      have p2 : (0 : Int) ≤ (n : Int) := by omega
      simp only [hn, hm1, if_false, p1, p2, if_true]
      have e1 : ((n : Int) + 1).toNat = n + 1 := by omega
      simp [e1]
theorem pairOk_eq (p : List UInt8) : pairOk p = pairB p := by
  have key : ∀ p : List UInt8, ((cut p [62]).2.2 = false ∧ pieces 62 p = [p] ∧ (62 : UInt8) ∉ p) ∨ ((cut p [62]).2.2 = true ∧ (62 : UInt8) ∉ (cut p [62]).1 ∧ pieces 62 p = (cut p [62]).1 :: pieces 62 (cut p [62]).2.1) := by
    intro p
    induction p with
    | nil => left; exact ⟨by decide, rfl, by simp⟩
    | cons b r ih =>
      rw [cut_cons]
      by_cases h : b = 62
      · right
        subst h
        exact ⟨by simp, by simp, by simp [pieces]⟩
      · rw [if_neg h]
        have hp : pieces 62 (b :: r) = match pieces 62 r with | [] => [[b]] | q :: ps => (b :: q) :: ps := by simp only [pieces, h, if_false] <;> rfl
        rcases ih with ⟨i1, i2, i3⟩ | ⟨i1, i2, i3⟩
        · left
          refine ⟨i1, by rw [hp, i2], ?_⟩
          simp only [List.mem_cons, not_or]
          exact ⟨fun e => h e.symm, i3⟩
        · right
          refine ⟨i1, ?_, by rw [hp, i3]⟩
          simp only [List.mem_cons, not_or]
          exact ⟨fun e => h e.symm, i2⟩
  unfold pairOk pairB
  rcases key p with ⟨h1, h2, _⟩ | ⟨h1, h2, h3⟩
  · rw [h1, h2]; rfl
  · rw [h1, h3, Bool.true_and]
    rcases key (cut p [62]).2.1 with ⟨g1, g2, _⟩ | ⟨g1, g2, g3⟩
    · rw [g2]
    · have hx : nameB (cut p [62]).2.1 = false := by
        cases e : nameB (cut p [62]).2.1 with
        | false => rfl
        | true =>
          have := name_no62 e
          have hlen : (pieces 62 (cut p [62]).2.1).length = 1 := by
            rcases key (cut p [62]).2.1 with ⟨a1, a2, _⟩ | ⟨a1, _, _⟩
            · rw [a2]; rfl
            · exfalso
              have nomem : ∀ q : List UInt8, (62 : UInt8) ∉ q → (cut q [62]).2.2 = false := by
                intro q
                induction q with
                | nil => intro _; decide
                | cons a b ih => intro h; simp only [List.mem_cons, not_or] at h; rw [cut_cons, if_neg (fun e => h.1 e.symm)]; exact ih h.2
              rw [nomem _ this] at a1
              simp at a1
          have hne := pieces_ne 62 (cut (cut p [62]).2.1 [62]).2.1
          rw [g3] at hlen
          simp at hlen
          exact absurd hlen hne
      rw [g3]
      have hne := pieces_ne 62 (cut (cut p [62]).2.1 [62]).2.1
      cases hq : pieces 62 (cut (cut p [62]).2.1 [62]).2.1 with
      | nil => exact absurd hq hne
      | cons x y => simp [hx]
end Go.Abs

namespace Go.Abs
open Go.Lib

theorem pieces_index (c : UInt8) : ∀ s : List UInt8, (index s [c] = -1 → pieces c s = [s] ∧ s.count c = 0) ∧ (∀ i : Nat, index s [c] = (i : Int) → i < s.length ∧ pieces c s = s.take i :: pieces c (s.drop (i + 1)) ∧ s.count c = 1 + (s.drop (i + 1)).count c)
  | [] => by
    refine ⟨fun _ => by simp [pieces], fun i h => ?_⟩
    simp [index] at h
  | b :: r => by
    obtain ⟨h1, h2⟩ := pieces_index c r
    have hge := index_ge r [c]
    rw [index_cons]
    by_cases hb : b = c
    · subst hb
      simp only [if_true]
      refine ⟨fun h => by omega, fun i h => ?_⟩
      obtain rfl : i = 0 := by omega
      refine ⟨by simp, by simp [pieces], ?_⟩
      simp
      omega
    · simp only [hb, if_false]
      have hc : (b :: r).count c = r.count c := by rw [List.count_cons]; simp [hb]
      by_cases hi : index r [c] = -1
      · simp only [hi, if_true]
        obtain ⟨e1, e2⟩ := h1 hi
        refine ⟨fun _ => ⟨by simp only [pieces, hb, if_false, e1], by rw [hc, e2]⟩, fun i h => by omega⟩
      · simp only [hi, if_false]
        refine ⟨fun h => by omega, fun i h => ?_⟩
        obtain ⟨j, rfl⟩ : ∃ j, i = j + 1 := ⟨i - 1, by omega⟩
        obtain ⟨e0, e1, e2⟩ := h2 j (by omega)
        refine ⟨by simp; omega, ?_, by rw [hc, e2]; simp⟩
        simp only [pieces, hb, if_false, e1]
        simp
theorem splitK_pieces (c : UInt8) : ∀ (k : Nat) (s : List UInt8), s.count c ≤ k → splitK [c] 0 k s = pieces c s
  | 0, s, h => by
    obtain ⟨h1, h2⟩ := pieces_index c s
    have hge := index_ge s [c]
    simp only [splitK]
    by_cases hi : index s [c] = -1
    · exact (h1 hi).1.symm
    · obtain ⟨n, hn⟩ := Int.eq_ofNat_of_zero_le (show 0 ≤ index s [c] by omega)
      have := (h2 n hn).2.2
      omega
  | k + 1, s, h => by
    obtain ⟨h1, h2⟩ := pieces_index c s
    have hge := index_ge s [c]
    unfold splitK
    by_cases hi : index s [c] = -1
    · rw [if_pos (by simp [hi])]
      exact (h1 hi).1.symm
    · obtain ⟨n, hn⟩ := Int.eq_ofNat_of_zero_le (show 0 ≤ index s [c] by omega)
      obtain ⟨_, e1, e2⟩ := h2 n hn
      rw [if_neg (by simp [hi]), hn, e1]
      simp only [Int.toNat_natCast, Nat.add_zero, List.length_cons, List.length_nil, Nat.zero_add]
      rw [splitK_pieces c k _ (by omega)]
theorem countFrom_count (c : UInt8) : ∀ (f : Nat) (s : List UInt8), s.length < f → countFrom [c] f s = s.count c
  | 0, s, h => by omega
  | f + 1, s, h => by
    obtain ⟨h1, h2⟩ := pieces_index c s
    have hge := index_ge s [c]
    unfold countFrom
    by_cases hi : index s [c] = -1
    · rw [if_pos (by simp [hi])]
      exact (h1 hi).2.symm
    · obtain ⟨n, hn⟩ := Int.eq_ofNat_of_zero_le (show 0 ≤ index s [c] by omega)
      obtain ⟨e0, _, e2⟩ := h2 n hn
      rw [if_neg (by simp [hi]), hn]
      simp only [Int.toNat_natCast, List.length_cons, List.length_nil, Nat.zero_add]
      rw [countFrom_count c f _ (by simp; omega), e2]
theorem split_pieces (s : ByteArray) (c : UInt8) : (splitB ⟨#[c]⟩ 0 (countB s ⟨#[c]⟩) s).map (·.data.toList) = pieces c s.data.toList ∧ (pieces c s.data.toList).length = countB s ⟨#[c]⟩ + 1 := by
  have hc : countB s ⟨#[c]⟩ = s.data.toList.count c := countFrom_count c _ _ (Nat.lt_succ_self _)
  rw [splitB_data, hc]
  refine ⟨splitK_pieces c _ _ (Nat.le_refl _), ?_⟩
  have key : ∀ (m : Nat) (l : List UInt8), l.length ≤ m → (pieces c l).length = l.count c + 1 := by
    intro m
    induction m with
    | zero =>
      intro l h
      have : l = [] := by cases l with | nil => rfl | cons a r => simp at h
      subst this; simp [pieces]
    | succ m ih =>
      intro l h
      obtain ⟨h1, h2⟩ := pieces_index c l
      have hge := index_ge l [c]
      by_cases hi : index l [c] = -1
      · rw [(h1 hi).1, (h1 hi).2]; rfl
      · obtain ⟨n, hn⟩ := Int.eq_ofNat_of_zero_le (show 0 ≤ index l [c] by omega)
        obtain ⟨e0, e1, e2⟩ := h2 n hn
        rw [e1, e2, List.length_cons, ih _ (by simp; omega)]
        omega
  exact key _ _ (Nat.le_refl _)
end Go.Abs
