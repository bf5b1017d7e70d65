/- The primitives of AdminParses are what the library does. The code that the evaluator has is the program's. -/
import Derived.Test.YtjkjgloionfkgaaDoorPrim
import Derived.Test.YtjkjgloionfkgaaDoorPla
import Derived.Test.YtjkjgloionfkgaaDoorSpa
import Derived.Test.YtjkjgloionfkgaaDoorShelf
import Derived.KernelRfl

namespace Go.Abs.A
open Go.RowKit Go.Proofs Go.Sort

/-- What the laid variables hold in a first world. -/
structure Glob (W : World) : Prop where
  shaped : W.ShapedOpen Tryd.prog
  pow : Lib.TabIs Tryd.prog W "internal/strconv.uint64pow10" .u64 Lib.pow10Tab
  u8 : Lib.Utf8Tabs 3 4 W
  syn : ∃ tp p, W.var? Tryd.prog "strconv.ErrSyntax" = some #[.iface tp p]
  rng : ∃ tp p, W.var? Tryd.prog "strconv.ErrRange" = some #[.iface tp p]

theorem strOf (b : ByteArray) : (⟨b.data.toList.toArray⟩ : ByteArray) = b := by cases b; simp
theorem RepAs1 {M B a vs} (h : RepAs M B [a] vs) : ∃ x, vs = [x] ∧ RepA M B a x := by
  match vs, h with
  | [x], h => simp only [RepAs, and_true] at h; exact ⟨x, rfl, h⟩
  | [], h => simp [RepAs] at h
  | _ :: _ :: _, h => simp [RepAs] at h
theorem RepAs2 {M B a b vs} (h : RepAs M B [a, b] vs) : ∃ x y, vs = [x, y] ∧ RepA M B a x ∧ RepA M B b y := by
  match vs, h with
  | [x, y], h => simp only [RepAs, and_true] at h; exact ⟨x, y, rfl, h⟩
  | [], h => simp [RepAs] at h
  | [_], h => simp [RepAs] at h
  | _ :: _ :: _ :: _, h => simp [RepAs] at h
theorem rep_err {M : Mem} {t : Nat} {b : Nat} : RepP M (.iface t (.ptr (.agg []))) (.iface t (.pointer (some ⟨b, 0, none⟩))) := by
  simp only [RepP]
  refine ⟨_, rfl, b, 0, .agg #[], rfl, ⟨#[], rfl, by simp [RepL], by simp⟩, fun j hj => ?_⟩
  simp [Value.cells] at hj

theorem ok10 : FnOk Tryd.prog 10 := ⟨Tryd.f10, Tryd.func10, by kernel_rfl, by kernel_rfl⟩
theorem ok11 : FnOk Tryd.prog 11 := ⟨Tryd.f11, Tryd.func11, by kernel_rfl, by kernel_rfl⟩
theorem ok23 : FnOk Tryd.prog 23 := ⟨Tryd.f23, Tryd.func23, by kernel_rfl, by kernel_rfl⟩
theorem ok24 : FnOk Tryd.prog 24 := ⟨Tryd.f24, Tryd.func24, by kernel_rfl, by kernel_rfl⟩
theorem ok27 : FnOk Tryd.prog 27 := ⟨Tryd.f27, Tryd.func27, by kernel_rfl, by kernel_rfl⟩
theorem ok41 : FnOk Tryd.prog 41 := ⟨Tryd.f41, Tryd.func41, by kernel_rfl, by kernel_rfl⟩

theorem prim_sound {W : World} (hG : Glob W) : @PrimSound (baseOf W) Tryd.prog prim := by
  letI : Base := baseOf W
  intro f g hfg
  unfold prim at hfg
  split at hfg
  · -- CutPrefix
    simp only [Option.some.injEq] at hfg; subst hfg
    intro args h r h' he
    simp only at he
    refine ⟨ok10, fun G w vs hR hA => ?_⟩
    split at he
    · rename_i s p
      simp only [Option.some.injEq, Prod.mk.injEq] at he
      obtain ⟨rfl, rfl⟩ := he
      obtain ⟨x, y, rfl, h1, h2⟩ := RepAs2 hA
      simp only [RepA, RepP] at h1 h2
      subst h1; subst h2
      refine prim_plain (v := .tuple #[.string ⟨(Lib.trimPrefix s p).toArray⟩, .bool (Lib.hasPrefix s p)]) hR ((Tryd.strings_CutPrefix _ _ w).mono fun e w' ⟨e1, e2⟩ => ⟨e1, by rw [e2]; exact Below.refl _ _⟩) ⟨rfl, ?_⟩
      simp only [RepA]
      exact ⟨_, rfl, by simp [RepAs, RepA, RepP]⟩
    · simp at he
  · -- Split
    simp only [Option.some.injEq] at hfg; subst hfg
    intro args h r h' he
    simp only at he
    refine ⟨ok11, fun G w vs hR hA => ?_⟩
    split at he
    · rename_i s c
      split at he
      · rename_i hs
        simp only [Option.some.injEq, Prod.mk.injEq] at he
        obtain ⟨rfl, rfl⟩ := he
        obtain ⟨x, y, rfl, h1, h2⟩ := RepAs2 hA
        simp only [RepA, RepP] at h1 h2
        subst h1; subst h2
        have hk := R.kept hR
        have hc := Tryd.strings_Split_shaped ⟨s.toArray⟩ ⟨[c].toArray⟩ w (hk.shaped (R.size_le hR) hG.shaped) (by simpa [ByteArray.size] using hs) (by simp [ByteArray.size])
        obtain ⟨q1, q2⟩ := split_pieces ⟨s.toArray⟩ c
        refine prim_row (T := 9) hR (hc.mono fun e w' ⟨e1, e2⟩ => ?_)
        have q3 : (Lib.splitB ⟨[c].toArray⟩ 0 (Lib.countB ⟨s.toArray⟩ ⟨[c].toArray⟩) ⟨s.toArray⟩).map Value.string = (pieces c s).map fun x => Value.string ⟨x.toArray⟩ := by
          have q1' : (pieces c s) = (Lib.splitB ⟨[c].toArray⟩ 0 (Lib.countB ⟨s.toArray⟩ ⟨[c].toArray⟩) ⟨s.toArray⟩).map (·.data.toList) := q1.symm
          rw [q1', List.map_map]
          congr 1
        have q4 : (pieces c s).length = Lib.countB ⟨s.toArray⟩ ⟨[c].toArray⟩ + 1 := q2
        exact ⟨by rw [e1, q4], by rw [e2, q3]⟩
      · simp at he
    · simp at he
  · -- Atoi
    simp only [Option.some.injEq] at hfg; subst hfg
    intro args h r h' he
    simp only at he
    refine ⟨ok23, fun G w vs hR hA => ?_⟩
    split at he
    · rename_i s
      split at he
      · rename_i hs
        obtain ⟨x, rfl, h1⟩ := RepAs1 hA
        simp only [RepA, RepP] at h1
        subst h1
        have hk := R.kept hR
        have hsz : (⟨s.toArray⟩ : ByteArray).size ≤ 281474976710656 := by simpa [ByteArray.size] using hs
        split at he
        · rename_i v hv
          simp only [Option.some.injEq, Prod.mk.injEq] at he
          obtain ⟨rfl, rfl⟩ := he
          refine prim_plain (v := .tuple #[.int .i64 v, .nilIface]) hR ((Tryd.strconv_Atoi_ok ⟨s.toArray⟩ (by omega) v (by simpa using hv) w).mono fun e w' ⟨e1, e2⟩ => ⟨e1, ?_⟩) ⟨rfl, ?_⟩
          · rcases e2 with e2 | ⟨t, e2⟩
            · rw [e2]; exact Below.refl _ _
            · rw [e2]; exact below_bytes
          · simp only [RepA]
            exact ⟨_, rfl, by simp [RepAs, RepA, RepP]⟩
        · rename_i hv
          simp only [Option.some.injEq, Prod.mk.injEq] at he
          obtain ⟨rfl, rfl⟩ := he
          obtain ⟨tp, p, hvar⟩ := hG.rng
          refine (Tryd.strconv_Atoi_range_var ⟨s.toArray⟩ hsz (by simpa using hv) tp p w (hk.var hvar)).mono fun e w' ⟨N, e1, _, _, e2⟩ => ?_
          obtain ⟨k1, k2⟩ := hR.below e2
          refine ⟨_, G, e1, k1, ?_, k2⟩
          simp only [RepC, RepA]
          refine ⟨_, rfl, ?_⟩
          simp only [RepAs, RepA, and_true, numErr]
          exact ⟨by simp [RepP], rep_err⟩
        · rename_i hn1 hn2
          have hv : ∀ v, Lib.atoiAll s ≠ .ok v := fun v e => hn1 v e
          have hv2 : Lib.atoiAll s ≠ .range := fun e => hn2 e
          simp only [Option.some.injEq, Prod.mk.injEq] at he
          obtain ⟨rfl, rfl⟩ := he
          obtain ⟨tp, p, hvar⟩ := hG.syn
          refine (Tryd.strconv_Atoi_syntax_var ⟨s.toArray⟩ hsz (by cases e : Lib.atoiAll s <;> first | exact absurd e (hv _) | exact absurd e hv2 | rfl) tp p w (hk.var hvar)).mono fun e w' ⟨N, e1, _, _, e2⟩ => ?_
          obtain ⟨k1, k2⟩ := hR.below e2
          refine ⟨_, G, e1, k1, ?_, k2⟩
          simp only [RepC, RepA]
          refine ⟨_, rfl, ?_⟩
          simp only [RepAs, RepA, and_true, numErr]
          exact ⟨by simp [RepP], rep_err⟩
      · simp at he
    · simp at he
  · -- Itoa
    simp only [Option.some.injEq] at hfg; subst hfg
    intro args h r h' he
    simp only at he
    refine ⟨ok24, fun G w vs hR hA => ?_⟩
    split at he
    · rename_i n
      split at he
      · rename_i hb
        simp only [Option.some.injEq, Prod.mk.injEq] at he
        obtain ⟨rfl, rfl⟩ := he
        obtain ⟨x, rfl, h1⟩ := RepAs1 hA
        simp only [RepA, RepP] at h1
        subst h1
        have hk := R.kept hR
        refine prim_plain (v := .string ⟨(Lib.itoa n).toArray⟩) hR ((Tryd.strconv_Itoa n hb.1 hb.2 w (hk.var hG.pow)).mono fun e w' ⟨e1, k, os, e2⟩ => ⟨e1, ?_⟩) ⟨rfl, by simp only [RepA, RepP]⟩
        rw [e2]
        exact below_grow (below_drewN (Below.refl _ _) k) (Nat.le_refl _) os
      · simp at he
    · simp at he
  · -- Cut
    simp only [Option.some.injEq] at hfg; subst hfg
    intro args h r h' he
    simp only at he
    refine ⟨ok27, fun G w vs hR hA => ?_⟩
    split at he
    · rename_i s p
      split at he
      · rename_i hs
        simp only [Option.some.injEq, Prod.mk.injEq] at he
        obtain ⟨rfl, rfl⟩ := he
        obtain ⟨x, y, rfl, h1, h2⟩ := RepAs2 hA
        simp only [RepA, RepP] at h1 h2
        subst h1; subst h2
        have hk := R.kept hR
        refine prim_plain (v := .tuple #[.string ⟨(Lib.cut s p).1.toArray⟩, .string ⟨(Lib.cut s p).2.1.toArray⟩, .bool (Lib.cut s p).2.2]) hR
          ((Tryd.strings_Cut_shaped ⟨s.toArray⟩ ⟨p.toArray⟩ w (hk.shaped (R.size_le hR) hG.shaped) (by simpa [ByteArray.size] using hs)).mono fun e w' ⟨e1, n, e2⟩ => ⟨e1, ?_⟩) ⟨rfl, ?_⟩
        · rw [e2]; exact below_drewN (Below.refl _ _) n
        · simp only [RepA]
          exact ⟨_, rfl, by simp [RepAs, RepA, RepP]⟩
      · simp at he
    · simp at he
  · -- DecodeRuneInString
    simp only [Option.some.injEq] at hfg; subst hfg
    intro args h r h' he
    simp only at he
    refine ⟨ok41, fun G w vs hR hA => ?_⟩
    split at he
    · rename_i s
      simp only [Option.some.injEq, Prod.mk.injEq] at he
      obtain ⟨rfl, rfl⟩ := he
      obtain ⟨x, rfl, h1⟩ := RepAs1 hA
      simp only [RepA, RepP] at h1
      subst h1
      have hk := R.kept hR
      have hd : Lib.decodeGo ⟨s.toArray⟩ = if s = [] then (65533, 0) else decodeL s := by
        unfold Lib.decodeGo
        by_cases h : s = []
        · subst h; rfl
        · rw [if_neg h, if_neg (by simpa [ByteArray.size] using h)]
          have := decodeL_eq s 0
          rw [List.drop_zero] at this
          exact this.symm
      refine prim_plain (v := .tuple #[.int .i32 (Lib.decodeGo ⟨s.toArray⟩).1, .int .i64 (Lib.decodeGo ⟨s.toArray⟩).2]) hR (Tryd.utf8_DecodeRuneInString ⟨s.toArray⟩ w (hk.u8 hG.u8)) ⟨rfl, ?_⟩
      simp only [RepA]
      refine ⟨_, rfl, ?_⟩
      rw [hd]
      by_cases h : s = [] <;> simp [RepAs, RepA, RepP, h]
    · simp at he
  · simp at hfg
end Go.Abs.A

namespace Go.Abs.A
open Go.Proofs
theorem m3 : matchFun Tryd.prog [] 3 f3 = true := by kernel_rfl
theorem m4 : matchFun Tryd.prog [] 4 f4 = true := by kernel_rfl
theorem m5 : matchFun Tryd.prog [] 5 f5 = true := by kernel_rfl
theorem m6 : matchFun Tryd.prog [] 6 f6 = true := by kernel_rfl
theorem m7 : matchFun Tryd.prog [] 7 f7 = true := by kernel_rfl
theorem m8 : matchFun Tryd.prog [] 8 f8 = true := by kernel_rfl
theorem m9 : matchFun Tryd.prog [] 9 f9 = true := by kernel_rfl
theorem m12 : matchFun Tryd.prog [] 12 f12 = true := by kernel_rfl
theorem m13 : matchFun Tryd.prog [] 13 f13 = true := by kernel_rfl
theorem m14 : matchFun Tryd.prog [] 14 f14 = true := by kernel_rfl
theorem m15 : matchFun Tryd.prog [] 15 f15 = true := by kernel_rfl
theorem m16 : matchFun Tryd.prog [] 16 f16 = true := by kernel_rfl
theorem m17 : matchFun Tryd.prog [] 17 f17 = true := by kernel_rfl
theorem m18 : matchFun Tryd.prog [] 18 f18 = true := by kernel_rfl
theorem m19 : matchFun Tryd.prog [] 19 f19 = true := by kernel_rfl
theorem m20 : matchFun Tryd.prog [] 20 f20 = true := by kernel_rfl
theorem m25 : matchFun Tryd.prog [] 25 f25 = true := by kernel_rfl
theorem m26 : matchFun Tryd.prog [] 26 f26 = true := by kernel_rfl
theorem m28 : matchFun Tryd.prog [] 28 f28 = true := by kernel_rfl
theorem m29 : matchFun Tryd.prog [] 29 f29 = true := by kernel_rfl
theorem m30 : matchFun Tryd.prog [] 30 f30 = true := by kernel_rfl
theorem m31 : matchFun Tryd.prog [] 31 f31 = true := by kernel_rfl
theorem m39 : matchFun Tryd.prog [] 39 f39 = true := by kernel_rfl
theorem m42 : matchFun Tryd.prog [] 42 f42 = true := by kernel_rfl
theorem m53 : matchFun Tryd.prog [] 53 f53 = true := by kernel_rfl
theorem match_all : ∀ f F, funs f = some F → matchFun Tryd.prog [] f F = true := by
  intro f F h
  unfold funs at h
  split at h
  · injection h with h; subst h; exact m3
  · injection h with h; subst h; exact m4
  · injection h with h; subst h; exact m5
  · injection h with h; subst h; exact m6
  · injection h with h; subst h; exact m7
  · injection h with h; subst h; exact m8
  · injection h with h; subst h; exact m9
  · injection h with h; subst h; exact m12
  · injection h with h; subst h; exact m13
  · injection h with h; subst h; exact m14
  · injection h with h; subst h; exact m15
  · injection h with h; subst h; exact m16
  · injection h with h; subst h; exact m17
  · injection h with h; subst h; exact m18
  · injection h with h; subst h; exact m19
  · injection h with h; subst h; exact m20
  · injection h with h; subst h; exact m25
  · injection h with h; subst h; exact m26
  · injection h with h; subst h; exact m28
  · injection h with h; subst h; exact m29
  · injection h with h; subst h; exact m30
  · injection h with h; subst h; exact m31
  · injection h with h; subst h; exact m39
  · injection h with h; subst h; exact m42
  · injection h with h; subst h; exact m53
  · cases h
theorem sound {W : World} (hG : Glob W) : @CallSound (baseOf W) Tryd.prog E :=
  letI : Base := baseOf W
  EV_sound (fun t f h => by cases h) (by kernel_rfl) (prim_sound hG) match_all
end Go.Abs.A
