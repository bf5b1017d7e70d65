/- The card of AdminParses: for every line and every error number the law returns true, and the arguments read as they did. Conditions: none beyond the card's own (the listed variables start as the program's text lays them). -/
import Derived.Test.YtjkjgloionfkgaaDoorPrima
import Derived.Test.YtjkjgloionfkgaaDoorSpe
import Derived.Test.YtjkjgloionfkgaaDoorCards
import Derived.Test.YtjkjgloionfkgaaDoorTie
import Derived.WalkKit
import Derived.ProofKit
import Derived.OpenShut
import Derived.Lay
import Derived.Deep.DeepHandedRow
import Derived.Lib.LaidTab
import Derived.Lib.LaidU8
import Derived.Stop.LaidErr
import Derived.SevenTiedAt
import Derived.RowKit3

namespace Go.Proofs.YtjkjgloionfkgaaDoor
open Go.ChangeShapes Go.WideShapes Go.ChangeAt Go.RowKit Go.ChangeMaps

theorem own : ownKnob Tryd.prog.godebug = none := by kernel_rfl
theorem gSyn : Tryd.prog.globalNamed "strconv.ErrSyntax" = some 1 := by kernel_rfl
theorem gRng : Tryd.prog.globalNamed "strconv.ErrRange" = some 2 := by kernel_rfl
theorem gSynT : (Tryd.prog.globals[1]?).map (·.type) = some 49 := by kernel_rfl
theorem gRngT : (Tryd.prog.globals[2]?).map (·.type) = some 49 := by kernel_rfl
theorem gPow : Tryd.prog.globalNamed "internal/strconv.uint64pow10" = some 5 := by kernel_rfl
theorem gPowT : (Tryd.prog.globals[5]?).map (·.type) = some 106 := by kernel_rfl
theorem cells9 : Tryd.prog.cellsOf 9 = 1 := by kernel_rfl
theorem cells104 : Tryd.prog.cellsOf 104 = 1 := by kernel_rfl
theorem cells106 : Tryd.prog.cellsOf 106 = 20 := by kernel_rfl
theorem cells81 : Tryd.prog.cellsOf 81 = 1 := by kernel_rfl
theorem star : "*" ++ "errors.errorString" = "*errors.errorString" := by decide
theorem row102 (u : TypeId) (h : Tryd.prog.typeName? 3 u = some "*errors.errorString") : u = 102 :=
  typeName_ptr_named (nm := "errors.errorString") (by rw [star]; kernel_rfl) (by kernel_rfl) (by decide) u (by rw [star]; exact h)

/-- What the row's list gives. -/
theorem glob {W : World} (hS : W.ShapedOpen Tryd.prog) (hL : laidMetH Tryd.prog Rows.adminParsesRow.laid W) : Go.Abs.A.Glob W := by
  rw [MakeChecks.laidMetH_plain _ _ _ (by kernel_rfl)] at hL
  have hpow : laidMet Tryd.prog (("internal/strconv.uint64pow10", Lib.tabData .u64 Lib.pow10Tab) :: Rows.adminParsesRow.laid.drop 3) W := hL.tail.tail
  have hrng := hpow.tail.tail
  have hsyn := hrng.tail
  obtain ⟨a1, s1, v1, _⟩ := laid_sentinel hsyn gSyn gSynT Tryd.underlying49 row102 Tryd.underlying102 Tryd.underlying104 rfl rfl Tryd.underlying9 cells104 cells9
  obtain ⟨a2, s2, v2, _⟩ := laid_sentinel hrng gRng gRngT Tryd.underlying49 row102 Tryd.underlying102 Tryd.underlying104 rfl rfl Tryd.underlying9 cells104 cells9
  have hfirst : Lib.VarReads Tryd.prog W "unicode/utf8.first" Lib.firstData := Lib.laidMet.reads hL (by
    have : Lib.firstData = Rows.laid_unicode_utf8_first := by kernel_rfl
    rw [this]
    simp [Rows.adminParsesRow])
  have hacc : Lib.VarReads Tryd.prog W "unicode/utf8.acceptRanges" Lib.acceptData := Lib.laidMet.reads hL (by
    have : Lib.acceptData = Rows.laid_unicode_utf8_acceptRanges := by kernel_rfl
    rw [this]
    simp [Rows.adminParsesRow])
  exact ⟨hS, Lib.tabIs_of_head (rest := Rows.adminParsesRow.laid.drop 3) gPow gPowT Tryd.underlying106 Tryd.underlying81 cells81 cells106 hpow,
    utf8Tabs_of_reads Tryd.lays260 ⟨by kernel_rfl, by kernel_rfl, by kernel_rfl, by kernel_rfl, by kernel_rfl, by kernel_rfl, by kernel_rfl⟩ hfirst hacc, ⟨_, _, v1⟩, ⟨_, _, v2⟩⟩

/-- The walk. -/
theorem walk {W : World} (hG : Go.Abs.A.Glob W) (s : ByteArray) (e : Int) :
    Calls Tryd.prog 3 #[.string s, .int .i64 e] W fun x w' => x = .returned (.bool true) ∧ Below W.heap.size W w' := by
  letI : Go.Abs.Base := Go.Abs.baseOf W
  have hr := Go.Abs.A.adminParses_true s.data.toList e
  unfold Go.Abs.ret1 at hr
  simp only [Option.map_eq_some_iff] at hr
  obtain ⟨⟨r, h'⟩, h1, h2⟩ := hr
  simp only at h2
  subst h2
  obtain ⟨_, hC⟩ := Go.Abs.A.sound hG 3 _ [] _ _ h1
  have hR : Go.Abs.R Go.Abs.F0 ⟨fun _ _ => none, fun _ => none, []⟩ (Go.Abs.S0 []) #[] W := by
    refine ⟨fun b o v h => by simp at h, fun b o h => by simp at h, fun b o h => ⟨h, rfl⟩, fun b h => by simp at h, rfl, fun κ κ' n h => by cases κ <;> simp [Go.Abs.slotK, Go.Abs.F0] at h, fun i a h => by simp [Go.Abs.S0] at h,
      fun i a h => by simp [Go.Abs.S0] at h, fun l o h => by simp [Go.Abs.S0] at h⟩
  have hA : Go.Abs.RepAs (fun _ _ => none) [] [.p (.str s.data.toList), .p (.int .i64 e)] [.string s, .int .i64 e] := by
    simp only [Go.Abs.RepAs, Go.Abs.RepA, Go.Abs.RepP, Go.Abs.A.strOf, and_self]
  refine (hC _ W _ hR hA).mono fun x w' ⟨v, G', e1, _, e3, e4⟩ => ?_
  simp only [Go.Abs.RepC, Go.Abs.RepA, Go.Abs.RepP] at e3
  subst e3
  exact ⟨e1, e4.os, e4.tape, e4.output, e4.size, fun k hk => (e4.unowned k hk rfl).1⟩

set_option maxRecDepth 100000 in
theorem contract (H : Type) (enc : TypeId × Value → H) (W : World) (base : Nat) (args : Array Value) (ds gs : List (DataW H)) (before : List MemPlace)
    (hval : ∀ (j : Nat) t v, Tryd.f3.params[j]? = some t → args[j]? = some v → Value.okWide Tryd.prog W .any base t v)
    (hW : DataW.Whole enc Tryd.prog Tryd.f3.params.toList Rows.adminParsesSpec.vars false W args.toList ds gs before) (hL : laidMetH Tryd.prog Rows.adminParsesRow.laid W) (hS : W.ShapedOpen Tryd.prog) :
    Calls Tryd.prog 3 args W fun e W' => ∃ v, e = .returned v ∧ Rows.adminParsesSpec.post enc Tryd.prog Tryd.f3 false true false false W args v W' := by
  have hW' := hW
  obtain ⟨p, q, hA0, hV, rfl, hfz, hnd⟩ := hW
  have hA : DataW.TrodAll enc Tryd.prog W 0 (fun _ => true) true Tryd.f3.params.toList args.toList ds p := hA0
  rw [Tryd.params3] at hA hval
  obtain ⟨v0, v1, d0, d1, p0, p1, rfl, rfl, rfl, h0, h1⟩ := trodAll_two hA
  obtain ⟨rfl, rfl⟩ := trodVars_none hV
  obtain ⟨s, rfl, rfl, rfl, ws⟩ := open_string Tryd.underlying9 (hval 0 9 v0 rfl rfl) h0
  obtain ⟨e, rfl, rfl, rfl, we⟩ := open_int Tryd.underlying3 (hval 1 3 v1 rfl rfl) h1
  clear hA0
  simp only [List.append_nil] at hW'
  refine (walk (glob hS hL) s e).mono fun x W' ⟨he, hb⟩ => ?_
  subst he
  exact ⟨_, rfl, _, _, _, [], [], [], hW', trodAll_mk1 (shut_bool Tryd.underlying4 _), trodAll_mk2 (shut_string Tryd.underlying9 ws) (shut_int Tryd.underlying3 we), rfl, hb.frame _, fun h => by cases h⟩

set_option maxRecDepth 100000 in
theorem lifted (os : Os) (started : os.Started) (H : Type) (enc : TypeId × Value → H) (F : Stop.Interp) :
    ReturnsInHanded {} Tryd.checked os 3 .any ((OpenSpec.ofChange Rows.adminParsesSpec).preRow enc Tryd.prog Tryd.f3 Rows.adminParsesRow.domain false Rows.adminParsesRow.laid) (((OpenSpec.ofChange Rows.adminParsesSpec).at F).post enc Tryd.prog Tryd.f3 false true false false) := by
  refine returnsInHanded_of_row (C := Tryd.checked) (s := OpenSpec.ofChange Rows.adminParsesSpec) own started (by kernel_rfl) Tryd.func3
    (ChangeSpec.witness_shaped (enc := enc) (C := Tryd.checked) (os := os) (s := Rows.adminParsesSpec) (X := fun w _ => laidMetH Tryd.prog Rows.adminParsesRow.laid w) false (World.laidAll Tryd.prog os Rows.adminParsesRow.laid) #[.string ⟨#[]⟩, .int .i64 0] 8 (World.laidAll_os _ _ _)
      (World.shaped_of_ZipB (by kernel_rfl) (by kernel_rfl)) (by kernel_rfl) (by kernel_rfl) (by kernel_rfl)
      (by rw [MakeChecks.laidMetH_plain _ _ _ (by kernel_rfl)]; exact laidMet_laidAll _ (by kernel_rfl) (by kernel_rfl))) ?_
  intro W base args ds gs before hval hW _ _ _ hL hS _
  exact contract H enc W base args ds gs before hval hW hL hS

theorem said : Rows.AdminParsesSaid :=
  OpenClaim.holds_of_cond 3 Tryd.f3 rfl rfl rfl rfl rfl rfl rfl ⟨rfl, rfl, rfl, rfl, rfl⟩ rfl rfl rfl rfl rfl (by kernel_rfl) Tryd.func3 (by kernel_rfl)
    (of_decide_eq_true (by kernel_rfl)) (by unfold Func.isWrapper; first | (rw [if_pos (by decide +kernel)]; kernel_rfl) | (rw [if_neg (by decide +kernel)]; exact ⟨rfl, rfl⟩))
    (fun os started H enc _ F => by rw [OpenClaim.pre_eq_preRow]; exact lifted os started H enc F)
/-- No parameter wants a stand-in. -/
theorem plain (f : FuncId) (fn : Func) (hf : Tryd.pinned.checked.prog.funcNamed "tumbrel/tumbrellaw23.AdminParses" = some f) (hfn : Tryd.pinned.checked.prog.funcs[f]? = some fn) :
    true = Tryd.pinned.checked.prog.looks [] ∧ ∀ (j : Nat) t, fn.params[j]? = some t → Tryd.pinned.checked.prog.wantsStandIn t = false := by
  obtain rfl : f = 3 := Option.some.inj ((show Tryd.prog.funcNamed "tumbrel/tumbrellaw23.AdminParses" = some 3 by kernel_rfl).symm.trans hf) |>.symm
  obtain rfl : fn = Tryd.f3 := (Option.some.inj (Tryd.func3.symm.trans hfn)).symm
  refine ⟨by kernel_rfl, fun j t ht => ?_⟩
  rw [Tryd.params3] at ht
  have hm : t ∈ [9, 3] := by simpa using Array.mem_of_getElem? ht
  have hall : ([9, 3].all fun u => !Tryd.prog.wantsStandIn u) = true := by kernel_rfl
  exact (show Tryd.prog.wantsStandIn t = false by simpa using List.all_eq_true.1 hall t hm)
/-- The card. -/
theorem adminParses_card : Rows.AdminParsesCardSaid :=
  Claim7.holds_tied_plain_at .later [] _ _ _ _ said (fun _ h => by cases h) (by kernel_rfl) (fun _ h => by cases h) adminParses_row_tie rfl ⟨rfl, rfl⟩ (by kernel_rfl) rfl plain (by kernel_rfl)
#print axioms adminParses_card
end Go.Proofs.YtjkjgloionfkgaaDoor
