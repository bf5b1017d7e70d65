/- The code of the functions that the laws reach, as the evaluator has it: printed by a program (emit.py). -/
import Derived.Test.YtjkjgloionfkgaaDoorLim

namespace Go.Abs.A
open PV Opd Sh AOp ACode Res Part BOp UOp EqK
/- tumbrel/tumbrellaw23.AdminParses -/
def f3 : AFun := ⟨2, 8, [0, 1, 4, 5, 6, 7, 8, 15], [.v 2],
 .seq (.reg [] [{op := .asg (.k (.bool false)), d := some 2}])
 (.seq (.seq (.reg [] [{op := .call false 4 []}, {op := .un .not (.t 0)}, {op := .mv (.t 1)}, {op := .mv (.v 0), g := some (.t 2, false)}, {op := .slen (.t 3), g := some (.t 2, false)}, {op := .bin .gtr (.t 4) (.k (.int .i64 20000)), g := some (.t 2, false)}, {op := .pick (.t 2) (.k (.bool true)) (.t 5), d := some 7}])
  (.ifc (.v 7) (.seq (.reg [] [{op := .call false 4 []}, {op := .asg (.t 0), d := some 2}])
   (.ret)) (.skip)))
 (.seq (.reg [] [{op := .mv (.v 0)}, {op := .call false 5 [(.t 0)]}, {op := .mv (.t 1)}, {op := .ext (.t 2) 0}, {op := .ext (.t 2) 1}, {op := .asg (.t 3), d := some 3}, {op := .asg (.t 4), d := some 4}])
 (.seq (.reg [] [{op := .mv (.v 0)}, {op := .call false 6 [(.t 0)]}, {op := .mv (.t 1)}, {op := .ext (.t 2) 0}, {op := .ext (.t 2) 1}, {op := .asg (.t 3), d := some 5}, {op := .asg (.t 4), d := some 6}])
 (.seq (.reg [] [{op := .mv (.v 3)}, {op := .mv (.v 5)}, {op := .call false 7 [(.t 0), (.t 1)]}, {op := .mv (.t 2)}, {op := .mv (.v 4), g := some (.t 3, true)}, {op := .mv (.v 6), g := some (.t 3, true)}, {op := .bin .eql (.t 4) (.t 5), g := some (.t 3, true)}, {op := .pick (.t 3) (.t 6) (.k (.bool false))}, {op := .mv (.t 7)}, {op := .mv (.v 1), g := some (.t 8, true)}, {op := .call false 8 [(.t 9)], g := some (.t 8, true)}, {op := .mv (.v 1), g := some (.t 8, true)}, {op := .call false 9 [(.t 11)], g := some (.t 8, true)}, {op := .bin .eql (.t 10) (.t 12), g := some (.t 8, true)}, {op := .pick (.t 8) (.t 13) (.k (.bool false))}, {op := .asg (.t 14), d := some 2}])
 (.ret)))))⟩

/- tumbrel/tumbrellaw23.awake -/
def f4 : AFun := ⟨0, 1, [0], [.v 0],
 .seq (.reg [] [{op := .asg (.k (.bool false)), d := some 0}])
 (.seq (.reg [] [{op := .call false 8 [(.k (.int .i64 5))]}, {op := .bin .eql (.t 0) (.k (.str [110, 111, 110, 101]))}, {op := .asg (.t 1), d := some 0}])
 (.ret))⟩

def f5_b0 : ACode :=
 .seq (.reg [] [{op := .bin .lss (.v 15) (.v 14), d := some 16}])
 (.seq (.ifc (.v 16) (.skip) (.exit 0))
 (.seq (.blk 1 [5, 6, 13, 14, 15] (.seq (.reg [] [{op := .mv (.v 15)}, {op := .iaddr (.v 13) (.v 15) 1 .s}, {op := .ld (.t 1) .s}, {op := .asg (.t 0), d := some 8}, {op := .asg (.t 2), d := some 9}])
   (.seq (.seq (.reg [] [{op := .mv (.v 6)}, {op := .mv (.v 8)}, {op := .idx (.t 0) (.t 1), d := some 17}])
    (.blk 2 [5, 6, 7, 13, 14, 15] (.seq (.reg [] [{op := .bin .eql (.v 17) (.k (.int .u8 105))}, {op := .asg (.t 0), d := some 18}])
     (.ifc (.v 18) (.reg [] [{op := .mv (.v 9)}, {op := .call false 13 [(.t 0)]}, {op := .mv (.t 1)}, {op := .ext (.t 2) 0}, {op := .ext (.t 2) 1}, {op := .asg (.t 4), d := some 7}]) (.seq (.reg [] [{op := .bin .eql (.v 17) (.k (.int .u8 110))}, {op := .asg (.t 0), d := some 19}])
      (.ifc (.v 19) (.reg [] [{op := .mv (.v 9)}, {op := .call false 14 [(.t 0)]}, {op := .asg (.t 1), d := some 7}]) (.reg [] [{op := .mv (.v 9)}, {op := .call false 15 [(.t 0)]}, {op := .mv (.t 1)}, {op := .ext (.t 2) 0}, {op := .ext (.t 2) 1}, {op := .asg (.t 4), d := some 7}])))))))
   (.seq (.reg [] [{op := .mv (.v 7)}, {op := .un .not (.t 0), d := some 20}])
   (.ifc (.v 20) (.seq (.reg [] [{op := .asg (.k (.nilS 1)), d := some 1}, {op := .asg (.k (.int .i64 2)), d := some 2}])
    (.ret)) (.skip))))))
 (.reg [] [{op := .bin .add (.v 15) (.k (.int .i64 1))}, {op := .mv (.t 0), d := some 15}])))
def f5_l0 : ACode := f5_b0
theorem f5_l0_ev {c : Calls} {s : St} : evC c f5_l0 s = evC c f5_b0 s := rfl
def f5_k1 : ACode :=
 .seq (.reg [] [{op := .mv (.v 5)}, {op := .asg (.t 0), d := some 1}, {op := .asg (.k (.int .i64 0)), d := some 2}])
 (.ret)
/- tumbrel/admin.Parse -/
def f5 : AFun := ⟨1, 21, [0, 2, 3, 4, 5, 6, 7, 8, 9, 10, 13, 19, 40, 42, 43, 44, 45, 51, 57, 64, 69], [.v 1, .v 2],
 .seq (.reg [] [{op := .asg (.k (.nilS 1)), d := some 1}, {op := .asg (.k (.int .i64 0)), d := some 2}])
 (.seq (.seq (.reg [] [{op := .mv (.v 0)}, {op := .slen (.t 0)}, {op := .bin .gtr (.t 1) (.k (.int .i64 13000)), d := some 10}])
  (.ifc (.v 10) (.seq (.reg [] [{op := .asg (.k (.nilS 1)), d := some 1}, {op := .asg (.k (.int .i64 4)), d := some 2}])
   (.ret)) (.skip)))
 (.seq (.seq (.reg [] [{op := .mv (.v 0)}, {op := .call false 10 [(.t 0), (.k (.str [97, 100, 100, 32]))]}, {op := .mv (.t 1)}, {op := .ext (.t 2) 0}, {op := .ext (.t 2) 1}, {op := .asg (.t 3), d := some 3}, {op := .asg (.t 4), d := some 4}])
  (.seq (.reg [] [{op := .mv (.v 4), d := some 11}])
  (.ifc (.v 11) (.seq (.reg [] [{op := .mv (.v 3)}, {op := .bslice true 1 [((.k (.str [97, 100, 100])), .s), ((.t 0), .s)]}, {op := .asg (.t 1), d := some 1}, {op := .asg (.k (.int .i64 0)), d := some 2}])
   (.ret)) (.skip))))
 (.seq (.reg [] [{op := .mv (.v 0)}, {op := .call false 11 [(.t 0), (.k (.str [32]))]}, {op := .asg (.t 1), d := some 5}])
 (.seq (.reg [] [{op := .mv (.v 5)}, {op := .iaddr (.t 0) (.k (.int .i64 0)) 1 .s}, {op := .ld (.t 1) .s}, {op := .call false 12 [(.t 2)]}, {op := .mv (.t 3)}, {op := .ext (.t 4) 0}, {op := .ext (.t 4) 1}, {op := .asg (.t 5), d := some 6}, {op := .asg (.t 6), d := some 7}])
 (.seq (.seq (.reg [] [{op := .mv (.v 7)}, {op := .un .not (.t 0)}, {op := .mv (.t 1)}, {op := .mv (.v 5), g := some (.t 2, false)}, {op := .len (.t 3), g := some (.t 2, false)}, {op := .mv (.v 6), g := some (.t 2, false)}, {op := .slen (.t 5), g := some (.t 2, false)}, {op := .bin .add (.t 6) (.k (.int .i64 1)), g := some (.t 2, false)}, {op := .bin .neq (.t 4) (.t 7), g := some (.t 2, false)}, {op := .pick (.t 2) (.k (.bool true)) (.t 8), d := some 12}])
  (.ifc (.v 12) (.seq (.reg [] [{op := .asg (.k (.nilS 1)), d := some 1}, {op := .asg (.k (.int .i64 2)), d := some 2}])
   (.ret)) (.skip)))
 (.seq (.seq (.reg [] [{op := .mv (.v 5)}, {op := .slc (.t 0) (some (.k (.int .i64 1))) none 1, d := some 13}, {op := .len (.v 13), d := some 14}, {op := .mv (.k (.int .i64 0)), d := some 15}])
  (.blk 0 [5] (.loop [5, 6, 13, 14, 15] f5_l0))) f5_k1))))))⟩

def f6_b0 : ACode :=
 .seq (.reg [] [{op := .bin .lss (.v 11) (.v 10), d := some 12}])
 (.seq (.ifc (.v 12) (.skip) (.exit 0))
 (.seq (.blk 1 [3, 4, 5, 10, 11] (.seq (.reg [] [{op := .mv (.v 11)}, {op := .asg (.t 0), d := some 6}])
   (.seq (.seq (.reg [] [{op := .mv (.v 4)}, {op := .mv (.v 6)}, {op := .iaddr (.t 0) (.t 1) 1 .s}, {op := .ld (.t 2) .s, d := some 13}])
    (.blk 2 [3, 4, 5, 10, 11] (.seq (.reg [] [{op := .bin .eql (.v 13) (.k (.int .i64 1))}, {op := .asg (.t 0), d := some 14}])
     (.ifc (.v 14) (.reg [] [{op := .mv (.v 3)}, {op := .mv (.v 6)}, {op := .bin .add (.t 1) (.k (.int .i64 1))}, {op := .iaddr (.t 0) (.t 2) 1 .s}, {op := .ld (.t 3) .s}, {op := .call false 18 [(.t 4)]}, {op := .mv (.t 5)}, {op := .ext (.t 6) 0}, {op := .ext (.t 6) 1}, {op := .asg (.t 8), d := some 5}]) (.seq (.reg [] [{op := .bin .eql (.v 13) (.k (.int .i64 2))}, {op := .asg (.t 0), d := some 15}])
      (.ifc (.v 15) (.reg [] [{op := .mv (.v 3)}, {op := .mv (.v 6)}, {op := .bin .add (.t 1) (.k (.int .i64 1))}, {op := .iaddr (.t 0) (.t 2) 1 .s}, {op := .ld (.t 3) .s}, {op := .call false 19 [(.t 4)]}, {op := .asg (.t 5), d := some 5}]) (.seq (.reg [] [{op := .bin .eql (.v 13) (.k (.int .i64 3))}, {op := .asg (.t 0), d := some 16}])
       (.ifc (.v 16) (.reg [] [{op := .mv (.v 3)}, {op := .mv (.v 6)}, {op := .bin .add (.t 1) (.k (.int .i64 1))}, {op := .iaddr (.t 0) (.t 2) 1 .s}, {op := .ld (.t 3) .s}, {op := .call false 20 [(.t 4)]}, {op := .mv (.t 5)}, {op := .ext (.t 6) 0}, {op := .ext (.t 6) 1}, {op := .asg (.t 8), d := some 5}]) (.skip)))))))))
   (.seq (.reg [] [{op := .mv (.v 5)}, {op := .un .not (.t 0), d := some 17}])
   (.ifc (.v 17) (.seq (.reg [] [{op := .asg (.k (.nilS 1)), d := some 1}, {op := .asg (.k (.int .i64 2)), d := some 2}])
    (.ret)) (.skip))))))
 (.reg [] [{op := .bin .add (.v 11) (.k (.int .i64 1))}, {op := .mv (.t 0), d := some 11}])))
def f6_l0 : ACode := f6_b0
theorem f6_l0_ev {c : Calls} {s : St} : evC c f6_l0 s = evC c f6_b0 s := rfl
def f6_k1 : ACode :=
 .seq (.reg [] [{op := .mv (.v 3)}, {op := .asg (.t 0), d := some 1}, {op := .asg (.k (.int .i64 0)), d := some 2}])
 (.ret)
/- tumbrel/tumbrelref23.Parse -/
def f6 : AFun := ⟨1, 18, [0, 2, 3, 4, 5, 6, 7, 10, 18, 40, 42, 43, 44, 49, 50, 61, 69, 81], [.v 1, .v 2],
 .seq (.reg [] [{op := .asg (.k (.nilS 1)), d := some 1}, {op := .asg (.k (.int .i64 0)), d := some 2}])
 (.seq (.seq (.reg [] [{op := .mv (.v 0)}, {op := .slen (.t 0)}, {op := .bin .gtr (.t 1) (.k (.int .i64 13000)), d := some 7}])
  (.ifc (.v 7) (.seq (.reg [] [{op := .asg (.k (.nilS 1)), d := some 1}, {op := .asg (.k (.int .i64 4)), d := some 2}])
   (.ret)) (.skip)))
 (.seq (.seq (.reg [] [{op := .mv (.v 0)}, {op := .slen (.t 0)}, {op := .bin .geq (.t 1) (.k (.int .i64 4))}, {op := .mv (.t 2)}, {op := .mv (.v 0), g := some (.t 3, true)}, {op := .sslc (.t 4) none (some (.k (.int .i64 4))), g := some (.t 3, true)}, {op := .bin .eql (.t 5) (.k (.str [97, 100, 100, 32])), g := some (.t 3, true)}, {op := .pick (.t 3) (.t 6) (.k (.bool false)), d := some 8}])
  (.ifc (.v 8) (.seq (.reg [] [{op := .mv (.v 0)}, {op := .sslc (.t 0) (some (.k (.int .i64 4))) none}, {op := .bslice true 1 [((.k (.str [97, 100, 100])), .s), ((.t 1), .s)]}, {op := .asg (.t 2), d := some 1}, {op := .asg (.k (.int .i64 0)), d := some 2}])
   (.ret)) (.skip)))
 (.seq (.reg [] [{op := .mv (.v 0)}, {op := .call false 16 [(.t 0), (.k (.int .u8 32))]}, {op := .asg (.t 1), d := some 3}])
 (.seq (.reg [] [{op := .mv (.v 3)}, {op := .iaddr (.t 0) (.k (.int .i64 0)) 1 .s}, {op := .ld (.t 1) .s}, {op := .call false 17 [(.t 2)]}, {op := .mv (.t 3)}, {op := .ext (.t 4) 0}, {op := .ext (.t 4) 1}, {op := .asg (.t 5), d := some 4}, {op := .asg (.t 6), d := some 5}])
 (.seq (.seq (.reg [] [{op := .mv (.v 5)}, {op := .un .not (.t 0)}, {op := .mv (.t 1)}, {op := .mv (.v 3), g := some (.t 2, false)}, {op := .len (.t 3), g := some (.t 2, false)}, {op := .mv (.v 4), g := some (.t 2, false)}, {op := .len (.t 5), g := some (.t 2, false)}, {op := .bin .add (.t 6) (.k (.int .i64 1)), g := some (.t 2, false)}, {op := .bin .neq (.t 4) (.t 7), g := some (.t 2, false)}, {op := .pick (.t 2) (.k (.bool true)) (.t 8), d := some 9}])
  (.ifc (.v 9) (.seq (.reg [] [{op := .asg (.k (.nilS 1)), d := some 1}, {op := .asg (.k (.int .i64 2)), d := some 2}])
   (.ret)) (.skip)))
 (.seq (.seq (.reg [] [{op := .mv (.v 4)}, {op := .len (.t 0), d := some 10}, {op := .mv (.k (.int .i64 0)), d := some 11}])
  (.blk 0 [3] (.loop [3, 4, 5, 10, 11] f6_l0))) f6_k1))))))⟩

def f7_b0 : ACode :=
 .seq (.reg [] [{op := .bin .lss (.v 6) (.v 5), d := some 7}])
 (.seq (.ifc (.v 7) (.skip) (.exit 0))
 (.seq (.blk 1 [0, 1, 5, 6] (.seq (.reg [] [{op := .mv (.v 6)}, {op := .asg (.t 0), d := some 3}])
   (.seq (.dreg [] [{op := .mv (.v 0)}, {op := .mv (.v 3)}, {op := .iaddr (.t 0) (.t 1) 1 .s, D := [0, 1]}, {op := .ld (.t 2) .s, D := [0, 1, 2]}, {op := .mv (.v 1)}, {op := .mv (.v 3)}, {op := .iaddr (.t 4) (.t 5) 1 .s, D := [4, 5]}, {op := .ld (.t 6) .s, D := [4, 5, 6]}, {op := .bin .neq (.t 3) (.t 7), d := some 8, D := [0, 1, 2, 3, 4, 5, 6, 7]}] [⟨[0, 1, 2, 3, 4, 5, 6, 7], [], some 8⟩, ⟨[], [], none⟩])
   (.ifc (.v 8) (.seq (.reg [] [{op := .asg (.k (.bool false)), d := some 2}])
    (.ret)) (.skip)))))
 (.reg [] [{op := .bin .add (.v 6) (.k (.int .i64 1))}, {op := .mv (.t 0), d := some 6}])))
def f7_l0 : ACode := f7_b0
theorem f7_l0_ev {c : Calls} {s : St} : evC c f7_l0 s = evC c f7_b0 s := rfl
def f7_k1 : ACode :=
 .seq (.reg [] [{op := .asg (.k (.bool true)), d := some 2}])
 (.ret)
/- tumbrel/tumbrellaw23.same -/
def f7 : AFun := ⟨2, 9, [0, 1, 4, 5, 10, 12, 13, 14, 24], [.v 2],
 .seq (.reg [] [{op := .asg (.k (.bool false)), d := some 2}])
 (.seq (.seq (.reg [] [{op := .mv (.v 0)}, {op := .len (.t 0)}, {op := .mv (.v 1)}, {op := .len (.t 2)}, {op := .bin .neq (.t 1) (.t 3), d := some 4}])
  (.ifc (.v 4) (.seq (.reg [] [{op := .asg (.k (.bool false)), d := some 2}])
   (.ret)) (.skip)))
 (.seq (.seq (.reg [] [{op := .mv (.v 0)}, {op := .len (.t 0), d := some 5}, {op := .mv (.k (.int .i64 0)), d := some 6}])
  (.blk 0 [] (.loop [0, 1, 5, 6] f7_l0))) f7_k1))⟩

/- tumbrel/admin.Word -/
def f8 : AFun := ⟨1, 4, [0, 2, 3, 12], [.v 1],
 .seq (.reg [] [{op := .asg (.k (.str [])), d := some 1}])
 (.seq (.reg [] [{op := .bslice true 1 [((.k (.str [])), .s), ((.k (.str [97, 114, 103])), .s), ((.k (.str [102, 111, 114, 109])), .s), ((.k (.str [114, 97, 110, 103, 101])), .s), ((.k (.str [108, 111, 110, 103])), .s), ((.k (.str [110, 111, 110, 101])), .s), ((.k (.str [101, 120, 105, 115, 116, 115])), .s), ((.k (.str [102, 117, 108, 108])), .s), ((.k (.str [108, 111, 115, 116])), .s), ((.k (.str [98, 97, 100])), .s), ((.k (.str [115, 116, 97, 116, 101])), .s), ((.k (.str [119, 111, 114, 100])), .s), ((.k (.str [115, 121, 110, 116, 97, 120])), .s), ((.k (.str [100, 101, 101, 112])), .s), ((.k (.str [110, 97, 109, 101])), .s), ((.k (.str [116, 97, 114, 103, 101, 116])), .s), ((.k (.str [108, 101, 97, 102])), .s), ((.k (.str [98, 97, 99, 107])), .s), ((.k (.str [109, 97, 112])), .s)]}, {op := .asg (.t 0), d := some 2}])
 (.seq (.seq (.reg [] [{op := .mv (.v 0)}, {op := .bin .lss (.t 0) (.k (.int .i64 0))}, {op := .mv (.t 1)}, {op := .mv (.v 0), g := some (.t 2, false)}, {op := .mv (.v 2), g := some (.t 2, false)}, {op := .len (.t 4), g := some (.t 2, false)}, {op := .bin .geq (.t 3) (.t 5), g := some (.t 2, false)}, {op := .pick (.t 2) (.k (.bool true)) (.t 6), d := some 3}])
  (.ifc (.v 3) (.seq (.reg [] [{op := .asg (.k (.str [])), d := some 1}])
   (.ret)) (.skip)))
 (.seq (.reg [] [{op := .mv (.v 2)}, {op := .mv (.v 0)}, {op := .iaddr (.t 0) (.t 1) 1 .s}, {op := .ld (.t 2) .s}, {op := .asg (.t 3), d := some 1}])
 (.ret))))⟩

/- tumbrel/tumbrelref23.Word -/
def f9 : AFun := ⟨1, 21, [0, 2, 3, 4, 6, 8, 10, 12, 14, 16, 18, 20, 22, 24, 26, 28, 30, 32, 34, 36, 38], [.v 1],
 .seq (.reg [] [{op := .asg (.k (.str [])), d := some 1}])
 (.seq (.seq (.reg [] [{op := .mv (.v 0), d := some 2}])
  (.blk 0 [] (.seq (.reg [] [{op := .bin .eql (.v 2) (.k (.int .i64 1))}, {op := .asg (.t 0), d := some 3}])
   (.ifc (.v 3) (.seq (.reg [] [{op := .asg (.k (.str [97, 114, 103])), d := some 1}])
    (.ret)) (.seq (.reg [] [{op := .bin .eql (.v 2) (.k (.int .i64 2))}, {op := .asg (.t 0), d := some 4}])
    (.ifc (.v 4) (.seq (.reg [] [{op := .asg (.k (.str [102, 111, 114, 109])), d := some 1}])
     (.ret)) (.seq (.reg [] [{op := .bin .eql (.v 2) (.k (.int .i64 3))}, {op := .asg (.t 0), d := some 5}])
     (.ifc (.v 5) (.seq (.reg [] [{op := .asg (.k (.str [114, 97, 110, 103, 101])), d := some 1}])
      (.ret)) (.seq (.reg [] [{op := .bin .eql (.v 2) (.k (.int .i64 4))}, {op := .asg (.t 0), d := some 6}])
      (.ifc (.v 6) (.seq (.reg [] [{op := .asg (.k (.str [108, 111, 110, 103])), d := some 1}])
       (.ret)) (.seq (.reg [] [{op := .bin .eql (.v 2) (.k (.int .i64 5))}, {op := .asg (.t 0), d := some 7}])
       (.ifc (.v 7) (.seq (.reg [] [{op := .asg (.k (.str [110, 111, 110, 101])), d := some 1}])
        (.ret)) (.seq (.reg [] [{op := .bin .eql (.v 2) (.k (.int .i64 6))}, {op := .asg (.t 0), d := some 8}])
        (.ifc (.v 8) (.seq (.reg [] [{op := .asg (.k (.str [101, 120, 105, 115, 116, 115])), d := some 1}])
         (.ret)) (.seq (.reg [] [{op := .bin .eql (.v 2) (.k (.int .i64 7))}, {op := .asg (.t 0), d := some 9}])
         (.ifc (.v 9) (.seq (.reg [] [{op := .asg (.k (.str [102, 117, 108, 108])), d := some 1}])
          (.ret)) (.seq (.reg [] [{op := .bin .eql (.v 2) (.k (.int .i64 8))}, {op := .asg (.t 0), d := some 10}])
          (.ifc (.v 10) (.seq (.reg [] [{op := .asg (.k (.str [108, 111, 115, 116])), d := some 1}])
           (.ret)) (.seq (.reg [] [{op := .bin .eql (.v 2) (.k (.int .i64 9))}, {op := .asg (.t 0), d := some 11}])
           (.ifc (.v 11) (.seq (.reg [] [{op := .asg (.k (.str [98, 97, 100])), d := some 1}])
            (.ret)) (.seq (.reg [] [{op := .bin .eql (.v 2) (.k (.int .i64 10))}, {op := .asg (.t 0), d := some 12}])
            (.ifc (.v 12) (.seq (.reg [] [{op := .asg (.k (.str [115, 116, 97, 116, 101])), d := some 1}])
             (.ret)) (.seq (.reg [] [{op := .bin .eql (.v 2) (.k (.int .i64 11))}, {op := .asg (.t 0), d := some 13}])
             (.ifc (.v 13) (.seq (.reg [] [{op := .asg (.k (.str [119, 111, 114, 100])), d := some 1}])
              (.ret)) (.seq (.reg [] [{op := .bin .eql (.v 2) (.k (.int .i64 12))}, {op := .asg (.t 0), d := some 14}])
              (.ifc (.v 14) (.seq (.reg [] [{op := .asg (.k (.str [115, 121, 110, 116, 97, 120])), d := some 1}])
               (.ret)) (.seq (.reg [] [{op := .bin .eql (.v 2) (.k (.int .i64 13))}, {op := .asg (.t 0), d := some 15}])
               (.ifc (.v 15) (.seq (.reg [] [{op := .asg (.k (.str [100, 101, 101, 112])), d := some 1}])
                (.ret)) (.seq (.reg [] [{op := .bin .eql (.v 2) (.k (.int .i64 14))}, {op := .asg (.t 0), d := some 16}])
                (.ifc (.v 16) (.seq (.reg [] [{op := .asg (.k (.str [110, 97, 109, 101])), d := some 1}])
                 (.ret)) (.seq (.reg [] [{op := .bin .eql (.v 2) (.k (.int .i64 15))}, {op := .asg (.t 0), d := some 17}])
                 (.ifc (.v 17) (.seq (.reg [] [{op := .asg (.k (.str [116, 97, 114, 103, 101, 116])), d := some 1}])
                  (.ret)) (.seq (.reg [] [{op := .bin .eql (.v 2) (.k (.int .i64 16))}, {op := .asg (.t 0), d := some 18}])
                  (.ifc (.v 18) (.seq (.reg [] [{op := .asg (.k (.str [108, 101, 97, 102])), d := some 1}])
                   (.ret)) (.seq (.reg [] [{op := .bin .eql (.v 2) (.k (.int .i64 17))}, {op := .asg (.t 0), d := some 19}])
                   (.ifc (.v 19) (.seq (.reg [] [{op := .asg (.k (.str [98, 97, 99, 107])), d := some 1}])
                    (.ret)) (.seq (.reg [] [{op := .bin .eql (.v 2) (.k (.int .i64 18))}, {op := .asg (.t 0), d := some 20}])
                    (.ifc (.v 20) (.seq (.reg [] [{op := .asg (.k (.str [109, 97, 112])), d := some 1}])
                     (.ret)) (.skip)))))))))))))))))))))))))))))))))))))))
 (.seq (.reg [] [{op := .asg (.k (.str [])), d := some 1}])
 (.ret)))⟩

/- tumbrel/admin.shape -/
def f12 : AFun := ⟨1, 9, [0, 2, 3, 4, 5, 7, 13, 15, 17], [.v 1, .v 2],
 .seq (.reg [] [{op := .asg (.k (.str [])), d := some 1}, {op := .asg (.k (.bool false)), d := some 2}])
 (.seq (.seq (.reg [] [{op := .mv (.v 0), d := some 3}])
  (.blk 0 [] (.seq (.reg [] [{op := .bin .eql (.v 3) (.k (.str [115, 116, 97, 114, 116]))}, {op := .asg (.t 0), d := some 4}])
   (.ifc (.v 4) (.seq (.reg [] [{op := .asg (.k (.str [110, 105])), d := some 1}, {op := .asg (.k (.bool true)), d := some 2}])
    (.ret)) (.seq (.seq (.reg [] [{op := .bin .eql (.v 3) (.k (.str [99, 97, 110, 99, 101, 108]))}, {op := .asg (.t 0), d := some 5}])
     (.ifc (.v 5) (.skip) (.seq (.reg [] [{op := .bin .eql (.v 3) (.k (.str [104, 111, 108, 100]))}, {op := .asg (.t 0), d := some 5}])
      (.ifc (.v 5) (.skip) (.seq (.reg [] [{op := .bin .eql (.v 3) (.k (.str [114, 101, 108, 101, 97, 115, 101]))}, {op := .asg (.t 0), d := some 5}])
       (.ifc (.v 5) (.skip) (.seq (.reg [] [{op := .bin .eql (.v 3) (.k (.str [115, 116, 97, 116, 117, 115]))}, {op := .asg (.t 0), d := some 5}])
        (.ifc (.v 5) (.skip) (.reg [] [{op := .bin .eql (.v 3) (.k (.str [115, 116, 97, 99, 107]))}, {op := .asg (.t 0), d := some 5}])))))))))
    (.ifc (.v 5) (.seq (.reg [] [{op := .asg (.k (.str [105])), d := some 1}, {op := .asg (.k (.bool true)), d := some 2}])
     (.ret)) (.seq (.reg [] [{op := .bin .eql (.v 3) (.k (.str [115, 105, 103, 110, 97, 108]))}, {op := .asg (.t 0), d := some 6}])
     (.ifc (.v 6) (.seq (.reg [] [{op := .asg (.k (.str [105, 110])), d := some 1}, {op := .asg (.k (.bool true)), d := some 2}])
      (.ret)) (.seq (.reg [] [{op := .bin .eql (.v 3) (.k (.str [109, 105, 103, 114, 97, 116, 101]))}, {op := .asg (.t 0), d := some 7}])
      (.ifc (.v 7) (.seq (.reg [] [{op := .asg (.k (.str [105, 110, 105, 112])), d := some 1}, {op := .asg (.k (.bool true)), d := some 2}])
       (.ret)) (.seq (.seq (.reg [] [{op := .bin .eql (.v 3) (.k (.str [108, 105, 115, 116]))}, {op := .asg (.t 0), d := some 8}])
        (.ifc (.v 8) (.skip) (.seq (.reg [] [{op := .bin .eql (.v 3) (.k (.str [99, 104, 97, 114, 116, 115]))}, {op := .asg (.t 0), d := some 8}])
         (.ifc (.v 8) (.skip) (.reg [] [{op := .bin .eql (.v 3) (.k (.str [99, 111, 109, 112, 97, 99, 116]))}, {op := .asg (.t 0), d := some 8}])))))
       (.ifc (.v 8) (.seq (.reg [] [{op := .asg (.k (.str [])), d := some 1}, {op := .asg (.k (.bool true)), d := some 2}])
        (.ret)) (.skip)))))))))))))
 (.seq (.reg [] [{op := .asg (.k (.str [])), d := some 1}, {op := .asg (.k (.bool false)), d := some 2}])
 (.ret)))⟩

/- tumbrel/admin.number -/
def f13 : AFun := ⟨1, 5, [0, 2, 3, 4, 5], [.v 1, .v 2],
 .seq (.reg [] [{op := .asg (.k (.int .i64 0)), d := some 1}, {op := .asg (.k (.bool false)), d := some 2}])
 (.seq (.reg [] [{op := .mv (.v 0)}, {op := .call false 23 [(.t 0)]}, {op := .mv (.t 1)}, {op := .ext (.t 2) 0}, {op := .ext (.t 2) 1}, {op := .asg (.t 3), d := some 3}, {op := .asg (.t 4), d := some 4}])
 (.seq (.reg [] [{op := .mv (.v 3)}, {op := .mv (.v 4)}, {op := .eq false .iface (.t 1) (.k (.nilIface))}, {op := .mv (.t 2)}, {op := .mv (.v 3), g := some (.t 3, true)}, {op := .bin .geq (.t 4) (.k (.int .i64 0)), g := some (.t 3, true)}, {op := .pick (.t 3) (.t 5) (.k (.bool false))}, {op := .mv (.t 6)}, {op := .mv (.v 0), g := some (.t 7, true)}, {op := .slen (.t 8), g := some (.t 7, true)}, {op := .bin .leq (.t 9) (.k (.int .i64 9)), g := some (.t 7, true)}, {op := .pick (.t 7) (.t 10) (.k (.bool false))}, {op := .mv (.t 11)}, {op := .mv (.v 3), g := some (.t 12, true)}, {op := .call false 24 [(.t 13)], g := some (.t 12, true)}, {op := .mv (.v 0), g := some (.t 12, true)}, {op := .bin .eql (.t 14) (.t 15), g := some (.t 12, true)}, {op := .pick (.t 12) (.t 16) (.k (.bool false))}, {op := .asg (.t 0), d := some 1}, {op := .asg (.t 17), d := some 2}])
 (.ret)))⟩

def f14_b0 : ACode :=
 .seq (.reg [] [{op := .next (.v 5), d := some 6}, {op := .ext (.v 6) 0, d := some 7}])
 (.seq (.ifc (.v 7) (.skip) (.exit 0))
 (.blk 1 [2, 5] (.seq (.reg [] [{op := .ext (.v 6) 1}, {op := .ext (.v 6) 2}, {op := .asg (.t 0), d := some 3}, {op := .asg (.t 1), d := some 4}])
  (.seq (.seq (.reg [] [{op := .mv (.v 4)}, {op := .call false 25 [(.t 0)]}, {op := .un .not (.t 1)}, {op := .mv (.t 2)}, {op := .mv (.v 3), g := some (.t 3, false)}, {op := .bin .eql (.t 4) (.k (.int .i64 0)), g := some (.t 3, false)}, {op := .mv (.t 5), g := some (.t 3, false)}, {op := .mv (.v 4), g := some (.t 6, true)}, {op := .call false 26 [(.t 7)], g := some (.t 6, true)}, {op := .un .not (.t 8), g := some (.t 6, true)}, {op := .pick (.t 6) (.t 9) (.k (.bool false)), g := some (.t 3, false)}, {op := .pick (.t 3) (.k (.bool true)) (.t 10), d := some 8}])
   (.ifc (.v 8) (.seq (.reg [] [{op := .asg (.k (.bool false)), d := some 1}])
    (.ret)) (.skip)))
  (.reg [] [{op := .mv (.v 2)}, {op := .bin .add (.t 0) (.k (.int .i64 1))}, {op := .asg (.t 1), d := some 2}])))))
def f14_l0 : ACode := f14_b0
theorem f14_l0_ev {c : Calls} {s : St} : evC c f14_l0 s = evC c f14_b0 s := rfl
def f14_k1 : ACode :=
 .seq (.reg [] [{op := .mv (.v 2)}, {op := .bin .gtr (.t 0) (.k (.int .i64 0))}, {op := .mv (.t 1)}, {op := .mv (.v 2), g := some (.t 2, true)}, {op := .bin .leq (.t 3) (.k (.int .i64 24)), g := some (.t 2, true)}, {op := .pick (.t 2) (.t 4) (.k (.bool false))}, {op := .asg (.t 5), d := some 1}])
 (.ret)
/- tumbrel/glyph.Name -/
def f14 : AFun := ⟨1, 9, [0, 2, 3, 4, 5, 7, 8, 9, 23], [.v 1],
 .seq (.reg [] [{op := .asg (.k (.bool false)), d := some 1}])
 (.seq (.reg [] [{op := .asg (.k (.int .i64 0)), d := some 2}])
 (.seq (.seq (.reg [] [{op := .mv (.v 0)}, {op := .range (.t 0), d := some 5}])
  (.blk 0 [2] (.loop [2, 5] f14_l0))) f14_k1))⟩

def f15_b0 : ACode :=
 .seq (.reg [] [{op := .bin .lss (.v 11) (.v 10), d := some 12}])
 (.seq (.ifc (.v 12) (.skip) (.exit 0))
 (.seq (.blk 1 [3, 9, 10, 11] (.seq (.reg [] [{op := .iaddr (.v 9) (.v 11) 1 .s}, {op := .ld (.t 0) .s}, {op := .asg (.t 1), d := some 4}])
   (.seq (.reg [] [{op := .mv (.v 4)}, {op := .call false 27 [(.t 0), (.k (.str [62]))]}, {op := .mv (.t 1)}, {op := .ext (.t 2) 0}, {op := .ext (.t 2) 1}, {op := .ext (.t 2) 2}, {op := .asg (.t 3), d := some 5}, {op := .asg (.t 4), d := some 6}, {op := .asg (.t 5), d := some 7}])
   (.seq (.seq (.reg [] [{op := .mv (.v 7)}, {op := .un .not (.t 0)}, {op := .mv (.t 1)}, {op := .mv (.v 5), g := some (.t 2, false)}, {op := .call false 14 [(.t 3)], g := some (.t 2, false)}, {op := .un .not (.t 4), g := some (.t 2, false)}, {op := .pick (.t 2) (.k (.bool true)) (.t 5)}, {op := .mv (.t 6)}, {op := .mv (.v 6), g := some (.t 7, false)}, {op := .call false 14 [(.t 8)], g := some (.t 7, false)}, {op := .un .not (.t 9), g := some (.t 7, false)}, {op := .pick (.t 7) (.k (.bool true)) (.t 10), d := some 13}])
    (.ifc (.v 13) (.seq (.reg [] [{op := .asg (.k (.nilS 2)), d := some 1}, {op := .asg (.k (.bool false)), d := some 2}])
     (.ret)) (.skip)))
   (.reg [] [{op := .mv (.v 3)}, {op := .mv (.v 5)}, {op := .mv (.v 6)}, {op := .build [.o (.t 1) .s, .o (.t 2) .s]}, {op := .bslice true 2 [((.t 3), (.a 2))]}, {op := .app (.t 0) (.t 4) true 2 32}, {op := .asg (.t 5), d := some 3}])))))
 (.reg [] [{op := .bin .add (.v 11) (.k (.int .i64 1))}, {op := .mv (.t 0), d := some 11}])))
def f15_l0 : ACode := f15_b0
theorem f15_l0_ev {c : Calls} {s : St} : evC c f15_l0 s = evC c f15_b0 s := rfl
def f15_k1 : ACode :=
 .seq (.reg [] [{op := .mv (.v 3)}, {op := .asg (.t 0), d := some 1}, {op := .asg (.k (.bool true)), d := some 2}])
 (.ret)
/- tumbrel/admin.pairs -/
def f15 : AFun := ⟨1, 14, [0, 2, 3, 4, 6, 7, 8, 9, 11, 13, 14, 15, 16, 36], [.v 1, .v 2],
 .seq (.reg [] [{op := .asg (.k (.nilS 2)), d := some 1}, {op := .asg (.k (.bool false)), d := some 2}])
 (.seq (.seq (.reg [] [{op := .mv (.v 0)}, {op := .bin .eql (.t 0) (.k (.str [45])), d := some 8}])
  (.ifc (.v 8) (.seq (.reg [] [{op := .asg (.k (.nilS 2)), d := some 1}, {op := .asg (.k (.bool true)), d := some 2}])
   (.ret)) (.skip)))
 (.seq (.reg [] [{op := .asg (.k (.nilS 2)), d := some 3}])
 (.seq (.seq (.reg [] [{op := .mv (.v 0)}, {op := .call false 11 [(.t 0), (.k (.str [44]))], d := some 9}, {op := .len (.v 9), d := some 10}, {op := .mv (.k (.int .i64 0)), d := some 11}])
  (.blk 0 [3] (.loop [3, 9, 10, 11] f15_l0))) f15_k1)))⟩

def f16_b0 : ACode :=
 .seq (.seq (.reg [] [{op := .mv (.v 5)}, {op := .mv (.v 0)}, {op := .slen (.t 1)}, {op := .bin .lss (.t 0) (.t 2), d := some 6}])
  (.ifc (.v 6) (.skip) (.exit 0)))
 (.seq (.blk 1 [0, 1, 3, 4, 5] (.seq (.reg [] [{op := .mv (.v 0)}, {op := .mv (.v 5)}, {op := .idx (.t 0) (.t 1)}, {op := .mv (.v 1)}, {op := .bin .eql (.t 2) (.t 3), d := some 7}])
   (.ifc (.v 7) (.seq (.reg [] [{op := .mv (.v 3)}, {op := .mv (.v 0)}, {op := .mv (.v 4)}, {op := .mv (.v 5)}, {op := .sslc (.t 1) (some (.t 2)) (some (.t 3))}, {op := .bslice true 1 [((.t 4), .s)]}, {op := .app (.t 0) (.t 5) true 1 16}, {op := .asg (.t 6), d := some 3}])
    (.reg [] [{op := .mv (.v 5)}, {op := .bin .add (.t 0) (.k (.int .i64 1))}, {op := .asg (.t 1), d := some 4}])) (.skip))))
 (.reg [] [{op := .mv (.v 5)}, {op := .bin .add (.t 0) (.k (.int .i64 1))}, {op := .asg (.t 1), d := some 5}]))
def f16_l0 : ACode := f16_b0
theorem f16_l0_ev {c : Calls} {s : St} : evC c f16_l0 s = evC c f16_b0 s := rfl
def f16_k1 : ACode :=
 .seq (.reg [] [{op := .mv (.v 3)}, {op := .mv (.v 0)}, {op := .mv (.v 4)}, {op := .sslc (.t 1) (some (.t 2)) none}, {op := .bslice true 1 [((.t 3), .s)]}, {op := .app (.t 0) (.t 4) true 1 16}, {op := .asg (.t 5), d := some 2}])
 (.ret)
/- tumbrel/tumbrelref23.pieces -/
def f16 : AFun := ⟨2, 8, [0, 1, 4, 5, 6, 7, 12, 19], [.v 2],
 .seq (.reg [] [{op := .asg (.k (.nilS 1)), d := some 2}])
 (.seq (.reg [] [{op := .bslice true 1 []}, {op := .asg (.t 0), d := some 3}])
 (.seq (.reg [] [{op := .asg (.k (.int .i64 0)), d := some 4}])
 (.seq (.seq (.reg [] [{op := .asg (.k (.int .i64 0)), d := some 5}])
  (.blk 0 [0, 3, 4] (.loop [0, 1, 3, 4, 5] f16_l0))) f16_k1)))⟩

/- tumbrel/tumbrelref23.kinds -/
def f17 : AFun := ⟨1, 9, [0, 2, 3, 4, 5, 8, 15, 18, 21], [.v 1, .v 2],
 .seq (.reg [] [{op := .asg (.k (.nilS 1)), d := some 1}, {op := .asg (.k (.bool false)), d := some 2}])
 (.seq (.seq (.reg [] [{op := .mv (.v 0), d := some 3}])
  (.blk 0 [] (.seq (.reg [] [{op := .bin .eql (.v 3) (.k (.str [115, 116, 97, 114, 116]))}, {op := .asg (.t 0), d := some 4}])
   (.ifc (.v 4) (.seq (.reg [] [{op := .bslice true 1 [((.k (.int .i64 2)), .s), ((.k (.int .i64 1)), .s)]}, {op := .asg (.t 0), d := some 1}, {op := .asg (.k (.bool true)), d := some 2}])
    (.ret)) (.seq (.seq (.reg [] [{op := .bin .eql (.v 3) (.k (.str [99, 97, 110, 99, 101, 108]))}, {op := .asg (.t 0), d := some 5}])
     (.ifc (.v 5) (.skip) (.seq (.reg [] [{op := .bin .eql (.v 3) (.k (.str [104, 111, 108, 100]))}, {op := .asg (.t 0), d := some 5}])
      (.ifc (.v 5) (.skip) (.seq (.reg [] [{op := .bin .eql (.v 3) (.k (.str [114, 101, 108, 101, 97, 115, 101]))}, {op := .asg (.t 0), d := some 5}])
       (.ifc (.v 5) (.skip) (.seq (.reg [] [{op := .bin .eql (.v 3) (.k (.str [115, 116, 97, 116, 117, 115]))}, {op := .asg (.t 0), d := some 5}])
        (.ifc (.v 5) (.skip) (.reg [] [{op := .bin .eql (.v 3) (.k (.str [115, 116, 97, 99, 107]))}, {op := .asg (.t 0), d := some 5}])))))))))
    (.ifc (.v 5) (.seq (.reg [] [{op := .bslice true 1 [((.k (.int .i64 1)), .s)]}, {op := .asg (.t 0), d := some 1}, {op := .asg (.k (.bool true)), d := some 2}])
     (.ret)) (.seq (.reg [] [{op := .bin .eql (.v 3) (.k (.str [115, 105, 103, 110, 97, 108]))}, {op := .asg (.t 0), d := some 6}])
     (.ifc (.v 6) (.seq (.reg [] [{op := .bslice true 1 [((.k (.int .i64 1)), .s), ((.k (.int .i64 2)), .s)]}, {op := .asg (.t 0), d := some 1}, {op := .asg (.k (.bool true)), d := some 2}])
      (.ret)) (.seq (.reg [] [{op := .bin .eql (.v 3) (.k (.str [109, 105, 103, 114, 97, 116, 101]))}, {op := .asg (.t 0), d := some 7}])
      (.ifc (.v 7) (.seq (.reg [] [{op := .bslice true 1 [((.k (.int .i64 1)), .s), ((.k (.int .i64 2)), .s), ((.k (.int .i64 1)), .s), ((.k (.int .i64 3)), .s)]}, {op := .asg (.t 0), d := some 1}, {op := .asg (.k (.bool true)), d := some 2}])
       (.ret)) (.seq (.seq (.reg [] [{op := .bin .eql (.v 3) (.k (.str [108, 105, 115, 116]))}, {op := .asg (.t 0), d := some 8}])
        (.ifc (.v 8) (.skip) (.seq (.reg [] [{op := .bin .eql (.v 3) (.k (.str [99, 104, 97, 114, 116, 115]))}, {op := .asg (.t 0), d := some 8}])
         (.ifc (.v 8) (.skip) (.reg [] [{op := .bin .eql (.v 3) (.k (.str [99, 111, 109, 112, 97, 99, 116]))}, {op := .asg (.t 0), d := some 8}])))))
       (.ifc (.v 8) (.seq (.reg [] [{op := .asg (.k (.nilS 1)), d := some 1}, {op := .asg (.k (.bool true)), d := some 2}])
        (.ret)) (.skip)))))))))))))
 (.seq (.reg [] [{op := .asg (.k (.nilS 1)), d := some 1}, {op := .asg (.k (.bool false)), d := some 2}])
 (.ret)))⟩

/- tumbrel/tumbrelref23.Number -/
def f18 : AFun := ⟨1, 6, [0, 2, 3, 4, 5, 8], [.v 1, .v 2],
 .seq (.reg [] [{op := .asg (.k (.int .i64 0)), d := some 1}, {op := .asg (.k (.bool false)), d := some 2}])
 (.seq (.seq (.reg [] [{op := .mv (.v 0)}, {op := .slen (.t 0)}, {op := .bin .gtr (.t 1) (.k (.int .i64 9)), d := some 5}])
  (.ifc (.v 5) (.seq (.reg [] [{op := .asg (.k (.int .i64 0)), d := some 1}, {op := .asg (.k (.bool false)), d := some 2}])
   (.ret)) (.skip)))
 (.seq (.reg [] [{op := .mv (.v 0)}, {op := .call false 28 [(.t 0)]}, {op := .mv (.t 1)}, {op := .ext (.t 2) 0}, {op := .ext (.t 2) 1}, {op := .asg (.t 3), d := some 3}, {op := .asg (.t 4), d := some 4}])
 (.seq (.reg [] [{op := .mv (.v 3)}, {op := .mv (.v 4)}, {op := .asg (.t 0), d := some 1}, {op := .asg (.t 1), d := some 2}])
 (.ret))))⟩

/- tumbrel/tumbrelref03.Name -/
def f19 : AFun := ⟨1, 6, [0, 2, 3, 4, 5, 6], [.v 1],
 .seq (.reg [] [{op := .asg (.k (.bool false)), d := some 1}])
 (.seq (.reg [] [{op := .mv (.v 0)}, {op := .call false 29 [(.t 0)]}, {op := .mv (.t 1)}, {op := .ext (.t 2) 0}, {op := .ext (.t 2) 1}, {op := .asg (.t 3), d := some 2}, {op := .asg (.t 4), d := some 3}])
 (.seq (.reg [] [{op := .mv (.v 0)}, {op := .call false 30 [(.t 0)]}, {op := .mv (.t 1)}, {op := .ext (.t 2) 0}, {op := .ext (.t 2) 1}, {op := .asg (.t 3), d := some 4}, {op := .asg (.t 4), d := some 5}])
 (.seq (.reg [] [{op := .mv (.v 2)}, {op := .call false 31 [(.t 0)]}, {op := .mv (.t 1)}, {op := .mv (.v 4), g := some (.t 2, true)}, {op := .mv (.v 0), g := some (.t 2, true)}, {op := .slen (.t 4), g := some (.t 2, true)}, {op := .bin .eql (.t 3) (.t 5), g := some (.t 2, true)}, {op := .pick (.t 2) (.t 6) (.k (.bool false))}, {op := .mv (.t 7)}, {op := .mv (.v 5), g := some (.t 8, true)}, {op := .bin .leq (.t 9) (.k (.int .i64 24)), g := some (.t 8, true)}, {op := .pick (.t 8) (.t 10) (.k (.bool false))}, {op := .asg (.t 11), d := some 1}])
 (.ret))))⟩

def f20_b0 : ACode :=
 .seq (.reg [] [{op := .bin .lss (.v 9) (.v 8), d := some 10}])
 (.seq (.ifc (.v 10) (.skip) (.exit 0))
 (.seq (.blk 1 [3, 4, 8, 9] (.seq (.reg [] [{op := .mv (.v 9)}, {op := .asg (.t 0), d := some 5}])
   (.seq (.reg [] [{op := .mv (.v 4)}, {op := .mv (.v 5)}, {op := .iaddr (.t 0) (.t 1) 1 .s}, {op := .ld (.t 2) .s}, {op := .call false 16 [(.t 3), (.k (.int .u8 62))]}, {op := .asg (.t 4), d := some 6}])
   (.seq (.seq (.reg [] [{op := .mv (.v 6)}, {op := .len (.t 0)}, {op := .bin .neq (.t 1) (.k (.int .i64 2))}, {op := .mv (.t 2)}, {op := .mv (.v 6), g := some (.t 3, false)}, {op := .iaddr (.t 4) (.k (.int .i64 0)) 1 .s, g := some (.t 3, false)}, {op := .ld (.t 5) .s, g := some (.t 3, false)}, {op := .call false 19 [(.t 6)], g := some (.t 3, false)}, {op := .un .not (.t 7), g := some (.t 3, false)}, {op := .pick (.t 3) (.k (.bool true)) (.t 8)}, {op := .mv (.t 9)}, {op := .mv (.v 6), g := some (.t 10, false)}, {op := .iaddr (.t 11) (.k (.int .i64 1)) 1 .s, g := some (.t 10, false)}, {op := .ld (.t 12) .s, g := some (.t 10, false)}, {op := .call false 19 [(.t 13)], g := some (.t 10, false)}, {op := .un .not (.t 14), g := some (.t 10, false)}, {op := .pick (.t 10) (.k (.bool true)) (.t 15), d := some 11}])
    (.ifc (.v 11) (.seq (.reg [] [{op := .asg (.k (.nilS 2)), d := some 1}, {op := .asg (.k (.bool false)), d := some 2}])
     (.ret)) (.skip)))
   (.dreg [] [{op := .mv (.v 3)}, {op := .mv (.v 6)}, {op := .iaddr (.t 1) (.k (.int .i64 0)) 1 .s, D := [1]}, {op := .ld (.t 2) .s, D := [1, 2]}, {op := .mv (.v 6)}, {op := .iaddr (.t 4) (.k (.int .i64 1)) 1 .s, D := [4]}, {op := .ld (.t 5) .s, D := [4, 5]}, {op := .build [.o (.t 3) .s, .o (.t 6) .s], D := [1, 2, 3, 4, 5, 6]}, {op := .bslice true 2 [((.t 7), (.a 2))], D := [1, 2, 3, 4, 5, 6, 7]}, {op := .app (.t 0) (.t 8) true 2 32, D := [0, 1, 2, 3, 4, 5, 6, 7, 8]}, {op := .asg (.t 9), d := some 3, D := [0, 1, 2, 3, 4, 5, 6, 7, 8, 9]}] [⟨[0, 1, 2, 3, 4, 5, 6, 7, 8], [], some 9⟩, ⟨[], [], some 10⟩, ⟨[], [], none⟩])))))
 (.reg [] [{op := .bin .add (.v 9) (.k (.int .i64 1))}, {op := .mv (.t 0), d := some 9}])))
def f20_l0 : ACode := f20_b0
theorem f20_l0_ev {c : Calls} {s : St} : evC c f20_l0 s = evC c f20_b0 s := rfl
def f20_k1 : ACode :=
 .seq (.reg [] [{op := .mv (.v 3)}, {op := .asg (.t 0), d := some 1}, {op := .asg (.k (.bool true)), d := some 2}])
 (.ret)
/- tumbrel/tumbrelref23.Pairs -/
def f20 : AFun := ⟨1, 12, [0, 2, 3, 4, 5, 6, 7, 9, 13, 14, 15, 38], [.v 1, .v 2],
 .seq (.reg [] [{op := .asg (.k (.nilS 2)), d := some 1}, {op := .asg (.k (.bool false)), d := some 2}])
 (.seq (.seq (.reg [] [{op := .mv (.v 0)}, {op := .bin .eql (.t 0) (.k (.str [45])), d := some 7}])
  (.ifc (.v 7) (.seq (.reg [] [{op := .asg (.k (.nilS 2)), d := some 1}, {op := .asg (.k (.bool true)), d := some 2}])
   (.ret)) (.skip)))
 (.seq (.reg [] [{op := .asg (.k (.nilS 2)), d := some 3}])
 (.seq (.reg [] [{op := .mv (.v 0)}, {op := .call false 16 [(.t 0), (.k (.int .u8 44))]}, {op := .asg (.t 1), d := some 4}])
 (.seq (.seq (.reg [] [{op := .mv (.v 4)}, {op := .len (.t 0), d := some 8}, {op := .mv (.k (.int .i64 0)), d := some 9}])
  (.blk 0 [3] (.loop [3, 4, 8, 9] f20_l0))) f20_k1))))⟩

/- tumbrel/glyph.inside -/
def f25 : AFun := ⟨1, 2, [0, 2], [.v 1],
 .seq (.reg [] [{op := .asg (.k (.bool false)), d := some 1}])
 (.seq (.reg [] [{op := .mv (.v 0)}, {op := .call false 26 [(.t 0)]}, {op := .mv (.t 1)}, {op := .mv (.v 0), g := some (.t 2, false)}, {op := .call false 39 [(.t 3)], g := some (.t 2, false)}, {op := .pick (.t 2) (.k (.bool true)) (.t 4)}, {op := .mv (.t 5)}, {op := .mv (.v 0), g := some (.t 6, false)}, {op := .bin .eql (.t 7) (.k (.int .i32 95)), g := some (.t 6, false)}, {op := .pick (.t 6) (.k (.bool true)) (.t 8)}, {op := .asg (.t 9), d := some 1}])
 (.ret))⟩

/- tumbrel/glyph.Letter -/
def f26 : AFun := ⟨1, 2, [0, 2], [.v 1],
 .seq (.reg [] [{op := .asg (.k (.bool false)), d := some 1}])
 (.seq (.reg [] [{op := .mv (.v 0)}, {op := .bin .leq (.k (.int .i32 97)) (.t 0)}, {op := .mv (.t 1)}, {op := .mv (.v 0), g := some (.t 2, true)}, {op := .bin .leq (.t 3) (.k (.int .i32 122)), g := some (.t 2, true)}, {op := .pick (.t 2) (.t 4) (.k (.bool false))}, {op := .mv (.t 5)}, {op := .mv (.v 0), g := some (.t 6, false)}, {op := .bin .leq (.k (.int .i32 65)) (.t 7), g := some (.t 6, false)}, {op := .mv (.t 8), g := some (.t 6, false)}, {op := .mv (.v 0), g := some (.t 9, true)}, {op := .bin .leq (.t 10) (.k (.int .i32 90)), g := some (.t 9, true)}, {op := .pick (.t 9) (.t 11) (.k (.bool false)), g := some (.t 6, false)}, {op := .pick (.t 6) (.k (.bool true)) (.t 12)}, {op := .mv (.t 13)}, {op := .mv (.v 0), g := some (.t 14, false)}, {op := .bin .leq (.k (.int .i32 1072)) (.t 15), g := some (.t 14, false)}, {op := .mv (.t 16), g := some (.t 14, false)}, {op := .mv (.v 0), g := some (.t 17, true)}, {op := .bin .leq (.t 18) (.k (.int .i32 1103)), g := some (.t 17, true)}, {op := .pick (.t 17) (.t 19) (.k (.bool false)), g := some (.t 14, false)}, {op := .pick (.t 14) (.k (.bool true)) (.t 20)}, {op := .asg (.t 21), d := some 1}])
 (.ret))⟩

def f28_b0 : ACode :=
 .seq (.seq (.reg [] [{op := .mv (.v 4)}, {op := .mv (.v 0)}, {op := .slen (.t 1)}, {op := .bin .lss (.t 0) (.t 2), d := some 6}])
  (.ifc (.v 6) (.skip) (.exit 0)))
 (.seq (.blk 1 [0, 3, 4] (.seq (.seq (.reg [] [{op := .mv (.v 0)}, {op := .mv (.v 4)}, {op := .idx (.t 0) (.t 1)}, {op := .bin .lss (.t 2) (.k (.int .u8 48))}, {op := .mv (.t 3)}, {op := .mv (.v 0), g := some (.t 4, false)}, {op := .mv (.v 4), g := some (.t 4, false)}, {op := .idx (.t 5) (.t 6), g := some (.t 4, false)}, {op := .bin .gtr (.t 7) (.k (.int .u8 57)), g := some (.t 4, false)}, {op := .pick (.t 4) (.k (.bool true)) (.t 8), d := some 7}])
    (.ifc (.v 7) (.seq (.reg [] [{op := .asg (.k (.int .i64 0)), d := some 1}, {op := .asg (.k (.bool false)), d := some 2}])
     (.ret)) (.skip)))
   (.reg [] [{op := .mv (.v 3)}, {op := .bin .mul (.k (.int .i64 10)) (.t 0)}, {op := .mv (.v 0)}, {op := .mv (.v 4)}, {op := .idx (.t 2) (.t 3)}, {op := .bin .sub (.t 4) (.k (.int .u8 48))}, {op := .conv .i64 (.t 5)}, {op := .bin .add (.t 1) (.t 6)}, {op := .asg (.t 7), d := some 3}])))
 (.reg [] [{op := .mv (.v 4)}, {op := .bin .add (.t 0) (.k (.int .i64 1))}, {op := .asg (.t 1), d := some 4}]))
def f28_l0 : ACode := f28_b0
theorem f28_l0_ev {c : Calls} {s : St} : evC c f28_l0 s = evC c f28_b0 s := rfl
def f28_k1 : ACode :=
 .seq (.reg [] [{op := .mv (.v 3)}, {op := .mv (.v 3)}, {op := .bin .leq (.t 1) (.k (.int .i64 1000000000))}, {op := .asg (.t 0), d := some 1}, {op := .asg (.t 2), d := some 2}])
 (.ret)
/- tumbrel/tumbrelref03.Number -/
def f28 : AFun := ⟨1, 8, [0, 2, 3, 4, 5, 23, 27, 39], [.v 1, .v 2],
 .seq (.reg [] [{op := .asg (.k (.int .i64 0)), d := some 1}, {op := .asg (.k (.bool false)), d := some 2}])
 (.seq (.seq (.reg [] [{op := .mv (.v 0)}, {op := .slen (.t 0)}, {op := .bin .lss (.t 1) (.k (.int .i64 1))}, {op := .mv (.t 2)}, {op := .mv (.v 0), g := some (.t 3, false)}, {op := .slen (.t 4), g := some (.t 3, false)}, {op := .bin .gtr (.t 5) (.k (.int .i64 10)), g := some (.t 3, false)}, {op := .pick (.t 3) (.k (.bool true)) (.t 6)}, {op := .mv (.t 7)}, {op := .mv (.v 0), g := some (.t 8, false)}, {op := .idx (.t 9) (.k (.int .i64 0)), g := some (.t 8, false)}, {op := .bin .eql (.t 10) (.k (.int .u8 48)), g := some (.t 8, false)}, {op := .mv (.t 11), g := some (.t 8, false)}, {op := .mv (.v 0), g := some (.t 12, true)}, {op := .slen (.t 13), g := some (.t 12, true)}, {op := .bin .gtr (.t 14) (.k (.int .i64 1)), g := some (.t 12, true)}, {op := .pick (.t 12) (.t 15) (.k (.bool false)), g := some (.t 8, false)}, {op := .pick (.t 8) (.k (.bool true)) (.t 16), d := some 5}])
  (.ifc (.v 5) (.seq (.reg [] [{op := .asg (.k (.int .i64 0)), d := some 1}, {op := .asg (.k (.bool false)), d := some 2}])
   (.ret)) (.skip)))
 (.seq (.reg [] [{op := .asg (.k (.int .i64 0)), d := some 3}])
 (.seq (.seq (.reg [] [{op := .asg (.k (.int .i64 0)), d := some 4}])
  (.blk 0 [3] (.loop [0, 3, 4] f28_l0))) f28_k1)))⟩

/- tumbrel/tumbrelref03.next -/
def f29 : AFun := ⟨1, 6, [0, 2, 3, 4, 5, 16], [.v 1, .v 2],
 .seq (.reg [] [{op := .asg (.k (.int .i32 0)), d := some 1}, {op := .asg (.k (.int .i64 0)), d := some 2}])
 (.seq (.reg [] [{op := .mv (.v 0)}, {op := .call false 41 [(.t 0)]}, {op := .mv (.t 1)}, {op := .ext (.t 2) 0}, {op := .ext (.t 2) 1}, {op := .asg (.t 3), d := some 3}, {op := .asg (.t 4), d := some 4}])
 (.seq (.seq (.reg [] [{op := .mv (.v 3)}, {op := .bin .eql (.t 0) (.k (.int .i32 65533))}, {op := .mv (.t 1)}, {op := .mv (.v 4), g := some (.t 2, true)}, {op := .bin .leq (.t 3) (.k (.int .i64 1)), g := some (.t 2, true)}, {op := .pick (.t 2) (.t 4) (.k (.bool false)), d := some 5}])
  (.ifc (.v 5) (.seq (.reg [] [{op := .mv (.v 4)}, {op := .asg (.k (.int .i32 (-1))), d := some 1}, {op := .asg (.t 0), d := some 2}])
   (.ret)) (.skip)))
 (.seq (.reg [] [{op := .mv (.v 3)}, {op := .mv (.v 4)}, {op := .asg (.t 0), d := some 1}, {op := .asg (.t 1), d := some 2}])
 (.ret))))⟩

def f30_b0 : ACode :=
 .seq (.seq (.reg [] [{op := .mv (.v 3)}, {op := .mv (.v 0)}, {op := .slen (.t 1)}, {op := .bin .lss (.t 0) (.t 2), d := some 7}])
  (.ifc (.v 7) (.skip) (.exit 0)))
 (.blk 1 [0, 3, 4] (.seq (.reg [] [{op := .mv (.v 0)}, {op := .mv (.v 3)}, {op := .sslc (.t 0) (some (.t 1)) none}, {op := .call false 29 [(.t 2)]}, {op := .mv (.t 3)}, {op := .ext (.t 4) 0}, {op := .ext (.t 4) 1}, {op := .asg (.t 5), d := some 5}, {op := .asg (.t 6), d := some 6}])
  (.seq (.seq (.reg [] [{op := .mv (.v 5)}, {op := .call false 42 [(.t 0)]}, {op := .un .not (.t 1), d := some 8}])
   (.ifc (.v 8) (.exit 0) (.skip)))
  (.reg [] [{op := .mv (.v 3)}, {op := .mv (.v 6)}, {op := .bin .add (.t 0) (.t 1)}, {op := .mv (.v 4)}, {op := .bin .add (.t 3) (.k (.int .i64 1))}, {op := .asg (.t 2), d := some 3}, {op := .asg (.t 4), d := some 4}]))))
def f30_l0 : ACode := f30_b0
theorem f30_l0_ev {c : Calls} {s : St} : evC c f30_l0 s = evC c f30_b0 s := rfl
def f30_k1 : ACode :=
 .seq (.reg [] [{op := .mv (.v 3)}, {op := .mv (.v 4)}, {op := .asg (.t 0), d := some 1}, {op := .asg (.t 1), d := some 2}])
 (.ret)
/- tumbrel/tumbrelref03.run -/
def f30 : AFun := ⟨1, 9, [0, 2, 3, 4, 5, 6, 7, 11, 21], [.v 1, .v 2],
 .seq (.reg [] [{op := .asg (.k (.int .i64 0)), d := some 1}, {op := .asg (.k (.int .i64 0)), d := some 2}])
 (.seq (.reg [] [{op := .asg (.k (.int .i64 0)), d := some 3}, {op := .asg (.k (.int .i64 0)), d := some 4}])
 (.seq (.blk 0 [3, 4] (.loop [0, 3, 4] f30_l0)) f30_k1))⟩

/- tumbrel/tumbrelref03.Letter -/
def f31 : AFun := ⟨1, 2, [0, 2], [.v 1],
 .seq (.reg [] [{op := .asg (.k (.bool false)), d := some 1}])
 (.seq (.reg [] [{op := .mv (.v 0)}, {op := .bin .geq (.t 0) (.k (.int .i32 97))}, {op := .mv (.t 1)}, {op := .mv (.v 0), g := some (.t 2, true)}, {op := .bin .leq (.t 3) (.k (.int .i32 122)), g := some (.t 2, true)}, {op := .pick (.t 2) (.t 4) (.k (.bool false))}, {op := .mv (.t 5)}, {op := .mv (.v 0), g := some (.t 6, false)}, {op := .bin .geq (.t 7) (.k (.int .i32 65)), g := some (.t 6, false)}, {op := .mv (.t 8), g := some (.t 6, false)}, {op := .mv (.v 0), g := some (.t 9, true)}, {op := .bin .leq (.t 10) (.k (.int .i32 90)), g := some (.t 9, true)}, {op := .pick (.t 9) (.t 11) (.k (.bool false)), g := some (.t 6, false)}, {op := .pick (.t 6) (.k (.bool true)) (.t 12)}, {op := .mv (.t 13)}, {op := .mv (.v 0), g := some (.t 14, false)}, {op := .bin .geq (.t 15) (.k (.int .i32 1072)), g := some (.t 14, false)}, {op := .mv (.t 16), g := some (.t 14, false)}, {op := .mv (.v 0), g := some (.t 17, true)}, {op := .bin .leq (.t 18) (.k (.int .i32 1103)), g := some (.t 17, true)}, {op := .pick (.t 17) (.t 19) (.k (.bool false)), g := some (.t 14, false)}, {op := .pick (.t 14) (.k (.bool true)) (.t 20)}, {op := .asg (.t 21), d := some 1}])
 (.ret))⟩

/- tumbrel/glyph.digit -/
def f39 : AFun := ⟨1, 2, [0, 2], [.v 1],
 .seq (.reg [] [{op := .asg (.k (.bool false)), d := some 1}])
 (.seq (.reg [] [{op := .mv (.v 0)}, {op := .bin .leq (.k (.int .i32 48)) (.t 0)}, {op := .mv (.t 1)}, {op := .mv (.v 0), g := some (.t 2, true)}, {op := .bin .leq (.t 3) (.k (.int .i32 57)), g := some (.t 2, true)}, {op := .pick (.t 2) (.t 4) (.k (.bool false))}, {op := .asg (.t 5), d := some 1}])
 (.ret))⟩

/- tumbrel/tumbrelref03.inside -/
def f42 : AFun := ⟨1, 2, [0, 2], [.v 1],
 .seq (.reg [] [{op := .asg (.k (.bool false)), d := some 1}])
 (.seq (.reg [] [{op := .mv (.v 0)}, {op := .call false 31 [(.t 0)]}, {op := .mv (.t 1)}, {op := .mv (.v 0), g := some (.t 2, false)}, {op := .call false 53 [(.t 3)], g := some (.t 2, false)}, {op := .pick (.t 2) (.k (.bool true)) (.t 4)}, {op := .mv (.t 5)}, {op := .mv (.v 0), g := some (.t 6, false)}, {op := .bin .eql (.t 7) (.k (.int .i32 95)), g := some (.t 6, false)}, {op := .pick (.t 6) (.k (.bool true)) (.t 8)}, {op := .asg (.t 9), d := some 1}])
 (.ret))⟩

/- tumbrel/tumbrelref03.digit -/
def f53 : AFun := ⟨1, 2, [0, 2], [.v 1],
 .seq (.reg [] [{op := .asg (.k (.bool false)), d := some 1}])
 (.seq (.reg [] [{op := .mv (.v 0)}, {op := .bin .geq (.t 0) (.k (.int .i32 48))}, {op := .mv (.t 1)}, {op := .mv (.v 0), g := some (.t 2, true)}, {op := .bin .leq (.t 3) (.k (.int .i32 57)), g := some (.t 2, true)}, {op := .pick (.t 2) (.t 4) (.k (.bool false))}, {op := .asg (.t 5), d := some 1}])
 (.ret))⟩

def funs : Nat → Option AFun
  | 3 => some f3
  | 4 => some f4
  | 5 => some f5
  | 6 => some f6
  | 7 => some f7
  | 8 => some f8
  | 9 => some f9
  | 12 => some f12
  | 13 => some f13
  | 14 => some f14
  | 15 => some f15
  | 16 => some f16
  | 17 => some f17
  | 18 => some f18
  | 19 => some f19
  | 20 => some f20
  | 25 => some f25
  | 26 => some f26
  | 28 => some f28
  | 29 => some f29
  | 30 => some f30
  | 31 => some f31
  | 39 => some f39
  | 42 => some f42
  | 53 => some f53
  | _ => none
/-! names -/
abbrev n_tumbrellaw23_AdminParses : Nat := 3
abbrev n_tumbrellaw23_awake : Nat := 4
abbrev n_admin_Parse : Nat := 5
abbrev n_tumbrelref23_Parse : Nat := 6
abbrev n_tumbrellaw23_same : Nat := 7
abbrev n_admin_Word : Nat := 8
abbrev n_tumbrelref23_Word : Nat := 9
abbrev n_strings_CutPrefix : Nat := 10
abbrev n_strings_Split : Nat := 11
abbrev n_admin_shape : Nat := 12
abbrev n_admin_number : Nat := 13
abbrev n_glyph_Name : Nat := 14
abbrev n_admin_pairs : Nat := 15
abbrev n_tumbrelref23_pieces : Nat := 16
abbrev n_tumbrelref23_kinds : Nat := 17
abbrev n_tumbrelref23_Number : Nat := 18
abbrev n_tumbrelref03_Name : Nat := 19
abbrev n_tumbrelref23_Pairs : Nat := 20
abbrev n_strconv_Atoi : Nat := 23
abbrev n_strconv_Itoa : Nat := 24
abbrev n_glyph_inside : Nat := 25
abbrev n_glyph_Letter : Nat := 26
abbrev n_strings_Cut : Nat := 27
abbrev n_tumbrelref03_Number : Nat := 28
abbrev n_tumbrelref03_next : Nat := 29
abbrev n_tumbrelref03_run : Nat := 30
abbrev n_tumbrelref03_Letter : Nat := 31
abbrev n_glyph_digit : Nat := 39
abbrev n_unicode_utf8_DecodeRuneInString : Nat := 41
abbrev n_tumbrelref03_inside : Nat := 42
abbrev n_tumbrelref03_digit : Nat := 53
end Go.Abs.A
