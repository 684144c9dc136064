/- A function's code once more, by another way of taking a call: printed by a program. -/
import Derived.Test.YtgcncpedpjjjeaaAbsC
set_option linter.all false
set_option maxRecDepth 100000
namespace Go.Proofs.Abs
open ACode AIns AX
def c24b : ACode :=
(.seq (.reg [xo 2 (.new [(.list 5 []),(.list 5 []),(.bool false)])] [])
(.seq (.seq (.reg [xm 5 0,xo 6 (.call 30 [(true, (.t 5))]),xo 7 (.un .not (.t 6))] [5,6])
(.cond (.t 7) [7] (.seq (.reg [xo 8 (.agg [(.list 5 []),(.list 5 []),(.bool false)] []),xn (.store false 3 (.t 2) (.t 8))] [8])
.ret) .skip))
(.seq (.reg [xm 9 0,xo 10 (.len 1 (.t 9)),xo 11 (.bin .sub 0 (.t 10) (ki 1)),xm 3 11] [9,10,11])
(.seq (.reg [xm 12 0,xm 13 3,xo 14 (.iaddr 5 (.t 12) (.t 13)),xo 15 (.load true 5 (.t 14)),⟨(some 4), none, .new [(.int .i64 0),(.int .i64 0),(.int .i64 0),(.list 2 []),(.str ⟨#[]⟩)], []⟩,xn (.store false 5 (.t 4) (.t 15))] (rng 12 4))
(.seq (.seq (.reg [xo 16 (.faddr 0 (.t 4)),xo 17 (.load false 1 (.t 16))] [16])
(.block 0 (.seq (.reg [xo 19 (.bin .eql 0 (.t 17) (ki 5)),xm 18 19] [19])
(.cond (.t 18) [18] (.seq (.reg [xm 20 0,xo 21 (.faddr 1 (.t 4)),xo 22 (.load false 1 (.t 21)),xo 23 (.call 100070 [(true, (.t 20)),(true, (ki 0)),(true, (.t 22))]),xo 24 (.agg [(.list 5 []),(.list 5 []),(.bool false)] [(0, 1, (.t 23)),(2, 1, kt)]),xn (.store false 3 (.t 2) (.t 24))] (rng 20 5))
.ret) (.seq (.seq (.reg [xo 26 (.bin .eql 0 (.t 17) (ki 3)),xm 25 26] [26])
(.cond (.t 25) [] .skip (.reg [xo 27 (.bin .eql 0 (.t 17) (ki 4)),xm 25 27] [27])))
(.cond (.t 25) [] (.seq (.dreg [xm 28 0,xo 29 (.faddr 1 (.t 4)),yo 30 (.load false 1 (.t 29)) [1],yo 31 (.call 100070 [(true, (.t 28)),(true, (ki 0)),(true, (.t 30))]) [0, 1, 2],xm 32 0,xo 33 (.faddr 1 (.t 4)),yo 34 (.load false 1 (.t 33)) [5],yo 35 (.bin .add 0 (.t 34) (ki 1)) [5, 6],xo 36 (.faddr 2 (.t 4)),yo 37 (.load false 1 (.t 36)) [8],yo 38 (.call 100070 [(true, (.t 32)),(true, (.t 35)),(true, (.t 37))]) [0, 1, 2, 3, 4, 5, 6, 7, 8, 9],yo 39 (.agg [(.list 5 []),(.list 5 []),(.bool false)] [(0, 1, (.t 31)),(1, 1, (.t 38)),(2, 1, kt)]) [0, 1, 2, 3, 4, 5, 6, 7, 8, 9, 10],⟨none, none, .store false 3 (.t 2) (.t 39), [0, 1, 2, 3, 4, 5, 6, 7, 8, 9, 10, 11]⟩] (rng 28 12))
.ret) .skip))))))
(.seq (.reg [xo 40 (.agg [(.list 5 []),(.list 5 []),(.bool false)] []),xn (.store false 3 (.t 2) (.t 40))] [40])
.ret))))))
def fn24b : AFn := ⟨1, 41, c24b, [(.c 2 true 3)], 0⟩
theorem fn24b_body : fn24b.body = c24b := rfl
theorem fn24b_res : fn24b.res = [(.c 2 true 3)] := rfl
theorem fn24b_keep : fn24b.keep = 0 := rfl
theorem ok24b : fnOK Try.prog 24 fn24b = true := by kernel_rfl
theorem ok70b : fnOK Try.prog 70 { fn70 with keep := 0 } = true := by kernel_rfl
end Go.Proofs.Abs
