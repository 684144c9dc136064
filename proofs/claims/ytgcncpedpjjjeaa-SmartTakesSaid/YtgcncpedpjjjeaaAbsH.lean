/- Functions' codes once more, by another way of taking their loops: printed by a program. -/
import Derived.Test.YtgcncpedpjjjeaaAbsC
set_option linter.all false
set_option maxRecDepth 100000
namespace Go.Proofs.Abs
open ACode AIns AX
def c83b : ACode :=
(.seq (.reg [xo 2 (.anil 23 1)] [])
(.seq (.reg [xo 3 (.anil 23 1)] [])
(.seq (.reg [xm 7 0,xo 8 (.mkl 23 1 [(.list 5 [])] 1 [(0, (.t 7))] false),xm 4 8] [7,8])
(.seq (.block 0 (.loop true (.seq (.seq (.reg [xm 9 4,xo 10 (.len 1 (.t 9)),xo 11 (.bin .gtr 0 (.t 10) (ki 0))] [9,10])
(.cond (.t 11) [11] .skip (.exit 0)))
(.block 1 (.seq (.reg [xm 12 4,xo 13 (.iaddr 1 (.t 12) (ki 0)),xo 14 (.load false 1 (.t 13)),xm 5 14] [12,13,14])
(.seq (.reg [xm 15 4,xo 16 (.slc 1 (.t 15) (some (ki 1)) none none),xm 4 16] [15,16])
(.seq (.seq (.reg [xm 17 5,xo 18 (.call 81 [(true, (.t 17))]),xo 19 (.bin .eql 0 (.t 18) (ki 4))] [17,18])
(.cond (.t 19) [19] (.seq (.reg [xm 20 5,xo 21 (.call 24 [(true, (.t 20))]),xo 6 (.new [(.list 5 []),(.list 5 []),(.bool false)]),xn (.store false 3 (.t 6) (.t 21))] [20,21])
(.seq (.reg [xo 22 (.faddr 0 (.t 6)),xo 23 (.load false 1 (.t 22)),xo 24 (.faddr 1 (.t 6)),xo 25 (.load false 1 (.t 24)),xo 26 (.mkl 23 1 [(.list 5 [])] 2 [(0, (.t 23)),(1, (.t 25))] false),xm 27 4,xo 28 (.app 23 1 24 (.t 26) (.t 27)),xm 4 28] (rng 22 7))
(.exit 1))) .skip))
(.reg [xm 29 3,xm 30 5,xo 31 (.mkl 23 1 [(.list 5 [])] 1 [(0, (.t 30))] false),xo 32 (.app 23 1 24 (.t 29) (.t 31)),xm 3 32] (rng 29 4)))))))))
(.seq (.reg [xm 33 3,xm 2 33] [33])
.ret)))))
def fn83b : AFn := ⟨1, 34, c83b, [(.t 2)], 1⟩
theorem fn83b_body : fn83b.body = c83b := rfl
theorem fn83b_res : fn83b.res = [(.t 2)] := rfl
theorem fn83b_keep : fn83b.keep = 1 := rfl
theorem ok83b : fnOK Try.prog 83 fn83b = true := by kernel_rfl
end Go.Proofs.Abs
