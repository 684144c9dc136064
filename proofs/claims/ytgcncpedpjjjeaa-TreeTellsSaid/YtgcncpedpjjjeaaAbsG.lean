/- A function's code once more, by another way of taking a call: printed by a program. -/
import Derived.Test.YtgcncpedpjjjeaaAbsC
set_option linter.all false
set_option maxRecDepth 100000
namespace Go.Proofs.Abs
open ACode AIns AX
def c24b : ACode :=
(.seq (.reg [⟨(some 2), none, .new [(.list 5 []), (.list 5 []), (.bool false)], []⟩] [])
(.seq (.seq (.reg [⟨(some 5), none, .mov (.t 0), []⟩,
  ⟨(some 6), none, .call 30 [(true, (.t 5))], []⟩,
  ⟨(some 7), none, .un .not (.t 6), []⟩] [5, 6])
(.cond (.t 7) [7] (.seq (.reg [⟨(some 8), none, .agg [(.list 5 []), (.list 5 []), (.bool false)] [], []⟩,
  ⟨none, none, .store false 3 (.t 2) (.t 8), []⟩] [8])
.ret) .skip))
(.seq (.reg [⟨(some 9), none, .mov (.t 0), []⟩,
  ⟨(some 10), none, .len 1 (.t 9), []⟩,
  ⟨(some 11), none, .bin .sub 0 (.t 10) (.k (.int .i64 1)), []⟩,
  ⟨(some 3), none, .mov (.t 11), []⟩] [9, 10, 11])
(.seq (.reg [⟨(some 12), none, .mov (.t 0), []⟩,
  ⟨(some 13), none, .mov (.t 3), []⟩,
  ⟨(some 14), none, .iaddr 5 (.t 12) (.t 13), []⟩,
  ⟨(some 15), none, .load true 5 (.t 14), []⟩,
  ⟨(some 4), none, .new [(.int .i64 0), (.int .i64 0), (.int .i64 0), (.list 2 []), (.str ⟨#[]⟩)], []⟩,
  ⟨none, none, .store false 5 (.t 4) (.t 15), []⟩] [12, 13, 14, 15])
(.seq (.seq (.reg [⟨(some 16), none, .faddr 0 (.t 4), []⟩,
  ⟨(some 17), none, .load false 1 (.t 16), []⟩] [16])
(.block 0 (.seq (.reg [⟨(some 19), none, .bin .eql 0 (.t 17) (.k (.int .i64 5)), []⟩,
  ⟨(some 18), none, .mov (.t 19), []⟩] [19])
(.cond (.t 18) [18] (.seq (.reg [⟨(some 20), none, .mov (.t 0), []⟩,
  ⟨(some 21), none, .faddr 1 (.t 4), []⟩,
  ⟨(some 22), none, .load false 1 (.t 21), []⟩,
  ⟨(some 23), none, .call 100070 [(true, (.t 20)), (true, (.k (.int .i64 0))), (true, (.t 22))], []⟩,
  ⟨(some 24), none, .agg [(.list 5 []), (.list 5 []), (.bool false)] [(0, 1, (.t 23)), (2, 1, (.k (.bool true)))], []⟩,
  ⟨none, none, .store false 3 (.t 2) (.t 24), []⟩] [20, 21, 22, 23, 24])
.ret) (.seq (.seq (.reg [⟨(some 26), none, .bin .eql 0 (.t 17) (.k (.int .i64 3)), []⟩,
  ⟨(some 25), none, .mov (.t 26), []⟩] [26])
(.cond (.t 25) [] .skip (.reg [⟨(some 27), none, .bin .eql 0 (.t 17) (.k (.int .i64 4)), []⟩,
  ⟨(some 25), none, .mov (.t 27), []⟩] [27])))
(.cond (.t 25) [] (.seq (.dreg [⟨(some 28), none, .mov (.t 0), []⟩,
  ⟨(some 29), none, .faddr 1 (.t 4), []⟩,
  ⟨(some 30), none, .load false 1 (.t 29), [1]⟩,
  ⟨(some 31), none, .call 100070 [(true, (.t 28)), (true, (.k (.int .i64 0))), (true, (.t 30))], [0, 1, 2]⟩,
  ⟨(some 32), none, .mov (.t 0), []⟩,
  ⟨(some 33), none, .faddr 1 (.t 4), []⟩,
  ⟨(some 34), none, .load false 1 (.t 33), [5]⟩,
  ⟨(some 35), none, .bin .add 0 (.t 34) (.k (.int .i64 1)), [5, 6]⟩,
  ⟨(some 36), none, .faddr 2 (.t 4), []⟩,
  ⟨(some 37), none, .load false 1 (.t 36), [8]⟩,
  ⟨(some 38), none, .call 100070 [(true, (.t 32)), (true, (.t 35)), (true, (.t 37))], [0, 1, 2, 3, 4, 5, 6, 7, 8, 9]⟩,
  ⟨(some 39), none, .agg [(.list 5 []), (.list 5 []), (.bool false)] [(0, 1, (.t 31)), (1, 1, (.t 38)), (2, 1, (.k (.bool true)))], [0, 1, 2, 3, 4, 5, 6, 7, 8, 9, 10]⟩,
  ⟨none, none, .store false 3 (.t 2) (.t 39), [0, 1, 2, 3, 4, 5, 6, 7, 8, 9, 10, 11]⟩] [28, 29, 30, 31, 32, 33, 34, 35, 36, 37, 38, 39])
.ret) .skip))))))
(.seq (.reg [⟨(some 40), none, .agg [(.list 5 []), (.list 5 []), (.bool false)] [], []⟩,
  ⟨none, none, .store false 3 (.t 2) (.t 40), []⟩] [40])
.ret))))))
def fn24b : AFn := ⟨1, 41, c24b, [(.c 2 true 3)], 0⟩
theorem fn24b_body : fn24b.body = c24b := rfl
theorem fn24b_res : fn24b.res = [(.c 2 true 3)] := rfl
theorem fn24b_keep : fn24b.keep = 0 := rfl
theorem ok24b : fnOK Try.prog 24 fn24b = true := by kernel_rfl
theorem ok70b : fnOK Try.prog 70 { fn70 with keep := 0 } = true := by kernel_rfl
/-- A table with one more code. -/
def updC (ft : FT) (f : Nat) (x : AFn) : FT := fun n => if n = f then some (.code x) else ft n
theorem updC_ok {P : Go.Program} {ft : FT} (h : FTOK P ft) {f : Nat} {x : AFn} (hx : fnOK P (f % 100000) x = true) : FTOK P (updC ft f x) := by
  intro n y hy
  unfold updC at hy
  split at hy
  · rename_i e
    subst e
    injection hy with hy
    subst hy
    exact hx
  · exact h n y hy
end Go.Proofs.Abs
