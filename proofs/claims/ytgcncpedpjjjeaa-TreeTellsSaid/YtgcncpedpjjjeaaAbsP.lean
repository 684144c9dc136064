/- A part of a proof: the text that states the row tells what is proved. No condition is laid on anything. -/
import Derived.Test.YtgcncpedpjjjeaaAbsE0
set_option linter.all false
set_option linter.constructorNameAsVariable false
set_option linter.defProp false
set_option linter.unusedVariables false
set_option linter.unusedSimpArgs false
namespace Go.Proofs.Abs
open Go
/-- Plain equations, all in one ('simp' takes such a bundle only where no universe is left open in it). -/
def dat2 :=
  (And.intro @edrop_nil
  (And.intro @edrop_cons
  (And.intro @ekeep_nil
  (And.intro @ekeep_cons
  (And.intro @List.contains_cons.{0}
  (And.intro @List.contains_nil.{0}
  (And.intro @Bool.or_false
  (And.intro @Bool.false_or
  (And.intro @Bool.or_true
  (And.intro @Bool.true_or
  (And.intro @if_true.{0}
  (And.intro @if_false.{0}
  (And.intro @List.map_cons.{0, 0}
  (And.intro @List.map_nil.{0, 0}
  (And.intro @Bool.false_eq_true
  (And.intro @lrc_nil
  (And.intro @lrc_l
  (And.intro @lrc_r
  (And.intro @lrc_c
  (And.intro @List.all_nil.{0}
  (And.intro @List.all_cons.{0}
  (And.intro @Bool.not_false
  (And.intro @Bool.not_true
  (And.intro @Bool.and_self
  (And.intro @Bool.and_true
  (And.intro @Bool.true_and
  (And.intro @List.cons_append.{0}
  (And.intro @List.nil_append.{0}
  (And.intro @Option.map_some.{0, 0}
  (And.intro @beq_true
  (And.intro @beq_false
  (And.intro @beq_self_eq_true.{0}
  (And.intro @fz_bool
  (And.intro @fz_int
  (And.intro @fz_list
  (And.intro @fz_nils
  (And.intro @fz_str
  (And.intro @List.getElem?_cons_zero.{0}
  (And.intro @List.getElem?_cons_succ.{0}
  (And.intro @List.length_cons.{0}
  (And.intro @List.length_nil.{0}
  (And.intro @List.drop_zero.{0}
  (And.intro @List.drop_succ_cons.{0}
  (And.intro @List.drop_nil.{0}
  (And.intro @List.take_zero.{0}
  (And.intro @List.take_succ_cons.{0}
  (And.intro @List.take_nil.{0}
  (And.intro @List.cons.injEq.{0}
  (And.intro @and_true
  (And.intro @true_and
  (And.intro @and_false
  (And.intro @false_and
  (And.intro @and_self
  (And.intro @List.append_nil.{0}
  (And.intro @List.length_map.{0, 0}
  (And.intro @astr_eql
  (And.intro @astr_neq
  (And.intro @bytes_empty
  (And.intro @fz_tuple2
  (And.intro @fz_agg2
  (And.intro @fz_aggb
  (And.intro @fz_nd
  (And.intro @fz_nd5
  (And.intro @beqH_self
  (And.intro @bne_self_eq_false.{0}
  (And.intro @eNats_len
  (And.intro @eNats_snoc
  (And.intro @List.replicate_succ.{0}
  (And.intro @List.replicate_zero.{0}
  (And.intro @List.set_cons_zero.{0}
  @List.set_cons_succ.{0}))))))))))))))))))))))))))))))))))))))))))))))))))))))))))))))))))))))
end Go.Proofs.Abs
