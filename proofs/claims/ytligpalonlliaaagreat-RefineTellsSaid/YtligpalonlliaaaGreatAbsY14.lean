/- A part of a proof: the text that states the row tells what is proved. No condition is laid on anything. -/
import Derived.Test.YtligpalonlliaaaGreatAbsY13
set_option linter.all false
set_option linter.constructorNameAsVariable false
set_option linter.defProp false
set_option linter.unusedVariables false
set_option linter.unusedSimpArgs false
set_option maxRecDepth 100000
set_option maxHeartbeats 16000000
namespace Go.Proofs.Abs
open Go
noncomputable def s9 : FT := upd (s8) 40 k61.ora
theorem s9_ok : FTOK Tryz.prog s9 := upd_ok2 (f := 40) (s8_ok) ook61

/-! 65: caesuraref03.Less. -/
end Go.Proofs.Abs
