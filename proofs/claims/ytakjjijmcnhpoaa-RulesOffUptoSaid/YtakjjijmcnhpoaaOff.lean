/- Proved here: RulesOff answers true and leaves its arguments as they were. Condition: the arguments hold together at most 1048576 values and letters (the given statement RulesOffUptoSaid). -/
import Derived.Test.YtakjjijmcnhpoaaPC
import Derived.Test.YtakjjijmcnhpoaaTurns
namespace Go.Proofs.Ytakjjijmcnhpoaa
open Go Go.Ev
set_option linter.unusedVariables false

theorem plainOff : PlainOff := fun p c hp hc hs =>
  Ev.S.lawOff (by decide) Ev.S.head_true ((can_form hp).1 rfl) (by omega)
theorem off : Rows.RulesOffUptoSaid := overOff plainOff
end Go.Proofs.Ytakjjijmcnhpoaa
