-- Written by wip/hyprint.sh over the kit's printer, then by wip/own_print.py; Lean checks it.
import Derived.Test.YtcbflajacioinaaPx0
namespace Go.Proofs.Ytcbflajacioinaa.P
open Go.RowKit Go.Proofs.YtcbflajacioinaaW.PrintWords Go.Proofs.YtcbflajacioinaaW.PrintLast Go.Proofs.YtcbflajacioinaaW.PrintMore
attribute [local go_sem] max2_int min2_int max_two min_two max_three min_three max_four min_four   -- for this text's walks alone
set_option linter.unusedVariables false
set_option linter.unusedSimpArgs false

theorem eqA75 (d : Nat) (w : World) (x0 y0 : Int) (x1 y1 : Int) :
    (Op.equalIn (d + 2) 75 (.agg #[.int .i64 x0, .int .i64 x1]) (.agg #[.int .i64 y0, .int .i64 y1])).run Try.prog w = .ok (x0 == y0 && (x1 == y1)) w := by
  refine eqA_of Try.underlying75 (by kernel_rfl) ?_
  refine eqf_cons (by rfl) (by go_simp; rfl) (by go_simp; rfl) (by go_simp) ?_
  exact eqf_last (by rfl) (by go_simp; rfl) (by go_simp; rfl) (by go_simp)
end Go.Proofs.Ytcbflajacioinaa.P
