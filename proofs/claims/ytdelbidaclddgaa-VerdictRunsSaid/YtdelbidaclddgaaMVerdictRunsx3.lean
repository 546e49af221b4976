/- Printed by a program of the session's own (wip/myprint.sh): the kit's printer, with texts of the session's own for some functions. -/
import Derived.Test.YtdelbidaclddgaaMVerdictRunsx0
import Derived.Test.YtdelbidaclddgaaMVerdictRunsx1
import Derived.Test.YtdelbidaclddgaaMVerdictRunsx2
namespace Go.Proofs.Ytdelbidaclddgaa.MVerdictRuns
open Go.RowKit Go.Proofs.YtdelbidaclddgaaW.PrintWords Go.Proofs.YtdelbidaclddgaaW.PrintLast Go.Proofs.YtdelbidaclddgaaW.PrintMore
attribute [local go_sem] max2_int min2_int max_two min_two max_three min_three max_four min_four   -- for this text's walks alone
set_option linter.unusedVariables false
set_option linter.unusedSimpArgs false

theorem eqA37 (d : Nat) (w : World) (x0 y0 : Int) (x1 y1 : Int) (x2 y2 : Int) (x3 y3 : Int) (x4 y4 : Int) (x5 y5 : Int) (x6 y6 : Int) (x7 y7 : Bool) :
    (Op.equalIn (d + 3) 37 (.agg #[.int .u32 x0, .int .u32 x1, .int .u64 x2, .int .u32 x3, .int .u64 x4, .int .u32 x5, .int .u8 x6, .bool x7]) (.agg #[.int .u32 y0, .int .u32 y1, .int .u64 y2, .int .u32 y3, .int .u64 y4, .int .u32 y5, .int .u8 y6, .bool y7])).run Try.prog w = .ok ((x0 == y0 && (x1 == y1)) && ((x2 == y2 && (x3 == y3)) && ((x4 == y4 && (x5 == y5)) && (x6 == y6 && (x7 == y7))))) w := by
  refine eqA_of Try.underlying37 (by kernel_rfl) ?_
  refine eqf_cons (by rfl) (by go_simp) (by go_simp) (eqA32 (d + 0) w _ _ _ _) ?_
  refine eqf_cons (by rfl) (by go_simp) (by go_simp) (eqA35 (d + 0) w _ _ _ _) ?_
  refine eqf_cons (by rfl) (by go_simp) (by go_simp) (eqA35 (d + 0) w _ _ _ _) ?_
  refine eqf_cons (by rfl) (by go_simp; rfl) (by go_simp; rfl) (by go_simp) ?_
  exact eqf_last (by rfl) (by go_simp; rfl) (by go_simp; rfl) (by go_simp)
end Go.Proofs.Ytdelbidaclddgaa.MVerdictRuns
