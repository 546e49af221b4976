/- Printed by a program of the session's own (wip/myprint.sh): the kit's printer, with texts of the session's own for some functions. -/
import Derived.Test.YtomcjcoehahikaaMStoreRunsx0
import Derived.Test.YtomcjcoehahikaaMStoreRunsx1
namespace Go.Proofs.Ytomcjcoehahikaa.MStoreRuns
open Go.RowKit Go.Proofs.YtomcjcoehahikaaW.PrintWords Go.Proofs.YtomcjcoehahikaaW.PrintLast Go.Proofs.YtomcjcoehahikaaW.PrintMore
attribute [local go_sem] max2_int min2_int max_two min_two max_three min_three max_four min_four   -- for this text's walks alone
set_option linter.unusedVariables false
set_option linter.unusedSimpArgs false

theorem eqA29 (d : Nat) (w : World) (x0 y0 : Int) (x1 y1 : Int) :
    (Op.equalIn (d + 2) 29 (.agg #[.int .u32 x0, .int .u32 x1]) (.agg #[.int .u32 y0, .int .u32 y1])).run Try.prog w = .ok (x0 == y0 && (x1 == y1)) w := by
  refine eqA_of Try.underlying29 (by kernel_rfl) ?_
  refine eqf_cons (by rfl) (by go_simp; rfl) (by go_simp; rfl) (by go_simp) ?_
  exact eqf_last (by rfl) (by go_simp; rfl) (by go_simp; rfl) (by go_simp)
theorem eqA31 (d : Nat) (w : World) (x0 y0 : Int) (x1 y1 : Int) (x2 y2 : Int) (x3 y3 : Int) (x4 y4 : ByteArray) (x5 y5 : Bool) :
    (Op.equalIn (d + 3) 31 (.agg #[.int .u64 x0, .int .u32 x1, .int .u32 x2, .int .u32 x3, .string x4, .bool x5]) (.agg #[.int .u64 y0, .int .u32 y1, .int .u32 y2, .int .u32 y3, .string y4, .bool y5])).run Try.prog w = .ok ((x0 == y0 && (x1 == y1)) && ((x2 == y2 && (x3 == y3)) && (x4.toList == y4.toList && (x5 == y5)))) w := by
  refine eqA_of Try.underlying31 (by kernel_rfl) ?_
  refine eqf_cons (by rfl) (by go_simp) (by go_simp) (eqA27 (d + 0) w _ _ _ _) ?_
  refine eqf_cons (by rfl) (by go_simp) (by go_simp) (eqA29 (d + 0) w _ _ _ _) ?_
  refine eqf_cons (by rfl) (by go_simp; rfl) (by go_simp; rfl) (by go_simp) ?_
  exact eqf_last (by rfl) (by go_simp; rfl) (by go_simp; rfl) (by go_simp)
end Go.Proofs.Ytomcjcoehahikaa.MStoreRuns
