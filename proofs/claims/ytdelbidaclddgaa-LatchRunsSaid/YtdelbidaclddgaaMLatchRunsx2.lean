/- Printed by a program of the session's own (wip/myprint.sh): the kit's printer, with texts of the session's own for some functions. -/
import Derived.Test.YtdelbidaclddgaaMLatchRunsx0
import Derived.Test.YtdelbidaclddgaaMLatchRunsx1
namespace Go.Proofs.Ytdelbidaclddgaa.MLatchRuns
open Go.RowKit Go.Proofs.YtdelbidaclddgaaW.PrintWords Go.Proofs.YtdelbidaclddgaaW.PrintLast Go.Proofs.YtdelbidaclddgaaW.PrintMore
attribute [local go_sem] max2_int min2_int max_two min_two max_three min_three max_four min_four   -- for this text's walks alone
set_option linter.unusedVariables false
set_option linter.unusedSimpArgs false

theorem eqA35 (d : Nat) (w : World) (x0 y0 : Int) (x1 y1 : Int) :
    (Op.equalIn (d + 2) 35 (.agg #[.int .u64 x0, .int .u32 x1]) (.agg #[.int .u64 y0, .int .u32 y1])).run Try.prog w = .ok (x0 == y0 && (x1 == y1)) w := by
  refine eqA_of Try.underlying35 (by kernel_rfl) ?_
  refine eqf_cons (by rfl) (by go_simp; rfl) (by go_simp; rfl) (by go_simp) ?_
  exact eqf_last (by rfl) (by go_simp; rfl) (by go_simp; rfl) (by go_simp)
theorem eqA63 (d : Nat) (w : World) (x0 y0 : ByteArray) (x1 y1 : ByteArray) (x2 y2 : Bool) :
    (Op.equalIn (d + 2) 63 (.agg #[.string x0, .string x1, .bool x2]) (.agg #[.string y0, .string y1, .bool y2])).run Try.prog w = .ok (x0.toList == y0.toList && (x1.toList == y1.toList && (x2 == y2))) w := by
  refine eqA_of Try.underlying63 (by kernel_rfl) ?_
  refine eqf_cons (by rfl) (by go_simp; rfl) (by go_simp; rfl) (by go_simp) ?_
  refine eqf_cons (by rfl) (by go_simp; rfl) (by go_simp; rfl) (by go_simp) ?_
  exact eqf_last (by rfl) (by go_simp; rfl) (by go_simp; rfl) (by go_simp)
theorem eqA65 (d : Nat) (w : World) (x0 y0 : Int) (x1 y1 : Int) (x2 y2 : Int) (x3 y3 : Int) (x4 y4 : Int) (x5 y5 : Int) (x6 y6 : ByteArray) (x7 y7 : ByteArray) (x8 y8 : ByteArray) (x9 y9 : Bool) :
    (Op.equalIn (d + 3) 65 (.agg #[.int .u32 x0, .int .u32 x1, .int .u64 x2, .int .u32 x3, .int .u64 x4, .int .u32 x5, .string x6, .string x7, .string x8, .bool x9]) (.agg #[.int .u32 y0, .int .u32 y1, .int .u64 y2, .int .u32 y3, .int .u64 y4, .int .u32 y5, .string y6, .string y7, .string y8, .bool y9])).run Try.prog w = .ok ((x0 == y0 && (x1 == y1)) && ((x2 == y2 && (x3 == y3)) && ((x4 == y4 && (x5 == y5)) && (x6.toList == y6.toList && ((x7.toList == y7.toList && (x8.toList == y8.toList && (x9 == y9)))))))) w := by
  refine eqA_of Try.underlying65 (by kernel_rfl) ?_
  refine eqf_cons (by rfl) (by go_simp) (by go_simp) (eqA32 (d + 0) w _ _ _ _) ?_
  refine eqf_cons (by rfl) (by go_simp) (by go_simp) (eqA35 (d + 0) w _ _ _ _) ?_
  refine eqf_cons (by rfl) (by go_simp) (by go_simp) (eqA35 (d + 0) w _ _ _ _) ?_
  refine eqf_cons (by rfl) (by go_simp; rfl) (by go_simp; rfl) (by go_simp) ?_
  exact eqf_last (by rfl) (by go_simp) (by go_simp) (eqA63 (d + 0) w _ _ _ _ _ _)
end Go.Proofs.Ytdelbidaclddgaa.MLatchRuns
