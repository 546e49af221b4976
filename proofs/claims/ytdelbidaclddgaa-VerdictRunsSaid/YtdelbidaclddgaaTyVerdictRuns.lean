/- The types of the arguments of VerdictRuns, read: out of a program of the session's own (genrow.py). -/
import Derived.Test.YtdelbidaclddgaaHVerdictRuns
import Derived.Test.YtdelbidaclddgaaShapes
namespace Go.Proofs.Ytdelbidaclddgaa.TyVerdictRuns
open Go.RowKit Go.Proofs.YtdelbidaclddgaaW.PrintWords Go.Proofs.Ytdelbidaclddgaa.Shapes Go.Proofs.Ytdelbidaclddgaa.Ver Go.Proofs.Ytdelbidaclddgaa.MVerdictRuns
set_option linter.unusedVariables false
def ok32 (x : S32) : Prop := (inU32 x.f0) ∧ (inU32 x.f1)
def ok35 (x : S35) : Prop := (inU64 x.f0) ∧ (inU32 x.f1)
def ok37 (x : S37) : Prop := (ok32 x.f0) ∧ (ok35 x.f1) ∧ (ok35 x.f2) ∧ (inU8 x.f3) ∧ (okAny x.f4)
def ok40 (x : S40) : Prop := (inI64 x.f0) ∧ (ok37 x.f1) ∧ (ok35 x.f2) ∧ (x.f3.length * Try.prog.bytesOf 32 ≤ 140737488351232 ∧ ∀ a ∈ x.f3, ok32 a)
theorem raw32 : Opens Try.prog 140737488351232 32 (Kd.pair (Kd.int .u32) (Kd.int .u32)) (okPair inU32 inU32) := by
  refine opens_struct Try.underlying32 (by kernel_rfl) ?_
  refine opensF_cons ?_ ?_ ?_
  · rfl
  · exact (opens_u32 Try.underlying30 (by kernel_rfl))
  refine opensF_one ?_ ?_
  · rfl
  · exact (opens_u32 Try.underlying30 (by kernel_rfl))
theorem opens32 : Opens Try.prog 140737488351232 32 k32 ok32 :=
  opens_iso _ (fun x => ⟨x.1, x.2⟩) (fun _ => rfl) raw32 (fun x h => h)
theorem raw35 : Opens Try.prog 140737488351232 35 (Kd.pair (Kd.int .u64) (Kd.int .u32)) (okPair inU64 inU32) := by
  refine opens_struct Try.underlying35 (by kernel_rfl) ?_
  refine opensF_cons ?_ ?_ ?_
  · rfl
  · exact (opens_u64 Try.underlying33 (by kernel_rfl))
  refine opensF_one ?_ ?_
  · rfl
  · exact (opens_u32 Try.underlying30 (by kernel_rfl))
theorem opens35 : Opens Try.prog 140737488351232 35 k35 ok35 :=
  opens_iso _ (fun x => ⟨x.1, x.2⟩) (fun _ => rfl) raw35 (fun x h => h)
theorem raw37 : Opens Try.prog 140737488351232 37 (Kd.pair k32 (Kd.pair k35 (Kd.pair k35 (Kd.pair (Kd.int .u8) Kd.bool)))) (okPair ok32 (okPair ok35 (okPair ok35 (okPair inU8 okAny)))) := by
  refine opens_struct Try.underlying37 (by kernel_rfl) ?_
  refine opensF_cons ?_ ?_ ?_
  · rfl
  · exact opens32
  refine opensF_cons ?_ ?_ ?_
  · rfl
  · exact opens35
  refine opensF_cons ?_ ?_ ?_
  · rfl
  · exact opens35
  refine opensF_cons ?_ ?_ ?_
  · rfl
  · exact (opens_u8 Try.underlying5 (by kernel_rfl))
  refine opensF_one ?_ ?_
  · rfl
  · exact (opens_bool Try.underlying4 (by kernel_rfl))
theorem opens37 : Opens Try.prog 140737488351232 37 k37 ok37 :=
  opens_iso _ (fun x => ⟨x.1, x.2.1, x.2.2.1, x.2.2.2.1, x.2.2.2.2⟩) (fun _ => rfl) raw37 (fun x h => h)
theorem raw40 : Opens Try.prog 140737488351232 40 (Kd.pair (Kd.int .i64) (Kd.pair k37 (Kd.pair k35 (Kd.slice 32 k32)))) (okPair inI64 (okPair ok37 (okPair ok35 (okRow (Try.prog.bytesOf 32) 140737488351232 ok32)))) := by
  refine opens_struct Try.underlying40 (by kernel_rfl) ?_
  refine opensF_cons ?_ ?_ ?_
  · rfl
  · exact (opens_i64 Try.underlying3 (by kernel_rfl))
  refine opensF_cons ?_ ?_ ?_
  · rfl
  · exact opens37
  refine opensF_cons ?_ ?_ ?_
  · rfl
  · exact opens35
  refine opensF_one ?_ ?_
  · rfl
  · exact (opens_slice Try.underlying38 (by kernel_rfl) opens32)
theorem opens40 : Opens Try.prog 140737488351232 40 k40 ok40 :=
  opens_iso _ (fun x => ⟨x.1, x.2.1, x.2.2.1, x.2.2.2⟩) (fun _ => rfl) raw40 (fun x h => h)
end Go.Proofs.Ytdelbidaclddgaa.TyVerdictRuns
