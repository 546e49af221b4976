/- The types of the arguments of LatchRuns, read: out of a program of the session's own (genrow.py). -/
import Derived.Test.YtdelbidaclddgaaHLatchRuns
import Derived.Test.YtdelbidaclddgaaShapes
namespace Go.Proofs.Ytdelbidaclddgaa.TyLatchRuns
open Go.RowKit Go.Proofs.YtdelbidaclddgaaW.PrintWords Go.Proofs.Ytdelbidaclddgaa.Shapes Go.Proofs.Ytdelbidaclddgaa.Lat Go.Proofs.Ytdelbidaclddgaa.MLatchRuns
set_option linter.unusedVariables false
def ok32 (x : S32) : Prop := (inU32 x.f0) ∧ (inU32 x.f1)
def ok35 (x : S35) : Prop := (inU64 x.f0) ∧ (inU32 x.f1)
def ok63 (x : S63) : Prop := ((okText 140737488351232) x.f0) ∧ ((okText 140737488351232) x.f1) ∧ (okAny x.f2)
def ok58 (x : S58) : Prop := (inI64 x.f0) ∧ (ok32 x.f1) ∧ (ok35 x.f2) ∧ (ok35 x.f3) ∧ ((okText 140737488351232) x.f4) ∧ (x.f5.length * Try.prog.bytesOf 63 ≤ 140737488351232 ∧ ∀ a ∈ x.f5, ok63 a) ∧ ((okText 140737488351232) x.f6) ∧ ((okText 140737488351232) x.f7) ∧ (x.f8.length * Try.prog.bytesOf 32 ≤ 140737488351232 ∧ ∀ a ∈ x.f8, ok32 a)
theorem raw32 : Opens Try.prog 140737488351232 32 (Kd.pair (Kd.int .u32) (Kd.int .u32)) (okPair inU32 inU32) := by
  refine opens_struct Try.underlying32 (by kernel_rfl) ?_
  refine opensF_cons ?_ ?_ ?_
  · rfl
  · exact (opens_u32 Try.underlying30 (by kernel_rfl))
  refine opensF_one ?_ ?_
  · rfl
  · exact (opens_u32 Try.underlying30 (by kernel_rfl))
theorem opens32 : Opens Try.prog 140737488351232 32 k32 ok32 :=
  opens_iso _ (fun x => ⟨x.1, x.2⟩) (fun _ => rfl) raw32 (fun x h => h)
theorem raw35 : Opens Try.prog 140737488351232 35 (Kd.pair (Kd.int .u64) (Kd.int .u32)) (okPair inU64 inU32) := by
  refine opens_struct Try.underlying35 (by kernel_rfl) ?_
  refine opensF_cons ?_ ?_ ?_
  · rfl
  · exact (opens_u64 Try.underlying33 (by kernel_rfl))
  refine opensF_one ?_ ?_
  · rfl
  · exact (opens_u32 Try.underlying30 (by kernel_rfl))
theorem opens35 : Opens Try.prog 140737488351232 35 k35 ok35 :=
  opens_iso _ (fun x => ⟨x.1, x.2⟩) (fun _ => rfl) raw35 (fun x h => h)
theorem raw63 : Opens Try.prog 140737488351232 63 (Kd.pair Kd.string (Kd.pair Kd.string Kd.bool)) (okPair (okText 140737488351232) (okPair (okText 140737488351232) okAny)) := by
  refine opens_struct Try.underlying63 (by kernel_rfl) ?_
  refine opensF_cons ?_ ?_ ?_
  · rfl
  · exact (opens_string Try.underlying9 (by kernel_rfl))
  refine opensF_cons ?_ ?_ ?_
  · rfl
  · exact (opens_string Try.underlying9 (by kernel_rfl))
  refine opensF_one ?_ ?_
  · rfl
  · exact (opens_bool Try.underlying4 (by kernel_rfl))
theorem opens63 : Opens Try.prog 140737488351232 63 k63 ok63 :=
  opens_iso _ (fun x => ⟨x.1, x.2.1, x.2.2⟩) (fun _ => rfl) raw63 (fun x h => h)
theorem raw58 : Opens Try.prog 140737488351232 58 (Kd.pair (Kd.int .i64) (Kd.pair k32 (Kd.pair k35 (Kd.pair k35 (Kd.pair Kd.string (Kd.pair (Kd.slice 63 k63) (Kd.pair Kd.string (Kd.pair Kd.string (Kd.slice 32 k32))))))))) (okPair inI64 (okPair ok32 (okPair ok35 (okPair ok35 (okPair (okText 140737488351232) (okPair (okRow (Try.prog.bytesOf 63) 140737488351232 ok63) (okPair (okText 140737488351232) (okPair (okText 140737488351232) (okRow (Try.prog.bytesOf 32) 140737488351232 ok32))))))))) := by
  refine opens_struct Try.underlying58 (by kernel_rfl) ?_
  refine opensF_cons ?_ ?_ ?_
  · rfl
  · exact (opens_i64 Try.underlying3 (by kernel_rfl))
  refine opensF_cons ?_ ?_ ?_
  · rfl
  · exact opens32
  refine opensF_cons ?_ ?_ ?_
  · rfl
  · exact opens35
  refine opensF_cons ?_ ?_ ?_
  · rfl
  · exact opens35
  refine opensF_cons ?_ ?_ ?_
  · rfl
  · exact (opens_string Try.underlying9 (by kernel_rfl))
  refine opensF_cons ?_ ?_ ?_
  · rfl
  · exact (opens_slice Try.underlying56 (by kernel_rfl) opens63)
  refine opensF_cons ?_ ?_ ?_
  · rfl
  · exact (opens_string Try.underlying9 (by kernel_rfl))
  refine opensF_cons ?_ ?_ ?_
  · rfl
  · exact (opens_string Try.underlying9 (by kernel_rfl))
  refine opensF_one ?_ ?_
  · rfl
  · exact (opens_slice Try.underlying38 (by kernel_rfl) opens32)
theorem opens58 : Opens Try.prog 140737488351232 58 k58 ok58 :=
  opens_iso _ (fun x => ⟨x.1, x.2.1, x.2.2.1, x.2.2.2.1, x.2.2.2.2.1, x.2.2.2.2.2.1, x.2.2.2.2.2.2.1, x.2.2.2.2.2.2.2.1, x.2.2.2.2.2.2.2.2⟩) (fun _ => rfl) raw58 (fun x h => h)
end Go.Proofs.Ytdelbidaclddgaa.TyLatchRuns
