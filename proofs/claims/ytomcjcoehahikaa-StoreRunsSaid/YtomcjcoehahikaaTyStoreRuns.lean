/- The types of the arguments of StoreRuns, read: out of a program of the session's own (genrow.py). -/
import Derived.Test.YtomcjcoehahikaaHStoreRuns
import Derived.Test.YtomcjcoehahikaaShapes
namespace Go.Proofs.Ytomcjcoehahikaa.TyStoreRuns
open Go.RowKit Go.Proofs.YtomcjcoehahikaaW.PrintWords Go.Proofs.Ytomcjcoehahikaa.Shapes Go.Proofs.Ytomcjcoehahikaa.Sto Go.Proofs.Ytomcjcoehahikaa.MStoreRuns
set_option linter.unusedVariables false
def ok27 (x : S27) : Prop := (inU64 x.f0) ∧ (inU32 x.f1)
def ok29 (x : S29) : Prop := (inU32 x.f0) ∧ (inU32 x.f1)
def ok31 (x : S31) : Prop := (ok27 x.f0) ∧ (ok29 x.f1) ∧ ((okText 140737488351232) x.f2) ∧ (okAny x.f3)
def ok69 (x : S69) : Prop := (inI64 x.f0) ∧ (inI64 x.f1) ∧ ((okText 140737488351232) x.f2) ∧ ((okText 140737488351232) x.f3) ∧ (ok31 x.f4)
theorem raw27 : Opens Try.prog 140737488351232 27 (Kd.pair (Kd.int .u64) (Kd.int .u32)) (okPair inU64 inU32) := by
  refine opens_struct Try.underlying27 (by kernel_rfl) ?_
  refine opensF_cons ?_ ?_ ?_
  · rfl
  · exact (opens_u64 Try.underlying24 (by kernel_rfl))
  refine opensF_one ?_ ?_
  · rfl
  · exact (opens_u32 Try.underlying25 (by kernel_rfl))
theorem opens27 : Opens Try.prog 140737488351232 27 k27 ok27 :=
  opens_iso _ (fun x => ⟨x.1, x.2⟩) (fun _ => rfl) raw27 (fun x h => h)
theorem raw29 : Opens Try.prog 140737488351232 29 (Kd.pair (Kd.int .u32) (Kd.int .u32)) (okPair inU32 inU32) := by
  refine opens_struct Try.underlying29 (by kernel_rfl) ?_
  refine opensF_cons ?_ ?_ ?_
  · rfl
  · exact (opens_u32 Try.underlying25 (by kernel_rfl))
  refine opensF_one ?_ ?_
  · rfl
  · exact (opens_u32 Try.underlying25 (by kernel_rfl))
theorem opens29 : Opens Try.prog 140737488351232 29 k29 ok29 :=
  opens_iso _ (fun x => ⟨x.1, x.2⟩) (fun _ => rfl) raw29 (fun x h => h)
theorem raw31 : Opens Try.prog 140737488351232 31 (Kd.pair k27 (Kd.pair k29 (Kd.pair Kd.string Kd.bool))) (okPair ok27 (okPair ok29 (okPair (okText 140737488351232) okAny))) := by
  refine opens_struct Try.underlying31 (by kernel_rfl) ?_
  refine opensF_cons ?_ ?_ ?_
  · rfl
  · exact opens27
  refine opensF_cons ?_ ?_ ?_
  · rfl
  · exact opens29
  refine opensF_cons ?_ ?_ ?_
  · rfl
  · exact (opens_string Try.underlying9 (by kernel_rfl))
  refine opensF_one ?_ ?_
  · rfl
  · exact (opens_bool Try.underlying4 (by kernel_rfl))
theorem opens31 : Opens Try.prog 140737488351232 31 k31 ok31 :=
  opens_iso _ (fun x => ⟨x.1, x.2.1, x.2.2.1, x.2.2.2⟩) (fun _ => rfl) raw31 (fun x h => h)
theorem raw69 : Opens Try.prog 140737488351232 69 (Kd.pair (Kd.int .i64) (Kd.pair (Kd.int .i64) (Kd.pair Kd.string (Kd.pair Kd.string k31)))) (okPair inI64 (okPair inI64 (okPair (okText 140737488351232) (okPair (okText 140737488351232) ok31)))) := by
  refine opens_struct Try.underlying69 (by kernel_rfl) ?_
  refine opensF_cons ?_ ?_ ?_
  · rfl
  · exact (opens_i64 Try.underlying3 (by kernel_rfl))
  refine opensF_cons ?_ ?_ ?_
  · rfl
  · exact (opens_i64 Try.underlying3 (by kernel_rfl))
  refine opensF_cons ?_ ?_ ?_
  · rfl
  · exact (opens_string Try.underlying9 (by kernel_rfl))
  refine opensF_cons ?_ ?_ ?_
  · rfl
  · exact (opens_string Try.underlying9 (by kernel_rfl))
  refine opensF_one ?_ ?_
  · rfl
  · exact opens31
theorem opens69 : Opens Try.prog 140737488351232 69 k69 ok69 :=
  opens_iso _ (fun x => ⟨x.1, x.2.1, x.2.2.1, x.2.2.2.1, x.2.2.2.2⟩) (fun _ => rfl) raw69 (fun x h => h)
end Go.Proofs.Ytomcjcoehahikaa.TyStoreRuns
