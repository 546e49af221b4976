/- The types of the arguments of StampTexts, read: out of a program of the session's own (genrow.py). -/
import Derived.Test.YthfaacheolhjnaaDoorHStampTexts
import Derived.Test.YthfaacheolhjnaaDoorShapes
namespace Go.Proofs.YthfaacheolhjnaaDoor.TyStampTexts
open Go.RowKit Go.Proofs.YthfaacheolhjnaaDoorW.PrintWords Go.Proofs.YthfaacheolhjnaaDoor.Shapes Go.Proofs.YthfaacheolhjnaaDoor.Txt
set_option linter.unusedVariables false
structure S25 where
  f0 : Int
  f1 : Int
def k25 : Kd S25 := Kd.iso (Kd.pair (Kd.int .u64) (Kd.int .u32)) (fun x : S25 => (x.f0, x.f1))
theorem k25_open {w : World} {x : S25} {cs : List Value} (h : k25.K w x cs) : cs = [.int .u64 x.f0, .int .u32 x.f1] := by
  obtain ⟨_, _, rfl, rfl, rfl⟩ := h
  exact rfl
def ok25 (x : S25) : Prop := (inU64 x.f0) ∧ (inU32 x.f1)
theorem raw25 : Opens Tryd.prog 140737488351232 25 (Kd.pair (Kd.int .u64) (Kd.int .u32)) (okPair inU64 inU32) := by
  refine opens_struct Tryd.underlying25 (by kernel_rfl) ?_
  refine opensF_cons ?_ ?_ ?_
  · rfl
  · exact (opens_u64 Tryd.underlying22 (by kernel_rfl))
  refine opensF_one ?_ ?_
  · rfl
  · exact (opens_u32 Tryd.underlying23 (by kernel_rfl))
theorem opens25 : Opens Tryd.prog 140737488351232 25 k25 ok25 :=
  opens_iso _ (fun x => ⟨x.1, x.2⟩) (fun _ => rfl) raw25 (fun x h => h)
end Go.Proofs.YthfaacheolhjnaaDoor.TyStampTexts
