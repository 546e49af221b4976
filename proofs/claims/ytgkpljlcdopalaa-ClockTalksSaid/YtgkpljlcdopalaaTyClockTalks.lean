/- The types of the arguments of ClockTalks, read: out of a program of the session's own (genrow.py). -/
import Derived.Test.YtgkpljlcdopalaaPClockTalksx0
import Derived.Test.YtgkpljlcdopalaaShapes
namespace Go.Proofs.Ytgkpljlcdopalaa.TyClockTalks
open Go.RowKit Go.Proofs.YtgkpljlcdopalaaW.PrintWords Go.Proofs.Ytgkpljlcdopalaa.Shapes Go.Proofs.Ytgkpljlcdopalaa.PClockTalks
set_option linter.unusedVariables false
def ok25 (x : S25) : Prop := (inU64 x.f0) ∧ (inU32 x.f1)
structure S64 where
  f0 : Int
  f1 : Int
  f2 : Int
  f3 : Int
  f4 : Int
  f5 : Int
def k64 : Kd S64 := Kd.iso (Kd.pair (Kd.pair (Kd.int .u64) (Kd.int .u32)) (Kd.pair (Kd.pair (Kd.int .u64) (Kd.int .u32)) (Kd.pair (Kd.int .u64) (Kd.int .u16)))) (fun x : S64 => ((x.f0, x.f1), ((x.f2, x.f3), (x.f4, x.f5))))
theorem k64_open {w : World} {x : S64} {cs : List Value} (h : k64.K w x cs) : cs = [.int .u64 x.f0, .int .u32 x.f1, .int .u64 x.f2, .int .u32 x.f3, .int .u64 x.f4, .int .u16 x.f5] := by
  obtain ⟨_, _, rfl, ⟨_, _, rfl, rfl, rfl⟩, ⟨_, _, rfl, ⟨_, _, rfl, rfl, rfl⟩, ⟨_, _, rfl, rfl, rfl⟩⟩⟩ := h
  exact rfl
def ok64 (x : S64) : Prop := (inU64 x.f0) ∧ (inU32 x.f1) ∧ (inU64 x.f2) ∧ (inU32 x.f3) ∧ (inU64 x.f4) ∧ (inU16 x.f5)
theorem raw25 : Opens Try.prog 140737488351232 25 (Kd.pair (Kd.int .u64) (Kd.int .u32)) (okPair inU64 inU32) := by
  refine opens_struct Try.underlying25 (by kernel_rfl) ?_
  refine opensF_cons ?_ ?_ ?_
  · rfl
  · exact (opens_u64 Try.underlying22 (by kernel_rfl))
  refine opensF_one ?_ ?_
  · rfl
  · exact (opens_u32 Try.underlying23 (by kernel_rfl))
theorem opens25 : Opens Try.prog 140737488351232 25 k25 ok25 :=
  opens_iso _ (fun x => ⟨x.1, x.2⟩) (fun _ => rfl) raw25 (fun x h => h)
theorem raw64 : Opens Try.prog 140737488351232 64 (Kd.pair (Kd.pair (Kd.int .u64) (Kd.int .u32)) (Kd.pair (Kd.pair (Kd.int .u64) (Kd.int .u32)) (Kd.pair (Kd.int .u64) (Kd.int .u16)))) (okPair (okPair inU64 inU32) (okPair (okPair inU64 inU32) (okPair inU64 inU16))) := by
  refine opens_struct Try.underlying64 (by kernel_rfl) ?_
  refine opensF_cons ?_ ?_ ?_
  · rfl
  · exact raw25
  refine opensF_cons ?_ ?_ ?_
  · rfl
  · exact raw25
  refine opensF_cons ?_ ?_ ?_
  · rfl
  · exact (opens_u64 Try.underlying22 (by kernel_rfl))
  refine opensF_one ?_ ?_
  · rfl
  · exact (opens_u16 Try.underlying62 (by kernel_rfl))
theorem opens64 : Opens Try.prog 140737488351232 64 k64 ok64 :=
  opens_iso _ (fun x => ⟨x.1.1, x.1.2, x.2.1.1, x.2.1.2, x.2.2.1, x.2.2.2⟩) (fun _ => rfl) raw64 (fun x h => (by simpa [ok64, okPair, and_assoc] using h : ok64 ⟨x.1.1, x.1.2, x.2.1.1, x.2.1.2, x.2.2.1, x.2.2.2⟩))
end Go.Proofs.Ytgkpljlcdopalaa.TyClockTalks
