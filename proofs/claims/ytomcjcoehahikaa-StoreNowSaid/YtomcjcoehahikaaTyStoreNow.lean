/- The types of the arguments of StoreNow, read: out of a program of the session's own (genrow.py). -/
import Derived.Test.YtomcjcoehahikaaHStoreNow
import Derived.Test.YtomcjcoehahikaaShapes
namespace Go.Proofs.Ytomcjcoehahikaa.TyStoreNow
open Go.RowKit Go.Proofs.YtomcjcoehahikaaW.PrintWords Go.Proofs.Ytomcjcoehahikaa.Shapes Go.Proofs.Ytomcjcoehahikaa.Sto
set_option linter.unusedVariables false
structure S27 where
  f0 : Int
  f1 : Int
def k27 : Kd S27 := Kd.iso (Kd.pair (Kd.int .u64) (Kd.int .u32)) (fun x : S27 => (x.f0, x.f1))
theorem k27_open {w : World} {x : S27} {cs : List Value} (h : k27.K w x cs) : cs = [.int .u64 x.f0, .int .u32 x.f1] := by
  obtain ⟨_, _, rfl, rfl, rfl⟩ := h
  exact rfl
def ok27 (x : S27) : Prop := (inU64 x.f0) ∧ (inU32 x.f1)
structure S29 where
  f0 : Int
  f1 : Int
def k29 : Kd S29 := Kd.iso (Kd.pair (Kd.int .u32) (Kd.int .u32)) (fun x : S29 => (x.f0, x.f1))
theorem k29_open {w : World} {x : S29} {cs : List Value} (h : k29.K w x cs) : cs = [.int .u32 x.f0, .int .u32 x.f1] := by
  obtain ⟨_, _, rfl, rfl, rfl⟩ := h
  exact rfl
def ok29 (x : S29) : Prop := (inU32 x.f0) ∧ (inU32 x.f1)
structure S31 where
  f0 : Int
  f1 : Int
  f2 : Int
  f3 : Int
  f4 : ByteArray
  f5 : Bool
def k31 : Kd S31 := Kd.iso (Kd.pair (Kd.pair (Kd.int .u64) (Kd.int .u32)) (Kd.pair (Kd.pair (Kd.int .u32) (Kd.int .u32)) (Kd.pair Kd.string Kd.bool))) (fun x : S31 => ((x.f0, x.f1), ((x.f2, x.f3), (x.f4, x.f5))))
theorem k31_open {w : World} {x : S31} {cs : List Value} (h : k31.K w x cs) : cs = [.int .u64 x.f0, .int .u32 x.f1, .int .u32 x.f2, .int .u32 x.f3, .string x.f4, .bool x.f5] := by
  obtain ⟨_, _, rfl, ⟨_, _, rfl, rfl, rfl⟩, ⟨_, _, rfl, ⟨_, _, rfl, rfl, rfl⟩, ⟨_, _, rfl, rfl, rfl⟩⟩⟩ := h
  exact rfl
def ok31 (x : S31) : Prop := (inU64 x.f0) ∧ (inU32 x.f1) ∧ (inU32 x.f2) ∧ (inU32 x.f3) ∧ ((okText 140737488351232) x.f4) ∧ (okAny x.f5)
structure S69 where
  f0 : Int
  f1 : Int
  f2 : ByteArray
  f3 : ByteArray
  f4 : Int
  f5 : Int
  f6 : Int
  f7 : Int
  f8 : ByteArray
  f9 : Bool
def k69 : Kd S69 := Kd.iso (Kd.pair (Kd.int .i64) (Kd.pair (Kd.int .i64) (Kd.pair Kd.string (Kd.pair Kd.string (Kd.pair (Kd.pair (Kd.int .u64) (Kd.int .u32)) (Kd.pair (Kd.pair (Kd.int .u32) (Kd.int .u32)) (Kd.pair Kd.string Kd.bool))))))) (fun x : S69 => (x.f0, (x.f1, (x.f2, (x.f3, ((x.f4, x.f5), ((x.f6, x.f7), (x.f8, x.f9))))))))
theorem k69_open {w : World} {x : S69} {cs : List Value} (h : k69.K w x cs) : cs = [.int .i64 x.f0, .int .i64 x.f1, .string x.f2, .string x.f3, .int .u64 x.f4, .int .u32 x.f5, .int .u32 x.f6, .int .u32 x.f7, .string x.f8, .bool x.f9] := by
  obtain ⟨_, _, rfl, rfl, ⟨_, _, rfl, rfl, ⟨_, _, rfl, rfl, ⟨_, _, rfl, rfl, ⟨_, _, rfl, ⟨_, _, rfl, rfl, rfl⟩, ⟨_, _, rfl, ⟨_, _, rfl, rfl, rfl⟩, ⟨_, _, rfl, rfl, rfl⟩⟩⟩⟩⟩⟩⟩ := h
  exact rfl
def ok69 (x : S69) : Prop := (inI64 x.f0) ∧ (inI64 x.f1) ∧ ((okText 140737488351232) x.f2) ∧ ((okText 140737488351232) x.f3) ∧ (inU64 x.f4) ∧ (inU32 x.f5) ∧ (inU32 x.f6) ∧ (inU32 x.f7) ∧ ((okText 140737488351232) x.f8) ∧ (okAny x.f9)
theorem raw27 : Opens Try.prog 140737488351232 27 (Kd.pair (Kd.int .u64) (Kd.int .u32)) (okPair inU64 inU32) := by
  refine opens_struct Try.underlying27 (by kernel_rfl) ?_
  refine opensF_cons ?_ ?_ ?_
  · rfl
  · exact (opens_u64 Try.underlying24 (by kernel_rfl))
  refine opensF_one ?_ ?_
  · rfl
  · exact (opens_u32 Try.underlying25 (by kernel_rfl))
theorem opens27 : Opens Try.prog 140737488351232 27 k27 ok27 :=
  opens_iso _ (fun x => ⟨x.1, x.2⟩) (fun _ => rfl) raw27 (fun x h => h)
theorem raw29 : Opens Try.prog 140737488351232 29 (Kd.pair (Kd.int .u32) (Kd.int .u32)) (okPair inU32 inU32) := by
  refine opens_struct Try.underlying29 (by kernel_rfl) ?_
  refine opensF_cons ?_ ?_ ?_
  · rfl
  · exact (opens_u32 Try.underlying25 (by kernel_rfl))
  refine opensF_one ?_ ?_
  · rfl
  · exact (opens_u32 Try.underlying25 (by kernel_rfl))
theorem opens29 : Opens Try.prog 140737488351232 29 k29 ok29 :=
  opens_iso _ (fun x => ⟨x.1, x.2⟩) (fun _ => rfl) raw29 (fun x h => h)
theorem raw31 : Opens Try.prog 140737488351232 31 (Kd.pair (Kd.pair (Kd.int .u64) (Kd.int .u32)) (Kd.pair (Kd.pair (Kd.int .u32) (Kd.int .u32)) (Kd.pair Kd.string Kd.bool))) (okPair (okPair inU64 inU32) (okPair (okPair inU32 inU32) (okPair (okText 140737488351232) okAny))) := by
  refine opens_struct Try.underlying31 (by kernel_rfl) ?_
  refine opensF_cons ?_ ?_ ?_
  · rfl
  · exact raw27
  refine opensF_cons ?_ ?_ ?_
  · rfl
  · exact raw29
  refine opensF_cons ?_ ?_ ?_
  · rfl
  · exact (opens_string Try.underlying9 (by kernel_rfl))
  refine opensF_one ?_ ?_
  · rfl
  · exact (opens_bool Try.underlying4 (by kernel_rfl))
theorem opens31 : Opens Try.prog 140737488351232 31 k31 ok31 :=
  opens_iso _ (fun x => ⟨x.1.1, x.1.2, x.2.1.1, x.2.1.2, x.2.2.1, x.2.2.2⟩) (fun _ => rfl) raw31 (fun x h => (by simpa [ok31, okPair, and_assoc] using h : ok31 ⟨x.1.1, x.1.2, x.2.1.1, x.2.1.2, x.2.2.1, x.2.2.2⟩))
theorem raw69 : Opens Try.prog 140737488351232 69 (Kd.pair (Kd.int .i64) (Kd.pair (Kd.int .i64) (Kd.pair Kd.string (Kd.pair Kd.string (Kd.pair (Kd.pair (Kd.int .u64) (Kd.int .u32)) (Kd.pair (Kd.pair (Kd.int .u32) (Kd.int .u32)) (Kd.pair Kd.string Kd.bool))))))) (okPair inI64 (okPair inI64 (okPair (okText 140737488351232) (okPair (okText 140737488351232) (okPair (okPair inU64 inU32) (okPair (okPair inU32 inU32) (okPair (okText 140737488351232) okAny))))))) := by
  refine opens_struct Try.underlying69 (by kernel_rfl) ?_
  refine opensF_cons ?_ ?_ ?_
  · rfl
  · exact (opens_i64 Try.underlying3 (by kernel_rfl))
  refine opensF_cons ?_ ?_ ?_
  · rfl
  · exact (opens_i64 Try.underlying3 (by kernel_rfl))
  refine opensF_cons ?_ ?_ ?_
  · rfl
  · exact (opens_string Try.underlying9 (by kernel_rfl))
  refine opensF_cons ?_ ?_ ?_
  · rfl
  · exact (opens_string Try.underlying9 (by kernel_rfl))
  refine opensF_one ?_ ?_
  · rfl
  · exact raw31
theorem opens69 : Opens Try.prog 140737488351232 69 k69 ok69 :=
  opens_iso _ (fun x => ⟨x.1, x.2.1, x.2.2.1, x.2.2.2.1, x.2.2.2.2.1.1, x.2.2.2.2.1.2, x.2.2.2.2.2.1.1, x.2.2.2.2.2.1.2, x.2.2.2.2.2.2.1, x.2.2.2.2.2.2.2⟩) (fun _ => rfl) raw69 (fun x h => (by simpa [ok69, okPair, and_assoc] using h : ok69 ⟨x.1, x.2.1, x.2.2.1, x.2.2.2.1, x.2.2.2.2.1.1, x.2.2.2.2.1.2, x.2.2.2.2.2.1.1, x.2.2.2.2.2.1.2, x.2.2.2.2.2.2.1, x.2.2.2.2.2.2.2⟩))
end Go.Proofs.Ytomcjcoehahikaa.TyStoreNow
