/- The types of the arguments of ChainSees, read: out of a program of the session's own (genrow.py). -/
import Derived.Test.YtomcjcoehahikaaMChainSeesx0
import Derived.Test.YtomcjcoehahikaaShapes
namespace Go.Proofs.Ytomcjcoehahikaa.TyChainSees
open Go.RowKit Go.Proofs.YtomcjcoehahikaaW.PrintWords Go.Proofs.Ytomcjcoehahikaa.Shapes Go.Proofs.Ytomcjcoehahikaa.MChainSees
set_option linter.unusedVariables false
theorem opens_array2 {α : Type} {P : Program} {B : Nat} {t e : TypeId} {d : Kd α} {ok : α → Prop} (ht : P.underlying t = some (.array 2 e)) (hc : P.cellsOf t = d.sz + d.sz) (he : Opens P B e d ok) : Opens P B t (Kd.pair d d) (okPair ok ok) := by
  refine ⟨hc, fun enc w base spare held fuel cs x hx hw => ?_⟩
  obtain ⟨xs, m, _, rfl, hl, hlen, hel⟩ := DataW.trod_array ht hx
  match xs, hlen with
  | [x, y], _ =>
    have h0 := hel 0 (by omega)
    have h1 := hel 1 (by omega)
    rw [he.1] at h0 h1
    have hw' : ∀ n ∈ DataW.weightsAll P e [x.1, y.1], n ≤ B := fun n hn => hw n (by simpa [DataW.weights, ht] using hn)
    obtain ⟨a, ka, oa⟩ := he.2 enc w base spare held m _ x (by simpa using h0) (fun n hn => hw' n (by simp [DataW.weightsAll, hn]))
    obtain ⟨b, kb, ob⟩ := he.2 enc w base spare held m _ y (by simpa using h1) (fun n hn => hw' n (by simp [DataW.weightsAll, hn]))
    refine ⟨(a, b), ⟨_, _, ?_, ka, kb⟩, oa, ob⟩
    have e1 : ((cs.drop d.sz).take d.sz) = cs.drop d.sz := List.take_of_length_le (by simp; omega)
    rw [e1, List.take_append_drop]
theorem okWide_array {P : Program} {w : World} {r : Reach} {base : Nat} {t : TypeId} {v : Value} {n : Nat} {e : TypeId} (ht : P.underlying t = some (.array n e)) (h : Value.okWide P w r base t v) : ∃ cs, v = .agg cs ∧ cs.size = P.cellsOf t := by
  simp only [Value.okWide, ht] at h
  obtain ⟨cs, h1, h2, _⟩ := h
  exact ⟨cs, h1, h2⟩
def ok27 (x : S27) : Prop := (inU64 x.f0) ∧ (inU32 x.f1)
def ok29 (x : S29) : Prop := (inU32 x.f0) ∧ (inU32 x.f1)
def ok31 (x : S31) : Prop := (ok27 x.f0) ∧ (ok29 x.f1) ∧ ((okText 140737488351232) x.f2) ∧ (okAny x.f3)
structure S35 where
  f0 : Int
  f1 : Int
  f2 : Int
  f3 : Int
def k35 : Kd S35 := Kd.iso (Kd.pair (Kd.pair (Kd.int .u64) (Kd.int .u32)) (Kd.pair (Kd.int .u64) (Kd.int .u32))) (fun x : S35 => ((x.f0, x.f1), (x.f2, x.f3)))
theorem k35_open {w : World} {x : S35} {cs : List Value} (h : k35.K w x cs) : cs = [.int .u64 x.f0, .int .u32 x.f1, .int .u64 x.f2, .int .u32 x.f3] := by
  obtain ⟨_, _, rfl, ⟨_, _, rfl, rfl, rfl⟩, ⟨_, _, rfl, rfl, rfl⟩⟩ := h
  exact rfl
def ok35 (x : S35) : Prop := (inU64 x.f0) ∧ (inU32 x.f1) ∧ (inU64 x.f2) ∧ (inU32 x.f3)
theorem raw27 : Opens Try.prog 140737488351232 27 (Kd.pair (Kd.int .u64) (Kd.int .u32)) (okPair inU64 inU32) := by
  refine opens_struct Try.underlying27 (by kernel_rfl) ?_
  refine opensF_cons ?_ ?_ ?_
  · rfl
  · exact (opens_u64 Try.underlying24 (by kernel_rfl))
  refine opensF_one ?_ ?_
  · rfl
  · exact (opens_u32 Try.underlying25 (by kernel_rfl))
theorem opens27 : Opens Try.prog 140737488351232 27 k27 ok27 :=
  opens_iso _ (fun x => ⟨x.1, x.2⟩) (fun _ => rfl) raw27 (fun x h => h)
theorem raw29 : Opens Try.prog 140737488351232 29 (Kd.pair (Kd.int .u32) (Kd.int .u32)) (okPair inU32 inU32) := by
  refine opens_struct Try.underlying29 (by kernel_rfl) ?_
  refine opensF_cons ?_ ?_ ?_
  · rfl
  · exact (opens_u32 Try.underlying25 (by kernel_rfl))
  refine opensF_one ?_ ?_
  · rfl
  · exact (opens_u32 Try.underlying25 (by kernel_rfl))
theorem opens29 : Opens Try.prog 140737488351232 29 k29 ok29 :=
  opens_iso _ (fun x => ⟨x.1, x.2⟩) (fun _ => rfl) raw29 (fun x h => h)
theorem raw31 : Opens Try.prog 140737488351232 31 (Kd.pair k27 (Kd.pair k29 (Kd.pair Kd.string Kd.bool))) (okPair ok27 (okPair ok29 (okPair (okText 140737488351232) okAny))) := by
  refine opens_struct Try.underlying31 (by kernel_rfl) ?_
  refine opensF_cons ?_ ?_ ?_
  · rfl
  · exact opens27
  refine opensF_cons ?_ ?_ ?_
  · rfl
  · exact opens29
  refine opensF_cons ?_ ?_ ?_
  · rfl
  · exact (opens_string Try.underlying9 (by kernel_rfl))
  refine opensF_one ?_ ?_
  · rfl
  · exact (opens_bool Try.underlying4 (by kernel_rfl))
theorem opens31 : Opens Try.prog 140737488351232 31 k31 ok31 :=
  opens_iso _ (fun x => ⟨x.1, x.2.1, x.2.2.1, x.2.2.2⟩) (fun _ => rfl) raw31 (fun x h => h)
theorem raw35 : Opens Try.prog 140737488351232 35 (Kd.pair (Kd.pair (Kd.int .u64) (Kd.int .u32)) (Kd.pair (Kd.int .u64) (Kd.int .u32))) (okPair (okPair inU64 inU32) (okPair inU64 inU32)) := by
  exact opens_array2 Try.underlying35 (by kernel_rfl) raw27
theorem opens35 : Opens Try.prog 140737488351232 35 k35 ok35 :=
  opens_iso _ (fun x => ⟨x.1.1, x.1.2, x.2.1, x.2.2⟩) (fun _ => rfl) raw35 (fun x h => (by simpa [ok35, okPair, and_assoc] using h : ok35 ⟨x.1.1, x.1.2, x.2.1, x.2.2⟩))
end Go.Proofs.Ytomcjcoehahikaa.TyChainSees
