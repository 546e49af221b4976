/- The row of LatchRuns: its arguments opened, the printed walk and the pure law put together; out of a program of the session's own (genrow.py). -/
import Derived.Test.YtdelbidaclddgaaRows
import Derived.Test.YtdelbidaclddgaaHLatchRuns
import Derived.Test.YtdelbidaclddgaaTyLatchRuns
import Derived.Test.YtdelbidaclddgaaPureLatchRuns
namespace Go.Proofs.Ytdelbidaclddgaa.latchRuns
open Go.ChangeShapes Go.WideShapes Go.ChangeAt Go.RowKit Go.Proofs.YtdelbidaclddgaaW.PrintWords Go.Proofs.Ytdelbidaclddgaa.Shapes Go.Proofs.Ytdelbidaclddgaa.Lat Go.Proofs.Ytdelbidaclddgaa.MLatchRuns Go.Proofs.Ytdelbidaclddgaa.TyLatchRuns
set_option linter.unusedVariables false
theorem own : ownKnob Try.prog.godebug = none := by kernel_rfl
theorem laidOut : laidOutB Try.prog = true := by kernel_rfl
set_option maxRecDepth 100000 in
theorem contract {H : Type} {enc : TypeId × Value → H} (W : World) (base : Nat) (args : Array Value) (ds gs : List (DataW H)) (before : List MemPlace)
    (hval0 : ∀ (j : Nat) t v, Try.f10.params[j]? = some t → args[j]? = some v → Value.okWide Try.prog W .any base t v) (hW : DataW.Whole enc Try.prog Try.f10.params.toList Rows.latchRunsSpec.vars false W args.toList ds gs before)
    (hwt : ∀ (j : Nat) t d, Try.f10.params.toList[j]? = some t → ds[j]? = some d → ∀ n ∈ d.weights Try.prog t, n ≤ 140737488351232) :
    Calls Try.prog 10 args W fun e W' => ∃ v, e = .returned v ∧ Rows.latchRunsSpec.post enc Try.prog Try.f10 false true false false W args v W' := by
  have hval : ∀ (j : Nat) t v, Try.f10.params[j]? = some t → args[j]? = some v → Value.okWide Try.prog W .any base t v := hval0
  have hW' := hW
  obtain ⟨p, q, hA0, hV, rfl, hfz, hnd⟩ := hW
  have hA : DataW.TrodAll enc Try.prog W 0 (fun _ => true) true Try.f10.params.toList args.toList ds p := hA0
  rw [Try.params10] at hA hval hwt
  obtain ⟨v0, vs0, d0, ds0, p0, q0, hargs, rfl, rfl, h0, r0⟩ := trodAll_cons hA
  obtain ⟨rfl, rfl, rfl⟩ := trodAll_nil r0
  obtain rfl : args = #[v0] := by cases args; simp_all
  obtain ⟨rfl, rfl⟩ := trodVars_none hV
  have k0 := h0
  have lt0 : ∀ x ∈ p0, x.block < W.heap.size := by obtain ⟨m, hm⟩ := k0; exact DataW.trod_lt m _ _ _ hm
  have z0 := hwt 0 55 d0 rfl rfl
  have o0 := hval 0 55 v0 rfl rfl
  obtain ⟨b0, len0, cap0, rfl⟩ := okWide_slice Try.underlying55 o0
  obtain ⟨A0, l0, c0, e0, hc0, hr0, y0, w0⟩ : ∃ A l c, [Value.slice b0 len0 cap0] = [.slice A l.length c] ∧ l.length ≤ c ∧ Kd.C k58 W A l.length l ∧ l.length * Try.prog.bytesOf 58 ≤ 140737488351232 ∧ ∀ a ∈ l, ok58 a := by
    obtain ⟨fuel, hf⟩ := h0
    exact slice_reads Try.underlying55 opens58 hf z0
  obtain ⟨rfl, rfl, rfl⟩ : b0 = A0 ∧ len0 = l0.length ∧ cap0 = c0 := by obtain ⟨x, y, z⟩ : b0 = A0 ∧ len0 = l0.length ∧ cap0 = c0 := (by simpa using e0); exact ⟨x, y, z⟩
  clear hA0 hval0
  obtain ⟨k, h⟩ := Pure.LatchRuns l0 y0 w0
  refine (dovecotelaw10_LatchRuns.calls k b0 cap0 l0 true W hr0 hc0 h).mono fun e W' ⟨he, bel⟩ => ?_
  subst he
  exact ⟨_, rfl, _, _, _, [], _, [], hW', trodAll_mk1 (shut_bool Try.underlying4 _), (trodAll_cons_mk (Below.trod laidOut (by kernel_rfl) (of_decide_eq_true (by kernel_rfl)) k0 bel lt0) trodAll_mk0), rfl, bel.frame _, fun h => by cases h⟩
set_option maxRecDepth 100000 in
theorem lifted (os : Os) (started : os.Started) (H : Type) (enc : TypeId × Value → H) :
    ReturnsInHanded {} Try.checked os 10 .any (Rows.latchRunsSpec.pre6 enc Try.prog Try.f10 Rows.latchRunsRow.domain false) (Rows.latchRunsSpec.post enc Try.prog Try.f10 false true false false) := by
  refine returnsInHanded_of_change_sized (C := Try.checked) own started (by kernel_rfl) Try.func10
    (ChangeSpec.witness6 (enc := enc) (C := Try.checked) false ⟨#[], #[.slice none 0 0], []⟩ 8 (by kernel_rfl) (by kernel_rfl) (by kernel_rfl) (by kernel_rfl)) ?_
  intro W base args ds gs before hval hW hcnd hsz _
  refine contract W base args ds gs before hval hW (fun j t d ht hd => weights_part (ts := Try.f10.params.toList ++ Rows.latchRunsSpec.plain.varTypes Try.prog) (ds := ds ++ gs) (j := j) hsz ?_ ?_)
  · rw [List.getElem?_append_left (List.getElem?_eq_some_iff.1 ht).1]; exact ht
  · rw [List.getElem?_append_left (List.getElem?_eq_some_iff.1 hd).1]; exact hd
theorem over : Rows.latchRunsRow.holds Try.pinned (OpenSpec.ofChange Rows.latchRunsSpec) :=
  OpenClaim.holds_of_wide 10 Try.f10 rfl rfl rfl rfl rfl rfl rfl ⟨rfl, rfl, rfl, rfl, rfl⟩ rfl rfl rfl rfl rfl (by kernel_rfl) Try.func10 (by kernel_rfl)
    (of_decide_eq_true (by kernel_rfl)) (by unfold Func.isWrapper; first | (rw [if_pos (by decide +kernel)]; kernel_rfl) | (rw [if_neg (by decide +kernel)]; exact ⟨rfl, rfl⟩))
    (fun os started H enc _ => lifted os started H enc)
theorem proved : Rows.LatchRunsSaid := over
#print axioms proved
end Go.Proofs.Ytdelbidaclddgaa.latchRuns
namespace Go.Proofs.Ytdelbidaclddgaa
/-- The row, under a short name, for the claim. -/
theorem latchRuns_holds : Rows.LatchRunsSaid := latchRuns.proved
end Go.Proofs.Ytdelbidaclddgaa
