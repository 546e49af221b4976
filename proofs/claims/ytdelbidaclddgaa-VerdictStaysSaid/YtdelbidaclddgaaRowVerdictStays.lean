/- The row of VerdictStays: its arguments opened, the printed walk and the pure law put together; out of a program of the session's own (genrow.py). -/
import Derived.Test.YtdelbidaclddgaaRows
import Derived.Test.YtdelbidaclddgaaHVerdictStays
import Derived.Test.YtdelbidaclddgaaTyVerdictStays
import Derived.Test.YtdelbidaclddgaaPureVerdictStays
namespace Go.Proofs.Ytdelbidaclddgaa.verdictStays
open Go.ChangeShapes Go.WideShapes Go.ChangeAt Go.RowKit Go.Proofs.YtdelbidaclddgaaW.PrintWords Go.Proofs.Ytdelbidaclddgaa.Shapes Go.Proofs.Ytdelbidaclddgaa.Ver Go.Proofs.Ytdelbidaclddgaa.MVerdictRuns Go.Proofs.Ytdelbidaclddgaa.TyVerdictStays
set_option linter.unusedVariables false
theorem own : ownKnob Try.prog.godebug = none := by kernel_rfl
theorem laidOut : laidOutB Try.prog = true := by kernel_rfl
set_option maxRecDepth 100000 in
theorem contract {H : Type} {enc : TypeId × Value → H} (W : World) (base : Nat) (args : Array Value) (ds gs : List (DataW H)) (before : List MemPlace)
    (hval0 : ∀ (j : Nat) t v, Try.f4.params[j]? = some t → args[j]? = some v → Value.okWide Try.prog W .any base t v) (hW : DataW.Whole enc Try.prog Try.f4.params.toList Rows.verdictStaysSpec.vars false W args.toList ds gs before)
    (hwt : ∀ (j : Nat) t d, Try.f4.params.toList[j]? = some t → ds[j]? = some d → ∀ n ∈ d.weights Try.prog t, n ≤ 140737488351232) :
    Calls Try.prog 4 args W fun e W' => ∃ v, e = .returned v ∧ Rows.verdictStaysSpec.post enc Try.prog Try.f4 false true false false W args v W' := by
  have hval : ∀ (j : Nat) t v, Try.f4.params[j]? = some t → args[j]? = some v → Value.okWide Try.prog W .any base t v := hval0
  have hW' := hW
  obtain ⟨p, q, hA0, hV, rfl, hfz, hnd⟩ := hW
  have hA : DataW.TrodAll enc Try.prog W 0 (fun _ => true) true Try.f4.params.toList args.toList ds p := hA0
  rw [Try.params4] at hA hval hwt
  obtain ⟨v0, vs0, d0, ds0, p0, q0, hargs, rfl, rfl, h0, r0⟩ := trodAll_cons hA
  obtain ⟨v1, vs1, d1, ds1, p1, q1, rfl, rfl, rfl, h1, r1⟩ := trodAll_cons r0
  obtain ⟨rfl, rfl, rfl⟩ := trodAll_nil r1
  obtain rfl : args = #[v0, v1] := by cases args; simp_all
  obtain ⟨rfl, rfl⟩ := trodVars_none hV
  have k0 := h0
  have lt0 : ∀ x ∈ p0, x.block < W.heap.size := by obtain ⟨m, hm⟩ := k0; exact DataW.trod_lt m _ _ _ hm
  have z0 := hwt 0 37 d0 rfl rfl
  have o0 := hval 0 37 v0 rfl rfl
  obtain ⟨cs0, rfl, _⟩ := okWide_struct Try.underlying37 o0
  obtain ⟨s0, g0, w0⟩ := arg_opens opens37 h0 z0
  obtain rfl := agg_cells (k37_open g0)
  have k1 := h1
  have lt1 : ∀ x ∈ p1, x.block < W.heap.size := by obtain ⟨m, hm⟩ := k1; exact DataW.trod_lt m _ _ _ hm
  have z1 := hwt 1 22 d1 rfl rfl
  have o1 := hval 1 22 v1 rfl rfl
  obtain ⟨b1, len1, cap1, rfl⟩ := okWide_slice Try.underlying22 o1
  obtain ⟨A1, l1, c1, e1, hc1, hr1, y1, w1⟩ : ∃ A l c, [Value.slice b1 len1 cap1] = [.slice A l.length c] ∧ l.length ≤ c ∧ Kd.C k40 W A l.length l ∧ l.length * Try.prog.bytesOf 40 ≤ 140737488351232 ∧ ∀ a ∈ l, ok40 a := by
    obtain ⟨fuel, hf⟩ := h1
    exact slice_reads Try.underlying22 opens40 hf z1
  obtain ⟨rfl, rfl, rfl⟩ : b1 = A1 ∧ len1 = l1.length ∧ cap1 = c1 := by obtain ⟨x, y, z⟩ : b1 = A1 ∧ len1 = l1.length ∧ cap1 = c1 := (by simpa using e1); exact ⟨x, y, z⟩
  clear hA0 hval0
  obtain ⟨k, h⟩ := Pure.VerdictStays s0.f0.f0 s0.f0.f1 s0.f1.f0 s0.f1.f1 s0.f2.f0 s0.f2.f1 s0.f3 s0.f4 l1 w0 y1 w1
  refine (dovecotelaw11_VerdictStays.calls k s0.f0.f0 s0.f0.f1 s0.f1.f0 s0.f1.f1 s0.f2.f0 s0.f2.f1 s0.f3 s0.f4 b1 cap1 l1 true W hr1 hc1 h).mono fun e W' ⟨he, bel⟩ => ?_
  subst he
  exact ⟨_, rfl, _, _, _, [], _, [], hW', trodAll_mk1 (shut_bool Try.underlying4 _), (trodAll_cons_mk (Below.trod laidOut (by kernel_rfl) (of_decide_eq_true (by kernel_rfl)) k0 bel lt0) (trodAll_cons_mk (Below.trod laidOut (by kernel_rfl) (of_decide_eq_true (by kernel_rfl)) k1 bel lt1) trodAll_mk0)), rfl, bel.frame _, fun h => by cases h⟩
set_option maxRecDepth 100000 in
theorem lifted (os : Os) (started : os.Started) (H : Type) (enc : TypeId × Value → H) :
    ReturnsInHanded {} Try.checked os 4 .any (Rows.verdictStaysSpec.pre6 enc Try.prog Try.f4 Rows.verdictStaysRow.domain false) (Rows.verdictStaysSpec.post enc Try.prog Try.f4 false true false false) := by
  refine returnsInHanded_of_change_sized (C := Try.checked) own started (by kernel_rfl) Try.func4
    (ChangeSpec.witness6 (enc := enc) (C := Try.checked) false ⟨#[], #[.agg #[.int .u32 0, .int .u32 0, .int .u64 0, .int .u32 0, .int .u64 0, .int .u32 0, .int .u8 0, .bool false], .slice none 0 0], []⟩ 8 (by kernel_rfl) (by kernel_rfl) (by kernel_rfl) (by kernel_rfl)) ?_
  intro W base args ds gs before hval hW hcnd hsz _
  refine contract W base args ds gs before hval hW (fun j t d ht hd => weights_part (ts := Try.f4.params.toList ++ Rows.verdictStaysSpec.plain.varTypes Try.prog) (ds := ds ++ gs) (j := j) hsz ?_ ?_)
  · rw [List.getElem?_append_left (List.getElem?_eq_some_iff.1 ht).1]; exact ht
  · rw [List.getElem?_append_left (List.getElem?_eq_some_iff.1 hd).1]; exact hd
theorem over : Rows.verdictStaysRow.holds Try.pinned (OpenSpec.ofChange Rows.verdictStaysSpec) :=
  OpenClaim.holds_of_wide 4 Try.f4 rfl rfl rfl rfl rfl rfl rfl ⟨rfl, rfl, rfl, rfl, rfl⟩ rfl rfl rfl rfl rfl (by kernel_rfl) Try.func4 (by kernel_rfl)
    (of_decide_eq_true (by kernel_rfl)) (by unfold Func.isWrapper; first | (rw [if_pos (by decide +kernel)]; kernel_rfl) | (rw [if_neg (by decide +kernel)]; exact ⟨rfl, rfl⟩))
    (fun os started H enc _ => lifted os started H enc)
theorem proved : Rows.VerdictStaysSaid := over
#print axioms proved
end Go.Proofs.Ytdelbidaclddgaa.verdictStays
namespace Go.Proofs.Ytdelbidaclddgaa
/-- The row, under a short name, for the claim. -/
theorem verdictStays_holds : Rows.VerdictStaysSaid := verdictStays.proved
end Go.Proofs.Ytdelbidaclddgaa
