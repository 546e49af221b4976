/- The row of MarkTells: its arguments opened, the printed walk and the pure law put together; out of a program of the session's own (genrow.py). -/
import Derived.Test.YtgkpljlcdopalaaRows
import Derived.Test.YtgkpljlcdopalaaPMarkTellsx5
import Derived.Test.YtgkpljlcdopalaaTyMarkTells
import Derived.Test.YtgkpljlcdopalaaPureMarkTells
import Derived.Test.YtgkpljlcdopalaaBulk
import Derived.JoinedCond
namespace Go.Proofs.Ytgkpljlcdopalaa.markTells
open Go.ChangeShapes Go.WideShapes Go.ChangeAt Go.RowKit Go.Proofs.YtgkpljlcdopalaaW.PrintWords Go.Proofs.Ytgkpljlcdopalaa.Shapes Go.Proofs.Ytgkpljlcdopalaa.PMarkTells Go.Proofs.Ytgkpljlcdopalaa.TyMarkTells
set_option linter.unusedVariables false
theorem own : ownKnob Try.prog.godebug = none := by kernel_rfl
theorem laidOut : laidOutB Try.prog = true := by kernel_rfl
set_option maxRecDepth 100000 in
theorem contract {H : Type} {enc : TypeId × Value → H} (W : World) (base : Nat) (args : Array Value) (ds gs : List (DataW H)) (before : List MemPlace)
    (hval0 : ∀ (j : Nat) t v, Try.f7.params[j]? = some t → args[j]? = some v → Value.okWide Try.prog W .any base t v) (hW : DataW.Whole enc Try.prog Try.f7.params.toList Rows.markTellsSpec.vars false W args.toList ds gs before)
    (hwt : ∀ (j : Nat) t d, Try.f7.params.toList[j]? = some t → ds[j]? = some d → ∀ n ∈ d.weights Try.prog t, n ≤ 536870912) :
    Calls Try.prog 7 args W fun e W' => ∃ v, e = .returned v ∧ Rows.markTellsSpec.post enc Try.prog Try.f7 false true false false W args v W' := by
  have hval : ∀ (j : Nat) t v, Try.f7.params[j]? = some t → args[j]? = some v → Value.okWide Try.prog W .any base t v := hval0
  have hW' := hW
  obtain ⟨p, q, hA0, hV, rfl, hfz, hnd⟩ := hW
  have hA : DataW.TrodAll enc Try.prog W 0 (fun _ => true) true Try.f7.params.toList args.toList ds p := hA0
  rw [Try.params7] at hA hval hwt
  obtain ⟨v0, vs0, d0, ds0, p0, q0, hargs, rfl, rfl, h0, r0⟩ := trodAll_cons hA
  obtain ⟨v1, vs1, d1, ds1, p1, q1, rfl, rfl, rfl, h1, r1⟩ := trodAll_cons r0
  obtain ⟨v2, vs2, d2, ds2, p2, q2, rfl, rfl, rfl, h2, r2⟩ := trodAll_cons r1
  obtain ⟨rfl, rfl, rfl⟩ := trodAll_nil r2
  obtain rfl : args = #[v0, v1, v2] := by cases args; simp_all
  obtain ⟨rfl, rfl⟩ := trodVars_none hV
  have k0 := h0
  have lt0 : ∀ x ∈ p0, x.block < W.heap.size := by obtain ⟨m, hm⟩ := k0; exact DataW.trod_lt m _ _ _ hm
  have z0 := hwt 0 25 d0 rfl rfl
  have o0 := hval 0 25 v0 rfl rfl
  obtain ⟨cs0, rfl, _⟩ := okWide_struct Try.underlying25 o0
  obtain ⟨s0, g0, w0⟩ := arg_opens opens25 h0 z0
  obtain rfl := agg_cells (k25_open g0)
  have k1 := h1
  have lt1 : ∀ x ∈ p1, x.block < W.heap.size := by obtain ⟨m, hm⟩ := k1; exact DataW.trod_lt m _ _ _ hm
  have z1 := hwt 1 51 d1 rfl rfl
  have o1 := hval 1 51 v1 rfl rfl
  obtain ⟨b1, len1, cap1, rfl⟩ := okWide_slice Try.underlying51 o1
  obtain ⟨A1, l1, c1, e1, hc1, hr1, y1, w1⟩ : ∃ A l c, [Value.slice b1 len1 cap1] = [.slice A l.length c] ∧ l.length ≤ c ∧ Kd.C k25 W A l.length l ∧ l.length * Try.prog.bytesOf 25 ≤ 536870912 ∧ ∀ a ∈ l, ok25 a := by
    obtain ⟨fuel, hf⟩ := h1
    exact slice_reads Try.underlying51 opens25 hf z1
  obtain ⟨rfl, rfl, rfl⟩ : b1 = A1 ∧ len1 = l1.length ∧ cap1 = c1 := by obtain ⟨x, y, z⟩ : b1 = A1 ∧ len1 = l1.length ∧ cap1 = c1 := (by simpa using e1); exact ⟨x, y, z⟩
  have k2 := h2
  have lt2 : ∀ x ∈ p2, x.block < W.heap.size := by obtain ⟨m, hm⟩ := k2; exact DataW.trod_lt m _ _ _ hm
  have z2 := hwt 2 51 d2 rfl rfl
  have o2 := hval 2 51 v2 rfl rfl
  obtain ⟨b2, len2, cap2, rfl⟩ := okWide_slice Try.underlying51 o2
  obtain ⟨A2, l2, c2, e2, hc2, hr2, y2, w2⟩ : ∃ A l c, [Value.slice b2 len2 cap2] = [.slice A l.length c] ∧ l.length ≤ c ∧ Kd.C k25 W A l.length l ∧ l.length * Try.prog.bytesOf 25 ≤ 536870912 ∧ ∀ a ∈ l, ok25 a := by
    obtain ⟨fuel, hf⟩ := h2
    exact slice_reads Try.underlying51 opens25 hf z2
  obtain ⟨rfl, rfl, rfl⟩ : b2 = A2 ∧ len2 = l2.length ∧ cap2 = c2 := by obtain ⟨x, y, z⟩ : b2 = A2 ∧ len2 = l2.length ∧ cap2 = c2 := (by simpa using e2); exact ⟨x, y, z⟩
  clear hA0 hval0
  obtain ⟨k, h⟩ := Pure.MarkTells s0.f0 s0.f1 l1 l2 w0 y1 w1 y2 w2
  refine (dovecotelaw18_MarkTells.calls k s0.f0 s0.f1 b1 cap1 l1 b2 cap2 l2 true W hr1 hc1 hr2 hc2 h).mono fun e W' ⟨he, bel⟩ => ?_
  subst he
  exact ⟨_, rfl, _, _, _, [], _, [], hW', trodAll_mk1 (shut_bool Try.underlying4 _), (trodAll_cons_mk (Below.trod laidOut (by kernel_rfl) (of_decide_eq_true (by kernel_rfl)) k0 bel lt0) (trodAll_cons_mk (Below.trod laidOut (by kernel_rfl) (of_decide_eq_true (by kernel_rfl)) k1 bel lt1) (trodAll_cons_mk (Below.trod laidOut (by kernel_rfl) (of_decide_eq_true (by kernel_rfl)) k2 bel lt2) trodAll_mk0))), rfl, bel.frame _, fun h => by cases h⟩
set_option maxRecDepth 100000 in
theorem lifted (os : Os) (started : os.Started) (H : Type) (enc : TypeId × Value → H) (F : Stop.Interp) :
    ReturnsInHanded {} Try.checked os 7 .any ((Rows.OpenSpec.upto Rows.markTellsSpec).pre6 enc Try.prog Try.f7 Rows.markTellsUptoRow.domain false) (((Rows.OpenSpec.upto Rows.markTellsSpec).at F).post enc Try.prog Try.f7 false true false false) := by
  refine returnsInHanded_of_cond (C := Try.checked) (s := Rows.OpenSpec.upto Rows.markTellsSpec) (k := Rows.uptoSmall) rfl own started (by kernel_rfl) Try.func7
    (OpenSpec.witness (enc := enc) (C := Try.checked) (s := Rows.OpenSpec.upto Rows.markTellsSpec) (k := Rows.uptoSmall) rfl false ⟨#[], #[.agg #[.int .u64 0, .int .u32 0], .slice none 0 0, .slice none 0 0], []⟩ 8 (by kernel_rfl) (by kernel_rfl) (by kernel_rfl)
      (x := ([.agg [.lit (.int .u64 0), .lit (.int .u32 0)], .nil, .nil], [], [])) (by kernel_rfl) rfl (by kernel_rfl)) ?_
  intro W base args ds gs before hval hW _ hk _
  refine contract W base args ds gs before hval hW (fun j t d ht hd => Bulk.weights_small (l := ds ++ gs) hk (j := j) ?_ (Bulk.each_narrow (fuel := 8) (ts := Try.f7.params.toList) (by kernel_rfl) ht))
  rw [List.getElem?_append_left (List.getElem?_eq_some_iff.1 hd).1]; exact hd
theorem over : Rows.markTellsUptoRow.holds Try.pinned (Rows.OpenSpec.upto Rows.markTellsSpec) :=
  OpenClaim.holds_of_cond 7 Try.f7 rfl rfl rfl rfl rfl rfl rfl ⟨rfl, rfl, rfl, rfl, rfl⟩ rfl rfl rfl rfl rfl (by kernel_rfl) Try.func7 (by kernel_rfl)
    (of_decide_eq_true (by kernel_rfl)) (by unfold Func.isWrapper; first | (rw [if_pos (by decide +kernel)]; kernel_rfl) | (rw [if_neg (by decide +kernel)]; exact ⟨rfl, rfl⟩))
    (fun os started H enc _ F => lifted os started H enc F)
theorem proved : Rows.MarkTellsUptoSaid := over
#print axioms proved
end Go.Proofs.Ytgkpljlcdopalaa.markTells
namespace Go.Proofs.Ytgkpljlcdopalaa
/-- The row, under a short name, for the claim. -/
theorem markTells_holds : Rows.MarkTellsUptoSaid := markTells.proved
end Go.Proofs.Ytgkpljlcdopalaa
