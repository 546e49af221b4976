/- The row of StoreNothing: its arguments opened, the printed walk and the pure law put together; out of a program of the session's own (genrow.py). -/
import Derived.Test.YtomcjcoehahikaaRows
import Derived.Test.YtomcjcoehahikaaHStoreNothing
import Derived.Test.YtomcjcoehahikaaTyStoreNothing
import Derived.Test.YtomcjcoehahikaaPureStoreNothing
namespace Go.Proofs.Ytomcjcoehahikaa.storeNothing
open Go.ChangeShapes Go.WideShapes Go.ChangeAt Go.RowKit Go.Proofs.YtomcjcoehahikaaW.PrintWords Go.Proofs.Ytomcjcoehahikaa.Shapes Go.Proofs.Ytomcjcoehahikaa.Sto Go.Proofs.Ytomcjcoehahikaa.TyStoreNothing
set_option linter.unusedVariables false
theorem own : ownKnob Try.prog.godebug = none := by kernel_rfl
theorem laidOut : laidOutB Try.prog = true := by kernel_rfl
set_option maxRecDepth 100000 in
theorem contract {H : Type} {enc : TypeId × Value → H} (W : World) (base : Nat) (args : Array Value) (ds gs : List (DataW H)) (before : List MemPlace)
    (hval0 : ∀ (j : Nat) t v, Try.f12.params[j]? = some t → args[j]? = some v → Value.okWide Try.prog W .any base t v) (hW : DataW.Whole enc Try.prog Try.f12.params.toList Rows.storeNothingSpec.vars false W args.toList ds gs before)
    (hwt : ∀ (j : Nat) t d, Try.f12.params.toList[j]? = some t → ds[j]? = some d → ∀ n ∈ d.weights Try.prog t, n ≤ 140737488351232) :
    Calls Try.prog 12 args W fun e W' => ∃ v, e = .returned v ∧ Rows.storeNothingSpec.post enc Try.prog Try.f12 false true false false W args v W' := by
  have hval : ∀ (j : Nat) t v, Try.f12.params[j]? = some t → args[j]? = some v → Value.okWide Try.prog W .any base t v := hval0
  have hW' := hW
  obtain ⟨p, q, hA0, hV, rfl, hfz, hnd⟩ := hW
  have hA : DataW.TrodAll enc Try.prog W 0 (fun _ => true) true Try.f12.params.toList args.toList ds p := hA0
  rw [Try.params12] at hA hval hwt
  obtain ⟨v0, vs0, d0, ds0, p0, q0, hargs, rfl, rfl, h0, r0⟩ := trodAll_cons hA
  obtain ⟨v1, vs1, d1, ds1, p1, q1, rfl, rfl, rfl, h1, r1⟩ := trodAll_cons r0
  obtain ⟨rfl, rfl, rfl⟩ := trodAll_nil r1
  obtain rfl : args = #[v0, v1] := by cases args; simp_all
  obtain ⟨rfl, rfl⟩ := trodVars_none hV
  have k0 := h0
  have lt0 : ∀ x ∈ p0, x.block < W.heap.size := by obtain ⟨m, hm⟩ := k0; exact DataW.trod_lt m _ _ _ hm
  have z0 := hwt 0 9 d0 rfl rfl
  have o0 := hval 0 9 v0 rfl rfl
  obtain ⟨a0, rfl⟩ := okWide_string Try.underlying9 o0
  obtain ⟨a0', g0, w0⟩ := arg_opens (opens_string Try.underlying9 (by kernel_rfl)) h0 z0
  obtain rfl : a0 = a0' := by simpa [Kd.string, Kd.scalar, Value.cells] using g0
  have k1 := h1
  have lt1 : ∀ x ∈ p1, x.block < W.heap.size := by obtain ⟨m, hm⟩ := k1; exact DataW.trod_lt m _ _ _ hm
  have z1 := hwt 1 31 d1 rfl rfl
  have o1 := hval 1 31 v1 rfl rfl
  obtain ⟨cs1, rfl, _⟩ := okWide_struct Try.underlying31 o1
  obtain ⟨s1, g1, w1⟩ := arg_opens opens31 h1 z1
  obtain rfl := agg_cells (k31_open g1)
  clear hA0 hval0
  obtain ⟨k, h⟩ := Pure.StoreNothing a0 s1.f0 s1.f1 s1.f2 s1.f3 s1.f4 s1.f5 w0 w1
  refine (dovecotelaw09_StoreNothing.calls k a0 s1.f0 s1.f1 s1.f2 s1.f3 s1.f4 s1.f5 true W  h).mono fun e W' ⟨he, bel⟩ => ?_
  subst he
  exact ⟨_, rfl, _, _, _, [], _, [], hW', trodAll_mk1 (shut_bool Try.underlying4 _), (trodAll_cons_mk (Below.trod laidOut (by kernel_rfl) (of_decide_eq_true (by kernel_rfl)) k0 bel lt0) (trodAll_cons_mk (Below.trod laidOut (by kernel_rfl) (of_decide_eq_true (by kernel_rfl)) k1 bel lt1) trodAll_mk0)), rfl, bel.frame _, fun h => by cases h⟩
set_option maxRecDepth 100000 in
theorem lifted (os : Os) (started : os.Started) (H : Type) (enc : TypeId × Value → H) :
    ReturnsInHanded {} Try.checked os 12 .any (Rows.storeNothingSpec.pre6 enc Try.prog Try.f12 Rows.storeNothingRow.domain false) (Rows.storeNothingSpec.post enc Try.prog Try.f12 false true false false) := by
  refine returnsInHanded_of_change_sized (C := Try.checked) own started (by kernel_rfl) Try.func12
    (ChangeSpec.witness6 (enc := enc) (C := Try.checked) false ⟨#[], #[.string ByteArray.empty, .agg #[.int .u64 0, .int .u32 0, .int .u32 0, .int .u32 0, .string ByteArray.empty, .bool false]], []⟩ 8 (by kernel_rfl) (by kernel_rfl) (by kernel_rfl) (by kernel_rfl)) ?_
  intro W base args ds gs before hval hW hcnd hsz _
  refine contract W base args ds gs before hval hW (fun j t d ht hd => weights_part (ts := Try.f12.params.toList ++ Rows.storeNothingSpec.plain.varTypes Try.prog) (ds := ds ++ gs) (j := j) hsz ?_ ?_)
  · rw [List.getElem?_append_left (List.getElem?_eq_some_iff.1 ht).1]; exact ht
  · rw [List.getElem?_append_left (List.getElem?_eq_some_iff.1 hd).1]; exact hd
theorem over : Rows.storeNothingRow.holds Try.pinned (OpenSpec.ofChange Rows.storeNothingSpec) :=
  OpenClaim.holds_of_wide 12 Try.f12 rfl rfl rfl rfl rfl rfl rfl ⟨rfl, rfl, rfl, rfl, rfl⟩ rfl rfl rfl rfl rfl (by kernel_rfl) Try.func12 (by kernel_rfl)
    (of_decide_eq_true (by kernel_rfl)) (by unfold Func.isWrapper; first | (rw [if_pos (by decide +kernel)]; kernel_rfl) | (rw [if_neg (by decide +kernel)]; exact ⟨rfl, rfl⟩))
    (fun os started H enc _ => lifted os started H enc)
theorem proved : Rows.StoreNothingSaid := over
#print axioms proved
end Go.Proofs.Ytomcjcoehahikaa.storeNothing
namespace Go.Proofs.Ytomcjcoehahikaa
/-- The row, under a short name, for the claim. -/
theorem storeNothing_holds : Rows.StoreNothingSaid := storeNothing.proved
end Go.Proofs.Ytomcjcoehahikaa
