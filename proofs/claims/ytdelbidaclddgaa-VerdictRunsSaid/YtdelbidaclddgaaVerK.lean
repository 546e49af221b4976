/- The layer 'verdict': VerK; a seat's own text, no law of its own. -/
import Derived.Test.YtdelbidaclddgaaVerJ
import Derived.Deep.LoopGhost
import Derived.Deep.Cut
import Derived.Lib.Hide
import Derived.StillTailTactics
import Derived.Deep.QuietTactic
import Derived.BigQuiet
import Derived.Outline
import Derived.Deep.RegionWith
import Derived.Deep.RegionHeld3
import Derived.WalkLawsBesides
namespace Go.Proofs.Ytdelbidaclddgaa.Ver
open Go.RowKit Go.Proofs.YtdelbidaclddgaaW.PrintWords Go.Proofs.Ytdelbidaclddgaa.MVerdictRuns Go.Proofs.YtdelbidaclddgaaW.PrintLast
set_option linter.unusedVariables false
set_option linter.unusedSimpArgs false
/-! the comparison of All -/
open Go.Maps Go.Sort
def c32 (a b : Int) : Int := if a < b then -1 else if b < a then 1 else 0
def orI (a b : Int) : Int := if a = 0 then b else a
def cfV (x y : S37) : Int := orI (c32 x.f0.f0 y.f0.f0) (c32 x.f0.f1 y.f0.f1)
/-- draws and new blocks alone -/
def Gr (W W' : World) : Prop := ∃ q os, W' = grow (W.drewN q) os
theorem grow_drewN (W : World) (os : Array Obj) (q : Nat) : (grow W os).drewN q = grow (W.drewN q) os := by
  induction q with
  | zero => rfl
  | succ q ih =>
    show ((grow W os).drewN q).drew = grow ((W.drewN q).drew) os
    rw [ih]
    rfl
theorem grow_none (W : World) : grow W #[] = W := by unfold grow; rw [Array.append_empty]
theorem Gr.refl (W : World) : Gr W W := ⟨0, #[], (grow_none _).symm⟩
theorem Gr.trans {A B C : World} (h : Gr A B) (k : Gr B C) : Gr A C := by
  obtain ⟨q, os, rfl⟩ := h
  obtain ⟨q', os', rfl⟩ := k
  exact ⟨q + q', os ++ os', by rw [grow_drewN, grow_grow, World.drewN_drewN]⟩
theorem Gr.alloc {A B : World} (h : Gr A B) (o : Obj) : Gr A (B.alloc o) := h.trans ⟨0, #[o], alloc_eq_grow _ _⟩
theorem Gr.drew {A B : World} (h : Gr A B) : Gr A B.drew := h.trans ⟨1, #[], (grow_none _).symm⟩
theorem Gr.of_drawn {A B : World} (h : Drawn0 A B) : Gr A B := by
  obtain ⟨n, rfl⟩ := h
  exact ⟨n, #[], (grow_none _).symm⟩
theorem Gr.at_ {A B : World} (h : Gr A B) {g : Nat} {o : Obj} (hg : A.heap[g]? = some o) : B.heap[g]? = some o := by
  obtain ⟨q, os, rfl⟩ := h
  have hh : (A.drewN q).heap[g]? = some o := ((Mod.refl A []).drewN q).at_ hg (by simp)
  show ((A.drewN q).heap ++ os)[g]? = some o
  rw [Array.getElem?_append_left (Array.getElem?_eq_some_iff.1 hh).1]
  exact hh
theorem c32_calls (a b : Int) (W : World) : Calls Try.prog 57 #[.int .u32 a, .int .u32 b] W fun e W' => e = .returned (.int .i64 (c32 a b)) ∧ Gr W W' :=
  (cmp_Compare_uint32.calls a b _ W (lv_32 a b)).mono fun e W' ⟨h1, h2⟩ => ⟨h1, Gr.of_drawn h2⟩
theorem row2 (W : World) (a b : Int) : Kd.C (Kd.int .i64) (W.alloc (.cells #[.int .i64 a, .int .i64 b] 3)) (some ⟨W.heap.size, 0, none⟩) 2 [a, b] := by
  have hb := blk_new W (.cells #[.int .i64 a, .int .i64 b] 3)
  refine ⟨rfl, by decide, fun _ => ⟨_, rfl, fun j p hj => ?_⟩⟩
  match j, hj with
  | 0, hj =>
    obtain rfl := Option.some.inj hj
    refine ⟨[.int .i64 a], rfl, rfl, fun i u hi => ?_⟩
    match i, hi with
    | 0, hi => obtain rfl := Option.some.inj hi; exact (blk_cell hb 0).trans rfl
  | 1, hj =>
    obtain rfl := Option.some.inj hj
    refine ⟨[.int .i64 b], rfl, rfl, fun i u hi => ?_⟩
    match i, hi with
    | 0, hi => obtain rfl := Option.some.inj hi; exact (blk_cell hb 1).trans rfl
theorem or_calls (W : World) (a b : Int) : Calls Try.prog 56 #[.slice (some ⟨W.heap.size, 0, none⟩) 2 2] (W.alloc (.cells #[.int .i64 a, .int .i64 b] 3)) fun e W' => e = .returned (.int .i64 (orI a b)) ∧ Gr (W.alloc (.cells #[.int .i64 a, .int .i64 b] 3)) W' :=
  (cmp_Or_int.calls 3 (some ⟨W.heap.size, 0, none⟩) 2 [a, b] _ _ (row2 W a b) (by simp) (lv_or 3 (by omega) a b)).mono fun e W' ⟨h1, h2⟩ => ⟨h1, Gr.of_drawn h2⟩
set_option maxRecDepth 100000 in
set_option maxHeartbeats 4000000 in
theorem cmp_calls (x y : S37) (W : World) : Calls Try.prog 55 #[encV x, encV y] W fun e W' => e = .returned (.int .i64 (cfV x y)) ∧ Gr W W' := by
  have Bx : BV (W.alloc (.cells #[.int .u32 x.f0.f0, .int .u32 x.f0.f1, .int .u64 x.f1.f0, .int .u32 x.f1.f1, .int .u64 x.f2.f0, .int .u32 x.f2.f1, .int .u8 x.f3, .bool x.f4] 37)) W.heap.size x := blk_new W _
  have hs : (W.alloc (.cells #[.int .u32 x.f0.f0, .int .u32 x.f0.f1, .int .u64 x.f1.f0, .int .u32 x.f1.f1, .int .u64 x.f2.f0, .int .u32 x.f2.f1, .int .u8 x.f3, .bool x.f4] 37)).heap.size = W.heap.size + 1 := by simp
  have G1 := (Gr.refl W).alloc (.cells #[.int .u32 x.f0.f0, .int .u32 x.f0.f1, .int .u64 x.f1.f0, .int .u32 x.f1.f1, .int .u64 x.f2.f0, .int .u32 x.f2.f1, .int .u8 x.f3, .bool x.f4] 37)
  unfold encV
  go_enter Try.func55, Try.ntmps55
  go_upto_region 1 with fail
  generalize W.alloc (.cells #[.int .u32 x.f0.f0, .int .u32 x.f0.f1, .int .u64 x.f1.f0, .int .u32 x.f1.f1, .int .u64 x.f2.f0, .int .u32 x.f2.f1, .int .u8 x.f3, .bool x.f4] 37) = W1 at *
  have By : BV (W1.alloc (.cells #[.int .u32 y.f0.f0, .int .u32 y.f0.f1, .int .u64 y.f1.f0, .int .u32 y.f1.f1, .int .u64 y.f2.f0, .int .u32 y.f2.f1, .int .u8 y.f3, .bool y.f4] 37)) W1.heap.size y := blk_new W1 _
  have Bx2 : BV (W1.alloc (.cells #[.int .u32 y.f0.f0, .int .u32 y.f0.f1, .int .u64 y.f1.f0, .int .u32 y.f1.f1, .int .u64 y.f2.f0, .int .u32 y.f2.f1, .int .u8 y.f3, .bool y.f4] 37)) W.heap.size x := ((Gr.refl W1).alloc _).at_ Bx
  have G2 := G1.alloc (.cells #[.int .u32 y.f0.f0, .int .u32 y.f0.f1, .int .u64 y.f1.f0, .int .u32 y.f1.f1, .int .u64 y.f2.f0, .int .u32 y.f2.f1, .int .u8 y.f3, .bool y.f4] 37)
  rw [hs] at By
  generalize W1.alloc (.cells #[.int .u32 y.f0.f0, .int .u32 y.f0.f1, .int .u64 y.f1.f0, .int .u32 y.f1.f1, .int .u64 y.f2.f0, .int .u32 y.f2.f1, .int .u8 y.f3, .bool y.f4] 37) = W2 at *
  generalize W.heap.size = g at *
  have hS : ∀ V, Gr W2 V → V.cell? ⟨g, 0, none⟩ = some (.int .u32 x.f0.f0) ∧ V.cell? ⟨g, 1, none⟩ = some (.int .u32 x.f0.f1) ∧ V.cell? ⟨g + 1, 0, none⟩ = some (.int .u32 y.f0.f0) ∧ V.cell? ⟨g + 1, 1, none⟩ = some (.int .u32 y.f0.f1) := fun V hV => by
    have b1 : BV V g x := hV.at_ Bx2
    have b2 : BV V (g + 1) y := hV.at_ By
    obtain ⟨e0, e1, _⟩ := b1.all
    obtain ⟨f0, f1, _⟩ := b2.all
    exact ⟨e0, e1, f0, f1⟩
  have HS := Lib.hid hS
  have HG := Lib.hid G2
  have G0 : Hid (Gr W2 W2.drew) := Lib.hid (Gr.refl W2).drew
  clear hS G1 G2 Bx Bx2 By hs
  go_region_held3 (fun V => V.cell? ⟨g, 0, none⟩ = some (.int .u32 x.f0.f0) ∧ V.cell? ⟨g, 1, none⟩ = some (.int .u32 x.f0.f1) ∧ V.cell? ⟨g + 1, 0, none⟩ = some (.int .u32 y.f0.f0) ∧ V.cell? ⟨g + 1, 1, none⟩ = some (.int .u32 y.f0.f1))
    (first | exact HS.out _ G5.out | exact HS.out _ (G4.out.alloc _) | exact HS.out _ G4.out | exact HS.out _ G3.out | exact HS.out _ G0.out)
    (first
    | (go_at_call 57; have T0 := G0; clear G0; refine (c32_calls _ _ _).mono ?_; rintro e V3 ⟨rfl, g3⟩; have G3 := Lib.hid (T0.out.trans g3); clear T0 g3)
    | (go_at_call 57; have T3 := G3; clear G3; refine (c32_calls _ _ _).mono ?_; rintro e V4 ⟨rfl, g4⟩; have G4 := Lib.hid (T3.out.trans g4); clear T3 g4)
    | (go_at_call 56; have T4 := G4; clear G4; refine (or_calls _ _ _).mono ?_; rintro e V5 ⟨rfl, g5⟩; have G5 := Lib.hid ((T4.out.alloc _).trans g5); clear T4 g5))
  go_wp2
  go_ret
  exact ⟨rfl, HG.out.trans G5.out⟩
end Go.Proofs.Ytdelbidaclddgaa.Ver
