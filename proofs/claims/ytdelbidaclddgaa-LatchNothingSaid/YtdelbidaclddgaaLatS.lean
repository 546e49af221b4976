/- The layer 'latch': LatS; a seat's own text, no law of its own. -/
import Derived.Test.YtdelbidaclddgaaLatQ
import Derived.Deep.LoopGhost
import Derived.Deep.Cut
import Derived.Lib.Hide
import Derived.StillTailTactics
import Derived.Deep.QuietTactic
import Derived.BigQuiet
import Derived.Outline
import Derived.Deep.RegionWith
import Derived.Deep.RegionHeld3
import Derived.WalkLawsBesides
namespace Go.Proofs.Ytdelbidaclddgaa.Lat
open Go.RowKit Go.Proofs.YtdelbidaclddgaaW.PrintWords Go.Proofs.Ytdelbidaclddgaa.MLatchRuns Go.Proofs.YtdelbidaclddgaaW.PrintLast
set_option linter.unusedVariables false
set_option linter.unusedSimpArgs false
/-! no table -/
set_option maxHeartbeats 4000000 in
set_option maxRecDepth 100000 in
theorem of_nil (key : ByteArray) (W : World) : Calls Try.prog 33 #[.pointer none, .string key] W fun e W' => e = ofEnd none ∧ Mod W W' [] := by
  have B1 : IB (W.alloc (.cells #[.int .u32 z65.f0.f0, .int .u32 z65.f0.f1, .int .u64 z65.f1.f0, .int .u32 z65.f1.f1, .int .u64 z65.f2.f0, .int .u32 z65.f2.f1, .string z65.f3, .string z65.f4.f0, .string z65.f4.f1, .bool z65.f4.f2] 65)) W.heap.size z65 := blk_new W _
  have M1 := (Mod.refl W []).alloc (.cells #[.int .u32 z65.f0.f0, .int .u32 z65.f0.f1, .int .u64 z65.f1.f0, .int .u32 z65.f1.f1, .int .u64 z65.f2.f0, .int .u32 z65.f2.f1, .string z65.f3, .string z65.f4.f0, .string z65.f4.f1, .bool z65.f4.f2] 65)
  simp only [z65, z32, z35, z63] at M1 B1
  go_enter Try.func33, Try.ntmps33
  go_upto_region 1 with fail
  generalize W.alloc _ = W1 at *
  generalize hg : W.heap.size = q at *
  obtain ⟨c0, c1, c2, c3, c4, c5, c6, c7, c8, c9⟩ := B1.all
  have fz := blk_frozen B1
  go_wp2
  have hp := IB.put B1 z65
  have hm := M1.putIB (.inr (by omega : W.heap.size ≤ q)) z65
  unfold putIB at hp hm
  unfold IB at hp
  refine bodyPost_ret (results_ct rfl _ _ q 65 _ (0, 0) _ rfl hp Try.underlying65 rfl (by kernel_rfl)) rfl ?_
  exact ⟨rfl, hm⟩
set_option maxHeartbeats 4000000 in
set_option maxRecDepth 100000 in
theorem first_nil (lo hi : ByteArray) (t0 t1 : Int) (A : Option Addr) (n k : Nat) (W : World) : Calls Try.prog 28 #[.pointer none, .string lo, .string hi, .agg #[.int .u64 t0, .int .u32 t1], .slice A n k] W fun e W' => e = ofEnd none ∧ Mod W W' [] := by
  have M0 := (Mod.refl W []).alloc (.cells #[.int .u64 t0, .int .u32 t1] 35)
  have hs1 : (W.alloc (.cells #[.int .u64 t0, .int .u32 t1] 35)).heap.size = W.heap.size + 1 := by simp
  have B1 : IB ((W.alloc (.cells #[.int .u64 t0, .int .u32 t1] 35)).alloc (.cells #[.int .u32 z65.f0.f0, .int .u32 z65.f0.f1, .int .u64 z65.f1.f0, .int .u32 z65.f1.f1, .int .u64 z65.f2.f0, .int .u32 z65.f2.f1, .string z65.f3, .string z65.f4.f0, .string z65.f4.f1, .bool z65.f4.f2] 65)) (W.heap.size + 1) z65 := hs1 ▸ blk_new _ _
  have M1 := M0.alloc (.cells #[.int .u32 z65.f0.f0, .int .u32 z65.f0.f1, .int .u64 z65.f1.f0, .int .u32 z65.f1.f1, .int .u64 z65.f2.f0, .int .u32 z65.f2.f1, .string z65.f3, .string z65.f4.f0, .string z65.f4.f1, .bool z65.f4.f2] 65)
  simp only [z65, z32, z35, z63] at M1 B1
  go_enter Try.func28, Try.ntmps28
  go_upto_region 1 with fail
  clear M0 hs1
  generalize (W.alloc _).alloc _ = W1 at *
  generalize hg : W.heap.size = q at *
  obtain ⟨c0, c1, c2, c3, c4, c5, c6, c7, c8, c9⟩ := B1.all
  have fz := blk_frozen B1
  go_wp2
  have hp := IB.put B1 z65
  have hm := M1.putIB (.inr (by omega : W.heap.size ≤ q + 1)) z65
  unfold putIB at hp hm
  unfold IB at hp
  refine bodyPost_ret (results_ct rfl _ _ (q + 1) 65 _ (0, 0) _ rfl hp Try.underlying65 rfl (by kernel_rfl)) rfl ?_
  exact ⟨rfl, hm⟩
set_option maxHeartbeats 4000000 in
set_option maxRecDepth 100000 in
theorem all_nil (W : World) : Calls Try.prog 27 #[.pointer none] W fun e W' => e = .returned (.slice none 0 0) ∧ Mod W W' [] := by
  go_enter Try.func27, Try.ntmps27
  go_wp2
  go_ret
  exact ⟨rfl, Mod.refl _ _⟩
set_option maxHeartbeats 4000000 in
set_option maxRecDepth 100000 in
theorem by_nil (c n : Int) (W : World) : Calls Try.prog 29 #[.pointer none, .agg #[.int .u32 c, .int .u32 n]] W fun e W' => e = .returned (.slice none 0 0) ∧ Mod W W' [] := by
  have M0 := (Mod.refl W []).alloc (.cells #[.int .u32 c, .int .u32 n] 32)
  go_enter Try.func29, Try.ntmps29
  go_upto_region 1 with fail
  generalize W.alloc _ = W1 at *
  go_quiet (fail)
  go_wp2
  go_ret
  exact ⟨rfl, by first | exact M0 | exact M0.drew | exact M0.drewN _ | (repeat (first | exact M0 | refine Mod.drewN ?_ _ | refine Mod.drew ?_))⟩
set_option maxHeartbeats 4000000 in
set_option maxRecDepth 100000 in
theorem cutn_nil (c n : Int) (W : World) : Calls Try.prog 30 #[.pointer none, .agg #[.int .u32 c, .int .u32 n]] W fun e W' => e = .returned (.slice none 0 0) ∧ Mod W W' [] := by
  have B0 := blk_new W (.cells #[.int .u32 c, .int .u32 n] 32)
  have M0 := (Mod.refl W []).alloc (.cells #[.int .u32 c, .int .u32 n] 32)
  go_enter Try.func30, Try.ntmps30
  go_upto_region 1 with fail
  generalize W.alloc _ = W1 at *
  generalize W.heap.size = q at *
  have c0 : W1.cell? ⟨q, 0, none⟩ = some (.int .u32 c) := (blk_cell B0 0).trans rfl
  have c1 : W1.cell? ⟨q, 1, none⟩ = some (.int .u32 n) := (blk_cell B0 1).trans rfl
  go_wp2_with fail
  refine (by_nil c n _).mono ?_
  rintro e W2 ⟨rfl, m2⟩
  have M2 := M0.trans m2 (fun _ hk => by cases hk)
  clear M0 m2 c0 c1 B0
  go_wp2_with fail
  go_loopg [13] 0 (fun k i wr => k = 0 ∧ i = .int .i64 0 ∧ Mod W wr [])
  case atStart => exact ⟨rfl, rfl, M2⟩
  case round =>
    obtain ⟨rfl, rfl, hM⟩ := hrel
    go_wp2
    go_ret
    exact ⟨rfl, hM⟩
set_option maxHeartbeats 4000000 in
set_option maxRecDepth 100000 in
theorem raise_nil (c n : Int) (s : S35) (W : World) : Calls Try.prog 32 #[.pointer none, .agg #[.int .u32 c, .int .u32 n], .agg #[.int .u64 s.f0, .int .u32 s.f1]] W fun e W' => e = .returned (.bool false) ∧ Mod W W' [] := by
  have M0 := ((Mod.refl W []).alloc (.cells #[.int .u32 c, .int .u32 n] 32)).alloc (.cells #[.int .u64 s.f0, .int .u32 s.f1] 35)
  go_enter Try.func32, Try.ntmps32
  go_upto_region 1 with fail
  generalize (W.alloc _).alloc _ = W1 at *
  go_quiet (fail)
  go_wp2
  go_ret
  exact ⟨rfl, by first | exact M0 | (repeat (first | exact M0 | refine Mod.drewN ?_ _ | refine Mod.drew ?_))⟩
set_option maxHeartbeats 4000000 in
set_option maxRecDepth 100000 in
theorem lay_nil (c n : Int) (st mn : S35) (pr : ByteArray) (A : Option Addr) (l k : Nat) (W : World) : Calls Try.prog 26 #[.pointer none, .agg #[.int .u32 c, .int .u32 n], .agg #[.int .u64 st.f0, .int .u32 st.f1], .agg #[.int .u64 mn.f0, .int .u32 mn.f1], .string pr, .slice A l k] W fun e W' => e = .returned (.int .i64 1) ∧ Mod W W' [] := by
  have m0 := (Mod.refl W []).alloc (.cells #[.pointer none] 59)
  have b0 := blk_new W (.cells #[.pointer none] 59)
  have m1 := (((Mod.refl (W.alloc (.cells #[.pointer none] 59)) []).alloc (.cells #[.int .u32 c, .int .u32 n] 32)).alloc (.cells #[.int .u64 st.f0, .int .u32 st.f1] 35)).alloc (.cells #[.int .u64 mn.f0, .int .u32 mn.f1] 35)
  have B0 := m1.at_ b0 (by simp)
  have M0 := m0.trans m1 (fun _ hk => by cases hk)
  clear m0 m1 b0
  go_enter Try.func26, Try.ntmps26
  go_upto_region 1 with fail
  generalize (((W.alloc _).alloc _).alloc _).alloc _ = W1 at *
  generalize hgq : W.heap.size = q at *
  have c0 : W1.cell? ⟨q, 0, none⟩ = some (.pointer none) := (blk_cell B0 0).trans rfl
  go_wp2
  go_ret
  exact ⟨rfl, by first | exact M0 | (repeat (first | exact M0 | refine Mod.drewN ?_ _ | refine Mod.drew ?_))⟩
/-! LatchNothing -/
attribute [local go_sem high] eqA32 eqA35 eqA63 eqA65
theorem blkAt {V : World} {g : Nat} {cs : Array Value} {t : Nat} {p : Nat × Nat} (h : V.heap[g]? = some (.cells cs t p)) {W : World} (m : Mod V W []) : W.heap[g]? = some (.cells cs t p) := m.at_ h (by simp)
set_option maxHeartbeats 16000000 in
set_option maxRecDepth 100000 in
theorem nothing_walk (a : S58) (Aw Ab : Option Addr) (cw cb : Nat) (W : World) :
    Calls Try.prog 11 #[.agg #[.int .i64 a.f0, .int .u32 a.f1.f0, .int .u32 a.f1.f1, .int .u64 a.f2.f0, .int .u32 a.f2.f1, .int .u64 a.f3.f0, .int .u32 a.f3.f1, .string a.f4, .slice Aw a.f5.length cw, .string a.f6, .string a.f7, .slice Ab a.f8.length cb]] W fun e W' => e = .returned (.bool true) ∧ Mod W W' [] := by
  have B1 := blk_new W (.cells #[.int .i64 a.f0, .int .u32 a.f1.f0, .int .u32 a.f1.f1, .int .u64 a.f2.f0, .int .u32 a.f2.f1, .int .u64 a.f3.f0, .int .u32 a.f3.f1, .string a.f4, .slice Aw a.f5.length cw, .string a.f6, .string a.f7, .slice Ab a.f8.length cb] 58)
  have M1 := (Mod.refl W []).alloc (.cells #[.int .i64 a.f0, .int .u32 a.f1.f0, .int .u32 a.f1.f1, .int .u64 a.f2.f0, .int .u32 a.f2.f1, .int .u64 a.f3.f0, .int .u32 a.f3.f1, .string a.f4, .slice Aw a.f5.length cw, .string a.f6, .string a.f7, .slice Ab a.f8.length cb] 58)
  go_enter Try.func11, Try.ntmps11
  go_upto_region 1 with fail
  generalize W.alloc _ = V1 at *
  generalize hg : W.heap.size = g at *
  go_wp2_with fail
  refine (awake_calls _).mono ?_
  rintro e V2 ⟨rfl, m1⟩
  have B2 := blkAt B1 m1
  have M2 := M1.trans m1 (fun _ hk => by cases hk)
  clear B1 M1 m1
  obtain ⟨d0, d1, d2, d3, d4, d5, d6, d7, d8, d9, da, db⟩ : V2.cell? ⟨g, 0, none⟩ = some (.int .i64 a.f0) ∧ V2.cell? ⟨g, 1, none⟩ = some (.int .u32 a.f1.f0) ∧ V2.cell? ⟨g, 2, none⟩ = some (.int .u32 a.f1.f1) ∧ V2.cell? ⟨g, 3, none⟩ = some (.int .u64 a.f2.f0) ∧ V2.cell? ⟨g, 4, none⟩ = some (.int .u32 a.f2.f1) ∧ V2.cell? ⟨g, 5, none⟩ = some (.int .u64 a.f3.f0) ∧ V2.cell? ⟨g, 6, none⟩ = some (.int .u32 a.f3.f1) ∧ V2.cell? ⟨g, 7, none⟩ = some (.string a.f4) ∧ V2.cell? ⟨g, 8, none⟩ = some (.slice Aw a.f5.length cw) ∧ V2.cell? ⟨g, 9, none⟩ = some (.string a.f6) ∧ V2.cell? ⟨g, 10, none⟩ = some (.string a.f7) ∧ V2.cell? ⟨g, 11, none⟩ = some (.slice Ab a.f8.length cb) := ⟨(blk_cell B2 0).trans rfl, (blk_cell B2 1).trans rfl, (blk_cell B2 2).trans rfl, (blk_cell B2 3).trans rfl, (blk_cell B2 4).trans rfl, (blk_cell B2 5).trans rfl, (blk_cell B2 6).trans rfl, (blk_cell B2 7).trans rfl, (blk_cell B2 8).trans rfl, (blk_cell B2 9).trans rfl, (blk_cell B2 10).trans rfl, (blk_cell B2 11).trans rfl⟩
  go_wp2_with fail
  refine (first_nil a.f6 a.f7 a.f3.f0 a.f3.f1 Ab a.f8.length cb _).mono ?_
  simp only [ofEnd]
  rintro e V3 ⟨rfl, m3⟩
  have B3 := blkAt B2 m3
  have M3 := M2.trans m3 (fun _ hk => by cases hk)
  clear B2 M2 m3 d0 d1 d2 d3 d4 d5 d6 d7 d8 d9 da db
  have bx := blk_new V3 (.cells #[.int .u32 0, .int .u32 0, .int .u64 0, .int .u32 0, .int .u64 0, .int .u32 0, .string ⟨#[]⟩, .string ⟨#[]⟩, .string ⟨#[]⟩, .bool false] 65)
  have mx := (Mod.refl V3 []).alloc (.cells #[.int .u32 0, .int .u32 0, .int .u64 0, .int .u32 0, .int .u64 0, .int .u32 0, .string ⟨#[]⟩, .string ⟨#[]⟩, .string ⟨#[]⟩, .bool false] 65)
  have B4 := blkAt B3 mx
  have M4 := M3.trans mx (fun _ hk => by cases hk)
  clear B3 M3 mx
  go_upto_region 5 with fail
  generalize V3.alloc _ = V3b at *
  generalize V3.heap.size = gx at *
  obtain ⟨d0, d1, d2, d3, d4, d5, d6, d7, d8, d9, da, db⟩ : V3b.cell? ⟨g, 0, none⟩ = some (.int .i64 a.f0) ∧ V3b.cell? ⟨g, 1, none⟩ = some (.int .u32 a.f1.f0) ∧ V3b.cell? ⟨g, 2, none⟩ = some (.int .u32 a.f1.f1) ∧ V3b.cell? ⟨g, 3, none⟩ = some (.int .u64 a.f2.f0) ∧ V3b.cell? ⟨g, 4, none⟩ = some (.int .u32 a.f2.f1) ∧ V3b.cell? ⟨g, 5, none⟩ = some (.int .u64 a.f3.f0) ∧ V3b.cell? ⟨g, 6, none⟩ = some (.int .u32 a.f3.f1) ∧ V3b.cell? ⟨g, 7, none⟩ = some (.string a.f4) ∧ V3b.cell? ⟨g, 8, none⟩ = some (.slice Aw a.f5.length cw) ∧ V3b.cell? ⟨g, 9, none⟩ = some (.string a.f6) ∧ V3b.cell? ⟨g, 10, none⟩ = some (.string a.f7) ∧ V3b.cell? ⟨g, 11, none⟩ = some (.slice Ab a.f8.length cb) := ⟨(blk_cell B4 0).trans rfl, (blk_cell B4 1).trans rfl, (blk_cell B4 2).trans rfl, (blk_cell B4 3).trans rfl, (blk_cell B4 4).trans rfl, (blk_cell B4 5).trans rfl, (blk_cell B4 6).trans rfl, (blk_cell B4 7).trans rfl, (blk_cell B4 8).trans rfl, (blk_cell B4 9).trans rfl, (blk_cell B4 10).trans rfl, (blk_cell B4 11).trans rfl⟩
  go_wp2_with fail
  refine (of_nil a.f6 _).mono ?_
  simp only [ofEnd]
  rintro e V5 ⟨rfl, m5⟩
  have B5 := blkAt B4 m5
  have bx5 := blkAt bx m5
  have M5 := M4.trans m5 (fun _ hk => by cases hk)
  clear B4 M4 m5 bx d0 d1 d2 d3 d4 d5 d6 d7 d8 d9 da db
  have bY := blk_new V5 (.cells #[.int .u32 0, .int .u32 0, .int .u64 0, .int .u32 0, .int .u64 0, .int .u32 0, .string ⟨#[]⟩, .string ⟨#[]⟩, .string ⟨#[]⟩, .bool false] 65)
  have mx := (Mod.refl V5 []).alloc (.cells #[.int .u32 0, .int .u32 0, .int .u64 0, .int .u32 0, .int .u64 0, .int .u32 0, .string ⟨#[]⟩, .string ⟨#[]⟩, .string ⟨#[]⟩, .bool false] 65)
  have B6 := blkAt B5 mx
  have bX := blkAt bx5 mx
  have M6 := M5.trans mx (fun _ hk => by cases hk)
  clear B5 M5 mx bx5
  go_upto_region 6 with fail
  generalize V5.alloc _ = V4 at *
  generalize V5.heap.size = gy at *
  have HF : Hid (∀ W', Mod V4 W' [] → (W'.cell? ⟨g, 1, none⟩ = some (.int .u32 a.f1.f0) ∧ W'.cell? ⟨g, 2, none⟩ = some (.int .u32 a.f1.f1) ∧ W'.cell? ⟨g, 3, none⟩ = some (.int .u64 a.f2.f0) ∧ W'.cell? ⟨g, 4, none⟩ = some (.int .u32 a.f2.f1) ∧ W'.cell? ⟨g, 5, none⟩ = some (.int .u64 a.f3.f0) ∧ W'.cell? ⟨g, 6, none⟩ = some (.int .u32 a.f3.f1) ∧ W'.cell? ⟨g, 7, none⟩ = some (.string a.f4) ∧ W'.cell? ⟨g, 8, none⟩ = some (.slice Aw a.f5.length cw)) ∧ (W'.cell? ⟨gx, 0, none⟩ = some (.int .u32 0) ∧ W'.cell? ⟨gx, 1, none⟩ = some (.int .u32 0) ∧ W'.cell? ⟨gx, 2, none⟩ = some (.int .u64 0) ∧ W'.cell? ⟨gx, 3, none⟩ = some (.int .u32 0) ∧ W'.cell? ⟨gx, 4, none⟩ = some (.int .u64 0) ∧ W'.cell? ⟨gx, 5, none⟩ = some (.int .u32 0) ∧ W'.cell? ⟨gx, 6, none⟩ = some (.string ⟨#[]⟩) ∧ W'.cell? ⟨gx, 7, none⟩ = some (.string ⟨#[]⟩) ∧ W'.cell? ⟨gx, 8, none⟩ = some (.string ⟨#[]⟩) ∧ W'.cell? ⟨gx, 9, none⟩ = some (.bool false)) ∧ (W'.cell? ⟨gy, 0, none⟩ = some (.int .u32 0) ∧ W'.cell? ⟨gy, 1, none⟩ = some (.int .u32 0) ∧ W'.cell? ⟨gy, 2, none⟩ = some (.int .u64 0) ∧ W'.cell? ⟨gy, 3, none⟩ = some (.int .u32 0) ∧ W'.cell? ⟨gy, 4, none⟩ = some (.int .u64 0) ∧ W'.cell? ⟨gy, 5, none⟩ = some (.int .u32 0) ∧ W'.cell? ⟨gy, 6, none⟩ = some (.string ⟨#[]⟩) ∧ W'.cell? ⟨gy, 7, none⟩ = some (.string ⟨#[]⟩) ∧ W'.cell? ⟨gy, 8, none⟩ = some (.string ⟨#[]⟩) ∧ W'.cell? ⟨gy, 9, none⟩ = some (.bool false))) := Lib.hid fun W' mm => by
    have B7 := blkAt B6 mm
    have X7 := blkAt bX mm
    have Y7 := blkAt bY mm
    exact ⟨⟨(blk_cell B7 1).trans rfl, (blk_cell B7 2).trans rfl, (blk_cell B7 3).trans rfl, (blk_cell B7 4).trans rfl, (blk_cell B7 5).trans rfl, (blk_cell B7 6).trans rfl, (blk_cell B7 7).trans rfl, (blk_cell B7 8).trans rfl⟩, ⟨(blk_cell X7 0).trans rfl, (blk_cell X7 1).trans rfl, (blk_cell X7 2).trans rfl, (blk_cell X7 3).trans rfl, (blk_cell X7 4).trans rfl, (blk_cell X7 5).trans rfl, (blk_cell X7 6).trans rfl, (blk_cell X7 7).trans rfl, (blk_cell X7 8).trans rfl, (blk_cell X7 9).trans rfl⟩, (blk_cell Y7 0).trans rfl, (blk_cell Y7 1).trans rfl, (blk_cell Y7 2).trans rfl, (blk_cell Y7 3).trans rfl, (blk_cell Y7 4).trans rfl, (blk_cell Y7 5).trans rfl, (blk_cell Y7 6).trans rfl, (blk_cell Y7 7).trans rfl, (blk_cell Y7 8).trans rfl, (blk_cell Y7 9).trans rfl⟩
  have HM6 := Lib.hid M6
  have HM : Hid (Mod V4 V4 []) := Lib.hid (Mod.refl _ _)
  have hk0 := HF.out V4 (Mod.refl _ _)
  clear B6 bX bY M6
  go_region_held3 (fun W' => (W'.cell? ⟨g, 1, none⟩ = some (.int .u32 a.f1.f0) ∧ W'.cell? ⟨g, 2, none⟩ = some (.int .u32 a.f1.f1) ∧ W'.cell? ⟨g, 3, none⟩ = some (.int .u64 a.f2.f0) ∧ W'.cell? ⟨g, 4, none⟩ = some (.int .u32 a.f2.f1) ∧ W'.cell? ⟨g, 5, none⟩ = some (.int .u64 a.f3.f0) ∧ W'.cell? ⟨g, 6, none⟩ = some (.int .u32 a.f3.f1) ∧ W'.cell? ⟨g, 7, none⟩ = some (.string a.f4) ∧ W'.cell? ⟨g, 8, none⟩ = some (.slice Aw a.f5.length cw)) ∧ (W'.cell? ⟨gx, 0, none⟩ = some (.int .u32 0) ∧ W'.cell? ⟨gx, 1, none⟩ = some (.int .u32 0) ∧ W'.cell? ⟨gx, 2, none⟩ = some (.int .u64 0) ∧ W'.cell? ⟨gx, 3, none⟩ = some (.int .u32 0) ∧ W'.cell? ⟨gx, 4, none⟩ = some (.int .u64 0) ∧ W'.cell? ⟨gx, 5, none⟩ = some (.int .u32 0) ∧ W'.cell? ⟨gx, 6, none⟩ = some (.string ⟨#[]⟩) ∧ W'.cell? ⟨gx, 7, none⟩ = some (.string ⟨#[]⟩) ∧ W'.cell? ⟨gx, 8, none⟩ = some (.string ⟨#[]⟩) ∧ W'.cell? ⟨gx, 9, none⟩ = some (.bool false)) ∧ (W'.cell? ⟨gy, 0, none⟩ = some (.int .u32 0) ∧ W'.cell? ⟨gy, 1, none⟩ = some (.int .u32 0) ∧ W'.cell? ⟨gy, 2, none⟩ = some (.int .u64 0) ∧ W'.cell? ⟨gy, 3, none⟩ = some (.int .u32 0) ∧ W'.cell? ⟨gy, 4, none⟩ = some (.int .u64 0) ∧ W'.cell? ⟨gy, 5, none⟩ = some (.int .u32 0) ∧ W'.cell? ⟨gy, 6, none⟩ = some (.string ⟨#[]⟩) ∧ W'.cell? ⟨gy, 7, none⟩ = some (.string ⟨#[]⟩) ∧ W'.cell? ⟨gy, 8, none⟩ = some (.string ⟨#[]⟩) ∧ W'.cell? ⟨gy, 9, none⟩ = some (.bool false)))
    (first | exact HF.out _ (by repeat first | exact HM.out | refine Mod.drewN ?_ _ | refine Mod.drew ?_)) (first
    | (go_at_call 26
       have K := HM
       clear HM
       (
         refine Calls.mono (lay_nil a.f1.f0 a.f1.f1 a.f2 a.f3 a.f4 Aw a.f5.length cw _) ?_
         rintro e Vn ⟨rfl, mn⟩
         have hn : Mod V4 Vn [] := by
           refine Mod.trans ?_ mn (fun _ hk => by cases hk)
           (repeat first | exact K.out | refine Mod.drewN ?_ _ | refine Mod.drew ?_)
         have hkn := HF.out _ hn
         have HM := Lib.hid hn
         clear K hn mn))
    | (go_at_call 29
       have K := HM
       clear HM
       (
         refine Calls.mono (by_nil a.f1.f0 a.f1.f1 _) ?_
         rintro e Vn ⟨rfl, mn⟩
         have hn : Mod V4 Vn [] := by
           refine Mod.trans ?_ mn (fun _ hk => by cases hk)
           (repeat first | exact K.out | refine Mod.drewN ?_ _ | refine Mod.drew ?_)
         have hkn := HF.out _ hn
         have HM := Lib.hid hn
         clear K hn mn))
    | (go_at_call 30
       have K := HM
       clear HM
       (
         refine Calls.mono (cutn_nil a.f1.f0 a.f1.f1 _) ?_
         rintro e Vn ⟨rfl, mn⟩
         have hn : Mod V4 Vn [] := by
           refine Mod.trans ?_ mn (fun _ hk => by cases hk)
           (repeat first | exact K.out | refine Mod.drewN ?_ _ | refine Mod.drew ?_)
         have hkn := HF.out _ hn
         have HM := Lib.hid hn
         clear K hn mn))
    | (go_at_call 27
       have K := HM
       clear HM
       (
         refine Calls.mono (all_nil _) ?_
         rintro e Vn ⟨rfl, mn⟩
         have hn : Mod V4 Vn [] := by
           refine Mod.trans ?_ mn (fun _ hk => by cases hk)
           (repeat first | exact K.out | refine Mod.drewN ?_ _ | refine Mod.drew ?_)
         have hkn := HF.out _ hn
         have HM := Lib.hid hn
         clear K hn mn))
    | (go_at_call 32
       have K := HM
       clear HM
       (
         refine Calls.mono (raise_nil a.f1.f0 a.f1.f1 a.f3 _) ?_
         rintro e Vn ⟨rfl, mn⟩
         have hn : Mod V4 Vn [] := by
           refine Mod.trans ?_ mn (fun _ hk => by cases hk)
           (repeat first | exact K.out | refine Mod.drewN ?_ _ | refine Mod.drew ?_)
         have hkn := HF.out _ hn
         have HM := Lib.hid hn
         clear K hn mn)))
  all_goals
    go_wp2
    go_ret
    exact ⟨rfl, HM6.out.trans (by repeat first | exact HM.out | refine Mod.drewN ?_ _ | refine Mod.drew ?_) (fun _ hk => by cases hk)⟩
end Go.Proofs.Ytdelbidaclddgaa.Lat
