/- The layer 'verdict': VerH; a seat's own text, no law of its own. -/
import Derived.Test.YtdelbidaclddgaaVerG
import Derived.Deep.LoopGhost
import Derived.Deep.Cut
import Derived.Lib.Hide
import Derived.StillTailTactics
import Derived.Deep.QuietTactic
import Derived.BigQuiet
import Derived.Outline
import Derived.Deep.RegionWith
import Derived.Deep.RegionHeld3
import Derived.WalkLawsBesides
namespace Go.Proofs.Ytdelbidaclddgaa.Ver
open Go.RowKit Go.Proofs.YtdelbidaclddgaaW.PrintWords Go.Proofs.Ytdelbidaclddgaa.MVerdictRuns Go.Proofs.YtdelbidaclddgaaW.PrintLast
set_option linter.unusedVariables false
set_option linter.unusedSimpArgs false
set_option maxHeartbeats 4000000 in
set_option maxRecDepth 100000 in
theorem of_nil (c n : Int) (W : World) : Calls Try.prog 20 #[.pointer none, keyV c n] W fun e W' => e = .returned (.tuple #[encV z37, .bool false]) ∧ Mod W W' [] := by
  have B4 : BV ((W.alloc (.cells #[.int .u32 c, .int .u32 n] 32)).alloc (.cells #[.int .u32 0, .int .u32 0, .int .u64 0, .int .u32 0, .int .u64 0, .int .u32 0, .int .u8 0, .bool false] 37)) (W.alloc (.cells #[.int .u32 c, .int .u32 n] 32)).heap.size z37 := blk_new _ _
  have M4 := ((Mod.refl W []).alloc (.cells #[.int .u32 c, .int .u32 n] 32)).alloc (.cells #[.int .u32 0, .int .u32 0, .int .u64 0, .int .u32 0, .int .u64 0, .int .u32 0, .int .u8 0, .bool false] 37)
  have hs : (W.alloc (.cells #[.int .u32 c, .int .u32 n] 32)).heap.size = W.heap.size + 1 := by simp
  rw [hs] at B4
  unfold keyV encV
  go_enter Try.func20, Try.ntmps20
  go_upto_region 1 with fail
  generalize (W.alloc (.cells #[.int .u32 c, .int .u32 n] 32)).alloc (.cells #[.int .u32 0, .int .u32 0, .int .u64 0, .int .u32 0, .int .u64 0, .int .u32 0, .int .u8 0, .bool false] 37) = W4 at *
  generalize hg : W.heap.size = g at *
  obtain ⟨e0, e1, e2, e3, e4, e5, e6, e7⟩ := B4.all
  have fz := blk_frozen B4
  simp only [z37, z32, z35] at e0 e1 e2 e3 e4 e5 e6 e7
  go_wp2
  refine bodyPost_ret (results_ct rfl _ _ (g + 1) 37 _ (0, 0) _ rfl (B4.put8 z37) Try.underlying37 rfl (by kernel_rfl)) rfl ?_
  exact ⟨rfl, M4.put8 (.inr (by omega)) z37⟩
set_option maxHeartbeats 4000000 in
set_option maxRecDepth 100000 in
theorem done_nil (c n : Int) (W : World) : Calls Try.prog 16 #[.pointer none, keyV c n] W fun e W' => e = .returned (.bool false) ∧ Mod W W' [] := by
  have B3 := blk_new W (.cells #[.int .u32 c, .int .u32 n] 32)
  have M3 := (Mod.refl W []).alloc (.cells #[.int .u32 c, .int .u32 n] 32)
  have hof := of_nil c n
  unfold keyV encV at hof
  unfold keyV
  go_enter Try.func16, Try.ntmps16
  go_upto_region 1 with fail
  generalize W.alloc (.cells #[.int .u32 c, .int .u32 n] 32) = W3 at *
  generalize hg : W.heap.size = g at *
  have c0 : W3.cell? ⟨g, 0, none⟩ = some (.int .u32 c) := (blk_cell B3 0).trans rfl
  have c1 : W3.cell? ⟨g, 1, none⟩ = some (.int .u32 n) := (blk_cell B3 1).trans rfl
  go_wp2_with (first
    | (go_at_call 20; refine (hof _).mono ?_; rintro e V1 ⟨rfl, m1⟩; have M1 := M3.trans m1 (fun _ hk => by cases hk); clear m1))
  go_ret
  exact ⟨rfl, M1.alloc _⟩
set_option maxHeartbeats 4000000 in
set_option maxRecDepth 100000 in
theorem ret_nil (s : S35) (v : Value) (hv : v.oneCell' = true) (W : World) : Calls Try.prog 18 #[.pointer none, .agg #[.int .u64 s.f0, .int .u32 s.f1], v] W fun e W' => e = .returned (.int .i64 0) ∧ Mod W W' [] := by
  go_enter Try.func18, Try.ntmps18
  go_wp2
  go_ret
  exact ⟨rfl, ((Mod.refl W []).alloc _).alloc _⟩
set_option maxHeartbeats 4000000 in
set_option maxRecDepth 100000 in
theorem all_nil (W : World) : Calls Try.prog 23 #[.pointer none] W fun e W' => e = .returned (.slice none 0 0) ∧ W' = W := by
  go_enter Try.func23, Try.ntmps23
  go_wp2
  go_ret
  exact ⟨rfl, rfl⟩
/-- the law's argument in its box -/
def Nt (W : World) (g : Nat) (w0 : Int) (v : S37) (s : S35) (A : Option Addr) (n c : Nat) (V : World) : Prop := V.heap[g]? = some (.cells #[.int .i64 w0, .int .u32 v.f0.f0, .int .u32 v.f0.f1, .int .u64 v.f1.f0, .int .u32 v.f1.f1, .int .u64 v.f2.f0, .int .u32 v.f2.f1, .int .u8 v.f3, .bool v.f4, .int .u64 s.f0, .int .u32 s.f1, .slice A n c] 40 (0, 0)) ∧ Mod W V [] ∧ W.heap.size ≤ g
theorem Nt.step {W V V' : World} {g : Nat} {w0 : Int} {v : S37} {s : S35} {A : Option Addr} {n c : Nat} (h : Nt W g w0 v s A n c V) (m : Mod V V' []) : Hid (Nt W g w0 v s A n c V') := Lib.hid ⟨m.at_ h.1 (by simp), h.2.1.trans m (fun _ hk => by cases hk), h.2.2⟩
theorem Nt.all {W V : World} {g : Nat} {w0 : Int} {v : S37} {s : S35} {A : Option Addr} {n c : Nat} (h : Nt W g w0 v s A n c V) :
    V.cell? ⟨g, 0, none⟩ = some (.int .i64 w0) ∧ V.cell? ⟨g, 1, none⟩ = some (.int .u32 v.f0.f0) ∧ V.cell? ⟨g, 2, none⟩ = some (.int .u32 v.f0.f1) ∧ V.cell? ⟨g, 3, none⟩ = some (.int .u64 v.f1.f0) ∧ V.cell? ⟨g, 4, none⟩ = some (.int .u32 v.f1.f1) ∧ V.cell? ⟨g, 5, none⟩ = some (.int .u64 v.f2.f0) ∧ V.cell? ⟨g, 6, none⟩ = some (.int .u32 v.f2.f1) ∧ V.cell? ⟨g, 7, none⟩ = some (.int .u8 v.f3) ∧ V.cell? ⟨g, 8, none⟩ = some (.bool v.f4) ∧ V.cell? ⟨g, 9, none⟩ = some (.int .u64 s.f0) ∧ V.cell? ⟨g, 10, none⟩ = some (.int .u32 s.f1) ∧ V.cell? ⟨g, 11, none⟩ = some (.slice A n c) :=
  ⟨(blk_cell h.1 0).trans rfl, (blk_cell h.1 1).trans rfl, (blk_cell h.1 2).trans rfl, (blk_cell h.1 3).trans rfl, (blk_cell h.1 4).trans rfl, (blk_cell h.1 5).trans rfl, (blk_cell h.1 6).trans rfl, (blk_cell h.1 7).trans rfl, (blk_cell h.1 8).trans rfl, (blk_cell h.1 9).trans rfl, (blk_cell h.1 10).trans rfl, (blk_cell h.1 11).trans rfl⟩
set_option maxHeartbeats 8000000 in
set_option maxRecDepth 100000 in
theorem nothing_walk (w0 : Int) (v : S37) (s : S35) (A : Option Addr) (n c : Nat) (W : World) :
    Calls Try.prog 5 #[.agg #[.int .i64 w0, .int .u32 v.f0.f0, .int .u32 v.f0.f1, .int .u64 v.f1.f0, .int .u32 v.f1.f1, .int .u64 v.f2.f0, .int .u32 v.f2.f1, .int .u8 v.f3, .bool v.f4, .int .u64 s.f0, .int .u32 s.f1, .slice A n c]] W fun e W' => e = .returned (.bool true) ∧ Mod W W' [] := by
  have B1 := blk_new W (.cells #[.int .i64 w0, .int .u32 v.f0.f0, .int .u32 v.f0.f1, .int .u64 v.f1.f0, .int .u32 v.f1.f1, .int .u64 v.f2.f0, .int .u32 v.f2.f1, .int .u8 v.f3, .bool v.f4, .int .u64 s.f0, .int .u32 s.f1, .slice A n c] 40)
  have M1 := (Mod.refl W []).alloc (.cells #[.int .i64 w0, .int .u32 v.f0.f0, .int .u32 v.f0.f1, .int .u64 v.f1.f0, .int .u32 v.f1.f1, .int .u64 v.f2.f0, .int .u32 v.f2.f1, .int .u8 v.f3, .bool v.f4, .int .u64 s.f0, .int .u32 s.f1, .slice A n c] 40)
  go_enter Try.func5, Try.ntmps5
  go_upto_region 1 with fail
  generalize W.alloc (.cells #[.int .i64 w0, .int .u32 v.f0.f0, .int .u32 v.f0.f1, .int .u64 v.f1.f0, .int .u32 v.f1.f1, .int .u64 v.f2.f0, .int .u32 v.f2.f1, .int .u8 v.f3, .bool v.f4, .int .u64 s.f0, .int .u32 s.f1, .slice A n c] 40) = V1 at *
  generalize hg : W.heap.size = g at *
  have H0 : Hid (Nt W g w0 v s A n c V1) := Lib.hid ⟨B1, M1, by omega⟩
  clear B1 M1
  have hof := of_nil v.f0.f0 v.f0.f1
  have hdn := done_nil v.f0.f0 v.f0.f1
  have hst := fun X => set_nil X none v
  unfold keyV encV at hof
  simp only [z37, z32, z35] at hof
  unfold keyV at hdn
  unfold encV at hst
  go_upto_region 5 with (first
    | (go_at_call 12; have K0 := H0; clear H0; refine (awake_calls _).mono ?_; rintro e V2 ⟨rfl, m1⟩; have H1 := K0.out.step m1; obtain ⟨c0, c1, c2, c3, c4, c5, c6, c7, c8, c9, c10, c11⟩ := H1.out.all; clear K0 m1)
    | (go_at_call 20; have K1 := H1; clear H1; refine (hof _).mono ?_; rintro e V3 ⟨rfl, m1⟩; have H2 := K1.out.step m1; clear K1 m1))
  have m4 := (Mod.refl V3 []).alloc (.cells #[.int .u32 0, .int .u32 0, .int .u64 0, .int .u32 0, .int .u64 0, .int .u32 0, .int .u8 0, .bool false] 37)
  have Z4 : Hid (BV (V3.alloc (.cells #[.int .u32 0, .int .u32 0, .int .u64 0, .int .u32 0, .int .u64 0, .int .u32 0, .int .u8 0, .bool false] 37)) V3.heap.size z37) := Lib.hid (blk_new V3 _)
  have H3 := H2.out.step m4
  clear H2 m4 hof c0 c1 c2 c3 c4 c5 c6 c7 c8 c9 c10 c11
  generalize V3.alloc (.cells #[.int .u32 0, .int .u32 0, .int .u64 0, .int .u32 0, .int .u64 0, .int .u32 0, .int .u8 0, .bool false] 37) = V4 at *
  generalize V3.heap.size = g6 at *
  obtain ⟨c0, c1, c2, c3, c4, c5, c6, c7, c8, c9, c10, c11⟩ := H3.out.all
  obtain ⟨e0, e1, e2, e3, e4, e5, e6, e7⟩ := Z4.out.all
  simp only [z37, z32, z35] at e0 e1 e2 e3 e4 e5 e6 e7
  go_wp2_with (first
    | (go_at_call 14; have K3 := H3; clear H3; refine (hst _).mono ?_; rintro e V5 ⟨rfl, m1⟩; have H5 := K3.out.step m1; have Z5 := Lib.hid (Z4.out.mod m1 (by simp)); obtain ⟨c0, c1, c2, c3, c4, c5, c6, c7, c8, c9, c10, c11⟩ := H5.out.all; obtain ⟨e0, e1, e2, e3, e4, e5, e6, e7⟩ := Z5.out.all; simp only [z37, z32, z35] at e0 e1 e2 e3 e4 e5 e6 e7; clear K3 m1 Z4)
    | (go_at_call 16; have K5 := H5; clear H5; refine (hdn _).mono ?_; rintro e V6 ⟨rfl, m1⟩; have H6 := K5.out.step m1; obtain ⟨c0, c1, c2, c3, c4, c5, c6, c7, c8, c9, c10, c11⟩ := H6.out.all; clear K5 m1)
    | (go_at_call 18; have K6 := H6; clear H6; refine (ret_nil s _ rfl _).mono ?_; rintro e V7 ⟨rfl, m1⟩; have H7 := K6.out.step m1; clear K6 m1)
    | (go_at_call 23; refine (all_nil _).mono ?_; rintro e V8 ⟨rfl, rfl⟩))
  go_ret
  exact ⟨rfl, H7.out.2.1⟩
structure S40 where
  f0 : Int
  f1 : S37
  f2 : S35
  f3 : List S32
def z40 : S40 := ⟨0, z37, z35, []⟩
def k40 : Kd S40 := Kd.iso (Kd.pair (Kd.int .i64) (Kd.pair k37 (Kd.pair k35 (Kd.slice 32 k32)))) (fun x : S40 => (x.f0, x.f1, x.f2, x.f3))
/-- how an act's cells lie -/
theorem k40_open {w : World} {x : S40} {cs : List Value} (h : k40.K w x cs) : ∃ A c, cs = [.int .i64 x.f0, .int .u32 x.f1.f0.f0, .int .u32 x.f1.f0.f1, .int .u64 x.f1.f1.f0, .int .u32 x.f1.f1.f1, .int .u64 x.f1.f2.f0, .int .u32 x.f1.f2.f1, .int .u8 x.f1.f3, .bool x.f1.f4, .int .u64 x.f2.f0, .int .u32 x.f2.f1, .slice A x.f3.length c] ∧ x.f3.length ≤ c ∧ Kd.C k32 w A x.f3.length x.f3 := by
  obtain ⟨_, _, rfl, rfl, ⟨_, _, rfl, s1, ⟨_, _, rfl, s2, ⟨A, c, rfl, h1, h2⟩⟩⟩⟩ := h
  obtain rfl := k37_open s1
  obtain rfl := k35_open s2
  exact ⟨A, c, rfl, h1, h2⟩
end Go.Proofs.Ytdelbidaclddgaa.Ver
