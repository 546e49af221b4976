/- The layer 'verdict': VerB; a seat's own text, no law of its own. -/
import Derived.Test.YtdelbidaclddgaaVerA
import Derived.Deep.LoopGhost
import Derived.Deep.Cut
import Derived.Lib.Hide
import Derived.StillTailTactics
import Derived.Deep.QuietTactic
import Derived.BigQuiet
import Derived.Outline
import Derived.Deep.RegionWith
import Derived.Deep.RegionHeld3
import Derived.WalkLawsBesides
namespace Go.Proofs.Ytdelbidaclddgaa.Ver
open Go.RowKit Go.Proofs.YtdelbidaclddgaaW.PrintWords Go.Proofs.Ytdelbidaclddgaa.MVerdictRuns Go.Proofs.YtdelbidaclddgaaW.PrintLast
set_option linter.unusedVariables false
set_option linter.unusedSimpArgs false
set_option maxHeartbeats 4000000 in
set_option maxRecDepth 100000 in
theorem new_calls (w : World) : Calls Try.prog 13 #[] w fun e W' => ∃ p b, e = .returned (.pointer (some ⟨p, 0, none⟩)) ∧ Book W' p b 0 [] ∧ Mod w W' [] ∧ w.heap.size ≤ p ∧ w.heap.size ≤ b := by
  have hmm := @run_makeMap Try.prog
  go_enter Try.func13, Try.ntmps13
  go_wp2
  go_ret
  have hs : (w.alloc (.map #[] 0)).heap.size = w.heap.size + 1 := by simp
  refine ⟨w.heap.size + 1, w.heap.size, rfl, ⟨hs ▸ blk_new (w.alloc (.map #[] 0)) _, (World.ownsMap_made w _ _ _).alloc _, List.Pairwise.nil, fun v hv => by cases hv⟩, ((Mod.refl w []).alloc _).alloc _, by omega, by omega⟩
theorem Mod.of_below {W W' : World} (h : Below W.heap.size W W') : Mod W W' [] := ⟨h.os, h.tape, h.output, h.size, fun k hk _ => h.block k hk⟩
/-- a verdict in a block of the call's own -/
def BV (W : World) (g : Nat) (v : S37) : Prop := W.heap[g]? = some (.cells #[.int .u32 v.f0.f0, .int .u32 v.f0.f1, .int .u64 v.f1.f0, .int .u32 v.f1.f1, .int .u64 v.f2.f0, .int .u32 v.f2.f1, .int .u8 v.f3, .bool v.f4] 37 (0, 0))
theorem BV.all {W : World} {g : Nat} {v : S37} (h : BV W g v) : W.cell? ⟨g, 0, none⟩ = some (.int .u32 v.f0.f0) ∧ W.cell? ⟨g, 1, none⟩ = some (.int .u32 v.f0.f1) ∧ W.cell? ⟨g, 2, none⟩ = some (.int .u64 v.f1.f0) ∧ W.cell? ⟨g, 3, none⟩ = some (.int .u32 v.f1.f1) ∧
    W.cell? ⟨g, 4, none⟩ = some (.int .u64 v.f2.f0) ∧ W.cell? ⟨g, 5, none⟩ = some (.int .u32 v.f2.f1) ∧ W.cell? ⟨g, 6, none⟩ = some (.int .u8 v.f3) ∧ W.cell? ⟨g, 7, none⟩ = some (.bool v.f4) :=
  ⟨(blk_cell h 0).trans rfl, (blk_cell h 1).trans rfl, (blk_cell h 2).trans rfl, (blk_cell h 3).trans rfl, (blk_cell h 4).trans rfl, (blk_cell h 5).trans rfl, (blk_cell h 6).trans rfl, (blk_cell h 7).trans rfl⟩
theorem BV.mod {W W' : World} {g : Nat} {v : S37} {fp : List Nat} (h : BV W g v) (m : Mod W W' fp) (hn : g ∉ fp) : BV W' g v := m.at_ h hn
def rightB (p l : Int) : Bool := decide (p ≤ 281474976710656) && decide (l ≤ 4095)
theorem right_calls (p l : Int) (w : World) : Calls Try.prog 42 #[.agg #[.int .u64 p, .int .u32 l]] w fun e w' => e = .returned (.bool (rightB p l)) ∧ Mod w w' [] := by
  have h : stamp_Right.f p l = some (rightB p l) := by
    unfold stamp_Right.f rightB
    by_cases h : p ≤ 281474976710656 <;> simp [h]
  exact (stamp_Right.calls p l _ w h).mono fun e w' ⟨h1, h2⟩ => ⟨h1, Mod.of_below h2⟩
def commB (v : S37) : Bool := !(v.f2.f0 == 0) || !(v.f2.f1 == 0)
theorem comm_calls (v : S37) (w : World) : Calls Try.prog 43 #[encV v] w fun e w' => e = .returned (.bool (commB v)) ∧ Mod w w' [] := by
  have h : verdict_committed.f v.f0.f0 v.f0.f1 v.f1.f0 v.f1.f1 v.f2.f0 v.f2.f1 v.f3 v.f4 = some (commB v) := by
    unfold verdict_committed.f commB
    rfl
  exact (verdict_committed.calls _ _ _ _ _ _ _ _ _ w h).mono fun e w' ⟨h1, h2⟩ => ⟨h1, Mod.of_below h2⟩
/-- a verdict stored over another one -/
def put8 (W : World) (g : Nat) (v : S37) : World := ((((((((W.setCell ⟨g, 0, none⟩ (.int .u32 v.f0.f0)).setCell ⟨g, 1, none⟩ (.int .u32 v.f0.f1)).setCell ⟨g, 2, none⟩ (.int .u64 v.f1.f0)).setCell ⟨g, 3, none⟩ (.int .u32 v.f1.f1)).setCell ⟨g, 4, none⟩ (.int .u64 v.f2.f0)).setCell ⟨g, 5, none⟩ (.int .u32 v.f2.f1)).setCell ⟨g, 6, none⟩ (.int .u8 v.f3)).setCell ⟨g, 7, none⟩ (.bool v.f4))
theorem BV.put8 {W : World} {g : Nat} {u : S37} (h : BV W g u) (v : S37) : BV (put8 W g v) g v := by
  unfold BV at h ⊢
  unfold Ver.put8
  refine blk_put (cs := #[.int .u32 v.f0.f0, .int .u32 v.f0.f1, .int .u64 v.f1.f0, .int .u32 v.f1.f1, .int .u64 v.f2.f0, .int .u32 v.f2.f1, .int .u8 v.f3, .bool u.f4]) ?_ 7 _ rfl
  refine blk_put (cs := #[.int .u32 v.f0.f0, .int .u32 v.f0.f1, .int .u64 v.f1.f0, .int .u32 v.f1.f1, .int .u64 v.f2.f0, .int .u32 v.f2.f1, .int .u8 u.f3, .bool u.f4]) ?_ 6 _ rfl
  refine blk_put (cs := #[.int .u32 v.f0.f0, .int .u32 v.f0.f1, .int .u64 v.f1.f0, .int .u32 v.f1.f1, .int .u64 v.f2.f0, .int .u32 u.f2.f1, .int .u8 u.f3, .bool u.f4]) ?_ 5 _ rfl
  refine blk_put (cs := #[.int .u32 v.f0.f0, .int .u32 v.f0.f1, .int .u64 v.f1.f0, .int .u32 v.f1.f1, .int .u64 u.f2.f0, .int .u32 u.f2.f1, .int .u8 u.f3, .bool u.f4]) ?_ 4 _ rfl
  refine blk_put (cs := #[.int .u32 v.f0.f0, .int .u32 v.f0.f1, .int .u64 v.f1.f0, .int .u32 u.f1.f1, .int .u64 u.f2.f0, .int .u32 u.f2.f1, .int .u8 u.f3, .bool u.f4]) ?_ 3 _ rfl
  refine blk_put (cs := #[.int .u32 v.f0.f0, .int .u32 v.f0.f1, .int .u64 u.f1.f0, .int .u32 u.f1.f1, .int .u64 u.f2.f0, .int .u32 u.f2.f1, .int .u8 u.f3, .bool u.f4]) ?_ 2 _ rfl
  refine blk_put (cs := #[.int .u32 v.f0.f0, .int .u32 u.f0.f1, .int .u64 u.f1.f0, .int .u32 u.f1.f1, .int .u64 u.f2.f0, .int .u32 u.f2.f1, .int .u8 u.f3, .bool u.f4]) ?_ 1 _ rfl
  refine blk_put (cs := #[.int .u32 u.f0.f0, .int .u32 u.f0.f1, .int .u64 u.f1.f0, .int .u32 u.f1.f1, .int .u64 u.f2.f0, .int .u32 u.f2.f1, .int .u8 u.f3, .bool u.f4]) ?_ 0 _ rfl
  exact h
theorem Mod.put8 {W W' : World} {fp : List Nat} (h : Mod W W' fp) {g : Nat} (hp : g ∈ fp ∨ W.heap.size ≤ g) (v : S37) : Mod W (put8 W' g v) fp := by
  unfold Ver.put8
  exact (((((((h.setCell (p := ⟨g, 0, none⟩) hp _).setCell (p := ⟨g, 1, none⟩) hp _).setCell (p := ⟨g, 2, none⟩) hp _).setCell (p := ⟨g, 3, none⟩) hp _).setCell (p := ⟨g, 4, none⟩) hp _).setCell (p := ⟨g, 5, none⟩) hp _).setCell (p := ⟨g, 6, none⟩) hp _).setCell (p := ⟨g, 7, none⟩) hp _
theorem zero37 (w : World) : (zeroValue 37).run Try.prog w = .ok (encV z37) w := by kernel_rfl
theorem look_run {W : World} {p b m : Nat} {L : List S37} (h : Book W p b m L) {c n : Int} (hk : inK c n) :
    (Instr.lookup 83 (.map (some b)) (keyV c n) true).run Try.prog W = .ok (.tuple #[encV ((findV c n L).getD z37), .bool (findV c n L).isSome]) W := by
  obtain ⟨v, ps, hrun, hv⟩ := h.hm.look_ok law32 Try.underlying83 (zero37 W) (RV_enc z37) (key_of hk)
  obtain ⟨h1, h2, h3, h4⟩ := hk
  rw [map_has h1 h2 h3 h4 L h.rgs] at hrun
  rw [map_at h1 h2 h3 h4 L h.rgs] at hv
  obtain ⟨u, rfl, e⟩ := RV_inv hv
  have e2 : (Option.map gV (findV c n L)).getD (gV z37) = gV u := (Prod.mk.inj e).1
  have e3 : u = (findV c n L).getD z37 := by
    apply gV_inj
    rw [← e2]
    cases findV c n L <;> rfl
  rw [hrun, e3]
set_option maxHeartbeats 4000000 in
set_option maxRecDepth 100000 in
theorem of_calls {W : World} {p b m : Nat} {L : List S37} (h : Book W p b m L) {c n : Int} (hk : inK c n) :
    Calls Try.prog 20 #[.pointer (some ⟨p, 0, none⟩), keyV c n] W fun e W' => e = .returned (.tuple #[encV ((findV c n L).getD z37), .bool (findV c n L).isSome]) ∧ Mod W W' [] := by
  have hp := h.lt
  have hl : ∀ {W' : World} {fp : List Nat}, Mod W W' fp → fp = [] → (Instr.lookup 83 (.map (some b)) (.agg #[.int .u32 c, .int .u32 n]) true).run Try.prog W' = .ok (.tuple #[encV ((findV c n L).getD z37), .bool (findV c n L).isSome]) W' := fun m e => by subst e; exact look_run (h.mod m (by simp) (by simp)) hk
  generalize (findV c n L).getD z37 = v at *
  generalize (findV c n L).isSome = ok at *
  have c0 := h.c0
  have b3 := blk_new W (.cells #[.int .u32 c, .int .u32 n] 32)
  have m3 := (Mod.refl W []).alloc (.cells #[.int .u32 c, .int .u32 n] 32)
  have hs3 : (W.alloc (.cells #[.int .u32 c, .int .u32 n] 32)).heap.size = W.heap.size + 1 := by simp
  have b4 := blk_new (W.alloc (.cells #[.int .u32 c, .int .u32 n] 32)) (.cells #[.int .u32 0, .int .u32 0, .int .u64 0, .int .u32 0, .int .u64 0, .int .u32 0, .int .u8 0, .bool false] 37)
  have m4 := (Mod.refl (W.alloc (.cells #[.int .u32 c, .int .u32 n] 32)) []).alloc (.cells #[.int .u32 0, .int .u32 0, .int .u64 0, .int .u32 0, .int .u64 0, .int .u32 0, .int .u8 0, .bool false] 37)
  rw [hs3] at b4
  unfold keyV encV at *
  go_enter Try.func20, Try.ntmps20
  go_upto_region 3 with fail
  generalize W.alloc (.cells #[.int .u32 c, .int .u32 n] 32) = W3 at *
  generalize hg3 : W.heap.size = g3 at *
  generalize W3.alloc _ = W4 at *
  have m34 := m3.trans m4 (fun _ hk => by cases hk)
  have hS : ∀ W', Mod W4 W' [] → W'.cell? ⟨p, 0, none⟩ = some (.map (some b)) ∧ W'.cell? ⟨g3, 0, none⟩ = some (.int .u32 c) ∧ W'.cell? ⟨g3, 1, none⟩ = some (.int .u32 n) ∧ 
     (Instr.lookup 83 (.map (some b)) (.agg #[.int .u32 c, .int .u32 n]) true).run Try.prog W' = .ok (.tuple #[.agg #[.int .u32 v.f0.f0, .int .u32 v.f0.f1, .int .u64 v.f1.f0, .int .u32 v.f1.f1, .int .u64 v.f2.f0, .int .u32 v.f2.f1, .int .u8 v.f3, .bool v.f4], .bool ok]) W' ∧ Hid (W'.heap[g3 + 1]? = some (.cells #[.int .u32 0, .int .u32 0, .int .u64 0, .int .u32 0, .int .u64 0, .int .u32 0, .int .u8 0, .bool false] 37)) := fun W' m => by
    have M := m34.trans m (fun _ hk => by cases hk)
    exact ⟨(blk_cell (M.at_ h.hp (by simp)) 0).trans rfl, (blk_cell (m.at_ (m4.at_ b3 (by simp)) (by simp)) 0).trans rfl, (blk_cell (m.at_ (m4.at_ b3 (by simp)) (by simp)) 1).trans rfl, hl M rfl, Lib.hid (m.at_ b4 (by simp))⟩
  have HS := Lib.hid hS
  clear hS
  go_region_held3 (fun W' => W'.cell? ⟨p, 0, none⟩ = some (.map (some b)) ∧ W'.cell? ⟨g3, 0, none⟩ = some (.int .u32 c) ∧ W'.cell? ⟨g3, 1, none⟩ = some (.int .u32 n) ∧ 
     (Instr.lookup 83 (.map (some b)) (.agg #[.int .u32 c, .int .u32 n]) true).run Try.prog W' = .ok (.tuple #[.agg #[.int .u32 v.f0.f0, .int .u32 v.f0.f1, .int .u64 v.f1.f0, .int .u32 v.f1.f1, .int .u64 v.f2.f0, .int .u32 v.f2.f1, .int .u8 v.f3, .bool v.f4], .bool ok]) W' ∧ Hid (W'.heap[g3 + 1]? = some (.cells #[.int .u32 0, .int .u32 0, .int .u64 0, .int .u32 0, .int .u64 0, .int .u32 0, .int .u8 0, .bool false] 37)))
   (first | exact HS.out _ (Mod.refl _ _).drew | exact HS.out _ ((Mod.refl _ _).alloc _).drew) (fail)
  all_goals
    have M5 : Mod W4 (W4.alloc (.cells #[.int .u32 v.f0.f0, .int .u32 v.f0.f1, .int .u64 v.f1.f0, .int .u32 v.f1.f1, .int .u64 v.f2.f0, .int .u32 v.f2.f1, .int .u8 v.f3, .bool v.f4] 37)).drew [] := ((Mod.refl _ _).alloc _).drew
    have B6 : BV (W4.alloc (.cells #[.int .u32 v.f0.f0, .int .u32 v.f0.f1, .int .u64 v.f1.f0, .int .u32 v.f1.f1, .int .u64 v.f2.f0, .int .u32 v.f2.f1, .int .u8 v.f3, .bool v.f4] 37)).drew W4.heap.size v := blk_new W4 _
    generalize (W4.alloc (.cells #[.int .u32 v.f0.f0, .int .u32 v.f0.f1, .int .u64 v.f1.f0, .int .u32 v.f1.f1, .int .u64 v.f2.f0, .int .u32 v.f2.f1, .int .u8 v.f3, .bool v.f4] 37)).drew = W5 at *
    have B5 : BV W5 (g3 + 1) z37 := M5.at_ b4 (by simp)
    obtain ⟨e0, e1, e2, e3, e4, e5, e6, e7⟩ := B5.all
    obtain ⟨f0, f1, f2, f3, f4, f5, f6, f7⟩ := B6.all
    have fz := blk_frozen B5
    simp only [z37, z32, z35] at e0 e1 e2 e3 e4 e5 e6 e7
    have M6 : Mod W W5 [] := m34.trans M5 (fun _ hk => by cases hk)
    have hge : W.heap.size ≤ g3 + 1 := by omega
    clear HS hl h
    go_wp2
  all_goals
    refine bodyPost_ret (results_ct rfl _ _ (g3 + 1) 37 _ (0, 0) _ rfl (B5.put8 v) Try.underlying37 rfl (by kernel_rfl)) rfl ?_
    exact ⟨rfl, M6.put8 (.inr hge) v⟩
/-- a verdict in the call's box, and nothing that lay has turned -/
def St (W : World) (g : Nat) (v : S37) (V : World) : Prop := BV V g v ∧ Mod W V [] ∧ W.heap.size ≤ g
theorem St.step {W V V' : World} {g : Nat} {v : S37} (h : St W g v V) (m : Mod V V' []) : Hid (St W g v V') := Lib.hid ⟨h.1.mod m (by simp), h.2.1.trans m (fun _ hk => by cases hk), h.2.2⟩
def badB (v : S37) : Bool := !rightB v.f1.f0 v.f1.f1 || !rightB v.f2.f0 v.f2.f1 || (!commB v && (!(v.f3 == 0) || v.f4))
set_option maxHeartbeats 4000000 in
set_option maxRecDepth 100000 in
theorem set_nil (W : World) (p : Option Addr) (v : S37)  : Calls Try.prog 14 #[.pointer none, encV v] W fun e W' => e = .returned (.int .i64 1) ∧ Mod W W' [] := by
  have s0 : W.heap.size < (W.alloc (.cells #[.int .u32 v.f0.f0, .int .u32 v.f0.f1, .int .u64 v.f1.f0, .int .u32 v.f1.f1, .int .u64 v.f2.f0, .int .u32 v.f2.f1, .int .u8 v.f3, .bool v.f4] 37)).heap.size := by simp
  have H0 : Hid (St W W.heap.size v (W.alloc (.cells #[.int .u32 v.f0.f0, .int .u32 v.f0.f1, .int .u64 v.f1.f0, .int .u32 v.f1.f1, .int .u64 v.f2.f0, .int .u32 v.f2.f1, .int .u8 v.f3, .bool v.f4] 37))) := Lib.hid ⟨blk_new W _, (Mod.refl W []).alloc _, Nat.le_refl _⟩
  unfold encV at *
  go_enter Try.func14, Try.ntmps14
  go_upto_region 1 with fail
  generalize W.alloc (.cells #[.int .u32 v.f0.f0, .int .u32 v.f0.f1, .int .u64 v.f1.f0, .int .u32 v.f1.f1, .int .u64 v.f2.f0, .int .u32 v.f2.f1, .int .u8 v.f3, .bool v.f4] 37) = V0 at *
  generalize hg : W.heap.size = g at *
  obtain ⟨c0, c1, c2, c3, c4, c5, c6, c7⟩ := H0.out.1.all
  go_wp2_with (first
    | fail)
  all_goals (go_ret; exact ⟨rfl, H0.out.2.1⟩)
set_option maxHeartbeats 4000000 in
set_option maxRecDepth 100000 in
theorem set_bad1 (W : World) (p : Addr) (v : S37) (r1 : rightB v.f1.f0 v.f1.f1 = false) : Calls Try.prog 14 #[.pointer (some p), encV v] W fun e W' => e = .returned (.int .i64 1) ∧ Mod W W' [] := by
  have s0 : W.heap.size < (W.alloc (.cells #[.int .u32 v.f0.f0, .int .u32 v.f0.f1, .int .u64 v.f1.f0, .int .u32 v.f1.f1, .int .u64 v.f2.f0, .int .u32 v.f2.f1, .int .u8 v.f3, .bool v.f4] 37)).heap.size := by simp
  have H0 : Hid (St W W.heap.size v (W.alloc (.cells #[.int .u32 v.f0.f0, .int .u32 v.f0.f1, .int .u64 v.f1.f0, .int .u32 v.f1.f1, .int .u64 v.f2.f0, .int .u32 v.f2.f1, .int .u8 v.f3, .bool v.f4] 37))) := Lib.hid ⟨blk_new W _, (Mod.refl W []).alloc _, Nat.le_refl _⟩
  unfold encV at *
  go_enter Try.func14, Try.ntmps14
  go_upto_region 1 with fail
  generalize W.alloc (.cells #[.int .u32 v.f0.f0, .int .u32 v.f0.f1, .int .u64 v.f1.f0, .int .u32 v.f1.f1, .int .u64 v.f2.f0, .int .u32 v.f2.f1, .int .u8 v.f3, .bool v.f4] 37) = V0 at *
  generalize hg : W.heap.size = g at *
  obtain ⟨c0, c1, c2, c3, c4, c5, c6, c7⟩ := H0.out.1.all
  go_wp2_with (first
    | (go_at_call 42; have K1 := H0; clear H0; refine (right_calls _ _ _).mono ?_; rintro e V1 ⟨rfl, m1⟩; rw [r1]; have H1 := K1.out.step m1; obtain ⟨c0, c1, c2, c3, c4, c5, c6, c7⟩ := H1.out.1.all; clear K1 m1))
  all_goals (go_ret; exact ⟨rfl, H1.out.2.1⟩)
set_option maxHeartbeats 4000000 in
set_option maxRecDepth 100000 in
theorem set_bad2 (W : World) (p : Addr) (v : S37) (r1 : rightB v.f1.f0 v.f1.f1 = true) (r2 : rightB v.f2.f0 v.f2.f1 = false) : Calls Try.prog 14 #[.pointer (some p), encV v] W fun e W' => e = .returned (.int .i64 1) ∧ Mod W W' [] := by
  have s0 : W.heap.size < (W.alloc (.cells #[.int .u32 v.f0.f0, .int .u32 v.f0.f1, .int .u64 v.f1.f0, .int .u32 v.f1.f1, .int .u64 v.f2.f0, .int .u32 v.f2.f1, .int .u8 v.f3, .bool v.f4] 37)).heap.size := by simp
  have H0 : Hid (St W W.heap.size v (W.alloc (.cells #[.int .u32 v.f0.f0, .int .u32 v.f0.f1, .int .u64 v.f1.f0, .int .u32 v.f1.f1, .int .u64 v.f2.f0, .int .u32 v.f2.f1, .int .u8 v.f3, .bool v.f4] 37))) := Lib.hid ⟨blk_new W _, (Mod.refl W []).alloc _, Nat.le_refl _⟩
  unfold encV at *
  go_enter Try.func14, Try.ntmps14
  go_upto_region 1 with fail
  generalize W.alloc (.cells #[.int .u32 v.f0.f0, .int .u32 v.f0.f1, .int .u64 v.f1.f0, .int .u32 v.f1.f1, .int .u64 v.f2.f0, .int .u32 v.f2.f1, .int .u8 v.f3, .bool v.f4] 37) = V0 at *
  generalize hg : W.heap.size = g at *
  obtain ⟨c0, c1, c2, c3, c4, c5, c6, c7⟩ := H0.out.1.all
  go_wp2_with (first
    | (go_at_call 42; have K1 := H0; clear H0; refine (right_calls _ _ _).mono ?_; rintro e V1 ⟨rfl, m1⟩; rw [r1]; have H1 := K1.out.step m1; obtain ⟨c0, c1, c2, c3, c4, c5, c6, c7⟩ := H1.out.1.all; clear K1 m1)
    | (go_at_call 42; have K2 := H1; clear H1; refine (right_calls _ _ _).mono ?_; rintro e V2 ⟨rfl, m2⟩; rw [r2]; have H2 := K2.out.step m2; obtain ⟨c0, c1, c2, c3, c4, c5, c6, c7⟩ := H2.out.1.all; clear K2 m2))
  all_goals (go_ret; exact ⟨rfl, H2.out.2.1⟩)
set_option maxHeartbeats 4000000 in
set_option maxRecDepth 100000 in
theorem set_bad3 (W : World) (p : Addr) (v : S37) (r1 : rightB v.f1.f0 v.f1.f1 = true) (r2 : rightB v.f2.f0 v.f2.f1 = true) (r3 : commB v = false) (hp : ¬ v.f3 = 0) : Calls Try.prog 14 #[.pointer (some p), encV v] W fun e W' => e = .returned (.int .i64 1) ∧ Mod W W' [] := by
  have s0 : W.heap.size < (W.alloc (.cells #[.int .u32 v.f0.f0, .int .u32 v.f0.f1, .int .u64 v.f1.f0, .int .u32 v.f1.f1, .int .u64 v.f2.f0, .int .u32 v.f2.f1, .int .u8 v.f3, .bool v.f4] 37)).heap.size := by simp
  have H0 : Hid (St W W.heap.size v (W.alloc (.cells #[.int .u32 v.f0.f0, .int .u32 v.f0.f1, .int .u64 v.f1.f0, .int .u32 v.f1.f1, .int .u64 v.f2.f0, .int .u32 v.f2.f1, .int .u8 v.f3, .bool v.f4] 37))) := Lib.hid ⟨blk_new W _, (Mod.refl W []).alloc _, Nat.le_refl _⟩
  unfold encV at *
  go_enter Try.func14, Try.ntmps14
  go_upto_region 1 with fail
  generalize W.alloc (.cells #[.int .u32 v.f0.f0, .int .u32 v.f0.f1, .int .u64 v.f1.f0, .int .u32 v.f1.f1, .int .u64 v.f2.f0, .int .u32 v.f2.f1, .int .u8 v.f3, .bool v.f4] 37) = V0 at *
  generalize hg : W.heap.size = g at *
  obtain ⟨c0, c1, c2, c3, c4, c5, c6, c7⟩ := H0.out.1.all
  go_wp2_with (first
    | (go_at_call 42; have K1 := H0; clear H0; refine (right_calls _ _ _).mono ?_; rintro e V1 ⟨rfl, m1⟩; rw [r1]; have H1 := K1.out.step m1; obtain ⟨c0, c1, c2, c3, c4, c5, c6, c7⟩ := H1.out.1.all; clear K1 m1)
    | (go_at_call 42; have K2 := H1; clear H1; refine (right_calls _ _ _).mono ?_; rintro e V2 ⟨rfl, m2⟩; rw [r2]; have H2 := K2.out.step m2; obtain ⟨c0, c1, c2, c3, c4, c5, c6, c7⟩ := H2.out.1.all; clear K2 m2)
    | (go_at_call 43; have K3 := H2; clear H2; refine (comm_calls v _).mono ?_; rintro e V3 ⟨rfl, m3⟩; rw [r3]; have H3 := K3.out.step m3; obtain ⟨c0, c1, c2, c3, c4, c5, c6, c7⟩ := H3.out.1.all; clear K3 m3))
  all_goals (go_ret; exact ⟨rfl, H3.out.2.1⟩)
set_option maxHeartbeats 4000000 in
set_option maxRecDepth 100000 in
theorem set_bad4 (W : World) (p : Addr) (v : S37) (r1 : rightB v.f1.f0 v.f1.f1 = true) (r2 : rightB v.f2.f0 v.f2.f1 = true) (r3 : commB v = false) (hp : Hid (v.f3 = 0)) (hd : Hid (v.f4 = true)) : Calls Try.prog 14 #[.pointer (some p), encV v] W fun e W' => e = .returned (.int .i64 1) ∧ Mod W W' [] := by
  have s0 : W.heap.size < (W.alloc (.cells #[.int .u32 v.f0.f0, .int .u32 v.f0.f1, .int .u64 v.f1.f0, .int .u32 v.f1.f1, .int .u64 v.f2.f0, .int .u32 v.f2.f1, .int .u8 v.f3, .bool v.f4] 37)).heap.size := by simp
  have H0 : Hid (St W W.heap.size v (W.alloc (.cells #[.int .u32 v.f0.f0, .int .u32 v.f0.f1, .int .u64 v.f1.f0, .int .u32 v.f1.f1, .int .u64 v.f2.f0, .int .u32 v.f2.f1, .int .u8 v.f3, .bool v.f4] 37))) := Lib.hid ⟨blk_new W _, (Mod.refl W []).alloc _, Nat.le_refl _⟩
  unfold encV at *
  go_enter Try.func14, Try.ntmps14
  go_upto_region 1 with fail
  generalize W.alloc (.cells #[.int .u32 v.f0.f0, .int .u32 v.f0.f1, .int .u64 v.f1.f0, .int .u32 v.f1.f1, .int .u64 v.f2.f0, .int .u32 v.f2.f1, .int .u8 v.f3, .bool v.f4] 37) = V0 at *
  generalize hg : W.heap.size = g at *
  obtain ⟨c0, c1, c2, c3, c4, c5, c6, c7⟩ := H0.out.1.all
  go_wp2_with (first
    | (go_at_call 42; have K1 := H0; clear H0; refine (right_calls _ _ _).mono ?_; rintro e V1 ⟨rfl, m1⟩; rw [r1]; have H1 := K1.out.step m1; obtain ⟨c0, c1, c2, c3, c4, c5, c6, c7⟩ := H1.out.1.all; clear K1 m1)
    | (go_at_call 42; have K2 := H1; clear H1; refine (right_calls _ _ _).mono ?_; rintro e V2 ⟨rfl, m2⟩; rw [r2]; have H2 := K2.out.step m2; obtain ⟨c0, c1, c2, c3, c4, c5, c6, c7⟩ := H2.out.1.all; clear K2 m2)
    | (go_at_call 43; have K3 := H2; clear H2; refine (comm_calls v _).mono ?_; rintro e V3 ⟨rfl, m3⟩; rw [r3]; have H3 := K3.out.step m3; obtain ⟨c0, c1, c2, c3, c4, c5, c6, c7⟩ := H3.out.1.all; clear K3 m3; have hp := hp.out; have hd := hd.out))
  all_goals (go_ret; exact ⟨rfl, H3.out.2.1⟩)
end Go.Proofs.Ytdelbidaclddgaa.Ver
