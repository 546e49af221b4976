/- The layer 'verdict': VerF; a seat's own text, no law of its own. -/
import Derived.Test.YtdelbidaclddgaaVerE
import Derived.Deep.LoopGhost
import Derived.Deep.Cut
import Derived.Lib.Hide
import Derived.StillTailTactics
import Derived.Deep.QuietTactic
import Derived.BigQuiet
import Derived.Outline
import Derived.Deep.RegionWith
import Derived.Deep.RegionHeld3
import Derived.WalkLawsBesides
namespace Go.Proofs.Ytdelbidaclddgaa.Ver
open Go.RowKit Go.Proofs.YtdelbidaclddgaaW.PrintWords Go.Proofs.Ytdelbidaclddgaa.MVerdictRuns Go.Proofs.YtdelbidaclddgaaW.PrintLast
set_option linter.unusedVariables false
set_option linter.unusedSimpArgs false
/-! maps.DeleteFunc at the book's map -/
noncomputable def pdD (pd : S37 → Bool) : Lit → DataW Unit → Bool := fun _ d => @decide (∃ v, d = gV v ∧ pd v = true) (Classical.propDecidable _)
theorem pdD_g (pd : S37 → Bool) (kl : Lit) (v : S37) : pdD pd kl (gV v) = pd v := by
  unfold pdD
  cases h : pd v
  · refine @decide_eq_false _ (Classical.propDecidable _) ?_
    rintro ⟨u, h1, h2⟩
    rw [← gV_inj h1, h] at h2
    cases h2
  · exact @decide_eq_true _ (Classical.propDecidable _) ⟨v, rfl, h⟩
theorem del_list (pd : S37 → Bool) (L : List S37) : Lib.deleteFuncD (pdD pd) (BD L) = BD (L.filter fun v => !pd v) := by
  rw [map_filter]
  congr 1
  exact List.filter_congr fun v _ => by rw [pdD_g]
theorem fk_at {pd : S37 → Bool} {L : List S37} (hR : RgsV L) {left : Lit → Bool} {c n : Int} (hk : inK c n) {v : S37}
    (hat : ∀ zd, (Maps.Fk (pdD pd) (L.map fun v => (klit (kcV v) (knV v), gV v)) left).atKey (klit c n) zd = gV v) : v ∈ L ∧ v.f0.f0 = c ∧ v.f0.f1 = n := by
  obtain ⟨h1, h2, h3, h4⟩ := hk
  have h := hat .nil
  unfold Maps.Fk DataW.atKey at h
  simp only at h
  split at h
  · rename_i p hp
    have hm := List.mem_of_find?_eq_some hp
    have hs := List.find?_some hp
    obtain ⟨u, hu, rfl⟩ := List.mem_map.1 (List.mem_filter.1 hm).1
    have e := gV_inj h
    subst e
    obtain ⟨r1, r2, r3, r4⟩ := hR u hu
    have hs : (klit (kcV u) (knV u)).sameKey (klit c n) = true := hs
    rw [klit_same r1 r2 r3 r4 h1 h2 h3 h4] at hs
    have := of_decide_eq_true hs
    exact ⟨hu, this.1, this.2⟩
  · unfold gV at h; cases h
theorem grown_of_mod {W V : World} (m : Mod W V []) : W.grownBy V none := ⟨m.os, m.tape, m.output, m.size, fun i hi _ => m.block i hi (by simp)⟩
set_option maxHeartbeats 4000000 in
set_option maxRecDepth 100000 in
theorem del_calls {W : World} {b m : Nat} {L : List S37} (hown : W.ownsMap Try.prog 32 RV b m (BD L)) (hR : RgsV L) (pd : S37 → Bool) (x1 x2 : Value)
    (hdel : ∀ (V : World) (v : S37), Mod W V [b] → Calls Try.prog 48 #[keyV v.f0.f0 v.f0.f1, encV v, x1, x2] V fun e V' => e = .returned (.bool (pd v)) ∧ Mod V V' []) :
    Calls Try.prog 47 #[.map (some b), .func (.func 48) #[] #[x1, x2]] W fun e W' => e = .returned (.tuple #[]) ∧ W'.ownsMap Try.prog 32 RV b m (BD (L.filter fun v => !pd v)) ∧ Mod W W' [b] := by
  obtain ⟨es0, he0, hap, hkeys⟩ := hown.entries law32
  obtain rfl : L.map (fun v => (klit (kcV v) (knV v), gV v)) = es0 := by injection he0
  have HD := Lib.hid hdel
  clear hdel
  go_enter Try.func47, Try.ntmps47
  go_wp2_with (first
    | (at_range; refine wpList_range_own _ rfl _ 83 rfl 32 37 law32 Try.underlying83 RV b m _ rfl hown ?_; intro w0 hrg0 hg0 hs0)
    | fail)
  go_frame
  go_loopw [8] (fun _ wr => ∃ (left : Lit → Bool) (cnt : Nat), wr.ranges Try.prog 32 RV b W.heap.size m (Maps.Fk (pdD pd) (L.map fun v => (klit (kcV v) (knV v), gV v)) left) left cnt ∧ W.grownBy wr (some b))
    (fun _ wr => wr.rangeLeft b W.heap.size)
  case atStart =>
    have e : Maps.Fk (pdD pd) (L.map fun v => (klit (kcV v) (knV v), gV v)) (Maps.has (BD L)) = BD L := Maps.Fk_start hkeys
    refine ⟨Maps.has (BD L), Maps.size (BD L), ?_, hg0.but _⟩
    rw [e]
    exact hrg0
  case round =>
    obtain ⟨left, cnt, hrg, hgw⟩ := hrel
    go_wp2_with (first
      | (at_next; refine wpList_next_ranges _ rfl _ rfl 32 law32 RV (fun x : Int × Int => keyV x.1 x.2) encV (fun key kl hk => by obtain ⟨c, n, rfl, _, _⟩ := key_inv hk; exact ⟨(c, n), rfl⟩) (fun v y hv => by obtain ⟨u, rfl, _⟩ := RV_inv hv; exact ⟨u, rfl⟩) b W.heap.size m _ _ _ rfl hrg ?_ ?_)
      | fail)
    · -- nothing is left
      intro _ hl0
      go_wp2
      go_end0
      exact ⟨rfl, by rw [← del_list]; exact (Maps.Fk_end (pd := pdD pd) hl0 : Maps.Fk (pdD pd) _ left = Lib.deleteFuncD (pdD pd) (BD L)) ▸ hrg.owns, mod_grown (Mod.refl W [b]) hgw (fun y hy => by cases hy; simp)⟩
    · -- an entry has come
      intro c n v kl yd yp w1 cnt1 hkey hlx hv hat hrg1 hlt hg1 hs1 hen
      obtain ⟨c', n', ek, hin, rfl⟩ := key_inv hkey
      obtain ⟨rfl, rfl⟩ : c' = c ∧ n' = n := by
        unfold keyV at ek
        injection ek with ek
        have e1 := congrArg Array.toList ek
        simp at e1
        exact ⟨e1.1.symm, e1.2.symm⟩
      obtain rfl : yd = gV v := (Prod.mk.inj (Option.some.inj ((RV_enc v).symm.trans hv))).1.symm
      obtain ⟨hvL, rfl, rfl⟩ := fk_at hR hin hat
      have hgw1 := hgw.andThen hg1 (fun j hj => by cases hj; exact Or.inl (Nat.le_refl _))
      have hbl := hrg1.owns.lt
      have hrl := hrg1.lt
      clear hs1
      have ma := (Mod.refl w1 []).alloc (.cells #[.int .u32 v.f0.f0, .int .u32 v.f0.f1] 32)
      have mb := ma.alloc (.cells #[.int .u32 v.f0.f0, .int .u32 v.f0.f1, .int .u64 v.f1.f0, .int .u32 v.f1.f1, .int .u64 v.f2.f0, .int .u32 v.f2.f1, .int .u8 v.f3, .bool v.f4] 37)
      have K4 : ((w1.alloc (.cells #[.int .u32 v.f0.f0, .int .u32 v.f0.f1] 32)).alloc (.cells #[.int .u32 v.f0.f0, .int .u32 v.f0.f1, .int .u64 v.f1.f0, .int .u32 v.f1.f1, .int .u64 v.f2.f0, .int .u32 v.f2.f1, .int .u8 v.f3, .bool v.f4] 37)).heap[w1.heap.size]? = some (.cells #[.int .u32 v.f0.f0, .int .u32 v.f0.f1] 32 (0, 0)) := ((Mod.refl (w1.alloc (.cells #[.int .u32 v.f0.f0, .int .u32 v.f0.f1] 32)) []).alloc _).at_ (blk_new w1 _) (by simp)
      unfold keyV encV at hen
      go_upto_region 3 with (fail)
      have hbx : BV ((w1.alloc (.cells #[.int .u32 v.f0.f0, .int .u32 v.f0.f1] 32)).alloc (.cells #[.int .u32 v.f0.f0, .int .u32 v.f0.f1, .int .u64 v.f1.f0, .int .u32 v.f1.f1, .int .u64 v.f2.f0, .int .u32 v.f2.f1, .int .u8 v.f3, .bool v.f4] 37)) (w1.alloc (.cells #[.int .u32 v.f0.f0, .int .u32 v.f0.f1] 32)).heap.size v := blk_new _ _
      have hsz : (w1.alloc (.cells #[.int .u32 v.f0.f0, .int .u32 v.f0.f1] 32)).heap.size = w1.heap.size + 1 := by simp
      rw [hsz] at hbx
      generalize (w1.alloc (.cells #[.int .u32 v.f0.f0, .int .u32 v.f0.f1] 32)).alloc (.cells #[.int .u32 v.f0.f0, .int .u32 v.f0.f1, .int .u64 v.f1.f0, .int .u32 v.f1.f1, .int .u64 v.f2.f0, .int .u32 v.f2.f1, .int .u8 v.f3, .bool v.f4] 37) = V3 at *
      generalize hg4 : w1.heap.size = g4 at *
      have hrg3 := hrg1.kept (grown_of_mod mb) (by simp) (by simp)
      have hgw3 := hgw1.andThen (grown_of_mod mb) (fun j hj => by cases hj)
      have hM3 : Mod W V3 [b] := mod_grown (Mod.refl W [b]) hgw3 (fun y hy => by cases hy; simp)
      have hc := HD.out V3 v hM3
      unfold keyV encV at hc
      have k0 : V3.cell? ⟨g4, 0, none⟩ = some (.int .u32 v.f0.f0) := (blk_cell K4 0).trans rfl
      have k1 : V3.cell? ⟨g4, 1, none⟩ = some (.int .u32 v.f0.f1) := (blk_cell K4 1).trans rfl
      obtain ⟨e0, e1, e2, e3, e4, e5, e6, e7⟩ := hbx.all
      have Hh := Lib.hid (And.intro hgw3 (And.intro hrg3 (And.intro K4 hin)))
      have Hl := Lib.hid (And.intro hlx (And.intro hlt hat))
      have HK := Lib.hid hkeys
      have HA := Lib.hid hap
      clear hgw3 hrg3 K4 hM3 hrg1 hg1 hgw1 hgw ma mb hv hkeys hap hlx hlt hat hown hrg0 hg0 hen
      have Hrg := Lib.hid hrg
      have Hin := Lib.hid hin
      have Hbl := Lib.hid (And.intro hbl hrl)
      clear hrg hin ek hkey hsz hbl hrl hbx
      cases hp : pd v <;> rw [hp] at hc
      · -- it stays
        go_wp2_with (first
          | (go_at_call 48; refine hc.mono ?_; rintro e V4 ⟨rfl, m4⟩))
        have m40 := m4
        obtain ⟨hgw3, hrg3, K4, hin⟩ := Hh.out
        have hrg4 := hrg3.kept (grown_of_mod m4) (by simp) (by simp)
        have hgw4 := hgw3.andThen (grown_of_mod m4) (fun j hj => by cases hj)
        obtain ⟨hlx, hlt, hat⟩ := Hl.out
        go_roundw
        case rel => exact ⟨_, cnt1, by rw [← Maps.Fk_stays HA.out (law32.key (key_of hin)) hlx (by rw [pdD_g]; exact hp) hat]; exact hrg4, hgw4⟩
        case measure => rw [hrg4.left_eq, Hrg.out.left_eq]; exact hlt
      · -- struck
        go_wp2_with (first
          | (go_at_call 48; refine hc.mono ?_; rintro e V4 ⟨rfl, m4⟩; have hrg4 := Hh.out.2.1.kept (grown_of_mod m4) (by simp) (by simp); have k2 : V4.cell? ⟨g4, 0, none⟩ = some (.int .u32 v.f0.f0) := (blk_cell (m4.at_ Hh.out.2.2.1 (by simp)) 0).trans rfl; have k3 : V4.cell? ⟨g4, 1, none⟩ = some (.int .u32 v.f0.f1) := (blk_cell (m4.at_ Hh.out.2.2.1 (by simp)) 1).trans rfl; have HR4 := Lib.hid hrg4; clear hrg4; have M4 := Lib.hid m4; clear m4)
          | (at_delete; refine wpList_delete_ranges _ rfl _ _ 83 32 rfl 37 law32 Try.underlying83 RV b W.heap.size m _ _ _ rfl HR4.out _ _ rfl (key_of Hin.out) ?_; intro w3 cnt3 hrg3 hle hturn; have HE3 := Lib.hid (And.intro hrg3 (And.intro hle hturn)); clear hrg3 hle hturn; go_frame))
        obtain ⟨hgw3, hrg3, K4, hin⟩ := Hh.out
        have hgw4 := hgw3.andThen (grown_of_mod M4.out) (fun j hj => by cases hj)
        obtain ⟨hlx, hlt, hat⟩ := Hl.out
        obtain ⟨hrg5, hle, hturn⟩ := HE3.out
        rw [Maps.strike_twice] at hrg5
        go_roundw
        case rel => exact ⟨_, cnt3, by rw [← Maps.Fk_struck HA.out (law32.key (key_of hin)) hlx (by rw [pdD_g]; exact hp) hat]; exact hrg5, hgw4.andThen hturn.grown (fun j hj => by cases hj; exact Or.inr rfl)⟩
        case measure => rw [hrg5.left_eq, Hrg.out.left_eq]; omega
end Go.Proofs.Ytdelbidaclddgaa.Ver
