/- The layer 'verdict': VerD; a seat's own text, no law of its own. -/
import Derived.Test.YtdelbidaclddgaaVerC
import Derived.Deep.LoopGhost
import Derived.Deep.Cut
import Derived.Lib.Hide
import Derived.StillTailTactics
import Derived.Deep.QuietTactic
import Derived.BigQuiet
import Derived.Outline
import Derived.Deep.RegionWith
import Derived.Deep.RegionHeld3
import Derived.WalkLawsBesides
namespace Go.Proofs.Ytdelbidaclddgaa.Ver
open Go.RowKit Go.Proofs.YtdelbidaclddgaaW.PrintWords Go.Proofs.Ytdelbidaclddgaa.MVerdictRuns Go.Proofs.YtdelbidaclddgaaW.PrintLast
set_option linter.unusedVariables false
set_option linter.unusedSimpArgs false
theorem find_key {c n : Int} {L : List S37} {v : S37} (h : findV c n L = some v) : v.f0.f0 = c ∧ v.f0.f1 = n ∧ v ∈ L := by
  unfold findV vfind at h
  have h1 := List.find?_some h
  have h1 : kcV v = c ∧ knV v = n := by simpa using h1
  exact ⟨h1.1, h1.2, List.mem_of_find?_eq_some h⟩
/-- what Done tells, and what is left of the list -/
def doneR (L : List S37) (c n : Int) : Bool × List S37 := match findV c n L with
  | none => (false, L)
  | some v => if commB v = true then (true, setV { v with f4 := true } L) else (false, L)
def DoneP (W : World) (p b m : Nat) (r : Bool × List S37) (e : Ending) (W' : World) : Prop := e = .returned (.bool r.1) ∧ Book W' p b (m + 1) r.2 ∧ Mod W W' [b]
theorem DoneP.no {W W' : World} {p b m : Nat} {L : List S37} (h : Book W' p b m L) (m1 : Mod W W' []) : DoneP W p b m (false, L) (.returned (.bool false)) W' :=
  ⟨rfl, h.mono (by omega), m1.mono (fun _ hk => by cases hk)⟩
set_option maxHeartbeats 4000000 in
set_option maxRecDepth 100000 in
theorem done_calls {W : World} {p b m : Nat} {L : List S37} (h : Book W p b m L) (hm : m < maxLen) {c n : Int} (hk : inK c n) :
    Calls Try.prog 16 #[.pointer (some ⟨p, 0, none⟩), keyV c n] W (DoneP W p b m (doneR L c n)) := by
  have hp := h.lt
  have hbl := h.ltb
  have B3 := blk_new W (.cells #[.int .u32 c, .int .u32 n] 32)
  have M3 := (Mod.refl W []).alloc (.cells #[.int .u32 c, .int .u32 n] 32)
  unfold keyV at *
  go_enter Try.func16, Try.ntmps16
  go_upto_region 1 with fail
  generalize W.alloc (.cells #[.int .u32 c, .int .u32 n] 32) = W3 at *
  generalize hg : W.heap.size = g at *
  have c0 : W3.cell? ⟨g, 0, none⟩ = some (.int .u32 c) := (blk_cell B3 0).trans rfl
  have c1 : W3.cell? ⟨g, 1, none⟩ = some (.int .u32 n) := (blk_cell B3 1).trans rfl
  have HB3 := Lib.hid (h.mod M3 (by simp) (by simp))
  clear h
  obtain ⟨o, ok, hf⟩ : ∃ o ok, doneR L c n = (if ok = true then (if commB o = true then (true, setV { o with f4 := true } L) else (false, L)) else (false, L)) ∧ (findV c n L).getD z37 = o ∧ (findV c n L).isSome = ok ∧ (ok = true → findV c n L = some o) := by
    unfold doneR
    cases findV c n L with
    | none => exact ⟨z37, false, rfl, rfl, rfl, fun h => by cases h⟩
    | some o => exact ⟨o, true, rfl, rfl, rfl, fun _ => rfl⟩
  have HF := Lib.hid hf
  clear hf
  have hof := of_calls HB3.out hk
  rw [HF.out.2.1, HF.out.2.2.1] at hof
  unfold keyV encV at hof
  go_upto_region 2 with (first
    | (go_at_call 20; refine hof.mono ?_; rintro e V1 ⟨rfl, m1⟩; have HB4 := Lib.hid (HB3.out.mod m1 (by simp) (by simp)); have B4 := m1.at_ B3 (by simp); have M4 := M3.trans m1 (fun _ hk => by cases hk); clear m1))
  have B5 : BV (V1.alloc (.cells #[.int .u32 o.f0.f0, .int .u32 o.f0.f1, .int .u64 o.f1.f0, .int .u32 o.f1.f1, .int .u64 o.f2.f0, .int .u32 o.f2.f1, .int .u8 o.f3, .bool o.f4] 37)) V1.heap.size o := blk_new V1 _
  have m5 := (Mod.refl V1 []).alloc (.cells #[.int .u32 o.f0.f0, .int .u32 o.f0.f1, .int .u64 o.f1.f0, .int .u32 o.f1.f1, .int .u64 o.f2.f0, .int .u32 o.f2.f1, .int .u8 o.f3, .bool o.f4] 37)
  have hgl : g < V1.heap.size := blk_lt B4
  generalize (V1.alloc (.cells #[.int .u32 o.f0.f0, .int .u32 o.f0.f1, .int .u64 o.f1.f0, .int .u32 o.f1.f1, .int .u64 o.f2.f0, .int .u32 o.f2.f1, .int .u8 o.f3, .bool o.f4] 37)) = V2 at *
  generalize hg5 : V1.heap.size = g5 at *
  have HB5 := Lib.hid (HB4.out.mod m5 (by simp) (by simp))
  have HK5 := Lib.hid (m5.at_ B4 (by simp))
  have HM5 := Lib.hid (M4.trans m5 (fun _ hk => by cases hk))
  clear hof B4 M4 m5
  cases ok
  · go_wp2
    go_ret
    rw [show doneR L c n = (false, L) from HF.out.1]
    exact DoneP.no HB5.out HM5.out
  · have hdn : Hid (doneR L c n = if commB o = true then (true, setV { o with f4 := true } L) else (false, L)) := Lib.hid HF.out.1
    have HB5' := Lib.hid B5
    obtain ⟨e0, e1, e2, e3, e4, e5, e6, e7⟩ := B5.all
    generalize hq : commB o = q at *
    cases q
    · go_wp2_with (first
        | (go_at_call 43; refine (comm_calls o _).mono ?_; rintro e V4 ⟨rfl, m4⟩; rw [hq]; have HB6 := Lib.hid (HB5.out.mod m4 (by simp) (by simp)); have HM6 := Lib.hid (HM5.out.trans m4 (fun _ hk => by cases hk)); clear m4))
      go_ret
      rw [show doneR L c n = (false, L) from hdn.out]
      exact DoneP.no HB6.out HM6.out
    · have hon : o.f0.f0 = c ∧ o.f0.f1 = n ∧ o ∈ L := find_key (HF.out.2.2.2 rfl)
      have HON := Lib.hid hon
      clear hon
      go_upto_region 4 with (first
        | (go_at_call 43; refine (comm_calls o _).mono ?_; rintro e V4 ⟨rfl, m4⟩; rw [hq]; have HB6 := Lib.hid (HB5.out.mod m4 (by simp) (by simp)); have HM6 := Lib.hid (HM5.out.trans m4 (fun _ hk => by cases hk)); have HV6 := Lib.hid (HB5'.out.mod m4 (by simp)); have HK6 := Lib.hid (m4.at_ HK5.out (by simp)); clear m4))
      clear e0 e1 e2 e3 e4 e5 e6 e7
      obtain ⟨e0, e1, e2, e3, e4, e5, e6, e7⟩ := HV6.out.all
      have hfz := blk_frozen HV6.out 7
      go_upto_region 5 with fail
      clear e0 e1 e2 e3 e4 e5 e6 e7 hfz
      have hg5b : g5 ≠ b := by omega
      have hg5p : g5 ≠ p := by omega
      have hg5g : g5 ≠ g := by omega
      have M8 : Mod V4 (V4.setCell ⟨g5, 7, none⟩ (.bool true)) [g5] := (Mod.refl V4 [g5]).setCell (p := ⟨g5, 7, none⟩) (.inl (by simp)) _
      have HB8 := Lib.hid (HB6.out.mod M8 (by simpa using hg5p.symm) (by simpa using hg5b.symm))
      have HK8 := Lib.hid (M8.at_ HK6.out (by simpa using hg5g.symm))
      have HO8 : Hid (BV (V4.setCell ⟨g5, 7, none⟩ (.bool true)) g5 { o with f4 := true }) := Lib.hid (blk_put HV6.out 7 _ rfl)
      have HM8 := Lib.hid ((HM6.out).trans M8 (fun k hk => by simp at hk; subst hk; omega) : Mod W (V4.setCell ⟨g5, 7, none⟩ (.bool true)) [])
      generalize V4.setCell ⟨g5, 7, none⟩ (.bool true) = V8 at *
      clear M8 B5
      have hbp : p ≠ b := HB8.out.ne
      have hgb : g ≠ b := by omega
      have HS8 : Hid (∀ X, Mod V8 X [b] → X.cell? ⟨p, 0, none⟩ = some (.map (some b)) ∧ X.cell? ⟨g, 0, none⟩ = some (.int .u32 c) ∧ X.cell? ⟨g, 1, none⟩ = some (.int .u32 n) ∧ X.cell? ⟨g5, 0, none⟩ = some (.int .u32 o.f0.f0) ∧ X.cell? ⟨g5, 1, none⟩ = some (.int .u32 o.f0.f1) ∧ X.cell? ⟨g5, 2, none⟩ = some (.int .u64 o.f1.f0) ∧ X.cell? ⟨g5, 3, none⟩ = some (.int .u32 o.f1.f1) ∧ X.cell? ⟨g5, 4, none⟩ = some (.int .u64 o.f2.f0) ∧ X.cell? ⟨g5, 5, none⟩ = some (.int .u32 o.f2.f1) ∧ X.cell? ⟨g5, 6, none⟩ = some (.int .u8 o.f3) ∧ X.cell? ⟨g5, 7, none⟩ = some (.bool true)) := Lib.hid (fun X m => ⟨(blk_cell (m.at_ HB8.out.hp (by simpa using hbp)) 0).trans rfl, (blk_cell (m.at_ HK8.out (by simpa using hgb)) 0).trans rfl, (blk_cell (m.at_ HK8.out (by simpa using hgb)) 1).trans rfl, (HO8.out.mod m (by simpa using hg5b)).all⟩)
      obtain ⟨W9, hrun, hown, hgr⟩ := (HB8.out.mod ((Mod.refl V8 []).drew) (by simp) (by simp)).hm.update law32 Try.underlying83 hm (key_of hk) (RV_enc { o with f4 := true })
      have HM9 : Hid (Mod V8 W9 [b]) := Lib.hid (mod_grown (Mod.refl V8 [b]).drew hgr (fun y hy => by cases hy; simp))
      have HO9 := Lib.hid hown
      unfold keyV encV at hrun
      simp only at hrun
      clear hgr hown
      go_region_held3 (fun X => X.cell? ⟨p, 0, none⟩ = some (.map (some b)) ∧ X.cell? ⟨g, 0, none⟩ = some (.int .u32 c) ∧ X.cell? ⟨g, 1, none⟩ = some (.int .u32 n) ∧ X.cell? ⟨g5, 0, none⟩ = some (.int .u32 o.f0.f0) ∧ X.cell? ⟨g5, 1, none⟩ = some (.int .u32 o.f0.f1) ∧ X.cell? ⟨g5, 2, none⟩ = some (.int .u64 o.f1.f0) ∧ X.cell? ⟨g5, 3, none⟩ = some (.int .u32 o.f1.f1) ∧ X.cell? ⟨g5, 4, none⟩ = some (.int .u64 o.f2.f0) ∧ X.cell? ⟨g5, 5, none⟩ = some (.int .u32 o.f2.f1) ∧ X.cell? ⟨g5, 6, none⟩ = some (.int .u8 o.f3) ∧ X.cell? ⟨g5, 7, none⟩ = some (.bool true)) (first | exact HS8.out _ (Mod.refl _ _).drew | exact HS8.out _ HM9.out) (fail)
      go_wp2
      go_ret
      have hro : Rng kcV knV ({ o with f4 := true } : S37) := HB8.out.rgs o HON.out.2.2
      have hb7 : (BD L).put (klit c n) (gV { o with f4 := true }) = BD (setV { o with f4 := true } L) := by
        have := map_put (g := gV) ({ o with f4 := true } : S37) hro L HB8.out.rgs HB8.out.ord
        rw [← HON.out.1, ← HON.out.2.1]
        exact this
      rw [show doneR L c n = (true, setV { o with f4 := true } L) from hdn.out]
      refine ⟨rfl, ⟨HM9.out.at_ HB8.out.hp (by simpa using hbp), hb7 ▸ HO9.out, vset_ord _ HB8.out.ord, vset_rgs hro HB8.out.rgs⟩, ?_⟩
      exact (HM8.out.mono (fun _ hk => by cases hk)).trans HM9.out (fun k hk => .inl hk)
end Go.Proofs.Ytdelbidaclddgaa.Ver
