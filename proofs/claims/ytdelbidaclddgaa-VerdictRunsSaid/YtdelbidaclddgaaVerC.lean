/- The layer 'verdict': VerC; a seat's own text, no law of its own. -/
import Derived.Test.YtdelbidaclddgaaVerB
import Derived.Deep.LoopGhost
import Derived.Deep.Cut
import Derived.Lib.Hide
import Derived.StillTailTactics
import Derived.Deep.QuietTactic
import Derived.BigQuiet
import Derived.Outline
import Derived.Deep.RegionWith
import Derived.Deep.RegionHeld3
import Derived.WalkLawsBesides
namespace Go.Proofs.Ytdelbidaclddgaa.Ver
open Go.RowKit Go.Proofs.YtdelbidaclddgaaW.PrintWords Go.Proofs.Ytdelbidaclddgaa.MVerdictRuns Go.Proofs.YtdelbidaclddgaaW.PrintLast
set_option linter.unusedVariables false
set_option linter.unusedSimpArgs false
attribute [local go_sem high] eqA32 eqA35 eqA37
def eqVB (x y : S37) : Bool := (x.f0.f0 == y.f0.f0 && (x.f0.f1 == y.f0.f1)) && ((x.f1.f0 == y.f1.f0 && (x.f1.f1 == y.f1.f1)) && ((x.f2.f0 == y.f2.f0 && (x.f2.f1 == y.f2.f1)) && (x.f3 == y.f3 && (x.f4 == y.f4))))
/-- what Set tells, and what is left of the list -/
def setR (L : List S37) (v : S37) : Int × List S37 := if badB v = true then (1, L) else match findV v.f0.f0 v.f0.f1 L with
  | none => (0, setV v L)
  | some o => (if eqVB { o with f4 := v.f4 } v = true then (0, L) else (40, L))
def SetP (W : World) (p b m : Nat) (r : Int × List S37) (e : Ending) (W' : World) : Prop := e = .returned (.int .i64 r.1) ∧ Book W' p b (m + 1) r.2 ∧ Mod W W' [b]
theorem neq37 (x y : S37) (w : World) : (binOp .neq 37 (encV x) (encV y)).run Try.prog w = .ok (.bool !(eqVB x y)) w := by
  unfold encV eqVB
  go_simp
set_option maxHeartbeats 4000000 in
set_option maxRecDepth 100000 in
theorem set_okc {W : World} {p b m : Nat} {L : List S37} (h : Book W p b m L) (hm : m < maxLen) (v : S37) (hr : Rng kcV knV v) (r1 : rightB v.f1.f0 v.f1.f1 = true) (r2 : rightB v.f2.f0 v.f2.f1 = true) (r3 : commB v = true) : Calls Try.prog 14 #[.pointer (some ⟨p, 0, none⟩), encV v] W (SetP W p b m (setR L v)) := by
  have s0 : W.heap.size < (W.alloc (.cells #[.int .u32 v.f0.f0, .int .u32 v.f0.f1, .int .u64 v.f1.f0, .int .u32 v.f1.f1, .int .u64 v.f2.f0, .int .u32 v.f2.f1, .int .u8 v.f3, .bool v.f4] 37)).heap.size := by simp
  have H0 : Hid (St W W.heap.size v (W.alloc (.cells #[.int .u32 v.f0.f0, .int .u32 v.f0.f1, .int .u64 v.f1.f0, .int .u32 v.f1.f1, .int .u64 v.f2.f0, .int .u32 v.f2.f1, .int .u8 v.f3, .bool v.f4] 37))) := Lib.hid ⟨blk_new W _, (Mod.refl W []).alloc _, Nat.le_refl _⟩
  unfold encV at *
  go_enter Try.func14, Try.ntmps14
  go_upto_region 1 with fail
  generalize W.alloc (.cells #[.int .u32 v.f0.f0, .int .u32 v.f0.f1, .int .u64 v.f1.f0, .int .u32 v.f1.f1, .int .u64 v.f2.f0, .int .u32 v.f2.f1, .int .u8 v.f3, .bool v.f4] 37) = V0 at *
  generalize hg : W.heap.size = g at *
  obtain ⟨c0, c1, c2, c3, c4, c5, c6, c7⟩ := H0.out.1.all
  go_upto_region 3 with (first
    | (go_at_call 42; have K1 := H0; clear H0; refine (right_calls _ _ _).mono ?_; rintro e V1 ⟨rfl, m1⟩; rw [r1]; have H1 := K1.out.step m1; obtain ⟨c0, c1, c2, c3, c4, c5, c6, c7⟩ := H1.out.1.all; clear K1 m1)
    | (go_at_call 42; have K2 := H1; clear H1; refine (right_calls _ _ _).mono ?_; rintro e V2 ⟨rfl, m2⟩; rw [r2]; have H2 := K2.out.step m2; obtain ⟨c0, c1, c2, c3, c4, c5, c6, c7⟩ := H2.out.1.all; clear K2 m2)
    | (go_at_call 43; have K3 := H2; clear H2; refine (comm_calls v _).mono ?_; rintro e V3 ⟨rfl, m3⟩; rw [r3]; have H3 := K3.out.step m3; obtain ⟨c0, c1, c2, c3, c4, c5, c6, c7⟩ := H3.out.1.all; clear K3 m3))
  clear c0 c1 c2 c3 c4 c5 c6 c7
  have hbad : badB v = false := by unfold badB; simp [*]
  have hk : inK v.f0.f0 v.f0.f1 := hr
  have HB := Lib.hid (h.mod H3.out.2.1 (by simp) (by simp))
  have hpl := h.lt
  have HBL : Hid (b < W.heap.size) := Lib.hid h.ltb
  rw [hg] at hpl HBL
  have hlook := look_run HB.out hk
  unfold keyV at hlook
  have hset : setR L v = match findV v.f0.f0 v.f0.f1 L with
      | none => (0, setV v L)
      | some o => (if eqVB { o with f4 := v.f4 } v = true then (0, L) else (40, L)) := by unfold setR; rw [hbad]; rfl
  obtain ⟨o, ok, hf⟩ : ∃ o ok, findV v.f0.f0 v.f0.f1 L = (if ok = true then some o else none) ∧ (findV v.f0.f0 v.f0.f1 L).getD z37 = o ∧ (findV v.f0.f0 v.f0.f1 L).isSome = ok := by
    cases findV v.f0.f0 v.f0.f1 L with
    | none => exact ⟨z37, false, rfl, rfl, rfl⟩
    | some o => exact ⟨o, true, rfl, rfl, rfl⟩
  have hSt : ∀ W', Mod V3 W' [] → W'.cell? ⟨p, 0, none⟩ = some (.map (some b)) ∧ W'.cell? ⟨g, 0, none⟩ = some (.int .u32 v.f0.f0) ∧ W'.cell? ⟨g, 1, none⟩ = some (.int .u32 v.f0.f1) ∧ (Instr.lookup 83 (.map (some b)) (.agg #[.int .u32 v.f0.f0, .int .u32 v.f0.f1]) true).run Try.prog W' = .ok (.tuple #[.agg #[.int .u32 o.f0.f0, .int .u32 o.f0.f1, .int .u64 o.f1.f0, .int .u32 o.f1.f1, .int .u64 o.f2.f0, .int .u32 o.f2.f1, .int .u8 o.f3, .bool o.f4], .bool ok]) W' ∧ Hid (BV W' g v) := fun W' m => by
    have hb := HB.out.mod m (by simp) (by simp)
    have hbv := H3.out.1.mod m (by simp)
    have e := look_run hb hk
    rw [hf.2.1, hf.2.2] at e
    obtain ⟨c0, c1, _⟩ := hbv.all
    exact ⟨hb.c0, c0, c1, e, Lib.hid hbv⟩
  have HS := Lib.hid hSt
  have HR : Hid (setR L v = if ok = true then (if eqVB { o with f4 := v.f4 } v = true then (0, L) else (40, L)) else (0, setV v L)) := Lib.hid (by
    rw [hset, hf.1]
    cases ok <;> rfl)
  clear hSt hlook hset hf h hbad
  go_region_held3 (fun W' => W'.cell? ⟨p, 0, none⟩ = some (.map (some b)) ∧ W'.cell? ⟨g, 0, none⟩ = some (.int .u32 v.f0.f0) ∧ W'.cell? ⟨g, 1, none⟩ = some (.int .u32 v.f0.f1) ∧ (Instr.lookup 83 (.map (some b)) (.agg #[.int .u32 v.f0.f0, .int .u32 v.f0.f1]) true).run Try.prog W' = .ok (.tuple #[.agg #[.int .u32 o.f0.f0, .int .u32 o.f0.f1, .int .u64 o.f1.f0, .int .u32 o.f1.f1, .int .u64 o.f2.f0, .int .u32 o.f2.f1, .int .u8 o.f3, .bool o.f4], .bool ok]) W' ∧ Hid (BV W' g v))
   (first | exact HS.out _ (Mod.refl _ _).drew | exact HS.out _ ((Mod.refl _ _).alloc _).drew) (fail)
  all_goals
    have M5 : Mod V3 (V3.alloc (.cells #[.int .u32 o.f0.f0, .int .u32 o.f0.f1, .int .u64 o.f1.f0, .int .u32 o.f1.f1, .int .u64 o.f2.f0, .int .u32 o.f2.f1, .int .u8 o.f3, .bool o.f4] 37)).drew [] := ((Mod.refl _ _).alloc _).drew
    have B6 : BV (V3.alloc (.cells #[.int .u32 o.f0.f0, .int .u32 o.f0.f1, .int .u64 o.f1.f0, .int .u32 o.f1.f1, .int .u64 o.f2.f0, .int .u32 o.f2.f1, .int .u8 o.f3, .bool o.f4] 37)).drew V3.heap.size o := blk_new V3 _
    generalize (V3.alloc (.cells #[.int .u32 o.f0.f0, .int .u32 o.f0.f1, .int .u64 o.f1.f0, .int .u32 o.f1.f1, .int .u64 o.f2.f0, .int .u32 o.f2.f1, .int .u8 o.f3, .bool o.f4] 37)).drew = W5 at *
    generalize hg5 : V3.heap.size = g5 at *
    have hgl : g < g5 := by have := blk_lt H3.out.1; omega
    have HB5 := Lib.hid (HB.out.mod M5 (by simp) (by simp))
    have HV5 := Lib.hid (H3.out.1.mod M5 (by simp))
    have HM5 := Lib.hid (H3.out.2.1.trans M5 (fun _ hk => by cases hk))
    clear HS M5
    cases ok
    · have hbp : p ≠ b := HB5.out.ne
      have hbg : g ≠ b := by have := HBL.out; omega
      have HS5 : Hid (∀ X, Mod W5 X [b] → X.cell? ⟨p, 0, none⟩ = some (.map (some b)) ∧ X.cell? ⟨g, 0, none⟩ = some (.int .u32 v.f0.f0) ∧ X.cell? ⟨g, 1, none⟩ = some (.int .u32 v.f0.f1) ∧ X.cell? ⟨g, 2, none⟩ = some (.int .u64 v.f1.f0) ∧ X.cell? ⟨g, 3, none⟩ = some (.int .u32 v.f1.f1) ∧ X.cell? ⟨g, 4, none⟩ = some (.int .u64 v.f2.f0) ∧ X.cell? ⟨g, 5, none⟩ = some (.int .u32 v.f2.f1) ∧ X.cell? ⟨g, 6, none⟩ = some (.int .u8 v.f3) ∧ X.cell? ⟨g, 7, none⟩ = some (.bool v.f4)) := Lib.hid (fun X m => ⟨(blk_cell (m.at_ HB5.out.hp (by simpa using hbp)) 0).trans rfl, (HV5.out.mod m (by simpa using hbg)).all⟩)
      obtain ⟨W7, hrun, hown, hgr⟩ := (HB5.out.mod ((Mod.refl W5 []).drew) (by simp) (by simp)).hm.update law32 Try.underlying83 hm (key_of hk) (RV_enc v)
      have M7 : Mod W5 W7 [b] := mod_grown (Mod.refl W5 [b]).drew hgr (fun y hy => by cases hy; simp)
      have HM7 := Lib.hid M7
      have HO7 := Lib.hid hown
      unfold keyV encV at hrun
      clear hgr hown M7
      go_upto_region 5 with fail
      go_region_held3 (fun X => X.cell? ⟨p, 0, none⟩ = some (.map (some b)) ∧ X.cell? ⟨g, 0, none⟩ = some (.int .u32 v.f0.f0) ∧ X.cell? ⟨g, 1, none⟩ = some (.int .u32 v.f0.f1) ∧ X.cell? ⟨g, 2, none⟩ = some (.int .u64 v.f1.f0) ∧ X.cell? ⟨g, 3, none⟩ = some (.int .u32 v.f1.f1) ∧ X.cell? ⟨g, 4, none⟩ = some (.int .u64 v.f2.f0) ∧ X.cell? ⟨g, 5, none⟩ = some (.int .u32 v.f2.f1) ∧ X.cell? ⟨g, 6, none⟩ = some (.int .u8 v.f3) ∧ X.cell? ⟨g, 7, none⟩ = some (.bool v.f4)) (first | exact HS5.out _ (Mod.refl _ _).drew | exact HS5.out _ HM7.out) (fail)
      go_wp2
      go_ret
      rw [show setR L v = (0, setV v L) from HR.out]
      have hb7 : (BD L).put (klit v.f0.f0 v.f0.f1) (gV v) = BD (setV v L) := map_put v hr L HB5.out.rgs HB5.out.ord
      refine ⟨rfl, ⟨HM7.out.at_ HB5.out.hp (by simpa using hbp), hb7 ▸ HO7.out, vset_ord v HB5.out.ord, vset_rgs hr HB5.out.rgs⟩, ?_⟩
      exact (HM5.out.mono (fun _ hk => by cases hk)).trans HM7.out (fun k hk => .inl hk)
    · have hgg : g ≠ g5 := by omega
      have hfz := blk_frozen B6 7
      obtain ⟨e0, e1, e2, e3, e4, e5, e6, e7⟩ := B6.all
      obtain ⟨c0, c1, c2, c3, c4, c5, c6, c7⟩ := HV5.out.all
      go_upto_region 8 with fail
      clear e0 e1 e2 e3 e4 e5 e6 e7 c0 c1 c2 c3 c4 c5 c6 c7 hfz
      have hbg : g5 ≠ b := by have := HBL.out; omega
      have hpg : g5 ≠ p := by omega
      have M8 : Mod W5 (W5.setCell ⟨g5, 7, none⟩ (.bool v.f4)) [g5] := (Mod.refl W5 [g5]).setCell (p := ⟨g5, 7, none⟩) (.inl (by simp)) _
      have HB8 := Lib.hid (HB5.out.mod M8 (by simpa using hpg.symm) (by simpa using hbg.symm))
      have HV8 := Lib.hid (HV5.out.mod M8 (by simpa using hgg))
      have HO8 : Hid (BV (W5.setCell ⟨g5, 7, none⟩ (.bool v.f4)) g5 { o with f4 := v.f4 }) := Lib.hid (blk_put B6 7 _ rfl)
      have HM8 := Lib.hid ((HM5.out.mono (fun _ hk => by cases hk)).trans M8 (fun k hk => by simp at hk; subst hk; have := HBL.out; omega) : Mod W (W5.setCell ⟨g5, 7, none⟩ (.bool v.f4)) [])
      generalize W5.setCell ⟨g5, 7, none⟩ (.bool v.f4) = W8 at *
      clear M8 B6
      obtain ⟨e0, e1, e2, e3, e4, e5, e6, e7⟩ := HO8.out.all
      obtain ⟨c0, c1, c2, c3, c4, c5, c6, c7⟩ := HV8.out.all
      simp only at e0 e1 e2 e3 e4 e5 e6 e7
      have heq := neq37 { o with f4 := v.f4 } v
      unfold encV at heq
      simp only at heq
      generalize hq : eqVB { o with f4 := v.f4 } v = q at *
      cases q
      · go_wp2
        go_ret
        rw [show setR L v = (40, L) from by rw [HR.out]; simp]
        exact ⟨rfl, HB8.out.mono (by omega), HM8.out.mono (fun _ hk => by cases hk)⟩
      · go_wp2
        go_ret
        rw [show setR L v = (0, L) from by rw [HR.out]; simp]
        exact ⟨rfl, HB8.out.mono (by omega), HM8.out.mono (fun _ hk => by cases hk)⟩

set_option maxHeartbeats 4000000 in
set_option maxRecDepth 100000 in
theorem set_okn {W : World} {p b m : Nat} {L : List S37} (h : Book W p b m L) (hm : m < maxLen) (v : S37) (hr : Rng kcV knV v) (r1 : rightB v.f1.f0 v.f1.f1 = true) (r2 : rightB v.f2.f0 v.f2.f1 = true) (r3 : commB v = false) (hp0 : Hid (v.f3 = 0)) (hd0 : Hid (v.f4 = false)) : Calls Try.prog 14 #[.pointer (some ⟨p, 0, none⟩), encV v] W (SetP W p b m (setR L v)) := by
  have s0 : W.heap.size < (W.alloc (.cells #[.int .u32 v.f0.f0, .int .u32 v.f0.f1, .int .u64 v.f1.f0, .int .u32 v.f1.f1, .int .u64 v.f2.f0, .int .u32 v.f2.f1, .int .u8 v.f3, .bool v.f4] 37)).heap.size := by simp
  have H0 : Hid (St W W.heap.size v (W.alloc (.cells #[.int .u32 v.f0.f0, .int .u32 v.f0.f1, .int .u64 v.f1.f0, .int .u32 v.f1.f1, .int .u64 v.f2.f0, .int .u32 v.f2.f1, .int .u8 v.f3, .bool v.f4] 37))) := Lib.hid ⟨blk_new W _, (Mod.refl W []).alloc _, Nat.le_refl _⟩
  unfold encV at *
  go_enter Try.func14, Try.ntmps14
  go_upto_region 1 with fail
  generalize W.alloc (.cells #[.int .u32 v.f0.f0, .int .u32 v.f0.f1, .int .u64 v.f1.f0, .int .u32 v.f1.f1, .int .u64 v.f2.f0, .int .u32 v.f2.f1, .int .u8 v.f3, .bool v.f4] 37) = V0 at *
  generalize hg : W.heap.size = g at *
  obtain ⟨c0, c1, c2, c3, c4, c5, c6, c7⟩ := H0.out.1.all
  go_upto_region 3 with (first
    | (go_at_call 42; have K1 := H0; clear H0; refine (right_calls _ _ _).mono ?_; rintro e V1 ⟨rfl, m1⟩; rw [r1]; have H1 := K1.out.step m1; obtain ⟨c0, c1, c2, c3, c4, c5, c6, c7⟩ := H1.out.1.all; clear K1 m1)
    | (go_at_call 42; have K2 := H1; clear H1; refine (right_calls _ _ _).mono ?_; rintro e V2 ⟨rfl, m2⟩; rw [r2]; have H2 := K2.out.step m2; obtain ⟨c0, c1, c2, c3, c4, c5, c6, c7⟩ := H2.out.1.all; clear K2 m2)
    | (go_at_call 43; have K3 := H2; clear H2; refine (comm_calls v _).mono ?_; rintro e V3 ⟨rfl, m3⟩; rw [r3]; have H3 := K3.out.step m3; obtain ⟨c0, c1, c2, c3, c4, c5, c6, c7⟩ := H3.out.1.all; clear K3 m3; have hp := hp0.out; have hd := hd0.out))
  clear c0 c1 c2 c3 c4 c5 c6 c7
  have hbad : badB v = false := by unfold badB; simp [r1, r2, r3, hp, hd]
  clear hp hd
  have hk : inK v.f0.f0 v.f0.f1 := hr
  have HB := Lib.hid (h.mod H3.out.2.1 (by simp) (by simp))
  have hpl := h.lt
  have HBL : Hid (b < W.heap.size) := Lib.hid h.ltb
  rw [hg] at hpl HBL
  have hlook := look_run HB.out hk
  unfold keyV at hlook
  have hset : setR L v = match findV v.f0.f0 v.f0.f1 L with
      | none => (0, setV v L)
      | some o => (if eqVB { o with f4 := v.f4 } v = true then (0, L) else (40, L)) := by unfold setR; rw [hbad]; rfl
  obtain ⟨o, ok, hf⟩ : ∃ o ok, findV v.f0.f0 v.f0.f1 L = (if ok = true then some o else none) ∧ (findV v.f0.f0 v.f0.f1 L).getD z37 = o ∧ (findV v.f0.f0 v.f0.f1 L).isSome = ok := by
    cases findV v.f0.f0 v.f0.f1 L with
    | none => exact ⟨z37, false, rfl, rfl, rfl⟩
    | some o => exact ⟨o, true, rfl, rfl, rfl⟩
  have hSt : ∀ W', Mod V3 W' [] → W'.cell? ⟨p, 0, none⟩ = some (.map (some b)) ∧ W'.cell? ⟨g, 0, none⟩ = some (.int .u32 v.f0.f0) ∧ W'.cell? ⟨g, 1, none⟩ = some (.int .u32 v.f0.f1) ∧ (Instr.lookup 83 (.map (some b)) (.agg #[.int .u32 v.f0.f0, .int .u32 v.f0.f1]) true).run Try.prog W' = .ok (.tuple #[.agg #[.int .u32 o.f0.f0, .int .u32 o.f0.f1, .int .u64 o.f1.f0, .int .u32 o.f1.f1, .int .u64 o.f2.f0, .int .u32 o.f2.f1, .int .u8 o.f3, .bool o.f4], .bool ok]) W' ∧ Hid (BV W' g v) := fun W' m => by
    have hb := HB.out.mod m (by simp) (by simp)
    have hbv := H3.out.1.mod m (by simp)
    have e := look_run hb hk
    rw [hf.2.1, hf.2.2] at e
    obtain ⟨c0, c1, _⟩ := hbv.all
    exact ⟨hb.c0, c0, c1, e, Lib.hid hbv⟩
  have HS := Lib.hid hSt
  have HR : Hid (setR L v = if ok = true then (if eqVB { o with f4 := v.f4 } v = true then (0, L) else (40, L)) else (0, setV v L)) := Lib.hid (by
    rw [hset, hf.1]
    cases ok <;> rfl)
  clear hSt hlook hset hf h hbad
  go_region_held3 (fun W' => W'.cell? ⟨p, 0, none⟩ = some (.map (some b)) ∧ W'.cell? ⟨g, 0, none⟩ = some (.int .u32 v.f0.f0) ∧ W'.cell? ⟨g, 1, none⟩ = some (.int .u32 v.f0.f1) ∧ (Instr.lookup 83 (.map (some b)) (.agg #[.int .u32 v.f0.f0, .int .u32 v.f0.f1]) true).run Try.prog W' = .ok (.tuple #[.agg #[.int .u32 o.f0.f0, .int .u32 o.f0.f1, .int .u64 o.f1.f0, .int .u32 o.f1.f1, .int .u64 o.f2.f0, .int .u32 o.f2.f1, .int .u8 o.f3, .bool o.f4], .bool ok]) W' ∧ Hid (BV W' g v))
   (first | exact HS.out _ (Mod.refl _ _).drew | exact HS.out _ ((Mod.refl _ _).alloc _).drew) (fail)
  all_goals
    have M5 : Mod V3 (V3.alloc (.cells #[.int .u32 o.f0.f0, .int .u32 o.f0.f1, .int .u64 o.f1.f0, .int .u32 o.f1.f1, .int .u64 o.f2.f0, .int .u32 o.f2.f1, .int .u8 o.f3, .bool o.f4] 37)).drew [] := ((Mod.refl _ _).alloc _).drew
    have B6 : BV (V3.alloc (.cells #[.int .u32 o.f0.f0, .int .u32 o.f0.f1, .int .u64 o.f1.f0, .int .u32 o.f1.f1, .int .u64 o.f2.f0, .int .u32 o.f2.f1, .int .u8 o.f3, .bool o.f4] 37)).drew V3.heap.size o := blk_new V3 _
    generalize (V3.alloc (.cells #[.int .u32 o.f0.f0, .int .u32 o.f0.f1, .int .u64 o.f1.f0, .int .u32 o.f1.f1, .int .u64 o.f2.f0, .int .u32 o.f2.f1, .int .u8 o.f3, .bool o.f4] 37)).drew = W5 at *
    generalize hg5 : V3.heap.size = g5 at *
    have hgl : g < g5 := by have := blk_lt H3.out.1; omega
    have HB5 := Lib.hid (HB.out.mod M5 (by simp) (by simp))
    have HV5 := Lib.hid (H3.out.1.mod M5 (by simp))
    have HM5 := Lib.hid (H3.out.2.1.trans M5 (fun _ hk => by cases hk))
    clear HS M5
    cases ok
    · have hbp : p ≠ b := HB5.out.ne
      have hbg : g ≠ b := by have := HBL.out; omega
      have HS5 : Hid (∀ X, Mod W5 X [b] → X.cell? ⟨p, 0, none⟩ = some (.map (some b)) ∧ X.cell? ⟨g, 0, none⟩ = some (.int .u32 v.f0.f0) ∧ X.cell? ⟨g, 1, none⟩ = some (.int .u32 v.f0.f1) ∧ X.cell? ⟨g, 2, none⟩ = some (.int .u64 v.f1.f0) ∧ X.cell? ⟨g, 3, none⟩ = some (.int .u32 v.f1.f1) ∧ X.cell? ⟨g, 4, none⟩ = some (.int .u64 v.f2.f0) ∧ X.cell? ⟨g, 5, none⟩ = some (.int .u32 v.f2.f1) ∧ X.cell? ⟨g, 6, none⟩ = some (.int .u8 v.f3) ∧ X.cell? ⟨g, 7, none⟩ = some (.bool v.f4)) := Lib.hid (fun X m => ⟨(blk_cell (m.at_ HB5.out.hp (by simpa using hbp)) 0).trans rfl, (HV5.out.mod m (by simpa using hbg)).all⟩)
      obtain ⟨W7, hrun, hown, hgr⟩ := (HB5.out.mod ((Mod.refl W5 []).drew) (by simp) (by simp)).hm.update law32 Try.underlying83 hm (key_of hk) (RV_enc v)
      have M7 : Mod W5 W7 [b] := mod_grown (Mod.refl W5 [b]).drew hgr (fun y hy => by cases hy; simp)
      have HM7 := Lib.hid M7
      have HO7 := Lib.hid hown
      unfold keyV encV at hrun
      clear hgr hown M7
      go_upto_region 5 with fail
      go_region_held3 (fun X => X.cell? ⟨p, 0, none⟩ = some (.map (some b)) ∧ X.cell? ⟨g, 0, none⟩ = some (.int .u32 v.f0.f0) ∧ X.cell? ⟨g, 1, none⟩ = some (.int .u32 v.f0.f1) ∧ X.cell? ⟨g, 2, none⟩ = some (.int .u64 v.f1.f0) ∧ X.cell? ⟨g, 3, none⟩ = some (.int .u32 v.f1.f1) ∧ X.cell? ⟨g, 4, none⟩ = some (.int .u64 v.f2.f0) ∧ X.cell? ⟨g, 5, none⟩ = some (.int .u32 v.f2.f1) ∧ X.cell? ⟨g, 6, none⟩ = some (.int .u8 v.f3) ∧ X.cell? ⟨g, 7, none⟩ = some (.bool v.f4)) (first | exact HS5.out _ (Mod.refl _ _).drew | exact HS5.out _ HM7.out) (fail)
      go_wp2
      go_ret
      rw [show setR L v = (0, setV v L) from HR.out]
      have hb7 : (BD L).put (klit v.f0.f0 v.f0.f1) (gV v) = BD (setV v L) := map_put v hr L HB5.out.rgs HB5.out.ord
      refine ⟨rfl, ⟨HM7.out.at_ HB5.out.hp (by simpa using hbp), hb7 ▸ HO7.out, vset_ord v HB5.out.ord, vset_rgs hr HB5.out.rgs⟩, ?_⟩
      exact (HM5.out.mono (fun _ hk => by cases hk)).trans HM7.out (fun k hk => .inl hk)
    · have hgg : g ≠ g5 := by omega
      have hfz := blk_frozen B6 7
      obtain ⟨e0, e1, e2, e3, e4, e5, e6, e7⟩ := B6.all
      obtain ⟨c0, c1, c2, c3, c4, c5, c6, c7⟩ := HV5.out.all
      go_upto_region 8 with fail
      clear e0 e1 e2 e3 e4 e5 e6 e7 c0 c1 c2 c3 c4 c5 c6 c7 hfz
      have hbg : g5 ≠ b := by have := HBL.out; omega
      have hpg : g5 ≠ p := by omega
      have M8 : Mod W5 (W5.setCell ⟨g5, 7, none⟩ (.bool v.f4)) [g5] := (Mod.refl W5 [g5]).setCell (p := ⟨g5, 7, none⟩) (.inl (by simp)) _
      have HB8 := Lib.hid (HB5.out.mod M8 (by simpa using hpg.symm) (by simpa using hbg.symm))
      have HV8 := Lib.hid (HV5.out.mod M8 (by simpa using hgg))
      have HO8 : Hid (BV (W5.setCell ⟨g5, 7, none⟩ (.bool v.f4)) g5 { o with f4 := v.f4 }) := Lib.hid (blk_put B6 7 _ rfl)
      have HM8 := Lib.hid ((HM5.out.mono (fun _ hk => by cases hk)).trans M8 (fun k hk => by simp at hk; subst hk; have := HBL.out; omega) : Mod W (W5.setCell ⟨g5, 7, none⟩ (.bool v.f4)) [])
      generalize W5.setCell ⟨g5, 7, none⟩ (.bool v.f4) = W8 at *
      clear M8 B6
      obtain ⟨e0, e1, e2, e3, e4, e5, e6, e7⟩ := HO8.out.all
      obtain ⟨c0, c1, c2, c3, c4, c5, c6, c7⟩ := HV8.out.all
      simp only at e0 e1 e2 e3 e4 e5 e6 e7
      have heq := neq37 { o with f4 := v.f4 } v
      unfold encV at heq
      simp only at heq
      generalize hq : eqVB { o with f4 := v.f4 } v = q at *
      cases q
      · go_wp2
        go_ret
        rw [show setR L v = (40, L) from by rw [HR.out]; simp]
        exact ⟨rfl, HB8.out.mono (by omega), HM8.out.mono (fun _ hk => by cases hk)⟩
      · go_wp2
        go_ret
        rw [show setR L v = (0, L) from by rw [HR.out]; simp]
        exact ⟨rfl, HB8.out.mono (by omega), HM8.out.mono (fun _ hk => by cases hk)⟩

theorem set_calls {W : World} {p b m : Nat} {L : List S37} (h : Book W p b m L) (hm : m < maxLen) (v : S37) (hr : Rng kcV knV v) : Calls Try.prog 14 #[.pointer (some ⟨p, 0, none⟩), encV v] W (SetP W p b m (setR L v)) := by
  have bad : badB v = true → ∀ e W', e = .returned (.int .i64 1) ∧ Mod W W' [] → SetP W p b m (setR L v) e W' := by
    rintro hb e W' ⟨rfl, m1⟩
    rw [show setR L v = (1, L) from by unfold setR; rw [if_pos hb]]
    exact ⟨rfl, (h.mod m1 (by simp) (by simp)).mono (by omega), m1.mono (fun _ hk => by cases hk)⟩
  cases r1 : rightB v.f1.f0 v.f1.f1
  · exact (set_bad1 W _ v r1).mono (bad (by unfold badB; simp [r1]))
  · cases r2 : rightB v.f2.f0 v.f2.f1
    · exact (set_bad2 W _ v r1 r2).mono (bad (by unfold badB; simp [r1, r2]))
    · cases r3 : commB v
      · by_cases hp : v.f3 = 0
        · cases hd : v.f4
          · exact set_okn h hm v hr r1 r2 r3 (Lib.hid hp) (Lib.hid hd)
          · exact (set_bad4 W _ v r1 r2 r3 (Lib.hid hp) (Lib.hid hd)).mono (bad (by unfold badB; simp [r1, r2, r3, hp, hd]))
        · exact (set_bad3 W _ v r1 r2 r3 hp).mono (bad (by unfold badB; simp [r1, r2, r3, hp]))
      · exact set_okc h hm v hr r1 r2 r3
end Go.Proofs.Ytdelbidaclddgaa.Ver
