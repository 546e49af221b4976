/- The layer 'verdict': VerT; a seat's own text, no law of its own. -/
import Derived.Test.YtdelbidaclddgaaVerS
import Derived.Deep.LoopGhost
import Derived.Deep.Cut
import Derived.Lib.Hide
import Derived.StillTailTactics
import Derived.Deep.QuietTactic
import Derived.BigQuiet
import Derived.Outline
import Derived.Deep.RegionWith
import Derived.Deep.RegionHeld3
import Derived.WalkLawsBesides
namespace Go.Proofs.Ytdelbidaclddgaa.Ver
open Go.RowKit Go.Proofs.YtdelbidaclddgaaW.PrintWords Go.Proofs.Ytdelbidaclddgaa.MVerdictRuns Go.Proofs.YtdelbidaclddgaaW.PrintLast
set_option linter.unusedVariables false
set_option linter.unusedSimpArgs false
attribute [local go_sem high] eqA32 eqA35 eqA37
theorem rset_calls {W : World} {g : Nat} {L : List S37} {fp : List Nat} (v : S37) (h : RBk W g L fp) (ho : OrdV L) (hl : L.length ≤ 1000000) {r : Int × List S37} (hr : setR L v = r) :
    Calls Try.prog 15 #[.pointer (some ⟨g, 0, none⟩), encV v] W (RSetP W g fp r) := by
  cases hb : badB v
  · exact rset_ok v h hb ho hl hr
  · have e : r = (1, L) := by rw [← hr]; unfold setR; rw [hb, if_pos rfl]
    rw [e]
    exact rset_bad v h hb
structure Pr (W1 V : World) (q : Nat) (y : S37) (A : Option Addr) (kp : List S32) (lv : Value) (acc : List S37) : Prop where
  hM : Mod W1 V []
  hY : BV V q y
  hK : Kd.C k32 V A kp.length kp
  hA : k37.R 37 V 0 (fun b => W1.heap.size ≤ b) lv acc
theorem Pr.mod {W1 V V' : World} {q : Nat} {y : S37} {A : Option Addr} {kp : List S32} {lv : Value} {acc : List S37} (h : Pr W1 V q y A kp lv acc) (m : Mod V V' []) : Pr W1 V' q y A kp lv acc :=
  ⟨h.hM.trans m (fun _ hk => by cases hk), h.hY.mod m (by simp), Kd.C_below h.hK m.bel, Kd.R_below h.hA m.bel⟩
def RRetP (W : World) (g : Nat) (fp : List Nat) (L L' : List S37) (e : Ending) (W' : World) : Prop := e = .returned (.int .i64 ((L.length : Int) - (L'.length : Int))) ∧ (∃ fp', RBk W' g L' fp' ∧ ∀ y ∈ fp', y ∈ fp ∨ W.heap.size ≤ y) ∧ Mod W W' fp
set_option maxHeartbeats 8000000 in
set_option maxRecDepth 100000 in
theorem rret_calls {W : World} {g : Nat} {L : List S37} {fp : List Nat} (s : S35) (A : Option Addr) (k : Nat) (keep : List S32) (h : RBk W g L fp) (hl : L.length ≤ 1000000) (hr : Kd.C k32 W A keep.length keep) (hc : keep.length ≤ k) (hkl : keep.length ≤ 4611686018427387904) {L' : List S37} (hL' : retL s keep L = L') :
    Calls Try.prog 19 #[.pointer (some ⟨g, 0, none⟩), .agg #[.int .u64 s.f0, .int .u32 s.f1], .slice A keep.length k] W (RRetP W g fp L L') := by
  have m0 := (Mod.refl W []).alloc (.cells #[.int .u64 s.f0, .int .u32 s.f1] 35)
  have hs0 := blk_new W (.cells #[.int .u64 s.f0, .int .u32 s.f1] 35)
  have HW := Lib.hid (And.intro m0 (And.intro (h.mod m0 (by simp)) (And.intro (Kd.C_below hr m0.bel) hs0)))
  have HKP := Lib.hid (And.intro hc hkl)
  have hLl : L'.length ≤ L.length := by rw [← hL']; exact List.length_filter_le _ _
  have HL := Lib.hid hL'
  clear m0 hs0 h hr hc hkl hL'
  obtain ⟨vb, hbx, hrow, hng, rfl⟩ := HW.out.2.1
  obtain ⟨A0, k0, rfl, hk0, hC0⟩ := hrow.C
  have HX := Lib.hid (And.intro hbx (And.intro hng hC0))
  clear hbx hng hrow hC0
  go_enter Try.func19, Try.ntmps19
  go_upto_region 2 with fail
  generalize W.alloc (.cells #[.int .u64 s.f0, .int .u32 s.f1] 35) = W1 at *
  generalize hq : W.heap.size = q at *
  go_wp2_with fail
  go_loopg [7, 8] L.length (fun kk lv i wr => ∃ (j : Nat), j ≤ L.length ∧ kk = L.length - j ∧ i = .int .i64 j ∧ k37.R 37 wr 0 (fun b => W1.heap.size ≤ b) lv ((L.take j).filter fun v => !diesB s keep v) ∧ Mod W1 wr [])
  case atStart => exact ⟨0, Nat.zero_le _, rfl, rfl, Kd.R_nil _ _ _ _ _, Mod.refl _ _⟩
  case round =>
    obtain ⟨j, hj, rfl, rfl, hR, hM⟩ := hrel
    have hbx := hM.at_ HX.out.1 (by simp)
    have hC0 := Kd.C_below HX.out.2.2 hM.bel
    have hg : wr.cell? ⟨g, 0, none⟩ = some (.slice A0 L.length k0) := (blk_cell hbx 0).trans rfl
    by_cases hjl : j < L.length
    · have hjz : (j : Int) < (L.length : Int) := by omega
      have hw : IntKind.i64.wrap ((j : Int) + 1) = ((j + 1 : Nat) : Int) := by rw [i64w (by omega) (by omega)]; omega
      obtain ⟨ad, rfl, a0, a1, a2, a3, a4, a5, a6, a7⟩ := vd_cells hC0 j hjl
      obtain ⟨A8, n8, c8, e8⟩ := Row.form (Row.of hR)
      subst e8
      have hgoK : diesB s keep L[j] = false → ((L.take (j + 1)).filter fun v => !diesB s keep v) = ((L.take j).filter fun v => !diesB s keep v) ++ [L[j]] := fun e => by
        rw [List.take_succ_eq_append_getElem hjl, List.filter_append]; simp [e]
      have hgoD : diesB s keep L[j] = true → ((L.take (j + 1)).filter fun v => !diesB s keep v) = ((L.take j).filter fun v => !diesB s keep v) := fun e => by
        rw [List.take_succ_eq_append_getElem hjl, List.filter_append]; simp [e]
      have hacc : ((L.take j).filter fun v => !diesB s keep v).length ≤ 1000000 := Nat.le_trans (List.length_filter_le _ _) (by rw [List.length_take]; omega)
      obtain ⟨y, hy⟩ : ∃ y, L[j] = y := ⟨_, rfl⟩
      rw [hy] at a0 a1 a2 a3 a4 a5 a6 a7 hgoK hgoD
      have HY := Lib.hid (And.intro hy (And.intro hgoK hgoD))
      generalize ((L.take j).filter fun v => !diesB s keep v) = acc at *
      have m1 : Mod wr (wr.alloc (.cells #[.int .u32 y.f0.f0, .int .u32 y.f0.f1, .int .u64 y.f1.f0, .int .u32 y.f1.f1, .int .u64 y.f2.f0, .int .u32 y.f2.f1, .int .u8 y.f3, .bool y.f4] 37)) [] := (Mod.refl wr []).alloc _
      have H1 : Hid (Pr W1 (wr.alloc (.cells #[.int .u32 y.f0.f0, .int .u32 y.f0.f1, .int .u64 y.f1.f0, .int .u32 y.f1.f1, .int .u64 y.f2.f0, .int .u32 y.f2.f1, .int .u8 y.f3, .bool y.f4] 37)) wr.heap.size y A keep (.slice A8 n8 c8) acc) := Lib.hid ⟨hM.trans m1 (fun _ hk => by cases hk), blk_new wr _, Kd.C_below HW.out.2.2.1 (hM.trans m1 (fun _ hk => by cases hk)).bel, Kd.R_below hR m1.bel⟩
      have s0 : (wr.alloc (.cells #[.int .u32 y.f0.f0, .int .u32 y.f0.f1, .int .u64 y.f1.f0, .int .u32 y.f1.f1, .int .u64 y.f2.f0, .int .u32 y.f2.f1, .int .u8 y.f3, .bool y.f4] 37)).cell? ⟨q, 0, none⟩ = some (.int .u64 s.f0) := (blk_cell (m1.at_ (hM.at_ HW.out.2.2.2 (by simp)) (by simp)) 0).trans rfl
      have s1 : (wr.alloc (.cells #[.int .u32 y.f0.f0, .int .u32 y.f0.f1, .int .u64 y.f1.f0, .int .u32 y.f1.f1, .int .u64 y.f2.f0, .int .u32 y.f2.f1, .int .u8 y.f3, .bool y.f4] 37)).cell? ⟨q, 1, none⟩ = some (.int .u32 s.f1) := (blk_cell (m1.at_ (hM.at_ HW.out.2.2.2 (by simp)) (by simp)) 1).trans rfl
      obtain ⟨r1, h1⟩ : ∃ r, lessB y.f1.f0 y.f1.f1 s.f0 s.f1 = r := ⟨_, rfl⟩
      obtain ⟨r2, h2⟩ : ∃ r, commB y = r := ⟨_, rfl⟩
      obtain ⟨r3, h3⟩ : ∃ r, hasB keep y.f0.f0 y.f0.f1 = r := ⟨_, rfl⟩
      have HR := Lib.hid (And.intro h1 (And.intro h2 h3))
      clear h1 h2 h3 m1 hgoK hgoD hy hR hM hbx hC0
      obtain ⟨c0, c1, c2, c3, c4, c5, c6, c7⟩ := H1.out.hY.all
      go_wp2_with fail
      generalize wr.alloc (.cells #[.int .u32 y.f0.f0, .int .u32 y.f0.f1, .int .u64 y.f1.f0, .int .u32 y.f1.f1, .int .u64 y.f2.f0, .int .u32 y.f2.f1, .int .u8 y.f3, .bool y.f4] 37) = V1 at *
      refine (rless_calls _ _ _ _ V1).mono ?_
      rw [HR.out.1]
      rintro e V2 ⟨rfl, m2⟩
      have H2 := Lib.hid (H1.out.mod m2)
      clear c0 c1 c2 c3 c4 c5 c6 c7 m2 H1 s0 s1
      obtain ⟨c0, c1, c2, c3, c4, c5, c6, c7⟩ := H2.out.hY.all
      cases r1
      · skip
        have hdie : diesB s keep y = false := by unfold diesB; rw [HR.out.1]; rfl
        have HD := Lib.hid hdie
        clear hdie
        go_wp2_with (first | (at_builtin; refine Kd.R_append k37 (w0 := V2) (W := V2) 0 rfl _ _ 27 37 (.agg #[.int .u32 0, .int .u32 0, .int .u64 0, .int .u32 0, .int .u64 0, .int .u32 0, .int .u8 0, .bool false]) 48 rfl Try.underlying27 info37 rfl (by decide) (by decide) (.slice A8 n8 c8) acc y [.int .u32 y.f0.f0, .int .u32 y.f0.f1, .int .u64 y.f1.f0, .int .u32 y.f1.f1, .int .u64 y.f2.f0, .int .u32 y.f2.f1, .int .u8 y.f3, .bool y.f4] (fun b => W1.heap.size ≤ b) (fun _ => False) rfl rfl (k37_mkM _ _ _ y) (fun k h => h.elim) (fun k h => Nat.le_trans H2.out.hM.size h) H2.out.hA (Below.refl _ _) (Nat.zero_le _) (by omega) ?_) | fail)
        intro v9 W9 o9 _ g9 _
        have m9 : Mod W1 W9 [] := H2.out.hM.trans (mod_own g9) (fun z hz => .inr (H2.out.hA.1 z (own_mem _ z hz)))
        have H9 := Lib.hid (And.intro o9 m9)
        clear o9 g9 m9
        go_wp2
        go_roundg (L.length - (j + 1))
        case measure => omega
        case rel => exact ⟨j + 1, by omega, rfl, by rw [show ((j + 1 : Nat) : Int) = (j : Int) + 1 by omega], by rw [HY.out.2.1 HD.out]; exact H9.out.1, H9.out.2⟩

      · go_wp2_with fail
        refine (rcomm_calls y V2).mono ?_
        rw [HR.out.2.1]
        rintro e V3 ⟨rfl, m3⟩
        have H3 := Lib.hid (H2.out.mod m3)
        clear c0 c1 c2 c3 c4 c5 c6 c7 m3 H2
        obtain ⟨c0, c1, c2, c3, c4, c5, c6, c7⟩ := H3.out.hY.all
        cases r2
        · have h4 : True := trivial
          go_wp2_with fail
          refine (ramong_calls _ _ _ y.f0.f0 y.f0.f1 V3 H3.out.hK HKP.out.1 HKP.out.2).mono ?_
          rw [HR.out.2.2]
          rintro e V5 ⟨rfl, m5⟩
          have H5 := Lib.hid (H3.out.mod m5)
          clear c0 c1 c2 c3 c4 c5 c6 c7 m5 H3
          obtain ⟨c0, c1, c2, c3, c4, c5, c6, c7⟩ := H5.out.hY.all
          cases r3
          · skip
            have hdie : diesB s keep y = true := by unfold diesB; rw [HR.out.1, HR.out.2.1, HR.out.2.2, show (y.f4 || !false) = true by simp]; rfl
            have HD := Lib.hid hdie
            clear hdie
            go_wp2
            go_roundg (L.length - (j + 1))
            case measure => omega
            case rel => exact ⟨j + 1, by omega, rfl, by rw [show ((j + 1 : Nat) : Int) = (j : Int) + 1 by omega], by rw [HY.out.2.2 HD.out]; exact H5.out.hA, H5.out.hM⟩
          · skip
            have hdie : diesB s keep y = false := by unfold diesB; rw [HR.out.2.2]; simp
            have HD := Lib.hid hdie
            clear hdie
            go_wp2_with (first | (at_builtin; refine Kd.R_append k37 (w0 := V5) (W := V5) 0 rfl _ _ 27 37 (.agg #[.int .u32 0, .int .u32 0, .int .u64 0, .int .u32 0, .int .u64 0, .int .u32 0, .int .u8 0, .bool false]) 48 rfl Try.underlying27 info37 rfl (by decide) (by decide) (.slice A8 n8 c8) acc y [.int .u32 y.f0.f0, .int .u32 y.f0.f1, .int .u64 y.f1.f0, .int .u32 y.f1.f1, .int .u64 y.f2.f0, .int .u32 y.f2.f1, .int .u8 y.f3, .bool y.f4] (fun b => W1.heap.size ≤ b) (fun _ => False) rfl rfl (k37_mkM _ _ _ y) (fun k h => h.elim) (fun k h => Nat.le_trans H5.out.hM.size h) H5.out.hA (Below.refl _ _) (Nat.zero_le _) (by omega) ?_) | fail)
            intro v9 W9 o9 _ g9 _
            have m9 : Mod W1 W9 [] := H5.out.hM.trans (mod_own g9) (fun z hz => .inr (H5.out.hA.1 z (own_mem _ z hz)))
            have H9 := Lib.hid (And.intro o9 m9)
            clear o9 g9 m9
            go_wp2
            go_roundg (L.length - (j + 1))
            case measure => omega
            case rel => exact ⟨j + 1, by omega, rfl, by rw [show ((j + 1 : Nat) : Int) = (j : Int) + 1 by omega], by rw [HY.out.2.1 HD.out]; exact H9.out.1, H9.out.2⟩

        · cases h4 : y.f4
          · have HF4 := Lib.hid h4
            rw [h4] at c7
            have hdie : diesB s keep y = false := by unfold diesB; rw [HR.out.2.1, HF4.out]; simp
            have HD := Lib.hid hdie
            clear hdie
            go_wp2_with (first | (at_builtin; refine Kd.R_append k37 (w0 := V3) (W := V3) 0 rfl _ _ 27 37 (.agg #[.int .u32 0, .int .u32 0, .int .u64 0, .int .u32 0, .int .u64 0, .int .u32 0, .int .u8 0, .bool false]) 48 rfl Try.underlying27 info37 rfl (by decide) (by decide) (.slice A8 n8 c8) acc y [.int .u32 y.f0.f0, .int .u32 y.f0.f1, .int .u64 y.f1.f0, .int .u32 y.f1.f1, .int .u64 y.f2.f0, .int .u32 y.f2.f1, .int .u8 y.f3, .bool false] (fun b => W1.heap.size ≤ b) (fun _ => False) rfl rfl (by have hm := k37_mkM V3 0 (fun _ => False) y; rw [HF4.out] at hm; exact hm) (fun k h => h.elim) (fun k h => Nat.le_trans H3.out.hM.size h) H3.out.hA (Below.refl _ _) (Nat.zero_le _) (by omega) ?_) | fail)
            intro v9 W9 o9 _ g9 _
            have m9 : Mod W1 W9 [] := H3.out.hM.trans (mod_own g9) (fun z hz => .inr (H3.out.hA.1 z (own_mem _ z hz)))
            have H9 := Lib.hid (And.intro o9 m9)
            clear o9 g9 m9
            go_wp2
            go_roundg (L.length - (j + 1))
            case measure => omega
            case rel => exact ⟨j + 1, by omega, rfl, by rw [show ((j + 1 : Nat) : Int) = (j : Int) + 1 by omega], by rw [HY.out.2.1 HD.out]; exact H9.out.1, H9.out.2⟩

          · have HF4 := Lib.hid h4
            rw [h4] at c7
            clear h4
            go_wp2_with fail
            refine (ramong_calls _ _ _ y.f0.f0 y.f0.f1 V3 H3.out.hK HKP.out.1 HKP.out.2).mono ?_
            rw [HR.out.2.2]
            rintro e V5 ⟨rfl, m5⟩
            have H5 := Lib.hid (H3.out.mod m5)
            clear c0 c1 c2 c3 c4 c5 c6 c7 m5 H3
            obtain ⟨c0, c1, c2, c3, c4, c5, c6, c7⟩ := H5.out.hY.all
            cases r3
            · skip
              have hdie : diesB s keep y = true := by unfold diesB; rw [HR.out.1, HR.out.2.1, HR.out.2.2, HF4.out]; rfl
              have HD := Lib.hid hdie
              clear hdie
              go_wp2
              go_roundg (L.length - (j + 1))
              case measure => omega
              case rel => exact ⟨j + 1, by omega, rfl, by rw [show ((j + 1 : Nat) : Int) = (j : Int) + 1 by omega], by rw [HY.out.2.2 HD.out]; exact H5.out.hA, H5.out.hM⟩
            · skip
              have hdie : diesB s keep y = false := by unfold diesB; rw [HR.out.2.2]; simp
              have HD := Lib.hid hdie
              clear hdie
              go_wp2_with (first | (at_builtin; refine Kd.R_append k37 (w0 := V5) (W := V5) 0 rfl _ _ 27 37 (.agg #[.int .u32 0, .int .u32 0, .int .u64 0, .int .u32 0, .int .u64 0, .int .u32 0, .int .u8 0, .bool false]) 48 rfl Try.underlying27 info37 rfl (by decide) (by decide) (.slice A8 n8 c8) acc y [.int .u32 y.f0.f0, .int .u32 y.f0.f1, .int .u64 y.f1.f0, .int .u32 y.f1.f1, .int .u64 y.f2.f0, .int .u32 y.f2.f1, .int .u8 y.f3, .bool y.f4] (fun b => W1.heap.size ≤ b) (fun _ => False) rfl rfl (k37_mkM _ _ _ y) (fun k h => h.elim) (fun k h => Nat.le_trans H5.out.hM.size h) H5.out.hA (Below.refl _ _) (Nat.zero_le _) (by omega) ?_) | fail)
              intro v9 W9 o9 _ g9 _
              have m9 : Mod W1 W9 [] := H5.out.hM.trans (mod_own g9) (fun z hz => .inr (H5.out.hA.1 z (own_mem _ z hz)))
              have H9 := Lib.hid (And.intro o9 m9)
              clear o9 g9 m9
              go_wp2
              go_roundg (L.length - (j + 1))
              case measure => omega
              case rel => exact ⟨j + 1, by omega, rfl, by rw [show ((j + 1 : Nat) : Int) = (j : Int) + 1 by omega], by rw [HY.out.2.1 HD.out]; exact H9.out.1, H9.out.2⟩

    · obtain rfl : j = L.length := by omega
      have hzz : ¬ ((L.length : Int) < (L.length : Int)) := by omega
      rw [List.take_length] at hR
      have e : (L.filter fun v => !diesB s keep v) = L' := HL.out
      rw [e] at hR
      obtain ⟨A9, c9, rfl, hc9, hC9⟩ := Kd.R_reads hR
      have hput := BoxF.put plain37 HX.out.1 HX.out.2.1 (Row.of hR) (hM.mono (fun _ hk => by cases hk)) (fun y hy => .inr (hR.1 y (own_mem _ y hy)))
      have HZ := Lib.hid hput
      have hfz := blk_frozen hbx 0
      clear hR hM hC9 hbx e hput
      go_wp2
      go_ret
      have hsz := HW.out.1.size
      exact ⟨rfl, ⟨_, HZ.out.1, fun y hy => (HZ.out.2.2 y hy).imp id (fun h => Nat.le_trans hsz h)⟩, (HW.out.1.mono (fun _ hk => by cases hk)).trans HZ.out.2.1 (fun k hk => .inl hk)⟩
/-! the two books side by side, and the box of the act -/
structure Du (w V : World) (p b m g q : Nat) (xs : Array Value) (fp : List Nat) (L1 L2 : List S37) : Prop where
  hB : Book V p b m L1
  hR : RBk V g L2 fp
  hM : Mod w V []
  hx : V.heap[q]? = some (.cells xs 40 (0, 0))
  gp : w.heap.size ≤ p
  gb : w.heap.size ≤ b
  gf : ∀ y ∈ fp, w.heap.size ≤ y
  np : p ∉ fp
  nb : b ∉ fp
  qb : q ≠ b
  qf : q ∉ fp
theorem Du.mod {w V V' : World} {p b m g q : Nat} {xs : Array Value} {fp : List Nat} {L1 L2 : List S37} (h : Du w V p b m g q xs fp L1 L2) (mm : Mod V V' []) : Du w V' p b m g q xs fp L1 L2 :=
  ⟨h.hB.mod mm (by simp) (by simp), h.hR.mod mm (by simp), h.hM.trans mm (fun _ hk => by cases hk), mm.at_ h.hx (by simp), h.gp, h.gb, h.gf, h.np, h.nb, h.qb, h.qf⟩
theorem Du.s1 {w V V' : World} {p b m m' g q : Nat} {xs : Array Value} {fp : List Nat} {L1 L2 L1' : List S37} (h : Du w V p b m g q xs fp L1 L2) (hB : Book V' p b m' L1') (mm : Mod V V' [b]) : Du w V' p b m' g q xs fp L1' L2 :=
  ⟨hB, h.hR.mod mm (fun y hy hz => by simp at hz; subst hz; exact h.nb hy), h.hM.trans mm (fun k hk => by simp at hk; subst hk; exact .inr h.gb), mm.at_ h.hx (by simpa using h.qb), h.gp, h.gb, h.gf, h.np, h.nb, h.qb, h.qf⟩
theorem Du.s2 {w V V' : World} {p b m g q : Nat} {xs : Array Value} {fp fp' : List Nat} {L1 L2 L2' : List S37} (h : Du w V p b m g q xs fp L1 L2) (hR : RBk V' g L2' fp') (hf : ∀ y ∈ fp', y ∈ fp ∨ V.heap.size ≤ y) (mm : Mod V V' fp) : Du w V' p b m g q xs fp' L1 L2' := by
  have hp := h.hB.lt
  have hb := h.hB.ltb
  have hq := blk_lt h.hx
  have hs := h.hM.size
  have out : ∀ z, z ∉ fp → z < V.heap.size → z ∉ fp' := fun z hz hlt hm => by
    rcases hf z hm with e | e
    · exact hz e
    · omega
  exact ⟨h.hB.mod mm h.np h.nb, hR, h.hM.trans mm (fun k hk => .inr (h.gf k hk)), mm.at_ h.hx h.qf, h.gp, h.gb, fun y hy => by
    rcases hf y hy with e | e
    · exact h.gf y e
    · omega, out p h.np hp, out b h.nb hb, h.qb, out q h.qf hq⟩
/-- the box is another one, just drawn -/
theorem Du.box {w V : World} {p b m g q : Nat} {xs : Array Value} {fp : List Nat} {L1 L2 : List S37} (h : Du w V p b m g q xs fp L1 L2) (ys : Array Value) : Du w (V.alloc (.cells ys 40)) p b m g V.heap.size ys fp L1 L2 := by
  have hb := h.hB.ltb
  have m1 : Mod V (V.alloc (.cells ys 40)) [] := (Mod.refl V []).alloc _
  exact ⟨h.hB.mod m1 (by simp) (by simp), h.hR.mod m1 (by simp), h.hM.trans m1 (fun _ hk => by cases hk), blk_new V _, h.gp, h.gb, h.gf, h.np, h.nb, by omega, fun hm => by have := h.hR.lt _ hm; omega⟩
theorem Du.mono {w V : World} {p b m m' g q : Nat} {xs : Array Value} {fp : List Nat} {L1 L2 : List S37} (h : Du w V p b m g q xs fp L1 L2) (hm : m ≤ m') : Du w V p b m' g q xs fp L1 L2 :=
  ⟨h.hB.mono hm, h.hR, h.hM, h.hx, h.gp, h.gb, h.gf, h.np, h.nb, h.qb, h.qf⟩
section
variable {w V : World} {p b m g q : Nat} {xs : Array Value} {fp : List Nat} {L1 L2 : List S37}
theorem du_set (h : Du w V p b m g q xs fp L1 L2) (hm : m < maxLen) (a : S37) (hr : Rng kcV knV a) {r : Int × List S37} (he : setR L1 a = r) {W' : World} (mm : Mod V W' []) :
    Calls Try.prog 14 #[.pointer (some ⟨p, 0, none⟩), .agg #[.int .u32 a.f0.f0, .int .u32 a.f0.f1, .int .u64 a.f1.f0, .int .u32 a.f1.f1, .int .u64 a.f2.f0, .int .u32 a.f2.f1, .int .u8 a.f3, .bool a.f4]] W' fun e W'' => e = .returned (.int .i64 r.1) ∧ Du w W'' p b (m + 1) g q xs fp r.2 L2 := by
  subst he
  have h' := h.mod mm
  refine (set_enc h'.hB hm a hr).mono ?_
  rintro e W'' ⟨he, hB, m1⟩
  exact ⟨he, h'.s1 hB m1⟩
theorem du_rset (h : Du w V p b m g q xs fp L1 L2) (ho : OrdV L2) (hl : L2.length ≤ 1000000) (a : S37) {r : Int × List S37} (he : setR L2 a = r) {W' : World} (mm : Mod V W' []) :
    Calls Try.prog 15 #[.pointer (some ⟨g, 0, none⟩), .agg #[.int .u32 a.f0.f0, .int .u32 a.f0.f1, .int .u64 a.f1.f0, .int .u32 a.f1.f1, .int .u64 a.f2.f0, .int .u32 a.f2.f1, .int .u8 a.f3, .bool a.f4]] W' fun e W'' => e = .returned (.int .i64 r.1) ∧ ∃ fp', Du w W'' p b m g q xs fp' L1 r.2 := by
  have h' := h.mod mm
  refine (rset_calls a h'.hR ho hl he).mono ?_
  rintro e W'' ⟨he, ⟨fp', hB, hf⟩, m1⟩
  exact ⟨he, fp', h'.s2 hB hf m1⟩
theorem du_done (h : Du w V p b m g q xs fp L1 L2) (hm : m < maxLen) (c n : Int) (hk : inK c n) {r1 : Bool} {r2 : List S37} (he : doneR L1 c n = (r1, r2)) {W' : World} (mm : Mod V W' []) :
    Calls Try.prog 16 #[.pointer (some ⟨p, 0, none⟩), .agg #[.int .u32 c, .int .u32 n]] W' fun e W'' => e = .returned (.bool r1) ∧ Du w W'' p b (m + 1) g q xs fp r2 L2 := by
  have h' := h.mod mm
  refine (done_lit h'.hB hm c n hk).mono ?_
  rw [he]
  rintro e W'' ⟨he, hB, m1⟩
  exact ⟨he, h'.s1 hB m1⟩
theorem du_rdone (h : Du w V p b m g q xs fp L1 L2) (ho : OrdV L2) (hl : L2.length ≤ 1000000) (c n : Int) {r1 : Bool} {r2 : List S37} (he : doneR L2 c n = (r1, r2)) {W' : World} (mm : Mod V W' []) :
    Calls Try.prog 17 #[.pointer (some ⟨g, 0, none⟩), .agg #[.int .u32 c, .int .u32 n]] W' fun e W'' => e = .returned (.bool r1) ∧ Du w W'' p b m g q xs fp L1 r2 := by
  have h' := h.mod mm
  refine (rdone_calls c n h'.hR ho hl he).mono ?_
  rintro e W'' ⟨he, hB, m1⟩
  exact ⟨he, h'.s2 hB (fun y hy => .inl hy) m1⟩
theorem du_ret (h : Du w V p b m g q xs fp L1 L2) (hm : m ≤ 1000000000) (s0 s1 : Int) {A : Option Addr} {k : Nat} {kp : List S32} (hr : Kd.C k32 w A kp.length kp) (hc : kp.length ≤ k) (hl : kp.length ≤ 4611686018427387904) {L' : List S37} (he : retL ⟨s0, s1⟩ kp L1 = L') {W' : World} (mm : Mod V W' []) :
    Calls Try.prog 18 #[.pointer (some ⟨p, 0, none⟩), .agg #[.int .u64 s0, .int .u32 s1], .slice A kp.length k] W' fun e W'' => e = .returned (.int .i64 ((L1.length : Int) - (L'.length : Int))) ∧ Du w W'' p b m g q xs fp L' L2 := by
  subst he
  have h' := h.mod mm
  refine (ret_calls h'.hB hm ⟨s0, s1⟩ A k kp (Kd.C_below hr h'.hM.bel) hc hl).mono ?_
  rintro e W'' ⟨he, hB, m1⟩
  exact ⟨he, h'.s1 hB m1⟩
theorem du_rret (h : Du w V p b m g q xs fp L1 L2) (hl2 : L2.length ≤ 1000000) (s0 s1 : Int) {A : Option Addr} {k : Nat} {kp : List S32} (hr : Kd.C k32 w A kp.length kp) (hc : kp.length ≤ k) (hl : kp.length ≤ 4611686018427387904) {L' : List S37} (he : retL ⟨s0, s1⟩ kp L2 = L') {W' : World} (mm : Mod V W' []) :
    Calls Try.prog 19 #[.pointer (some ⟨g, 0, none⟩), .agg #[.int .u64 s0, .int .u32 s1], .slice A kp.length k] W' fun e W'' => e = .returned (.int .i64 ((L2.length : Int) - (L'.length : Int))) ∧ ∃ fp', Du w W'' p b m g q xs fp' L1 L' := by
  have h' := h.mod mm
  refine (rret_calls ⟨s0, s1⟩ A k kp h'.hR hl2 (Kd.C_below hr h'.hM.bel) hc hl he).mono ?_
  rintro e W'' ⟨he, ⟨fp', hB, hf⟩, m1⟩
  exact ⟨he, fp', h'.s2 hB hf m1⟩
theorem du_of (h : Du w V p b m g q xs fp L1 L2) (c n : Int) (hk : inK c n) {x : S37} {ok : Bool} (hx : (findV c n L1).getD z37 = x) (ho : (findV c n L1).isSome = ok) {W' : World} (mm : Mod V W' []) :
    Calls Try.prog 20 #[.pointer (some ⟨p, 0, none⟩), .agg #[.int .u32 c, .int .u32 n]] W' fun e W'' => e = .returned (.tuple #[.agg #[.int .u32 x.f0.f0, .int .u32 x.f0.f1, .int .u64 x.f1.f0, .int .u32 x.f1.f1, .int .u64 x.f2.f0, .int .u32 x.f2.f1, .int .u8 x.f3, .bool x.f4], .bool ok]) ∧ Du w W'' p b m g q xs fp L1 L2 ∧ Mod W' W'' [] := by
  have h' := h.mod mm
  refine (of_enc h'.hB c n hk x ok hx ho).mono ?_
  rintro e W'' ⟨he, m1⟩
  exact ⟨he, h'.mod m1, m1⟩
theorem du_rof (h : Du w V p b m g q xs fp L1 L2) (hord : OrdV L2) (hl : L2.length ≤ 1000000) (c n : Int) {x : S37} {ok : Bool} (hx : (findV c n L2).getD z37 = x) (ho : (findV c n L2).isSome = ok) {W' : World} (mm : Mod V W' []) :
    Calls Try.prog 21 #[.pointer (some ⟨g, 0, none⟩), .agg #[.int .u32 c, .int .u32 n]] W' fun e W'' => e = .returned (.tuple #[.agg #[.int .u32 x.f0.f0, .int .u32 x.f0.f1, .int .u64 x.f1.f0, .int .u32 x.f1.f1, .int .u64 x.f2.f0, .int .u32 x.f2.f1, .int .u8 x.f3, .bool x.f4], .bool ok]) ∧ Du w W'' p b m g q xs fp L1 L2 ∧ Mod W' W'' [] := by
  have h' := h.mod mm
  refine (rof_calls c n h'.hR hord hl hx ho).mono ?_
  rintro e W'' ⟨he, m1⟩
  exact ⟨he, h'.mod m1, m1⟩
theorem du_all (h : Du w V p b m g q xs fp L1 L2) (hm : m ≤ 1000000000) {W' : World} (mm : Mod V W' []) :
    Calls Try.prog 23 #[.pointer (some ⟨p, 0, none⟩)] W' fun e W'' => ∃ A c, e = .returned (.slice A L1.length c) ∧ (L1.length ≤ c ∧ Kd.C k37 W'' A L1.length L1) ∧ Mod W' W'' [] := by
  refine (all_calls (h.mod mm).hB hm).mono ?_
  rintro e W'' ⟨v, he, hrow, _, m1⟩
  obtain ⟨A, c, rfl, hc, hC⟩ := all_row hrow
  exact ⟨A, c, he, ⟨hc, hC⟩, m1⟩
end
theorem same_calls {V1 V2 : World} {A1 A2 : Option Addr} {c1 c2 : Nat} {L : List S37} (hl : L.length ≤ 1000) (h1 : L.length ≤ c1 ∧ Kd.C k37 V1 A1 L.length L) (h2 : L.length ≤ c2 ∧ Kd.C k37 V2 A2 L.length L) {W' : World} (m1 : Mod V1 W' []) (m2 : Mod V2 W' []) :
    Calls Try.prog 22 #[.slice A1 L.length c1, .slice A2 L.length c2] W' fun e W'' => e = .returned (.bool true) ∧ Mod W' W'' [] := by
  refine (dovecoteref11_Same.calls (L.length + 1) A1 c1 L A2 c2 L true W' (Kd.C_below h1.2 m1.bel) h1.1 (Kd.C_below h2.2 m2.bel) h2.1 (same_self L hl)).mono ?_
  rintro e W'' ⟨he, hd⟩
  exact ⟨he, Mod.of_drawn hd⟩
/-- the two books, with no box -/
structure Dn (w V : World) (p b m g : Nat) (fp : List Nat) (L1 L2 : List S37) : Prop where
  hB : Book V p b m L1
  hR : RBk V g L2 fp
  hM : Mod w V []
  gp : w.heap.size ≤ p
  gb : w.heap.size ≤ b
  gf : ∀ y ∈ fp, w.heap.size ≤ y
  np : p ∉ fp
  nb : b ∉ fp
theorem Du.dn {w V : World} {p b m g q : Nat} {xs : Array Value} {fp : List Nat} {L1 L2 : List S37} (h : Du w V p b m g q xs fp L1 L2) : Dn w V p b m g fp L1 L2 := ⟨h.hB, h.hR, h.hM, h.gp, h.gb, h.gf, h.np, h.nb⟩
theorem Dn.box {w V : World} {p b m g : Nat} {fp : List Nat} {L1 L2 : List S37} (h : Dn w V p b m g fp L1 L2) (ys : Array Value) : Du w (V.alloc (.cells ys 40)) p b m g V.heap.size ys fp L1 L2 := by
  have hb := h.hB.ltb
  have m1 : Mod V (V.alloc (.cells ys 40)) [] := (Mod.refl V []).alloc _
  exact ⟨h.hB.mod m1 (by simp) (by simp), h.hR.mod m1 (by simp), h.hM.trans m1 (fun _ hk => by cases hk), blk_new V _, h.gp, h.gb, h.gf, h.np, h.nb, by omega, fun hm => by have := h.hR.lt _ hm; omega⟩
theorem Dn.start {w V1 : World} {p b : Nat} (hB : Book V1 p b 0 []) (m1 : Mod w V1 []) (hp : w.heap.size ≤ p) (hb : w.heap.size ≤ b) : Dn w (V1.alloc (.cells #[.slice none 0 0] 29)) p b 0 V1.heap.size [V1.heap.size] [] [] := by
  have m2 : Mod V1 (V1.alloc (.cells #[.slice none 0 0] 29)) [] := (Mod.refl V1 []).alloc _
  have h1 := hB.lt
  have h2 := hB.ltb
  have h3 := m1.size
  exact ⟨hB.mod m2 (by simp) (by simp), ⟨.slice none 0 0, blk_new V1 _, Row.nil _ _ _, by simp [ownList], rfl⟩, m1.trans m2 (fun _ hk => by cases hk), hp, hb, fun y hy => by simp at hy; omega, by simp; omega, by simp; omega⟩
theorem du_cells {w V : World} {p b m g q : Nat} {v0 v1 v2 v3 v4 v5 v6 v7 v8 v9 va vb : Value} {fp : List Nat} {L1 L2 : List S37} (h : Du w V p b m g q #[v0, v1, v2, v3, v4, v5, v6, v7, v8, v9, va, vb] fp L1 L2) {W' : World} (mm : Mod V W' []) :
    W'.cell? ⟨q, 0, none⟩ = some v0 ∧ W'.cell? ⟨q, 1, none⟩ = some v1 ∧ W'.cell? ⟨q, 2, none⟩ = some v2 ∧ W'.cell? ⟨q, 3, none⟩ = some v3 ∧ W'.cell? ⟨q, 4, none⟩ = some v4 ∧ W'.cell? ⟨q, 5, none⟩ = some v5 ∧ W'.cell? ⟨q, 6, none⟩ = some v6 ∧ W'.cell? ⟨q, 7, none⟩ = some v7 ∧
    W'.cell? ⟨q, 8, none⟩ = some v8 ∧ W'.cell? ⟨q, 9, none⟩ = some v9 ∧ W'.cell? ⟨q, 10, none⟩ = some va ∧ W'.cell? ⟨q, 11, none⟩ = some vb := by
  have hx := mm.at_ h.hx (by simp)
  exact ⟨(blk_cell hx 0).trans rfl, (blk_cell hx 1).trans rfl, (blk_cell hx 2).trans rfl, (blk_cell hx 3).trans rfl, (blk_cell hx 4).trans rfl, (blk_cell hx 5).trans rfl, (blk_cell hx 6).trans rfl, (blk_cell hx 7).trans rfl, (blk_cell hx 8).trans rfl, (blk_cell hx 9).trans rfl, (blk_cell hx 10).trans rfl, (blk_cell hx 11).trans rfl⟩
theorem BV.at' {V W' : World} {q : Nat} {z : S37} (h : BV V q z) (mm : Mod V W' []) : W'.cell? ⟨q, 0, none⟩ = some (.int .u32 z.f0.f0) ∧ W'.cell? ⟨q, 1, none⟩ = some (.int .u32 z.f0.f1) ∧ W'.cell? ⟨q, 2, none⟩ = some (.int .u64 z.f1.f0) ∧ W'.cell? ⟨q, 3, none⟩ = some (.int .u32 z.f1.f1) ∧
    W'.cell? ⟨q, 4, none⟩ = some (.int .u64 z.f2.f0) ∧ W'.cell? ⟨q, 5, none⟩ = some (.int .u32 z.f2.f1) ∧ W'.cell? ⟨q, 6, none⟩ = some (.int .u8 z.f3) ∧ W'.cell? ⟨q, 7, none⟩ = some (.bool z.f4) := (h.mod mm (by simp)).all
end Go.Proofs.Ytdelbidaclddgaa.Ver
