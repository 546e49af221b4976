/- The law LatchRuns walked by hand; a seat's own text. -/
import Derived.Test.YtdelbidaclddgaaLatX
import Derived.Deep.LoopGhost
import Derived.Deep.Cut
import Derived.Lib.Hide
import Derived.StillTailTactics
import Derived.Deep.QuietTactic
import Derived.BigQuiet
import Derived.Outline
import Derived.Deep.RegionWith
import Derived.Deep.RegionHeld3
import Derived.WalkLawsBesides
namespace Go.Proofs.Ytdelbidaclddgaa.Lat
open Go.RowKit Go.Proofs.YtdelbidaclddgaaW.PrintWords
set_option linter.unusedVariables false
set_option linter.unusedSimpArgs false
open Go.Proofs.Ytdelbidaclddgaa.MLatchRuns Go.Proofs.YtdelbidaclddgaaW.PrintLast
/-! LatchRuns -/
attribute [local go_sem high] eqA32 eqA35 eqA63 eqA65
set_option maxHeartbeats 40000000 in
set_option maxRecDepth 100000 in
theorem runs_walk {A : Option Addr} {cc : Nat} {l : List S58} {w : World} (hr : Kd.C k58 w A l.length l) (hc : l.length ≤ cc) (hok : ∀ a ∈ l, okAct2 a) :
    Calls Try.prog 10 #[.slice A l.length cc] w fun e w' => e = .returned (.bool true) ∧ Mod w w' [] := by
  have hr63 : l.length ≤ 9223372036854775807 := hr.2.1
  have HR := Lib.hid (And.intro hr (And.intro hc hok))
  clear hr hc hok
  go_enter Try.func10, Try.ntmps10
  go_wp2_with fail
  refine (awake_calls _).mono ?_
  rintro e W1 ⟨rfl, m1⟩
  go_wp2_with fail
  refine (newT_calls _).mono ?_
  rintro e V1 ⟨t, fp0, rfl, hT, mv, hn⟩
  have hs1 := m1.size
  have HD := Lib.hid (Tr.start hT (m1.trans mv (fun _ hk => by cases hk)) (fun y hy => by have := hn y hy; omega))
  clear hT m1 mv hn hs1
  go_upto_region 4 with fail
  generalize V1.alloc (.cells #[.slice none 0 0] 79) = W2 at *
  generalize V1.heap.size = g at *
  go_wp2_with fail
  go_loopg [24] l.length (fun k i wr => ∃ (j : Nat) (fp fr : List Nat) (L : List S65), j ≤ l.length ∧ k = l.length - j ∧ i = .int .i64 j ∧ j ≤ 120 ∧ L.length ≤ 16 * j ∧ NN L ∧ Tr w wr t j g L L fp fr [])
  case atStart => exact ⟨0, _, _, [], Nat.zero_le _, rfl, rfl, by omega, by simp, (fun x hx => by cases hx), HD.out⟩
  case round =>
    obtain ⟨j, fp, fr, L, hj, rfl, rfl, hj3, hlen, hnn, hD⟩ := hrel
    have HN := Lib.hid hD
    clear hD HD
    have HA := Lib.hid hnn
    clear hnn
    by_cases hjl : j < l.length
    · obtain ⟨ad, Aw, cw, Ab, cb, rfl, hcw, hkw, hcb, hkb, a0, a1, a2, a3, a4, a5, a6, a7, a8, a9, a10, a11⟩ := act_cells2 HR.out.1 HN.out.hM j hjl
      have hjz : (j : Int) < (l.length : Int) := by omega
      by_cases h3 : j = 120
      · subst h3
        have e5 : ad.add (120 * 12) = ⟨ad.block, ad.off + 1440, none⟩ := by simp [Addr.add]
        rw [e5] at a0 a1 a2 a3 a4 a5 a6 a7 a8 a9 a10 a11
        dsimp only at a0 a1 a2 a3 a4 a5 a6 a7 a8 a9 a10 a11
        have hM := HN.out.hM.trans ((Mod.refl wr []).alloc (.cells #[.int .i64 l[120].f0, .int .u32 l[120].f1.f0, .int .u32 l[120].f1.f1, .int .u64 l[120].f2.f0, .int .u32 l[120].f2.f1, .int .u64 l[120].f3.f0, .int .u32 l[120].f3.f1, .string l[120].f4, .slice Aw l[120].f5.length cw, .string l[120].f6, .string l[120].f7, .slice Ab l[120].f8.length cb] 58)) (fun _ hk => by cases hk)
        have HM := Lib.hid hM
        clear hM hcw hkw hcb hkb
        go_wp2
        go_ret
        exact ⟨rfl, HM.out⟩
      · have h3z : ¬ ((j : Int) = 120) := by omega
        have h3b : ((j : Int) == 120) = false := by simpa using h3z
        have hw : IntKind.i64.wrap ((j : Int) + 1) = ((j + 1 : Nat) : Int) := by rw [i64w (by omega) (by omega)]; omega
        have hok := HR.out.2.2 l[j] (List.getElem_mem _)
        have HB0 := Lib.hid (HN.out.box (.cells #[.int .i64 l[j].f0, .int .u32 l[j].f1.f0, .int .u32 l[j].f1.f1, .int .u64 l[j].f2.f0, .int .u32 l[j].f2.f1, .int .u64 l[j].f3.f0, .int .u32 l[j].f3.f1, .string l[j].f4, .slice Aw l[j].f5.length cw, .string l[j].f6, .string l[j].f7, .slice Ab l[j].f8.length cb] 58))
        have HX : Hid ((inK l[j].f1.f0 l[j].f1.f1 ∧ l[j].f5.length ≤ 1000000000000000 ∧ l[j].f8.length ≤ 4611686018427387904) ∧ 0 ≤ l[j].f3.f0 ∧ 0 ≤ l[j].f3.f1) := Lib.hid hok
        have HW := Lib.hid (And.intro hkw hcw)
        have HB := Lib.hid (And.intro hcb hkb)
        clear hok hkw hkb hcb hcw HN
        generalize l[j] = y at *
        obtain ⟨x0, ⟨x1, x2⟩, ⟨x3, x4⟩, ⟨x5, x6⟩, x7, xw, x8, x9, xb⟩ := y
        dsimp only at a0 a1 a2 a3 a4 a5 a6 a7 a8 a9 a10 a11 HB0 HX HW HB ⊢
        go_upto_region 7 with fail
        generalize wr.alloc (.cells #[.int .i64 x0, .int .u32 x1, .int .u32 x2, .int .u64 x3, .int .u32 x4, .int .u64 x5, .int .u32 x6, .string x7, .slice Aw xw.length cw, .string x8, .string x9, .slice Ab xb.length cb] 58) = V at *
        generalize wr.heap.size = q at *
        clear a0 a1 a2 a3 a4 a5 a6 a7 a8 a9 a10 a11
        obtain ⟨k0, k1, k2, k3, k4, k5, k6, k7, k8, k9, k10, k11⟩ := tr_cells HB0.out (Mod.refl _ _)
        by_cases h200 : 200 < xw.length
        · have h200z : (200 : Int) < (xw.length : Int) := by omega
          have HM := Lib.hid HB0.out.hM
          go_wp2
          go_ret
          exact ⟨rfl, HM.out⟩
        · have h200z : ¬ ((200 : Int) < (xw.length : Int)) := by omega
          go_upto_block 2 with fail
          go_cut [] from 37 to 113 (fun wr => ∃ (fp fr : List Nat) (L : List S65), L.length ≤ 16 * (j + 1) ∧ NN L ∧ Tr w wr t (j + 1) g L L fp fr [(q, .cells #[.int .i64 x0, .int .u32 x1, .int .u32 x2, .int .u64 x3, .int .u32 x4, .int .u64 x5, .int .u32 x6, .string x7, .slice Aw xw.length cw, .string x8, .string x9, .slice Ab xb.length cb] 58)])
          case rest =>
            obtain ⟨fp, fr, L, hlen, hnn, hD⟩ := hcut
            have HS := Lib.hid hD
            have HN2 := Lib.hid hnn
            clear hD hnn
            obtain ⟨f1, hf1⟩ : ∃ f1, firstI x8 x9 x5 x6 xb L = f1 := ⟨_, rfl⟩
            obtain ⟨f2, hf2⟩ : ∃ f2, findI x8 L = f2 := ⟨_, rfl⟩
            obtain ⟨z1, hz1⟩ : ∃ z1, f1.getD z65 = z1 := ⟨_, rfl⟩
            obtain ⟨o1, ho1⟩ : ∃ o1, f1.isSome = o1 := ⟨_, rfl⟩
            obtain ⟨z2, hz2⟩ : ∃ z2, f2.getD z65 = z2 := ⟨_, rfl⟩
            obtain ⟨o2, ho2⟩ : ∃ o2, f2.isSome = o2 := ⟨_, rfl⟩
            have HZ1 := Lib.hid (And.intro hz1 ho1)
            have HZ2 := Lib.hid (And.intro hz2 ho2)
            have HF := Lib.hid (And.intro hf1 hf2)
            clear hf1 hf2 hz1 hz2 ho1 ho2
            obtain ⟨k0, k1, k2, k3, k4, k5, k6, k7, k8, k9, k10, k11⟩ := tr_cells HS.out (Mod.refl _ _)
            go_wp2_with fail
            refine Calls.mono (tr_first HS.out ?m1 (by omega) x8 x9 x5 x6 HB.out.2 HB.out.1 (by have := HX.out.1.2.2; omega) HF.out.1) ?_
            case m1 => (with_reducible repeat (first | exact Mod.refl _ _ | refine Mod.alloc ?_ _ | refine Mod.drewN ?_ _ | refine Mod.drew ?_))
            rw [ofEnd_z HZ1.out.1 HZ1.out.2]
            rintro e V1 ⟨rfl, hD1, -⟩
            have HS1 := Lib.hid (hD1.box (.cells #[.int .u32 z1.f0.f0, .int .u32 z1.f0.f1, .int .u64 z1.f1.f0, .int .u32 z1.f1.f1, .int .u64 z1.f2.f0, .int .u32 z1.f2.f1, .string z1.f3, .string z1.f4.f0, .string z1.f4.f1, .bool z1.f4.f2] 65))
            clear k0 k1 k2 k3 k4 k5 k6 k7 k8 k9 k10 k11 HS hD1
            go_upto_region 29 with fail
            generalize V1.alloc (.cells #[.int .u32 z1.f0.f0, .int .u32 z1.f0.f1, .int .u64 z1.f1.f0, .int .u32 z1.f1.f1, .int .u64 z1.f2.f0, .int .u32 z1.f2.f1, .string z1.f3, .string z1.f4.f0, .string z1.f4.f1, .bool z1.f4.f2] 65) = V1b at *
            generalize V1.heap.size = q1 at *
            have HS1r := Lib.hid (HS1.out.less (B' := [(q, .cells #[.int .i64 x0, .int .u32 x1, .int .u32 x2, .int .u64 x3, .int .u32 x4, .int .u64 x5, .int .u32 x6, .string x7, .slice Aw xw.length cw, .string x8, .string x9, .slice Ab xb.length cb] 58), (q1, .cells #[.int .u32 z1.f0.f0, .int .u32 z1.f0.f1, .int .u64 z1.f1.f0, .int .u32 z1.f1.f1, .int .u64 z1.f2.f0, .int .u32 z1.f2.f1, .string z1.f3, .string z1.f4.f0, .string z1.f4.f1, .bool z1.f4.f2] 65)]) (by simp))
            clear HS1
            obtain ⟨k0, k1, k2, k3, k4, k5, k6, k7, k8, k9, k10, k11⟩ := tr_cells HS1r.out (Mod.refl _ _)
            go_wp2_with fail
            refine Calls.mono (tr_rfirst HS1r.out ?m1 (by omega) x8 x9 x5 x6 HB.out.2 HB.out.1 (by have := HX.out.1.2.2; omega) HF.out.1) ?_
            case m1 => (with_reducible repeat (first | exact Mod.refl _ _ | refine Mod.alloc ?_ _ | refine Mod.drewN ?_ _ | refine Mod.drew ?_))
            rw [ofEnd_z HZ1.out.1 HZ1.out.2]
            rintro e V2 ⟨rfl, hD2, -⟩
            have HS2 := Lib.hid (hD2.box (.cells #[.int .u32 z1.f0.f0, .int .u32 z1.f0.f1, .int .u64 z1.f1.f0, .int .u32 z1.f1.f1, .int .u64 z1.f2.f0, .int .u32 z1.f2.f1, .string z1.f3, .string z1.f4.f0, .string z1.f4.f1, .bool z1.f4.f2] 65))
            clear k0 k1 k2 k3 k4 k5 k6 k7 k8 k9 k10 k11 HS1r hD2
            go_upto_region 30 with fail
            generalize V2.alloc (.cells #[.int .u32 z1.f0.f0, .int .u32 z1.f0.f1, .int .u64 z1.f1.f0, .int .u32 z1.f1.f1, .int .u64 z1.f2.f0, .int .u32 z1.f2.f1, .string z1.f3, .string z1.f4.f0, .string z1.f4.f1, .bool z1.f4.f2] 65) = V2b at *
            generalize V2.heap.size = q2 at *
            have HS2r := Lib.hid (HS2.out.less (B' := [(q, .cells #[.int .i64 x0, .int .u32 x1, .int .u32 x2, .int .u64 x3, .int .u32 x4, .int .u64 x5, .int .u32 x6, .string x7, .slice Aw xw.length cw, .string x8, .string x9, .slice Ab xb.length cb] 58), (q1, .cells #[.int .u32 z1.f0.f0, .int .u32 z1.f0.f1, .int .u64 z1.f1.f0, .int .u32 z1.f1.f1, .int .u64 z1.f2.f0, .int .u32 z1.f2.f1, .string z1.f3, .string z1.f4.f0, .string z1.f4.f1, .bool z1.f4.f2] 65), (q2, .cells #[.int .u32 z1.f0.f0, .int .u32 z1.f0.f1, .int .u64 z1.f1.f0, .int .u32 z1.f1.f1, .int .u64 z1.f2.f0, .int .u32 z1.f2.f1, .string z1.f3, .string z1.f4.f0, .string z1.f4.f1, .bool z1.f4.f2] 65)]) (by simp))
            clear HS2
            obtain ⟨k0, k1, k2, k3, k4, k5, k6, k7, k8, k9, k10, k11⟩ := tr_cells HS2r.out (Mod.refl _ _)
            go_wp2_with fail
            refine Calls.mono (tr_of HS2r.out ?m1 x8 HF.out.2) ?_
            case m1 => (with_reducible repeat (first | exact Mod.refl _ _ | refine Mod.alloc ?_ _ | refine Mod.drewN ?_ _ | refine Mod.drew ?_))
            rw [ofEnd_z HZ2.out.1 HZ2.out.2]
            rintro e V3 ⟨rfl, hD3, -⟩
            have HS3 := Lib.hid (hD3.box (.cells #[.int .u32 z2.f0.f0, .int .u32 z2.f0.f1, .int .u64 z2.f1.f0, .int .u32 z2.f1.f1, .int .u64 z2.f2.f0, .int .u32 z2.f2.f1, .string z2.f3, .string z2.f4.f0, .string z2.f4.f1, .bool z2.f4.f2] 65))
            clear k0 k1 k2 k3 k4 k5 k6 k7 k8 k9 k10 k11 HS2r hD3
            go_upto_region 31 with fail
            generalize V3.alloc (.cells #[.int .u32 z2.f0.f0, .int .u32 z2.f0.f1, .int .u64 z2.f1.f0, .int .u32 z2.f1.f1, .int .u64 z2.f2.f0, .int .u32 z2.f2.f1, .string z2.f3, .string z2.f4.f0, .string z2.f4.f1, .bool z2.f4.f2] 65) = V3b at *
            generalize V3.heap.size = q3 at *
            have HS3r := Lib.hid (HS3.out.less (B' := [(q, .cells #[.int .i64 x0, .int .u32 x1, .int .u32 x2, .int .u64 x3, .int .u32 x4, .int .u64 x5, .int .u32 x6, .string x7, .slice Aw xw.length cw, .string x8, .string x9, .slice Ab xb.length cb] 58), (q1, .cells #[.int .u32 z1.f0.f0, .int .u32 z1.f0.f1, .int .u64 z1.f1.f0, .int .u32 z1.f1.f1, .int .u64 z1.f2.f0, .int .u32 z1.f2.f1, .string z1.f3, .string z1.f4.f0, .string z1.f4.f1, .bool z1.f4.f2] 65), (q2, .cells #[.int .u32 z1.f0.f0, .int .u32 z1.f0.f1, .int .u64 z1.f1.f0, .int .u32 z1.f1.f1, .int .u64 z1.f2.f0, .int .u32 z1.f2.f1, .string z1.f3, .string z1.f4.f0, .string z1.f4.f1, .bool z1.f4.f2] 65), (q3, .cells #[.int .u32 z2.f0.f0, .int .u32 z2.f0.f1, .int .u64 z2.f1.f0, .int .u32 z2.f1.f1, .int .u64 z2.f2.f0, .int .u32 z2.f2.f1, .string z2.f3, .string z2.f4.f0, .string z2.f4.f1, .bool z2.f4.f2] 65)]) (by simp))
            clear HS3
            obtain ⟨k0, k1, k2, k3, k4, k5, k6, k7, k8, k9, k10, k11⟩ := tr_cells HS3r.out (Mod.refl _ _)
            go_wp2_with fail
            refine Calls.mono (tr_rof HS3r.out ?m1 (by omega) x8 HF.out.2) ?_
            case m1 => (with_reducible repeat (first | exact Mod.refl _ _ | refine Mod.alloc ?_ _ | refine Mod.drewN ?_ _ | refine Mod.drew ?_))
            rw [ofEnd_z HZ2.out.1 HZ2.out.2]
            rintro e V4 ⟨rfl, hD4, -⟩
            have HS4 := Lib.hid (hD4.box (.cells #[.int .u32 z2.f0.f0, .int .u32 z2.f0.f1, .int .u64 z2.f1.f0, .int .u32 z2.f1.f1, .int .u64 z2.f2.f0, .int .u32 z2.f2.f1, .string z2.f3, .string z2.f4.f0, .string z2.f4.f1, .bool z2.f4.f2] 65))
            clear k0 k1 k2 k3 k4 k5 k6 k7 k8 k9 k10 k11 HS3r hD4
            go_upto_region 32 with fail
            generalize V4.alloc (.cells #[.int .u32 z2.f0.f0, .int .u32 z2.f0.f1, .int .u64 z2.f1.f0, .int .u32 z2.f1.f1, .int .u64 z2.f2.f0, .int .u32 z2.f2.f1, .string z2.f3, .string z2.f4.f0, .string z2.f4.f1, .bool z2.f4.f2] 65) = Vd at *
            generalize V4.heap.size = q4 at *
            have HC := Lib.hid (HS4.out.less (B' := [(q, .cells #[.int .i64 x0, .int .u32 x1, .int .u32 x2, .int .u64 x3, .int .u32 x4, .int .u64 x5, .int .u32 x6, .string x7, .slice Aw xw.length cw, .string x8, .string x9, .slice Ab xb.length cb] 58), (q1, .cells #[.int .u32 z1.f0.f0, .int .u32 z1.f0.f1, .int .u64 z1.f1.f0, .int .u32 z1.f1.f1, .int .u64 z1.f2.f0, .int .u32 z1.f2.f1, .string z1.f3, .string z1.f4.f0, .string z1.f4.f1, .bool z1.f4.f2] 65), (q2, .cells #[.int .u32 z1.f0.f0, .int .u32 z1.f0.f1, .int .u64 z1.f1.f0, .int .u32 z1.f1.f1, .int .u64 z1.f2.f0, .int .u32 z1.f2.f1, .string z1.f3, .string z1.f4.f0, .string z1.f4.f1, .bool z1.f4.f2] 65), (q3, .cells #[.int .u32 z2.f0.f0, .int .u32 z2.f0.f1, .int .u64 z2.f1.f0, .int .u32 z2.f1.f1, .int .u64 z2.f2.f0, .int .u32 z2.f2.f1, .string z2.f3, .string z2.f4.f0, .string z2.f4.f1, .bool z2.f4.f2] 65), (q4, .cells #[.int .u32 z2.f0.f0, .int .u32 z2.f0.f1, .int .u64 z2.f1.f0, .int .u32 z2.f1.f1, .int .u64 z2.f2.f0, .int .u32 z2.f2.f1, .string z2.f3, .string z2.f4.f0, .string z2.f4.f1, .bool z2.f4.f2] 65)]) (by simp))
            clear HS4
            obtain ⟨A0, k0, hg0, hk0, hC0⟩ := HC.out.hR.get
            have HG := Lib.hid (And.intro hg0 (And.intro hk0 hC0))
            have HL : Hid (∀ W', Mod Vd W' [] → (W'.cell? ⟨q1, 0, none⟩ = some (.int .u32 z1.f0.f0) ∧ W'.cell? ⟨q1, 1, none⟩ = some (.int .u32 z1.f0.f1) ∧ W'.cell? ⟨q1, 2, none⟩ = some (.int .u64 z1.f1.f0) ∧ W'.cell? ⟨q1, 3, none⟩ = some (.int .u32 z1.f1.f1) ∧ W'.cell? ⟨q1, 4, none⟩ = some (.int .u64 z1.f2.f0) ∧ W'.cell? ⟨q1, 5, none⟩ = some (.int .u32 z1.f2.f1) ∧ W'.cell? ⟨q1, 6, none⟩ = some (.string z1.f3) ∧ W'.cell? ⟨q1, 7, none⟩ = some (.string z1.f4.f0) ∧ W'.cell? ⟨q1, 8, none⟩ = some (.string z1.f4.f1) ∧ W'.cell? ⟨q1, 9, none⟩ = some (.bool z1.f4.f2)) ∧ (W'.cell? ⟨q2, 0, none⟩ = some (.int .u32 z1.f0.f0) ∧ W'.cell? ⟨q2, 1, none⟩ = some (.int .u32 z1.f0.f1) ∧ W'.cell? ⟨q2, 2, none⟩ = some (.int .u64 z1.f1.f0) ∧ W'.cell? ⟨q2, 3, none⟩ = some (.int .u32 z1.f1.f1) ∧ W'.cell? ⟨q2, 4, none⟩ = some (.int .u64 z1.f2.f0) ∧ W'.cell? ⟨q2, 5, none⟩ = some (.int .u32 z1.f2.f1) ∧ W'.cell? ⟨q2, 6, none⟩ = some (.string z1.f3) ∧ W'.cell? ⟨q2, 7, none⟩ = some (.string z1.f4.f0) ∧ W'.cell? ⟨q2, 8, none⟩ = some (.string z1.f4.f1) ∧ W'.cell? ⟨q2, 9, none⟩ = some (.bool z1.f4.f2)) ∧ (W'.cell? ⟨q3, 0, none⟩ = some (.int .u32 z2.f0.f0) ∧ W'.cell? ⟨q3, 1, none⟩ = some (.int .u32 z2.f0.f1) ∧ W'.cell? ⟨q3, 2, none⟩ = some (.int .u64 z2.f1.f0) ∧ W'.cell? ⟨q3, 3, none⟩ = some (.int .u32 z2.f1.f1) ∧ W'.cell? ⟨q3, 4, none⟩ = some (.int .u64 z2.f2.f0) ∧ W'.cell? ⟨q3, 5, none⟩ = some (.int .u32 z2.f2.f1) ∧ W'.cell? ⟨q3, 6, none⟩ = some (.string z2.f3) ∧ W'.cell? ⟨q3, 7, none⟩ = some (.string z2.f4.f0) ∧ W'.cell? ⟨q3, 8, none⟩ = some (.string z2.f4.f1) ∧ W'.cell? ⟨q3, 9, none⟩ = some (.bool z2.f4.f2)) ∧ (W'.cell? ⟨q4, 0, none⟩ = some (.int .u32 z2.f0.f0) ∧ W'.cell? ⟨q4, 1, none⟩ = some (.int .u32 z2.f0.f1) ∧ W'.cell? ⟨q4, 2, none⟩ = some (.int .u64 z2.f1.f0) ∧ W'.cell? ⟨q4, 3, none⟩ = some (.int .u32 z2.f1.f1) ∧ W'.cell? ⟨q4, 4, none⟩ = some (.int .u64 z2.f2.f0) ∧ W'.cell? ⟨q4, 5, none⟩ = some (.int .u32 z2.f2.f1) ∧ W'.cell? ⟨q4, 6, none⟩ = some (.string z2.f3) ∧ W'.cell? ⟨q4, 7, none⟩ = some (.string z2.f4.f0) ∧ W'.cell? ⟨q4, 8, none⟩ = some (.string z2.f4.f1) ∧ W'.cell? ⟨q4, 9, none⟩ = some (.bool z2.f4.f2)) ∧ (W'.cell? ⟨q, 0, none⟩ = some (.int .i64 x0) ∧ W'.cell? ⟨q, 1, none⟩ = some (.int .u32 x1) ∧ W'.cell? ⟨q, 2, none⟩ = some (.int .u32 x2) ∧ W'.cell? ⟨q, 3, none⟩ = some (.int .u64 x3) ∧ W'.cell? ⟨q, 4, none⟩ = some (.int .u32 x4) ∧ W'.cell? ⟨q, 5, none⟩ = some (.int .u64 x5) ∧ W'.cell? ⟨q, 6, none⟩ = some (.int .u32 x6) ∧ W'.cell? ⟨q, 7, none⟩ = some (.string x7) ∧ W'.cell? ⟨q, 8, none⟩ = some (.slice Aw xw.length cw) ∧ W'.cell? ⟨q, 9, none⟩ = some (.string x8) ∧ W'.cell? ⟨q, 10, none⟩ = some (.string x9) ∧ W'.cell? ⟨q, 11, none⟩ = some (.slice Ab xb.length cb)) ∧ W'.cell? ⟨g, 0, none⟩ = some (.slice A0 L.length k0)) := Lib.hid fun W' mm =>
              ⟨IB.all (HC.out.at_ (q := q1) (by simp) mm), IB.all (HC.out.at_ (q := q2) (by simp) mm), IB.all (HC.out.at_ (q := q3) (by simp) mm), IB.all (HC.out.at_ (q := q4) (by simp) mm), tr_cells HC.out mm, cellM HG.out.1 mm⟩
            have hkeep := HL.out Vd (Mod.refl _ _)
            obtain ⟨ys, hys⟩ : ∃ ys, byL L x1 x2 = ys := ⟨_, rfl⟩
            have hylen : ys.length ≤ 1000000 := by rw [← hys]; exact Nat.le_trans (byL_len L x1 x2) (by omega)
            obtain ⟨rb, hrb⟩ : ∃ rb, rightW xw = rb := ⟨_, rfl⟩
            have HQ2 := Lib.hid (And.intro hys hrb)
            clear hys hrb hg0 hk0 hC0
            go_region_held3 (fun W' => (W'.cell? ⟨q1, 0, none⟩ = some (.int .u32 z1.f0.f0) ∧ W'.cell? ⟨q1, 1, none⟩ = some (.int .u32 z1.f0.f1) ∧ W'.cell? ⟨q1, 2, none⟩ = some (.int .u64 z1.f1.f0) ∧ W'.cell? ⟨q1, 3, none⟩ = some (.int .u32 z1.f1.f1) ∧ W'.cell? ⟨q1, 4, none⟩ = some (.int .u64 z1.f2.f0) ∧ W'.cell? ⟨q1, 5, none⟩ = some (.int .u32 z1.f2.f1) ∧ W'.cell? ⟨q1, 6, none⟩ = some (.string z1.f3) ∧ W'.cell? ⟨q1, 7, none⟩ = some (.string z1.f4.f0) ∧ W'.cell? ⟨q1, 8, none⟩ = some (.string z1.f4.f1) ∧ W'.cell? ⟨q1, 9, none⟩ = some (.bool z1.f4.f2)) ∧ (W'.cell? ⟨q2, 0, none⟩ = some (.int .u32 z1.f0.f0) ∧ W'.cell? ⟨q2, 1, none⟩ = some (.int .u32 z1.f0.f1) ∧ W'.cell? ⟨q2, 2, none⟩ = some (.int .u64 z1.f1.f0) ∧ W'.cell? ⟨q2, 3, none⟩ = some (.int .u32 z1.f1.f1) ∧ W'.cell? ⟨q2, 4, none⟩ = some (.int .u64 z1.f2.f0) ∧ W'.cell? ⟨q2, 5, none⟩ = some (.int .u32 z1.f2.f1) ∧ W'.cell? ⟨q2, 6, none⟩ = some (.string z1.f3) ∧ W'.cell? ⟨q2, 7, none⟩ = some (.string z1.f4.f0) ∧ W'.cell? ⟨q2, 8, none⟩ = some (.string z1.f4.f1) ∧ W'.cell? ⟨q2, 9, none⟩ = some (.bool z1.f4.f2)) ∧ (W'.cell? ⟨q3, 0, none⟩ = some (.int .u32 z2.f0.f0) ∧ W'.cell? ⟨q3, 1, none⟩ = some (.int .u32 z2.f0.f1) ∧ W'.cell? ⟨q3, 2, none⟩ = some (.int .u64 z2.f1.f0) ∧ W'.cell? ⟨q3, 3, none⟩ = some (.int .u32 z2.f1.f1) ∧ W'.cell? ⟨q3, 4, none⟩ = some (.int .u64 z2.f2.f0) ∧ W'.cell? ⟨q3, 5, none⟩ = some (.int .u32 z2.f2.f1) ∧ W'.cell? ⟨q3, 6, none⟩ = some (.string z2.f3) ∧ W'.cell? ⟨q3, 7, none⟩ = some (.string z2.f4.f0) ∧ W'.cell? ⟨q3, 8, none⟩ = some (.string z2.f4.f1) ∧ W'.cell? ⟨q3, 9, none⟩ = some (.bool z2.f4.f2)) ∧ (W'.cell? ⟨q4, 0, none⟩ = some (.int .u32 z2.f0.f0) ∧ W'.cell? ⟨q4, 1, none⟩ = some (.int .u32 z2.f0.f1) ∧ W'.cell? ⟨q4, 2, none⟩ = some (.int .u64 z2.f1.f0) ∧ W'.cell? ⟨q4, 3, none⟩ = some (.int .u32 z2.f1.f1) ∧ W'.cell? ⟨q4, 4, none⟩ = some (.int .u64 z2.f2.f0) ∧ W'.cell? ⟨q4, 5, none⟩ = some (.int .u32 z2.f2.f1) ∧ W'.cell? ⟨q4, 6, none⟩ = some (.string z2.f3) ∧ W'.cell? ⟨q4, 7, none⟩ = some (.string z2.f4.f0) ∧ W'.cell? ⟨q4, 8, none⟩ = some (.string z2.f4.f1) ∧ W'.cell? ⟨q4, 9, none⟩ = some (.bool z2.f4.f2)) ∧ (W'.cell? ⟨q, 0, none⟩ = some (.int .i64 x0) ∧ W'.cell? ⟨q, 1, none⟩ = some (.int .u32 x1) ∧ W'.cell? ⟨q, 2, none⟩ = some (.int .u32 x2) ∧ W'.cell? ⟨q, 3, none⟩ = some (.int .u64 x3) ∧ W'.cell? ⟨q, 4, none⟩ = some (.int .u32 x4) ∧ W'.cell? ⟨q, 5, none⟩ = some (.int .u64 x5) ∧ W'.cell? ⟨q, 6, none⟩ = some (.int .u32 x6) ∧ W'.cell? ⟨q, 7, none⟩ = some (.string x7) ∧ W'.cell? ⟨q, 8, none⟩ = some (.slice Aw xw.length cw) ∧ W'.cell? ⟨q, 9, none⟩ = some (.string x8) ∧ W'.cell? ⟨q, 10, none⟩ = some (.string x9) ∧ W'.cell? ⟨q, 11, none⟩ = some (.slice Ab xb.length cb)) ∧ W'.cell? ⟨g, 0, none⟩ = some (.slice A0 L.length k0))
              (first | exact HL.out _ (by (with_reducible repeat (first | exact N41.out | exact N31.out | exact N35b.out | exact N27.out | exact N35.out | exact N40.out | exact N29.out | exact Mod.refl _ _ | refine Mod.drewN ?_ _ | refine Mod.drew ?_)))) (first
              | (go_at_call 29
                 (
                   refine Calls.mono (tr_by HC.out ?m1 (by omega) x1 x2 HX.out.1.1 HQ2.out.1) ?_
                   case m1 => (with_reducible repeat (first | exact Mod.refl _ _ | refine Mod.alloc ?_ _ | refine Mod.drewN ?_ _ | refine Mod.drew ?_))
                   rintro e X1 ⟨A5, c5, rfl, h5, m5⟩
                   have n5 : Mod Vd X1 [] := by
                     refine Mod.trans ?_ m5 (fun _ hk => by cases hk)
                     (with_reducible repeat (first | exact Mod.refl _ _ | refine Mod.alloc ?_ _ | refine Mod.drewN ?_ _ | refine Mod.drew ?_))
                   have hk29 := HL.out _ n5
                   have N29 := Lib.hid n5
                   have H5 := Lib.hid h5
                   clear n5 m5 h5))
              | (go_at_call 40
                 (
                   refine Calls.mono (tr_rby HC.out ?m1 (by omega) x1 x2 HQ2.out.1) ?_
                   case m1 => (with_reducible repeat (first | exact N29.out | exact Mod.refl _ _ | refine Mod.drewN ?_ _ | refine Mod.drew ?_))
                   rintro e X2 ⟨A6, c6, rfl, h6, m6⟩
                   have n6 : Mod X1 X2 [] := by
                     refine Mod.trans ?_ m6 (fun _ hk => by cases hk)
                     (with_reducible repeat (first | exact Mod.refl _ _ | refine Mod.alloc ?_ _ | refine Mod.drewN ?_ _ | refine Mod.drew ?_))
                   have N40 := Lib.hid (N29.out.trans n6 (by simp))
                   have hk40 := HL.out _ N40.out
                   have H6 := Lib.hid (And.intro (And.intro H5.out.1 (Kd.C_below H5.out.2 n6.bel)) h6)
                   clear n6 m6 h6 H5))
              | (go_at_call 35
                 (
                   refine Calls.mono (same_calls2 hylen H6.out.1 H6.out.2 ?m1) ?_
                   case m1 => (with_reducible repeat (first | exact Mod.refl _ _ | refine Mod.alloc ?_ _ | refine Mod.drewN ?_ _ | refine Mod.drew ?_))
                   rintro e X3 ⟨rfl, m7⟩
                   have n7 : Mod X2 X3 [] := by
                     refine Mod.trans ?_ m7 (fun _ hk => by cases hk)
                     (with_reducible repeat (first | exact Mod.refl _ _ | refine Mod.alloc ?_ _ | refine Mod.drewN ?_ _ | refine Mod.drew ?_))
                   have N35 := Lib.hid (N40.out.trans n7 (by simp))
                   have hk35 := HL.out _ N35.out
                   clear n7 m7 H6))
              | (go_at_call 27
                 (
                   refine Calls.mono (tr_all HC.out ?m1 (by omega)) ?_
                   case m1 => (with_reducible repeat (first | exact N35.out | exact Mod.refl _ _ | refine Mod.drewN ?_ _ | refine Mod.drew ?_))
                   rintro e X4 ⟨A7, c7, rfl, h7, m8⟩
                   have n8 : Mod X3 X4 [] := by
                     refine Mod.trans ?_ m8 (fun _ hk => by cases hk)
                     (with_reducible repeat (first | exact Mod.refl _ _ | refine Mod.alloc ?_ _ | refine Mod.drewN ?_ _ | refine Mod.drew ?_))
                   have N27 := Lib.hid (N35.out.trans n8 (by simp))
                   have hk27 := HL.out _ N27.out
                   have H8 := Lib.hid h7
                   clear n8 m8 h7))
              | (go_at_call 35
                 (
                   refine Calls.mono (same_calls2 (by omega) H8.out ⟨HG.out.2.1, Kd.C_below HG.out.2.2 N27.out.bel⟩ ?m1) ?_
                   case m1 => (with_reducible repeat (first | exact Mod.refl _ _ | refine Mod.alloc ?_ _ | refine Mod.drewN ?_ _ | refine Mod.drew ?_))
                   rintro e X5 ⟨rfl, m9⟩
                   have n9 : Mod X4 X5 [] := by
                     refine Mod.trans ?_ m9 (fun _ hk => by cases hk)
                     (with_reducible repeat (first | exact Mod.refl _ _ | refine Mod.alloc ?_ _ | refine Mod.drewN ?_ _ | refine Mod.drew ?_))
                   have N35b := Lib.hid (N27.out.trans n9 (by simp))
                   have hk35b := HL.out _ N35b.out
                   clear n9 m9 H8))
              | (go_at_call 31
                 (
                   refine Calls.mono (tr_right HC.out ?m1 HW.out.1 HW.out.2 HQ2.out.2) ?_
                   case m1 => (with_reducible repeat (first | exact N35b.out | exact Mod.refl _ _ | refine Mod.drewN ?_ _ | refine Mod.drew ?_))
                   rintro e X6 ⟨rfl, m10⟩
                   have n10 : Mod X5 X6 [] := by
                     refine Mod.trans ?_ m10 (fun _ hk => by cases hk)
                     (with_reducible repeat (first | exact Mod.refl _ _ | refine Mod.alloc ?_ _ | refine Mod.drewN ?_ _ | refine Mod.drew ?_))
                   have N31 := Lib.hid (N35b.out.trans n10 (by simp))
                   have hk31 := HL.out _ N31.out
                   clear n10 m10))
              | (go_at_call 41
                 (
                   refine Calls.mono (tr_rright HC.out ?m1 HW.out.1 HW.out.2 (by omega) HQ2.out.2) ?_
                   case m1 => (with_reducible repeat (first | exact N31.out | exact Mod.refl _ _ | refine Mod.drewN ?_ _ | refine Mod.drew ?_))
                   rintro e X7 ⟨rfl, m11⟩
                   have n11 : Mod X6 X7 [] := by
                     refine Mod.trans ?_ m11 (fun _ hk => by cases hk)
                     (with_reducible repeat (first | exact Mod.refl _ _ | refine Mod.alloc ?_ _ | refine Mod.drewN ?_ _ | refine Mod.drew ?_))
                   have N41 := Lib.hid (N31.out.trans n11 (by simp))
                   have hk41 := HL.out _ N41.out
                   clear n11 m11)))
            all_goals
              go_wp2
              go_roundg (l.length - (j + 1))
              case measure => omega
              case rel => exact ⟨j + 1, fp, fr, L, by omega, rfl, by rw [show ((j + 1 : Nat) : Int) = (j : Int) + 1 by omega], by omega, by omega, HN2.out, (HC.out.mod (by (with_reducible repeat (first | exact N41.out | exact N31.out | exact N35b.out | exact N27.out | exact N35.out | exact N40.out | exact N29.out | exact Mod.refl _ _ | refine Mod.drewN ?_ _ | refine Mod.drew ?_)))).less (by simp)⟩

          case first =>
            by_cases w0 : x0 = 0
            · subst w0
              go_upto_region 12 with fail
              have HE0 := Lib.hid (row_empty V)
              obtain ⟨p0, p1, p2, p3, p4, p5, p6, p7, p8, p9, p10, p11⟩ := tr_cells HB0.out ((Mod.refl V []).alloc (.cells #[] 63))
              clear p0 p1 p2 p3 p4 p5 p6 p7 p9 p10 p11 k0 k1 k2 k3 k4 k5 k6 k7 k8 k9 k10 k11
              go_wp2_with (first | (at_builtin; go_loud (refine Kd.R_append_rows k63 (w0 := V) (W := V.alloc (.cells #[] 63)) V.heap.size rfl _ _ 56 63 _ 40 rfl Try.underlying56 info63 rfl (by decide) (by decide) (.slice (some ⟨V.heap.size, 0, none⟩) 0 0) [] xw Aw xw.length cw (fun _ => True) (fun _ => False) rfl rfl HE0.out ?b0 (fun x cs h => h) (fun k h => h.elim) (fun _ _ => trivial) ?b1 ?b3 ?b2 ?_)) | fail)
              case b0 => exact w_reads (Kd.C_below HW.out.1 HB0.out.hM.bel) (below_alloc (Below.refl _ _) _) _ _ _
              case b1 => exact below_alloc (Below.refl _ _) _
              case b2 => first | omega | (simp; omega)
              all_goals try (case b3 => simp)
              intro v9 V9 o9 b9 _ _
              have o9 : k63.R 63 V9 V.heap.size (fun _ => True) v9 xw := o9
              have HI := Lib.hid (Ti.made HB0.out (Mod.of_below b9) o9)
              obtain ⟨A9, c9, rfl, hc9, -⟩ := HI.out.hI.C
              clear o9 b9 p8 HB0 HE0
              go_upto_region 13 with fail
              have hk0 := tr_cells HI.out.hD (Mod.refl _ _)
              obtain ⟨r, hr⟩ : ∃ r, layB L x1 x2 ⟨x3, x4⟩ ⟨x5, x6⟩ x7 xw = r := ⟨_, rfl⟩
              obtain ⟨L', hL'⟩ : ∃ L', layL L x1 x2 ⟨x3, x4⟩ ⟨x5, x6⟩ x7 xw = L' := ⟨_, rfl⟩
              have HQ := Lib.hid (And.intro hr hL')
              have hlen' : L'.length ≤ L.length + 16 := by rw [← hL']; exact layL_len _ _ _ _ _ _ _
              have HN' : Hid (NN L') := Lib.hid (by rw [← hL']; exact HA.out.lay _ _ _ HX.out.2 _ _)
              clear hr hL'
              have HS := HI
              clear HI
              go_region_held3 (fun W' => W'.cell? ⟨q, 0, none⟩ = some (.int .i64 0) ∧ W'.cell? ⟨q, 1, none⟩ = some (.int .u32 x1) ∧ W'.cell? ⟨q, 2, none⟩ = some (.int .u32 x2) ∧ W'.cell? ⟨q, 3, none⟩ = some (.int .u64 x3) ∧ W'.cell? ⟨q, 4, none⟩ = some (.int .u32 x4) ∧ W'.cell? ⟨q, 5, none⟩ = some (.int .u64 x5) ∧ W'.cell? ⟨q, 6, none⟩ = some (.int .u32 x6) ∧ W'.cell? ⟨q, 7, none⟩ = some (.string x7) ∧ W'.cell? ⟨q, 8, none⟩ = some (.slice Aw xw.length cw) ∧ W'.cell? ⟨q, 9, none⟩ = some (.string x8) ∧ W'.cell? ⟨q, 10, none⟩ = some (.string x9) ∧ W'.cell? ⟨q, 11, none⟩ = some (.slice Ab xb.length cb))
                (first | exact tr_cells HS.out.hD (by (with_reducible repeat (first | exact Mod.refl _ _ | refine Mod.alloc ?_ _ | refine Mod.drewN ?_ _ | refine Mod.drew ?_)))) (first
                | (go_at_call 26
                   have K := HS
                   clear HS
                   (
                     refine Calls.mono (ti_lay K.out ?m1 (by omega) (by omega) x1 x2 HX.out.1.1 ⟨x3, x4⟩ ⟨x5, x6⟩ x7 hc9 (by omega) HQ.out.1 HQ.out.2) ?_
                     case m1 => (with_reducible repeat (first | exact Mod.refl _ _ | refine Mod.alloc ?_ _ | refine Mod.drewN ?_ _ | refine Mod.drew ?_))
                     rintro e Vn ⟨rfl, fpn, hD⟩
                     have hkn := tr_cells hD.hD (Mod.refl _ _)
                     have HS := Lib.hid hD
                     clear K hD))
                | (go_at_call 34
                   have K := HS
                   clear HS
                   (
                     refine Calls.mono (ti_rlay K.out ?m1 (by omega) x1 x2 ⟨x3, x4⟩ ⟨x5, x6⟩ x7 HW.out.1 HW.out.2 (by omega) HQ.out.1 HQ.out.2) ?_
                     case m1 => (with_reducible repeat (first | exact Mod.refl _ _ | refine Mod.alloc ?_ _ | refine Mod.drewN ?_ _ | refine Mod.drew ?_))
                     rintro e Vn ⟨rfl, frn, hD⟩
                     have hkn := tr_cells hD.hD (Mod.refl _ _)
                     have HS := Lib.hid hD
                     clear K hD)))
              all_goals
                clear hk0
                go_upto_region 15 with fail
                go_wp2_with fail
                obtain ⟨Wo, hWo⟩ : ∃ Wo, Wo = Vn := ⟨_, rfl⟩
                go_loopg [69] xw.length (fun kk ix wq => ∃ i : Nat, i ≤ xw.length ∧ kk = xw.length - i ∧ ix = .int .i64 i ∧ Ti w wq t (j + 1) g L' L' fpn frn [(q, .cells #[.int .i64 0, .int .u32 x1, .int .u32 x2, .int .u64 x3, .int .u32 x4, .int .u64 x5, .int .u32 x6, .string x7, .slice Aw xw.length cw, .string x8, .string x9, .slice Ab xb.length cb] 58)] (.slice A9 xw.length c9) (mixO xw i))
                case atStart => exact ⟨0, Nat.zero_le _, rfl, rfl, HS.out⟩
                case round =>
                  obtain ⟨i, hi, rfl, rfl, hTi⟩ := hrel
                  have HT := Lib.hid hTi
                  clear hTi
                  by_cases hil : i < xw.length
                  · have hiz : (i : Int) < (xw.length : Int) := by omega
                    have hwi : IntKind.i64.wrap ((i : Int) + 1) = ((i + 1 : Nat) : Int) := by rw [i64w (by omega) (by omega)]; omega
                    have hml := mixO_len xw (Nat.le_of_lt hil)
                    have H2 := HT.out
                    rw [← hml] at H2
                    obtain ⟨gb, eA, ⟨d0, d1, d2⟩, fz, hset⟩ := H2.at_ i (by omega)
                    rw [mixO_get xw hil (by omega)] at d0 d1 d2 hset
                    rw [hml] at hset
                    obtain ⟨k0, k1, k2, k3, k4, k5, k6, k7, k8, k9, k10, k11⟩ := tr_cells HT.out.hD (Mod.refl _ _)
                    obtain ⟨ae, eB, b0, b1, b2⟩ := wr_cells (Kd.C_below HW.out.1 HT.out.hD.hM.bel) i hil
                    have hnx := mixO_next xw hil
                    obtain ⟨y, hy⟩ : ∃ y, xw[i] = y := ⟨_, rfl⟩
                    rw [hy] at d0 d1 d2 hset b0 b1 b2 hnx
                    have HH := Lib.hid hnx
                    have HYh := Lib.hid hy
                    subst eA eB
                    clear hset hnx hy k0 k1 k2 k3 k4 k5 k6 k7 k9 k10 k11 H2 fz
                    go_upto_region 18 with fail
                    go_quiet (fail)
                    generalize hW4 : wr.drewN _ = W4 at *
                    have m4 : Mod wr W4 [] := by rw [← hW4]; exact (Mod.refl wr []).drewN _
                    have H4 := Lib.hid (HT.out.mod m4)
                    have H4b := H4.out
                    rw [← hml] at H4b
                    obtain ⟨gb', eA', ⟨e0, e1, e2⟩, fz, hset⟩ := H4b.at_ i (by omega)
                    injection eA' with eA'
                    injection eA' with eA'
                    subst eA'
                    rw [mixO_get xw hil (by omega)] at e0 e1 e2 hset
                    rw [hml] at hset
                    have HSet := Lib.hid hset
                    clear hW4 m4 HT b0 b1 b2 d0 d1 d2 hset H4b k8
                    go_wp2
                    go_roundg (xw.length - (i + 1))
                    case measure => omega
                    case rel => exact ⟨i + 1, by omega, rfl, by rw [show ((i + 1 : Nat) : Int) = (i : Int) + 1 by omega], by rw [HH.out, ← HYh.out]; exact HSet.out otherB⟩
                  · obtain rfl : i = xw.length := by omega
                    have hiz : ¬ ((xw.length : Int) < (xw.length : Int)) := by omega
                    go_wp2
                    go_meet
                    case rel => exact ⟨fpn, frn, L', by omega, HN'.out, HT.out.hD⟩

            · by_cases w1 : x0 = 1
              · subst w1
                go_upto_region 23 with fail
                obtain ⟨ys, hys⟩ : ∃ ys, byL L x1 x2 = ys := ⟨_, rfl⟩
                obtain ⟨L', hL'⟩ : ∃ L', offL L x1 x2 = L' := ⟨_, rfl⟩
                have HQ := Lib.hid (And.intro hys hL')
                have hlen' : L'.length ≤ L.length := by rw [← hL']; exact offL_len _ _ _
                have hylen : ys.length ≤ 1000000 := by rw [← hys]; exact Nat.le_trans (byL_len L x1 x2) (by omega)
                have HN' : Hid (NN L') := Lib.hid (by rw [← hL']; exact HA.out.off _ _)
                clear hys hL' k0 k1 k2 k3 k4 k5 k6 k7 k8 k9 k10 k11
                have hk0 := tr_cells HB0.out (Mod.refl _ _)
                have HS := HB0
                clear HB0
                go_region_held3 (fun W' => W'.cell? ⟨q, 0, none⟩ = some (.int .i64 1) ∧ W'.cell? ⟨q, 1, none⟩ = some (.int .u32 x1) ∧ W'.cell? ⟨q, 2, none⟩ = some (.int .u32 x2) ∧ W'.cell? ⟨q, 3, none⟩ = some (.int .u64 x3) ∧ W'.cell? ⟨q, 4, none⟩ = some (.int .u32 x4) ∧ W'.cell? ⟨q, 5, none⟩ = some (.int .u64 x5) ∧ W'.cell? ⟨q, 6, none⟩ = some (.int .u32 x6) ∧ W'.cell? ⟨q, 7, none⟩ = some (.string x7) ∧ W'.cell? ⟨q, 8, none⟩ = some (.slice Aw xw.length cw) ∧ W'.cell? ⟨q, 9, none⟩ = some (.string x8) ∧ W'.cell? ⟨q, 10, none⟩ = some (.string x9) ∧ W'.cell? ⟨q, 11, none⟩ = some (.slice Ab xb.length cb))
                  (first | exact tr_cells HS.out (by (with_reducible repeat (first | exact Mod.refl _ _ | refine Mod.alloc ?_ _ | refine Mod.drewN ?_ _ | refine Mod.drew ?_)))) (first
                  | (go_at_call 30
                     have K := HS
                     clear HS
                     (
                       refine Calls.mono (tr_cut K.out ?m1 (by omega) x1 x2 HX.out.1.1 HQ.out.1 HQ.out.2) ?_
                       case m1 => (with_reducible repeat (first | exact Mod.refl _ _ | refine Mod.alloc ?_ _ | refine Mod.drewN ?_ _ | refine Mod.drew ?_))
                       rintro e Vn ⟨A5, c5, rfl, h5, fpn, hD⟩
                       have H5 := Lib.hid h5
                       clear h5
                       have hkn := tr_cells hD (Mod.refl _ _)
                       have HS := Lib.hid hD
                       clear K hD))
                  | (go_at_call 36
                     have K := HS
                     clear HS
                     (
                       refine Calls.mono (tr_rcut K.out ?m1 (by omega) x1 x2 HQ.out.1 HQ.out.2) ?_
                       case m1 => (with_reducible repeat (first | exact Mod.refl _ _ | refine Mod.alloc ?_ _ | refine Mod.drewN ?_ _ | refine Mod.drew ?_))
                       rintro e Vn ⟨A6, c6, rfl, h6, ⟨frn, hD⟩, m6⟩
                       have H6 := Lib.hid (And.intro (Row.mod plain65 (H5.out.1.mod plain65 (fp := []) ?m5 (fun _ _ => by simp)) m6 (fun y hy => H5.out.2 y hy)) h6)
                       case m5 => (with_reducible repeat (first | exact Mod.refl _ _ | refine Mod.alloc ?_ _ | refine Mod.drewN ?_ _ | refine Mod.drew ?_))
                       clear h6 m6 H5
                       have hkn := tr_cells hD (Mod.refl _ _)
                       have HS := Lib.hid hD
                       clear K hD))
                  | (go_at_call 35
                     (
                       have H7 : Hid (ys.length ≤ c5 ∧ Kd.C k65 _ A5 ys.length ys) := Lib.hid (by
                         obtain ⟨A1, k1, e1, g1, g2⟩ := H6.out.1.C
                         injection e1 with ea eb ec
                         subst ea ec
                         exact ⟨g1, g2⟩)
                       have K := HS
                       clear HS
                       refine Calls.mono (same_calls2 hylen H7.out H6.out.2 ?m1) ?_
                       case m1 => (with_reducible repeat (first | exact Mod.refl _ _ | refine Mod.alloc ?_ _ | refine Mod.drewN ?_ _ | refine Mod.drew ?_))
                       rintro e Vm ⟨rfl, m7⟩
                       have n7 : Mod Vn Vm [] := by
                         refine Mod.trans ?_ m7 (fun _ hk => by cases hk)
                         (with_reducible repeat (first | exact Mod.refl _ _ | refine Mod.alloc ?_ _ | refine Mod.drewN ?_ _ | refine Mod.drew ?_))
                       have HS := Lib.hid (K.out.mod n7)
                       have hkm := tr_cells HS.out (Mod.refl _ _)
                       clear n7 m7 K)))
                all_goals
                  clear hk0
                  go_wp2
                  go_meet
                  case rel => exact ⟨fpn, frn, L', by omega, HN'.out, HS.out.mono (by omega)⟩

              · by_cases w2 : x0 = 2
                · subst w2
                  go_upto_region 26 with fail
                  obtain ⟨r, hr⟩ : ∃ r, (decide (byL L x1 x2 ≠ []) && rightB x5 x6) = r := ⟨_, rfl⟩
                  obtain ⟨L', hL'⟩ : ∃ L', (if r = true then raiseL L x1 x2 ⟨x5, x6⟩ else L) = L' := ⟨_, rfl⟩
                  have HQ := Lib.hid (And.intro hr hL')
                  have hlen' : L'.length = L.length := by rw [← hL']; cases r <;> simp [raiseL_len]
                  have HN' : Hid (NN L') := Lib.hid (by rw [← hL']; cases r; exact HA.out; exact HA.out.raise x1 x2 HX.out.2)
                  clear hr hL' k0 k1 k2 k3 k4 k5 k6 k7 k8 k9 k10 k11
                  have hk0 := tr_cells HB0.out (Mod.refl _ _)
                  have HS := HB0
                  clear HB0
                  go_region_held3 (fun W' => W'.cell? ⟨q, 0, none⟩ = some (.int .i64 2) ∧ W'.cell? ⟨q, 1, none⟩ = some (.int .u32 x1) ∧ W'.cell? ⟨q, 2, none⟩ = some (.int .u32 x2) ∧ W'.cell? ⟨q, 3, none⟩ = some (.int .u64 x3) ∧ W'.cell? ⟨q, 4, none⟩ = some (.int .u32 x4) ∧ W'.cell? ⟨q, 5, none⟩ = some (.int .u64 x5) ∧ W'.cell? ⟨q, 6, none⟩ = some (.int .u32 x6) ∧ W'.cell? ⟨q, 7, none⟩ = some (.string x7) ∧ W'.cell? ⟨q, 8, none⟩ = some (.slice Aw xw.length cw) ∧ W'.cell? ⟨q, 9, none⟩ = some (.string x8) ∧ W'.cell? ⟨q, 10, none⟩ = some (.string x9) ∧ W'.cell? ⟨q, 11, none⟩ = some (.slice Ab xb.length cb))
                    (first | exact tr_cells HS.out (by (with_reducible repeat (first | exact Mod.refl _ _ | refine Mod.alloc ?_ _ | refine Mod.drewN ?_ _ | refine Mod.drew ?_)))) (first
                    | (go_at_call 32
                       have K := HS
                       clear HS
                       (
                         refine Calls.mono (tr_raise K.out ?m1 x1 x2 HX.out.1.1 ⟨x5, x6⟩ HQ.out.1 HQ.out.2) ?_
                         case m1 => (with_reducible repeat (first | exact Mod.refl _ _ | refine Mod.alloc ?_ _ | refine Mod.drewN ?_ _ | refine Mod.drew ?_))
                         rintro e Vn ⟨rfl, fpn, hD⟩
                         have hkn := tr_cells hD (Mod.refl _ _)
                         have HS := Lib.hid hD
                         clear K hD))
                    | (go_at_call 37
                       have K := HS
                       clear HS
                       (
                         refine Calls.mono (tr_rraise K.out ?m1 (by omega) HA.out x1 x2 ⟨x5, x6⟩ HQ.out.1 HQ.out.2) ?_
                         case m1 => (with_reducible repeat (first | exact Mod.refl _ _ | refine Mod.alloc ?_ _ | refine Mod.drewN ?_ _ | refine Mod.drew ?_))
                         rintro e Vn ⟨rfl, frn, hD⟩
                         have hkn := tr_cells hD (Mod.refl _ _)
                         have HS := Lib.hid hD
                         clear K hD)))
                  all_goals
                    clear hk0
                    go_wp2
                    go_meet
                    case rel => exact ⟨fpn, frn, L', by omega, HN'.out, HS.out.mono (by omega)⟩

                · have w0b : (x0 == 0) = false := by simpa using w0
                  have w1b : (x0 == 1) = false := by simpa using w1
                  have w2b : (x0 == 2) = false := by simpa using w2
                  go_wp2
                  go_meet
                  case rel => exact ⟨fp, fr, L, by omega, HA.out, HB0.out.mono (by omega)⟩
    · obtain rfl : j = l.length := by omega
      have hzz : ¬ ((l.length : Int) < (l.length : Int)) := by omega
      have HM := Lib.hid HN.out.hM
      go_wp2
      go_ret
      exact ⟨rfl, HM.out⟩
def okRuns (l : List S58) : Prop := ∀ a ∈ l, okAct2 a
open Classical in
noncomputable def dovecotelaw10_LatchRuns.f (k : Nat) (l0 : List S58) : Option Bool := if okRuns l0 then some true else none
theorem dovecotelaw10_LatchRuns.calls (k : Nat) (A0 : Option Addr) (c0 : Nat) (l0 : List S58) (r : Bool) (w : World) (hr0 : Kd.C k58 w A0 l0.length l0) (hc0 : l0.length ≤ c0) (h : dovecotelaw10_LatchRuns.f k l0 = some r) :
    Calls Try.prog 10 #[.slice A0 l0.length c0] w fun e w' => e = .returned (.bool r) ∧ Below w.heap.size w w' := by
  unfold dovecotelaw10_LatchRuns.f at h
  split at h
  · rename_i hg
    obtain rfl := Option.some.inj h
    exact (runs_walk hr0 hc0 hg).mono fun e w' ⟨h1, h2⟩ => ⟨h1, h2.bel⟩
  · cases h
end Go.Proofs.Ytdelbidaclddgaa.Lat
