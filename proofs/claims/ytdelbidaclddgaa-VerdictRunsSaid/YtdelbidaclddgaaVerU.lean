/- The layer 'verdict': VerU; a seat's own text, no law of its own. -/
import Derived.Test.YtdelbidaclddgaaVerT
import Derived.Deep.LoopGhost
import Derived.Deep.Cut
import Derived.Lib.Hide
import Derived.StillTailTactics
import Derived.Deep.QuietTactic
import Derived.BigQuiet
import Derived.Outline
import Derived.Deep.RegionWith
import Derived.Deep.RegionHeld3
import Derived.WalkLawsBesides
namespace Go.Proofs.Ytdelbidaclddgaa.Ver
open Go.RowKit Go.Proofs.YtdelbidaclddgaaW.PrintWords Go.Proofs.Ytdelbidaclddgaa.MVerdictRuns Go.Proofs.YtdelbidaclddgaaW.PrintLast
set_option linter.unusedVariables false
set_option linter.unusedSimpArgs false
/-! VerdictRuns -/
theorem act_cells2 {w W' : World} {A : Option Addr} {l : List S40} (h : Kd.C k40 w A l.length l) (m : Mod w W' []) (j : Nat) (hj : j < l.length) : ∃ ad A' c', A = some ad ∧ l[j].f3.length ≤ c' ∧ Kd.C k32 w A' l[j].f3.length l[j].f3 ∧ W'.cell? (ad.add (j * 12)) = some (.int .i64 l[j].f0) ∧
    W'.cell? ⟨(ad.add (j * 12)).block, (ad.add (j * 12)).off + 1, none⟩ = some (.int .u32 l[j].f1.f0.f0) ∧ W'.cell? ⟨(ad.add (j * 12)).block, (ad.add (j * 12)).off + 2, none⟩ = some (.int .u32 l[j].f1.f0.f1) ∧
    W'.cell? ⟨(ad.add (j * 12)).block, (ad.add (j * 12)).off + 3, none⟩ = some (.int .u64 l[j].f1.f1.f0) ∧ W'.cell? ⟨(ad.add (j * 12)).block, (ad.add (j * 12)).off + 4, none⟩ = some (.int .u32 l[j].f1.f1.f1) ∧
    W'.cell? ⟨(ad.add (j * 12)).block, (ad.add (j * 12)).off + 5, none⟩ = some (.int .u64 l[j].f1.f2.f0) ∧ W'.cell? ⟨(ad.add (j * 12)).block, (ad.add (j * 12)).off + 6, none⟩ = some (.int .u32 l[j].f1.f2.f1) ∧
    W'.cell? ⟨(ad.add (j * 12)).block, (ad.add (j * 12)).off + 7, none⟩ = some (.int .u8 l[j].f1.f3) ∧ W'.cell? ⟨(ad.add (j * 12)).block, (ad.add (j * 12)).off + 8, none⟩ = some (.bool l[j].f1.f4) ∧
    W'.cell? ⟨(ad.add (j * 12)).block, (ad.add (j * 12)).off + 9, none⟩ = some (.int .u64 l[j].f2.f0) ∧ W'.cell? ⟨(ad.add (j * 12)).block, (ad.add (j * 12)).off + 10, none⟩ = some (.int .u32 l[j].f2.f1) ∧
    W'.cell? ⟨(ad.add (j * 12)).block, (ad.add (j * 12)).off + 11, none⟩ = some (.slice A' l[j].f3.length c') := by
  obtain ⟨ad, A', c', e, h1, h2, a0, a1, a2, a3, a4, a5, a6, a7, a8, a9, aa, ab⟩ := act_cells h j hj
  have cm : ∀ {p : Addr} {v : Value}, w.cell? p = some v → W'.cell? p = some v := fun {p v} hp => by
    rw [World.cell?_of_block (w := w) (m.block p.block (World.block_lt_of_cell? _ _ hp) (by simp))]; exact hp
  exact ⟨ad, A', c', e, h1, h2, cm a0, cm a1, cm a2, cm a3, cm a4, cm a5, cm a6, cm a7, cm a8, cm a9, cm aa, cm ab⟩
attribute [local go_sem high] eqA32 eqA35 eqA37
theorem Dn.mono' {w V : World} {p b m m' g : Nat} {fp : List Nat} {L1 L2 : List S37} (h : Dn w V p b m g fp L1 L2) (hm : m ≤ m') : Dn w V p b m' g fp L1 L2 := ⟨h.hB.mono hm, h.hR, h.hM, h.gp, h.gb, h.gf, h.np, h.nb⟩
set_option maxHeartbeats 16000000 in
set_option maxRecDepth 100000 in
theorem runs_calls {A : Option Addr} {c : Nat} {l : List S40} {w : World} (hr : Kd.C k40 w A l.length l) (hc : l.length ≤ c) (hok : ∀ a ∈ l, okAct a) :
    Calls Try.prog 3 #[.slice A l.length c] w fun e w' => e = .returned (.bool true) ∧ Mod w w' [] := by
  have hr63 : l.length ≤ 9223372036854775807 := hr.2.1
  have HR := Lib.hid (And.intro hr (And.intro hc hok))
  clear hr hc hok
  go_enter Try.func3, Try.ntmps3
  go_wp2_with fail
  refine (awake_calls _).mono ?_
  rintro e W1 ⟨rfl, m1⟩
  go_wp2_with fail
  refine (new_calls _).mono ?_
  rintro e V1 ⟨p, b, rfl, hB1, mv, hp1, hb1⟩
  have hs1 := m1.size
  have HD := Lib.hid (Dn.start hB1 (m1.trans mv (fun _ hk => by cases hk)) (by omega) (by omega))
  clear hB1 m1 mv hp1 hb1 hs1
  go_wp2_with fail
  generalize V1.alloc (.cells #[.slice none 0 0] 29) = W2 at *
  generalize V1.heap.size = g at *
  go_loopg [18] l.length (fun k i wr => ∃ (j : Nat) (fp : List Nat) (L : List S37), j ≤ l.length ∧ k = l.length - j ∧ i = .int .i64 j ∧ j ≤ 150 ∧ Dn w wr p b j g fp L L)
  case atStart => exact ⟨0, _, [], Nat.zero_le _, rfl, rfl, by omega, HD.out⟩
  case round =>
    obtain ⟨j, fp, L, hj, rfl, rfl, hj3, hD⟩ := hrel
    have HN := Lib.hid hD
    clear hD HD
    by_cases hjl : j < l.length
    · obtain ⟨ad, A', c', rfl, hc', hk', a0, a1, a2, a3, a4, a5, a6, a7, a8, a9, a10, a11⟩ := act_cells2 HR.out.1 HN.out.hM j hjl
      have hjz : (j : Int) < (l.length : Int) := by omega
      by_cases h3 : j = 150
      · subst h3
        have e5 : ad.add (150 * 12) = ⟨ad.block, ad.off + 1800, none⟩ := by simp [Addr.add]
        rw [e5] at a0 a1 a2 a3 a4 a5 a6 a7 a8 a9 a10 a11
        dsimp only at a0 a1 a2 a3 a4 a5 a6 a7 a8 a9 a10 a11
        have hM := HN.out.hM.trans ((Mod.refl wr []).alloc (.cells #[.int .i64 l[150].f0, .int .u32 l[150].f1.f0.f0, .int .u32 l[150].f1.f0.f1, .int .u64 l[150].f1.f1.f0, .int .u32 l[150].f1.f1.f1, .int .u64 l[150].f1.f2.f0, .int .u32 l[150].f1.f2.f1, .int .u8 l[150].f1.f3, .bool l[150].f1.f4, .int .u64 l[150].f2.f0, .int .u32 l[150].f2.f1, .slice A' l[150].f3.length c'] 40)) (fun _ hk => by cases hk)
        go_wp2
        go_ret
        exact ⟨rfl, hM⟩
      · have h3z : ¬ ((j : Int) = 150) := by omega
        have h3b : ((j : Int) == 150) = false := by simpa using h3z
        have hw : IntKind.i64.wrap ((j : Int) + 1) = ((j + 1 : Nat) : Int) := by rw [i64w (by omega) (by omega)]; omega
        have HS : Hid (Du w _ p b j g _ _ fp L L) := Lib.hid (HN.out.box (#[.int .i64 l[j].f0, .int .u32 l[j].f1.f0.f0, .int .u32 l[j].f1.f0.f1, .int .u64 l[j].f1.f1.f0, .int .u32 l[j].f1.f1.f1, .int .u64 l[j].f1.f2.f0, .int .u32 l[j].f1.f2.f1, .int .u8 l[j].f1.f3, .bool l[j].f1.f4, .int .u64 l[j].f2.f0, .int .u32 l[j].f2.f1, .slice A' l[j].f3.length c']))
        have hok := HR.out.2.2 l[j] (List.getElem_mem _)
        have HX : Hid (Rng kcV knV l[j].f1 ∧ l[j].f3.length ≤ 17592186043904) := Lib.hid hok
        have HO := Lib.hid HN.out.hB.ord
        have hlen := HN.out.hB.len
        have HB := Lib.hid hc'
        have HKx := Lib.hid hk'
        have HMx := Lib.hid HN.out.hM
        clear hok hk' HN
        generalize l[j] = y at *
        obtain ⟨x0, ⟨⟨x1, x2⟩, ⟨x3, x4⟩, ⟨x5, x6⟩, x7, x8⟩, ⟨x9, xa⟩, x⟩ := y
        dsimp only at a0 a1 a2 a3 a4 a5 a6 a7 a8 a9 a10 a11 HS HX HB HKx ⊢
        by_cases w0 : x0 = 0
        · subst w0
          obtain ⟨Lq, hLq⟩ : ∃ Lq, setR L ⟨⟨x1, x2⟩, ⟨x3, x4⟩, ⟨x5, x6⟩, x7, x8⟩ = Lq := ⟨_, rfl⟩
          have HQ := Lib.hid hLq
          clear hLq
          go_upto_region 10 with fail
          generalize wr.alloc (.cells #[.int .i64 0, .int .u32 x1, .int .u32 x2, .int .u64 x3, .int .u32 x4, .int .u64 x5, .int .u32 x6, .int .u8 x7, .bool x8, .int .u64 x9, .int .u32 xa, .slice A' x.length c'] 40) = V at *
          generalize wr.heap.size = q at *
          have hk0 := du_cells HS.out (Mod.refl _ _)
          clear a0 a1 a2 a3 a4 a5 a6 a7 a8 a9 a10 a11
          go_region_held3 (fun W' => W'.cell? ⟨q, 0, none⟩ = some (.int .i64 0) ∧ W'.cell? ⟨q, 1, none⟩ = some (.int .u32 x1) ∧ W'.cell? ⟨q, 2, none⟩ = some (.int .u32 x2) ∧ W'.cell? ⟨q, 3, none⟩ = some (.int .u64 x3) ∧ W'.cell? ⟨q, 4, none⟩ = some (.int .u32 x4) ∧ W'.cell? ⟨q, 5, none⟩ = some (.int .u64 x5) ∧ W'.cell? ⟨q, 6, none⟩ = some (.int .u32 x6) ∧ W'.cell? ⟨q, 7, none⟩ = some (.int .u8 x7) ∧ W'.cell? ⟨q, 8, none⟩ = some (.bool x8) ∧ W'.cell? ⟨q, 9, none⟩ = some (.int .u64 x9) ∧ W'.cell? ⟨q, 10, none⟩ = some (.int .u32 xa) ∧ W'.cell? ⟨q, 11, none⟩ = some (.slice A' x.length c'))
            (first | exact du_cells HS.out (by (with_reducible repeat (first | exact Mod.refl _ _ | refine Mod.drewN ?_ _ | refine Mod.drew ?_)))) (first
            | (go_at_call 14
               have K := HS
               clear HS
               (
                 refine Calls.mono (du_set K.out (by unfold maxLen; omega) ⟨⟨x1, x2⟩, ⟨x3, x4⟩, ⟨x5, x6⟩, x7, x8⟩ HX.out.1 HQ.out ?m1) ?_
                 case m1 => (with_reducible repeat (first | exact Mod.refl _ _ | refine Mod.drewN ?_ _ | refine Mod.drew ?_))
                 rintro e Vn ⟨rfl, hD⟩
                 have HS := Lib.hid hD
                 have hkn := du_cells hD (Mod.refl _ _)
                 clear K hD))
            | (go_at_call 15
               have K := HS
               clear HS
               (
                 refine Calls.mono (du_rset K.out HO.out (by omega) ⟨⟨x1, x2⟩, ⟨x3, x4⟩, ⟨x5, x6⟩, x7, x8⟩ HQ.out ?m1) ?_
                 case m1 => (with_reducible repeat (first | exact Mod.refl _ _ | refine Mod.drewN ?_ _ | refine Mod.drew ?_))
                 rintro e Vn ⟨rfl, fpn, hD⟩
                 have HS := Lib.hid hD
                 have hkn := du_cells hD (Mod.refl _ _)
                 clear K hD)))
          clear hk0

          all_goals
            have ho := HS.out.hB.ord
            have hlen := HS.out.hB.len
            obtain ⟨z, hz⟩ : ∃ z, (findV x1 x2 Lq.2).getD z37 = z := ⟨_, rfl⟩
            obtain ⟨oz, hoz⟩ : ∃ oz, (findV x1 x2 Lq.2).isSome = oz := ⟨_, rfl⟩
            have HZ := Lib.hid (And.intro hz (And.intro hoz ho))
            clear hz hoz ho
            obtain ⟨k0, k1, k2, k3, k4, k5, k6, k7, k8, k9, k10, k11⟩ := du_cells HS.out (Mod.refl _ _)
            go_wp2_with fail
            refine Calls.mono (du_of HS.out x1 x2 HX.out.1 HZ.out.1 HZ.out.2.1 ?m1) ?_
            case m1 => (with_reducible repeat (first | exact Mod.refl _ _ | refine Mod.drewN ?_ _ | refine Mod.drew ?_))
            rintro e Va ⟨rfl, hDa, -⟩
            have HA := Lib.hid (Du.mod hDa ((Mod.refl Va []).alloc (.cells #[.int .u32 z.f0.f0, .int .u32 z.f0.f1, .int .u64 z.f1.f0, .int .u32 z.f1.f1, .int .u64 z.f2.f0, .int .u32 z.f2.f1, .int .u8 z.f3, .bool z.f4] 37)))
            have h7 : BV (Va.alloc (.cells #[.int .u32 z.f0.f0, .int .u32 z.f0.f1, .int .u64 z.f1.f0, .int .u32 z.f1.f1, .int .u64 z.f2.f0, .int .u32 z.f2.f1, .int .u8 z.f3, .bool z.f4] 37)) Va.heap.size z := blk_new Va _
            clear hDa HS k0 k1 k2 k3 k4 k5 k6 k7 k8 k9 k10 k11
            obtain ⟨k0, k1, k2, k3, k4, k5, k6, k7, k8, k9, k10, k11⟩ := du_cells HA.out (Mod.refl _ _)
            go_wp2_with fail
            generalize Va.alloc (.cells #[.int .u32 z.f0.f0, .int .u32 z.f0.f1, .int .u64 z.f1.f0, .int .u32 z.f1.f1, .int .u64 z.f2.f0, .int .u32 z.f2.f1, .int .u8 z.f3, .bool z.f4] 37) = Vb at *
            generalize Va.heap.size = q7 at *
            refine Calls.mono (du_rof HA.out HZ.out.2.2 (by omega) x1 x2 HZ.out.1 HZ.out.2.1 ?m1) ?_
            case m1 => (with_reducible repeat (first | exact Mod.refl _ _ | refine Mod.drewN ?_ _ | refine Mod.drew ?_))
            rintro e Vc ⟨rfl, hDc, mc⟩
            have mz : Mod Vc (Vc.alloc (.cells #[.int .u32 z.f0.f0, .int .u32 z.f0.f1, .int .u64 z.f1.f0, .int .u32 z.f1.f1, .int .u64 z.f2.f0, .int .u32 z.f2.f1, .int .u8 z.f3, .bool z.f4] 37)) [] := (Mod.refl Vc []).alloc _
            have HC := Lib.hid (Du.mod hDc mz)
            have h9 : BV (Vc.alloc (.cells #[.int .u32 z.f0.f0, .int .u32 z.f0.f1, .int .u64 z.f1.f0, .int .u32 z.f1.f1, .int .u64 z.f2.f0, .int .u32 z.f2.f1, .int .u8 z.f3, .bool z.f4] 37)) Vc.heap.size z := blk_new Vc _
            have h7c : BV (Vc.alloc (.cells #[.int .u32 z.f0.f0, .int .u32 z.f0.f1, .int .u64 z.f1.f0, .int .u32 z.f1.f1, .int .u64 z.f2.f0, .int .u32 z.f2.f1, .int .u8 z.f3, .bool z.f4] 37)) q7 z := (h7.mod mc (by simp)).mod mz (by simp)
            clear hDc HA k0 k1 k2 k3 k4 k5 k6 k7 k8 k9 k10 k11 h7 mc mz
            go_upto_region 20 with fail
            generalize Vc.alloc (.cells #[.int .u32 z.f0.f0, .int .u32 z.f0.f1, .int .u64 z.f1.f0, .int .u32 z.f1.f1, .int .u64 z.f2.f0, .int .u32 z.f2.f1, .int .u8 z.f3, .bool z.f4] 37) = Vd at *
            generalize Vc.heap.size = q9 at *
            obtain ⟨A0, k0, hg0, hk0, hC0⟩ := HC.out.hR.get
            have HG := Lib.hid (And.intro hg0 (And.intro hk0 hC0))
            have HF : Hid (∀ W', Mod Vd W' [] → W'.cell? ⟨q7, 0, none⟩ = some (.int .u32 z.f0.f0) ∧ W'.cell? ⟨q7, 1, none⟩ = some (.int .u32 z.f0.f1) ∧ W'.cell? ⟨q7, 2, none⟩ = some (.int .u64 z.f1.f0) ∧ W'.cell? ⟨q7, 3, none⟩ = some (.int .u32 z.f1.f1) ∧ W'.cell? ⟨q7, 4, none⟩ = some (.int .u64 z.f2.f0) ∧ W'.cell? ⟨q7, 5, none⟩ = some (.int .u32 z.f2.f1) ∧ W'.cell? ⟨q7, 6, none⟩ = some (.int .u8 z.f3) ∧ W'.cell? ⟨q7, 7, none⟩ = some (.bool z.f4) ∧ W'.cell? ⟨q9, 0, none⟩ = some (.int .u32 z.f0.f0) ∧ W'.cell? ⟨q9, 1, none⟩ = some (.int .u32 z.f0.f1) ∧ W'.cell? ⟨q9, 2, none⟩ = some (.int .u64 z.f1.f0) ∧ W'.cell? ⟨q9, 3, none⟩ = some (.int .u32 z.f1.f1) ∧ W'.cell? ⟨q9, 4, none⟩ = some (.int .u64 z.f2.f0) ∧ W'.cell? ⟨q9, 5, none⟩ = some (.int .u32 z.f2.f1) ∧ W'.cell? ⟨q9, 6, none⟩ = some (.int .u8 z.f3) ∧ W'.cell? ⟨q9, 7, none⟩ = some (.bool z.f4) ∧ W'.cell? ⟨g, 0, none⟩ = some (.slice A0 Lq.2.length k0)) := Lib.hid fun W' mm => by
              obtain ⟨e0, e1, e2, e3, e4, e5, e6, e7⟩ := h7c.at' mm
              obtain ⟨f0, f1, f2, f3, f4, f5, f6, f7⟩ := h9.at' mm
              exact ⟨e0, e1, e2, e3, e4, e5, e6, e7, f0, f1, f2, f3, f4, f5, f6, f7, cellM HG.out.1 mm⟩
            have hkeep := HF.out Vd (Mod.refl _ _)
            clear h7c h9 hg0 hk0 hC0
            go_region_held3 (fun W' => W'.cell? ⟨q7, 0, none⟩ = some (.int .u32 z.f0.f0) ∧ W'.cell? ⟨q7, 1, none⟩ = some (.int .u32 z.f0.f1) ∧ W'.cell? ⟨q7, 2, none⟩ = some (.int .u64 z.f1.f0) ∧ W'.cell? ⟨q7, 3, none⟩ = some (.int .u32 z.f1.f1) ∧ W'.cell? ⟨q7, 4, none⟩ = some (.int .u64 z.f2.f0) ∧ W'.cell? ⟨q7, 5, none⟩ = some (.int .u32 z.f2.f1) ∧ W'.cell? ⟨q7, 6, none⟩ = some (.int .u8 z.f3) ∧ W'.cell? ⟨q7, 7, none⟩ = some (.bool z.f4) ∧ W'.cell? ⟨q9, 0, none⟩ = some (.int .u32 z.f0.f0) ∧ W'.cell? ⟨q9, 1, none⟩ = some (.int .u32 z.f0.f1) ∧ W'.cell? ⟨q9, 2, none⟩ = some (.int .u64 z.f1.f0) ∧ W'.cell? ⟨q9, 3, none⟩ = some (.int .u32 z.f1.f1) ∧ W'.cell? ⟨q9, 4, none⟩ = some (.int .u64 z.f2.f0) ∧ W'.cell? ⟨q9, 5, none⟩ = some (.int .u32 z.f2.f1) ∧ W'.cell? ⟨q9, 6, none⟩ = some (.int .u8 z.f3) ∧ W'.cell? ⟨q9, 7, none⟩ = some (.bool z.f4) ∧ W'.cell? ⟨g, 0, none⟩ = some (.slice A0 Lq.2.length k0))
              (first | exact HF.out _ (by (with_reducible repeat (first | exact N22.out | exact N23.out | exact Mod.refl _ _ | refine Mod.drewN ?_ _ | refine Mod.drew ?_)))) (first
              | (go_at_call 23
                 (
                   refine Calls.mono (du_all HC.out (by omega) ?m1) ?_
                   case m1 => (with_reducible repeat (first | exact Mod.refl _ _ | refine Mod.drewN ?_ _ | refine Mod.drew ?_))
                   rintro e V3 ⟨A5, c5, rfl, h5, m5⟩
                   have n23 : Mod Vd V3 [] := by
                     refine Mod.trans ?_ m5 (fun _ hk => by cases hk)
                     (with_reducible repeat (first | exact Mod.refl _ _ | refine Mod.drewN ?_ _ | refine Mod.drew ?_))
                   have hk23 := HF.out _ n23
                   have N23 := Lib.hid n23
                   have H5 := Lib.hid h5
                   clear n23 m5 h5))
              | (go_at_call 22
                 (
                   refine Calls.mono (same_calls (by omega) H5.out HG.out.2 ?m1 ?m2) ?_
                   case m1 => (with_reducible repeat (first | exact Mod.refl _ _ | refine Mod.drewN ?_ _ | refine Mod.drew ?_))
                   case m2 => (with_reducible repeat (first | exact N23.out | exact Mod.refl _ _ | refine Mod.drewN ?_ _ | refine Mod.drew ?_))
                   rintro e V4 ⟨rfl, m6⟩
                   have n22 : Mod Vd V4 [] := by
                     refine Mod.trans ?_ m6 (fun _ hk => by cases hk)
                     (with_reducible repeat (first | exact N23.out | exact Mod.refl _ _ | refine Mod.drewN ?_ _ | refine Mod.drew ?_))
                   have hk22 := HF.out _ n22
                   have N22 := Lib.hid n22
                   clear n22 m6)))
            all_goals
              go_wp2
              go_roundg (l.length - (j + 1))
              case measure => omega
              case rel => exact ⟨j + 1, _, Lq.2, by omega, rfl, by rw [show ((j + 1 : Nat) : Int) = (j : Int) + 1 by omega], by omega, ((HC.out.mod (by (with_reducible repeat (first | exact N22.out | exact N23.out | exact Mod.refl _ _ | refine Mod.drewN ?_ _ | refine Mod.drew ?_)))).dn.mono' (by omega))⟩

        · by_cases w1 : x0 = 1
          · subst w1
            obtain ⟨r1, Lq, hLq⟩ : ∃ r1 Lq, doneR L x1 x2 = (r1, Lq) := ⟨_, _, rfl⟩
            have HQ := Lib.hid hLq
            clear hLq
            go_upto_region 13 with fail
            generalize wr.alloc (.cells #[.int .i64 1, .int .u32 x1, .int .u32 x2, .int .u64 x3, .int .u32 x4, .int .u64 x5, .int .u32 x6, .int .u8 x7, .bool x8, .int .u64 x9, .int .u32 xa, .slice A' x.length c'] 40) = V at *
            generalize wr.heap.size = q at *
            have hk0 := du_cells HS.out (Mod.refl _ _)
            clear a0 a1 a2 a3 a4 a5 a6 a7 a8 a9 a10 a11
            go_region_held3 (fun W' => W'.cell? ⟨q, 0, none⟩ = some (.int .i64 1) ∧ W'.cell? ⟨q, 1, none⟩ = some (.int .u32 x1) ∧ W'.cell? ⟨q, 2, none⟩ = some (.int .u32 x2) ∧ W'.cell? ⟨q, 3, none⟩ = some (.int .u64 x3) ∧ W'.cell? ⟨q, 4, none⟩ = some (.int .u32 x4) ∧ W'.cell? ⟨q, 5, none⟩ = some (.int .u64 x5) ∧ W'.cell? ⟨q, 6, none⟩ = some (.int .u32 x6) ∧ W'.cell? ⟨q, 7, none⟩ = some (.int .u8 x7) ∧ W'.cell? ⟨q, 8, none⟩ = some (.bool x8) ∧ W'.cell? ⟨q, 9, none⟩ = some (.int .u64 x9) ∧ W'.cell? ⟨q, 10, none⟩ = some (.int .u32 xa) ∧ W'.cell? ⟨q, 11, none⟩ = some (.slice A' x.length c'))
              (first | exact du_cells HS.out (by (with_reducible repeat (first | exact Mod.refl _ _ | refine Mod.drewN ?_ _ | refine Mod.drew ?_)))) (first
              | (go_at_call 16
                 have K := HS
                 clear HS
                 (
                   refine Calls.mono (du_done K.out (by unfold maxLen; omega) x1 x2 HX.out.1 HQ.out ?m1) ?_
                   case m1 => (with_reducible repeat (first | exact Mod.refl _ _ | refine Mod.drewN ?_ _ | refine Mod.drew ?_))
                   rintro e Vn ⟨rfl, hD⟩
                   have HS := Lib.hid hD
                   have hkn := du_cells hD (Mod.refl _ _)
                   clear K hD))
              | (go_at_call 17
                 have K := HS
                 clear HS
                 (
                   refine Calls.mono (du_rdone K.out HO.out (by omega) x1 x2 HQ.out ?m1) ?_
                   case m1 => (with_reducible repeat (first | exact Mod.refl _ _ | refine Mod.drewN ?_ _ | refine Mod.drew ?_))
                   rintro e Vn ⟨rfl, hD⟩
                   have HS := Lib.hid hD
                   have hkn := du_cells hD (Mod.refl _ _)
                   clear K hD)))
            clear hk0

            all_goals
              have ho := HS.out.hB.ord
              have hlen := HS.out.hB.len
              obtain ⟨z, hz⟩ : ∃ z, (findV x1 x2 Lq).getD z37 = z := ⟨_, rfl⟩
              obtain ⟨oz, hoz⟩ : ∃ oz, (findV x1 x2 Lq).isSome = oz := ⟨_, rfl⟩
              have HZ := Lib.hid (And.intro hz (And.intro hoz ho))
              clear hz hoz ho
              obtain ⟨k0, k1, k2, k3, k4, k5, k6, k7, k8, k9, k10, k11⟩ := du_cells HS.out (Mod.refl _ _)
              go_wp2_with fail
              refine Calls.mono (du_of HS.out x1 x2 HX.out.1 HZ.out.1 HZ.out.2.1 ?m1) ?_
              case m1 => (with_reducible repeat (first | exact Mod.refl _ _ | refine Mod.drewN ?_ _ | refine Mod.drew ?_))
              rintro e Va ⟨rfl, hDa, -⟩
              have HA := Lib.hid (Du.mod hDa ((Mod.refl Va []).alloc (.cells #[.int .u32 z.f0.f0, .int .u32 z.f0.f1, .int .u64 z.f1.f0, .int .u32 z.f1.f1, .int .u64 z.f2.f0, .int .u32 z.f2.f1, .int .u8 z.f3, .bool z.f4] 37)))
              have h7 : BV (Va.alloc (.cells #[.int .u32 z.f0.f0, .int .u32 z.f0.f1, .int .u64 z.f1.f0, .int .u32 z.f1.f1, .int .u64 z.f2.f0, .int .u32 z.f2.f1, .int .u8 z.f3, .bool z.f4] 37)) Va.heap.size z := blk_new Va _
              clear hDa HS k0 k1 k2 k3 k4 k5 k6 k7 k8 k9 k10 k11
              obtain ⟨k0, k1, k2, k3, k4, k5, k6, k7, k8, k9, k10, k11⟩ := du_cells HA.out (Mod.refl _ _)
              go_wp2_with fail
              generalize Va.alloc (.cells #[.int .u32 z.f0.f0, .int .u32 z.f0.f1, .int .u64 z.f1.f0, .int .u32 z.f1.f1, .int .u64 z.f2.f0, .int .u32 z.f2.f1, .int .u8 z.f3, .bool z.f4] 37) = Vb at *
              generalize Va.heap.size = q7 at *
              refine Calls.mono (du_rof HA.out HZ.out.2.2 (by omega) x1 x2 HZ.out.1 HZ.out.2.1 ?m1) ?_
              case m1 => (with_reducible repeat (first | exact Mod.refl _ _ | refine Mod.drewN ?_ _ | refine Mod.drew ?_))
              rintro e Vc ⟨rfl, hDc, mc⟩
              have mz : Mod Vc (Vc.alloc (.cells #[.int .u32 z.f0.f0, .int .u32 z.f0.f1, .int .u64 z.f1.f0, .int .u32 z.f1.f1, .int .u64 z.f2.f0, .int .u32 z.f2.f1, .int .u8 z.f3, .bool z.f4] 37)) [] := (Mod.refl Vc []).alloc _
              have HC := Lib.hid (Du.mod hDc mz)
              have h9 : BV (Vc.alloc (.cells #[.int .u32 z.f0.f0, .int .u32 z.f0.f1, .int .u64 z.f1.f0, .int .u32 z.f1.f1, .int .u64 z.f2.f0, .int .u32 z.f2.f1, .int .u8 z.f3, .bool z.f4] 37)) Vc.heap.size z := blk_new Vc _
              have h7c : BV (Vc.alloc (.cells #[.int .u32 z.f0.f0, .int .u32 z.f0.f1, .int .u64 z.f1.f0, .int .u32 z.f1.f1, .int .u64 z.f2.f0, .int .u32 z.f2.f1, .int .u8 z.f3, .bool z.f4] 37)) q7 z := (h7.mod mc (by simp)).mod mz (by simp)
              clear hDc HA k0 k1 k2 k3 k4 k5 k6 k7 k8 k9 k10 k11 h7 mc mz
              go_upto_region 20 with fail
              generalize Vc.alloc (.cells #[.int .u32 z.f0.f0, .int .u32 z.f0.f1, .int .u64 z.f1.f0, .int .u32 z.f1.f1, .int .u64 z.f2.f0, .int .u32 z.f2.f1, .int .u8 z.f3, .bool z.f4] 37) = Vd at *
              generalize Vc.heap.size = q9 at *
              obtain ⟨A0, k0, hg0, hk0, hC0⟩ := HC.out.hR.get
              have HG := Lib.hid (And.intro hg0 (And.intro hk0 hC0))
              have HF : Hid (∀ W', Mod Vd W' [] → W'.cell? ⟨q7, 0, none⟩ = some (.int .u32 z.f0.f0) ∧ W'.cell? ⟨q7, 1, none⟩ = some (.int .u32 z.f0.f1) ∧ W'.cell? ⟨q7, 2, none⟩ = some (.int .u64 z.f1.f0) ∧ W'.cell? ⟨q7, 3, none⟩ = some (.int .u32 z.f1.f1) ∧ W'.cell? ⟨q7, 4, none⟩ = some (.int .u64 z.f2.f0) ∧ W'.cell? ⟨q7, 5, none⟩ = some (.int .u32 z.f2.f1) ∧ W'.cell? ⟨q7, 6, none⟩ = some (.int .u8 z.f3) ∧ W'.cell? ⟨q7, 7, none⟩ = some (.bool z.f4) ∧ W'.cell? ⟨q9, 0, none⟩ = some (.int .u32 z.f0.f0) ∧ W'.cell? ⟨q9, 1, none⟩ = some (.int .u32 z.f0.f1) ∧ W'.cell? ⟨q9, 2, none⟩ = some (.int .u64 z.f1.f0) ∧ W'.cell? ⟨q9, 3, none⟩ = some (.int .u32 z.f1.f1) ∧ W'.cell? ⟨q9, 4, none⟩ = some (.int .u64 z.f2.f0) ∧ W'.cell? ⟨q9, 5, none⟩ = some (.int .u32 z.f2.f1) ∧ W'.cell? ⟨q9, 6, none⟩ = some (.int .u8 z.f3) ∧ W'.cell? ⟨q9, 7, none⟩ = some (.bool z.f4) ∧ W'.cell? ⟨g, 0, none⟩ = some (.slice A0 Lq.length k0)) := Lib.hid fun W' mm => by
                obtain ⟨e0, e1, e2, e3, e4, e5, e6, e7⟩ := h7c.at' mm
                obtain ⟨f0, f1, f2, f3, f4, f5, f6, f7⟩ := h9.at' mm
                exact ⟨e0, e1, e2, e3, e4, e5, e6, e7, f0, f1, f2, f3, f4, f5, f6, f7, cellM HG.out.1 mm⟩
              have hkeep := HF.out Vd (Mod.refl _ _)
              clear h7c h9 hg0 hk0 hC0
              go_region_held3 (fun W' => W'.cell? ⟨q7, 0, none⟩ = some (.int .u32 z.f0.f0) ∧ W'.cell? ⟨q7, 1, none⟩ = some (.int .u32 z.f0.f1) ∧ W'.cell? ⟨q7, 2, none⟩ = some (.int .u64 z.f1.f0) ∧ W'.cell? ⟨q7, 3, none⟩ = some (.int .u32 z.f1.f1) ∧ W'.cell? ⟨q7, 4, none⟩ = some (.int .u64 z.f2.f0) ∧ W'.cell? ⟨q7, 5, none⟩ = some (.int .u32 z.f2.f1) ∧ W'.cell? ⟨q7, 6, none⟩ = some (.int .u8 z.f3) ∧ W'.cell? ⟨q7, 7, none⟩ = some (.bool z.f4) ∧ W'.cell? ⟨q9, 0, none⟩ = some (.int .u32 z.f0.f0) ∧ W'.cell? ⟨q9, 1, none⟩ = some (.int .u32 z.f0.f1) ∧ W'.cell? ⟨q9, 2, none⟩ = some (.int .u64 z.f1.f0) ∧ W'.cell? ⟨q9, 3, none⟩ = some (.int .u32 z.f1.f1) ∧ W'.cell? ⟨q9, 4, none⟩ = some (.int .u64 z.f2.f0) ∧ W'.cell? ⟨q9, 5, none⟩ = some (.int .u32 z.f2.f1) ∧ W'.cell? ⟨q9, 6, none⟩ = some (.int .u8 z.f3) ∧ W'.cell? ⟨q9, 7, none⟩ = some (.bool z.f4) ∧ W'.cell? ⟨g, 0, none⟩ = some (.slice A0 Lq.length k0))
                (first | exact HF.out _ (by (with_reducible repeat (first | exact N22.out | exact N23.out | exact Mod.refl _ _ | refine Mod.drewN ?_ _ | refine Mod.drew ?_)))) (first
                | (go_at_call 23
                   (
                     refine Calls.mono (du_all HC.out (by omega) ?m1) ?_
                     case m1 => (with_reducible repeat (first | exact Mod.refl _ _ | refine Mod.drewN ?_ _ | refine Mod.drew ?_))
                     rintro e V3 ⟨A5, c5, rfl, h5, m5⟩
                     have n23 : Mod Vd V3 [] := by
                       refine Mod.trans ?_ m5 (fun _ hk => by cases hk)
                       (with_reducible repeat (first | exact Mod.refl _ _ | refine Mod.drewN ?_ _ | refine Mod.drew ?_))
                     have hk23 := HF.out _ n23
                     have N23 := Lib.hid n23
                     have H5 := Lib.hid h5
                     clear n23 m5 h5))
                | (go_at_call 22
                   (
                     refine Calls.mono (same_calls (by omega) H5.out HG.out.2 ?m1 ?m2) ?_
                     case m1 => (with_reducible repeat (first | exact Mod.refl _ _ | refine Mod.drewN ?_ _ | refine Mod.drew ?_))
                     case m2 => (with_reducible repeat (first | exact N23.out | exact Mod.refl _ _ | refine Mod.drewN ?_ _ | refine Mod.drew ?_))
                     rintro e V4 ⟨rfl, m6⟩
                     have n22 : Mod Vd V4 [] := by
                       refine Mod.trans ?_ m6 (fun _ hk => by cases hk)
                       (with_reducible repeat (first | exact N23.out | exact Mod.refl _ _ | refine Mod.drewN ?_ _ | refine Mod.drew ?_))
                     have hk22 := HF.out _ n22
                     have N22 := Lib.hid n22
                     clear n22 m6)))
              all_goals
                go_wp2
                go_roundg (l.length - (j + 1))
                case measure => omega
                case rel => exact ⟨j + 1, _, Lq, by omega, rfl, by rw [show ((j + 1 : Nat) : Int) = (j : Int) + 1 by omega], by omega, ((HC.out.mod (by (with_reducible repeat (first | exact N22.out | exact N23.out | exact Mod.refl _ _ | refine Mod.drewN ?_ _ | refine Mod.drew ?_)))).dn.mono' (by omega))⟩

          · by_cases w2 : x0 = 2
            · subst w2
              obtain ⟨Lq, hLq⟩ : ∃ Lq, retL ⟨x9, xa⟩ x L = Lq := ⟨_, rfl⟩
              have HQ := Lib.hid hLq
              clear hLq
              go_upto_region 16 with fail
              generalize wr.alloc (.cells #[.int .i64 2, .int .u32 x1, .int .u32 x2, .int .u64 x3, .int .u32 x4, .int .u64 x5, .int .u32 x6, .int .u8 x7, .bool x8, .int .u64 x9, .int .u32 xa, .slice A' x.length c'] 40) = V at *
              generalize wr.heap.size = q at *
              have hk0 := du_cells HS.out (Mod.refl _ _)
              clear a0 a1 a2 a3 a4 a5 a6 a7 a8 a9 a10 a11
              go_region_held3 (fun W' => W'.cell? ⟨q, 0, none⟩ = some (.int .i64 2) ∧ W'.cell? ⟨q, 1, none⟩ = some (.int .u32 x1) ∧ W'.cell? ⟨q, 2, none⟩ = some (.int .u32 x2) ∧ W'.cell? ⟨q, 3, none⟩ = some (.int .u64 x3) ∧ W'.cell? ⟨q, 4, none⟩ = some (.int .u32 x4) ∧ W'.cell? ⟨q, 5, none⟩ = some (.int .u64 x5) ∧ W'.cell? ⟨q, 6, none⟩ = some (.int .u32 x6) ∧ W'.cell? ⟨q, 7, none⟩ = some (.int .u8 x7) ∧ W'.cell? ⟨q, 8, none⟩ = some (.bool x8) ∧ W'.cell? ⟨q, 9, none⟩ = some (.int .u64 x9) ∧ W'.cell? ⟨q, 10, none⟩ = some (.int .u32 xa) ∧ W'.cell? ⟨q, 11, none⟩ = some (.slice A' x.length c'))
                (first | exact du_cells HS.out (by (with_reducible repeat (first | exact Mod.refl _ _ | refine Mod.drewN ?_ _ | refine Mod.drew ?_)))) (first
                | (go_at_call 18
                   have K := HS
                   clear HS
                   (
                     refine Calls.mono (du_ret K.out (by omega) x9 xa HKx.out HB.out (by have := HX.out.2; omega) HQ.out ?m1) ?_
                     case m1 => (with_reducible repeat (first | exact Mod.refl _ _ | refine Mod.drewN ?_ _ | refine Mod.drew ?_))
                     rintro e Vn ⟨rfl, hD⟩
                     have HS := Lib.hid hD
                     have hkn := du_cells hD (Mod.refl _ _)
                     clear K hD))
                | (go_at_call 19
                   have K := HS
                   clear HS
                   (
                     refine Calls.mono (du_rret K.out (by omega) x9 xa HKx.out HB.out (by have := HX.out.2; omega) HQ.out ?m1) ?_
                     case m1 => (with_reducible repeat (first | exact Mod.refl _ _ | refine Mod.drewN ?_ _ | refine Mod.drew ?_))
                     rintro e Vn ⟨rfl, fpn, hD⟩
                     have HS := Lib.hid hD
                     have hkn := du_cells hD (Mod.refl _ _)
                     clear K hD)))
              clear hk0

              all_goals
                have ho := HS.out.hB.ord
                have hlen := HS.out.hB.len
                obtain ⟨z, hz⟩ : ∃ z, (findV x1 x2 Lq).getD z37 = z := ⟨_, rfl⟩
                obtain ⟨oz, hoz⟩ : ∃ oz, (findV x1 x2 Lq).isSome = oz := ⟨_, rfl⟩
                have HZ := Lib.hid (And.intro hz (And.intro hoz ho))
                clear hz hoz ho
                obtain ⟨k0, k1, k2, k3, k4, k5, k6, k7, k8, k9, k10, k11⟩ := du_cells HS.out (Mod.refl _ _)
                go_wp2_with fail
                refine Calls.mono (du_of HS.out x1 x2 HX.out.1 HZ.out.1 HZ.out.2.1 ?m1) ?_
                case m1 => (with_reducible repeat (first | exact Mod.refl _ _ | refine Mod.drewN ?_ _ | refine Mod.drew ?_))
                rintro e Va ⟨rfl, hDa, -⟩
                have HA := Lib.hid (Du.mod hDa ((Mod.refl Va []).alloc (.cells #[.int .u32 z.f0.f0, .int .u32 z.f0.f1, .int .u64 z.f1.f0, .int .u32 z.f1.f1, .int .u64 z.f2.f0, .int .u32 z.f2.f1, .int .u8 z.f3, .bool z.f4] 37)))
                have h7 : BV (Va.alloc (.cells #[.int .u32 z.f0.f0, .int .u32 z.f0.f1, .int .u64 z.f1.f0, .int .u32 z.f1.f1, .int .u64 z.f2.f0, .int .u32 z.f2.f1, .int .u8 z.f3, .bool z.f4] 37)) Va.heap.size z := blk_new Va _
                clear hDa HS k0 k1 k2 k3 k4 k5 k6 k7 k8 k9 k10 k11
                obtain ⟨k0, k1, k2, k3, k4, k5, k6, k7, k8, k9, k10, k11⟩ := du_cells HA.out (Mod.refl _ _)
                go_wp2_with fail
                generalize Va.alloc (.cells #[.int .u32 z.f0.f0, .int .u32 z.f0.f1, .int .u64 z.f1.f0, .int .u32 z.f1.f1, .int .u64 z.f2.f0, .int .u32 z.f2.f1, .int .u8 z.f3, .bool z.f4] 37) = Vb at *
                generalize Va.heap.size = q7 at *
                refine Calls.mono (du_rof HA.out HZ.out.2.2 (by omega) x1 x2 HZ.out.1 HZ.out.2.1 ?m1) ?_
                case m1 => (with_reducible repeat (first | exact Mod.refl _ _ | refine Mod.drewN ?_ _ | refine Mod.drew ?_))
                rintro e Vc ⟨rfl, hDc, mc⟩
                have mz : Mod Vc (Vc.alloc (.cells #[.int .u32 z.f0.f0, .int .u32 z.f0.f1, .int .u64 z.f1.f0, .int .u32 z.f1.f1, .int .u64 z.f2.f0, .int .u32 z.f2.f1, .int .u8 z.f3, .bool z.f4] 37)) [] := (Mod.refl Vc []).alloc _
                have HC := Lib.hid (Du.mod hDc mz)
                have h9 : BV (Vc.alloc (.cells #[.int .u32 z.f0.f0, .int .u32 z.f0.f1, .int .u64 z.f1.f0, .int .u32 z.f1.f1, .int .u64 z.f2.f0, .int .u32 z.f2.f1, .int .u8 z.f3, .bool z.f4] 37)) Vc.heap.size z := blk_new Vc _
                have h7c : BV (Vc.alloc (.cells #[.int .u32 z.f0.f0, .int .u32 z.f0.f1, .int .u64 z.f1.f0, .int .u32 z.f1.f1, .int .u64 z.f2.f0, .int .u32 z.f2.f1, .int .u8 z.f3, .bool z.f4] 37)) q7 z := (h7.mod mc (by simp)).mod mz (by simp)
                clear hDc HA k0 k1 k2 k3 k4 k5 k6 k7 k8 k9 k10 k11 h7 mc mz
                go_upto_region 20 with fail
                generalize Vc.alloc (.cells #[.int .u32 z.f0.f0, .int .u32 z.f0.f1, .int .u64 z.f1.f0, .int .u32 z.f1.f1, .int .u64 z.f2.f0, .int .u32 z.f2.f1, .int .u8 z.f3, .bool z.f4] 37) = Vd at *
                generalize Vc.heap.size = q9 at *
                obtain ⟨A0, k0, hg0, hk0, hC0⟩ := HC.out.hR.get
                have HG := Lib.hid (And.intro hg0 (And.intro hk0 hC0))
                have HF : Hid (∀ W', Mod Vd W' [] → W'.cell? ⟨q7, 0, none⟩ = some (.int .u32 z.f0.f0) ∧ W'.cell? ⟨q7, 1, none⟩ = some (.int .u32 z.f0.f1) ∧ W'.cell? ⟨q7, 2, none⟩ = some (.int .u64 z.f1.f0) ∧ W'.cell? ⟨q7, 3, none⟩ = some (.int .u32 z.f1.f1) ∧ W'.cell? ⟨q7, 4, none⟩ = some (.int .u64 z.f2.f0) ∧ W'.cell? ⟨q7, 5, none⟩ = some (.int .u32 z.f2.f1) ∧ W'.cell? ⟨q7, 6, none⟩ = some (.int .u8 z.f3) ∧ W'.cell? ⟨q7, 7, none⟩ = some (.bool z.f4) ∧ W'.cell? ⟨q9, 0, none⟩ = some (.int .u32 z.f0.f0) ∧ W'.cell? ⟨q9, 1, none⟩ = some (.int .u32 z.f0.f1) ∧ W'.cell? ⟨q9, 2, none⟩ = some (.int .u64 z.f1.f0) ∧ W'.cell? ⟨q9, 3, none⟩ = some (.int .u32 z.f1.f1) ∧ W'.cell? ⟨q9, 4, none⟩ = some (.int .u64 z.f2.f0) ∧ W'.cell? ⟨q9, 5, none⟩ = some (.int .u32 z.f2.f1) ∧ W'.cell? ⟨q9, 6, none⟩ = some (.int .u8 z.f3) ∧ W'.cell? ⟨q9, 7, none⟩ = some (.bool z.f4) ∧ W'.cell? ⟨g, 0, none⟩ = some (.slice A0 Lq.length k0)) := Lib.hid fun W' mm => by
                  obtain ⟨e0, e1, e2, e3, e4, e5, e6, e7⟩ := h7c.at' mm
                  obtain ⟨f0, f1, f2, f3, f4, f5, f6, f7⟩ := h9.at' mm
                  exact ⟨e0, e1, e2, e3, e4, e5, e6, e7, f0, f1, f2, f3, f4, f5, f6, f7, cellM HG.out.1 mm⟩
                have hkeep := HF.out Vd (Mod.refl _ _)
                clear h7c h9 hg0 hk0 hC0
                go_region_held3 (fun W' => W'.cell? ⟨q7, 0, none⟩ = some (.int .u32 z.f0.f0) ∧ W'.cell? ⟨q7, 1, none⟩ = some (.int .u32 z.f0.f1) ∧ W'.cell? ⟨q7, 2, none⟩ = some (.int .u64 z.f1.f0) ∧ W'.cell? ⟨q7, 3, none⟩ = some (.int .u32 z.f1.f1) ∧ W'.cell? ⟨q7, 4, none⟩ = some (.int .u64 z.f2.f0) ∧ W'.cell? ⟨q7, 5, none⟩ = some (.int .u32 z.f2.f1) ∧ W'.cell? ⟨q7, 6, none⟩ = some (.int .u8 z.f3) ∧ W'.cell? ⟨q7, 7, none⟩ = some (.bool z.f4) ∧ W'.cell? ⟨q9, 0, none⟩ = some (.int .u32 z.f0.f0) ∧ W'.cell? ⟨q9, 1, none⟩ = some (.int .u32 z.f0.f1) ∧ W'.cell? ⟨q9, 2, none⟩ = some (.int .u64 z.f1.f0) ∧ W'.cell? ⟨q9, 3, none⟩ = some (.int .u32 z.f1.f1) ∧ W'.cell? ⟨q9, 4, none⟩ = some (.int .u64 z.f2.f0) ∧ W'.cell? ⟨q9, 5, none⟩ = some (.int .u32 z.f2.f1) ∧ W'.cell? ⟨q9, 6, none⟩ = some (.int .u8 z.f3) ∧ W'.cell? ⟨q9, 7, none⟩ = some (.bool z.f4) ∧ W'.cell? ⟨g, 0, none⟩ = some (.slice A0 Lq.length k0))
                  (first | exact HF.out _ (by (with_reducible repeat (first | exact N22.out | exact N23.out | exact Mod.refl _ _ | refine Mod.drewN ?_ _ | refine Mod.drew ?_)))) (first
                  | (go_at_call 23
                     (
                       refine Calls.mono (du_all HC.out (by omega) ?m1) ?_
                       case m1 => (with_reducible repeat (first | exact Mod.refl _ _ | refine Mod.drewN ?_ _ | refine Mod.drew ?_))
                       rintro e V3 ⟨A5, c5, rfl, h5, m5⟩
                       have n23 : Mod Vd V3 [] := by
                         refine Mod.trans ?_ m5 (fun _ hk => by cases hk)
                         (with_reducible repeat (first | exact Mod.refl _ _ | refine Mod.drewN ?_ _ | refine Mod.drew ?_))
                       have hk23 := HF.out _ n23
                       have N23 := Lib.hid n23
                       have H5 := Lib.hid h5
                       clear n23 m5 h5))
                  | (go_at_call 22
                     (
                       refine Calls.mono (same_calls (by omega) H5.out HG.out.2 ?m1 ?m2) ?_
                       case m1 => (with_reducible repeat (first | exact Mod.refl _ _ | refine Mod.drewN ?_ _ | refine Mod.drew ?_))
                       case m2 => (with_reducible repeat (first | exact N23.out | exact Mod.refl _ _ | refine Mod.drewN ?_ _ | refine Mod.drew ?_))
                       rintro e V4 ⟨rfl, m6⟩
                       have n22 : Mod Vd V4 [] := by
                         refine Mod.trans ?_ m6 (fun _ hk => by cases hk)
                         (with_reducible repeat (first | exact N23.out | exact Mod.refl _ _ | refine Mod.drewN ?_ _ | refine Mod.drew ?_))
                       have hk22 := HF.out _ n22
                       have N22 := Lib.hid n22
                       clear n22 m6)))
                all_goals
                  go_wp2
                  go_roundg (l.length - (j + 1))
                  case measure => omega
                  case rel => exact ⟨j + 1, _, Lq, by omega, rfl, by rw [show ((j + 1 : Nat) : Int) = (j : Int) + 1 by omega], by omega, ((HC.out.mod (by (with_reducible repeat (first | exact N22.out | exact N23.out | exact Mod.refl _ _ | refine Mod.drewN ?_ _ | refine Mod.drew ?_)))).dn.mono' (by omega))⟩

            · have w0b : (x0 == 0) = false := by simpa using w0
              have w1b : (x0 == 1) = false := by simpa using w1
              have w2b : (x0 == 2) = false := by simpa using w2
              go_upto_region 18 with fail
              generalize wr.alloc (.cells #[.int .i64 x0, .int .u32 x1, .int .u32 x2, .int .u64 x3, .int .u32 x4, .int .u64 x5, .int .u32 x6, .int .u8 x7, .bool x8, .int .u64 x9, .int .u32 xa, .slice A' x.length c'] 40) = V at *
              generalize wr.heap.size = q at *
              clear a0 a1 a2 a3 a4 a5 a6 a7 a8 a9 a10 a11
              have ho := HS.out.hB.ord
              have hlen := HS.out.hB.len
              obtain ⟨z, hz⟩ : ∃ z, (findV x1 x2 L).getD z37 = z := ⟨_, rfl⟩
              obtain ⟨oz, hoz⟩ : ∃ oz, (findV x1 x2 L).isSome = oz := ⟨_, rfl⟩
              have HZ := Lib.hid (And.intro hz (And.intro hoz ho))
              clear hz hoz ho
              obtain ⟨k0, k1, k2, k3, k4, k5, k6, k7, k8, k9, k10, k11⟩ := du_cells HS.out (Mod.refl _ _)
              go_wp2_with fail
              refine Calls.mono (du_of HS.out x1 x2 HX.out.1 HZ.out.1 HZ.out.2.1 ?m1) ?_
              case m1 => (with_reducible repeat (first | exact Mod.refl _ _ | refine Mod.drewN ?_ _ | refine Mod.drew ?_))
              rintro e Va ⟨rfl, hDa, -⟩
              have HA := Lib.hid (Du.mod hDa ((Mod.refl Va []).alloc (.cells #[.int .u32 z.f0.f0, .int .u32 z.f0.f1, .int .u64 z.f1.f0, .int .u32 z.f1.f1, .int .u64 z.f2.f0, .int .u32 z.f2.f1, .int .u8 z.f3, .bool z.f4] 37)))
              have h7 : BV (Va.alloc (.cells #[.int .u32 z.f0.f0, .int .u32 z.f0.f1, .int .u64 z.f1.f0, .int .u32 z.f1.f1, .int .u64 z.f2.f0, .int .u32 z.f2.f1, .int .u8 z.f3, .bool z.f4] 37)) Va.heap.size z := blk_new Va _
              clear hDa HS k0 k1 k2 k3 k4 k5 k6 k7 k8 k9 k10 k11
              obtain ⟨k0, k1, k2, k3, k4, k5, k6, k7, k8, k9, k10, k11⟩ := du_cells HA.out (Mod.refl _ _)
              go_wp2_with fail
              generalize Va.alloc (.cells #[.int .u32 z.f0.f0, .int .u32 z.f0.f1, .int .u64 z.f1.f0, .int .u32 z.f1.f1, .int .u64 z.f2.f0, .int .u32 z.f2.f1, .int .u8 z.f3, .bool z.f4] 37) = Vb at *
              generalize Va.heap.size = q7 at *
              refine Calls.mono (du_rof HA.out HZ.out.2.2 (by omega) x1 x2 HZ.out.1 HZ.out.2.1 ?m1) ?_
              case m1 => (with_reducible repeat (first | exact Mod.refl _ _ | refine Mod.drewN ?_ _ | refine Mod.drew ?_))
              rintro e Vc ⟨rfl, hDc, mc⟩
              have mz : Mod Vc (Vc.alloc (.cells #[.int .u32 z.f0.f0, .int .u32 z.f0.f1, .int .u64 z.f1.f0, .int .u32 z.f1.f1, .int .u64 z.f2.f0, .int .u32 z.f2.f1, .int .u8 z.f3, .bool z.f4] 37)) [] := (Mod.refl Vc []).alloc _
              have HC := Lib.hid (Du.mod hDc mz)
              have h9 : BV (Vc.alloc (.cells #[.int .u32 z.f0.f0, .int .u32 z.f0.f1, .int .u64 z.f1.f0, .int .u32 z.f1.f1, .int .u64 z.f2.f0, .int .u32 z.f2.f1, .int .u8 z.f3, .bool z.f4] 37)) Vc.heap.size z := blk_new Vc _
              have h7c : BV (Vc.alloc (.cells #[.int .u32 z.f0.f0, .int .u32 z.f0.f1, .int .u64 z.f1.f0, .int .u32 z.f1.f1, .int .u64 z.f2.f0, .int .u32 z.f2.f1, .int .u8 z.f3, .bool z.f4] 37)) q7 z := (h7.mod mc (by simp)).mod mz (by simp)
              clear hDc HA k0 k1 k2 k3 k4 k5 k6 k7 k8 k9 k10 k11 h7 mc mz
              go_upto_region 20 with fail
              generalize Vc.alloc (.cells #[.int .u32 z.f0.f0, .int .u32 z.f0.f1, .int .u64 z.f1.f0, .int .u32 z.f1.f1, .int .u64 z.f2.f0, .int .u32 z.f2.f1, .int .u8 z.f3, .bool z.f4] 37) = Vd at *
              generalize Vc.heap.size = q9 at *
              obtain ⟨A0, k0, hg0, hk0, hC0⟩ := HC.out.hR.get
              have HG := Lib.hid (And.intro hg0 (And.intro hk0 hC0))
              have HF : Hid (∀ W', Mod Vd W' [] → W'.cell? ⟨q7, 0, none⟩ = some (.int .u32 z.f0.f0) ∧ W'.cell? ⟨q7, 1, none⟩ = some (.int .u32 z.f0.f1) ∧ W'.cell? ⟨q7, 2, none⟩ = some (.int .u64 z.f1.f0) ∧ W'.cell? ⟨q7, 3, none⟩ = some (.int .u32 z.f1.f1) ∧ W'.cell? ⟨q7, 4, none⟩ = some (.int .u64 z.f2.f0) ∧ W'.cell? ⟨q7, 5, none⟩ = some (.int .u32 z.f2.f1) ∧ W'.cell? ⟨q7, 6, none⟩ = some (.int .u8 z.f3) ∧ W'.cell? ⟨q7, 7, none⟩ = some (.bool z.f4) ∧ W'.cell? ⟨q9, 0, none⟩ = some (.int .u32 z.f0.f0) ∧ W'.cell? ⟨q9, 1, none⟩ = some (.int .u32 z.f0.f1) ∧ W'.cell? ⟨q9, 2, none⟩ = some (.int .u64 z.f1.f0) ∧ W'.cell? ⟨q9, 3, none⟩ = some (.int .u32 z.f1.f1) ∧ W'.cell? ⟨q9, 4, none⟩ = some (.int .u64 z.f2.f0) ∧ W'.cell? ⟨q9, 5, none⟩ = some (.int .u32 z.f2.f1) ∧ W'.cell? ⟨q9, 6, none⟩ = some (.int .u8 z.f3) ∧ W'.cell? ⟨q9, 7, none⟩ = some (.bool z.f4) ∧ W'.cell? ⟨g, 0, none⟩ = some (.slice A0 L.length k0)) := Lib.hid fun W' mm => by
                obtain ⟨e0, e1, e2, e3, e4, e5, e6, e7⟩ := h7c.at' mm
                obtain ⟨f0, f1, f2, f3, f4, f5, f6, f7⟩ := h9.at' mm
                exact ⟨e0, e1, e2, e3, e4, e5, e6, e7, f0, f1, f2, f3, f4, f5, f6, f7, cellM HG.out.1 mm⟩
              have hkeep := HF.out Vd (Mod.refl _ _)
              clear h7c h9 hg0 hk0 hC0
              go_region_held3 (fun W' => W'.cell? ⟨q7, 0, none⟩ = some (.int .u32 z.f0.f0) ∧ W'.cell? ⟨q7, 1, none⟩ = some (.int .u32 z.f0.f1) ∧ W'.cell? ⟨q7, 2, none⟩ = some (.int .u64 z.f1.f0) ∧ W'.cell? ⟨q7, 3, none⟩ = some (.int .u32 z.f1.f1) ∧ W'.cell? ⟨q7, 4, none⟩ = some (.int .u64 z.f2.f0) ∧ W'.cell? ⟨q7, 5, none⟩ = some (.int .u32 z.f2.f1) ∧ W'.cell? ⟨q7, 6, none⟩ = some (.int .u8 z.f3) ∧ W'.cell? ⟨q7, 7, none⟩ = some (.bool z.f4) ∧ W'.cell? ⟨q9, 0, none⟩ = some (.int .u32 z.f0.f0) ∧ W'.cell? ⟨q9, 1, none⟩ = some (.int .u32 z.f0.f1) ∧ W'.cell? ⟨q9, 2, none⟩ = some (.int .u64 z.f1.f0) ∧ W'.cell? ⟨q9, 3, none⟩ = some (.int .u32 z.f1.f1) ∧ W'.cell? ⟨q9, 4, none⟩ = some (.int .u64 z.f2.f0) ∧ W'.cell? ⟨q9, 5, none⟩ = some (.int .u32 z.f2.f1) ∧ W'.cell? ⟨q9, 6, none⟩ = some (.int .u8 z.f3) ∧ W'.cell? ⟨q9, 7, none⟩ = some (.bool z.f4) ∧ W'.cell? ⟨g, 0, none⟩ = some (.slice A0 L.length k0))
                (first | exact HF.out _ (by (with_reducible repeat (first | exact N22.out | exact N23.out | exact Mod.refl _ _ | refine Mod.drewN ?_ _ | refine Mod.drew ?_)))) (first
                | (go_at_call 23
                   (
                     refine Calls.mono (du_all HC.out (by omega) ?m1) ?_
                     case m1 => (with_reducible repeat (first | exact Mod.refl _ _ | refine Mod.drewN ?_ _ | refine Mod.drew ?_))
                     rintro e V3 ⟨A5, c5, rfl, h5, m5⟩
                     have n23 : Mod Vd V3 [] := by
                       refine Mod.trans ?_ m5 (fun _ hk => by cases hk)
                       (with_reducible repeat (first | exact Mod.refl _ _ | refine Mod.drewN ?_ _ | refine Mod.drew ?_))
                     have hk23 := HF.out _ n23
                     have N23 := Lib.hid n23
                     have H5 := Lib.hid h5
                     clear n23 m5 h5))
                | (go_at_call 22
                   (
                     refine Calls.mono (same_calls (by omega) H5.out HG.out.2 ?m1 ?m2) ?_
                     case m1 => (with_reducible repeat (first | exact Mod.refl _ _ | refine Mod.drewN ?_ _ | refine Mod.drew ?_))
                     case m2 => (with_reducible repeat (first | exact N23.out | exact Mod.refl _ _ | refine Mod.drewN ?_ _ | refine Mod.drew ?_))
                     rintro e V4 ⟨rfl, m6⟩
                     have n22 : Mod Vd V4 [] := by
                       refine Mod.trans ?_ m6 (fun _ hk => by cases hk)
                       (with_reducible repeat (first | exact N23.out | exact Mod.refl _ _ | refine Mod.drewN ?_ _ | refine Mod.drew ?_))
                     have hk22 := HF.out _ n22
                     have N22 := Lib.hid n22
                     clear n22 m6)))
              all_goals
                go_wp2
                go_roundg (l.length - (j + 1))
                case measure => omega
                case rel => exact ⟨j + 1, _, L, by omega, rfl, by rw [show ((j + 1 : Nat) : Int) = (j : Int) + 1 by omega], by omega, ((HC.out.mod (by (with_reducible repeat (first | exact N22.out | exact N23.out | exact Mod.refl _ _ | refine Mod.drewN ?_ _ | refine Mod.drew ?_)))).dn.mono' (by omega))⟩

    · obtain rfl : j = l.length := by omega
      have hzz : ¬ ((l.length : Int) < (l.length : Int)) := by omega
      have hM := HN.out.hM
      go_wp2
      go_ret
      exact ⟨rfl, hM⟩
end Go.Proofs.Ytdelbidaclddgaa.Ver
