/- The layer 'latch': LatE; a seat's own text, no law of its own. -/
import Derived.Test.YtdelbidaclddgaaLatD
import Derived.Deep.LoopGhost
import Derived.Deep.Cut
import Derived.Lib.Hide
import Derived.StillTailTactics
import Derived.Deep.QuietTactic
import Derived.BigQuiet
import Derived.Outline
import Derived.Deep.RegionWith
import Derived.Deep.RegionHeld3
import Derived.WalkLawsBesides
namespace Go.Proofs.Ytdelbidaclddgaa.Lat
open Go.RowKit Go.Proofs.YtdelbidaclddgaaW.PrintWords Go.Proofs.Ytdelbidaclddgaa.MLatchRuns Go.Proofs.YtdelbidaclddgaaW.PrintLast
set_option linter.unusedVariables false
set_option linter.unusedSimpArgs false
/-! First -/
def standsB (t0 t1 : Int) (but : List S32) (x : S65) : Bool := !lessB t0 t1 x.f2.f0 x.f2.f1 && !hasB but x.f0.f0 x.f0.f1
def firstI (lo hi : ByteArray) (t0 t1 : Int) (but : List S32) (L : List S65) : Option S65 := (rngI lo hi L).find? (standsB t0 t1 but)
structure Fz (W V : World) (q t m : Nat) (L : List S65) (fp : List Nat) (t0 t1 : Int) (A : Option Addr) (but : List S32) : Prop where
  hM : Mod W V []
  hT : Tab V t m L fp
  hS : SB V q ⟨t0, t1⟩
  hI : IB V (q + 1) z65
  hK : Kd.C k32 V A but.length but
  hq : W.heap.size ≤ q
theorem Fz.mod {W V V' : World} {q t m : Nat} {L : List S65} {fp : List Nat} {t0 t1 : Int} {A : Option Addr} {but : List S32} (h : Fz W V q t m L fp t0 t1 A but) (mm : Mod V V' []) : Fz W V' q t m L fp t0 t1 A but :=
  ⟨h.hM.trans mm (fun _ hk => by cases hk), h.hT.mod0 mm, h.hS.mod mm (by simp), h.hI.mod mm (by simp), Kd.C_below h.hK mm.bel, h.hq⟩
theorem Fz.made {W : World} {t m : Nat} {L : List S65} {fp : List Nat} {A : Option Addr} {but : List S32} (h : Tab W t m L fp) (t0 t1 : Int) (hr : Kd.C k32 W A but.length but) : Fz W ((W.alloc (.cells #[.int .u64 t0, .int .u32 t1] 35)).alloc (.cells #[.int .u32 z65.f0.f0, .int .u32 z65.f0.f1, .int .u64 z65.f1.f0, .int .u32 z65.f1.f1, .int .u64 z65.f2.f0, .int .u32 z65.f2.f1, .string z65.f3, .string z65.f4.f0, .string z65.f4.f1, .bool z65.f4.f2] 65)) W.heap.size t m L fp t0 t1 A but := by
  have m0 := (Mod.refl W []).alloc (.cells #[.int .u64 t0, .int .u32 t1] 35)
  have m1 := (Mod.refl (W.alloc (.cells #[.int .u64 t0, .int .u32 t1] 35)) []).alloc (.cells #[.int .u32 z65.f0.f0, .int .u32 z65.f0.f1, .int .u64 z65.f1.f0, .int .u32 z65.f1.f1, .int .u64 z65.f2.f0, .int .u32 z65.f2.f1, .string z65.f3, .string z65.f4.f0, .string z65.f4.f1, .bool z65.f4.f2] 65)
  have s1 : (W.alloc (.cells #[.int .u64 t0, .int .u32 t1] 35)).heap.size = W.heap.size + 1 := by simp
  have n0 : SB (W.alloc (.cells #[.int .u64 t0, .int .u32 t1] 35)) W.heap.size ⟨t0, t1⟩ := blk_new W _
  have i0 : IB ((W.alloc (.cells #[.int .u64 t0, .int .u32 t1] 35)).alloc (.cells #[.int .u32 z65.f0.f0, .int .u32 z65.f0.f1, .int .u64 z65.f1.f0, .int .u32 z65.f1.f1, .int .u64 z65.f2.f0, .int .u32 z65.f2.f1, .string z65.f3, .string z65.f4.f0, .string z65.f4.f1, .bool z65.f4.f2] 65)) (W.heap.size + 1) z65 := s1 ▸ blk_new _ _
  have mm := m0.trans m1 (fun _ hk => by cases hk)
  exact ⟨mm, h.mod0 mm, n0.mod m1 (by simp), i0, Kd.C_below hr mm.bel, Nat.le_refl _⟩
set_option maxHeartbeats 4000000 in
set_option maxRecDepth 100000 in
theorem firstI_calls {W : World} {t m : Nat} {L : List S65} {fp : List Nat} (h : Tab W t m L fp) (hl : L.length ≤ 1000000) (lo hi : ByteArray) (t0 t1 : Int) (A : Option Addr) (k : Nat) (but : List S32) (hr : Kd.C k32 W A but.length but) (hc : but.length ≤ k) (hbl : but.length ≤ 4611686018427387904) {res : Option S65} (hf : firstI lo hi t0 t1 but L = res) :
    Calls Try.prog 28 #[.pointer (some ⟨t, 0, none⟩), .string lo, .string hi, .agg #[.int .u64 t0, .int .u32 t1], .slice A but.length k] W fun e W' => e = ofEnd res ∧ Mod W W' [] := by
  have H1 := Lib.hid (Fz.made h t0 t1 hr)
  simp only [z65, z32, z35, z63] at H1
  have HB := Lib.hid (And.intro hc hbl)
  have hs1 : (W.alloc (.cells #[.int .u64 t0, .int .u32 t1] 35)).heap.size = W.heap.size + 1 := by simp
  clear h hr hc hbl
  unfold firstI at hf
  have HF0 := Lib.hid hf
  clear hf
  go_enter Try.func28, Try.ntmps28
  go_upto_region 3 with fail
  clear hs1
  generalize (W.alloc _).alloc _ = W1 at *
  generalize W.heap.size = q at *
  obtain ⟨hb, kb, Hs, fk, h1, lk, hfp⟩ := H1.out.hT
  have c1 := h1.c1
  have HK := Lib.hid h1.hk
  have HS := Lib.hid h1.hk.sorted
  clear h1 lk hfp
  go_wp2_with fail
  refine (keysI_calls lo hi HK.out hl).mono ?_
  rintro e W2 ⟨A', c', rfl, m2, hk⟩
  have H2 := Lib.hid (And.intro (H1.out.mod m2) hk)
  have hRl : (rngI lo hi L).length ≤ 1000000 := Nat.le_trans (List.length_filter_le _ _) hl
  have HR : Hid (∀ i (hx : i < (rngI lo hi L).length), findI (rngI lo hi L)[i].f4.f0 L = some (rngI lo hi L)[i]) := Lib.hid fun i hx => find_at HS.out (List.mem_filter.1 (List.getElem_mem hx)).1
  have HF : Hid ((rngI lo hi L).find? (standsB t0 t1 but) = res) := Lib.hid HF0.out
  clear HF0
  generalize rngI lo hi L = R at *
  clear m2 hk c1 H1 HK HS
  go_wp2_with fail
  go_loopg [27] R.length (fun k i wr => ∃ j : Nat, j ≤ R.length ∧ k = R.length - j ∧ i = .int .i64 j ∧ (R.drop j).find? (standsB t0 t1 but) = res ∧ Mod W2 wr [])
  case atStart => exact ⟨0, Nat.zero_le _, rfl, rfl, HF.out, Mod.refl _ _⟩
  case round =>
    obtain ⟨j, hj, rfl, rfl, hres, hM⟩ := hrel
    by_cases hjl : j < R.length
    · have hjz : (j : Int) < (R.length : Int) := by omega
      have hw : IntKind.i64.wrap ((j : Int) + 1) = ((j + 1 : Nat) : Int) := by rw [i64w (by omega) (by omega)]; omega
      obtain ⟨g, rfl, hk⟩ := H2.out.2 j hjl
      have hk' : wr.cell? ⟨g, j, none⟩ = some (.string R[j].f4.f0) := hM.cellN hk (by simp)
      have hfi := HR.out j hjl
      rw [List.drop_eq_getElem_cons hjl, List.find?_cons] at hres
      have HJ := Lib.hid (And.intro hres (And.intro (H2.out.1.mod hM) (And.intro hM hfi)))
      clear hM hfi hk hres
      generalize R[j] = y at *
      go_wp2_with fail
      refine (of_calls (HJ.out.2.1.hT) y.f4.f0).mono ?_
      rw [HJ.out.2.2.2]
      simp only [ofEnd]
      rintro e W3 ⟨rfl, m3⟩
      have F4 := (HJ.out.2.1.mod m3).mod ((Mod.refl W3 []).alloc (.cells #[.int .u32 y.f0.f0, .int .u32 y.f0.f1, .int .u64 y.f1.f0, .int .u32 y.f1.f1, .int .u64 y.f2.f0, .int .u32 y.f2.f1, .string y.f3, .string y.f4.f0, .string y.f4.f1, .bool y.f4.f2] 65))
      have x4 : IB (W3.alloc (.cells #[.int .u32 y.f0.f0, .int .u32 y.f0.f1, .int .u64 y.f1.f0, .int .u32 y.f1.f1, .int .u64 y.f2.f0, .int .u32 y.f2.f1, .string y.f3, .string y.f4.f0, .string y.f4.f1, .bool y.f4.f2] 65)) W3.heap.size y := blk_new W3 _
      have m4 := (HJ.out.2.2.1.trans m3 (fun _ hk => by cases hk)).alloc (.cells #[.int .u32 y.f0.f0, .int .u32 y.f0.f1, .int .u64 y.f1.f0, .int .u32 y.f1.f1, .int .u64 y.f2.f0, .int .u32 y.f2.f1, .string y.f3, .string y.f4.f0, .string y.f4.f1, .bool y.f4.f2] 65)
      have H4 := Lib.hid (And.intro F4 (And.intro x4 m4))
      clear m3 m4 hk' x4 F4
      go_upto_region 7 with fail
      generalize W3.alloc _ = W4 at *
      generalize W3.heap.size = q4 at *
      obtain ⟨c0, c1, c2, c3, c4, c5, c6, c7, c8, c9⟩ := H4.out.2.1.all
      obtain ⟨s0, s1⟩ := H4.out.1.hS.all
      simp only at s0 s1
      obtain ⟨r1, h1⟩ : ∃ r, lessB t0 t1 y.f2.f0 y.f2.f1 = r := ⟨_, rfl⟩
      obtain ⟨r2, h2⟩ : ∃ r, hasB but y.f0.f0 y.f0.f1 = r := ⟨_, rfl⟩
      have H12 := Lib.hid (And.intro h1 h2)
      clear h1 h2
      go_wp2_with fail
      refine (less_calls t0 t1 y.f2.f0 y.f2.f1 _).mono ?_
      rw [H12.out.1]
      rintro e W5 ⟨rfl, m5⟩
      have H5 := Lib.hid (And.intro (H4.out.1.mod m5) (And.intro (H4.out.2.1.mod m5 (by simp)) (H4.out.2.2.trans m5 (fun _ hk => by cases hk))))
      clear c0 c1 c2 c3 c4 c5 c6 c7 c8 c9 s0 s1 m5 H4
      obtain ⟨c0, c1, c2, c3, c4, c5, c6, c7, c8, c9⟩ := H5.out.2.1.all
      cases r1
      · go_wp2_with fail
        refine (has_calls _ _ _ _ _ _ H5.out.1.hK HB.out.1 HB.out.2).mono ?_
        rw [H12.out.2]
        rintro e W6 ⟨rfl, m6⟩
        have H6 := Lib.hid (And.intro (H5.out.1.mod m6) (And.intro (H5.out.2.1.mod m6 (by simp)) (H5.out.2.2.trans m6 (fun _ hk => by cases hk))))
        clear c0 c1 c2 c3 c4 c5 c6 c7 c8 c9 m6 H5
        obtain ⟨c0, c1, c2, c3, c4, c5, c6, c7, c8, c9⟩ := H6.out.2.1.all
        obtain ⟨d0, d1, d2, d3, d4, d5, d6, d7, d8, d9⟩ := H6.out.1.hI.all
        simp only [z65, z32, z35, z63] at d0 d1 d2 d3 d4 d5 d6 d7 d8 d9
        have fz := blk_frozen H6.out.1.hI
        cases r2
        · have HE : Hid (some y = res) := Lib.hid (by
            have h := HJ.out.1
            rw [show standsB t0 t1 but y = true from by unfold standsB; rw [H12.out.1, H12.out.2]; rfl] at h
            exact h)
          go_wp2
          have hp := H6.out.1.hI.put y
          have hm := H6.out.1.hM.putIB (.inr (Nat.le_succ_of_le H6.out.1.hq)) y
          unfold putIB at hp hm
          unfold IB at hp
          refine bodyPost_ret (results_ct rfl _ _ (q + 1) 65 _ (0, 0) _ rfl hp Try.underlying65 rfl (by kernel_rfl)) rfl ?_
          rw [← HE.out]
          exact ⟨rfl, hm⟩
        · have HE : Hid ((R.drop (j + 1)).find? (standsB t0 t1 but) = res) := Lib.hid (by
            have h := HJ.out.1
            rw [show standsB t0 t1 but y = false from by unfold standsB; rw [H12.out.2]; simp] at h
            exact h)
          go_wp2
          go_roundg (R.length - (j + 1))
          case measure => omega
          case rel => exact ⟨j + 1, by omega, rfl, by rw [show ((j + 1 : Nat) : Int) = (j : Int) + 1 by omega], HE.out, H6.out.2.2⟩
      · have HE : Hid ((R.drop (j + 1)).find? (standsB t0 t1 but) = res) := Lib.hid (by
          have h := HJ.out.1
          rw [show standsB t0 t1 but y = false from by unfold standsB; rw [H12.out.1]; rfl] at h
          exact h)
        go_wp2
        go_roundg (R.length - (j + 1))
        case measure => omega
        case rel => exact ⟨j + 1, by omega, rfl, by rw [show ((j + 1 : Nat) : Int) = (j : Int) + 1 by omega], HE.out, H5.out.2.2⟩
    · obtain rfl : j = R.length := by omega
      have hjz : ¬ (R.length : Int) < (R.length : Int) := by omega
      have HE : Hid (none = res) := Lib.hid (by rw [← hres, List.drop_length]; rfl)
      have H6 := Lib.hid (H2.out.1.mod hM)
      clear hres hM
      obtain ⟨d0, d1, d2, d3, d4, d5, d6, d7, d8, d9⟩ := H6.out.hI.all
      simp only [z65, z32, z35, z63] at d0 d1 d2 d3 d4 d5 d6 d7 d8 d9
      have fz := blk_frozen H6.out.hI
      go_wp2
      have hp := H6.out.hI.put z65
      have hm := H6.out.hM.putIB (.inr (Nat.le_succ_of_le H6.out.hq)) z65
      unfold putIB at hp hm
      unfold IB at hp
      refine bodyPost_ret (results_ct rfl _ _ (q + 1) 65 _ (0, 0) _ rfl hp Try.underlying65 rfl (by kernel_rfl)) rfl ?_
      rw [← HE.out]
      exact ⟨rfl, hm⟩
end Go.Proofs.Ytdelbidaclddgaa.Lat
