/- The layer 'latch': LatF; a seat's own text, no law of its own. -/
import Derived.Test.YtdelbidaclddgaaLatE
import Derived.Deep.LoopGhost
import Derived.Deep.Cut
import Derived.Lib.Hide
import Derived.StillTailTactics
import Derived.Deep.QuietTactic
import Derived.BigQuiet
import Derived.Outline
import Derived.Deep.RegionWith
import Derived.Deep.RegionHeld3
import Derived.WalkLawsBesides
namespace Go.Proofs.Ytdelbidaclddgaa.Lat
open Go.RowKit Go.Proofs.YtdelbidaclddgaaW.PrintWords Go.Proofs.Ytdelbidaclddgaa.MLatchRuns Go.Proofs.YtdelbidaclddgaaW.PrintLast
set_option linter.unusedVariables false
set_option linter.unusedSimpArgs false
/-! By -/
structure Bz (W V : World) (q t hb m kb : Nat) (Hs : List Hd) (K : List (ByteArray × S105)) (fk : List Nat) (c n : Int) : Prop where
  hM : Mod W V []
  hT : TB V t hb m kb Hs K fk
  hN : NB V q ⟨c, n⟩
  hq : W.heap.size ≤ q
  hl : ∀ x ∈ blocks t hb fk Hs, x < W.heap.size
theorem Bz.mod {W V V' : World} {q t hb m kb : Nat} {Hs : List Hd} {K : List (ByteArray × S105)} {fk : List Nat} {c n : Int} (h : Bz W V q t hb m kb Hs K fk c n) (mm : Mod V V' []) : Bz W V' q t hb m kb Hs K fk c n :=
  ⟨h.hM.trans mm (fun _ hk => by cases hk), h.hT.mod0 mm, h.hN.mod mm (by simp), h.hq, h.hl⟩
theorem Bz.made {W : World} {t hb m kb : Nat} {Hs : List Hd} {K : List (ByteArray × S105)} {fk : List Nat} (h : TB W t hb m kb Hs K fk) (c n : Int) : Bz W (W.alloc (.cells #[.int .u32 c, .int .u32 n] 32)) W.heap.size t hb m kb Hs K fk c n :=
  ⟨(Mod.refl W []).alloc _, h.mod0 ((Mod.refl W []).alloc _), blk_new W _, Nat.le_refl _, h.lt⟩
/-- the table's map, a name in a box, what the look-up tells -/
theorem Bz.look {W V : World} {q t hb m kb : Nat} {Hs : List Hd} {K : List (ByteArray × S105)} {fk : List Nat} {c n : Int} (h : Bz W V q t hb m kb Hs K fk c n) (hk : inK c n) : V.cell? ⟨t, 0, none⟩ = some (.map (some hb)) ∧ V.cell? ⟨q, 0, none⟩ = some (.int .u32 c) ∧ V.cell? ⟨q, 1, none⟩ = some (.int .u32 n) ∧ (Instr.lookup 101 (.map (some hb)) (.agg #[.int .u32 c, .int .u32 n]) false).run Try.prog V = .ok (ptQ (findH c n Hs)) V := by
  obtain ⟨a, b⟩ := h.hN.all
  exact ⟨h.hT.c0, a, b, hlook h.hT.hm h.hT.rgs hk⟩
theorem wr_cells {w : World} {A : Option Addr} {l : List S63} (h : Kd.C k63 w A l.length l) (j : Nat) (hj : j < l.length) : ∃ ad, A = some ad ∧ w.cell? (ad.add (j * 3)) = some (.string l[j].f0) ∧ w.cell? ⟨(ad.add (j * 3)).block, (ad.add (j * 3)).off + 1, none⟩ = some (.string l[j].f1) ∧ w.cell? ⟨(ad.add (j * 3)).block, (ad.add (j * 3)).off + 2, none⟩ = some (.bool l[j].f2) := by
  obtain ⟨ad, e, h1, h2, h3⟩ := at_T63 h (j : Int) (by omega) (by omega)
  have e2 : rd_T63 l (j : Int) = l[j] := by
    unfold rd_T63
    rw [show ((j : Int)).toNat = j from by omega]
    exact (List.getElem_eq_getD _).symm
  rw [e2, show ((j : Int)).toNat = j from by omega] at h1 h2 h3
  exact ⟨ad, e, h1, h2, h3⟩
theorem byL_len (L : List S65) (c n : Int) : (byL L c n).length ≤ L.length := List.length_filter_le _ _
set_option maxHeartbeats 4000000 in
set_option maxRecDepth 100000 in
theorem by_none {W : World} {t hb m kb : Nat} {Hs : List Hd} {K : List (ByteArray × S105)} {fk : List Nat} (h : TB W t hb m kb Hs K fk) (c n : Int) (hk : inK c n) (hf : findH c n Hs = none) :
    Calls Try.prog 29 #[.pointer (some ⟨t, 0, none⟩), .agg #[.int .u32 c, .int .u32 n]] W (AllP W []) := by
  have H1 := Lib.hid (Bz.made h c n)
  clear h
  go_enter Try.func29, Try.ntmps29
  go_upto_region 1 with fail
  generalize W.alloc _ = W1 at *
  generalize W.heap.size = q at *
  have HS : Hid (∀ W', Mod W1 W' [] → W'.cell? ⟨t, 0, none⟩ = some (.map (some hb)) ∧ W'.cell? ⟨q, 0, none⟩ = some (.int .u32 c) ∧ W'.cell? ⟨q, 1, none⟩ = some (.int .u32 n) ∧ (Instr.lookup 101 (.map (some hb)) (.agg #[.int .u32 c, .int .u32 n]) false).run Try.prog W' = .ok (.pointer none) W') := Lib.hid fun W' mm => by
    have h := (H1.out.mod mm).look hk
    rw [hf] at h
    exact h
  clear hf hk
  go_region_held3 (fun W' => W'.cell? ⟨t, 0, none⟩ = some (.map (some hb)) ∧ W'.cell? ⟨q, 0, none⟩ = some (.int .u32 c) ∧ W'.cell? ⟨q, 1, none⟩ = some (.int .u32 n) ∧ (Instr.lookup 101 (.map (some hb)) (.agg #[.int .u32 c, .int .u32 n]) false).run Try.prog W' = .ok (.pointer none) W')
    (first | exact HS.out _ (by (with_reducible repeat (first | exact Mod.refl _ _ | refine Mod.alloc ?_ _ | refine Mod.drewN ?_ _ | refine Mod.drew ?_)))) (fail)
  all_goals
    go_wp2
    go_ret
    exact ⟨none, 0, rfl, Kd.R_nil _ _ _ _ _, H1.out.hM.drew⟩
theorem intent_at {W : World} {h : Hd} (hb : HB W h) (y : S65) (e1 : h.st = y.f1) (e2 : h.mn = y.f2) (e3 : h.pr = y.f3) (c n : Int) (ec : c = y.f0.f0) (en : n = y.f0.f1) :
    Calls Try.prog 68 #[.pointer (some ⟨h.q, 0, none⟩), .agg #[.int .u32 c, .int .u32 n], .agg #[.string y.f4.f0, .string y.f4.f1, .bool y.f4.f2]] W fun e W' => e = .returned (.agg #[.int .u32 y.f0.f0, .int .u32 y.f0.f1, .int .u64 y.f1.f0, .int .u32 y.f1.f1, .int .u64 y.f2.f0, .int .u32 y.f2.f1, .string y.f3, .string y.f4.f0, .string y.f4.f1, .bool y.f4.f2]) ∧ Mod W W' [] := by
  subst ec en
  exact intent_calls hb y e1 e2 e3
set_option maxHeartbeats 4000000 in
set_option maxRecDepth 100000 in
theorem by_some {W : World} {t hb m kb : Nat} {Hs : List Hd} {L : List S65} {fk : List Nat} (h : TB W t hb m kb Hs (L.map pairOf) fk) (lk : Lk Hs L) (hl : L.length ≤ 1000000) {hh : Hd} (hin : hh ∈ Hs) :
    Calls Try.prog 29 #[.pointer (some ⟨t, 0, none⟩), .agg #[.int .u32 hh.c, .int .u32 hh.n]] W (AllP W (byL L hh.c hh.n)) := by
  have hk : inK hh.c hh.n := h.rgs hh hin
  have hf := findH_at h.ord hin
  have hby := byL_some lk h.ord hin
  have hlen : hh.ws.length ≤ 1000000 := by have := byL_len L hh.c hh.n; rw [hby, List.length_map] at this; omega
  have H1 := Lib.hid (Bz.made h hh.c hh.n)
  rw [hby]
  have HI := Lib.hid (And.intro hin (And.intro hk hf))
  clear h lk hby hin hk hf
  go_enter Try.func29, Try.ntmps29
  go_upto_region 1 with fail
  generalize W.alloc _ = W1 at *
  generalize W.heap.size = q at *
  have HS : Hid (∀ W', Mod W1 W' [] → W'.cell? ⟨t, 0, none⟩ = some (.map (some hb)) ∧ W'.cell? ⟨q, 0, none⟩ = some (.int .u32 hh.c) ∧ W'.cell? ⟨q, 1, none⟩ = some (.int .u32 hh.n) ∧ (Instr.lookup 101 (.map (some hb)) (.agg #[.int .u32 hh.c, .int .u32 hh.n]) false).run Try.prog W' = .ok (.pointer (some ⟨hh.q, 0, none⟩)) W' ∧ W'.cell? ⟨hh.q, 5, none⟩ = some (.slice hh.A hh.ws.length hh.k)) := Lib.hid fun W' mm => by
    have h := (H1.out.mod mm).look HI.out.2.1
    rw [HI.out.2.2] at h
    exact ⟨h.1, h.2.1, h.2.2.1, h.2.2.2, (blk_cell (((H1.out.mod mm).hT.hh hh HI.out.1).hq) 5).trans rfl⟩
  go_region_held3 (fun W' => W'.cell? ⟨t, 0, none⟩ = some (.map (some hb)) ∧ W'.cell? ⟨q, 0, none⟩ = some (.int .u32 hh.c) ∧ W'.cell? ⟨q, 1, none⟩ = some (.int .u32 hh.n) ∧ (Instr.lookup 101 (.map (some hb)) (.agg #[.int .u32 hh.c, .int .u32 hh.n]) false).run Try.prog W' = .ok (.pointer (some ⟨hh.q, 0, none⟩)) W' ∧ W'.cell? ⟨hh.q, 5, none⟩ = some (.slice hh.A hh.ws.length hh.k))
    (first | exact HS.out _ (by (with_reducible repeat (first | exact Mod.refl _ _ | refine Mod.alloc ?_ _ | refine Mod.drewN ?_ _ | refine Mod.drew ?_)))) (fail)
  go_upto_region 4 with fail
  go_region_held3 (fun W' => W'.cell? ⟨t, 0, none⟩ = some (.map (some hb)) ∧ W'.cell? ⟨q, 0, none⟩ = some (.int .u32 hh.c) ∧ W'.cell? ⟨q, 1, none⟩ = some (.int .u32 hh.n) ∧ (Instr.lookup 101 (.map (some hb)) (.agg #[.int .u32 hh.c, .int .u32 hh.n]) false).run Try.prog W' = .ok (.pointer (some ⟨hh.q, 0, none⟩)) W' ∧ W'.cell? ⟨hh.q, 5, none⟩ = some (.slice hh.A hh.ws.length hh.k))
    (first | exact HS.out _ (by (with_reducible repeat (first | exact Mod.refl _ _ | refine Mod.alloc ?_ _ | refine Mod.drewN ?_ _ | refine Mod.drew ?_)))) (fail)
  have H2 : Hid (Bz W W1.drew.drew q t hb m kb Hs (L.map pairOf) fk hh.c hh.n) := Lib.hid (H1.out.mod ((Mod.refl W1 []).drew.drew))
  clear HS H1
  generalize W1.drew.drew = W2 at *
  go_wp2_with fail
  have hm2 : W.heap.size ≤ W2.heap.size := H2.out.hM.size
  have HRow : Hid (∀ wr, Mod W2 wr [] → Kd.C k63 wr hh.A hh.ws.length hh.ws ∧ hh.ws.length ≤ hh.k) := Lib.hid fun wr mm => by
    obtain ⟨A, c, e, h1, h2⟩ := ((H2.out.mod mm).hT.hh hh HI.out.1).hr.C
    injection e with e1 e2 e3
    subst e1 e3
    exact ⟨h2, h1⟩
  generalize hh.A = A0 at HRow ⊢
  go_loopg [5, 29] hh.ws.length (fun k lv i wr => ∃ j : Nat, j ≤ hh.ws.length ∧ k = hh.ws.length - j ∧ i = .int .i64 j ∧ k65.R 65 wr 0 (fun b => W2.heap.size ≤ b) lv ((hh.ws.take j).map hh.mk') ∧ Mod W2 wr [])
  case atStart => exact ⟨0, Nat.zero_le _, rfl, rfl, Kd.R_nil _ _ _ _ _, Mod.refl _ _⟩
  case round =>
    obtain ⟨j, hj, rfl, rfl, hR, hM⟩ := hrel
    obtain ⟨B, d, rfl, hd, hC⟩ := Kd.R_reads hR
    by_cases hjl : j < hh.ws.length
    · have hjz : (j : Int) < (hh.ws.length : Int) := by omega
      have hw : IntKind.i64.wrap ((j : Int) + 1) = ((j + 1 : Nat) : Int) := by rw [i64w (by omega) (by omega)]; omega
      obtain ⟨ad, rfl, a0, a1, a2⟩ := wr_cells (HRow.out wr hM).1 j hjl
      have hnx : (hh.ws.take (j + 1)).map hh.mk' = (hh.ws.take j).map hh.mk' ++ [hh.mk' hh.ws[j]] := by rw [List.take_succ_eq_append_getElem hjl, List.map_append]; rfl
      have hacc : ((hh.ws.take j).map hh.mk').length ≤ 1000000 := by rw [List.length_map]; have := List.length_take_le j hh.ws; omega
      obtain ⟨y, hy⟩ : ∃ y, hh.mk' hh.ws[j] = y := ⟨_, rfl⟩
      have y0 : hh.c = y.f0.f0 := by rw [← hy]; rfl
      have y1 : hh.n = y.f0.f1 := by rw [← hy]; rfl
      have e1 : hh.st = y.f1 := by rw [← hy]; rfl
      have e2 : hh.mn = y.f2 := by rw [← hy]; rfl
      have e3 : hh.pr = y.f3 := by rw [← hy]; rfl
      have y4 : hh.ws[j] = y.f4 := by rw [← hy]; rfl
      rw [hy] at hnx
      rw [y4] at a0 a1 a2
      have HJ := Lib.hid (And.intro hR (And.intro hM (And.intro hnx (And.intro e1 (And.intro e2 e3)))))
      have m6 : Mod wr (wr.alloc (.cells #[.string y.f4.f0, .string y.f4.f1, .bool y.f4.f2] 63)) [] := (Mod.refl wr []).alloc _
      have w6 : WB (wr.alloc (.cells #[.string y.f4.f0, .string y.f4.f1, .bool y.f4.f2] 63)) wr.heap.size y.f4 := blk_new wr _
      have H6 := Lib.hid (And.intro (H2.out.mod (hM.trans m6 (fun _ hk => by cases hk))) (And.intro w6 (And.intro (R_mod hR m6) (hM.trans m6 (fun _ hk => by cases hk)))))
      have HBlk : Hid (∀ z ∈ ownList (.slice B ((hh.ws.take j).map hh.mk').length d), W2.heap.size ≤ z) := Lib.hid fun z hz => hR.1 z (own_mem _ z hz)
      have HWr : Hid (W2.heap.size ≤ wr.heap.size ∧ ∀ z ∈ ownList (.slice B ((hh.ws.take j).map hh.mk').length d), z < wr.heap.size) := Lib.hid ⟨hM.size, (Row.of hR).lt⟩
      have HY := Lib.hid (And.intro y0 y1)
      clear hR hM hnx hy y4 e1 e2 e3 hC m6 w6 y0 y1
      generalize (hh.ws.take j).map hh.mk' = acc at *
      go_upto_region 7 with fail
      clear a0 a1 a2
      generalize wr.alloc _ = W6 at *
      generalize wr.heap.size = q7 at *
      have HS : Hid (∀ W', Mod W6 W' (ownList (.slice B acc.length d)) → W'.cell? ⟨t, 0, none⟩ = some (.map (some hb)) ∧ W'.cell? ⟨q, 0, none⟩ = some (.int .u32 hh.c) ∧ W'.cell? ⟨q, 1, none⟩ = some (.int .u32 hh.n) ∧ W'.cell? ⟨q7, 0, none⟩ = some (.string y.f4.f0) ∧ W'.cell? ⟨q7, 1, none⟩ = some (.string y.f4.f1) ∧ W'.cell? ⟨q7, 2, none⟩ = some (.bool y.f4.f2) ∧ (Instr.lookup 101 (.map (some hb)) (.agg #[.int .u32 hh.c, .int .u32 hh.n]) false).run Try.prog W' = .ok (.pointer (some ⟨hh.q, 0, none⟩)) W') := Lib.hid fun W' mm => by
        have hT := H6.out.1.hT.mod mm (fun x hx hm => by have := HBlk.out x hm; have := H6.out.1.hl x hx; omega)
        have hN := H6.out.1.hN.mod mm (fun hm => by have := HBlk.out _ hm; have := blk_lt H2.out.hN; omega)
        have hl := hlook hT.hm hT.rgs HI.out.2.1
        rw [HI.out.2.2] at hl
        obtain ⟨b0, b1⟩ := hN.all
        obtain ⟨d0, d1, d2⟩ := (H6.out.2.1.mod mm (fun hm => by have := HWr.out.2 _ hm; omega)).all
        exact ⟨hT.c0, b0, b1, d0, d1, d2, hl⟩
      go_region_held3 (fun W' => W'.cell? ⟨t, 0, none⟩ = some (.map (some hb)) ∧ W'.cell? ⟨q, 0, none⟩ = some (.int .u32 hh.c) ∧ W'.cell? ⟨q, 1, none⟩ = some (.int .u32 hh.n) ∧ W'.cell? ⟨q7, 0, none⟩ = some (.string y.f4.f0) ∧ W'.cell? ⟨q7, 1, none⟩ = some (.string y.f4.f1) ∧ W'.cell? ⟨q7, 2, none⟩ = some (.bool y.f4.f2) ∧ (Instr.lookup 101 (.map (some hb)) (.agg #[.int .u32 hh.c, .int .u32 hh.n]) false).run Try.prog W' = .ok (.pointer (some ⟨hh.q, 0, none⟩)) W')
        (first | exact HS.out _ (by (with_reducible repeat (first | exact N9.out | exact N4q.out | exact Mod.refl _ _ | refine Mod.alloc ?_ _ | refine Mod.drew ?_)))) (first
        | (refine Kd.R_append_step k65 (w0 := V4) (W := V4) 0 (by rfl) _ _ 66 65 (.agg #[.int .u32 z65.f0.f0, .int .u32 z65.f0.f1, .int .u64 z65.f1.f0, .int .u32 z65.f1.f1, .int .u64 z65.f2.f0, .int .u32 z65.f2.f1, .string z65.f3, .string z65.f4.f0, .string z65.f4.f1, .bool z65.f4.f2]) 96 rfl Try.underlying66 info65 rfl (by decide) (by decide) (.slice B acc.length d) acc y [.int .u32 y.f0.f0, .int .u32 y.f0.f1, .int .u64 y.f1.f0, .int .u32 y.f1.f1, .int .u64 y.f2.f0, .int .u32 y.f2.f1, .string y.f3, .string y.f4.f0, .string y.f4.f1, .bool y.f4.f2] (fun b => W2.heap.size ≤ b) (fun _ => False) rfl rfl (k65_mkM _ _ _ y) (fun k h => h.elim) (fun k h => Nat.le_trans R4.out.2 h) R4.out.1 (Below.refl _ _) (Nat.zero_le _) (by omega) ?_
           intro v9 W9 o9 _ g9 _
           have m9 : Mod W6 W9 (ownList (.slice B acc.length d)) := (N4q.out).trans (mod_own g9) (fun z hz => .inl hz)
           have N9 := Lib.hid m9
           have O9 := Lib.hid o9
           clear o9 g9 m9)
        | (go_at_call 68
           (
             refine Calls.mono (intent_at (h := hh) ?hb y HJ.out.2.2.2.1 HJ.out.2.2.2.2.1 HJ.out.2.2.2.2.2 hh.c hh.n HY.out.1 HY.out.2) ?_
             case hb => exact (H6.out.1.hT.mod0 (by (with_reducible repeat (first | exact Mod.refl _ _ | refine Mod.alloc ?_ _ | refine Mod.drewN ?_ _ | refine Mod.drew ?_)))).hh hh HI.out.1
             rintro e V4 ⟨rfl, m4⟩
             have n4 : Mod W6 V4 [] := by
               refine Mod.trans ?_ m4 (fun _ hk => by cases hk)
               (with_reducible repeat (first | exact Mod.refl _ _ | refine Mod.alloc ?_ _ | refine Mod.drewN ?_ _ | refine Mod.drew ?_))
             have N4q := Lib.hid (n4.mono (fp' := ownList (.slice B acc.length d)) (fun _ hk => by cases hk))
             have R4 := Lib.hid (And.intro (R_mod H6.out.2.2.1 n4) (Nat.le_trans H6.out.2.2.2.size n4.size))
             clear n4 m4)))
      all_goals
        go_wp2
        go_roundg (hh.ws.length - (j + 1))
        case measure => omega
        case rel => exact ⟨j + 1, by omega, rfl, by rw [show ((j + 1 : Nat) : Int) = (j : Int) + 1 by omega], by rw [HJ.out.2.2.1]; exact O9.out, H6.out.2.2.2.trans N9.out (fun z hz => .inr (HBlk.out z hz))⟩
    · obtain rfl : j = hh.ws.length := by omega
      have hjz : ¬ (hh.ws.length : Int) < (hh.ws.length : Int) := by omega
      rw [List.take_length] at hR hd hC ⊢
      have HJ := Lib.hid (And.intro hR hM)
      have hlm : (hh.ws.map hh.mk').length = hh.ws.length := List.length_map _
      clear hR hd hC hM
      generalize hh.ws.map hh.mk' = ys at *
      go_wp2
      go_ret
      exact ⟨B, d, by rw [hlm]; rfl, Kd.R_mono HJ.out.1 (fun k hk => Nat.le_trans hm2 hk), H2.out.hM.trans HJ.out.2 (by simp)⟩
theorem by_calls {W : World} {t m : Nat} {L : List S65} {fp : List Nat} (h : Tab W t m L fp) (hl : L.length ≤ 1000000) (c n : Int) (hk : inK c n) :
    Calls Try.prog 29 #[.pointer (some ⟨t, 0, none⟩), .agg #[.int .u32 c, .int .u32 n]] W (AllP W (byL L c n)) := by
  obtain ⟨hb, kb, Hs, fk, h1, lk, rfl⟩ := h
  cases hf : findH c n Hs with
  | none =>
    rw [byL_none lk hf]
    exact by_none h1 c n hk hf
  | some hh =>
    obtain ⟨hin, rfl, rfl⟩ := findH_some hf
    exact by_some h1 lk hl hin
end Go.Proofs.Ytdelbidaclddgaa.Lat
