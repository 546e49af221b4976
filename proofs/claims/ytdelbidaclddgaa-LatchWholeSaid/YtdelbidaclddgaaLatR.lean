/- The layer 'latch': LatR; a seat's own text, no law of its own. -/
import Derived.Test.YtdelbidaclddgaaLatQ
import Derived.Deep.LoopGhost
import Derived.Deep.Cut
import Derived.Lib.Hide
import Derived.StillTailTactics
import Derived.Deep.QuietTactic
import Derived.BigQuiet
import Derived.Outline
import Derived.Deep.RegionWith
import Derived.Deep.RegionHeld3
import Derived.WalkLawsBesides
namespace Go.Proofs.Ytdelbidaclddgaa.Lat
open Go.RowKit Go.Proofs.YtdelbidaclddgaaW.PrintWords Go.Proofs.Ytdelbidaclddgaa.MLatchRuns Go.Proofs.YtdelbidaclddgaaW.PrintLast
set_option linter.unusedVariables false
set_option linter.unusedSimpArgs false
/-! LatchWhole -/
attribute [local go_sem high] eqA32 eqA35 eqA63 eqA65
structure Tn (w V : World) (t m : Nat) (L : List S65) (fp : List Nat) : Prop where
  hT : Tab V t m L fp
  gf : ∀ y ∈ fp, w.heap.size ≤ y
  hM : Mod w V []
theorem Tn.mod {w V V' : World} {t m : Nat} {L : List S65} {fp : List Nat} (h : Tn w V t m L fp) (mm : Mod V V' []) : Tn w V' t m L fp := ⟨h.hT.mod0 mm, h.gf, h.hM.trans mm (fun _ hk => by cases hk)⟩
theorem Tn.box {w V : World} {t m : Nat} {L : List S65} {fp : List Nat} (h : Tn w V t m L fp) (o : Obj) : Tq w (V.alloc o) t m L fp V.heap.size o := by
  have m1 : Mod V (V.alloc o) [] := (Mod.refl V []).alloc _
  exact ⟨h.hT.mod0 m1, h.gf, h.hM.trans m1 (fun _ hk => by cases hk), blk_new V _, fun hm => by have := h.hT.lt _ hm; omega⟩
theorem Tq.tn {w V : World} {t m : Nat} {L : List S65} {fp : List Nat} {q : Nat} {o : Obj} (h : Tq w V t m L fp q o) : Tn w V t m L fp := ⟨h.hT, h.gf, h.hM⟩
section
variable {w V W' : World} {t m : Nat} {L : List S65} {fp : List Nat} {q : Nat} {o : Obj}
theorem tq_alln (h : Tq w V t m L fp q o) (mm : Mod V W' []) (hLl : L.length ≤ 1000000) {N : Nat} (hN : L.length = N) :
    Calls Try.prog 27 #[.pointer (some ⟨t, 0, none⟩)] W' fun e W'' => ∃ A k, e = .returned (.slice A N k) ∧ Tq w W'' t m L fp q o ∧ Mod W' W'' [] := by
  subst hN
  exact (tq_all h mm hLl).mono fun e W'' ⟨A, k, h1, _, h2, h3⟩ => ⟨A, k, h1, h2, h3⟩
theorem tq_byn (h : Tq w V t m L fp q o) (mm : Mod V W' []) (hLl : L.length ≤ 1000000) (c n : Int) (hk : inK c n) {N : Nat} (hN : (byL L c n).length = N) :
    Calls Try.prog 29 #[.pointer (some ⟨t, 0, none⟩), .agg #[.int .u32 c, .int .u32 n]] W' fun e W'' => ∃ A k, e = .returned (.slice A N k) ∧ Tq w W'' t m L fp q o ∧ Mod W' W'' [] := by
  subst hN
  exact (tq_by h mm hLl c n hk rfl).mono fun e W'' ⟨A, k, h1, _, h2, h3⟩ => ⟨A, k, h1, h2, h3⟩
theorem tq_cutn (h : Tq w V t m L fp q o) (mm : Mod V W' []) (hLl : L.length ≤ 1000000) (c n : Int) (hk : inK c n) {N : Nat} (hN : (byL L c n).length = N) {L' : List S65} (hL' : offL L c n = L') :
    Calls Try.prog 30 #[.pointer (some ⟨t, 0, none⟩), .agg #[.int .u32 c, .int .u32 n]] W' fun e W'' => ∃ A k, e = .returned (.slice A N k) ∧ ∃ fp', Tq w W'' t m L' fp' q o := by
  subst hN
  exact (tq_cut h mm hLl c n hk rfl hL').mono fun e W'' ⟨A, k, h1, _, h2⟩ => ⟨A, k, h1, h2⟩
theorem tq_lay2 (h : Tq w V t m L fp q o) (mm : Mod V W' []) (hmx : m ≤ 1000000) (hLl : L.length ≤ 1000000) (c n : Int) (hk : inK c n) (st mn : S35) (pr : ByteArray) {A : Option Addr} {cap : Nat} {l : List S63} (hr : Kd.C k63 w A l.length l) (hc : l.length ≤ cap) {r : Int} {L' : List S65} (e1 : layB L c n st mn pr l = r) (e2 : layL L c n st mn pr l = L') :
    Calls Try.prog 26 #[.pointer (some ⟨t, 0, none⟩), .agg #[.int .u32 c, .int .u32 n], .agg #[.int .u64 st.f0, .int .u32 st.f1], .agg #[.int .u64 mn.f0, .int .u32 mn.f1], .string pr, .slice A l.length cap] W' fun e W'' => e = .returned (.int .i64 r) ∧ ∃ fp', Tq w W'' t (m + 1) L' fp' q o := by
  by_cases hl : l.length ≤ 1000000
  · exact tq_lay h mm hmx hLl c n hk st mn pr hr hc hl e1 e2
  have h' := h.mod mm
  have h1 : rightW l = false := by unfold rightW; rw [decide_eq_false (show ¬ l.length ≤ 16 by omega), Bool.and_false]; rfl
  subst e1 e2
  unfold layL
  rw [show layB L c n st mn pr l = 1 by unfold layB; rw [h1]; rfl, if_neg (by omega)]
  refine (lay_bad1 h'.hT c n st mn pr A cap l (Kd.C_below hr h'.hM.bel) hc h1).mono ?_
  rintro e W'' ⟨rfl, ⟨fp', hT, hs⟩, m2⟩
  exact ⟨rfl, fp', h'.step hT hs m2⟩
end
theorem lay_len (L : List S65) (c n : Int) (st mn : S35) (pr : ByteArray) (l : List S63) : (layB L c n st mn pr l = 0 → (layL L c n st mn pr l).length = L.length + l.length ∧ (byL (layL L c n st mn pr l) c n).length = (byL L c n).length + l.length ∧ l.length ≤ 16) ∧ (layB L c n st mn pr l ≠ 0 → layL L c n st mn pr l = L) := by
  refine ⟨fun e => ?_, fun e => by unfold layL; rw [if_neg e]⟩
  have h16 : l.length ≤ 16 := by
    unfold layB at e
    split at e
    · cases e
    · rename_i hr
      have h := Bool.of_not_eq_false hr
      unfold rightW at h
      simp only [Bool.and_eq_true, decide_eq_true_eq] at h
      exact h.1.1.1.1.1.2
  unfold layL
  rw [if_pos e]
  have hp := putJ_perm c n st mn pr l L
  refine ⟨by rw [hp.length_eq, List.length_append, List.length_map], ?_, h16⟩
  unfold byL
  rw [(hp.filter (isBy c n)).length_eq, List.filter_append, List.length_append]
  congr 1
  rw [List.filter_eq_self.2 (fun x hx => ?_), List.length_map]
  obtain ⟨w, _, rfl⟩ := List.mem_map.1 hx
  exact decide_eq_true ⟨rfl, rfl⟩
theorem layB_cases (L : List S65) (c n : Int) (st mn : S35) (pr : ByteArray) (l : List S63) : layB L c n st mn pr l = 0 ∨ layB L c n st mn pr l = 1 ∨ layB L c n st mn pr l = 40 := by
  unfold layB
  split
  · exact .inr (.inl rfl)
  · split
    · exact .inr (.inr rfl)
    · exact .inl rfl
theorem off_len (L : List S65) (c n : Int) : (offL L c n).length = L.length - (byL L c n).length ∧ (byL L c n).length ≤ L.length ∧ (byL (offL L c n) c n).length = 0 := by
  have h1 : (byL L c n).length + (offL L c n).length = L.length := by
    unfold byL offL
    rw [← List.countP_eq_length_filter, ← List.countP_eq_length_filter]
    have := List.length_eq_countP_add_countP (isBy c n) (l := L)
    simp only [Bool.not_eq_true, Bool.decide_eq_false] at this
    omega
  refine ⟨by omega, by omega, ?_⟩
  have : byL (offL L c n) c n = [] := by
    unfold byL offL
    rw [List.filter_filter, List.filter_eq_nil_iff]
    intro x _ h
    simp at h
  rw [this]
  rfl
theorem tq_two {w V W' : World} {t m : Nat} {L : List S65} {fp : List Nat} {q : Nat} {a1 a2 a3 a4 a5 a6 a7 a8 a9 aa : Value} {c n : Int} (h : Tq w V t m L fp q (.cells #[a1, .int .u32 c, .int .u32 n, a2, a3, a4, a5, a6, a7, a8, a9, aa] 58)) (mm : Mod V W' []) : W'.cell? ⟨q, 1, none⟩ = some (.int .u32 c) ∧ W'.cell? ⟨q, 2, none⟩ = some (.int .u32 n) :=
  ⟨(blk_cell (h.mod mm).hx 1).trans rfl, (blk_cell (h.mod mm).hx 2).trans rfl⟩
theorem tq_12 {w V W' : World} {t m : Nat} {L : List S65} {fp : List Nat} {q : Nat} {a0 a1 a2 a3 a4 a5 a6 a7 a8 a9 aa ab : Value} (h : Tq w V t m L fp q (.cells #[a0, a1, a2, a3, a4, a5, a6, a7, a8, a9, aa, ab] 58)) (mm : Mod V W' []) : W'.cell? ⟨q, 0, none⟩ = some a0 ∧ W'.cell? ⟨q, 1, none⟩ = some a1 ∧ W'.cell? ⟨q, 2, none⟩ = some a2 ∧ W'.cell? ⟨q, 3, none⟩ = some a3 ∧ W'.cell? ⟨q, 4, none⟩ = some a4 ∧ W'.cell? ⟨q, 5, none⟩ = some a5 ∧ W'.cell? ⟨q, 6, none⟩ = some a6 ∧ W'.cell? ⟨q, 7, none⟩ = some a7 ∧ W'.cell? ⟨q, 8, none⟩ = some a8 ∧ W'.cell? ⟨q, 9, none⟩ = some a9 ∧ W'.cell? ⟨q, 10, none⟩ = some aa ∧ W'.cell? ⟨q, 11, none⟩ = some ab :=
  ⟨(blk_cell (h.mod mm).hx 0).trans rfl, (blk_cell (h.mod mm).hx 1).trans rfl, (blk_cell (h.mod mm).hx 2).trans rfl, (blk_cell (h.mod mm).hx 3).trans rfl, (blk_cell (h.mod mm).hx 4).trans rfl, (blk_cell (h.mod mm).hx 5).trans rfl, (blk_cell (h.mod mm).hx 6).trans rfl, (blk_cell (h.mod mm).hx 7).trans rfl, (blk_cell (h.mod mm).hx 8).trans rfl, (blk_cell (h.mod mm).hx 9).trans rfl, (blk_cell (h.mod mm).hx 10).trans rfl, (blk_cell (h.mod mm).hx 11).trans rfl⟩
set_option maxHeartbeats 4000000 in
set_option maxRecDepth 100000 in
theorem whole_calls {A : Option Addr} {cc : Nat} {l : List S58} {w : World} (hr : Kd.C k58 w A l.length l) (hc : l.length ≤ cc) (hok : ∀ a ∈ l, okAct a) :
    Calls Try.prog 8 #[.slice A l.length cc] w fun e w' => e = .returned (.bool true) ∧ Mod w w' [] := by
  have hr63 : l.length ≤ 9223372036854775807 := hr.2.1
  have HR := Lib.hid (And.intro hr (And.intro hc hok))
  clear hr hc hok
  go_enter Try.func8, Try.ntmps8
  go_wp2_with fail
  refine (awake_calls _).mono ?_
  rintro e W1 ⟨rfl, m1⟩
  go_wp2_with fail
  refine (newT_calls _).mono ?_
  rintro e V1 ⟨t, fp0, rfl, hT, mv, hn⟩
  have HD : Hid (Tn w V1 t 0 [] fp0) := Lib.hid ⟨hT, fun y hy => by have := m1.size; have := hn y hy; omega, m1.trans mv (fun _ hk => by cases hk)⟩
  clear hT m1 mv hn
  go_wp2_with fail
  go_loopg [15] l.length (fun k i wr => ∃ (j : Nat) (fp : List Nat) (L : List S65), j ≤ l.length ∧ k = l.length - j ∧ i = .int .i64 j ∧ j ≤ 60 ∧ L.length ≤ 16 * j ∧ Tn w wr t j L fp)
  case atStart => exact ⟨0, _, [], Nat.zero_le _, rfl, rfl, by omega, by simp, HD.out⟩
  case round =>
    obtain ⟨j, fp, L, hj, rfl, rfl, hj3, hlen, hD⟩ := hrel
    have HN := Lib.hid hD
    clear hD HD
    by_cases hjl : j < l.length
    · obtain ⟨ad, Aw, cw, Ab, cb, rfl, hcw, hkw, hcb, hkb, a0, a1, a2, a3, a4, a5, a6, a7, a8, a9, aa, ab⟩ := act_cells2 HR.out.1 HN.out.hM j hjl
      have hjz : (j : Int) < (l.length : Int) := by omega
      by_cases h3 : j = 60
      · have h3z : ((j : Int) == 60) = true := by rw [h3]; rfl
        subst h3
        have hM := HN.out.hM.trans ((Mod.refl wr []).alloc (.cells #[.int .i64 l[60].f0, .int .u32 l[60].f1.f0, .int .u32 l[60].f1.f1, .int .u64 l[60].f2.f0, .int .u32 l[60].f2.f1, .int .u64 l[60].f3.f0, .int .u32 l[60].f3.f1, .string l[60].f4, .slice Aw l[60].f5.length cw, .string l[60].f6, .string l[60].f7, .slice Ab l[60].f8.length cb] 58)) (fun _ hk => by cases hk)
        have e5 : ad.add (60 * 12) = ⟨ad.block, ad.off + 720, none⟩ := by simp [Addr.add]
        rw [e5] at a0 a1 a2 a3 a4 a5 a6 a7 a8 a9 aa ab
        dsimp only at a0 a1 a2 a3 a4 a5 a6 a7 a8 a9 aa ab
        go_wp2
        go_ret
        exact ⟨rfl, hM⟩
      · have h3z : ¬ ((j : Int) = 60) := by omega
        have h3b : ((j : Int) == 60) = false := by simpa using h3z
        have hw : IntKind.i64.wrap ((j : Int) + 1) = ((j + 1 : Nat) : Int) := by rw [i64w (by omega) (by omega)]; omega
        have HS : Hid (Tq w _ t j L fp _ _) := Lib.hid (HN.out.box (.cells #[.int .i64 l[j].f0, .int .u32 l[j].f1.f0, .int .u32 l[j].f1.f1, .int .u64 l[j].f2.f0, .int .u32 l[j].f2.f1, .int .u64 l[j].f3.f0, .int .u32 l[j].f3.f1, .string l[j].f4, .slice Aw l[j].f5.length cw, .string l[j].f6, .string l[j].f7, .slice Ab l[j].f8.length cb] 58))
        have hok := HR.out.2.2 l[j] (List.getElem_mem _)
        have HX := Lib.hid (And.intro hok (And.intro hcw hkw))
        clear hok hkw hkb hcb HN
        generalize l[j] = y at *
        obtain ⟨x0, ⟨x1, x2⟩, ⟨x3, x4⟩, ⟨x5, x6⟩, x7, xw, x8, x9, xb⟩ := y
        dsimp only at a0 a1 a2 a3 a4 a5 a6 a7 a8 a9 aa ab HS HX hcw ⊢
        go_upto_region 8 with fail
        clear a0 a1 a2 a3 a4 a5 a6 a7 a8 a9 aa ab
        generalize wr.alloc _ = V at *
        generalize wr.heap.size = q at *
        obtain ⟨N, hN⟩ : ∃ N, (byL L x1 x2).length = N := ⟨_, rfl⟩
        have hNl := (off_len L x1 x2).2.1
        rw [hN] at hNl
        have HN := Lib.hid hN
        clear hN
        have hLz : L.length ≤ 1000000 := by omega
        have hk0 := tq_two HS.out (Mod.refl _ _)
        go_region_held3 (fun W' => W'.cell? ⟨q, 1, none⟩ = some (.int .u32 x1) ∧ W'.cell? ⟨q, 2, none⟩ = some (.int .u32 x2))
          (first | exact tq_two HS.out (by (repeat first | exact Mod.refl _ _ | refine Mod.drewN ?_ _ | refine Mod.drew ?_ | assumption))) (first
          | (go_at_call 27
             have K := HS
             clear HS
             (
               refine Calls.mono (tq_alln K.out ?m1 hLz rfl) ?_
               case m1 => (repeat first | exact Mod.refl _ _ | refine Mod.drewN ?_ _ | refine Mod.drew ?_ | assumption)
               rintro e Vn ⟨A9, k9, rfl, hD, mn⟩
               have HS := Lib.hid hD
               have hkn := tq_two hD (Mod.refl _ _)
               clear K hD mn))
          | (go_at_call 29
             have K := HS
             clear HS
             (
               refine Calls.mono (tq_byn K.out ?m1 hLz x1 x2 HX.out.1.1 HN.out) ?_
               case m1 => (repeat first | exact Mod.refl _ _ | refine Mod.drewN ?_ _ | refine Mod.drew ?_ | assumption)
               rintro e Vn ⟨A9, k9, rfl, hD, mn⟩
               have HS := Lib.hid hD
               have hkn := tq_two hD (Mod.refl _ _)
               clear K hD mn)))
        clear hk0
        obtain ⟨c0, c1, c2, c3, c4, c5, c6, c7, c8, c9, ca, cb⟩ := tq_12 HS.out (Mod.refl _ _)
        by_cases hx : x0 = 0 ∨ x0 = 3
        · have hx0 : (decide (x0 = 0) || decide (x0 = 3)) = true := by simpa using hx
          obtain ⟨r, hr⟩ : ∃ r, layB L x1 x2 ⟨x3, x4⟩ ⟨x5, x6⟩ x7 xw = r := ⟨_, rfl⟩
          obtain ⟨L', hL'⟩ : ∃ L', layL L x1 x2 ⟨x3, x4⟩ ⟨x5, x6⟩ x7 xw = L' := ⟨_, rfl⟩
          have hlen := lay_len L x1 x2 ⟨x3, x4⟩ ⟨x5, x6⟩ x7 xw
          have hcs := layB_cases L x1 x2 ⟨x3, x4⟩ ⟨x5, x6⟩ x7 xw
          rw [hr] at hlen hcs
          rw [hL', HN.out] at hlen
          have HL := Lib.hid (And.intro hr (And.intro hL' (And.intro hlen hcs)))
          clear hr hL' hlen hcs
          rcases hx with rfl | rfl
          all_goals
            clear hx0
            go_wp2_with fail
            refine (tq_lay2 HS.out (Mod.refl _ _) (by omega) hLz x1 x2 HX.out.1.1 ⟨x3, x4⟩ ⟨x5, x6⟩ x7 HX.out.2.2 HX.out.2.1 HL.out.1 HL.out.2.1).mono ?_
            rintro e W5 ⟨rfl, fp5, h5⟩
            have H5 := Lib.hid h5
            clear h5 c0 c1 c2 c3 c4 c5 c6 c7 c8 c9 ca cb HS
            obtain ⟨c0, c1, c2, c3, c4, c5, c6, c7, c8, c9, ca, cb⟩ := tq_12 H5.out (Mod.refl _ _)
            obtain ⟨b, hb⟩ : ∃ b, (if r = 0 then xw.length else 0) = b := ⟨_, rfl⟩
            have hb16 : b ≤ 16 ∧ L'.length = L.length + b ∧ (byL L' x1 x2).length = N + b := by
              by_cases h0 : r = 0
              · have z := HL.out.2.2.1.1 h0
                rw [if_pos h0] at hb
                omega
              · have z := HL.out.2.2.1.2 h0
                rw [if_neg h0] at hb
                have z2 := HL.out.2.1
                rw [z, HN.out]
                omega
            obtain ⟨M1, hM1⟩ : ∃ M1, L'.length = M1 := ⟨_, rfl⟩
            obtain ⟨M2, hM2⟩ : ∃ M2, (byL L' x1 x2).length = M2 := ⟨_, rfl⟩
            rw [hM1, hM2] at hb16
            have hw1 : IntKind.i64.wrap ((L.length : Int) + (b : Int)) = (M1 : Int) := by rw [i64w (by omega) (by omega)]; omega
            have hw2 : IntKind.i64.wrap ((N : Int) + (b : Int)) = (M2 : Int) := by rw [i64w (by omega) (by omega)]; omega
            have H2 := Lib.hid hM2
            clear hM2
            rcases HL.out.2.2.2 with rfl | rfl | rfl
            · rw [if_pos rfl] at hb
              subst hb
              go_wp2_with fail
              refine (tq_alln H5.out (Mod.refl _ _) (by omega) hM1).mono ?_
              rintro e W6 ⟨A6, k6, rfl, h6, m6⟩
              have H6 := Lib.hid h6
              clear h6 m6 c0 c1 c2 c3 c4 c5 c6 c7 c8 c9 ca cb
              obtain ⟨c1, c2⟩ := tq_two H6.out (Mod.refl _ _)
              go_wp2_with fail
              refine (tq_byn H6.out (Mod.refl _ _) (by omega) x1 x2 HX.out.1.1 H2.out).mono ?_
              rintro e W7 ⟨A7, k7, rfl, h7, m7⟩
              have H7 := Lib.hid h7
              clear h7 m7 c1 c2
              go_wp2
              go_roundg (l.length - (j + 1))
              case measure => omega
              case rel => exact ⟨j + 1, _, _, by omega, rfl, by rw [show ((j + 1 : Nat) : Int) = (j : Int) + 1 by omega], by omega, by omega, H7.out.tn⟩
            all_goals
              rw [if_neg (by omega)] at hb
              subst hb
              go_wp2_with fail
              refine (tq_alln H5.out (Mod.refl _ _) (by omega) hM1).mono ?_
              rintro e W6 ⟨A6, k6, rfl, h6, m6⟩
              have H6 := Lib.hid h6
              clear h6 m6 c0 c1 c2 c3 c4 c5 c6 c7 c8 c9 ca cb
              obtain ⟨c1, c2⟩ := tq_two H6.out (Mod.refl _ _)
              go_wp2_with fail
              refine (tq_byn H6.out (Mod.refl _ _) (by omega) x1 x2 HX.out.1.1 H2.out).mono ?_
              rintro e W7 ⟨A7, k7, rfl, h7, m7⟩
              have H7 := Lib.hid h7
              clear h7 m7 c1 c2
              go_wp2
              go_roundg (l.length - (j + 1))
              case measure => omega
              case rel => exact ⟨j + 1, _, _, by omega, rfl, by rw [show ((j + 1 : Nat) : Int) = (j : Int) + 1 by omega], by omega, by omega, H7.out.tn⟩
        · have hxa : ¬ x0 = 0 := fun e => hx (.inl e)
          have hxb : ¬ x0 = 3 := fun e => hx (.inr e)
          have hya : (x0 == 0) = false := by simpa using hxa
          have hyb : (x0 == 3) = false := by simpa using hxb
          by_cases h1 : x0 = 1
          · subst h1
            obtain ⟨L', hL'⟩ : ∃ L', offL L x1 x2 = L' := ⟨_, rfl⟩
            have hof := off_len L x1 x2
            rw [hL', HN.out] at hof
            obtain ⟨M1, hM1⟩ : ∃ M1, L'.length = M1 := ⟨_, rfl⟩
            rw [hM1] at hof
            have hw1 : IntKind.i64.wrap ((L.length : Int) - (N : Int)) = (M1 : Int) := by rw [i64w (by omega) (by omega)]; omega
            have HL := Lib.hid (And.intro hL' (And.intro hM1 hof))
            clear hL' hM1 hof
            go_wp2_with fail
            refine (tq_cutn HS.out (Mod.refl _ _) hLz x1 x2 HX.out.1.1 HN.out HL.out.1).mono ?_
            rintro e W5 ⟨A5, k5, rfl, fp5, h5⟩
            have H5 := Lib.hid h5
            clear h5 c0 c1 c2 c3 c4 c5 c6 c7 c8 c9 ca cb HS
            obtain ⟨c1, c2⟩ := tq_two H5.out (Mod.refl _ _)
            go_wp2_with fail
            refine (tq_alln H5.out (Mod.refl _ _) (by have := HL.out.2; omega) HL.out.2.1).mono ?_
            rintro e W6 ⟨A6, k6, rfl, h6, m6⟩
            have H6 := Lib.hid h6
            clear h6 m6 c1 c2
            obtain ⟨c1, c2⟩ := tq_two H6.out (Mod.refl _ _)
            go_wp2_with fail
            refine (tq_byn H6.out (Mod.refl _ _) (by have := HL.out.2; omega) x1 x2 HX.out.1.1 HL.out.2.2.2.2).mono ?_
            rintro e W7 ⟨A7, k7, rfl, h7, m7⟩
            have H7 := Lib.hid h7
            clear h7 m7 c1 c2
            go_wp2
            go_roundg (l.length - (j + 1))
            case measure => omega
            case rel => exact ⟨j + 1, _, L', by omega, rfl, by rw [show ((j + 1 : Nat) : Int) = (j : Int) + 1 by omega], by omega, by have := HL.out.2; omega, (H7.out.mono (by omega)).tn⟩
          · have hyc : (x0 == 1) = false := by simpa using h1
            go_wp2
            go_roundg (l.length - (j + 1))
            case measure => omega
            case rel => exact ⟨j + 1, _, L, by omega, rfl, by rw [show ((j + 1 : Nat) : Int) = (j : Int) + 1 by omega], by omega, by omega, (HS.out.mono (by omega)).tn⟩
    · obtain rfl : j = l.length := by omega
      have hzz : ¬ ((l.length : Int) < (l.length : Int)) := by omega
      have hM := HN.out.hM
      go_wp2
      go_ret
      exact ⟨rfl, hM⟩
end Go.Proofs.Ytdelbidaclddgaa.Lat
