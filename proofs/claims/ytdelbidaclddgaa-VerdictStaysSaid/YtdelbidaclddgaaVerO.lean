/- The layer 'verdict': VerO; a seat's own text, no law of its own. -/
import Derived.Test.YtdelbidaclddgaaVerN
import Derived.Shelf.SlSortCmp.WholeK
import Derived.Deep.LoopGhost
import Derived.Deep.Cut
import Derived.Lib.Hide
import Derived.StillTailTactics
import Derived.Deep.QuietTactic
import Derived.BigQuiet
import Derived.Outline
import Derived.Deep.RegionWith
import Derived.Deep.RegionHeld3
import Derived.WalkLawsBesides
namespace Go.Proofs.Ytdelbidaclddgaa.Ver
open Go.RowKit Go.Proofs.YtdelbidaclddgaaW.PrintWords Go.Proofs.Ytdelbidaclddgaa.MVerdictRuns Go.Proofs.YtdelbidaclddgaaW.PrintLast
set_option linter.unusedVariables false
set_option linter.unusedSimpArgs false
theorem R_mod {α : Type} {d : Kd α} {e : Nat} {W W' : World} {ok : Nat → Prop} {v : Value} {l : List α} (h : d.R e W 0 ok v l) (m : Mod W W' []) : d.R e W' 0 ok v l := Kd.R_below h (Mod.bel m)
theorem inv_ret2 {L : List S37} {u : S37} {d : Bool} (h : Inv L u d) (s : S35) (K : List S32) (l : List S32) (hK : [(⟨u.f0.f0, u.f0.f1⟩ : S32)] ++ l = K) : Inv (retL s K L) u d := inv_ret h _ _ (by
  have e : hasB K u.f0.f0 u.f0.f1 = true := by rw [← hK]; unfold hasB; simp
  show (lessB u.f1.f0 u.f1.f1 _ _ && _ && !hasB K u.f0.f0 u.f0.f1) = false
  rw [e]; simp)
set_option maxHeartbeats 8000000 in
set_option maxRecDepth 100000 in
theorem stays_calls (v : S37) (hv : Rng kcV knV v) {A : Option Addr} {c : Nat} {l : List S40} {w : World} (hr : Kd.C k40 w A l.length l) (hc : l.length ≤ c) (hok : ∀ a ∈ l, okAct a) :
    Calls Try.prog 4 #[encV v, .slice A l.length c] w fun e w' => e = .returned (.bool true) ∧ Mod w w' [] := by
  have hr63 : l.length ≤ 9223372036854775807 := hr.2.1
  have b0 : BV (w.alloc (.cells #[.int .u32 v.f0.f0, .int .u32 v.f0.f1, .int .u64 v.f1.f0, .int .u32 v.f1.f1, .int .u64 v.f2.f0, .int .u32 v.f2.f1, .int .u8 v.f3, .bool v.f4] 37)) w.heap.size v := blk_new w _
  have m0 := (Mod.refl w []).alloc (.cells #[.int .u32 v.f0.f0, .int .u32 v.f0.f1, .int .u64 v.f1.f0, .int .u32 v.f1.f1, .int .u64 v.f2.f0, .int .u32 v.f2.f1, .int .u8 v.f3, .bool v.f4] 37)
  unfold encV
  go_enter Try.func4, Try.ntmps4
  go_upto_region 1 with fail
  generalize w.alloc (.cells #[.int .u32 v.f0.f0, .int .u32 v.f0.f1, .int .u64 v.f1.f0, .int .u32 v.f1.f1, .int .u64 v.f2.f0, .int .u32 v.f2.f1, .int .u8 v.f3, .bool v.f4] 37) = W0 at *
  generalize hg : w.heap.size = g at *
  have H0 := Lib.hid (And.intro b0 m0)
  clear b0 m0
  go_wp2_with fail
  refine (awake_calls _).mono ?_
  rintro e W1 ⟨rfl, m1⟩
  have H1 := Lib.hid (And.intro (H0.out.1.mod m1 (by simp)) (H0.out.2.trans m1 (fun _ hk => by cases hk)))
  clear m1
  go_wp2_with fail
  refine (new_calls _).mono ?_
  rintro e W2 ⟨p, b, rfl, hB, m2, hp, hb⟩
  have hsz := H1.out.2.size
  have H2 : Hid (Sy w W2 g p b 0 v []) := Lib.hid ⟨H1.out.1.mod m2 (by simp), hB, H1.out.2.trans m2 (fun _ hk => by cases hk), by omega, by omega⟩
  clear hB m2 hp hb hsz
  obtain ⟨c0, c1, c2, c3, c4, c5, c6, c7⟩ := H2.out.hV.all
  have fz := blk_frozen H2.out.hV 7
  go_upto_region 5 with fail
  clear c0 c1 c2 c3 c4 c5 c6 c7 fz
  have H3x := H2.out.put false
  obtain ⟨u, hu⟩ : ∃ u : S37, u = { v with f4 := false } := ⟨_, rfl⟩
  rw [← hu] at H3x
  have hur : Rng kcV knV u := by rw [hu]; exact hv
  have hu4 : u.f4 = false := by rw [hu]
  have HU := Lib.hid (And.intro hur hu4)
  have H3 := Lib.hid H3x
  clear hu hur hu4 H3x H2 H1 H0
  generalize W2.setCell ⟨g, 7, none⟩ (.bool false) = W3 at *
  obtain ⟨c0, c1, c2, c3, c4, c5, c6, c7⟩ := H3.out.hV.all
  by_cases hbad : badB u = true
  · have hset : setR [] u = (1, []) := by rw [set_first, if_pos hbad]
    have q := set_enc H3.out.hB (by unfold maxLen; omega) u HU.out.1
    rw [hset] at q
    go_wp2_with (first
      | (go_at_call 14; refine q.mono ?_; rintro e W4 ⟨he, hB, m4⟩; obtain rfl : e = .returned (.int .i64 1) := he; have H4 := Lib.hid (H3.out.step hB m4); clear hB m4)
      | (go_at_call 23; refine (all_calls H4.out.hB (by omega)).mono ?_; rintro e W5 ⟨x, rfl, _, hn, m5⟩; obtain rfl : x = .slice none 0 0 := hn.2 rfl))
    go_ret
    exact ⟨rfl, (H4.out.mod m5).hM⟩
  · have hset : setR [] u = (0, [u]) := by rw [set_first, if_neg hbad]
    have q := set_enc H3.out.hB (by unfold maxLen; omega) u HU.out.1
    rw [hset] at q
    have hright : rightB u.f1.f0 u.f1.f1 = true := by
      cases h : rightB u.f1.f0 u.f1.f1
      · exact absurd (by unfold badB; rw [h]; rfl) hbad
      · rfl
    have HR := Lib.hid (And.intro hright (And.intro hr (And.intro hc hok)))
    clear hright hbad hset hr hc hok
    go_upto_region 7 with (first
      | (go_at_call 14; refine q.mono ?_; rintro e W4 ⟨he, hB, m4⟩; obtain rfl : e = .returned (.int .i64 0) := he; have H4 := Lib.hid (H3.out.step hB m4); clear hB m4))
    clear c0 c1 c2 c3 c4 c5 c6 c7 q H3
    have hI : Inv [u] u false := ⟨by
      show List.find? _ [u] = _
      rw [List.find?_cons, decide_eq_true (show kcV u = u.f0.f0 ∧ knV u = u.f0.f1 from ⟨rfl, rfl⟩)]
      have e : ({ u with f4 := false } : S37) = u := by rw [← HU.out.2]
      rw [e], fun h => by cases h⟩
    have HI := Lib.hid hI
    clear hI
    go_wp2_with fail
    go_loopg [6, 30] l.length (fun k dv i wr => ∃ (j : Nat) (d : Bool) (L : List S37), j ≤ l.length ∧ k = l.length - j ∧ dv = .bool d ∧ i = .int .i64 j ∧ j ≤ 100 ∧ Sy w wr g p b (j + 1) u L ∧ Inv L u d)
    case atStart => exact ⟨0, false, [u], Nat.zero_le _, rfl, rfl, rfl, by omega, H4.out, HI.out⟩
    case round =>
      obtain ⟨j, d, L, hj, rfl, rfl, rfl, hj3, hS, hI⟩ := hrel
      have HS := Lib.hid hS
      have HI' := Lib.hid hI
      clear hS hI HI H4
      by_cases hjl : j < l.length
      · obtain ⟨ad, A', c', rfl, hc', hk', a0, a1, a2, a3, a4, a5, a6, a7, a8, a9, a10, a11⟩ := act_cells (Kd.C_below HR.out.2.1 (Mod.bel HS.out.hM)) j hjl
        have hjz : (j : Int) < (l.length : Int) := by omega
        by_cases h3 : j = 100
        · subst h3
          have e5 : ad.add (100 * 12) = ⟨ad.block, ad.off + 1200, none⟩ := by simp [Addr.add]
          rw [e5] at a0 a1 a2 a3 a4 a5 a6 a7 a8 a9 a10 a11
          dsimp only at a0 a1 a2 a3 a4 a5 a6 a7 a8 a9 a10 a11
          clear hc' hk'
          have HSx := Lib.hid (HS.out.alloc (.cells #[.int .i64 l[100].f0, .int .u32 l[100].f1.f0.f0, .int .u32 l[100].f1.f0.f1, .int .u64 l[100].f1.f1.f0, .int .u32 l[100].f1.f1.f1, .int .u64 l[100].f1.f2.f0, .int .u32 l[100].f1.f2.f1, .int .u8 l[100].f1.f3, .bool l[100].f1.f4, .int .u64 l[100].f2.f0, .int .u32 l[100].f2.f1, .slice A' l[100].f3.length c'] 40))
          clear HS
          have HS := HSx
          clear HSx
          have HN : Hid (OrdV L ∧ Inv (retL ⟨u.f1.f0, u.f1.f1⟩ [] L) u d) := Lib.hid ⟨HS.out.hB.ord, inv_own HI'.out⟩
          obtain ⟨L1, hL1⟩ : ∃ L1, retL ⟨u.f1.f0, u.f1.f1⟩ [] L = L1 := ⟨_, rfl⟩
          rw [hL1] at HN
          obtain ⟨L2, hL2⟩ : ∃ L2, retL ⟨281474976710656, 4095⟩ [] L1 = L2 := ⟨_, rfl⟩
          obtain ⟨z, hz⟩ : ∃ z, (findV u.f0.f0 u.f0.f1 L2).getD z37 = z := ⟨_, rfl⟩
          obtain ⟨oz, hoz⟩ : ∃ oz, (findV u.f0.f0 u.f0.f1 L2).isSome = oz := ⟨_, rfl⟩
          have hL1o : OrdV L1 := by rw [← hL1]; exact filter_ord HN.out.1 _
          have HE : Hid (oz = ((u.f1.f0 == 281474976710656 && (u.f1.f1 == 4095)) || (commB u && !d))) := Lib.hid (by rw [← hoz, ← hL2]; exact stays_end hL1o HN.out.2 HR.out.1)
          have q := ret_lit HS.out.hB (by omega) u.f1.f0 u.f1.f1
          rw [hL1] at q
          have HQ := Lib.hid (And.intro hL2 (And.intro hz hoz))
          clear hL1 hL2 hz hoz hL1o
          obtain ⟨c0, c1, c2, c3, c4, c5, c6, c7⟩ := HS.out.hV.all
          go_wp2_with fail
          refine q.mono ?_
          rintro e V1 ⟨rfl, hB, m1⟩
          have H1 := Lib.hid (HS.out.step hB m1)
          clear q hB m1 c0 c1 c2 c3 c4 c5 c6 c7
          obtain ⟨c0, c1, c2, c3, c4, c5, c6, c7⟩ := H1.out.hV.all
          have q := of_enc H1.out.hB _ _ (Rng.inK HU.out.1) _ _ HN.out.2.get.1 HN.out.2.get.2
          go_wp2_with fail
          refine q.mono ?_
          rintro e V2 ⟨rfl, m2⟩
          have H2 := Lib.hid ((H1.out.mod m2).alloc (.cells #[.int .u32 u.f0.f0, .int .u32 u.f0.f1, .int .u64 u.f1.f0, .int .u32 u.f1.f1, .int .u64 u.f2.f0, .int .u32 u.f2.f1, .int .u8 u.f3, .bool d] 37))
          clear q m2 c0 c1 c2 c3 c4 c5 c6 c7
          go_wp2_with fail
          generalize V2.alloc _ = V3 at *
          have q := ret_lit H2.out.hB (by omega) 281474976710656 4095
          rw [HQ.out.1] at q
          refine q.mono ?_
          rintro e V4 ⟨rfl, hB, m4⟩
          have H4 := Lib.hid (H2.out.step hB m4)
          clear q hB m4
          obtain ⟨c0, c1, c2, c3, c4, c5, c6, c7⟩ := H4.out.hV.all
          have q := of_enc H4.out.hB _ _ (Rng.inK HU.out.1) _ _ HQ.out.2.1 HQ.out.2.2
          go_wp2_with fail
          refine q.mono ?_
          rintro e V5 ⟨rfl, m5⟩
          have H5 := Lib.hid ((H4.out.mod m5).alloc (.cells #[.int .u32 z.f0.f0, .int .u32 z.f0.f1, .int .u64 z.f1.f0, .int .u32 z.f1.f1, .int .u64 z.f2.f0, .int .u32 z.f2.f1, .int .u8 z.f3, .bool z.f4] 37))
          clear q m5 c0 c1 c2 c3 c4 c5 c6 c7
          obtain ⟨c0, c1, c2, c3, c4, c5, c6, c7⟩ := H5.out.hV.all
          go_wp2
          all_goals
            have hE := HE.out
            unfold commB at hE
            have hMM := H5.out.hM
            go_ret
            refine ⟨?_, hMM⟩
            clear hMM HQ HN H5 HU HI' HR
            subst hE
            simp only [*, beq_self_eq_true, Bool.true_and, Bool.not_true, Bool.false_and, Bool.or_false, Bool.false_or, beq_iff_eq, Bool.not_false, Bool.true_or, Bool.or_true, Bool.and_true, Bool.and_false] <;> (try simp [*]) <;> (try cases d <;> simp [*])

        · have h3u := h3
          have h3z : ¬ ((j : Int) = 100) := by omega
          have h3b : ((j : Int) == 100) = false := by simpa using h3z
          have hw : IntKind.i64.wrap ((j : Int) + 1) = ((j + 1 : Nat) : Int) := by rw [i64w (by omega) (by omega)]; omega
          have HA : Hid (Sy w _ g p b (j + 1) u L) := Lib.hid (HS.out.alloc (.cells #[.int .i64 l[j].f0, .int .u32 l[j].f1.f0.f0, .int .u32 l[j].f1.f0.f1, .int .u64 l[j].f1.f1.f0, .int .u32 l[j].f1.f1.f1, .int .u64 l[j].f1.f2.f0, .int .u32 l[j].f1.f2.f1, .int .u8 l[j].f1.f3, .bool l[j].f1.f4, .int .u64 l[j].f2.f0, .int .u32 l[j].f2.f1, .slice A' l[j].f3.length c'] 40))
          have hok := HR.out.2.2.2 l[j] (List.getElem_mem _)
          have HK : Hid (k32.C (wr.alloc (.cells #[.int .i64 l[j].f0, .int .u32 l[j].f1.f0.f0, .int .u32 l[j].f1.f0.f1, .int .u64 l[j].f1.f1.f0, .int .u32 l[j].f1.f1.f1, .int .u64 l[j].f1.f2.f0, .int .u32 l[j].f1.f2.f1, .int .u8 l[j].f1.f3, .bool l[j].f1.f4, .int .u64 l[j].f2.f0, .int .u32 l[j].f2.f1, .slice A' l[j].f3.length c'] 40)) A' l[j].f3.length l[j].f3) := Lib.hid (Kd.C_below hk' (Mod.bel ((Mod.refl wr []).alloc _)))
          have HX : Hid (Rng kcV knV l[j].f1 ∧ l[j].f3.length ≤ 17592186043904) := Lib.hid hok
          have HB := Lib.hid (And.intro (blk_new wr (.cells #[.int .i64 l[j].f0, .int .u32 l[j].f1.f0.f0, .int .u32 l[j].f1.f0.f1, .int .u64 l[j].f1.f1.f0, .int .u32 l[j].f1.f1.f1, .int .u64 l[j].f1.f2.f0, .int .u32 l[j].f1.f2.f1, .int .u8 l[j].f1.f3, .bool l[j].f1.f4, .int .u64 l[j].f2.f0, .int .u32 l[j].f2.f1, .slice A' l[j].f3.length c'] 40)) hc')
          have hqb : b < wr.heap.size := HS.out.hB.ltb
          clear hok hk'
          generalize l[j] = y at *
          obtain ⟨x0, ⟨⟨x1, x2⟩, ⟨x3, x4⟩, ⟨x5, x6⟩, x7, x8⟩, ⟨x9, xa⟩, x⟩ := y
          dsimp only at a0 a1 a2 a3 a4 a5 a6 a7 a8 a9 a10 a11 HA HK HX HB ⊢
          clear HS
          obtain ⟨c0, c1, c2, c3, c4, c5, c6, c7⟩ := HA.out.hV.all
          by_cases w0 : x0 = 0
          · subst w0
            obtain ⟨Lq, hLq⟩ : ∃ Lq, setR L ⟨⟨x1, x2⟩, ⟨x3, x4⟩, ⟨x5, x6⟩, x7, x8⟩ = Lq := ⟨_, rfl⟩
            have HJ : Hid (Inv Lq.2 u d) := Lib.hid (by rw [← hLq]; exact inv_set HI'.out _)
            have q := set_enc HA.out.hB (by unfold maxLen; omega) ⟨⟨x1, x2⟩, ⟨x3, x4⟩, ⟨x5, x6⟩, x7, x8⟩ HX.out.1
            rw [hLq] at q
            dsimp only at q
            clear hLq
            go_wp2_with fail
            refine q.mono ?_
            rintro e V1 ⟨rfl, hB, m1⟩
            have HT := Lib.hid (HA.out.step hB m1)
            clear q hB m1 c0 c1 c2 c3 c4 c5 c6 c7 HA
            obtain ⟨c0, c1, c2, c3, c4, c5, c6, c7⟩ := HT.out.hV.all
            have q := of_enc HT.out.hB _ _ (Rng.inK HU.out.1) _ _ HJ.out.get.1 HJ.out.get.2
            go_wp2_with fail
            refine q.mono ?_
            rintro e V2 ⟨rfl, m2⟩
            have H2 : Hid (Sy w _ g p b (j + 1 + 1) u Lq.2) := Lib.hid (Sy.mono (((HT.out.mod m2)).alloc (.cells #[.int .u32 u.f0.f0, .int .u32 u.f0.f1, .int .u64 u.f1.f0, .int .u32 u.f1.f1, .int .u64 u.f2.f0, .int .u32 u.f2.f1, .int .u8 u.f3, .bool d] 37)) (by omega))
            clear q m2 c0 c1 c2 c3 c4 c5 c6 c7
            obtain ⟨c0, c1, c2, c3, c4, c5, c6, c7⟩ := H2.out.hV.all
            go_wp2
            go_roundg (l.length - (j + 1))
            case measure => omega
            case rel => exact ⟨j + 1, d, Lq.2, by omega, rfl, rfl, by rw [show ((j + 1 : Nat) : Int) = (j : Int) + 1 by omega], by omega, H2.out, HJ.out⟩
          · by_cases w1 : x0 = 1
            · subst w1
              obtain ⟨r1, Lq, hLq⟩ : ∃ r1 Lq, doneR L x1 x2 = (r1, Lq) := ⟨_, _, rfl⟩
              have hj0 := inv_done HI'.out x1 x2
              rw [hLq] at hj0
              dsimp only at hj0
              have HJ0 := Lib.hid hj0
              have q := done_lit HA.out.hB (by unfold maxLen; omega) x1 x2 HX.out.1
              rw [hLq] at q
              clear hLq hj0
              go_wp2_with fail
              refine q.mono ?_
              rintro e V1 ⟨he, hB, m1⟩
              obtain rfl : e = .returned (.bool r1) := he
              have HT := Lib.hid (HA.out.step hB m1)
              have hbx := m1.at_ HB.out.1 (by simp; omega)
              have y1 : V1.cell? ⟨wr.heap.size, 1, none⟩ = some (.int .u32 x1) := (blk_cell hbx 1).trans rfl
              have y2 : V1.cell? ⟨wr.heap.size, 2, none⟩ = some (.int .u32 x2) := (blk_cell hbx 2).trans rfl
              clear q hB m1 c0 c1 c2 c3 c4 c5 c6 c7 HA hbx HB
              generalize wr.heap.size = gq at *
              cases r1
              · have HJ : Hid (Inv Lq u d) := HJ0
                obtain ⟨c0, c1, c2, c3, c4, c5, c6, c7⟩ := HT.out.hV.all
                have q := of_enc HT.out.hB _ _ (Rng.inK HU.out.1) _ _ HJ.out.get.1 HJ.out.get.2
                go_wp2_with fail
                refine q.mono ?_
                rintro e V2 ⟨rfl, m2⟩
                have H2 : Hid (Sy w _ g p b (j + 1 + 1) u Lq) := Lib.hid (Sy.mono (((HT.out.mod m2)).alloc (.cells #[.int .u32 u.f0.f0, .int .u32 u.f0.f1, .int .u64 u.f1.f0, .int .u32 u.f1.f1, .int .u64 u.f2.f0, .int .u32 u.f2.f1, .int .u8 u.f3, .bool d] 37)) (by omega))
                clear q m2 c0 c1 c2 c3 c4 c5 c6 c7
                obtain ⟨c0, c1, c2, c3, c4, c5, c6, c7⟩ := H2.out.hV.all
                go_wp2
                go_roundg (l.length - (j + 1))
                case measure => omega
                case rel => exact ⟨j + 1, d, Lq, by omega, rfl, rfl, by rw [show ((j + 1 : Nat) : Int) = (j : Int) + 1 by omega], by omega, H2.out, HJ.out⟩
              · by_cases k1 : x1 = u.f0.f0
                · by_cases k2 : x2 = u.f0.f1
                  · have HJ : Hid (Inv Lq u true) := Lib.hid (by have h := HJ0.out; unfold keyB at h; simpa [k1, k2] using h)
                    obtain ⟨c0, c1, c2, c3, c4, c5, c6, c7⟩ := HT.out.hV.all
                    subst k1 k2
                    have q := of_enc HT.out.hB _ _ (Rng.inK HU.out.1) _ _ HJ.out.get.1 HJ.out.get.2
                    go_wp2_with fail
                    refine q.mono ?_
                    rintro e V2 ⟨rfl, m2⟩
                    have H2 : Hid (Sy w _ g p b (j + 1 + 1) u Lq) := Lib.hid (Sy.mono (((HT.out.mod m2)).alloc (.cells #[.int .u32 u.f0.f0, .int .u32 u.f0.f1, .int .u64 u.f1.f0, .int .u32 u.f1.f1, .int .u64 u.f2.f0, .int .u32 u.f2.f1, .int .u8 u.f3, .bool true] 37)) (by omega))
                    clear q m2 c0 c1 c2 c3 c4 c5 c6 c7
                    obtain ⟨c0, c1, c2, c3, c4, c5, c6, c7⟩ := H2.out.hV.all
                    go_wp2
                    go_roundg (l.length - (j + 1))
                    case measure => omega
                    case rel => exact ⟨j + 1, true, Lq, by omega, rfl, rfl, by rw [show ((j + 1 : Nat) : Int) = (j : Int) + 1 by omega], by omega, H2.out, HJ.out⟩
                  · have HJ : Hid (Inv Lq u d) := Lib.hid (by have h := HJ0.out; unfold keyB at h; simpa [k1, k2] using h)
                    obtain ⟨c0, c1, c2, c3, c4, c5, c6, c7⟩ := HT.out.hV.all
                    have k2b : (x2 == u.f0.f1) = false := by simpa using k2
                    have q := of_enc HT.out.hB _ _ (Rng.inK HU.out.1) _ _ HJ.out.get.1 HJ.out.get.2
                    go_wp2_with fail
                    refine q.mono ?_
                    rintro e V2 ⟨rfl, m2⟩
                    have H2 : Hid (Sy w _ g p b (j + 1 + 1) u Lq) := Lib.hid (Sy.mono (((HT.out.mod m2)).alloc (.cells #[.int .u32 u.f0.f0, .int .u32 u.f0.f1, .int .u64 u.f1.f0, .int .u32 u.f1.f1, .int .u64 u.f2.f0, .int .u32 u.f2.f1, .int .u8 u.f3, .bool d] 37)) (by omega))
                    clear q m2 c0 c1 c2 c3 c4 c5 c6 c7
                    obtain ⟨c0, c1, c2, c3, c4, c5, c6, c7⟩ := H2.out.hV.all
                    go_wp2
                    go_roundg (l.length - (j + 1))
                    case measure => omega
                    case rel => exact ⟨j + 1, d, Lq, by omega, rfl, rfl, by rw [show ((j + 1 : Nat) : Int) = (j : Int) + 1 by omega], by omega, H2.out, HJ.out⟩
                · have HJ : Hid (Inv Lq u d) := Lib.hid (by have h := HJ0.out; unfold keyB at h; simpa [k1] using h)
                  obtain ⟨c0, c1, c2, c3, c4, c5, c6, c7⟩ := HT.out.hV.all
                  have k1b : (x1 == u.f0.f0) = false := by simpa using k1
                  have q := of_enc HT.out.hB _ _ (Rng.inK HU.out.1) _ _ HJ.out.get.1 HJ.out.get.2
                  go_wp2_with fail
                  refine q.mono ?_
                  rintro e V2 ⟨rfl, m2⟩
                  have H2 : Hid (Sy w _ g p b (j + 1 + 1) u Lq) := Lib.hid (Sy.mono (((HT.out.mod m2)).alloc (.cells #[.int .u32 u.f0.f0, .int .u32 u.f0.f1, .int .u64 u.f1.f0, .int .u32 u.f1.f1, .int .u64 u.f2.f0, .int .u32 u.f2.f1, .int .u8 u.f3, .bool d] 37)) (by omega))
                  clear q m2 c0 c1 c2 c3 c4 c5 c6 c7
                  obtain ⟨c0, c1, c2, c3, c4, c5, c6, c7⟩ := H2.out.hV.all
                  go_wp2
                  go_roundg (l.length - (j + 1))
                  case measure => omega
                  case rel => exact ⟨j + 1, d, Lq, by omega, rfl, rfl, by rw [show ((j + 1 : Nat) : Int) = (j : Int) + 1 by omega], by omega, H2.out, HJ.out⟩
            · by_cases w2 : x0 = 2
              · subst w2
                obtain ⟨K, hK⟩ : ∃ K, [(⟨u.f0.f0, u.f0.f1⟩ : S32)] ++ x = K := ⟨_, rfl⟩
                have hKl : K.length = x.length + 1 := by rw [← hK]; simp
                have hKb : x.length ≤ 17592186043904 := HX.out.2
                obtain ⟨Lq, hLq⟩ : ∃ Lq, retL ⟨x9, xa⟩ K L = Lq := ⟨_, rfl⟩
                have HJ : Hid (Inv Lq u d) := Lib.hid (by rw [← hLq]; exact inv_ret2 HI'.out _ K x hK)
                have HP := Lib.hid (And.intro hK hLq)
                have HKl := Lib.hid hKl
                have hb1 := HB.out.1
                clear hK hLq hKl
                generalize hgq : wr.heap.size = gq at *
                go_upto_region 19 with fail
                generalize wr.alloc (.cells #[.int .i64 2, .int .u32 x1, .int .u32 x2, .int .u64 x3, .int .u32 x4, .int .u64 x5, .int .u32 x6, .int .u8 x7, .bool x8, .int .u64 x9, .int .u32 xa, .slice A' x.length c'] 40) = V at *
                have HF : Hid (∀ W', Mod V W' [b] → W'.cell? ⟨gq, 9, none⟩ = some (.int .u64 x9) ∧ W'.cell? ⟨gq, 10, none⟩ = some (.int .u32 xa) ∧ W'.cell? ⟨gq, 11, none⟩ = some (.slice A' x.length c') ∧ W'.cell? ⟨g, 0, none⟩ = some (.int .u32 u.f0.f0) ∧ W'.cell? ⟨g, 1, none⟩ = some (.int .u32 u.f0.f1)) := Lib.hid fun W' m => by
                  have hbx := m.at_ hb1 (by simp; omega)
                  obtain ⟨c0, c1, c2, c3, c4, c5, c6, c7⟩ := (HA.out.hV.mod m (by simpa using HA.out.ne)).all
                  exact ⟨(blk_cell hbx 9).trans rfl, (blk_cell hbx 10).trans rfl, (blk_cell hbx 11).trans rfl, c0, c1⟩
                clear hb1 c0 c1 c2 c3 c4 c5 c6 c7 a0 a1 a2 a3 a4 a5 a6 a7 a8 a9 a10 a11
                have hkeep := HF.out V (Mod.refl V [b])
                go_region_held3 (fun W' => W'.cell? ⟨gq, 9, none⟩ = some (.int .u64 x9) ∧ W'.cell? ⟨gq, 10, none⟩ = some (.int .u32 xa) ∧ W'.cell? ⟨gq, 11, none⟩ = some (.slice A' x.length c') ∧ W'.cell? ⟨g, 0, none⟩ = some (.int .u32 u.f0.f0) ∧ W'.cell? ⟨g, 1, none⟩ = some (.int .u32 u.f0.f1))
                  (first | exact HF.out _ N10.out | exact HF.out _ (Mod.mono (fp := []) (by (with_reducible repeat (first | exact N9.out | exact Mod.refl _ _ | refine Mod.drewN ?_ _ | refine Mod.drew ?_ | refine Mod.alloc ?_ _))) (fun _ hk => by cases hk))) (first
                  | (go_at_call 18
                     (
                       refine Calls.mono (HQ9.out _ ?m1) ?_
                       case m1 => (with_reducible repeat (first | exact N9.out | exact Mod.refl _ _ | refine Mod.drewN ?_ _ | refine Mod.drew ?_ | refine Mod.alloc ?_ _))
                       rintro e W10 ⟨rfl, hT, n10⟩
                       have HT := Lib.hid hT
                       have N10 := Lib.hid n10
                       have hk10 := HF.out _ n10
                       clear hT n10))
                  | ((
                       refine Kd.R_append_rows_step k32 (w0 := _) 0 (by rfl) _ _ 38 32 (.agg #[.int .u32 0, .int .u32 0]) 8 rfl Try.underlying38 info32 rfl (by decide) (by decide) _ [⟨u.f0.f0, u.f0.f1⟩] x _ _ _ (fun k => V.heap.size ≤ k) (fun _ => False) (by rfl) (by rfl) (R_mod (built1 _ u.f0.f0 u.f0.f1 (fun k => V.heap.size ≤ k) (Mod.size (W := V) (fp := []) (by (with_reducible repeat (first | exact N9.out | exact Mod.refl _ _ | refine Mod.drewN ?_ _ | refine Mod.drew ?_ | refine Mod.alloc ?_ _))))) (by (with_reducible repeat (first | exact N9.out | exact Mod.refl _ _ | refine Mod.drewN ?_ _ | refine Mod.drew ?_ | refine Mod.alloc ?_ _)))) (Kd.C_below HK.out (Mod.bel (by (with_reducible repeat (first | exact N9.out | exact Mod.refl _ _ | refine Mod.drewN ?_ _ | refine Mod.drew ?_ | refine Mod.alloc ?_ _))))) (fun x cs h => h) (fun k h => h.elim) (fun k h => Nat.le_trans (Mod.size (W := V) (fp := []) (by (with_reducible repeat (first | exact N9.out | exact Mod.refl _ _ | refine Mod.drewN ?_ _ | refine Mod.drew ?_ | refine Mod.alloc ?_ _)))) h) (Below.refl _ _) (Nat.zero_le _) (by simp; omega) ?_
                       intro v9 W9 o9 _ g9 _
                       rw [HP.out.1] at o9
                       have n9 : Mod V W9 [] := by
                         refine Mod.trans ?_ (mod_own g9) (fun y hy => .inr (by first | exact (built1 _ u.f0.f0 u.f0.f1 (fun k => V.heap.size ≤ k) (Mod.size (W := V) (fp := []) (by (with_reducible repeat (first | exact N9.out | exact Mod.refl _ _ | refine Mod.drewN ?_ _ | refine Mod.drew ?_ | refine Mod.alloc ?_ _))))).1 y (own_mem _ y hy)))
                         (with_reducible repeat (first | exact N9.out | exact Mod.refl _ _ | refine Mod.drewN ?_ _ | refine Mod.drew ?_ | refine Mod.alloc ?_ _))
                       have hk9 := HF.out _ (n9.mono (fun _ hk => by cases hk))
                       have N9 := Lib.hid n9
                       obtain ⟨A9, c9, rfl, hc9, C9⟩ := Kd.R_reads o9
                       have HQ9 : Hid (∀ W', Mod W9 W' [] → Calls Try.prog 18 #[.pointer (some ⟨p, 0, none⟩), .agg #[.int .u64 x9, .int .u32 xa], .slice A9 K.length c9] W' (fun e W'' => e = .returned (.int .i64 ((L.length : Int) - (Lq.length : Int))) ∧ Sy w W'' g p b (j + 1) u Lq ∧ Mod V W'' [b])) := Lib.hid (fun W' m => by
                         have hKl := HKl.out
                         have q := ret_calls (HA.out.mod (N9.out.trans m (fun _ hk => by cases hk))).hB (by omega) ⟨x9, xa⟩ A9 c9 K (Kd.C_below C9 (Mod.bel m)) hc9 (by omega)
                         rw [HP.out.2] at q
                         refine q.mono ?_
                         rintro e W'' ⟨he, hB, m10⟩
                         have n10 : Mod V W'' [b] := (Mod.mono (fp := []) (N9.out.trans m (fun _ hk => by cases hk)) (fun _ hk => by cases hk)).trans m10 (fun k hk => .inl hk)
                         exact ⟨he, HA.out.step hB n10, n10⟩)
                       clear n9 o9 g9 hc9 C9)))
                all_goals
                  obtain ⟨c0, c1, c2, c3, c4, c5, c6, c7⟩ := HT.out.hV.all
                  have q := of_enc HT.out.hB _ _ (Rng.inK HU.out.1) _ _ HJ.out.get.1 HJ.out.get.2
                  go_wp2_with fail
                  refine q.mono ?_
                  rintro e V2 ⟨rfl, m2⟩
                  have H2 : Hid (Sy w _ g p b (j + 1 + 1) u Lq) := Lib.hid (Sy.mono (((HT.out.mod m2)).alloc (.cells #[.int .u32 u.f0.f0, .int .u32 u.f0.f1, .int .u64 u.f1.f0, .int .u32 u.f1.f1, .int .u64 u.f2.f0, .int .u32 u.f2.f1, .int .u8 u.f3, .bool d] 37)) (by omega))
                  clear q m2 c0 c1 c2 c3 c4 c5 c6 c7
                  obtain ⟨c0, c1, c2, c3, c4, c5, c6, c7⟩ := H2.out.hV.all
                  go_wp2
                  go_roundg (l.length - (j + 1))
                  case measure => omega
                  case rel => exact ⟨j + 1, d, Lq, by omega, rfl, rfl, by rw [show ((j + 1 : Nat) : Int) = (j : Int) + 1 by omega], by omega, H2.out, HJ.out⟩
              · have w0b : (x0 == 0) = false := by simpa using w0
                have w1b : (x0 == 1) = false := by simpa using w1
                have w2b : (x0 == 2) = false := by simpa using w2
                have q := of_enc HA.out.hB _ _ (Rng.inK HU.out.1) _ _ HI'.out.get.1 HI'.out.get.2
                go_wp2_with fail
                refine q.mono ?_
                rintro e V2 ⟨rfl, m2⟩
                have H2 : Hid (Sy w _ g p b (j + 1 + 1) u L) := Lib.hid (Sy.mono (((HA.out.mod m2)).alloc (.cells #[.int .u32 u.f0.f0, .int .u32 u.f0.f1, .int .u64 u.f1.f0, .int .u32 u.f1.f1, .int .u64 u.f2.f0, .int .u32 u.f2.f1, .int .u8 u.f3, .bool d] 37)) (by omega))
                clear q m2 c0 c1 c2 c3 c4 c5 c6 c7
                obtain ⟨c0, c1, c2, c3, c4, c5, c6, c7⟩ := H2.out.hV.all
                go_wp2
                go_roundg (l.length - (j + 1))
                case measure => omega
                case rel => exact ⟨j + 1, d, L, by omega, rfl, rfl, by rw [show ((j + 1 : Nat) : Int) = (j : Int) + 1 by omega], by omega, H2.out, HI'.out⟩

      · obtain rfl : j = l.length := by omega
        have hzz : ¬ ((l.length : Int) < (l.length : Int)) := by omega
        have HN : Hid (OrdV L ∧ Inv (retL ⟨u.f1.f0, u.f1.f1⟩ [] L) u d) := Lib.hid ⟨HS.out.hB.ord, inv_own HI'.out⟩
        obtain ⟨L1, hL1⟩ : ∃ L1, retL ⟨u.f1.f0, u.f1.f1⟩ [] L = L1 := ⟨_, rfl⟩
        rw [hL1] at HN
        obtain ⟨L2, hL2⟩ : ∃ L2, retL ⟨281474976710656, 4095⟩ [] L1 = L2 := ⟨_, rfl⟩
        obtain ⟨z, hz⟩ : ∃ z, (findV u.f0.f0 u.f0.f1 L2).getD z37 = z := ⟨_, rfl⟩
        obtain ⟨oz, hoz⟩ : ∃ oz, (findV u.f0.f0 u.f0.f1 L2).isSome = oz := ⟨_, rfl⟩
        have hL1o : OrdV L1 := by rw [← hL1]; exact filter_ord HN.out.1 _
        have HE : Hid (oz = ((u.f1.f0 == 281474976710656 && (u.f1.f1 == 4095)) || (commB u && !d))) := Lib.hid (by rw [← hoz, ← hL2]; exact stays_end hL1o HN.out.2 HR.out.1)
        have q := ret_lit HS.out.hB (by omega) u.f1.f0 u.f1.f1
        rw [hL1] at q
        have HQ := Lib.hid (And.intro hL2 (And.intro hz hoz))
        clear hL1 hL2 hz hoz hL1o
        obtain ⟨c0, c1, c2, c3, c4, c5, c6, c7⟩ := HS.out.hV.all
        go_wp2_with fail
        refine q.mono ?_
        rintro e V1 ⟨rfl, hB, m1⟩
        have H1 := Lib.hid (HS.out.step hB m1)
        clear q hB m1 c0 c1 c2 c3 c4 c5 c6 c7
        obtain ⟨c0, c1, c2, c3, c4, c5, c6, c7⟩ := H1.out.hV.all
        have q := of_enc H1.out.hB _ _ (Rng.inK HU.out.1) _ _ HN.out.2.get.1 HN.out.2.get.2
        go_wp2_with fail
        refine q.mono ?_
        rintro e V2 ⟨rfl, m2⟩
        have H2 := Lib.hid ((H1.out.mod m2).alloc (.cells #[.int .u32 u.f0.f0, .int .u32 u.f0.f1, .int .u64 u.f1.f0, .int .u32 u.f1.f1, .int .u64 u.f2.f0, .int .u32 u.f2.f1, .int .u8 u.f3, .bool d] 37))
        clear q m2 c0 c1 c2 c3 c4 c5 c6 c7
        go_wp2_with fail
        generalize V2.alloc _ = V3 at *
        have q := ret_lit H2.out.hB (by omega) 281474976710656 4095
        rw [HQ.out.1] at q
        refine q.mono ?_
        rintro e V4 ⟨rfl, hB, m4⟩
        have H4 := Lib.hid (H2.out.step hB m4)
        clear q hB m4
        obtain ⟨c0, c1, c2, c3, c4, c5, c6, c7⟩ := H4.out.hV.all
        have q := of_enc H4.out.hB _ _ (Rng.inK HU.out.1) _ _ HQ.out.2.1 HQ.out.2.2
        go_wp2_with fail
        refine q.mono ?_
        rintro e V5 ⟨rfl, m5⟩
        have H5 := Lib.hid ((H4.out.mod m5).alloc (.cells #[.int .u32 z.f0.f0, .int .u32 z.f0.f1, .int .u64 z.f1.f0, .int .u32 z.f1.f1, .int .u64 z.f2.f0, .int .u32 z.f2.f1, .int .u8 z.f3, .bool z.f4] 37))
        clear q m5 c0 c1 c2 c3 c4 c5 c6 c7
        obtain ⟨c0, c1, c2, c3, c4, c5, c6, c7⟩ := H5.out.hV.all
        go_wp2
        all_goals
          have hE := HE.out
          unfold commB at hE
          have hMM := H5.out.hM
          go_ret
          refine ⟨?_, hMM⟩
          clear hMM HQ HN H5 HU HI' HR
          subst hE
          simp only [*, beq_self_eq_true, Bool.true_and, Bool.not_true, Bool.false_and, Bool.or_false, Bool.false_or, beq_iff_eq, Bool.not_false, Bool.true_or, Bool.or_true, Bool.and_true, Bool.and_false] <;> (try simp [*]) <;> (try cases d <;> simp [*])

end Go.Proofs.Ytdelbidaclddgaa.Ver
