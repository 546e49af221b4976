/- The layer 'verdict': VerQ; a seat's own text, no law of its own. -/
import Derived.Test.YtdelbidaclddgaaVerP
import Derived.Shelf.SlSortCmp.WholeK
import Derived.Deep.LoopGhost
import Derived.Deep.Cut
import Derived.Lib.Hide
import Derived.StillTailTactics
import Derived.Deep.QuietTactic
import Derived.BigQuiet
import Derived.Outline
import Derived.Deep.RegionWith
import Derived.Deep.RegionHeld3
import Derived.WalkLawsBesides
namespace Go.Proofs.Ytdelbidaclddgaa.Ver
open Go.RowKit Go.Proofs.YtdelbidaclddgaaW.PrintWords Go.Proofs.Ytdelbidaclddgaa.MVerdictRuns Go.Proofs.YtdelbidaclddgaaW.PrintLast
set_option linter.unusedVariables false
set_option linter.unusedSimpArgs false
theorem turn_k (t : Int) (n : Nat) (h0 : ¬ n = 0) (h6 : ¬ 60 < n) : ∃ k : Nat, k < n ∧ (wrap64 (t.tmod n + n)).tmod n = (k : Int) := by
  have h1 := Int.lt_tmod_of_pos t (show (0 : Int) < n by omega)
  have h2 := Int.tmod_lt_of_pos t (show (0 : Int) < n by omega)
  have e : wrap64 (t.tmod n + n) = t.tmod n + n := by unfold wrap64; omega
  rw [e]
  have h3 := Int.tmod_nonneg (n : Int) (show 0 ≤ t.tmod n + n by omega)
  have h4 := Int.tmod_lt_of_pos (t.tmod n + n) (show (0 : Int) < n by omega)
  exact ⟨((t.tmod n + n).tmod n).toNat, by omega, by omega⟩
/-- two books side by side -/
structure Tw (w V : World) (p1 b1 p2 b2 m : Nat) (L1 L2 : List S37) : Prop where
  h1 : Book V p1 b1 m L1
  h2 : Book V p2 b2 m L2
  hM : Mod w V []
  g1 : w.heap.size ≤ b1
  g2 : w.heap.size ≤ b2
  n1 : p2 ≠ b1
  n2 : b2 ≠ b1
  n3 : p1 ≠ b2
theorem Tw.s1 {w V V' : World} {p1 b1 p2 b2 m m' : Nat} {L1 L2 L1' : List S37} (h : Tw w V p1 b1 p2 b2 m L1 L2) (hm : m ≤ m') (hB : Book V' p1 b1 m' L1') (m1 : Mod V V' [b1]) : Tw w V' p1 b1 p2 b2 m' L1' L2 :=
  ⟨hB, (h.h2.mod m1 (by simpa using h.n1) (by simpa using h.n2)).mono hm, h.hM.trans m1 (fun k hk => by simp at hk; subst hk; exact .inr h.g1), h.g1, h.g2, h.n1, h.n2, h.n3⟩
theorem Tw.s2 {w V V' : World} {p1 b1 p2 b2 m m' : Nat} {L1 L2 L2' : List S37} (h : Tw w V p1 b1 p2 b2 m L1 L2) (hm : m ≤ m') (hB : Book V' p2 b2 m' L2') (m1 : Mod V V' [b2]) : Tw w V' p1 b1 p2 b2 m' L1 L2' :=
  ⟨(h.h1.mod m1 (by simpa using h.n3) (by simpa using h.n2.symm)).mono hm, hB, h.hM.trans m1 (fun k hk => by simp at hk; subst hk; exact .inr h.g2), h.g1, h.g2, h.n1, h.n2, h.n3⟩
theorem Tw.mod {w V V' : World} {p1 b1 p2 b2 m : Nat} {L1 L2 : List S37} (h : Tw w V p1 b1 p2 b2 m L1 L2) (m1 : Mod V V' []) : Tw w V' p1 b1 p2 b2 m L1 L2 :=
  ⟨h.h1.mod m1 (by simp) (by simp), h.h2.mod m1 (by simp) (by simp), h.hM.trans m1 (fun k hk => by cases hk), h.g1, h.g2, h.n1, h.n2, h.n3⟩
theorem turn_ix (n k j : Nat) (hk : k < n) (hj : j < n) (h6 : ¬ 60 < n) : ((n : Int) - 1 - j + k).tmod n = ((turnF n k j : Nat) : Int) := by
  have e : (n : Int) - 1 - j + k = ((n - 1 - j + k : Nat) : Int) := by omega
  rw [e, Int.tmod_eq_emod_of_nonneg (by omega), ← Int.natCast_emod]
  congr 1
  unfold turnF
  split
  · exact Nat.mod_eq_of_lt (by omega)
  · rw [Nat.mod_eq_sub_mod (by omega)]; exact Nat.mod_eq_of_lt (by omega)
theorem same_l0 (L : List S37) (hl : L.length ≤ 1000) : ∀ (d j : Nat), j + d = L.length → dovecoteref11_Same.l0 (d + 1) L L (j : Int) = some true
  | 0, j, h => by
    unfold dovecoteref11_Same.l0
    rw [if_neg (by omega)]
  | d + 1, j, h => by
    unfold dovecoteref11_Same.l0
    have hw : wrap64 ((j : Int) + 1) = ((j + 1 : Nat) : Int) := by unfold wrap64; omega
    rw [if_pos (by omega), if_pos (by omega), if_pos (by omega), hw]
    simp only [beq_self_eq_true, Bool.not_true, Bool.or_self, Bool.false_eq_true, if_false]
    exact same_l0 L hl d (j + 1) (by omega)
theorem same_self (L : List S37) (hl : L.length ≤ 1000) : dovecoteref11_Same.f (L.length + 1) L L = some true := by
  unfold dovecoteref11_Same.f
  rw [if_pos rfl]
  exact same_l0 L hl L.length 0 (by omega)
attribute [local go_sem high] eqA32 eqA35 eqA37
/-- the first loop: the map of the names seen -/
structure O1 (w V : World) (sb j : Nat) (l K : List S37) : Prop where
  hM : Mod w V []
  hS : SeenM V sb j K
  hs : Seen l j K
  hb : w.heap.size ≤ sb
set_option maxHeartbeats 8000000 in
set_option maxRecDepth 100000 in
theorem order_calls (turn : Int) {A : Option Addr} {c : Nat} {l : List S37} {w : World} (hr : Kd.C k37 w A l.length l) (hc : l.length ≤ c) (hok : ∀ a ∈ l, Rng kcV knV a) :
    Calls Try.prog 6 #[.slice A l.length c, .int .i64 turn] w fun e w' => e = .returned (.bool true) ∧ Mod w w' [] := by
  have hmm := @run_makeMap Try.prog
  have hr63 : l.length ≤ 9223372036854775807 := hr.2.1
  have HR := Lib.hid (And.intro hr (And.intro hc hok))
  clear hr hc hok
  go_enter Try.func6, Try.ntmps6
  by_cases hl0 : l.length = 0
  · have hz : ((l.length : Int) == 0) = true := by rw [hl0]; rfl
    go_wp2_with fail
    refine (awake_calls _).mono ?_
    rintro e W1 ⟨rfl, m1⟩
    go_wp2
    go_ret
    exact ⟨rfl, m1⟩
  have hl0b : ((l.length : Int) == 0) = false := by simpa using hl0
  have hl0z : ¬ ((l.length : Int) = 0) := by omega
  by_cases hl6 : 60 < l.length
  · have hz : ((60 : Int) < l.length) := by omega
    go_wp2_with fail
    refine (awake_calls _).mono ?_
    rintro e W1 ⟨rfl, m1⟩
    go_wp2
    go_ret
    exact ⟨rfl, m1⟩
  have hl6z : ¬ ((60 : Int) < l.length) := by omega
  go_wp2_with fail
  refine (awake_calls _).mono ?_
  rintro e W1 ⟨rfl, m1⟩
  go_wp2_with fail
  have H1 : Hid (O1 w (W1.alloc (.map #[] 0)) W1.heap.size 0 l []) := Lib.hid ⟨m1.trans ((Mod.refl W1 []).alloc _) (fun _ hk => by cases hk), seen_made W1, Seen.zero l, m1.size⟩
  clear m1
  generalize W1.alloc (.map #[] 0) = W2 at *
  generalize W1.heap.size = sb at *
  go_loopg [27] l.length (fun k i wr => ∃ (j : Nat) (K : List S37), j ≤ l.length ∧ k = l.length - j ∧ i = .int .i64 j ∧ O1 w wr sb j l K)
  case atStart => exact ⟨0, [], Nat.zero_le _, rfl, rfl, H1.out⟩
  case round =>
    obtain ⟨j, K, hj, rfl, rfl, hO⟩ := hrel
    have HO := Lib.hid hO
    clear hO H1
    by_cases hjl : j < l.length
    · obtain ⟨ad, rfl, a0, a1, a2, a3, a4, a5, a6, a7⟩ := vd_cells (Kd.C_below HR.out.1 (Mod.bel HO.out.hM)) j hjl
      have hjz : (j : Int) < (l.length : Int) := by omega
      have hw : IntKind.i64.wrap ((j : Int) + 1) = ((j + 1 : Nat) : Int) := by rw [i64w (by omega) (by omega)]; omega
      have m1 : Mod wr (wr.alloc (.cells #[.int .u32 l[j].f0.f0, .int .u32 l[j].f0.f1, .int .u64 l[j].f1.f0, .int .u32 l[j].f1.f1, .int .u64 l[j].f2.f0, .int .u32 l[j].f2.f1, .int .u8 l[j].f3, .bool l[j].f4] 37)) [] := (Mod.refl wr []).alloc _
      have hS := HO.out.hS.mod m1 (by simp)
      have hx := HR.out.2.2 l[j] (List.getElem_mem _)
      have hlook := hS.look hx
      have hget : l[j]? = some l[j] := List.getElem?_eq_getElem hjl
      cases hf : (findV l[j].f0.f0 l[j].f0.f1 K).isSome
      · rw [show (findV (kcV l[j]) (knV l[j]) K).isSome = false from hf] at hlook
        obtain ⟨W7, hrun, hS7, m7⟩ := hS.put (Nat.lt_trans (show j < 60 by omega) (by unfold maxLen; decide)) l[j] hx
        have hn := HO.out.hs.next hget hf
        have hsb := HO.out.hb
        have H7 : Hid (O1 w W7 sb (j + 1) l (setV l[j] K)) := Lib.hid ⟨(HO.out.hM.trans m1 (fun _ hk => by cases hk)).trans m7 (fun k hk => by simp at hk; subst hk; exact .inr hsb), hS7, hn, hsb⟩
        unfold keyV kcV knV at hlook
        unfold keyV at hrun
        clear hS hx hf hS7 m7 hn m1 hget hsb
        go_wp2
        go_roundg (l.length - (j + 1))
        case measure => omega
        case rel => exact ⟨j + 1, _, by omega, rfl, by rw [show ((j + 1 : Nat) : Int) = (j : Int) + 1 by omega], H7.out⟩
      · rw [show (findV (kcV l[j]) (knV l[j]) K).isSome = true from hf] at hlook
        have hM := HO.out.hM.trans m1 (fun _ hk => by cases hk)
        unfold keyV kcV knV at hlook
        clear hS hx hf m1 hget
        go_wp2
        go_ret
        exact ⟨rfl, hM⟩
    · obtain rfl : j = l.length := by omega
      have hzz : ¬ ((l.length : Int) < (l.length : Int)) := by omega
      have hD : Hid (Dis l ∧ Mod w wr []) := Lib.hid ⟨HO.out.hs.all, HO.out.hM⟩
      clear HO
      go_upto_region 14 with fail
      obtain ⟨k, hk, hke⟩ := turn_k turn l.length hl0 (by omega)
      rw [hke]
      generalize wrap64 (turn.tmod ↑l.length + ↑l.length) = z1
      generalize turn.tmod ↑l.length = z2
      clear hke
      go_wp2_with fail
      refine (new_calls _).mono ?_
      rintro e V1 ⟨p1, b1, rfl, hB1, m1, hp1, hb1⟩
      go_wp2_with fail
      refine (new_calls _).mono ?_
      rintro e V2 ⟨p2, b2, rfl, hB2, m2, hp2, hb2⟩
      have q1 := hB1.lt
      have q2 := hB1.ltb
      have q3 := m1.size
      have q4 := hD.out.2.size
      have HT : Hid (Tw w V2 p1 b1 p2 b2 0 [] []) := Lib.hid ⟨hB1.mod m2 (by simp) (by simp), hB2, (hD.out.2.trans m1 (fun _ hk => by cases hk)).trans m2 (fun _ hk => by cases hk), by omega, by omega, by omega, by omega, by omega⟩
      have HD := Lib.hid hD.out.1
      clear hB1 hB2 m1 m2 hp1 hb1 hp2 hb2 q1 q2 q3 q4 hD
      go_wp2_with fail
      go_loopg [53] l.length (fun kk i wr => ∃ (j : Nat) (L1 L2 : List S37), j ≤ l.length ∧ kk = l.length - j ∧ i = .int .i64 j ∧ Tw w wr p1 b1 p2 b2 (2 * j) L1 L2 ∧ Got l id j L1 ∧ Got l (turnF l.length k) j L2)
      case atStart => exact ⟨0, [], [], Nat.zero_le _, rfl, rfl, HT.out, Got.zero _ _, Got.zero _ _⟩
      case round =>
        obtain ⟨j, L1, L2, hj, rfl, rfl, hT, hG1, hG2⟩ := hrel
        have HT1 := Lib.hid hT
        clear hT HT
        by_cases hjl : j < l.length
        · have hjz : (j : Int) < (l.length : Int) := by omega
          have hw : IntKind.i64.wrap ((j : Int) + 1) = ((j + 1 : Nat) : Int) := by rw [i64w (by omega) (by omega)]; omega
          have hget : l[j]? = some l[j] := List.getElem?_eq_getElem hjl
          have htl := turn_lt (n := l.length) hk hjl
          have hget2 : l[turnF l.length k j]? = some l[turnF l.length k j] := List.getElem?_eq_getElem htl
          have HG := Lib.hid (And.intro (hG1.next HD.out (fun t ht e => by have e : t = j := e; omega) hget) (hG2.next HD.out (fun t ht => turn_inj hk (by omega) hjl (by omega)) hget2))
          clear hG1 hG2
          obtain ⟨ad, rfl, a0, a1, a2, a3, a4, a5, a6, a7⟩ := vd_cells (Kd.C_below HR.out.1 (Mod.bel HT1.out.hM)) j hjl
          have q := set_enc HT1.out.h1 (by unfold maxLen; omega) l[j] (HR.out.2.2 _ (List.getElem_mem _))
          obtain ⟨Lq1, hLq1⟩ : ∃ Lq, setR L1 l[j] = Lq := ⟨_, rfl⟩
          obtain ⟨Lq2, hLq2⟩ : ∃ Lq, setR L2 l[turnF l.length k j] = Lq := ⟨_, rfl⟩
          rw [hLq1] at q
          have HQ : Hid (Got l id (j + 1) Lq1.2 ∧ Got l (turnF l.length k) (j + 1) Lq2.2) := Lib.hid (by rw [← hLq1, ← hLq2]; exact HG.out)
          have HL2 := Lib.hid hLq2
          clear hLq1 hLq2 HG hget hget2
          go_wp2_with fail
          refine q.mono ?_
          rintro e V3 ⟨rfl, hB3, m3⟩
          have HT3 := Lib.hid (HT1.out.s1 (Nat.le_succ _) hB3 m3)
          clear q hB3 m3 a0 a1 a2 a3 a4 a5 a6 a7
          obtain ⟨ad', had, a0, a1, a2, a3, a4, a5, a6, a7⟩ := vd_cells (Kd.C_below HR.out.1 (Mod.bel HT3.out.hM)) (turnF l.length k j) htl
          obtain rfl := Option.some.inj had
          have hix := turn_ix l.length k j hk hjl (by omega)
          have q := set_enc HT3.out.h2 (by unfold maxLen; omega) l[turnF l.length k j] (HR.out.2.2 _ (List.getElem_mem _))
          rw [HL2.out] at q
          go_wp2_with fail
          refine q.mono ?_
          rintro e V4 ⟨rfl, hB4, m4⟩
          have HT4 := Lib.hid (HT3.out.s2 (Nat.le_succ _) hB4 m4)
          clear q hB4 m4 a0 a1 a2 a3 a4 a5 a6 a7 hix
          go_wp2
          go_roundg (l.length - (j + 1))
          case measure => omega
          case rel => exact ⟨j + 1, Lq1.2, Lq2.2, by omega, rfl, by rw [show ((j + 1 : Nat) : Int) = (j : Int) + 1 by omega], HT4.out, HQ.out.1, HQ.out.2⟩
        · obtain rfl : j = l.length := by omega
          have hzz : ¬ ((l.length : Int) < (l.length : Int)) := by omega
          obtain rfl : L1 = L2 := got_same hk hG1 hG2 HT1.out.h1.ord HT1.out.h2.ord
          clear hG1 hG2
          have q := all_calls HT1.out.h1 (by omega)
          have hlen := HT1.out.h1.len
          go_wp2_with fail
          refine q.mono ?_
          rintro e V5 ⟨v5, rfl, hrow, _, m5⟩
          obtain ⟨A5, c5, rfl, hc5, hC5⟩ := all_row hrow
          have HT5 := Lib.hid (And.intro (HT1.out.mod m5) (And.intro hC5 hc5))
          clear q hrow m5 hC5 hc5
          go_wp2_with fail
          go_loopg [82] L1.length (fun kk i wr => ∃ (j : Nat), j ≤ L1.length ∧ kk = L1.length - j ∧ i = .int .i64 j ∧ Mod V5 wr [])
          case atStart => exact ⟨0, Nat.zero_le _, rfl, rfl, Mod.refl _ _⟩
          case round =>
            obtain ⟨j, hj, rfl, rfl, hM5⟩ := hrel
            by_cases hjl : j < L1.length
            · have hjz : (j : Int) < (L1.length : Int) := by omega
              have hw : IntKind.i64.wrap ((j : Int) + 1) = ((j + 1 : Nat) : Int) := by rw [i64w (by omega) (by omega)]; omega
              rcases j with _ | j
              · go_upto_region 25 with fail
                go_quiet (fail)
                go_wp2
                go_roundg (L1.length - (0 + 1))
                case measure => omega
                case rel => exact ⟨0 + 1, by omega, rfl, by first | rfl | simp, hM5.drewN _⟩
              · have hC := Kd.C_below HT5.out.2.1 (Mod.bel hM5)
                obtain ⟨ad, hA5, a0, a1, _⟩ := vd_cells hC j (by omega)
                obtain ⟨ad', hA5', d0, d1, _⟩ := vd_cells hC (j + 1) hjl
                subst hA5
                obtain rfl := Option.some.inj hA5'
                have hoj := List.pairwise_iff_getElem.1 HT1.out.h1.ord j (j + 1) (by omega) hjl (by omega)
                unfold kcV knV at hoj
                have HM5 := Lib.hid hM5
                clear hC hM5 hA5'
                have hj1 : (j : Int) < (L1.length : Int) := by omega
                generalize L1[j].f0.f0 = x0 at *
                generalize L1[j].f0.f1 = x1 at *
                generalize L1[j + 1].f0.f0 = y0 at *
                generalize L1[j + 1].f0.f1 = y1 at *
                by_cases hlt : x0 < y0
                · have z1 : ¬ (y0 < x0) := by omega
                  have z2 : (y0 == x0) = false := by have : ¬ y0 = x0 := by omega
                                                     simpa using this
                  have z3 : ¬ (y0 = x0) := by omega
                  clear hoj
                  go_upto_region 25 with fail
                  go_quiet (fail)
                  go_wp2
                  go_roundg (L1.length - (j + 1 + 1))
                  case measure => omega
                  case rel => exact ⟨j + 1 + 1, by omega, rfl, by rw [show ((j + 1 + 1 : Nat) : Int) = (((j + 1 : Nat) : Int)) + 1 by omega]; first | rfl | (simp; done), HM5.out.drewN _⟩
                · obtain ⟨rfl, h1⟩ : x0 = y0 ∧ x1 < y1 := by omega
                  have z1 : ¬ (y1 ≤ x1) := by omega
                  clear hoj hlt
                  go_upto_region 25 with fail
                  go_quiet (fail)
                  go_wp2
                  go_roundg (L1.length - (j + 1 + 1))
                  case measure => omega
                  case rel => exact ⟨j + 1 + 1, by omega, rfl, by rw [show ((j + 1 + 1 : Nat) : Int) = (((j + 1 : Nat) : Int)) + 1 by omega]; first | rfl | (simp; done), HM5.out.drewN _⟩
            · obtain rfl : j = L1.length := by omega
              have hzz : ¬ ((L1.length : Int) < (L1.length : Int)) := by omega
              have HT6 := Lib.hid (HT5.out.1.mod hM5)
              have q := all_calls HT6.out.h2 (by omega)
              have HX := Lib.hid (And.intro (Kd.C_below HT5.out.2.1 (Mod.bel hM5)) HT5.out.2.2)
              clear hM5
              go_wp2_with fail
              refine q.mono ?_
              rintro e V6 ⟨v6, rfl, hrow, _, m6⟩
              obtain ⟨A6, c6, rfl, hc6, hC6⟩ := all_row hrow
              have q := dovecoteref11_Same.calls (L1.length + 1) A5 c5 L1 A6 c6 L1 true V6 (Kd.C_below HX.out.1 (Mod.bel m6)) HX.out.2 hC6 hc6 (same_self L1 (by omega))
              have hM := (HT6.out.mod m6).hM
              clear hrow m6 hC6 hc6
              go_wp2_with fail
              refine q.mono ?_
              rintro e V7 ⟨rfl, d7⟩
              go_wp2
              go_ret
              exact ⟨rfl, hM.trans (Mod.of_drawn d7) (fun _ hk => by cases hk)⟩
end Go.Proofs.Ytdelbidaclddgaa.Ver
