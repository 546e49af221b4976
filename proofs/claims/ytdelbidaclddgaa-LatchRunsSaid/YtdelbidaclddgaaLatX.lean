/- The layer 'latch': LatX; a seat's own text, no law of its own. -/
import Derived.Test.YtdelbidaclddgaaLatV
import Derived.Deep.LoopGhost
import Derived.Deep.Cut
import Derived.Deep.CutRange
import Derived.Deep.CutBlock
import Derived.Lib.Hide
import Derived.StillTailTactics
import Derived.Deep.QuietTactic
import Derived.BigQuiet
import Derived.Outline
import Derived.Deep.RegionWith
import Derived.Deep.RegionHeld3
import Derived.WalkLawsBesides
namespace Go.Proofs.Ytdelbidaclddgaa.Lat
open Go.RowKit Go.Proofs.YtdelbidaclddgaaW.PrintWords Go.Proofs.Ytdelbidaclddgaa.MLatchRuns Go.Proofs.YtdelbidaclddgaaW.PrintLast
set_option linter.unusedVariables false
set_option linter.unusedSimpArgs false
/-! the reference's First -/
attribute [local go_sem high] eqA32 eqA35
theorem rhas_l0 (l : List S32) (c n : Int) (hl : l.length ≤ 4611686018427387904) : ∀ (d j : Nat), j + d = l.length → dovecoteref10_among.l0 (d + 1) l (j : Int) c n = some (hasB (l.drop j) c n)
  | 0, j, h => by
    unfold dovecoteref10_among.l0
    rw [if_neg (by omega), show l.drop j = [] from List.drop_eq_nil_of_le (by omega)]
    rfl
  | d + 1, j, h => by
    have hj : j < l.length := by omega
    have hrd : rd_T32 l (j : Int) = l[j] := by
      unfold rd_T32
      rw [show ((j : Int)).toNat = j from by omega]
      exact (List.getElem_eq_getD _).symm
    have hw : wrap64 ((j : Int) + 1) = ((j + 1 : Nat) : Int) := by unfold wrap64; omega
    have ih := rhas_l0 l c n hl d (j + 1) (by omega)
    rw [List.drop_eq_getElem_cons hj]
    unfold dovecoteref10_among.l0
    rw [if_pos (by omega), if_pos (by omega), hrd, hw, ih]
    unfold hasB
    rw [List.any_cons]
    by_cases e1 : l[j].f0 = c
    · by_cases e2 : l[j].f1 = n
      · simp [e1, e2]
      · have e3 : ¬ n = l[j].f1 := fun e => e2 e.symm
        simp [e1, e2, e3]
    · have e3 : ¬ c = l[j].f0 := fun e => e1 e.symm
      simp [e1, e3]
theorem rhas_calls (A : Option Addr) (k : Nat) (l : List S32) (c n : Int) (w : World) (hr : Kd.C k32 w A l.length l) (hk : l.length ≤ k) (hl : l.length ≤ 4611686018427387904) :
    Calls Try.prog 74 #[.slice A l.length k, .agg #[.int .u32 c, .int .u32 n]] w fun e w' => e = .returned (.bool (hasB l c n)) ∧ Mod w w' [] :=
  (dovecoteref10_among.calls (l.length + 1) A k l c n _ w hr hk (rhas_l0 l c n hl l.length 0 (by omega))).mono fun e w' ⟨h1, h2⟩ => ⟨h1, Mod.of_below h2⟩
theorem inR_spell (lo hi k : ByteArray) : inR lo hi k = (!Op.bytesLess k.toList lo.toList && (hi.toList.isEmpty || Op.bytesLess k.toList hi.toList)) := by
  unfold inR
  rw [Bool.eq_iff_iff]
  simp only [decide_eq_true_eq, Bool.and_eq_true, Bool.not_eq_true', Bool.or_eq_true, List.isEmpty_iff]
  refine and_congr ⟨fun h => ?_, fun h => ?_⟩ Iff.rfl
  · rcases h with h | h
    · exact lt_as h
    · cases e : Op.bytesLess k.toList lo.toList
      · rfl
      · exact absurd h.symm (lt_ne (show Tree.lt k lo = true from e))
  · by_cases e : lo.toList = k.toList
    · exact .inr e
    · exact .inl (lt_tot (show Tree.lt k lo = false from h) (fun e2 => e e2.symm))
def stF (lo hi : ByteArray) (t0 t1 : Int) (but : List S32) (x : S65) : Bool := (inRI lo hi x && !lessB t0 t1 x.f2.f0 x.f2.f1) && !hasB but x.f0.f0 x.f0.f1
theorem firstI_F (lo hi : ByteArray) (t0 t1 : Int) (but : List S32) (L : List S65) : firstI lo hi t0 t1 but L = L.find? (stF lo hi t0 t1 but) := by
  unfold firstI rngI
  rw [List.find?_filter]
  congr 1
  funext x
  unfold stF standsB
  cases inRI lo hi x <;> cases lessB t0 t1 x.f2.f0 x.f2.f1 <;> cases hasB but x.f0.f0 x.f0.f1 <;> rfl
structure Fy (W V : World) (g q : Nat) (L : List S65) (fp : List Nat) (t0 t1 : Int) (A : Option Addr) (but : List S32) : Prop where
  hM : Mod W V []
  hT : RT V g L fp
  hS : SB V q ⟨t0, t1⟩
  hI : IB V (q + 1) z65
  hK : Kd.C k32 V A but.length but
  hq : W.heap.size ≤ q
theorem Fy.mod {W V V' : World} {g q : Nat} {L : List S65} {fp : List Nat} {t0 t1 : Int} {A : Option Addr} {but : List S32} (h : Fy W V g q L fp t0 t1 A but) (mm : Mod V V' []) : Fy W V' g q L fp t0 t1 A but :=
  ⟨h.hM.trans mm (fun _ hk => by cases hk), h.hT.mod0 mm, h.hS.mod mm (by simp), h.hI.mod mm (by simp), Kd.C_below h.hK mm.bel, h.hq⟩
theorem Fy.made {W : World} {g : Nat} {L : List S65} {fp : List Nat} {A : Option Addr} {but : List S32} (h : RT W g L fp) (t0 t1 : Int) (hr : Kd.C k32 W A but.length but) : Fy W ((W.alloc (.cells #[.int .u64 t0, .int .u32 t1] 35)).alloc (.cells #[.int .u32 z65.f0.f0, .int .u32 z65.f0.f1, .int .u64 z65.f1.f0, .int .u32 z65.f1.f1, .int .u64 z65.f2.f0, .int .u32 z65.f2.f1, .string z65.f3, .string z65.f4.f0, .string z65.f4.f1, .bool z65.f4.f2] 65)) g W.heap.size L fp t0 t1 A but := by
  have m0 := (Mod.refl W []).alloc (.cells #[.int .u64 t0, .int .u32 t1] 35)
  have m1 := (Mod.refl (W.alloc (.cells #[.int .u64 t0, .int .u32 t1] 35)) []).alloc (.cells #[.int .u32 z65.f0.f0, .int .u32 z65.f0.f1, .int .u64 z65.f1.f0, .int .u32 z65.f1.f1, .int .u64 z65.f2.f0, .int .u32 z65.f2.f1, .string z65.f3, .string z65.f4.f0, .string z65.f4.f1, .bool z65.f4.f2] 65)
  have s1 : (W.alloc (.cells #[.int .u64 t0, .int .u32 t1] 35)).heap.size = W.heap.size + 1 := by simp
  have n0 : SB (W.alloc (.cells #[.int .u64 t0, .int .u32 t1] 35)) W.heap.size ⟨t0, t1⟩ := blk_new W _
  have i0 : IB ((W.alloc (.cells #[.int .u64 t0, .int .u32 t1] 35)).alloc (.cells #[.int .u32 z65.f0.f0, .int .u32 z65.f0.f1, .int .u64 z65.f1.f0, .int .u32 z65.f1.f1, .int .u64 z65.f2.f0, .int .u32 z65.f2.f1, .string z65.f3, .string z65.f4.f0, .string z65.f4.f1, .bool z65.f4.f2] 65)) (W.heap.size + 1) z65 := s1 ▸ blk_new _ _
  have mm := m0.trans m1 (fun _ hk => by cases hk)
  exact ⟨mm, h.mod0 mm, n0.mod m1 (by simp), i0, Kd.C_below hr mm.bel, Nat.le_refl _⟩
set_option maxHeartbeats 4000000 in
set_option maxRecDepth 100000 in
theorem rfirst_calls {W : World} {g : Nat} {L : List S65} {fp : List Nat} (h : RT W g L fp) (hl : L.length ≤ 1000000) (lo hi : ByteArray) (t0 t1 : Int) (A : Option Addr) (k : Nat) (but : List S32) (hr : Kd.C k32 W A but.length but) (hc : but.length ≤ k) (hbl : but.length ≤ 4611686018427387904) {res : Option S65} (hf : firstI lo hi t0 t1 but L = res) :
    Calls Try.prog 38 #[.pointer (some ⟨g, 0, none⟩), .string lo, .string hi, .agg #[.int .u64 t0, .int .u32 t1], .slice A but.length k] W fun e W' => e = ofEnd res ∧ Mod W W' [] := by
  have H1 := Lib.hid (Fy.made h t0 t1 hr)
  simp only [z65, z32, z35, z63] at H1
  have HB := Lib.hid (And.intro hc hbl)
  have hs1 : (W.alloc (.cells #[.int .u64 t0, .int .u32 t1] 35)).heap.size = W.heap.size + 1 := by simp
  clear h hr hc hbl
  rw [firstI_F] at hf
  have HF0 := Lib.hid hf
  clear hf
  go_enter Try.func38, Try.ntmps38
  go_upto_region 1 with fail
  clear hs1
  generalize (W.alloc _).alloc _ = W1 at *
  generalize W.heap.size = q at *
  go_wp2_with fail
  go_loopg [12] L.length (fun kk i wr => ∃ j : Nat, j ≤ L.length ∧ kk = L.length - j ∧ i = .int .i64 j ∧ (L.drop j).find? (stF lo hi t0 t1 but) = res ∧ Mod W1 wr [])
  case atStart => exact ⟨0, Nat.zero_le _, rfl, rfl, HF0.out, Mod.refl _ _⟩
  case round =>
    obtain ⟨j, hj, rfl, rfl, hf, hM⟩ := hrel
    have H2 := Lib.hid (H1.out.mod hM)
    have M2 := Lib.hid hM
    clear hM
    obtain ⟨A0, k0, c0, hk0, hC⟩ := H2.out.hT.get
    by_cases hjl : j < L.length
    · have hjz : (j : Int) < (L.length : Int) := by omega
      have hw : IntKind.i64.wrap ((j : Int) + 1) = ((j + 1 : Nat) : Int) := by rw [i64w (by omega) (by omega)]; omega
      obtain ⟨ad, rfl, a0, a1, a2, a3, a4, a5, a6, a7, a8, a9⟩ := it_cells hC j hjl
      have hr2 := drop_find hjl hf
      obtain ⟨y, hy⟩ : ∃ y, L[j] = y := ⟨_, rfl⟩
      rw [hy] at a0 a1 a2 a3 a4 a5 a6 a7 a8 a9 hr2
      have HN := Lib.hid hr2
      clear hy hf hr2 hC
      go_upto_region 5 with fail
      have x6 : IB (wr.alloc (.cells #[.int .u32 y.f0.f0, .int .u32 y.f0.f1, .int .u64 y.f1.f0, .int .u32 y.f1.f1, .int .u64 y.f2.f0, .int .u32 y.f2.f1, .string y.f3, .string y.f4.f0, .string y.f4.f1, .bool y.f4.f2] 65)) wr.heap.size y := blk_new wr _
      have H3 := Lib.hid (H2.out.mod ((Mod.refl wr []).alloc (.cells #[.int .u32 y.f0.f0, .int .u32 y.f0.f1, .int .u64 y.f1.f0, .int .u32 y.f1.f1, .int .u64 y.f2.f0, .int .u32 y.f2.f1, .string y.f3, .string y.f4.f0, .string y.f4.f1, .bool y.f4.f2] 65)))
      have M3 := Lib.hid (M2.out.trans ((Mod.refl wr []).alloc (.cells #[.int .u32 y.f0.f0, .int .u32 y.f0.f1, .int .u64 y.f1.f0, .int .u32 y.f1.f1, .int .u64 y.f2.f0, .int .u32 y.f2.f1, .string y.f3, .string y.f4.f0, .string y.f4.f1, .bool y.f4.f2] 65)) (by simp))
      clear a0 a1 a2 a3 a4 a5 a6 a7 a8 a9 c0 H2 M2
      generalize wr.alloc _ = W3 at *
      generalize wr.heap.size = q3 at *
      have hsp := inR_spell lo hi y.f4.f0
      obtain ⟨b1, hb1⟩ : ∃ b1, Op.bytesLess y.f4.f0.toList lo.toList = b1 := ⟨_, rfl⟩
      obtain ⟨b2, hb2⟩ : ∃ b2, Op.bytesLess y.f4.f0.toList hi.toList = b2 := ⟨_, rfl⟩
      rw [hb1, hb2] at hsp
      have X3 := Lib.hid x6
      obtain ⟨x0, x1, x2, x3, x4, x5, x6, x7, x8, x9⟩ := x6.all
      cases b1 with
      | true =>
        have HS : Hid ((L.drop (j + 1)).find? (stF lo hi t0 t1 but) = res) := Lib.hid (by
          have h := HN.out
          rw [if_neg (by unfold stF inRI; rw [hsp]; simp)] at h
          exact h)
        clear hsp hb2
        go_wp2
        go_roundg (L.length - (j + 1))
        case measure => omega
        case rel => exact ⟨j + 1, by omega, rfl, by rw [show ((j + 1 : Nat) : Int) = (j : Int) + 1 by omega], HS.out, M3.out⟩
      | false =>
        obtain ⟨s0, s1⟩ := H3.out.hS.all
        simp only at s0 s1
        have HSP := Lib.hid (show inRI lo hi y = (hi.toList.isEmpty || b2) from hsp)
        clear hsp
        by_cases hz : hi.toList = []
        case' pos =>
          have ee : hi.toList.isEmpty = true := by rw [hz]; rfl
          have HI : Hid (inRI lo hi y = true) := Lib.hid (by rw [HSP.out, ee]; rfl)
          clear hb2
          go_wp2_with fail
          clear ee hz
        case' neg =>
          have ee : hi.toList.isEmpty = false := by cases e : hi.toList with | nil => exact absurd e hz | cons a b => rfl
          cases b2
          · have HS : Hid ((L.drop (j + 1)).find? (stF lo hi t0 t1 but) = res) := Lib.hid (by
              have h := HN.out
              rw [if_neg (by unfold stF; rw [HSP.out, ee]; simp)] at h
              exact h)
            go_wp2
            go_roundg (L.length - (j + 1))
            case measure => omega
            case rel => exact ⟨j + 1, by omega, rfl, by rw [show ((j + 1 : Nat) : Int) = (j : Int) + 1 by omega], HS.out, M3.out⟩
          have HI : Hid (inRI lo hi y = true) := Lib.hid (by rw [HSP.out, ee]; rfl)
          go_wp2_with fail
          clear ee hz hb2
        all_goals
          clear hb1 HSP
          obtain ⟨r1, h1⟩ : ∃ r1, lessB t0 t1 y.f2.f0 y.f2.f1 = r1 := ⟨_, rfl⟩
          have H1r := Lib.hid h1
          clear h1
          go_wp2_with fail
          refine (rless_calls _ _ _ _ _).mono ?_
          rw [H1r.out]
          rintro e V4 ⟨rfl, m4⟩
          have H4 := Lib.hid (H3.out.mod m4)
          have M4 := Lib.hid (M3.out.trans m4 (by simp))
          have x4 := X3.out.mod m4 (by simp)
          have X4 := Lib.hid x4
          clear x0 x1 x2 x3 x4 x5 x6 x7 x8 x9 s0 s1 H3 M3 X3 m4
          obtain ⟨x0, x1, x2, x3, x4, x5, x6, x7, x8, x9⟩ := X4.out.all
          cases r1 with
          | true =>
            have HS : Hid ((L.drop (j + 1)).find? (stF lo hi t0 t1 but) = res) := Lib.hid (by
              have h := HN.out
              rw [if_neg (by unfold stF; rw [HI.out, H1r.out]; simp)] at h
              exact h)
            go_wp2
            go_roundg (L.length - (j + 1))
            case measure => omega
            case rel => exact ⟨j + 1, by omega, rfl, by rw [show ((j + 1 : Nat) : Int) = (j : Int) + 1 by omega], HS.out, M4.out⟩
          | false =>
            obtain ⟨r3, h3⟩ : ∃ r3, hasB but y.f0.f0 y.f0.f1 = r3 := ⟨_, rfl⟩
            have H3r := Lib.hid h3
            clear h3
            go_wp2_with fail
            refine (rhas_calls _ _ _ y.f0.f0 y.f0.f1 V4 H4.out.hK HB.out.1 HB.out.2).mono ?_
            rw [H3r.out]
            rintro e V5 ⟨rfl, m5⟩
            have H5 := Lib.hid (H4.out.mod m5)
            have M5 := Lib.hid (M4.out.trans m5 (by simp))
            have X5 := Lib.hid (X4.out.mod m5 (by simp))
            clear x0 x1 x2 x3 x4 x5 x6 x7 x8 x9 H4 M4 X4 m5
            cases r3 with
            | true =>
              have HS : Hid ((L.drop (j + 1)).find? (stF lo hi t0 t1 but) = res) := Lib.hid (by
                have h := HN.out
                rw [if_neg (by unfold stF; rw [H3r.out]; simp)] at h
                exact h)
              go_wp2
              go_roundg (L.length - (j + 1))
              case measure => omega
              case rel => exact ⟨j + 1, by omega, rfl, by rw [show ((j + 1 : Nat) : Int) = (j : Int) + 1 by omega], HS.out, M5.out⟩
            | false =>
              have HS : Hid (some y = res) := Lib.hid (by
                have h := HN.out
                rw [if_pos (by unfold stF; rw [HI.out, H1r.out, H3r.out]; rfl)] at h
                exact h)
              obtain ⟨x0, x1, x2, x3, x4, x5, x6, x7, x8, x9⟩ := X5.out.all
              obtain ⟨d0, d1, d2, d3, d4, d5, d6, d7, d8, d9⟩ := H5.out.hI.all
              simp only [z65, z32, z35, z63] at d0 d1 d2 d3 d4 d5 d6 d7 d8 d9
              have fz := blk_frozen H5.out.hI
              go_wp2
              have hp := H5.out.hI.put y
              have hm := H5.out.hM.putIB (.inr (Nat.le_succ_of_le H5.out.hq)) y
              unfold putIB at hp hm
              unfold IB at hp
              refine bodyPost_ret (results_ct rfl _ _ (q + 1) 65 _ (0, 0) _ rfl hp Try.underlying65 rfl (by kernel_rfl)) rfl ?_
              rw [← HS.out]
              exact ⟨rfl, hm⟩
    · obtain rfl : j = L.length := by omega
      have hjz : ¬ (L.length : Int) < (L.length : Int) := by omega
      rw [List.drop_length] at hf
      have HR := Lib.hid hf
      obtain ⟨d0, d1, d2, d3, d4, d5, d6, d7, d8, d9⟩ := H2.out.hI.all
      simp only [z65, z32, z35, z63] at d0 d1 d2 d3 d4 d5 d6 d7 d8 d9
      have fz := blk_frozen H2.out.hI
      clear hf hC
      go_wp2
      have hp := H2.out.hI.put z65
      have hm := H2.out.hM.putIB (.inr (Nat.le_succ_of_le H2.out.hq)) z65
      unfold putIB at hp hm
      unfold IB at hp
      refine bodyPost_ret (results_ct rfl _ _ (q + 1) 65 _ (0, 0) _ rfl hp Try.underlying65 rfl (by kernel_rfl)) rfl ?_
      rw [← HR.out]
      exact ⟨rfl, hm⟩
/-! the reference's Right -/
theorem rkey_calls (k : ByteArray) (w : World) : Calls Try.prog 71 #[.string k] w fun e w' => e = .returned (.bool (keyB k)) ∧ Mod w w' [] :=
  (dovecoteref09_Key.calls k _ w (by
    unfold dovecoteref09_Key.f keyB
    by_cases h : (k.size : Int) ≥ 1
    · rw [if_pos h, decide_eq_true (show 1 ≤ k.size by omega), Bool.true_and]
      congr 1
      rw [decide_eq_decide]; omega
    · rw [if_neg h, decide_eq_false (show ¬ 1 ≤ k.size by omega), Bool.false_and])).mono fun e w' ⟨h1, h2⟩ => ⟨h1, Mod.of_drawn h2⟩
structure Rq (l : List S63) (j : Nat) : Prop where
  ok : ∀ x ∈ l.take j, okW x = true
  nd : ((l.take j).map keyD).Nodup
theorem Rq.next {l : List S63} {j : Nat} (h : Rq l j) (hj : j < l.length) (h1 : okW l[j] = true) (h3 : ∀ m (hm : m < l.length), m < j → l[m].f0.toList ≠ l[j].f0.toList) : Rq l (j + 1) := by
  refine ⟨fun x hx => ?_, ?_⟩
  · rw [List.take_succ_eq_append_getElem hj] at hx
    rcases List.mem_append.1 hx with hx | hx
    · exact h.ok x hx
    · simp at hx
      subst hx
      exact h1
  · rw [List.take_succ_eq_append_getElem hj, List.map_append]
    refine List.nodup_append.2 ⟨h.nd, by simp, fun a ha b hb => ?_⟩
    simp at hb
    subst hb
    obtain ⟨x, hx, rfl⟩ := List.mem_map.1 ha
    obtain ⟨m, hm, rfl⟩ := List.mem_iff_getElem.1 hx
    have hm' := hm
    rw [List.length_take] at hm'
    rw [List.getElem_take]
    intro e
    refine h3 m (by omega) (by omega) ?_
    unfold keyD at e
    rw [ByteArray.toList_eq, ByteArray.toList_eq]
    exact e
theorem Rq.all {l : List S63} (h : Rq l l.length) : rightW l = (decide (1 ≤ l.length) && decide (l.length ≤ 16)) := by
  have h1 := h.ok
  have h2 := h.nd
  rw [List.take_length] at h1 h2
  unfold rightW
  rw [decide_eq_true h2, List.all_eq_true.2 h1, Bool.and_true, Bool.and_true]
  rfl
theorem right_twice {l : List S63} {i j : Nat} (hj : j < l.length) (hij : i < j) (h : l[i].f0.toList = l[j].f0.toList) : rightW l = false := by
  refine right_bad hj (.inr (.inr ?_))
  refine List.mem_map.2 ⟨l[i], List.mem_take_iff_getElem.2 ⟨i, by omega, rfl⟩, ?_⟩
  unfold keyD
  rw [← ByteArray.toList_eq, ← ByteArray.toList_eq]
  exact h
set_option maxHeartbeats 4000000 in
set_option maxRecDepth 100000 in
theorem rright_calls {w : World} {A : Option Addr} {cap : Nat} {l : List S63} (hr : Kd.C k63 w A l.length l) (hc : l.length ≤ cap) (hl : l.length ≤ 1000000) {r : Bool} (he : rightW l = r) :
    Calls Try.prog 41 #[.slice A l.length cap] w fun e w' => e = .returned (.bool r) ∧ Mod w w' [] := by
  have HC := Lib.hid hr
  have HE := Lib.hid he
  clear hr he
  go_enter Try.func41, Try.ntmps41
  go_wp2_with fail
  go_loopg [3] l.length (fun kk i wr => ∃ j : Nat, j ≤ l.length ∧ kk = l.length - j ∧ i = .int .i64 j ∧ Rq l j ∧ Mod w wr [])
  case atStart => exact ⟨0, Nat.zero_le _, rfl, rfl, ⟨fun x hx => (by simp at hx), by simp⟩, Mod.refl _ _⟩
  case round =>
    obtain ⟨j, hj, rfl, rfl, hq, hM⟩ := hrel
    have HQ := Lib.hid hq
    have M1 := Lib.hid hM
    have hC := Kd.C_below HC.out hM.bel
    clear hq hM
    by_cases hjl : j < l.length
    · have hjz : (j : Int) < (l.length : Int) := by omega
      have hw : IntKind.i64.wrap ((j : Int) + 1) = ((j + 1 : Nat) : Int) := by rw [i64w (by omega) (by omega)]; omega
      obtain ⟨ad, rfl, a0, a1, a2⟩ := wr_cells hC j hjl
      obtain ⟨y, hy⟩ : ∃ y, l[j] = y := ⟨_, rfl⟩
      rw [hy] at a0 a1 a2
      have HY := Lib.hid hy
      clear hy
      have hok : okW y = (keyB y.f0 && decide (y.f1.size ≤ 256) && !(y.f2 && decide (y.f1.toList ≠ []))) := rfl
      obtain ⟨r1, h1⟩ : ∃ r1, keyB y.f0 = r1 := ⟨_, rfl⟩
      rw [h1] at hok
      have H1 := Lib.hid h1
      have HO := Lib.hid hok
      have HB : Hid (okW y = false → rightW l = false) := Lib.hid fun e => right_bad hjl (.inl (by rw [HY.out]; exact e))
      clear h1 hok hC
      go_wp2_with fail
      refine (rkey_calls _ _).mono ?_
      rw [H1.out]
      rintro e W2 ⟨rfl, m2⟩
      have M2 := Lib.hid (M1.out.trans m2 (by simp))
      have b0 := m2.cellA a0 (by simp)
      have b1 := m2.cellA a1 (by simp)
      have b2 := m2.cellA a2 (by simp)
      clear a0 a1 a2 M1 m2
      have hno : Hid (okW y = false → false = r) := Lib.hid fun e => by rw [← HB.out e]; exact HE.out
      cases r1
      · have HN := Lib.hid (hno.out (by rw [HO.out]; rfl))
        go_wp2
        go_ret
        rw [← HN.out]
        exact ⟨rfl, M2.out⟩
      by_cases hs : 256 < y.f1.size
      · have HN := Lib.hid (hno.out (by rw [HO.out, decide_eq_false (by omega)]; rfl))
        have hsz : (256 : Int) < (y.f1.size : Int) := by omega
        go_wp2
        go_ret
        rw [← HN.out]
        exact ⟨rfl, M2.out⟩
      have hsz : ¬ ((256 : Int) < (y.f1.size : Int)) := by omega
      cases hd : y.f2
      case' true =>
        by_cases hv : y.f1.toList = []
        case' neg =>
          have HN := Lib.hid (hno.out (by rw [HO.out, decide_eq_true (p := _ ≤ _) (by omega), hd, decide_eq_true hv]; rfl))
          have hv2 : y.f1.toList.isEmpty = false := by cases e : y.f1.toList with | nil => exact absurd e hv | cons a b => rfl
          rw [hd] at b2
          go_wp2
          go_ret
          rw [← HN.out]
          exact ⟨rfl, M2.out⟩
        have HK : Hid (okW y = true) := Lib.hid (by rw [HO.out, decide_eq_true (p := _ ≤ _) (by omega), hd, decide_eq_false (by simpa using hv)]; rfl)
        rw [hd] at b2
        go_upto_region 6 with fail
        clear hd hv hsz
      case' false =>
        have HK : Hid (okW y = true) := Lib.hid (by rw [HO.out, decide_eq_true (p := _ ≤ _) (by omega), hd]; rfl)
        rw [hd] at b2
        go_upto_region 6 with fail
        clear hd hsz
      all_goals
        clear hs b1 b2 b0 hno HB HO H1
        obtain ⟨Wo, hWo⟩ : ∃ Wo, Wo = W2 := ⟨_, rfl⟩
        rw [← hWo] at M2 ⊢
        clear hWo
        go_wp2_with fail
        go_loopg [4] j (fun kk i wq => ∃ m : Nat, m ≤ j ∧ kk = j - m ∧ i = .int .i64 m ∧ (∀ x (hx : x < l.length), x < m → l[x].f0.toList ≠ y.f0.toList) ∧ Mod Wo wq [])
        case atStart => exact ⟨0, Nat.zero_le _, rfl, rfl, fun x _ hx => by omega, Mod.refl _ _⟩
        case round =>
          obtain ⟨m, hm, rfl, rfl, hne, hM⟩ := hrel
          have M3 := Lib.hid (M2.out.trans hM (by simp))
          have M4 := Lib.hid hM
          have hC := Kd.C_below HC.out M3.out.bel
          have HNe := Lib.hid hne
          clear hM hne
          by_cases hmj : m < j
          · have hmz : (m : Int) < (j : Int) := by omega
            have hml : (m : Int) < (l.length : Int) := by omega
            have hwm : IntKind.i64.wrap ((m : Int) + 1) = ((m + 1 : Nat) : Int) := by rw [i64w (by omega) (by omega)]; omega
            obtain ⟨ad1, ea, c0, -, -⟩ := wr_cells hC m (by omega)
            obtain ⟨ad2, eb, d0, -, -⟩ := wr_cells hC j hjl
            injection ea with ea
            injection eb with eb
            subst ea eb
            rw [HY.out] at d0
            obtain ⟨x, hx⟩ : ∃ x, l[m].f0 = x := ⟨_, rfl⟩
            rw [hx] at c0
            have HX := Lib.hid hx
            clear hx hC
            by_cases hk : x.toList = y.f0.toList
            · have hkb : (x.toList == y.f0.toList) = true := by simpa using hk
              have HN : Hid (false = r) := Lib.hid (by rw [← HE.out, right_twice hjl hmj (by rw [HX.out, HY.out]; exact hk)])
              clear hk
              go_upto_region 9 with fail
              go_quiet (fail)
              go_wp2
              go_ret
              rw [← HN.out]
              exact ⟨rfl, M3.out.drewN _⟩
            · have hkb : (x.toList == y.f0.toList) = false := by simpa using hk
              have HN : Hid (∀ z (hx : z < l.length), z < m + 1 → l[z].f0.toList ≠ y.f0.toList) := Lib.hid fun z hz hzm => by
                by_cases e : z = m
                · subst e; rw [HX.out]; exact hk
                · exact HNe.out z hz (by omega)
              clear hk
              go_upto_region 9 with fail
              go_quiet (fail)
              go_wp2
              go_roundg (j - (m + 1))
              case measure => omega
              case rel => exact ⟨m + 1, by omega, rfl, by rw [show ((m + 1 : Nat) : Int) = (m : Int) + 1 by omega], HN.out, M4.out.drewN _⟩
          · obtain rfl : m = j := by omega
            have hmz : ¬ (m : Int) < (m : Int) := by omega
            have HN := Lib.hid (HQ.out.next hjl (by rw [HY.out]; exact HK.out) (fun z hz hzm => by rw [HY.out]; exact HNe.out z hz hzm))
            clear hC
            go_wp2
            go_roundg (l.length - (m + 1))
            case measure => omega
            case rel => exact ⟨m + 1, by omega, rfl, by rw [show ((m + 1 : Nat) : Int) = (m : Int) + 1 by omega], HN.out, M3.out⟩
    · obtain rfl : j = l.length := by omega
      have hjz : ¬ (l.length : Int) < (l.length : Int) := by omega
      have HN : Hid ((decide (1 ≤ l.length) && decide (l.length ≤ 16)) = r) := Lib.hid (by rw [← HQ.out.all]; exact HE.out)
      clear hC
      by_cases h1 : 1 ≤ l.length
      · have h1z : (1 : Int) ≤ (l.length : Int) := by omega
        have HN2 : Hid (decide (l.length ≤ 16) = r) := Lib.hid (by have h := HN.out; rw [decide_eq_true h1, Bool.true_and] at h; exact h)
        go_wp2
        go_ret
        refine ⟨?_, M1.out⟩
        rw [← HN2.out]
        rw [show decide ((l.length : Int) ≤ 16) = decide (l.length ≤ 16) from decide_eq_decide.2 (by omega)]
        rfl
      · have h1z : ¬ (1 : Int) ≤ (l.length : Int) := by omega
        have HN2 : Hid (false = r) := Lib.hid (by have h := HN.out; rw [decide_eq_false h1, Bool.false_and] at h; exact h)
        go_wp2
        go_ret
        rw [← HN2.out]
        exact ⟨rfl, M1.out⟩
/-! the reference's Lay -/
attribute [local go_sem high] eqA32 eqA35 eqA63
structure Ry (W V : World) (g q : Nat) (L : List S65) (fp : List Nat) (c n : Int) (st mn : S35) (A : Option Addr) (l : List S63) : Prop where
  hM : Mod W V []
  hT : RT V g L fp
  hN : NB V q ⟨c, n⟩
  hS : SB V (q + 1) st
  hU : SB V (q + 2) mn
  hR : Kd.C k63 V A l.length l
  hq : W.heap.size ≤ q
  hl : ∀ y ∈ fp, y < W.heap.size
theorem Ry.mod {W V V' : World} {g q : Nat} {L : List S65} {fp : List Nat} {c n : Int} {st mn : S35} {A : Option Addr} {l : List S63} (h : Ry W V g q L fp c n st mn A l) (m : Mod V V' []) : Ry W V' g q L fp c n st mn A l :=
  ⟨h.hM.trans m (fun _ hk => by cases hk), h.hT.mod0 m, h.hN.mod m (by simp), h.hS.mod m (by simp), h.hU.mod m (by simp), Kd.C_below h.hR m.bel, h.hq, h.hl⟩
theorem Ry.made {W : World} {g : Nat} {L : List S65} {fp : List Nat} (h : RT W g L fp) (c n : Int) (st mn : S35) {A : Option Addr} {l : List S63} (hr : Kd.C k63 W A l.length l) : Ry W (((W.alloc (.cells #[.int .u32 c, .int .u32 n] 32)).alloc (.cells #[.int .u64 st.f0, .int .u32 st.f1] 35)).alloc (.cells #[.int .u64 mn.f0, .int .u32 mn.f1] 35)) g W.heap.size L fp c n st mn A l := by
  have m1 := ((Mod.refl W []).alloc (.cells #[.int .u32 c, .int .u32 n] 32))
  have m2 := ((Mod.refl (W.alloc (.cells #[.int .u32 c, .int .u32 n] 32)) []).alloc (.cells #[.int .u64 st.f0, .int .u32 st.f1] 35))
  have m3 := ((Mod.refl ((W.alloc (.cells #[.int .u32 c, .int .u32 n] 32)).alloc (.cells #[.int .u64 st.f0, .int .u32 st.f1] 35)) []).alloc (.cells #[.int .u64 mn.f0, .int .u32 mn.f1] 35))
  have s1 : (W.alloc (.cells #[.int .u32 c, .int .u32 n] 32)).heap.size = W.heap.size + 1 := by simp
  have s2 : ((W.alloc (.cells #[.int .u32 c, .int .u32 n] 32)).alloc (.cells #[.int .u64 st.f0, .int .u32 st.f1] 35)).heap.size = W.heap.size + 2 := by simp
  have b1 : NB (W.alloc (.cells #[.int .u32 c, .int .u32 n] 32)) W.heap.size ⟨c, n⟩ := blk_new W _
  have b2 : SB ((W.alloc (.cells #[.int .u32 c, .int .u32 n] 32)).alloc (.cells #[.int .u64 st.f0, .int .u32 st.f1] 35)) (W.heap.size + 1) st := s1 ▸ blk_new _ _
  have b3 : SB (((W.alloc (.cells #[.int .u32 c, .int .u32 n] 32)).alloc (.cells #[.int .u64 st.f0, .int .u32 st.f1] 35)).alloc (.cells #[.int .u64 mn.f0, .int .u32 mn.f1] 35)) (W.heap.size + 2) mn := s2 ▸ blk_new _ _
  have m23 := m2.trans m3 (fun _ hk => by cases hk)
  have mm := m1.trans m23 (fun _ hk => by cases hk)
  exact ⟨mm, h.mod0 mm, b1.mod m23 (by simp), b2.mod m3 (by simp), b3, Kd.C_below hr mm.bel, Nat.le_refl _, h.lt⟩
theorem Ry.all {W V : World} {g q : Nat} {L : List S65} {fp : List Nat} {c n : Int} {st mn : S35} {A : Option Addr} {l : List S63} (h : Ry W V g q L fp c n st mn A l) : V.cell? ⟨q, 0, none⟩ = some (.int .u32 c) ∧ V.cell? ⟨q, 1, none⟩ = some (.int .u32 n) ∧ V.cell? ⟨q + 1, 0, none⟩ = some (.int .u64 st.f0) ∧ V.cell? ⟨q + 1, 1, none⟩ = some (.int .u32 st.f1) ∧ V.cell? ⟨q + 2, 0, none⟩ = some (.int .u64 mn.f0) ∧ V.cell? ⟨q + 2, 1, none⟩ = some (.int .u32 mn.f1) := by
  obtain ⟨a, b⟩ := h.hN.all
  obtain ⟨c, d⟩ := h.hS.all
  obtain ⟨e, f⟩ := h.hU.all
  exact ⟨a, b, c, d, e, f⟩
def RLayP (W : World) (g : Nat) (fp : List Nat) (r : Int) (L' : List S65) (e : Ending) (W' : World) : Prop := e = .returned (.int .i64 r) ∧ (∃ fp', RT W' g L' fp' ∧ ∀ y ∈ fp', y ∈ fp ∨ W.heap.size ≤ y) ∧ Mod W W' fp
theorem RLayP.same {W V : World} {g q : Nat} {L : List S65} {fp : List Nat} {c n : Int} {st mn : S35} {A : Option Addr} {l : List S63} (h : Ry W V g q L fp c n st mn A l) (r : Int) : RLayP W g fp r L (.returned (.int .i64 r)) V :=
  ⟨rfl, ⟨fp, h.hT, fun _ hy => .inl hy⟩, h.hM.mono (fun _ hk => by cases hk)⟩
theorem anyBusy_drop {L : List S65} {l : List S63} {j : Nat} (hj : j < l.length) : anyBusy L (l.drop j) = ((findI l[j].f0 L).isSome || anyBusy L (l.drop (j + 1))) := by
  rw [List.drop_eq_getElem_cons hj]
  rfl
set_option maxHeartbeats 4000000 in
set_option maxRecDepth 100000 in
theorem rlay_calls {W : World} {g : Nat} {L : List S65} {fp : List Nat} (h : RT W g L fp) (c n : Int) (st mn : S35) (pr : ByteArray) {A : Option Addr} {cap : Nat} {l : List S63} (hr : Kd.C k63 W A l.length l) (hc : l.length ≤ cap) (hl : l.length ≤ 1000000) (hA : ∀ ad, A = some ad → 0 < l.length → ad.block ∉ fp) (hLl : L.length ≤ 900000) {r : Int} {L' : List S65} (e1 : layB L c n st mn pr l = r) (e2 : layL L c n st mn pr l = L') :
    Calls Try.prog 34 #[.pointer (some ⟨g, 0, none⟩), .agg #[.int .u32 c, .int .u32 n], .agg #[.int .u64 st.f0, .int .u32 st.f1], .agg #[.int .u64 mn.f0, .int .u32 mn.f1], .string pr, .slice A l.length cap] W (RLayP W g fp r L') := by
  have H1 := Lib.hid (Ry.made h c n st mn hr)
  have HLt := Lib.hid (And.intro hc hA)
  unfold layL at e2
  rw [e1] at e2
  unfold layB at e1
  obtain ⟨r1, h1⟩ : ∃ r1, rightW l = r1 := ⟨_, rfl⟩
  obtain ⟨r2, h2⟩ : ∃ r2, rightB st.f0 st.f1 = r2 := ⟨_, rfl⟩
  obtain ⟨r3, h3⟩ : ∃ r3, rightB mn.f0 mn.f1 = r3 := ⟨_, rfl⟩
  obtain ⟨r4, h4⟩ : ∃ r4, keyB pr = r4 := ⟨_, rfl⟩
  rw [h1, h2, h3, h4] at e1
  have HX := Lib.hid (And.intro h1 (And.intro h2 (And.intro h3 h4)))
  have HE := Lib.hid (And.intro e1 e2)
  clear h hr hc hA h1 h2 h3 h4 e1 e2
  go_enter Try.func34, Try.ntmps34
  go_upto_region 1 with fail
  generalize ((W.alloc _).alloc _).alloc _ = W1 at *
  generalize hgq : W.heap.size = q at *
  have HG := Lib.hid hgq
  clear hgq
  obtain ⟨z0, z1, z2, z3, z4, z5⟩ := H1.out.all
  have bad : Hid ((r1 && r2 && r3 && r4) = false → ∀ V, Ry W V g q L fp c n st mn A l → RLayP W g fp r L' (.returned (.int .i64 1)) V) := Lib.hid fun e V hV => by
    obtain ⟨e1, e2⟩ := HE.out
    rw [if_pos e] at e1
    subst e1
    rw [if_neg (by omega)] at e2
    subst e2
    exact RLayP.same hV 1
  go_wp2_with fail
  refine (rright_calls H1.out.hR HLt.out.1 hl HX.out.1).mono ?_
  rintro e V1 ⟨rfl, m1⟩
  have H2 := Lib.hid (H1.out.mod m1)
  clear z0 z1 z2 z3 z4 z5 H1 m1
  obtain ⟨z0, z1, z2, z3, z4, z5⟩ := H2.out.all
  cases r1
  · go_wp2
    go_ret
    exact bad.out rfl _ H2.out
  go_wp2_with fail
  refine (rright1_calls _ _ _).mono ?_
  rw [HX.out.2.1]
  rintro e V2 ⟨rfl, m1⟩
  have H3 := Lib.hid (H2.out.mod m1)
  clear z0 z1 z2 z3 z4 z5 H2 m1
  obtain ⟨z0, z1, z2, z3, z4, z5⟩ := H3.out.all
  cases r2
  · go_wp2
    go_ret
    exact bad.out rfl _ H3.out
  go_wp2_with fail
  refine (rright1_calls _ _ _).mono ?_
  rw [HX.out.2.2.1]
  rintro e V3 ⟨rfl, m1⟩
  have H4 := Lib.hid (H3.out.mod m1)
  clear z0 z1 z2 z3 z4 z5 H3 m1
  obtain ⟨z0, z1, z2, z3, z4, z5⟩ := H4.out.all
  cases r3
  · go_wp2
    go_ret
    exact bad.out rfl _ H4.out
  go_wp2_with fail
  refine (rkey_calls _ _).mono ?_
  rw [HX.out.2.2.2]
  rintro e V4 ⟨rfl, m1⟩
  have H5 := Lib.hid (H4.out.mod m1)
  clear z0 z1 z2 z3 z4 z5 H4 m1
  obtain ⟨z0, z1, z2, z3, z4, z5⟩ := H5.out.all
  cases r4
  · go_wp2
    go_ret
    exact bad.out rfl _ H5.out
  clear bad
  have busy : Hid ((decide (byL L c n ≠ []) || anyBusy L l) = true → ∀ V, Ry W V g q L fp c n st mn A l → RLayP W g fp r L' (.returned (.int .i64 40)) V) := Lib.hid fun e V hV => by
    obtain ⟨e1, e2⟩ := HE.out
    rw [if_neg (by simp), if_pos e] at e1
    subst e1
    rw [if_neg (by omega)] at e2
    subst e2
    exact RLayP.same hV 40
  obtain ⟨ys, hys⟩ : ∃ ys, byL L c n = ys := ⟨_, rfl⟩
  have HY := Lib.hid hys
  clear hys
  go_wp2_with fail
  refine (rby_calls H5.out.hT (by omega) c n HY.out).mono ?_
  rintro e V5 ⟨A0, k0, rfl, -, m1⟩
  have H6 := Lib.hid (H5.out.mod m1)
  clear z0 z1 z2 z3 z4 z5 H5 m1
  cases ys with
  | cons y0 yr =>
    have hne : (0 : Int) < ((y0 :: yr).length : Int) := by simp
    have HN : Hid (∀ V, Ry W V g q L fp c n st mn A l → RLayP W g fp r L' (.returned (.int .i64 40)) V) := Lib.hid (busy.out (by rw [HY.out]; simp))
    generalize (y0 :: yr).length = yl at *
    go_wp2
    go_ret
    exact HN.out _ H6.out
  | nil =>
    obtain ⟨b, hb⟩ : ∃ b, anyBusy L l = b := ⟨_, rfl⟩
    have HB := Lib.hid hb
    go_wp2_with fail
    go_loopg [13] l.length (fun kk i wr => ∃ j : Nat, j ≤ l.length ∧ kk = l.length - j ∧ i = .int .i64 j ∧ anyBusy L (l.drop j) = b ∧ Mod V5 wr [])
    case atStart => exact ⟨0, Nat.zero_le _, rfl, rfl, hb, Mod.refl _ _⟩
    case round =>
      obtain ⟨j, hj, rfl, rfl, hbj, hM⟩ := hrel
      clear hb
      have H7 := Lib.hid (H6.out.mod hM)
      have HM := Lib.hid hM
      clear hM
      by_cases hjl : j < l.length
      · have hjz : (j : Int) < (l.length : Int) := by omega
        have hw : IntKind.i64.wrap ((j : Int) + 1) = ((j + 1 : Nat) : Int) := by rw [i64w (by omega) (by omega)]; omega
        obtain ⟨ad, rfl, a0, a1, a2⟩ := wr_cells H7.out.hR j hjl
        have hnx := anyBusy_drop (L := L) hjl
        rw [hbj] at hnx
        obtain ⟨y, hy⟩ : ∃ y, l[j] = y := ⟨_, rfl⟩
        rw [hy] at a0 a1 a2 hnx
        obtain ⟨res, hres⟩ : ∃ res, findI y.f0 L = res := ⟨_, rfl⟩
        rw [hres] at hnx
        have HR := Lib.hid (And.intro hres hnx)
        clear hbj hres hnx hy
        go_wp2_with fail
        refine (rof_calls H7.out.hT y.f0 (by omega) HR.out.1).mono ?_
        rintro e V6 ⟨rfl, m6⟩
        have H8 := Lib.hid (H7.out.mod m6)
        have M8 := Lib.hid (HM.out.trans m6 (by simp))
        clear a0 a1 a2 H7 HM m6
        cases res with
        | none =>
          simp only [ofEnd]
          have HN : Hid (anyBusy L (l.drop (j + 1)) = b) := Lib.hid (by have h := HR.out.2; rw [Option.isSome_none, Bool.false_or] at h; exact h.symm)
          go_wp2
          go_roundg (l.length - (j + 1))
          case measure => omega
          case rel => exact ⟨j + 1, by omega, rfl, by rw [show ((j + 1 : Nat) : Int) = (j : Int) + 1 by omega], HN.out, M8.out.alloc _⟩
        | some y0 =>
          simp only [ofEnd]
          have HN : Hid (∀ V, Ry W V g q L fp c n st mn _ l → RLayP W g fp r L' (.returned (.int .i64 40)) V) := Lib.hid (busy.out (by have h := HR.out.2; rw [Option.isSome_some, Bool.true_or] at h; rw [HB.out, h]; simp))
          go_wp2
          go_ret
          exact HN.out _ (H8.out.mod ((Mod.refl _ []).alloc _))
      · obtain rfl : j = l.length := by omega
        have hjz : ¬ (l.length : Int) < (l.length : Int) := by omega
        rw [List.drop_length] at hbj
        have HO : Hid (0 = r ∧ putJ c n st mn pr L l = L') := Lib.hid (by
          obtain ⟨e1, e2⟩ := HE.out
          rw [if_neg (by simp), HY.out, HB.out, ← hbj, if_neg (by unfold anyBusy; simp)] at e1
          subst e1
          rw [if_pos rfl] at e2
          exact ⟨rfl, e2⟩)
        have hl16 : l.length ≤ 16 := by
          have e := HX.out.1
          unfold rightW at e
          simp only [Bool.and_eq_true, decide_eq_true_eq] at e
          exact e.1.1.2
        clear hbj HM HB busy
        go_upto_region 11 with fail
        obtain ⟨V7, hV7⟩ : ∃ V7, V7 = wr := ⟨_, rfl⟩
        rw [← hV7] at H7 ⊢
        clear hV7
        have hbA : ∀ ad, A = some ad → 0 < l.length → ad.block < V7.heap.size := fun ad e h0 => C63_in H7.out.hR h0 ad e
        have HbA := Lib.hid hbA
        clear hbA
        go_wp2_with fail
        go_loopg [16] l.length (fun kk i wq => ∃ (j : Nat) (fp' : List Nat), j ≤ l.length ∧ kk = l.length - j ∧ i = .int .i64 j ∧ RT wq g (putJ c n st mn pr L (l.take j)) fp' ∧ (∀ y ∈ fp', y ∈ fp ∨ V7.heap.size ≤ y) ∧ Mod V7 wq fp)
        case atStart => exact ⟨0, fp, Nat.zero_le _, rfl, rfl, H7.out.hT, fun y hy => .inl hy, Mod.refl _ _⟩
        case round =>
          obtain ⟨j, fp', hj2, rfl, rfl, hT, hf, hM⟩ := hrel
          have HT := Lib.hid (And.intro hT (And.intro hf hM))
          clear hT hf hM
          by_cases hjl2 : j < l.length
          · have hjz2 : (j : Int) < (l.length : Int) := by omega
            have hw : IntKind.i64.wrap ((j : Int) + 1) = ((j + 1 : Nat) : Int) := by rw [i64w (by omega) (by omega)]; omega
            have hlen : (putJ c n st mn pr L (l.take j)).length ≤ 1000000 := by
              rw [(putJ_perm c n st mn pr (l.take j) L).length_eq, List.length_append, List.length_map]
              have := List.length_take_le j l
              omega
            have hnx := putJ_next c n st mn pr L l hjl2
            obtain ⟨y, hy⟩ : ∃ y, l[j] = y := ⟨_, rfl⟩
            rw [hy] at hnx
            have HNx := Lib.hid hnx
            have hqq : ∀ z, W.heap.size ≤ z → z < V7.heap.size → z ∉ fp' := fun z h1 h2 hm => by
              rcases HT.out.2.1 z hm with e | e
              · have := H7.out.hl z e; omega
              · omega
            have hAn : ∀ ad, A = some ad → ad.block ∉ fp' := fun ad e hm => by
              rcases HT.out.2.1 _ hm with e2 | e2
              · exact HLt.out.2 ad e (by omega) e2
              · have := HbA.out ad e (by omega); omega
            have hq0 := H7.out.hq
            have hq1 := blk_lt H7.out.hN
            have hq2 := blk_lt H7.out.hS
            have hq3 := blk_lt H7.out.hU
            have hm7 : ∀ W', Mod V7 W' fp → True := fun _ _ => trivial
            clear hm7
            obtain ⟨ad0, eA, -, -, -⟩ := wr_cells H7.out.hR j hjl2
            have HS : Hid (∀ W', Mod wr W' fp' → (W'.cell? ⟨q, 0, none⟩ = some (.int .u32 c) ∧ W'.cell? ⟨q, 1, none⟩ = some (.int .u32 n) ∧ W'.cell? ⟨q + 1, 0, none⟩ = some (.int .u64 st.f0) ∧ W'.cell? ⟨q + 1, 1, none⟩ = some (.int .u32 st.f1) ∧ W'.cell? ⟨q + 2, 0, none⟩ = some (.int .u64 mn.f0) ∧ W'.cell? ⟨q + 2, 1, none⟩ = some (.int .u32 mn.f1)) ∧ W'.cell? (ad0.add (j * 3)) = some (.string y.f0) ∧ W'.cell? ⟨(ad0.add (j * 3)).block, (ad0.add (j * 3)).off + 1, none⟩ = some (.string y.f1) ∧ W'.cell? ⟨(ad0.add (j * 3)).block, (ad0.add (j * 3)).off + 2, none⟩ = some (.bool y.f2)) := Lib.hid fun W' mm => by
              have m7 : Mod V7 W' (fp ++ fp') := (HT.out.2.2.mono (fun k hk => .inl (by simp [hk]))).trans mm (fun k hk => .inl (by simp [hk]))
              have nf : ∀ z, W.heap.size ≤ z → z < V7.heap.size → z ∉ fp ++ fp' := fun z h1 h2 hm => by
                rcases List.mem_append.1 hm with e | e
                · have := H7.out.hl z e; omega
                · exact hqq z h1 h2 e
              obtain ⟨a, b⟩ := (H7.out.hN.mod m7 (nf _ (by omega) (by omega))).all
              obtain ⟨c, d⟩ := (H7.out.hS.mod m7 (nf _ (by omega) (by omega))).all
              obtain ⟨e, f⟩ := (H7.out.hU.mod m7 (nf _ (by omega) (by omega))).all
              have hC := C_mod63 H7.out.hR m7 (fun ad e hm => by
                rcases List.mem_append.1 hm with e2 | e2
                · exact HLt.out.2 ad e (by omega) e2
                · exact hAn ad e e2)
              obtain ⟨ad1, e1, w0, w1, w2⟩ := wr_cells hC j hjl2
              rw [eA] at e1
              injection e1 with e1
              subst e1
              rw [hy] at w0 w1 w2
              exact ⟨⟨a, b, c, d, e, f⟩, w0, w1, w2⟩
            have hfl := HT.out.1.lt
            have HFl := Lib.hid hfl
            subst eA
            clear hnx hy hqq hAn hfl
            obtain ⟨⟨z0, z1, z2, z3, z4, z5⟩, w0, w1, w2⟩ := HS.out wr (Mod.refl _ _)
            go_upto_region 14 with fail
            go_region_held3 (fun W' => (W'.cell? ⟨q, 0, none⟩ = some (.int .u32 c) ∧ W'.cell? ⟨q, 1, none⟩ = some (.int .u32 n) ∧ W'.cell? ⟨q + 1, 0, none⟩ = some (.int .u64 st.f0) ∧ W'.cell? ⟨q + 1, 1, none⟩ = some (.int .u32 st.f1) ∧ W'.cell? ⟨q + 2, 0, none⟩ = some (.int .u64 mn.f0) ∧ W'.cell? ⟨q + 2, 1, none⟩ = some (.int .u32 mn.f1)) ∧ W'.cell? (ad0.add (j * 3)) = some (.string y.f0) ∧ W'.cell? ⟨(ad0.add (j * 3)).block, (ad0.add (j * 3)).off + 1, none⟩ = some (.string y.f1) ∧ W'.cell? ⟨(ad0.add (j * 3)).block, (ad0.add (j * 3)).off + 2, none⟩ = some (.bool y.f2))
              (first | exact HS.out _ (by (with_reducible repeat (first | exact N8.out | exact Mod.refl _ _ | refine Mod.drew ?_)))) (first
              | (go_at_call 72
                 (
                   have T7 := HT.out.1.mod0 (Mod.refl wr []).drew
                   refine Calls.mono (rput_calls (mkI c n st mn pr y) T7 (by omega) HNx.out.symm) ?_
                   rintro e V8 ⟨rfl, ⟨fp8, t8, f8⟩, m8⟩
                   have N8 : Hid (Mod wr V8 fp') := Lib.hid (((Mod.refl wr []).drew.mono (fun _ hk => by cases hk)).trans m8 (fun k hk => .inl hk))
                   have H8 : Hid (RT V8 g (putJ c n st mn pr L (l.take (j + 1))) fp8 ∧ (∀ y ∈ fp8, y ∈ fp ∨ V7.heap.size ≤ y) ∧ Mod V7 V8 fp) := Lib.hid (by
                     have hsz := HT.out.2.2.size
                     refine ⟨t8, fun y hy => ?_, HT.out.2.2.trans N8.out (fun k hk => HT.out.2.1 k hk)⟩
                     rcases f8 y hy with e | e
                     · exact HT.out.2.1 y e
                     · exact .inr (Nat.le_trans hsz (by simpa using e)))
                   clear t8 f8 m8 T7)))
            all_goals
              go_wp2
              go_roundg (l.length - (j + 1))
              case measure => omega
              case rel => exact ⟨j + 1, fp8, by omega, rfl, by rw [show ((j + 1 : Nat) : Int) = (j : Int) + 1 by omega], H8.out.1, H8.out.2.1, H8.out.2.2⟩
          · obtain rfl : j = l.length := by omega
            have hjz2 : ¬ (l.length : Int) < (l.length : Int) := by omega
            go_wp2
            go_ret
            obtain ⟨hT, hf, hM⟩ := HT.out
            rw [List.take_length] at hT
            obtain ⟨rfl, e2⟩ := HO.out
            rw [e2] at hT
            refine ⟨rfl, ⟨fp', hT, fun y hy => ?_⟩, (H7.out.hM.mono (fun _ hk => by cases hk)).trans hM (fun k hk => .inl hk)⟩
            rcases hf y hy with e | e
            · exact .inl e
            · exact .inr (Nat.le_trans H7.out.hM.size e)
/-! LatchRuns: the table, the reference's, blocks of the law's own beside them -/
attribute [local go_sem high] eqA32 eqA35 eqA63 eqA65
def NN (L : List S65) : Prop := ∀ x ∈ L, 0 ≤ x.f2.f0 ∧ 0 ≤ x.f2.f1
theorem mx2_R {a b : S35} (h : 0 ≤ a.f0 ∧ 0 ≤ a.f1) : mx2 a b = mxR a b := by
  unfold mx2 mxR
  have e : (if lessB 0 0 a.f0 a.f1 = true then a else z35) = a := by
    cases hl : lessB 0 0 a.f0 a.f1
    · rw [if_neg (by simp)]
      unfold lessB at hl
      have h2 := of_decide_eq_false hl
      obtain ⟨p, l⟩ := a
      simp only at h h2
      have e1 : p = 0 := by omega
      have e2 : l = 0 := by omega
      subst e1 e2
      rfl
    · rw [if_pos rfl]
  simp only [e]
theorem raise_R {L : List S65} (h : NN L) (c n : Int) (s : S35) : raiseR L c n s = raiseL L c n s := by
  unfold raiseR raiseL
  refine List.map_congr_left fun x hx => ?_
  unfold rr1 raise1
  rw [mx2_R (h x hx)]
theorem NN.raise {L : List S65} (h : NN L) (c n : Int) {s : S35} (hs : 0 ≤ s.f0 ∧ 0 ≤ s.f1) : NN (raiseL L c n s) := by
  intro x hx
  rw [← raise_R h] at hx
  obtain ⟨y, hy, rfl⟩ := List.mem_map.1 hx
  unfold rr1
  split
  · show 0 ≤ (mxR y.f2 s).f0 ∧ 0 ≤ (mxR y.f2 s).f1
    unfold mxR
    split
    · exact hs
    · exact h y hy
  · exact h y hy
theorem NN.off {L : List S65} (h : NN L) (c n : Int) : NN (offL L c n) := fun x hx => h x (List.mem_filter.1 hx).1
theorem NN.lay {L : List S65} (h : NN L) (c n : Int) (st : S35) {mn : S35} (hm : 0 ≤ mn.f0 ∧ 0 ≤ mn.f1) (pr : ByteArray) (l : List S63) : NN (layL L c n st mn pr l) := by
  unfold layL
  split
  · intro x hx
    rcases List.mem_append.1 ((putJ_perm c n st mn pr l L).mem_iff.1 hx) with h1 | h1
    · exact h x h1
    · obtain ⟨w, hw, rfl⟩ := List.mem_map.1 h1
      exact hm
  · exact h
theorem layL_len (L : List S65) (c n : Int) (st mn : S35) (pr : ByteArray) (l : List S63) : (layL L c n st mn pr l).length ≤ L.length + 16 := by
  unfold layL
  split
  · rename_i e
    have hr : rightW l = true := by
      cases hr : rightW l
      · unfold layB at e; rw [hr] at e; cases e
      · rfl
    unfold rightW at hr
    simp only [Bool.and_eq_true, decide_eq_true_eq] at hr
    rw [(putJ_perm c n st mn pr l L).length_eq, List.length_append, List.length_map]
    omega
  · omega
theorem offL_len (L : List S65) (c n : Int) : (offL L c n).length ≤ L.length := List.length_filter_le _ _
theorem raiseL_len (L : List S65) (c n : Int) (s : S35) : (raiseL L c n s).length = L.length := List.length_map _
theorem same65_l0 (L : List S65) (hl : L.length ≤ 1000000) : ∀ (d j : Nat), j + d = L.length → dovecoteref10_Same.l0 (d + 1) L L (j : Int) = some true
  | 0, j, h => by
    unfold dovecoteref10_Same.l0
    rw [if_neg (by omega)]
  | d + 1, j, h => by
    unfold dovecoteref10_Same.l0
    have hw : wrap64 ((j : Int) + 1) = ((j + 1 : Nat) : Int) := by unfold wrap64; omega
    rw [if_pos (by omega), if_pos (by omega), if_pos (by omega), hw]
    simp only [beq_self_eq_true, Bool.not_true, Bool.or_self, Bool.false_eq_true, if_false]
    exact same65_l0 L hl d (j + 1) (by omega)
theorem same65 (L : List S65) (hl : L.length ≤ 1000000) : dovecoteref10_Same.f (L.length + 1) L L = some true := by
  unfold dovecoteref10_Same.f
  rw [if_pos rfl]
  exact same65_l0 L hl L.length 0 (by omega)
theorem same_calls {W : World} {A1 A2 : Option Addr} {c1 c2 : Nat} {L : List S65} (hl : L.length ≤ 1000000) (h1 : L.length ≤ c1 ∧ Kd.C k65 W A1 L.length L) (h2 : L.length ≤ c2 ∧ Kd.C k65 W A2 L.length L) :
    Calls Try.prog 35 #[.slice A1 L.length c1, .slice A2 L.length c2] W fun e W' => e = .returned (.bool true) ∧ Mod W W' [] := by
  refine (dovecoteref10_Same.calls (L.length + 1) A1 c1 L A2 c2 L true W h1.2 h1.1 h2.2 h2.1 (same65 L hl)).mono ?_
  rintro e W'' ⟨he, hd⟩
  exact ⟨he, Mod.of_drawn hd⟩
structure Tr (w V : World) (t m g : Nat) (L1 L2 : List S65) (fp fr : List Nat) (B : List (Nat × Obj)) : Prop where
  hT : Tab V t m L1 fp
  hR : RT V g L2 fr
  gf : ∀ y ∈ fp, w.heap.size ≤ y
  gr : ∀ y ∈ fr, w.heap.size ≤ y
  hM : Mod w V []
  dj : ∀ y ∈ fp, y ∉ fr
  hx : ∀ p ∈ B, V.heap[p.1]? = some p.2 ∧ p.1 ∉ fp ∧ p.1 ∉ fr
section
variable {w V V' W' : World} {t m m' g : Nat} {L1 L2 L1' L2' : List S65} {fp fr fp' fr' : List Nat} {B : List (Nat × Obj)}
theorem Tr.mod (h : Tr w V t m g L1 L2 fp fr B) (mm : Mod V V' []) : Tr w V' t m g L1 L2 fp fr B :=
  ⟨h.hT.mod0 mm, h.hR.mod0 mm, h.gf, h.gr, h.hM.trans mm (fun _ hk => by cases hk), h.dj, fun p hp => ⟨mm.at_ (h.hx p hp).1 (by simp), (h.hx p hp).2⟩⟩
theorem Tr.mono (h : Tr w V t m g L1 L2 fp fr B) (hm : m ≤ m') : Tr w V t m' g L1 L2 fp fr B := ⟨h.hT.mono hm, h.hR, h.gf, h.gr, h.hM, h.dj, h.hx⟩
theorem Tr.less {B' : List (Nat × Obj)} (h : Tr w V t m g L1 L2 fp fr B) (hs : ∀ p ∈ B', p ∈ B) : Tr w V t m g L1 L2 fp fr B' := ⟨h.hT, h.hR, h.gf, h.gr, h.hM, h.dj, fun p hp => h.hx p (hs p hp)⟩
theorem Tr.box (h : Tr w V t m g L1 L2 fp fr B) (o : Obj) : Tr w (V.alloc o) t m g L1 L2 fp fr ((V.heap.size, o) :: B) := by
  have m1 : Mod V (V.alloc o) [] := (Mod.refl V []).alloc _
  refine ⟨h.hT.mod0 m1, h.hR.mod0 m1, h.gf, h.gr, h.hM.trans m1 (fun _ hk => by cases hk), h.dj, fun p hp => ?_⟩
  rcases List.mem_cons.1 hp with rfl | hp
  · exact ⟨blk_new V _, fun hm => by have := h.hT.lt _ hm; simp at this, fun hm => by have := h.hR.lt _ hm; simp at this⟩
  · exact ⟨m1.at_ (h.hx p hp).1 (by simp), (h.hx p hp).2⟩
theorem Tr.s1 (h : Tr w V t m g L1 L2 fp fr B) (hT : Tab V' t m' L1' fp') (hs : ∀ y ∈ fp', y ∈ fp ∨ V.heap.size ≤ y) (mm : Mod V V' fp) : Tr w V' t m' g L1' L2 fp' fr B := by
  have h1 := h.hM.size
  refine ⟨hT, h.hR.mod mm (fun x hx hm => h.dj x hm hx), fun y hy => ?_, h.gr, h.hM.trans mm (fun k hk => .inr (h.gf k hk)), fun y hy hm => ?_, fun p hp => ⟨mm.at_ (h.hx p hp).1 (h.hx p hp).2.1, fun hm => ?_, (h.hx p hp).2.2⟩⟩
  · rcases hs y hy with e | e
    · exact h.gf y e
    · omega
  · rcases hs y hy with e | e
    · exact h.dj y e hm
    · have := h.hR.lt y hm; omega
  · have h2 := blk_lt (h.hx p hp).1
    rcases hs p.1 hm with e | e
    · exact (h.hx p hp).2.1 e
    · omega
theorem Tr.s2 (h : Tr w V t m g L1 L2 fp fr B) (hR : RT V' g L2' fr') (hs : ∀ y ∈ fr', y ∈ fr ∨ V.heap.size ≤ y) (mm : Mod V V' fr) : Tr w V' t m g L1 L2' fp fr' B := by
  have h1 := h.hM.size
  refine ⟨h.hT.mod mm (fun x hx hm => h.dj x hx hm), hR, h.gf, fun y hy => ?_, h.hM.trans mm (fun k hk => .inr (h.gr k hk)), fun y hy hm => ?_, fun p hp => ⟨mm.at_ (h.hx p hp).1 (h.hx p hp).2.2, (h.hx p hp).2.1, fun hm => ?_⟩⟩
  · rcases hs y hy with e | e
    · exact h.gr y e
    · omega
  · rcases hs y hm with e | e
    · exact h.dj y hy e
    · have := h.hT.lt y hy; omega
  · have h2 := blk_lt (h.hx p hp).1
    rcases hs p.1 hm with e | e
    · exact (h.hx p hp).2.2 e
    · omega
theorem Tr.at_ (h : Tr w V t m g L1 L2 fp fr B) {q : Nat} {o : Obj} (hq : (q, o) ∈ B) {W : World} (mm : Mod V W []) : W.heap[q]? = some o := (h.mod mm).hx (q, o) hq |>.1
theorem tr_lay (h : Tr w V t m g L1 L2 fp fr B) (mm : Mod V W' []) (hmx : m ≤ 1000000) (hLl : L1.length ≤ 1000000) (c n : Int) (hk : inK c n) (st mn : S35) (pr : ByteArray) {A : Option Addr} {cap : Nat} {l : List S63} (hr : Kd.C k63 W' A l.length l) (hA : ∀ ad, A = some ad → 0 < l.length → ad.block ∉ fp) (hc : l.length ≤ cap) (hl : l.length ≤ 1000000) {r : Int} {L' : List S65} (e1 : layB L1 c n st mn pr l = r) (e2 : layL L1 c n st mn pr l = L') :
    Calls Try.prog 26 #[.pointer (some ⟨t, 0, none⟩), .agg #[.int .u32 c, .int .u32 n], .agg #[.int .u64 st.f0, .int .u32 st.f1], .agg #[.int .u64 mn.f0, .int .u32 mn.f1], .string pr, .slice A l.length cap] W' fun e W'' => e = .returned (.int .i64 r) ∧ ∃ fp', Tr w W'' t (m + 1) g L' L2 fp' fr B ∧ (∀ y ∈ fp', y ∈ fp ∨ W'.heap.size ≤ y) ∧ Mod W' W'' fp := by
  have h' := h.mod mm
  refine (layI_calls h'.hT c n st mn pr A cap l hr hc hk hl (fun h0 ad e => hA ad e h0) hmx hLl e1 e2).mono ?_
  rintro e W'' ⟨rfl, ⟨fp', hT, hs⟩, m2⟩
  exact ⟨rfl, fp', h'.s1 hT hs m2, hs, m2⟩
theorem tr_rlay (h : Tr w V t m g L1 L2 fp fr B) (mm : Mod V W' []) (hLl : L2.length ≤ 900000) (c n : Int) (st mn : S35) (pr : ByteArray) {A : Option Addr} {cap : Nat} {l : List S63} (hr : Kd.C k63 w A l.length l) (hc : l.length ≤ cap) (hl : l.length ≤ 1000000) {r : Int} {L' : List S65} (e1 : layB L2 c n st mn pr l = r) (e2 : layL L2 c n st mn pr l = L') :
    Calls Try.prog 34 #[.pointer (some ⟨g, 0, none⟩), .agg #[.int .u32 c, .int .u32 n], .agg #[.int .u64 st.f0, .int .u32 st.f1], .agg #[.int .u64 mn.f0, .int .u32 mn.f1], .string pr, .slice A l.length cap] W' fun e W'' => e = .returned (.int .i64 r) ∧ ∃ fr', Tr w W'' t m g L1 L' fp fr' B ∧ (∀ y ∈ fr', y ∈ fr ∨ W'.heap.size ≤ y) ∧ Mod W' W'' fr := by
  have h' := h.mod mm
  refine (rlay_calls h'.hR c n st mn pr (Kd.C_below hr h'.hM.bel) hc hl (fun ad e h0 hm => by have := C63_in hr h0 ad e; have := h.gr _ hm; omega) hLl e1 e2).mono ?_
  rintro e W'' ⟨rfl, ⟨fr', hT, hs⟩, m2⟩
  exact ⟨rfl, fr', h'.s2 hT hs m2, hs, m2⟩
theorem tr_cut (h : Tr w V t m g L1 L2 fp fr B) (mm : Mod V W' []) (hLl : L1.length ≤ 1000000) (c n : Int) (hk : inK c n) {ys L' : List S65} (hys : byL L1 c n = ys) (hL' : offL L1 c n = L') :
    Calls Try.prog 30 #[.pointer (some ⟨t, 0, none⟩), .agg #[.int .u32 c, .int .u32 n]] W' fun e W'' => ∃ A k, e = .returned (.slice A ys.length k) ∧ (Row k65 65 W'' (.slice A ys.length k) ys ∧ ∀ y ∈ ownList (.slice A ys.length k), y ∉ fr) ∧ ∃ fp', Tr w W'' t m g L' L2 fp' fr B := by
  have h' := h.mod mm
  refine (cutI_calls h'.hT hLl c n hk hys hL').mono ?_
  rintro e W'' ⟨A, k, rfl, hR, hn, ⟨fp', hT, hs⟩, m2⟩
  exact ⟨A, k, rfl, ⟨hR, fun y hy hm => by have := hn y hy; have := h'.hR.lt y hm; omega⟩, fp', h'.s1 hT (fun y hy => .inl (hs y hy)) m2⟩
theorem tr_rcut (h : Tr w V t m g L1 L2 fp fr B) (mm : Mod V W' []) (hLl : L2.length ≤ 1000000) (c n : Int) {ys L' : List S65} (hys : byL L2 c n = ys) (hL' : offL L2 c n = L') :
    Calls Try.prog 36 #[.pointer (some ⟨g, 0, none⟩), .agg #[.int .u32 c, .int .u32 n]] W' fun e W'' => ∃ A k, e = .returned (.slice A ys.length k) ∧ (ys.length ≤ k ∧ Kd.C k65 W'' A ys.length ys) ∧ (∃ fr', Tr w W'' t m g L1 L' fp fr' B) ∧ Mod W' W'' fr := by
  have h' := h.mod mm
  refine (rcut_calls h'.hR hLl c n hys hL').mono ?_
  rintro e W'' ⟨A, k, rfl, hC, ⟨fr', hT, hs⟩, m2⟩
  exact ⟨A, k, rfl, hC, ⟨fr', h'.s2 hT hs m2⟩, m2⟩
theorem tr_raise (h : Tr w V t m g L1 L2 fp fr B) (mm : Mod V W' []) (c n : Int) (hk : inK c n) (s : S35) {r : Bool} {L' : List S65} (hr : (decide (byL L1 c n ≠ []) && rightB s.f0 s.f1) = r) (hL : (if r = true then raiseL L1 c n s else L1) = L') :
    Calls Try.prog 32 #[.pointer (some ⟨t, 0, none⟩), .agg #[.int .u32 c, .int .u32 n], .agg #[.int .u64 s.f0, .int .u32 s.f1]] W' fun e W'' => e = .returned (.bool r) ∧ ∃ fp', Tr w W'' t m g L' L2 fp' fr B := by
  have h' := h.mod mm
  refine (raise_calls h'.hT c n hk s hr hL).mono ?_
  rintro e W'' ⟨rfl, hT, m2⟩
  exact ⟨rfl, fp, h'.s1 hT (fun y hy => .inl hy) m2⟩
theorem tr_rraise (h : Tr w V t m g L1 L2 fp fr B) (mm : Mod V W' []) (hLl : L2.length ≤ 1000000) (hnn : NN L2) (c n : Int) (s : S35) {r : Bool} {L' : List S65} (hr : (decide (byL L2 c n ≠ []) && rightB s.f0 s.f1) = r) (hL : (if r = true then raiseL L2 c n s else L2) = L') :
    Calls Try.prog 37 #[.pointer (some ⟨g, 0, none⟩), .agg #[.int .u32 c, .int .u32 n], .agg #[.int .u64 s.f0, .int .u32 s.f1]] W' fun e W'' => e = .returned (.bool r) ∧ ∃ fr', Tr w W'' t m g L1 L' fp fr' B := by
  have h' := h.mod mm
  rw [← raise_R hnn] at hL
  refine (rraise_calls h'.hR hLl c n s hr hL).mono ?_
  rintro e W'' ⟨rfl, hT, m2⟩
  exact ⟨rfl, fr, h'.s2 hT (fun y hy => .inl hy) m2⟩
theorem tr_all (h : Tr w V t m g L1 L2 fp fr B) (mm : Mod V W' []) (hLl : L1.length ≤ 1000000) :
    Calls Try.prog 27 #[.pointer (some ⟨t, 0, none⟩)] W' fun e W'' => ∃ A k, e = .returned (.slice A L1.length k) ∧ (L1.length ≤ k ∧ Kd.C k65 W'' A L1.length L1) ∧ Mod W' W'' [] := by
  refine (all_calls (h.mod mm).hT hLl).mono ?_
  rintro e W'' ⟨A, k, rfl, hR, m2⟩
  obtain ⟨A1, k1, e1, g1, g2⟩ := (Row.of hR).C
  injection e1 with ea eb ec
  subst ea ec
  exact ⟨A, k, rfl, ⟨g1, g2⟩, m2⟩
theorem tr_by (h : Tr w V t m g L1 L2 fp fr B) (mm : Mod V W' []) (hLl : L1.length ≤ 1000000) (c n : Int) (hk : inK c n) {ys : List S65} (hys : byL L1 c n = ys) :
    Calls Try.prog 29 #[.pointer (some ⟨t, 0, none⟩), .agg #[.int .u32 c, .int .u32 n]] W' fun e W'' => ∃ A k, e = .returned (.slice A ys.length k) ∧ (ys.length ≤ k ∧ Kd.C k65 W'' A ys.length ys) ∧ Mod W' W'' [] := by
  subst hys
  refine (by_calls (h.mod mm).hT hLl c n hk).mono ?_
  rintro e W'' ⟨A, k, rfl, hR, m2⟩
  obtain ⟨A1, k1, e1, g1, g2⟩ := (Row.of hR).C
  injection e1 with ea eb ec
  subst ea ec
  exact ⟨A, k, rfl, ⟨g1, g2⟩, m2⟩
theorem tr_rby (h : Tr w V t m g L1 L2 fp fr B) (mm : Mod V W' []) (hLl : L2.length ≤ 1000000) (c n : Int) {ys : List S65} (hys : byL L2 c n = ys) :
    Calls Try.prog 40 #[.pointer (some ⟨g, 0, none⟩), .agg #[.int .u32 c, .int .u32 n]] W' fun e W'' => ∃ A k, e = .returned (.slice A ys.length k) ∧ (ys.length ≤ k ∧ Kd.C k65 W'' A ys.length ys) ∧ Mod W' W'' [] := by
  refine (rby_calls (h.mod mm).hR hLl c n hys).mono ?_
  rintro e W'' ⟨A, k, rfl, hR, m2⟩
  obtain ⟨A1, k1, e1, g1, g2⟩ := (Row.of hR).C
  injection e1 with ea eb ec
  subst ea ec
  exact ⟨A, k, rfl, ⟨g1, g2⟩, m2⟩
theorem tr_of (h : Tr w V t m g L1 L2 fp fr B) (mm : Mod V W' []) (key : ByteArray) {r : Option S65} (hr : findI key L1 = r) :
    Calls Try.prog 33 #[.pointer (some ⟨t, 0, none⟩), .string key] W' fun e W'' => e = ofEnd r ∧ Tr w W'' t m g L1 L2 fp fr B ∧ Mod W' W'' [] := by
  have h' := h.mod mm
  subst hr
  refine (of_calls h'.hT key).mono ?_
  rintro e W'' ⟨he, m2⟩
  exact ⟨he, h'.mod m2, m2⟩
theorem tr_rof (h : Tr w V t m g L1 L2 fp fr B) (mm : Mod V W' []) (hLl : L2.length ≤ 1000000) (key : ByteArray) {r : Option S65} (hr : findI key L2 = r) :
    Calls Try.prog 39 #[.pointer (some ⟨g, 0, none⟩), .string key] W' fun e W'' => e = ofEnd r ∧ Tr w W'' t m g L1 L2 fp fr B ∧ Mod W' W'' [] := by
  have h' := h.mod mm
  refine (rof_calls h'.hR key hLl hr).mono ?_
  rintro e W'' ⟨he, m2⟩
  exact ⟨he, h'.mod m2, m2⟩
theorem tr_first (h : Tr w V t m g L1 L2 fp fr B) (mm : Mod V W' []) (hLl : L1.length ≤ 1000000) (lo hi : ByteArray) (t0 t1 : Int) {A : Option Addr} {k : Nat} {but : List S32} (hr : Kd.C k32 w A but.length but) (hc : but.length ≤ k) (hbl : but.length ≤ 4611686018427387904) {res : Option S65} (hf : firstI lo hi t0 t1 but L1 = res) :
    Calls Try.prog 28 #[.pointer (some ⟨t, 0, none⟩), .string lo, .string hi, .agg #[.int .u64 t0, .int .u32 t1], .slice A but.length k] W' fun e W'' => e = ofEnd res ∧ Tr w W'' t m g L1 L2 fp fr B ∧ Mod W' W'' [] := by
  have h' := h.mod mm
  refine (firstI_calls h'.hT hLl lo hi t0 t1 A k but (Kd.C_below hr h'.hM.bel) hc hbl hf).mono ?_
  rintro e W'' ⟨he, m2⟩
  exact ⟨he, h'.mod m2, m2⟩
theorem tr_rfirst (h : Tr w V t m g L1 L2 fp fr B) (mm : Mod V W' []) (hLl : L2.length ≤ 1000000) (lo hi : ByteArray) (t0 t1 : Int) {A : Option Addr} {k : Nat} {but : List S32} (hr : Kd.C k32 w A but.length but) (hc : but.length ≤ k) (hbl : but.length ≤ 4611686018427387904) {res : Option S65} (hf : firstI lo hi t0 t1 but L2 = res) :
    Calls Try.prog 38 #[.pointer (some ⟨g, 0, none⟩), .string lo, .string hi, .agg #[.int .u64 t0, .int .u32 t1], .slice A but.length k] W' fun e W'' => e = ofEnd res ∧ Tr w W'' t m g L1 L2 fp fr B ∧ Mod W' W'' [] := by
  have h' := h.mod mm
  refine (rfirst_calls h'.hR hLl lo hi t0 t1 A k but (Kd.C_below hr h'.hM.bel) hc hbl hf).mono ?_
  rintro e W'' ⟨he, m2⟩
  exact ⟨he, h'.mod m2, m2⟩
theorem tr_right (h : Tr w V t m g L1 L2 fp fr B) (mm : Mod V W' []) {A : Option Addr} {k : Nat} {l : List S63} (hr : Kd.C k63 w A l.length l) (hc : l.length ≤ k) {b : Bool} (hb : rightW l = b) :
    Calls Try.prog 31 #[.slice A l.length k] W' fun e W'' => e = .returned (.bool b) ∧ Mod W' W'' [] :=
  rightW_calls A k l _ (Kd.C_below hr (h.mod mm).hM.bel) hc hb
theorem tr_rright (h : Tr w V t m g L1 L2 fp fr B) (mm : Mod V W' []) {A : Option Addr} {k : Nat} {l : List S63} (hr : Kd.C k63 w A l.length l) (hc : l.length ≤ k) (hl : l.length ≤ 1000000) {b : Bool} (hb : rightW l = b) :
    Calls Try.prog 41 #[.slice A l.length k] W' fun e W'' => e = .returned (.bool b) ∧ Mod W' W'' [] :=
  rright_calls (Kd.C_below hr (h.mod mm).hM.bel) hc hl hb
end
def otherB : ByteArray := ⟨#[111, 116, 104, 101, 114]⟩
def oth (x : S63) : S63 := { x with f0 := otherB }
def mixO (l : List S63) (j : Nat) : List S63 := (l.take j).map oth ++ l.drop j
theorem mixO_len (l : List S63) {j : Nat} (h : j ≤ l.length) : (mixO l j).length = l.length := by unfold mixO; simp; omega
theorem mixO_get (l : List S63) {j : Nat} (h : j < l.length) (h' : j < (mixO l j).length) : (mixO l j)[j] = l[j] := by
  have e : (mixO l j)[j]? = some l[j] := by unfold mixO; rw [List.getElem?_append_right (by simp; omega)]; simp [Nat.min_eq_left (Nat.le_of_lt h)]
  rw [List.getElem?_eq_getElem h'] at e
  exact Option.some.inj e
theorem set_mid63 (a b : List S63) (x : S63) {j : Nat} (h : a.length = j) : (a ++ b).set j x = a ++ b.set 0 x := by subst h; simp
theorem mixO_next (l : List S63) {j : Nat} (h : j < l.length) : mixO l (j + 1) = (mixO l j).set j (oth l[j]) := by
  unfold mixO
  rw [set_mid63 _ _ _ (by simp; omega), List.take_succ_eq_append_getElem h, List.drop_eq_getElem_cons h, List.map_append, List.append_assoc]
  rfl
theorem ofEnd_z {r : Option S65} {z : S65} {ok : Bool} (h1 : r.getD z65 = z) (h2 : r.isSome = ok) : ofEnd r = .returned (.tuple #[.agg #[.int .u32 z.f0.f0, .int .u32 z.f0.f1, .int .u64 z.f1.f0, .int .u32 z.f1.f1, .int .u64 z.f2.f0, .int .u32 z.f2.f1, .string z.f3, .string z.f4.f0, .string z.f4.f1, .bool z.f4.f2], .bool ok]) := by
  subst h1 h2
  cases r <;> rfl
theorem same_calls2 {V W : World} {A1 A2 : Option Addr} {c1 c2 : Nat} {L : List S65} (hl : L.length ≤ 1000000) (h1 : L.length ≤ c1 ∧ Kd.C k65 V A1 L.length L) (h2 : L.length ≤ c2 ∧ Kd.C k65 V A2 L.length L) (m : Mod V W []) :
    Calls Try.prog 35 #[.slice A1 L.length c1, .slice A2 L.length c2] W fun e W' => e = .returned (.bool true) ∧ Mod W W' [] :=
  same_calls hl ⟨h1.1, Kd.C_below h1.2 m.bel⟩ ⟨h2.1, Kd.C_below h2.2 m.bel⟩
/-- the law's own copy of the writes, beside it all -/
structure Ti (w V : World) (t m g : Nat) (L1 L2 : List S65) (fp fr : List Nat) (B : List (Nat × Obj)) (v : Value) (l : List S63) : Prop where
  hD : Tr w V t m g L1 L2 fp fr B
  hI : Row k63 63 V v l
  ni : ∀ y ∈ ownList v, y ∉ fp ∧ y ∉ fr ∧ w.heap.size ≤ y ∧ ∀ p ∈ B, p.1 ≠ y
section
variable {w V V' W' : World} {t m m' g : Nat} {L1 L2 L1' L2' : List S65} {fp fr fp' fr' : List Nat} {B : List (Nat × Obj)} {v : Value} {l : List S63}
theorem Ti.mod (h : Ti w V t m g L1 L2 fp fr B v l) (mm : Mod V V' []) : Ti w V' t m g L1 L2 fp fr B v l := ⟨h.hD.mod mm, h.hI.mod plain63 mm (fun _ _ => by simp), h.ni⟩
theorem Ti.made (h : Tr w V t m g L1 L2 fp fr B) (mm : Mod V V' []) (hr : k63.R 63 V' V.heap.size (fun _ => True) v l) : Ti w V' t m g L1 L2 fp fr B v l := by
  have hs := h.hM.size
  have hb : ∀ y ∈ ownList v, V.heap.size ≤ y := fun y hy => Kd.R_base hr y (own_mem _ y hy)
  refine ⟨h.mod mm, Row.of hr, fun y hy => ⟨fun hm => ?_, fun hm => ?_, ?_, fun p hp e => ?_⟩⟩
  · have := hb y hy; have := h.hT.lt y hm; omega
  · have := hb y hy; have := h.hR.lt y hm; omega
  · have := hb y hy; omega
  · have := hb y hy; have := blk_lt (h.hx p hp).1; omega
theorem ti_lay {A : Option Addr} {cap : Nat} (h : Ti w V t m g L1 L2 fp fr B (.slice A l.length cap) l) (mm : Mod V W' []) (hmx : m ≤ 1000000) (hLl : L1.length ≤ 1000000) (c n : Int) (hk : inK c n) (st mn : S35) (pr : ByteArray) (hc : l.length ≤ cap) (hl : l.length ≤ 1000000) {r : Int} {L' : List S65} (e1 : layB L1 c n st mn pr l = r) (e2 : layL L1 c n st mn pr l = L') :
    Calls Try.prog 26 #[.pointer (some ⟨t, 0, none⟩), .agg #[.int .u32 c, .int .u32 n], .agg #[.int .u64 st.f0, .int .u32 st.f1], .agg #[.int .u64 mn.f0, .int .u32 mn.f1], .string pr, .slice A l.length cap] W' fun e W'' => e = .returned (.int .i64 r) ∧ ∃ fp', Ti w W'' t (m + 1) g L' L2 fp' fr B (.slice A l.length cap) l := by
  have h' := h.mod mm
  obtain ⟨A1, c1, e, h1, h2⟩ := h'.hI.C
  injection e with ea eb ec
  subst ea ec
  refine (tr_lay h'.hD (Mod.refl _ _) hmx hLl c n hk st mn pr h2 (fun ad e _ hm => (h'.ni ad.block (by subst e; simp [ownList])).1 hm) hc hl e1 e2).mono ?_
  rintro e W'' ⟨rfl, fp', hD, hs, m2⟩
  refine ⟨rfl, fp', hD, h'.hI.mod plain63 m2 (fun y hy => (h'.ni y hy).1), fun y hy => ⟨fun hm => ?_, (h'.ni y hy).2⟩⟩
  rcases hs y hm with e | e
  · exact (h'.ni y hy).1 e
  · have := h'.hI.lt y hy; omega
theorem ti_rlay (h : Ti w V t m g L1 L2 fp fr B v l) (mm : Mod V W' []) (hLl : L2.length ≤ 900000) (c n : Int) (st mn : S35) (pr : ByteArray) {A : Option Addr} {cap : Nat} {xs : List S63} (hr : Kd.C k63 w A xs.length xs) (hc : xs.length ≤ cap) (hl : xs.length ≤ 1000000) {r : Int} {L' : List S65} (e1 : layB L2 c n st mn pr xs = r) (e2 : layL L2 c n st mn pr xs = L') :
    Calls Try.prog 34 #[.pointer (some ⟨g, 0, none⟩), .agg #[.int .u32 c, .int .u32 n], .agg #[.int .u64 st.f0, .int .u32 st.f1], .agg #[.int .u64 mn.f0, .int .u32 mn.f1], .string pr, .slice A xs.length cap] W' fun e W'' => e = .returned (.int .i64 r) ∧ ∃ fr', Ti w W'' t m g L1 L' fp fr' B v l := by
  have h' := h.mod mm
  refine (tr_rlay h'.hD (Mod.refl _ _) hLl c n st mn pr hr hc hl e1 e2).mono ?_
  rintro e W'' ⟨rfl, fr', hD, hs, m2⟩
  refine ⟨rfl, fr', hD, h'.hI.mod plain63 m2 (fun y hy => (h'.ni y hy).2.1), fun y hy => ⟨(h'.ni y hy).1, fun hm => ?_, (h'.ni y hy).2.2⟩⟩
  rcases hs y hm with e | e
  · exact (h'.ni y hy).2.1 e
  · have := h'.hI.lt y hy; omega
/-- one write of the copy, and what a new key leaves -/
theorem Ti.at_ {A : Option Addr} {cap : Nat} (h : Ti w V t m g L1 L2 fp fr B (.slice A l.length cap) l) (i : Nat) (hi : i < l.length) : ∃ gb, A = some ⟨gb, 0, none⟩ ∧
    (V.cell? ⟨gb, i * 3, none⟩ = some (.string l[i].f0) ∧ V.cell? ⟨gb, i * 3 + 1, none⟩ = some (.string l[i].f1) ∧ V.cell? ⟨gb, i * 3 + 2, none⟩ = some (.bool l[i].f2)) ∧ V.frozen? ⟨gb, i * 3, none⟩ = false ∧
    ∀ b : ByteArray, Ti w (V.setCell ⟨gb, i * 3, none⟩ (.string b)) t m g L1 L2 fp fr B (.slice A l.length cap) (l.set i { l[i] with f0 := b }) := by
  obtain ⟨gb, cap', e, _, hlt, hb⟩ := Kd.R_form h.hI (by omega)
  injection e with ea eb ec
  subst ea ec
  obtain ⟨c, hcl, hM, hcc, hfr⟩ := Kd.R_elem h.hI z63 (i : Int) (by omega) (by omega)
  rw [Int.toNat_natCast, List.getD_eq_getElem?_getD, List.getElem?_eq_getElem hi, Option.getD_some] at hM
  have hc := k63_openM hM
  subst hc
  rw [Int.toNat_natCast] at hcc hfr
  refine ⟨gb, rfl, ⟨hcc 0 _ rfl, hcc 1 _ rfl, hcc 2 _ rfl⟩, hfr 0, fun b => ?_⟩
  have hs := Kd.R_seg h.hI (i : Int) (by omega) (by omega) (seg := [.string b]) (j := 0) (x' := { l[i] with f0 := b }) (okp := fun _ => False) rfl (by rw [Int.toNat_natCast]; exact hcc) (by show 0 + 1 ≤ 3; omega) (k63_mkM V 0 _ { l[i] with f0 := b }) (fun _ hk => hk.elim)
  rw [Int.toNat_natCast] at hs
  have hs1 : Row k63 63 (V.setCell ⟨gb, i * 3, none⟩ (.string b)) (.slice (some ⟨gb, 0, none⟩) l.length cap) (l.set i { l[i] with f0 := b }) := hs.1
  have hm : Mod V (V.setCell ⟨gb, i * 3, none⟩ (.string b)) [gb] := (Mod.refl V [gb]).setCell (p := ⟨gb, i * 3, none⟩) (.inl (by simp)) _
  obtain ⟨n1, n2, n3, n4⟩ := h.ni gb (by simp [ownList])
  refine ⟨⟨h.hD.hT.mod hm (fun x hx hz => n1 (by simp at hz; exact hz ▸ hx)), h.hD.hR.mod hm (fun x hx hz => n2 (by simp at hz; exact hz ▸ hx)), h.hD.gf, h.hD.gr, h.hD.hM.trans hm (fun k hk => .inr (by simp at hk; subst hk; exact n3)), h.hD.dj, fun p hp => ⟨hm.at_ (h.hD.hx p hp).1 (by simpa using n4 p hp), (h.hD.hx p hp).2⟩⟩, hs1, h.ni⟩
end
theorem tr_cells {w V W' : World} {t m g : Nat} {L1 L2 : List S65} {fp fr : List Nat} {q : Nat} {v0 v1 v2 v3 v4 v5 v6 v7 v8 v9 va vb : Value} {B : List (Nat × Obj)} (h : Tr w V t m g L1 L2 fp fr ((q, .cells #[v0, v1, v2, v3, v4, v5, v6, v7, v8, v9, va, vb] 58) :: B)) (mm : Mod V W' []) :
    W'.cell? ⟨q, 0, none⟩ = some v0 ∧ W'.cell? ⟨q, 1, none⟩ = some v1 ∧ W'.cell? ⟨q, 2, none⟩ = some v2 ∧ W'.cell? ⟨q, 3, none⟩ = some v3 ∧ W'.cell? ⟨q, 4, none⟩ = some v4 ∧ W'.cell? ⟨q, 5, none⟩ = some v5 ∧ W'.cell? ⟨q, 6, none⟩ = some v6 ∧ W'.cell? ⟨q, 7, none⟩ = some v7 ∧ W'.cell? ⟨q, 8, none⟩ = some v8 ∧ W'.cell? ⟨q, 9, none⟩ = some v9 ∧ W'.cell? ⟨q, 10, none⟩ = some va ∧ W'.cell? ⟨q, 11, none⟩ = some vb := by
  have hx := h.at_ (List.mem_cons_self) mm
  exact ⟨(blk_cell hx 0).trans rfl, (blk_cell hx 1).trans rfl, (blk_cell hx 2).trans rfl, (blk_cell hx 3).trans rfl, (blk_cell hx 4).trans rfl, (blk_cell hx 5).trans rfl, (blk_cell hx 6).trans rfl, (blk_cell hx 7).trans rfl, (blk_cell hx 8).trans rfl, (blk_cell hx 9).trans rfl, (blk_cell hx 10).trans rfl, (blk_cell hx 11).trans rfl⟩
theorem Tr.start {w V1 : World} {t : Nat} {fp : List Nat} (hT : Tab V1 t 0 [] fp) (m1 : Mod w V1 []) (hn : ∀ y ∈ fp, w.heap.size ≤ y) : Tr w (V1.alloc (.cells #[.slice none 0 0] 79)) t 0 V1.heap.size [] [] fp [V1.heap.size] [] := by
  have m2 : Mod V1 (V1.alloc (.cells #[.slice none 0 0] 79)) [] := (Mod.refl V1 []).alloc _
  have h3 := m1.size
  exact ⟨hT.mod0 m2, ⟨.slice none 0 0, blk_new V1 _, Row.nil _ _ _, by simp [ownList], rfl⟩, hn, fun y hy => by simp at hy; omega, m1.trans m2 (by simp), fun y hy hm => by have := hT.lt y hy; simp at hm; omega, fun p hp => by cases hp⟩
theorem row_empty (V : World) : Kd.R k63 63 (V.alloc (.cells #[] 63)) V.heap.size (fun _ => True) (.slice (some ⟨V.heap.size, 0, none⟩) 0 0) ([] : List S63) :=
  ⟨fun _ _ => trivial, [], World.ownsRow_made V #[] 0 (Nat.le_refl _) (Nat.zero_le _) rfl, rfl, fun j p hj => by simp at hj⟩
def okAct2 (a : S58) : Prop := okAct a ∧ 0 ≤ a.f3.f0 ∧ 0 ≤ a.f3.f1
end Go.Proofs.Ytdelbidaclddgaa.Lat
