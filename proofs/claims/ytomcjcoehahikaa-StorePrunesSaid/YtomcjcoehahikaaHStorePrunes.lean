/- The law StorePrunes walked by hand; a seat's own text. -/
import Derived.Test.YtomcjcoehahikaaStoLaw
import Derived.Deep.LoopGhost
import Derived.Deep.Cut
import Derived.Lib.Hide
import Derived.StillTailTactics
import Derived.Deep.QuietTactic
import Derived.BigQuiet
import Derived.Outline
import Derived.Deep.RegionWith
import Derived.Deep.RegionHeld3
import Derived.WalkLawsBesides
namespace Go.Proofs.Ytomcjcoehahikaa.Sto
open Go.RowKit Go.Proofs.YtomcjcoehahikaaW.PrintWords
set_option linter.unusedVariables false
set_option linter.unusedSimpArgs false
open Go.Proofs.Ytomcjcoehahikaa.Ord Go.Proofs.Ytomcjcoehahikaa.MStoreRuns Go.Proofs.YtomcjcoehahikaaW.PrintLast
/-! StorePrunes -/
theorem items_at {W : World} {L : St} {A : Option Addr} (h : Kd.C k56 W A L.length (itemsL L)) (j : Nat) (hj : j < L.length) : ∃ ad A5 c5, A = some ad ∧ W.cell? (ad.add (j * 2)) = some (.string L[j].1) ∧ W.cell? ⟨(ad.add (j * 2)).block, (ad.add (j * 2)).off + 1, none⟩ = some (.slice A5 L[j].2.length c5) := by
  obtain ⟨ad, A5, c5, rfl, k0, k1, _, _⟩ := at_T56 h j (by omega) (by omega)
  have hrd : rd_T56 (itemsL L) (j : Int) = ⟨L[j].1, L[j].2⟩ := by
    unfold rd_T56 itemsL
    rw [Int.toNat_natCast, List.getD_eq_getElem?_getD, List.getElem?_map, List.getElem?_eq_getElem hj]
    rfl
  rw [hrd] at k0 k1
  rw [Int.toNat_natCast] at k0 k1
  exact ⟨ad, A5, c5, rfl, k0, k1⟩
def ItemsC (W : World) (L : St) (e : Ending) (W' : World) : Prop := ∃ A c, e = .returned (.slice A L.length c) ∧ L.length ≤ c ∧ Kd.C k56 W' A L.length (itemsL L) ∧ Mod W W' []
theorem kitemsC {w W : World} {s : Nat} {L : St} (h : OwnS w W s L) (hl : L.length ≤ 1000000) : Calls Try.prog 28 #[.pointer (some ⟨s, 0, none⟩)] W (ItemsC W L) := by
  refine (kitems h hl).mono ?_
  rintro e W4 ⟨A4, c4, rfl, r4, m4⟩
  obtain ⟨A4', c4', e4, hc4, C4⟩ := Kd.R_reads r4
  injection e4 with e1 _ e3
  subst e1
  subst e3
  have hil : (itemsL L).length = L.length := by unfold itemsL; rw [List.length_map]
  rw [hil] at C4 hc4 ⊢
  exact ⟨A4, c4, rfl, hc4, C4, m4⟩
set_option maxRecDepth 100000 in
set_option maxHeartbeats 16000000 in
theorem prunes_calls {W : World} {A : Option Addr} {c : Nat} {l : List S69} (s0 s1 x0 x1 : Int) (hr : Kd.C k69 W A l.length l) (hc : l.length ≤ c) :
    Calls Try.prog 10 #[.slice A l.length c, .agg #[.int .u64 s0, .int .u32 s1], .agg #[.int .u64 x0, .int .u32 x1]] W (AwkP W) := by
  have hm := ((Mod.refl W []).alloc (.cells #[.int .u64 s0, .int .u32 s1] 27)).alloc (.cells #[.int .u64 x0, .int .u32 x1] 27)
  have hb := blk_alloc (blk_new W (.cells #[.int .u64 s0, .int .u32 s1] 27)) (.cells #[.int .u64 x0, .int .u32 x1] 27)
  have hb2 := blk_new (W.alloc (.cells #[.int .u64 s0, .int .u32 s1] 27)) (.cells #[.int .u64 x0, .int .u32 x1] 27)
  rw [show (W.alloc (.cells #[.int .u64 s0, .int .u32 s1] 27)).heap.size = W.heap.size + 1 by simp] at hb2
  have HR := Lib.hid (And.intro (Kd.C_below hr (Mod.bel hm)) hc)
  have hfl := fill_right (l.take 100) (L := []) (fun p hp => by cases hp)
  have hfn := fill_len (l.take 100) []
  have h100 : (l.take 100).length ≤ 100 := List.length_take_le _ _
  have HF := Lib.hid (And.intro hfl (show (fillL [] (l.take 100)).length ≤ 100 by simp at hfn; omega))
  have H := Lib.hid (And.intro hm (And.intro hb hb2))
  clear hr hc hm hb hb2 hfl hfn h100
  go_enter Try.func10, Try.ntmps10
  go_wp2_with fail
  generalize (W.alloc (.cells #[.int .u64 s0, .int .u32 s1] 27)).alloc (.cells #[.int .u64 x0, .int .u32 x1] 27) = W1 at H HR ⊢
  generalize W.heap.size = v at H ⊢
  refine awake_calls.mono ?_
  rintro e W2 ⟨rfl, m2⟩
  have ha := m2.at_ H.out.2.1 (by simp)
  have hx := m2.at_ H.out.2.2 (by simp)
  have qa0 : W2.cell? ⟨v, 0, none⟩ = some (.int .u64 s0) := (blk_cell ha 0).trans rfl
  have qa1 : W2.cell? ⟨v, 1, none⟩ = some (.int .u32 s1) := (blk_cell ha 1).trans rfl
  have qb0 : W2.cell? ⟨v + 1, 0, none⟩ = some (.int .u64 x0) := (blk_cell hx 0).trans rfl
  have qb1 : W2.cell? ⟨v + 1, 1, none⟩ = some (.int .u32 x1) := (blk_cell hx 1).trans rfl
  have H2 := Lib.hid (And.intro (H.out.1.trans m2 (by simp)) (And.intro ha (And.intro hx (Kd.C_below HR.out.1 (Mod.bel m2)))))
  clear m2 ha hx
  by_cases p1 : x0 < s0
  · go_wp2
    go_ret
    exact ⟨rfl, H2.out.1⟩
  by_cases p2 : x0 = s0 ∧ x1 < s1
  · obtain ⟨rfl, p3⟩ := p2
    go_wp2
    go_ret
    exact ⟨rfl, H2.out.1⟩
  have ht : ¬ (x0 < s0 ∨ x0 = s0 ∧ x1 < s1) := fun z => z.elim p1 p2
  have HT := Lib.hid ht
  have hpa : ((x0 == s0) = true ∧ ¬ (x1 < s1)) ∨ (x0 == s0) = false := by
    by_cases e : x0 = s0
    · exact .inl ⟨beq_iff_eq.2 e, fun z => p2 ⟨e, z⟩⟩
    · exact .inr (beq_eq_false_iff_ne.2 e)
  clear ht p2
  rcases hpa with ⟨p3, p4⟩ | p3
  all_goals
    go_wp2_with fail
    --X
    refine (filled_calls (w := W2) (Mod.refl W2 []) H2.out.2.2.2 HR.out.2).mono ?_
    rintro e W3 ⟨sa, rfl, h3⟩
    have H3 := Lib.hid h3
    clear h3
    go_wp2_with fail
    refine (filled_calls (w := W3) (Mod.refl W3 []) (Kd.C_below H2.out.2.2.2 (Mod.bel H3.out.m)) HR.out.2).mono ?_
    rintro e W4 ⟨sb, rfl, h4⟩
    generalize fillL [] (l.take 100) = L at *
    have hso := h4.sorted
    have har := h4.right
    have h4' := H3.out.two h4
    have h4a := (h4'.add (h4'.m.at_ H2.out.2.1 (by simp)) (blk_lt H2.out.2.1))
    have h4b := (h4a.add (h4'.m.at_ H2.out.2.2.1 (by simp)) (blk_lt H2.out.2.2.1))
    have hlp := len_prune L s0 s1
    have hgp := gone_prune har s0 s1
    have hlb := lenS_le har
    have HP := Lib.hid (And.intro hso (And.intro har (And.intro hlp (And.intro hgp hlb))))
    have H4 := Lib.hid h4b
    clear h4 h4' h4a h4b hso har hlp hgp hlb qa0 qa1 qb0 qb1 p1 H3
    go_wp2_with fail
    refine (kitemsC H4.out.s (by have := HF.out.2; omega)).mono ?_
    rintro e W5 ⟨A5, c5, rfl, hc5, C5, m5⟩
    have H5 := Lib.hid (And.intro (H4.out.mod (thingS _ _) (thingS _ _) m5) C5)
    clear C5 m5
    go_wp2_with fail
    go_loopg [9, 49] L.length (fun k nv i wr => ∃ j : Nat, j ≤ L.length ∧ k = L.length - j ∧ i = .int .i64 j ∧ nv = .int .i64 ((lenS (L.take j) : Nat)) ∧ Mod W5 wr [])
    case atStart => exact ⟨0, Nat.zero_le _, rfl, rfl, rfl, Mod.refl _ _⟩
    case round =>
      obtain ⟨j, hj, rfl, rfl, rfl, hM⟩ := hrel
      by_cases hjl : j < L.length
      · have hjz : (j : Int) < (L.length : Int) := by omega
        obtain ⟨ad, A5, c5, rfl, k0, k1⟩ := items_at (Kd.C_below H5.out.2 (Mod.bel hM)) j hjl
        have hln := lenS_next L hjl
        have hb1 := lenS_le (HP.out.2.1.take j)
        have hb0 : (L.take j).length ≤ j := List.length_take_le _ _
        have hb2 := (HP.out.2.1 _ (List.getElem_mem hjl)).n
        have HJ := Lib.hid (And.intro hM hln)
        clear hM
        have hll := HF.out.2
        have hw : IntKind.i64.wrap ((j : Int) + 1) = ((j + 1 : Nat) : Int) := by rw [i64w (by omega) (by omega)]; omega
        have hw2 : IntKind.i64.wrap ((lenS (L.take j) : Int) + (L[j].2.length : Int)) = (lenS (L.take j) : Int) + (L[j].2.length : Int) := by rw [i64w (by omega) (by omega)]
        have hw3 : (lenS (L.take j) : Int) + (L[j].2.length : Int) = ((lenS (L.take (j + 1)) : Nat) : Int) := by omega
        have HW3 := Lib.hid hw3
        clear hw3 hln hll hb0
        generalize L[j].1 = kk at *
        generalize L[j].2 = ll at *
        go_wp2
        go_roundg (L.length - (j + 1))
        case measure => omega
        case rel => exact ⟨j + 1, by omega, rfl, by rw [show ((j + 1 : Nat) : Int) = (j : Int) + 1 by omega], congrArg (Value.int IntKind.i64) HW3.out, HJ.out.1.alloc _⟩
      · obtain rfl : j = L.length := by omega
        have hjz : ¬ (L.length : Int) < (L.length : Int) := by omega
        rw [List.take_length]
        have hk6 := H5.out.1.mod (thingS _ _) (thingS _ _) hM
        have qa0 : wr.cell? ⟨v, 0, none⟩ = some (.int .u64 s0) := (blk_cell (hk6.at (b := v) (o := .cells #[.int .u64 s0, .int .u32 s1] 27) (by simp)) 0).trans rfl
        have qa1 : wr.cell? ⟨v, 1, none⟩ = some (.int .u32 s1) := (blk_cell (hk6.at (b := v) (o := .cells #[.int .u64 s0, .int .u32 s1] 27) (by simp)) 1).trans rfl
        have qb0 : wr.cell? ⟨v + 1, 0, none⟩ = some (.int .u64 x0) := (blk_cell (hk6.at (b := v + 1) (o := .cells #[.int .u64 x0, .int .u32 x1] 27) (by simp)) 0).trans rfl
        have qb1 : wr.cell? ⟨v + 1, 1, none⟩ = some (.int .u32 x1) := (blk_cell (hk6.at (b := v + 1) (o := .cells #[.int .u64 x0, .int .u32 x1] 27) (by simp)) 1).trans rfl
        have H6 := Lib.hid hk6.swap
        clear hM hk6
        go_wp2_with fail
        obtain ⟨n, hn⟩ : ∃ n, gone L s0 s1 = n := ⟨_, rfl⟩
        obtain ⟨M, hMM⟩ : ∃ M, pruneS L s0 s1 = M := ⟨_, rfl⟩
        have HM := Lib.hid (And.intro hMM hn)
        clear hMM hn
        refine (tprune (thingS _ _) s0 s1 H6.out (by have := HF.out.2; omega) HM.out.1 HM.out.2).mono ?_
        rintro e W6 ⟨rfl, h7⟩
        have hMl : M.length ≤ 100 := by rw [← HM.out.1]; have := prune_length L s0 s1; have := HF.out.2; omega
        have H7 := Lib.hid (And.intro h7 (And.intro hMl h7.s.right))
        clear h7 hMl qa0 qa1 qb0 qb1
        go_wp2_with fail
        refine (kitemsC H7.out.1.s (by have := H7.out.2.1; omega)).mono ?_
        rintro e W7 ⟨A7, c7, rfl, hc7, C7, m7⟩
        have H8 := Lib.hid (And.intro (H7.out.1.mod (thingS _ _) (thingS _ _) m7) C7)
        clear C7 m7
        go_wp2_with fail
        go_loopg [9, 65] M.length (fun k nv i wr => ∃ j : Nat, j ≤ M.length ∧ k = M.length - j ∧ i = .int .i64 j ∧ nv = .int .i64 ((lenS L : Int) - (lenS (M.take j) : Nat)) ∧ Mod W7 wr [])
        case atStart => exact ⟨0, Nat.zero_le _, rfl, rfl, by simp [lenS], Mod.refl _ _⟩
        case round =>
          obtain ⟨j, hj, rfl, rfl, rfl, hM⟩ := hrel
          by_cases hjl : j < M.length
          · have hjz : (j : Int) < (M.length : Int) := by omega
            obtain ⟨ad, A5, c5, rfl, k0, k1⟩ := items_at (Kd.C_below H8.out.2 (Mod.bel hM)) j hjl
            have hln := lenS_next M hjl
            have hb1 := lenS_le (H7.out.2.2.take j)
            have hb0 : (M.take j).length ≤ j := List.length_take_le _ _
            have hb2 := (H7.out.2.2 _ (List.getElem_mem hjl)).n
            have HJ := Lib.hid (And.intro hM hln)
            clear hM
            have hll := And.intro H7.out.2.1 (And.intro HP.out.2.2.2.2 HF.out.2)
            have hw : IntKind.i64.wrap ((j : Int) + 1) = ((j + 1 : Nat) : Int) := by rw [i64w (by omega) (by omega)]; omega
            have hw2 : IntKind.i64.wrap (((lenS L : Int) - (lenS (M.take j) : Int)) - (M[j].2.length : Int)) = ((lenS L : Int) - (lenS (M.take j) : Int)) - (M[j].2.length : Int) := by rw [i64w (by omega) (by omega)]
            have hw3 : ((lenS L : Int) - (lenS (M.take j) : Int)) - (M[j].2.length : Int) = (lenS L : Int) - ((lenS (M.take (j + 1)) : Nat) : Int) := by omega
            have HW3 := Lib.hid hw3
            clear hw3 hln hll hb0
            generalize M[j].1 = kk at *
            generalize M[j].2 = ll at *
            go_wp2
            go_roundg (M.length - (j + 1))
            case measure => omega
            case rel => exact ⟨j + 1, by omega, rfl, by rw [show ((j + 1 : Nat) : Int) = (j : Int) + 1 by omega], congrArg (Value.int IntKind.i64) HW3.out, HJ.out.1.alloc _⟩
          · obtain rfl : j = M.length := by omega
            have hjz : ¬ (M.length : Int) < (M.length : Int) := by omega
            rw [List.take_length]
            have hk9 := H8.out.1.mod (thingS _ _) (thingS _ _) hM
            have qa0 : wr.cell? ⟨v, 0, none⟩ = some (.int .u64 s0) := (blk_cell (hk9.at (b := v) (o := .cells #[.int .u64 s0, .int .u32 s1] 27) (by simp)) 0).trans rfl
            have qa1 : wr.cell? ⟨v, 1, none⟩ = some (.int .u32 s1) := (blk_cell (hk9.at (b := v) (o := .cells #[.int .u64 s0, .int .u32 s1] 27) (by simp)) 1).trans rfl
            have qb0 : wr.cell? ⟨v + 1, 0, none⟩ = some (.int .u64 x0) := (blk_cell (hk9.at (b := v + 1) (o := .cells #[.int .u64 x0, .int .u32 x1] 27) (by simp)) 0).trans rfl
            have qb1 : wr.cell? ⟨v + 1, 1, none⟩ = some (.int .u32 x1) := (blk_cell (hk9.at (b := v + 1) (o := .cells #[.int .u64 x0, .int .u32 x1] 27) (by simp)) 1).trans rfl
            have hnn : (lenS L : Int) - (lenS M : Int) = (n : Int) := by have := HP.out.2.2.1; rw [HM.out.1, HM.out.2] at this; omega
            rw [hnn]
            have H9 := Lib.hid hk9
            clear hM hk9 hnn
            go_wp2_with fail
            refine (tprune (n := 0) (L' := M) (thingS _ _) s0 s1 H9.out (by have := H7.out.2.1; omega) (by rw [← HM.out.1]; exact pruneS_twice HP.out.2.1 s0 s1) (by rw [← HM.out.1]; exact HP.out.2.2.2.1)).mono ?_
            rintro e W9 ⟨rfl, h10⟩
            have hgt : ∀ kk, getS M kk x0 x1 = getS L kk x0 x1 := fun kk => by rw [← HM.out.1]; exact getS_prune HP.out.1 HP.out.2.1 HT.out kk
            have hsc : scanS M ⟨#[]⟩ ⟨#[]⟩ x0 x1 40 = scanS L ⟨#[]⟩ ⟨#[]⟩ x0 x1 40 := by rw [← HM.out.1]; exact scan_prune HP.out.1 HP.out.2.1 HT.out 40
            have HG := Lib.hid (And.intro hgt hsc)
            have H10 := Lib.hid h10.swap
            clear h10 hgt hsc qa0 qa1 qb0 qb1
            go_wp2_with fail
            refine (kitemsC H10.out.s (by have := HF.out.2; omega)).mono ?_
            rintro e W10 ⟨A10, c10, rfl, hc10, C10, m10⟩
            have H11 := Lib.hid (And.intro (H10.out.mod (thingS _ _) (thingS _ _) m10) C10)
            clear C10 m10
            go_wp2_with fail
            go_loopg [87] L.length (fun k i wr => ∃ j : Nat, j ≤ L.length ∧ k = L.length - j ∧ i = .int .i64 j ∧ Mod W10 wr [])
            case atStart => exact ⟨0, Nat.zero_le _, rfl, rfl, Mod.refl _ _⟩
            case round =>
              obtain ⟨j, hj, rfl, rfl, hM⟩ := hrel
              by_cases hjl : j < L.length
              · have hjz : (j : Int) < (L.length : Int) := by omega
                obtain ⟨ad, A5, c5, rfl, k0, k1⟩ := items_at (Kd.C_below H11.out.2 (Mod.bel hM)) j hjl
                have hw : IntKind.i64.wrap ((j : Int) + 1) = ((j + 1 : Nat) : Int) := by have := HF.out.2; rw [i64w (by omega) (by omega)]; omega
                generalize L[j].1 = kk at *
                generalize L[j].2 = ll at *
                have hkA := (H11.out.1.mod (thingS _ _) (thingS _ _) hM).alloc (thingS _ _) (thingS _ _) (.cells #[.string kk, .slice A5 ll.length c5] 56)
                have hmA := hM.alloc (.cells #[.string kk, .slice A5 ll.length c5] 56)
                have qa0 : (wr.alloc (.cells #[.string kk, .slice A5 ll.length c5] 56)).cell? ⟨v, 0, none⟩ = some (.int .u64 s0) := (blk_cell (hkA.at (b := v) (o := .cells #[.int .u64 s0, .int .u32 s1] 27) (by simp)) 0).trans rfl
                have qa1 : (wr.alloc (.cells #[.string kk, .slice A5 ll.length c5] 56)).cell? ⟨v, 1, none⟩ = some (.int .u32 s1) := (blk_cell (hkA.at (b := v) (o := .cells #[.int .u64 s0, .int .u32 s1] 27) (by simp)) 1).trans rfl
                have qb0 : (wr.alloc (.cells #[.string kk, .slice A5 ll.length c5] 56)).cell? ⟨v + 1, 0, none⟩ = some (.int .u64 x0) := (blk_cell (hkA.at (b := v + 1) (o := .cells #[.int .u64 x0, .int .u32 x1] 27) (by simp)) 0).trans rfl
                have qb1 : (wr.alloc (.cells #[.string kk, .slice A5 ll.length c5] 56)).cell? ⟨v + 1, 1, none⟩ = some (.int .u32 x1) := (blk_cell (hkA.at (b := v + 1) (o := .cells #[.int .u64 x0, .int .u32 x1] 27) (by simp)) 1).trans rfl
                have HA := Lib.hid (And.intro hkA hmA)
                clear hkA hmA hM
                obtain ⟨x, b, hx⟩ : ∃ x b, getS L kk x0 x1 = (x, b) := ⟨_, _, rfl⟩
                have HX := Lib.hid hx
                clear hx
                go_wp2_with fail
                refine (oget kk x0 x1 HA.out.1.s HX.out).mono ?_
                rintro e W12 ⟨rfl, m12⟩
                have hkB := HA.out.1.mod (thingS _ _) (thingS _ _) m12
                clear qa0 qa1 qb0 qb1
                have qa0 : W12.cell? ⟨v, 0, none⟩ = some (.int .u64 s0) := (blk_cell (hkB.at (b := v) (o := .cells #[.int .u64 s0, .int .u32 s1] 27) (by simp)) 0).trans rfl
                have qa1 : W12.cell? ⟨v, 1, none⟩ = some (.int .u32 s1) := (blk_cell (hkB.at (b := v) (o := .cells #[.int .u64 s0, .int .u32 s1] 27) (by simp)) 1).trans rfl
                have qb0 : W12.cell? ⟨v + 1, 0, none⟩ = some (.int .u64 x0) := (blk_cell (hkB.at (b := v + 1) (o := .cells #[.int .u64 x0, .int .u32 x1] 27) (by simp)) 0).trans rfl
                have qb1 : W12.cell? ⟨v + 1, 1, none⟩ = some (.int .u32 x1) := (blk_cell (hkB.at (b := v + 1) (o := .cells #[.int .u64 x0, .int .u32 x1] 27) (by simp)) 1).trans rfl
                have hq0 : W12.cell? ⟨wr.heap.size, 0, none⟩ = some (.string kk) := (blk_cell (hkB.at (b := wr.heap.size) (o := .cells #[.string kk, .slice A5 ll.length c5] 56) (by simp)) 0).trans rfl
                have HB := Lib.hid (And.intro hkB (HA.out.2.trans m12 (by simp)))
                clear hkB m12
                generalize wr.heap.size = q at *
                go_wp2_with fail
                refine (oget kk x0 x1 HB.out.1.swap.s ((HG.out.1 kk).trans HX.out)).mono ?_
                rintro e W13 ⟨rfl, m13⟩
                have HC := Lib.hid (HB.out.2.trans m13 (by simp))
                clear m13
                go_wp2
                go_roundg (L.length - (j + 1))
                case measure => omega
                case rel => exact ⟨j + 1, by omega, rfl, by rw [show ((j + 1 : Nat) : Int) = (j : Int) + 1 by omega], HC.out⟩
              · obtain rfl : j = L.length := by omega
                have hjz : ¬ (L.length : Int) < (L.length : Int) := by omega
                have hk14 := H11.out.1.mod (thingS _ _) (thingS _ _) hM
                have qa0 : wr.cell? ⟨v, 0, none⟩ = some (.int .u64 s0) := (blk_cell (hk14.at (b := v) (o := .cells #[.int .u64 s0, .int .u32 s1] 27) (by simp)) 0).trans rfl
                have qa1 : wr.cell? ⟨v, 1, none⟩ = some (.int .u32 s1) := (blk_cell (hk14.at (b := v) (o := .cells #[.int .u64 s0, .int .u32 s1] 27) (by simp)) 1).trans rfl
                have qb0 : wr.cell? ⟨v + 1, 0, none⟩ = some (.int .u64 x0) := (blk_cell (hk14.at (b := v + 1) (o := .cells #[.int .u64 x0, .int .u32 x1] 27) (by simp)) 0).trans rfl
                have qb1 : wr.cell? ⟨v + 1, 1, none⟩ = some (.int .u32 x1) := (blk_cell (hk14.at (b := v + 1) (o := .cells #[.int .u64 x0, .int .u32 x1] 27) (by simp)) 1).trans rfl
                have H14 := Lib.hid hk14
                clear hM hk14
                obtain ⟨T, hT⟩ : ∃ T, scanS L ⟨#[]⟩ ⟨#[]⟩ x0 x1 40 = T := ⟨_, rfl⟩
                have hTl : T.length ≤ 1000 := by rw [← hT]; exact Nat.le_trans (scanA_le _ _ _ _ _) (by omega)
                have HTT := Lib.hid (And.intro hT hTl)
                clear hT hTl
                have HN := Lib.hid (And.intro (show L.length ≤ 1000000 by have := HF.out.2; omega) (And.intro (show M.length ≤ 1000000 by have := H7.out.2.1; omega) (show T.length ≤ 1000000000 by have := HTT.out.2; omega)))
                go_upto_region 28 with fail
                generalize wr = V at *
                go_region_held3 (fun w' => w'.cell? ⟨v + 1, 0, none⟩ = some (.int .u64 x0) ∧ w'.cell? ⟨v + 1, 1, none⟩ = some (.int .u32 x1)) (go_keep) (first
                  | (go_at_call 31
                     refine (pairs_calls (l := T) HN.out.2.2 rfl HE.out.2.1 ?_ rfl HE.out.2.2.2.1 ?_).mono ?_
                     · first | exact HE.out.2.2.1 | exact Kd.C_drewN HE.out.2.2.1 _ | exact Kd.C_drew HE.out.2.2.1
                     · first | exact HE.out.2.2.2.2 | exact Kd.C_drewN HE.out.2.2.2.2 _ | exact Kd.C_drew HE.out.2.2.2.2
                     rintro e W17 ⟨rfl, m17⟩
                     have n17 : Mod V W17 [] := by
                       refine Mod.trans ?_ m17 (by simp)
                       (with_reducible repeat (first | exact HE.out.1 | refine Mod.drewN ?_ _ | refine Mod.drew ?_))
                     have xc17 : W17.cell? ⟨v + 1, 0, none⟩ = some (.int .u64 x0) := (blk_cell ((H14.out.mod (thingS _ _) (thingS _ _) n17).at (b := v + 1) (o := .cells #[.int .u64 x0, .int .u32 x1] 27) (by simp)) 0).trans rfl
                     have xd17 : W17.cell? ⟨v + 1, 1, none⟩ = some (.int .u32 x1) := (blk_cell ((H14.out.mod (thingS _ _) (thingS _ _) n17).at (b := v + 1) (o := .cells #[.int .u64 x0, .int .u32 x1] 27) (by simp)) 1).trans rfl
                     have N17 := Lib.hid n17
                     clear m17 n17)
                  | (go_at_call 30
                     with_reducible refine (oscan (s := sa) ⟨#[]⟩ ⟨#[]⟩ x0 x1 40 (H14.out.s.mod (by (with_reducible repeat (first | exact Mod.refl _ _ | refine Mod.drewN ?_ _ | refine Mod.drew ?_)))) HN.out.1 HTT.out.1).mono ?_
                     rintro e W15 ⟨A15, c15, rfl, r15, b15, m15⟩
                     have n15 : Mod V W15 [] := by
                       refine Mod.trans ?_ m15 (by simp)
                       (with_reducible repeat (first | exact Mod.refl _ _ | refine Mod.drewN ?_ _ | refine Mod.drew ?_))
                     have xc15 : W15.cell? ⟨v + 1, 0, none⟩ = some (.int .u64 x0) := (blk_cell ((H14.out.mod (thingS _ _) (thingS _ _) n15).at (b := v + 1) (o := .cells #[.int .u64 x0, .int .u32 x1] 27) (by simp)) 0).trans rfl
                     have xd15 : W15.cell? ⟨v + 1, 1, none⟩ = some (.int .u32 x1) := (blk_cell ((H14.out.mod (thingS _ _) (thingS _ _) n15).at (b := v + 1) (o := .cells #[.int .u64 x0, .int .u32 x1] 27) (by simp)) 1).trans rfl
                     obtain ⟨A', c', e', g15, C15⟩ := r15.C
                     injection e' with e1 _ e3
                     subst e1
                     subst e3
                     have HD := Lib.hid (And.intro n15 (And.intro g15 C15))
                     clear m15 n15 r15 b15 g15 C15)
                  | (go_at_call 30
                     with_reducible refine (oscan (s := sb) ⟨#[]⟩ ⟨#[]⟩ x0 x1 40 ((H14.out.mod (thingS _ _) (thingS _ _) HD.out.1).swap.s.mod (by (with_reducible repeat (first | exact Mod.refl _ _ | refine Mod.drewN ?_ _ | refine Mod.drew ?_)))) HN.out.2.1 (HG.out.2.trans HTT.out.1)).mono ?_
                     rintro e W16 ⟨A16, c16, rfl, r16, b16, m16⟩
                     have n1516 : Mod W15 W16 [] := by
                       refine Mod.trans ?_ m16 (by simp)
                       (with_reducible repeat (first | exact Mod.refl _ _ | refine Mod.drewN ?_ _ | refine Mod.drew ?_))
                     have n16 : Mod V W16 [] := HD.out.1.trans n1516 (by simp)
                     have xc16 : W16.cell? ⟨v + 1, 0, none⟩ = some (.int .u64 x0) := (blk_cell ((H14.out.mod (thingS _ _) (thingS _ _) n16).at (b := v + 1) (o := .cells #[.int .u64 x0, .int .u32 x1] 27) (by simp)) 0).trans rfl
                     have xd16 : W16.cell? ⟨v + 1, 1, none⟩ = some (.int .u32 x1) := (blk_cell ((H14.out.mod (thingS _ _) (thingS _ _) n16).at (b := v + 1) (o := .cells #[.int .u64 x0, .int .u32 x1] 27) (by simp)) 1).trans rfl
                     obtain ⟨A', c', e', g16, C16⟩ := r16.C
                     injection e' with e1 _ e3
                     subst e1
                     subst e3
                     have HE := Lib.hid (And.intro n16 (And.intro HD.out.2.1 (And.intro (Kd.C_below HD.out.2.2 (Mod.bel n1516)) (And.intro g16 C16))))
                     clear m16 n16 n1516 r16 b16 g16 C16))
                all_goals
                  go_wp2
                  go_ret
                  exact ⟨rfl, H2.out.1.trans (H14.out.m.trans N17.out (by simp)) (by simp)⟩

def dovecotelaw09_StorePrunes.f (k : Nat) (l0 : List S69) (a1_0 a1_1 a2_0 a2_1 : Int) : Option Bool := some true
theorem dovecotelaw09_StorePrunes.calls (k : Nat) (A0 : Option Addr) (c0 : Nat) (l0 : List S69) (a1_0 : Int) (a1_1 : Int) (a2_0 : Int) (a2_1 : Int) (r : Bool) (w : World) (hr0 : Kd.C k69 w A0 l0.length l0) (hc0 : l0.length ≤ c0) (h : dovecotelaw09_StorePrunes.f k l0 a1_0 a1_1 a2_0 a2_1 = some r) :
    Calls Try.prog 10 #[.slice A0 l0.length c0, .agg #[.int .u64 a1_0, .int .u32 a1_1], .agg #[.int .u64 a2_0, .int .u32 a2_1]] w fun e w' => e = .returned (.bool r) ∧ Below w.heap.size w w' := by
  obtain rfl : true = r := Option.some.inj h
  exact (prunes_calls a1_0 a1_1 a2_0 a2_1 hr0 hc0).mono fun e w' ⟨h1, h2⟩ => ⟨h1, Mod.bel h2⟩
end Go.Proofs.Ytomcjcoehahikaa.Sto
