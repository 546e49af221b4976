/- The law StoreScans walked by hand; a seat's own text. -/
import Derived.Test.YtomcjcoehahikaaStoLaw
import Derived.Deep.LoopGhost
import Derived.Deep.Cut
import Derived.Lib.Hide
import Derived.StillTailTactics
import Derived.Deep.QuietTactic
import Derived.BigQuiet
import Derived.Outline
import Derived.Deep.RegionWith
import Derived.Deep.RegionHeld3
import Derived.WalkLawsBesides
namespace Go.Proofs.Ytomcjcoehahikaa.Sto
open Go.RowKit Go.Proofs.YtomcjcoehahikaaW.PrintWords
set_option linter.unusedVariables false
set_option linter.unusedSimpArgs false
open Go.Proofs.Ytomcjcoehahikaa.Ord Go.Proofs.Ytomcjcoehahikaa.MStoreRuns Go.Proofs.YtomcjcoehahikaaW.PrintLast
/-! StoreScans -/
theorem own_from {W : World} {B : Nat} {v : Value} {xs : List S60} (h : Row k60 60 W v xs) (hb : ∀ y ∈ ownList v, B ≤ y) : k60.R 60 W 0 (fun b => B ≤ b) v xs := Kd.R_flat (fun hx => plainP _ _ _ _ _ _ _ _ hx) h (fun k hk _ => hb k (own_own' v k hk))
set_option maxRecDepth 100000 in
set_option maxHeartbeats 8000000 in
theorem scans_calls {W : World} {A : Option Addr} {c : Nat} {l : List S69} (t0 t1 : Int) (mid : ByteArray) (hr : Kd.C k69 W A l.length l) (hc : l.length ≤ c) :
    Calls Try.prog 7 #[.slice A l.length c, .agg #[.int .u64 t0, .int .u32 t1], .string mid] W (AwkP W) := by
  have hm := (Mod.refl W []).alloc (.cells #[.int .u64 t0, .int .u32 t1] 27)
  have hb := blk_new W (.cells #[.int .u64 t0, .int .u32 t1] 27)
  have HR := Lib.hid (And.intro (Kd.C_below hr (Mod.bel hm)) hc)
  have hfl := fill_right (l.take 100) (L := []) (fun p hp => by cases hp)
  have hfn := fill_len (l.take 100) []
  have h100 : (l.take 100).length ≤ 100 := List.length_take_le _ _
  have HF := Lib.hid (And.intro hfl (show (fillL [] (l.take 100)).length ≤ 100 by simp at hfn; omega))
  have H := Lib.hid (And.intro hm hb)
  clear hr hc hm hb hfl hfn h100
  go_enter Try.func7, Try.ntmps7
  go_wp2_with fail
  generalize W.alloc (.cells #[.int .u64 t0, .int .u32 t1] 27) = W1 at H HR ⊢
  generalize W.heap.size = v at H ⊢
  refine awake_calls.mono ?_
  rintro e W2 ⟨rfl, m2⟩
  have H2 := Lib.hid (And.intro (H.out.1.trans m2 (by simp)) (And.intro (m2.at_ H.out.2 (by simp)) (Kd.C_below HR.out.1 (Mod.bel m2))))
  clear m2
  go_wp2_with fail
  refine (filled_calls (w := W2) (Mod.refl W2 []) H2.out.2.2 HR.out.2).mono ?_
  rintro e W3 ⟨s, rfl, h3⟩
  generalize fillL [] (l.take 100) = L at *
  have h3' := h3.k.add (h3.m.at_ H2.out.2.1 (by simp)) (blk_lt H2.out.2.1)
  have H3 := Lib.hid h3'
  clear h3 h3'
  go_wp2_with fail
  refine (kitems H3.out.s (by have := HF.out.2; omega)).mono ?_
  rintro e W4 ⟨A4, c4, rfl, r4, m4⟩
  obtain ⟨A4', c4', e4, hc4, C4⟩ := Kd.R_reads r4
  injection e4 with e1 _ e3
  subst e1
  subst e3
  have hil : (itemsL L).length = L.length := by unfold itemsL; rw [List.length_map]
  rw [hil] at C4 hc4 ⊢
  have H4 := Lib.hid (And.intro (H3.out.mod m4) (And.intro hc4 C4))
  clear hc4 C4 r4 m4 hil
  go_wp2_with fail
  go_loopg [8, 21] L.length (fun k lv i wr => ∃ j : Nat, j ≤ L.length ∧ k = L.length - j ∧ i = .int .i64 j ∧ k60.R 60 wr 0 (fun b => W4.heap.size ≤ b) lv (scanA L ((L.map Prod.fst).take j) t0 t1 1000) ∧ Mod W4 wr [])
  case atStart => exact ⟨0, Nat.zero_le _, rfl, rfl, by
    have e : scanA L ((L.map Prod.fst).take 0) t0 t1 1000 = [] := by simp [scanA]
    rw [e]; exact Kd.R_nil _ _ _ _ _, Mod.refl _ _⟩
  case round =>
    obtain ⟨j, hj, rfl, rfl, hR, hM⟩ := hrel
    obtain ⟨B, d, rfl, hd, hC⟩ := Kd.R_reads hR
    by_cases hjl : j < L.length
    · have hjz : (j : Int) < (L.length : Int) := by omega
      obtain ⟨ad, A5, c5, rfl, k0, k1, _, _⟩ := at_T56 (Kd.C_below H4.out.2.2 (Mod.bel hM)) j (by omega) (by omega)
      have hlen : (scanA L ((L.map Prod.fst).take j) t0 t1 1000).length < 1000 := by
        unfold scanA
        have h1 := List.length_take_le 1000 (((L.map Prod.fst).take j).filterMap (scanF L t0 t1))
        have h2 := List.length_filterMap_le (scanF L t0 t1) ((L.map Prod.fst).take j)
        rw [List.length_take, List.length_map] at h2
        have := HF.out.2
        rw [List.length_take]
        omega
      have hsn := scanA_snoc L (L.map Prod.fst) t0 t1 1000 j (by rw [List.length_map]; exact hjl) hlen
      rw [List.getElem_map] at hsn
      have hrd : rd_T56 (itemsL L) (j : Int) = ⟨L[j].1, L[j].2⟩ := by
        unfold rd_T56 itemsL
        rw [Int.toNat_natCast, List.getD_eq_getElem?_getD, List.getElem?_map, List.getElem?_eq_getElem hjl]
        rfl
      rw [hrd] at k0 k1
      rw [Int.toNat_natCast] at k0 k1
      dsimp only at k0 k1
      have HJ := Lib.hid (And.intro hR (And.intro hM hsn))
      clear hR hd hC hM hsn hrd
      have hw : IntKind.i64.wrap ((j : Int) + 1) = ((j + 1 : Nat) : Int) := by have := HF.out.2; rw [i64w (by omega) (by omega)]; omega
      generalize hac : scanA L ((L.map Prod.fst).take j) t0 t1 1000 = ac at *
      clear hac
      generalize L[j].1 = kk at *
      generalize L[j].2 = ll at *
      have hF : scanF L t0 t1 kk = if (getS L kk t0 t1).2 = true then some ⟨kk, (getS L kk t0 t1).1⟩ else none := rfl
      obtain ⟨x, b, hx⟩ : ∃ x b, getS L kk t0 t1 = (x, b) := ⟨_, _, rfl⟩
      rw [hx] at hF
      have HX := Lib.hid (And.intro hx hF)
      clear hx hF
      have hk6 := (H4.out.1.mod HJ.out.2.1).alloc (.cells #[.string kk, .slice A5 ll.length c5] 56)
      have ht0 : (wr.alloc (.cells #[.string kk, .slice A5 ll.length c5] 56)).cell? ⟨v, 0, none⟩ = some (.int .u64 t0) := (blk_cell (hk6.at (b := v) (o := .cells #[.int .u64 t0, .int .u32 t1] 27) (by simp)) 0).trans rfl
      have ht1 : (wr.alloc (.cells #[.string kk, .slice A5 ll.length c5] 56)).cell? ⟨v, 1, none⟩ = some (.int .u32 t1) := (blk_cell (hk6.at (b := v) (o := .cells #[.int .u64 t0, .int .u32 t1] 27) (by simp)) 1).trans rfl
      have H6 := Lib.hid hk6
      clear hk6
      go_wp2_with fail
      refine (oget kk t0 t1 H6.out.s HX.out.1).mono ?_
      rintro e W7 ⟨rfl, m7⟩
      have hk7 := H6.out.mod m7
      have hq0 : W7.cell? ⟨wr.heap.size, 0, none⟩ = some (.string kk) := (blk_cell (hk7.at (b := wr.heap.size) (o := .cells #[.string kk, .slice A5 ll.length c5] 56) (by simp)) 0).trans rfl
      have m47 : Mod W4 W7 [] := (HJ.out.2.1.alloc _).trans m7 (by simp)
      have H7 := Lib.hid (And.intro m47 (R_mod HJ.out.1 (((Mod.refl wr []).alloc _).trans m7 (by simp))))
      clear hk7 m7 m47 ht0 ht1
      generalize wr.heap.size = q at *
      cases b with
      | true =>
        go_wp2_with (first | (at_builtin; refine Kd.R_append k60 (w0 := W7) (W := W7) 0 rfl _ _ 52 60 (.agg #[.string ByteArray.empty, .string ByteArray.empty]) 32 rfl Try.underlying52 info60 rfl (by decide) (by decide) (.slice B ac.length d) ac ⟨kk, x⟩ [.string kk, .string x] (fun b => W4.heap.size ≤ b) (fun _ => False) rfl rfl (k60_mkM _ _ _ ⟨kk, x⟩) (fun k h => h.elim) ?d0 H7.out.2 ?d1 (Nat.zero_le _) ?d2 ?_) | fail)
        case d0 => exact fun k h => Nat.le_trans H7.out.1.size h
        case d1 => exact Below.refl _ _
        case d2 => omega
        intro v2 W8 o2 _ g2 _
        have ok2 : ∀ y ∈ ownList (.slice B ac.length d), W4.heap.size ≤ y := fun y hy => HJ.out.1.1 y (own_mem _ y hy)
        have m2 : Mod W4 W8 [] := H7.out.1.trans (mod_own g2) (fun y hy => .inr (ok2 y hy))
        have H8 := Lib.hid (And.intro o2 m2)
        clear o2 g2 m2 ok2
        go_wp2
        go_roundg (L.length - (j + 1))
        case measure => omega
        case rel => exact ⟨j + 1, by omega, rfl, by rw [show ((j + 1 : Nat) : Int) = (j : Int) + 1 by omega], by rw [HJ.out.2.2, HX.out.2]; exact H8.out.1, H8.out.2⟩
      | false =>
        go_wp2
        go_roundg (L.length - (j + 1))
        case measure => omega
        case rel => exact ⟨j + 1, by omega, rfl, by rw [show ((j + 1 : Nat) : Int) = (j : Int) + 1 by omega], by rw [HJ.out.2.2, HX.out.2]; simpa using H7.out.2, H7.out.1⟩
    · obtain rfl : j = L.length := by omega
      have hjz : ¬ (L.length : Int) < (L.length : Int) := by omega
      have hwl : ((L.map Prod.fst).filterMap (scanF L t0 t1)).length ≤ 100 := by
        have h2 := List.length_filterMap_le (scanF L t0 t1) (L.map Prod.fst)
        rw [List.length_map] at h2
        have := HF.out.2
        omega
      have hac : scanA L ((L.map Prod.fst).take L.length) t0 t1 1000 = (L.map Prod.fst).filterMap (scanF L t0 t1) := by
        have e0 : (L.map Prod.fst).take L.length = L.map Prod.fst := List.take_of_length_le (by simp)
        unfold scanA
        rw [e0, List.take_of_length_le (by omega)]
      rw [hac] at hR hd ⊢
      have hk5 := H4.out.1.mod hM
      have ht0 : wr.cell? ⟨v, 0, none⟩ = some (.int .u64 t0) := (blk_cell (hk5.at (b := v) (o := .cells #[.int .u64 t0, .int .u32 t1] 27) (by simp)) 0).trans rfl
      have ht1 : wr.cell? ⟨v, 1, none⟩ = some (.int .u32 t1) := (blk_cell (hk5.at (b := v) (o := .cells #[.int .u64 t0, .int .u32 t1] 27) (by simp)) 1).trans rfl
      have hall := scan_all L t0 t1
      have hparts := scan_parts L hk5.s.sorted t0 t1 mid
      generalize hwn : (L.map Prod.fst).filterMap (scanF L t0 t1) = wn at *
      obtain ⟨T, hT⟩ : ∃ T, wn.take 32 = T := ⟨_, rfl⟩
      rw [hT] at hall
      have HTT := Lib.hid hT
      clear hT
      have HW := Lib.hid (And.intro hk5 (And.intro hR (And.intro hwl (And.intro hall hparts))))
      clear hR hM hC hac hwn hk5 hall hparts
      go_wp2_with fail
      refine (oscan ⟨#[]⟩ ⟨#[]⟩ t0 t1 1000 HW.out.1.s (by have := HF.out.2; omega) HW.out.2.2.2.1).mono ?_
      rintro e W5 ⟨A6, c6, rfl, r6, b6, m6⟩
      have hk6 := HW.out.1.mod m6
      have ht0' : W5.cell? ⟨v, 0, none⟩ = some (.int .u64 t0) := (blk_cell (hk6.at (b := v) (o := .cells #[.int .u64 t0, .int .u32 t1] 27) (by simp)) 0).trans rfl
      have ht1' : W5.cell? ⟨v, 1, none⟩ = some (.int .u32 t1) := (blk_cell (hk6.at (b := v) (o := .cells #[.int .u64 t0, .int .u32 t1] 27) (by simp)) 1).trans rfl
      obtain ⟨A6', c6', e6, hc6, C6⟩ := r6.C
      injection e6 with e1 _ e3
      subst e1
      subst e3
      obtain ⟨B', d', e7, hd7, C7⟩ := Kd.R_reads (R_mod HW.out.2.1 m6)
      injection e7 with e1 _ e3
      subst e1
      subst e3
      have H5 := Lib.hid (And.intro hk6 (And.intro hc6 (And.intro C6 (And.intro hd7 C7))))
      clear hk6 r6 b6 m6 hc6 C6 hd7 C7 ht0 ht1
      by_cases h32 : 32 < wn.length
      · have h32z : (32 : Int) < (wn.length : Int) := by omega
        have hdz : (32 : Int) ≤ (d : Int) := by omega
        have hl32 : T.length = 32 := by rw [← HTT.out, List.length_take]; omega
        have hct := Kd.C_take H5.out.2.2.2.2 (Nat.le_of_lt h32)
        rw [HTT.out] at hct
        have HCT := Lib.hid (And.intro hl32 hct)
        clear hl32 hct
        go_wp2_with fail
        refine (pairs_calls (l := T) (by have := HCT.out.1; omega) rfl H5.out.2.1 H5.out.2.2.1 HCT.out.1.symm (by have := HCT.out.1; omega) HCT.out.2).mono ?_
        rintro e W8 ⟨rfl, m8⟩
        have H8 := Lib.hid m8
        clear m8
        go_wp2
        go_ret
        exact ⟨rfl, H2.out.1.trans (H5.out.1.s.m.trans H8.out (by simp)) (by simp)⟩
      · have h32z : ¬ (32 : Int) < (wn.length : Int) := by omega
        obtain rfl : T = wn := by rw [← HTT.out]; exact List.take_of_length_le (by omega)
        by_cases hmid : mid.toList = []
        · have hm' : mid.toList.isEmpty = true := by rw [hmid]; rfl
          have hm2 : (mid.toList == []) = true := by rw [hmid]; rfl
          clear hmid
          go_wp2_with fail
          refine (pairs_calls (l := T) (by omega) rfl H5.out.2.1 H5.out.2.2.1 rfl H5.out.2.2.2.1 H5.out.2.2.2.2).mono ?_
          rintro e W8 ⟨rfl, m8⟩
          have H8 := Lib.hid m8
          clear m8
          go_wp2
          go_ret
          exact ⟨rfl, H2.out.1.trans (H5.out.1.s.m.trans H8.out (by simp)) (by simp)⟩
        · have hm' : mid.toList.isEmpty = false := by cases hz : mid.toList with | nil => exact absurd hz hmid | cons _ _ => rfl
          have hp := HW.out.2.2.2.2 hmid (by omega)
          have HP := Lib.hid hp
          clear hp hmid
          generalize hs2 : scanS L mid ⟨#[]⟩ t0 t1 1000 = s2 at HP
          generalize hs1 : scanS L ⟨#[]⟩ mid t0 t1 1000 = s1 at HP
          have hlen : s1.length + s2.length ≤ 32 := by have e := congrArg List.length HP.out; rw [List.length_append] at e; omega
          have HS := Lib.hid (And.intro hs1 (And.intro hs2 hlen))
          clear hs1 hs2 hlen
          go_upto_region 18 with fail
          go_region_held3 (fun w' => w'.cell? ⟨v, 0, none⟩ = some (.int .u64 t0) ∧ w'.cell? ⟨v, 1, none⟩ = some (.int .u32 t1)) (go_keep) (first
            | (go_at_call 31
               with_reducible refine (pairs_calls (l := T) (by omega) rfl HC9.out.1 (by first | exact HC9.out.2 | exact Kd.C_drewN HC9.out.2 _) rfl H5.out.2.2.2.1 (Kd.C_below H5.out.2.2.2.2 (Mod.bel (by (with_reducible repeat (first | exact Mod.refl _ _ | exact N9.out | exact N8.out | exact N7.out | exact N6.out | refine Mod.drewN ?_ _ | refine Mod.drew ?_)))))).mono ?_
               rintro e W10 ⟨rfl, m10⟩
               have n10 : Mod W5 W10 [] := by
                 refine Mod.trans ?_ m10 (by simp)
                 (with_reducible repeat (first | exact Mod.refl _ _ | exact N9.out | exact N8.out | exact N7.out | exact N6.out | refine Mod.drewN ?_ _ | refine Mod.drew ?_))
               have x10 : W10.cell? ⟨v, 0, none⟩ = some (.int .u64 t0) := (blk_cell ((H5.out.1.mod n10).at (b := v) (o := .cells #[.int .u64 t0, .int .u32 t1] 27) (by simp)) 0).trans rfl
               have z10 : W10.cell? ⟨v, 1, none⟩ = some (.int .u32 t1) := (blk_cell ((H5.out.1.mod n10).at (b := v) (o := .cells #[.int .u64 t0, .int .u32 t1] 27) (by simp)) 1).trans rfl
               have N10 := Lib.hid n10
               clear m10 n10)
            | (go_at_call 31
               refine (pairs_calls (l := T) (by omega) rfl H5.out.2.1 (Kd.C_below H5.out.2.2.1 (Mod.bel (by (with_reducible repeat (first | exact Mod.refl _ _ | exact N9.out | exact N8.out | exact N7.out | exact N6.out | refine Mod.drewN ?_ _ | refine Mod.drew ?_))))) rfl H5.out.2.2.2.1 (Kd.C_below H5.out.2.2.2.2 (Mod.bel (by (with_reducible repeat (first | exact Mod.refl _ _ | exact N9.out | exact N8.out | exact N7.out | exact N6.out | refine Mod.drewN ?_ _ | refine Mod.drew ?_)))))).mono ?_
               rintro e W6 ⟨rfl, m6⟩
               have n6 : Mod W5 W6 [] := by
                 refine Mod.trans ?_ m6 (by simp)
                 (with_reducible repeat (first | exact Mod.refl _ _ | exact N9.out | exact N8.out | exact N7.out | exact N6.out | refine Mod.drewN ?_ _ | refine Mod.drew ?_))
               have x6 : W6.cell? ⟨v, 0, none⟩ = some (.int .u64 t0) := (blk_cell ((H5.out.1.mod n6).at (b := v) (o := .cells #[.int .u64 t0, .int .u32 t1] 27) (by simp)) 0).trans rfl
               have z6 : W6.cell? ⟨v, 1, none⟩ = some (.int .u32 t1) := (blk_cell ((H5.out.1.mod n6).at (b := v) (o := .cells #[.int .u64 t0, .int .u32 t1] 27) (by simp)) 1).trans rfl
               have N6 := Lib.hid n6
               clear m6 n6)
            | (go_at_call 30
               with_reducible refine (oscan ⟨#[]⟩ mid t0 t1 1000 (H5.out.1.s.mod (by (with_reducible repeat (first | exact Mod.refl _ _ | exact N9.out | exact N8.out | exact N7.out | exact N6.out | refine Mod.drewN ?_ _ | refine Mod.drew ?_)))) (by have := HF.out.2; omega) HS.out.1).mono ?_
               rintro e W7 ⟨A7, c7, rfl, r7, b7, m7⟩
               have n7 : Mod W5 W7 [] := by
                 refine Mod.trans ?_ m7 (by simp)
                 (with_reducible repeat (first | exact Mod.refl _ _ | exact N9.out | exact N8.out | exact N7.out | exact N6.out | refine Mod.drewN ?_ _ | refine Mod.drew ?_))
               have x7 : W7.cell? ⟨v, 0, none⟩ = some (.int .u64 t0) := (blk_cell ((H5.out.1.mod n7).at (b := v) (o := .cells #[.int .u64 t0, .int .u32 t1] 27) (by simp)) 0).trans rfl
               have z7 : W7.cell? ⟨v, 1, none⟩ = some (.int .u32 t1) := (blk_cell ((H5.out.1.mod n7).at (b := v) (o := .cells #[.int .u64 t0, .int .u32 t1] 27) (by simp)) 1).trans rfl
               have N7 := Lib.hid n7
               first
                 | (have m87 : Mod W8 W7 [] := by
                      refine Mod.trans ?_ m7 (by simp)
                      (with_reducible repeat (first | exact Mod.refl _ _ | refine Mod.drewN ?_ _ | refine Mod.drew ?_))
                    have HX := Lib.hid m87)
                 | skip
               have HL := Lib.hid (own_from r7 (fun y hy => Nat.le_trans N6.out.size (b7 y hy)) : k60.R 60 W7 0 (fun b => W5.heap.size ≤ b) (.slice A7 s1.length c7) s1)
               clear m7 n7 r7 b7)
            | (go_at_call 30
               with_reducible refine (oscan mid ⟨#[]⟩ t0 t1 1000 (H5.out.1.s.mod (by (with_reducible repeat (first | exact Mod.refl _ _ | exact N9.out | exact N8.out | exact N7.out | exact N6.out | refine Mod.drewN ?_ _ | refine Mod.drew ?_)))) (by have := HF.out.2; omega) HS.out.2.1).mono ?_
               rintro e W8 ⟨A8, c8, rfl, r8, b8, m8⟩
               have n8 : Mod W5 W8 [] := by
                 refine Mod.trans ?_ m8 (by simp)
                 (with_reducible repeat (first | exact Mod.refl _ _ | exact N9.out | exact N8.out | exact N7.out | exact N6.out | refine Mod.drewN ?_ _ | refine Mod.drew ?_))
               have x8 : W8.cell? ⟨v, 0, none⟩ = some (.int .u64 t0) := (blk_cell ((H5.out.1.mod n8).at (b := v) (o := .cells #[.int .u64 t0, .int .u32 t1] 27) (by simp)) 0).trans rfl
               have z8 : W8.cell? ⟨v, 1, none⟩ = some (.int .u32 t1) := (blk_cell ((H5.out.1.mod n8).at (b := v) (o := .cells #[.int .u64 t0, .int .u32 t1] 27) (by simp)) 1).trans rfl
               have N8 := Lib.hid n8
               first
                 | (have m78 : Mod W7 W8 [] := by
                      refine Mod.trans ?_ m8 (by simp)
                      (with_reducible repeat (first | exact Mod.refl _ _ | refine Mod.drewN ?_ _ | refine Mod.drew ?_))
                    have HX := Lib.hid m78)
                 | skip
               obtain ⟨A8', c8', e8, hc8, C8⟩ := r8.C
               injection e8 with e1 _ e3
               subst e1
               subst e3
               have HH := Lib.hid (And.intro hc8 C8)
               clear m8 n8 r8 b8)
            | (refine Kd.R_append_rows_step k60 (w0 := _) 0 (by rfl) _ _ 52 60 (.agg #[.string ByteArray.empty, .string ByteArray.empty]) 32 rfl Try.underlying52 info60 rfl (by decide) (by decide) _ s1 s2 _ _ _ (fun b => W5.heap.size ≤ b) (fun _ => False) (by rfl) (by rfl) (by first | exact HL.out | exact R_mod HL.out HX.out) (by first | exact HH.out.2 | exact Kd.C_below HH.out.2 (Mod.bel HX.out)) (fun x cs h => h) (fun k h => h.elim) (fun k h => Nat.le_trans N8.out.size h) (Below.refl _ _) (Nat.zero_le _) (by have := HS.out.2.2; omega) ?_
               intro v9 W9 o9 _ g9 _
               rw [HP.out] at o9
               have n9 : Mod W5 W9 [] := by
                 refine Mod.trans ?_ (mod_own g9) (fun y hy => .inr (HL.out.1 y (own_mem _ y hy)))
                 (with_reducible repeat (first | exact N8.out | refine Mod.drewN ?_ _ | refine Mod.drew ?_))
               have x9 : W9.cell? ⟨v, 0, none⟩ = some (.int .u64 t0) := (blk_cell ((H5.out.1.mod n9).at (b := v) (o := .cells #[.int .u64 t0, .int .u32 t1] 27) (by simp)) 0).trans rfl
               have z9 : W9.cell? ⟨v, 1, none⟩ = some (.int .u32 t1) := (blk_cell ((H5.out.1.mod n9).at (b := v) (o := .cells #[.int .u64 t0, .int .u32 t1] 27) (by simp)) 1).trans rfl
               have N9 := Lib.hid n9
               have H9 := Lib.hid o9
               obtain ⟨A9, c9, rfl, hc9, C9⟩ := Kd.R_reads o9
               have HC9 := Lib.hid (And.intro hc9 C9)
               clear n9 o9 g9 hc9 C9))
          all_goals
            go_wp2
            go_ret
            exact ⟨rfl, H2.out.1.trans (H5.out.1.s.m.trans N10.out (by simp)) (by simp)⟩
def dovecotelaw09_StoreScans.f (k : Nat) (l0 : List S69) (a1_0 a1_1 : Int) (a2 : ByteArray) : Option Bool := some true
theorem dovecotelaw09_StoreScans.calls (k : Nat) (A0 : Option Addr) (c0 : Nat) (l0 : List S69) (a1_0 : Int) (a1_1 : Int) (a2 : ByteArray) (r : Bool) (w : World) (hr0 : Kd.C k69 w A0 l0.length l0) (hc0 : l0.length ≤ c0) (h : dovecotelaw09_StoreScans.f k l0 a1_0 a1_1 a2 = some r) :
    Calls Try.prog 7 #[.slice A0 l0.length c0, .agg #[.int .u64 a1_0, .int .u32 a1_1], .string a2] w fun e w' => e = .returned (.bool r) ∧ Below w.heap.size w w' := by
  obtain rfl : true = r := Option.some.inj h
  exact (scans_calls a1_0 a1_1 a2 hr0 hc0).mono fun e w' ⟨h1, h2⟩ => ⟨h1, Mod.bel h2⟩
end Go.Proofs.Ytomcjcoehahikaa.Sto
