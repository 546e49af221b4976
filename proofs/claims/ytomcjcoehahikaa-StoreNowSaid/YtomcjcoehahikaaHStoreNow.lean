/- The law StoreNow walked by hand; a seat's own text. -/
import Derived.Test.YtomcjcoehahikaaStoLaw
import Derived.Deep.LoopGhost
import Derived.Deep.Cut
import Derived.Lib.Hide
import Derived.StillTailTactics
import Derived.Deep.QuietTactic
import Derived.BigQuiet
import Derived.Outline
import Derived.Deep.RegionWith
import Derived.Deep.RegionHeld3
import Derived.WalkLawsBesides
namespace Go.Proofs.Ytomcjcoehahikaa.Sto
open Go.RowKit Go.Proofs.YtomcjcoehahikaaW.PrintWords
set_option linter.unusedVariables false
set_option linter.unusedSimpArgs false
open Go.Proofs.Ytomcjcoehahikaa.Ord Go.Proofs.Ytomcjcoehahikaa.MStoreRuns Go.Proofs.YtomcjcoehahikaaW.PrintLast
/-! StoreNow -/
theorem fits_top {x : S31} (h : fitsB x = true) : ¬ (281474976710656 < x.f0.f0 ∨ 281474976710656 = x.f0.f0 ∧ 4095 < x.f0.f1) := by
  unfold fitsB at h
  have := of_decide_eq_true h
  omega
theorem now_no {c : List S31} (h : RightP c) {v : S31} (h0 : v.f0.f0 = 281474976710656) (h1 : v.f0.f1 = 4095) (hn : nwC c ≠ (281474976710656, 4095)) : ∀ y ∈ c, ¬ atV y v := by
  intro y hy ha
  cases c with
  | nil => cases hy
  | cons x r =>
    unfold atV at ha
    rcases List.mem_cons.1 hy with rfl | hy
    · exact hn (by show (y.f0.f0, y.f0.f1) = _; rw [ha.1, ha.2, h0, h1])
    · have hl := (List.pairwise_cons.1 h.d).1 y hy
      unfold lessV at hl
      have := fits_top (h.f x (by simp))
      omega
theorem now_place {c : List S31} (h : RightP c) {v : S31} (h0 : v.f0.f0 = 281474976710656) (h1 : v.f0.f1 = 4095) : plc c v = 0 :=
  List.countP_eq_zero.2 (fun x hx z => fits_top (h.f x hx) (by rw [above_iff, h0, h1] at z; exact z))
theorem now_put {c : List S31} (h : RightP c) {v : S31} (h0 : v.f0.f0 = 281474976710656) (h1 : v.f0.f1 = 4095) (hv : fitsB v = true) (hl : c.length < 1000) (hn : nwC c ≠ (281474976710656, 4095)) : putC c v = (v :: c, 0) := by
  have hno := now_no h h0 h1 hn
  have e : putL c v = v :: c := by unfold putL; rw [now_place h h0 h1]; rfl
  have hs := put_is (v := v) h
  generalize putC c v = q at hs
  cases hs with
  | unfit h => rw [hv] at h; cases h
  | same _ h => exact absurd ⟨rfl, rfl⟩ (hno v h)
  | busy y _ hy ha _ => exact absurd ha (hno y hy)
  | more _ _ h => omega
  | new _ _ _ => rw [e]
theorem now_see {c : List S31} (h : RightP c) {v : S31} (h0 : v.f0.f0 = 281474976710656) (h1 : v.f0.f1 = 4095) : see (v :: c) 281474976710656 4095 = some v := by
  have e := now_place h h0 h1
  unfold plc at e
  rw [h0, h1] at e
  unfold see
  rw [List.countP_cons, e, if_neg (by rw [above_iff, h0, h1]; omega)]
  rfl
theorem now_before (c : List S31) {v : S31} (h0 : v.f0.f0 = 281474976710656) (h1 : v.f0.f1 = 4095) : see (v :: c) 281474976710656 4094 = see c 281474976710656 4094 := by
  unfold see
  rw [List.countP_cons, if_pos (by rw [above_iff, h0, h1]; omega)]
  rfl
def nowV (val : ByteArray) : S31 := ⟨⟨281474976710656, 4095⟩, ⟨0, 0⟩, val, false⟩
theorem now_all {L : St} (h : AllR L) {key val : ByteArray} (hk1 : ¬ key.size < 1) (hk2 : ¬ 32 < key.size) (hv : ¬ 256 < val.size) (hc : (chOf L key).length < 1000) (hn : nwC (chOf L key) ≠ (281474976710656, 4095)) :
    putS L key (nowV val) = (lset L key (nowV val :: chOf L key), 0) ∧ getS (lset L key (nowV val :: chOf L key)) key 281474976710656 4095 = (val, true) ∧ getS (lset L key (nowV val :: chOf L key)) key 281474976710656 4094 = getS L key 281474976710656 4094 := by
  have hf : fitsB (nowV val) = true := by unfold fitsB nowV; exact decide_eq_true ⟨by show (281474976710656 : Int) ≤ _; omega, by show (4095 : Int) ≤ _; omega, by show val.size ≤ 256; omega, fun h => by cases h⟩
  have hp := now_put (h.chain key) (v := nowV val) rfl rfl hf hc hn
  have e : chOf (lset L key (nowV val :: chOf L key)) key = nowV val :: chOf L key := by rw [chOf_set, if_pos rfl]
  refine ⟨?_, ?_, ?_⟩
  · unfold putS
    rw [if_neg (by omega), hp]
    rfl
  · unfold getS
    rw [e, now_see (h.chain key) rfl rfl]
    rfl
  · unfold getS
    rw [e, now_before _ rfl rfl]
theorem nowA {L : St} {s : Nat} {w W : World} (h : OwnS w W s L) (key : ByteArray) : Calls Try.prog 32 #[.pointer (some ⟨s, 0, none⟩), .string key] W (NewestP W (nwC (chOf L key))) := by
  obtain ⟨fp, h1, _, _⟩ := h
  exact newest_calls key h1
set_option maxRecDepth 100000 in
set_option maxHeartbeats 4000000 in
theorem now_calls {W : World} {A : Option Addr} {c : Nat} {l : List S69} (key val : ByteArray) (hr : Kd.C k69 W A l.length l) (hc : l.length ≤ c) :
    Calls Try.prog 8 #[.slice A l.length c, .string key, .string val] W (AwkP W) := by
  have HR := Lib.hid (And.intro hr hc)
  clear hr hc
  by_cases hg : key.size < 1 ∨ 32 < key.size ∨ 256 < val.size
  · by_cases g1 : key.size < 1
    · have g1z : (key.size : Int) < 1 := by omega
      have g10 : key.size = 0 := by omega
      clear hg
      go_enter Try.func8, Try.ntmps8
      go_wp2_with fail
      refine awake_calls.mono ?_
      rintro e W1 ⟨rfl, m1⟩
      have H := Lib.hid m1
      clear m1
      go_wp2
      go_ret
      exact ⟨rfl, H.out⟩
    · have g1z : ¬ (key.size : Int) < 1 := by omega
      have g10 : ¬ key.size = 0 := by omega
      by_cases g2 : 32 < key.size
      · have g2z : (32 : Int) < key.size := by omega
        clear hg
        go_enter Try.func8, Try.ntmps8
        go_wp2_with fail
        refine awake_calls.mono ?_
        rintro e W1 ⟨rfl, m1⟩
        have H := Lib.hid m1
        clear m1
        go_wp2
        go_ret
        exact ⟨rfl, H.out⟩
      · have g2z : ¬ (32 : Int) < key.size := by omega
        have g3 : 256 < val.size := by omega
        have g3z : (256 : Int) < val.size := by omega
        clear hg
        go_enter Try.func8, Try.ntmps8
        go_wp2_with fail
        refine awake_calls.mono ?_
        rintro e W1 ⟨rfl, m1⟩
        have H := Lib.hid m1
        clear m1
        go_wp2
        go_ret
        exact ⟨rfl, H.out⟩
  · have g1 : ¬ key.size < 1 := by omega
    have g10 : ¬ key.size = 0 := by omega
    have g2 : ¬ 32 < key.size := by omega
    have g3 : ¬ 256 < val.size := by omega
    have g1z : ¬ (key.size : Int) < 1 := by omega
    have g2z : ¬ (32 : Int) < key.size := by omega
    have g3z : ¬ (256 : Int) < val.size := by omega
    clear hg
    have hfl := fill_right (l.take 100) (L := []) (fun p hp => by cases hp)
    have hch := fill_chlen (l.take 100) key (L := []) (fun p hp => by cases hp)
    have hfn := fill_len (l.take 100) []
    have h100 : (l.take 100).length ≤ 100 := List.length_take_le _ _
    have hall := now_all hfl g1 g2 g3 (by simp [chOf, lget] at hch; unfold chOf; omega)
    have HF := Lib.hid (And.intro hall (show (fillL [] (l.take 100)).length ≤ 100 by simp at hfn; omega))
    clear hfl hch hfn h100 hall
    go_enter Try.func8, Try.ntmps8
    go_wp2_with fail
    refine awake_calls.mono ?_
    rintro e W1 ⟨rfl, m1⟩
    have H1 := Lib.hid m1
    clear m1
    go_wp2_with fail
    refine (filled_calls H1.out (Kd.C_below HR.out.1 (Mod.bel H1.out)) HR.out.2).mono ?_
    rintro e W2 ⟨s, rfl, h2⟩
    generalize fillL [] (l.take 100) = L at *
    have h3 := (h2.k.alloc (.cells #[.int .u64 281474976710656, .int .u32 4095] 27)).alloc (.cells #[.int .u64 281474976710656, .int .u32 4094] 27)
    rw [show (W2.alloc (.cells #[.int .u64 281474976710656, .int .u32 4095] 27)).heap.size = W2.heap.size + 1 by simp] at h3
    have H3 := Lib.hid h3
    clear h2 h3
    go_wp2_with fail
    generalize hq : W2.heap.size = q at H3 ⊢
    have HQ := Lib.hid hq
    clear hq
    generalize (W2.alloc (.cells #[.int .u64 281474976710656, .int .u32 4095] 27)).alloc (.cells #[.int .u64 281474976710656, .int .u32 4094] 27) = W3 at H3 ⊢
    obtain ⟨x0, b0, hx0⟩ : ∃ x b, getS L key 281474976710656 4094 = (x, b) := ⟨_, _, rfl⟩
    refine (oget key 281474976710656 4094 H3.out.s hx0).mono ?_
    have HX0 := Lib.hid hx0
    clear hx0
    rintro e W4 ⟨rfl, m4⟩
    have h_W4 := H3.out.mod m4
    have c0_W4 : W4.cell? ⟨q, 0, none⟩ = some (.int .u64 281474976710656) := (blk_cell (h_W4.at (b := q) (o := .cells #[.int .u64 281474976710656, .int .u32 4095] 27) (by simp)) 0).trans rfl
    have c1_W4 : W4.cell? ⟨q, 1, none⟩ = some (.int .u32 4095) := (blk_cell (h_W4.at (b := q) (o := .cells #[.int .u64 281474976710656, .int .u32 4095] 27) (by simp)) 1).trans rfl
    have d0_W4 : W4.cell? ⟨q + 1, 0, none⟩ = some (.int .u64 281474976710656) := (blk_cell (h_W4.at (b := q + 1) (o := .cells #[.int .u64 281474976710656, .int .u32 4094] 27) (by simp)) 0).trans rfl
    have d1_W4 : W4.cell? ⟨q + 1, 1, none⟩ = some (.int .u32 4094) := (blk_cell (h_W4.at (b := q + 1) (o := .cells #[.int .u64 281474976710656, .int .u32 4094] 27) (by simp)) 1).trans rfl
    have H4 := Lib.hid h_W4
    clear h_W4 m4
    obtain ⟨n1, n2, hnw⟩ : ∃ n1 n2, nwC (chOf L key) = (n1, n2) := ⟨_, _, rfl⟩
    have HNW := Lib.hid hnw
    clear hnw
    by_cases ht : n1 = 281474976710656 ∧ n2 = 4095
    · obtain ⟨rfl, rfl⟩ := ht
      go_wp2_with fail
      go_region_held3 (fun w' => w'.cell? ⟨q, 0, none⟩ = some (.int .u64 281474976710656) ∧ w'.cell? ⟨q, 1, none⟩ = some (.int .u32 4095)) (go_keep) (first
        | (go_at_call 32
           refine (nowA (H4.out.s.mod ((Mod.refl W4 []).drewN _)) key).mono ?_
           rw [HNW.out]
           rintro e W5 ⟨rfl, m5⟩
           replace m5 : Mod W4 W5 [] := by
             refine Mod.trans ?_ m5 (by simp)
             (with_reducible repeat (first | exact Mod.refl _ _ | refine Mod.alloc ?_ _ | refine Mod.drewN ?_ _ | refine Mod.drew ?_))
           have h_W5 := H4.out.mod m5
           have c0_W5 : W5.cell? ⟨q, 0, none⟩ = some (.int .u64 281474976710656) := (blk_cell (h_W5.at (b := q) (o := .cells #[.int .u64 281474976710656, .int .u32 4095] 27) (by simp)) 0).trans rfl
           have c1_W5 : W5.cell? ⟨q, 1, none⟩ = some (.int .u32 4095) := (blk_cell (h_W5.at (b := q) (o := .cells #[.int .u64 281474976710656, .int .u32 4095] 27) (by simp)) 1).trans rfl
           have d0_W5 : W5.cell? ⟨q + 1, 0, none⟩ = some (.int .u64 281474976710656) := (blk_cell (h_W5.at (b := q + 1) (o := .cells #[.int .u64 281474976710656, .int .u32 4094] 27) (by simp)) 0).trans rfl
           have d1_W5 : W5.cell? ⟨q + 1, 1, none⟩ = some (.int .u32 4094) := (blk_cell (h_W5.at (b := q + 1) (o := .cells #[.int .u64 281474976710656, .int .u32 4094] 27) (by simp)) 1).trans rfl
           have H5 := Lib.hid h_W5
           clear h_W5 m5))
      go_wp2
      go_ret
      exact ⟨rfl, H5.out.s.m⟩
    · have hne : nwC (chOf L key) ≠ (281474976710656, 4095) := by rw [HNW.out]; exact fun e => ht (by simpa using e)
      have HT := Lib.hid (HF.out.1 hne)
      clear hne
      have hpa : (¬ n1 = 281474976710656 ∧ (n1 == 281474976710656) = false) ∨ (n1 = 281474976710656 ∧ ¬ n2 = 4095 ∧ (n2 == 4095) = false) := by
        by_cases e : n1 = 281474976710656
        · exact .inr ⟨e, fun z => ht ⟨e, z⟩, beq_eq_false_iff_ne.2 (fun z => ht ⟨e, z⟩)⟩
        · exact .inl ⟨e, beq_eq_false_iff_ne.2 e⟩
      clear ht
      rcases hpa with ⟨p1, p2⟩ | ⟨rfl, p1, p2⟩
      all_goals
        go_wp2_with fail
        go_region_held3 (fun w' => w'.cell? ⟨q, 0, none⟩ = some (.int .u64 281474976710656) ∧ w'.cell? ⟨q, 1, none⟩ = some (.int .u32 4095)) (go_keep) (first
          | (go_at_call 32
             refine (nowA (H4.out.s.mod ((Mod.refl W4 []).drewN _)) key).mono ?_
             rw [HNW.out]
             rintro e W5 ⟨rfl, m5⟩
             replace m5 : Mod W4 W5 [] := by
               refine Mod.trans ?_ m5 (by simp)
               (with_reducible repeat (first | exact Mod.refl _ _ | refine Mod.alloc ?_ _ | refine Mod.drewN ?_ _ | refine Mod.drew ?_))
             have h_W5 := H4.out.mod m5
             have c0_W5 : W5.cell? ⟨q, 0, none⟩ = some (.int .u64 281474976710656) := (blk_cell (h_W5.at (b := q) (o := .cells #[.int .u64 281474976710656, .int .u32 4095] 27) (by simp)) 0).trans rfl
             have c1_W5 : W5.cell? ⟨q, 1, none⟩ = some (.int .u32 4095) := (blk_cell (h_W5.at (b := q) (o := .cells #[.int .u64 281474976710656, .int .u32 4095] 27) (by simp)) 1).trans rfl
             have d0_W5 : W5.cell? ⟨q + 1, 0, none⟩ = some (.int .u64 281474976710656) := (blk_cell (h_W5.at (b := q + 1) (o := .cells #[.int .u64 281474976710656, .int .u32 4094] 27) (by simp)) 0).trans rfl
             have d1_W5 : W5.cell? ⟨q + 1, 1, none⟩ = some (.int .u32 4094) := (blk_cell (h_W5.at (b := q + 1) (o := .cells #[.int .u64 281474976710656, .int .u32 4094] 27) (by simp)) 1).trans rfl
             have H5 := Lib.hid h_W5
             clear h_W5 m5))
        go_wp2_with fail
        refine (kput key 281474976710656 4095 0 0 val false H5.out (by have := HF.out.2; omega) HT.out.1).mono ?_
        rintro e W6 ⟨rfl, h6⟩
        have h_W6 := h6
        have c0_W6 : W6.cell? ⟨q, 0, none⟩ = some (.int .u64 281474976710656) := (blk_cell (h_W6.at (b := q) (o := .cells #[.int .u64 281474976710656, .int .u32 4095] 27) (by simp)) 0).trans rfl
        have c1_W6 : W6.cell? ⟨q, 1, none⟩ = some (.int .u32 4095) := (blk_cell (h_W6.at (b := q) (o := .cells #[.int .u64 281474976710656, .int .u32 4095] 27) (by simp)) 1).trans rfl
        have d0_W6 : W6.cell? ⟨q + 1, 0, none⟩ = some (.int .u64 281474976710656) := (blk_cell (h_W6.at (b := q + 1) (o := .cells #[.int .u64 281474976710656, .int .u32 4094] 27) (by simp)) 0).trans rfl
        have d1_W6 : W6.cell? ⟨q + 1, 1, none⟩ = some (.int .u32 4094) := (blk_cell (h_W6.at (b := q + 1) (o := .cells #[.int .u64 281474976710656, .int .u32 4094] 27) (by simp)) 1).trans rfl
        have H6 := Lib.hid h_W6
        clear h_W6 h6
        go_wp2_with fail
        refine (oget key 281474976710656 4095 H6.out.s HT.out.2.1).mono ?_
        rintro e W7 ⟨rfl, m7⟩
        have h_W7 := H6.out.mod m7
        have c0_W7 : W7.cell? ⟨q, 0, none⟩ = some (.int .u64 281474976710656) := (blk_cell (h_W7.at (b := q) (o := .cells #[.int .u64 281474976710656, .int .u32 4095] 27) (by simp)) 0).trans rfl
        have c1_W7 : W7.cell? ⟨q, 1, none⟩ = some (.int .u32 4095) := (blk_cell (h_W7.at (b := q) (o := .cells #[.int .u64 281474976710656, .int .u32 4095] 27) (by simp)) 1).trans rfl
        have d0_W7 : W7.cell? ⟨q + 1, 0, none⟩ = some (.int .u64 281474976710656) := (blk_cell (h_W7.at (b := q + 1) (o := .cells #[.int .u64 281474976710656, .int .u32 4094] 27) (by simp)) 0).trans rfl
        have d1_W7 : W7.cell? ⟨q + 1, 1, none⟩ = some (.int .u32 4094) := (blk_cell (h_W7.at (b := q + 1) (o := .cells #[.int .u64 281474976710656, .int .u32 4094] 27) (by simp)) 1).trans rfl
        have H7 := Lib.hid h_W7
        clear h_W7 m7
        go_wp2_with fail
        refine (oget key 281474976710656 4094 H7.out.s (HT.out.2.2.trans HX0.out)).mono ?_
        rintro e W8 ⟨rfl, m8⟩
        have H8 := Lib.hid (H7.out.s.m.trans m8 (by simp))
        clear m8
        go_wp2
        go_ret
        exact ⟨rfl, H8.out⟩
def dovecotelaw09_StoreNow.f (k : Nat) (l0 : List S69) (a1 a2 : ByteArray) : Option Bool := some true
theorem dovecotelaw09_StoreNow.calls (k : Nat) (A0 : Option Addr) (c0 : Nat) (l0 : List S69) (a1 : ByteArray) (a2 : ByteArray) (r : Bool) (w : World) (hr0 : Kd.C k69 w A0 l0.length l0) (hc0 : l0.length ≤ c0) (h : dovecotelaw09_StoreNow.f k l0 a1 a2 = some r) :
    Calls Try.prog 8 #[.slice A0 l0.length c0, .string a1, .string a2] w fun e w' => e = .returned (.bool r) ∧ Below w.heap.size w w' := by
  obtain rfl : true = r := Option.some.inj h
  exact (now_calls a1 a2 hr0 hc0).mono fun e w' ⟨h1, h2⟩ => ⟨h1, Mod.bel h2⟩
end Go.Proofs.Ytomcjcoehahikaa.Sto
