/- The law ChainTells walked by hand; a seat's own text. -/
import Derived.Test.YtomcjcoehahikaaStoRef
import Derived.Deep.LoopGhost
import Derived.Deep.Cut
import Derived.Lib.Hide
import Derived.StillTailTactics
import Derived.Deep.QuietTactic
import Derived.BigQuiet
import Derived.Outline
import Derived.Deep.RegionWith
import Derived.Deep.RegionHeld3
import Derived.WalkLawsBesides
namespace Go.Proofs.Ytomcjcoehahikaa.Sto
open Go.RowKit Go.Proofs.YtomcjcoehahikaaW.PrintWords
set_option linter.unusedVariables false
set_option linter.unusedSimpArgs false
open Go.Proofs.Ytomcjcoehahikaa.Ord Go.Proofs.Ytomcjcoehahikaa.MStoreRuns Go.Proofs.YtomcjcoehahikaaW.PrintLast
/-! ChainTells -/
theorem tw1 : putR [] ⟨⟨5, 0⟩, ⟨0, 0⟩, ⟨#[120]⟩, false⟩ = ([⟨⟨5, 0⟩, ⟨0, 0⟩, ⟨#[120]⟩, false⟩], 0) := by
  rw [put_r (rightB_yes right_nil), putC_new right_nil (by decide) (fun y hy => by cases hy) (by simp)]
  rfl
theorem tw0 : RightP [⟨⟨5, 0⟩, ⟨0, 0⟩, ⟨#[120]⟩, false⟩] := ⟨fun x hx => by rw [List.mem_singleton] at hx; subst hx; decide, List.pairwise_singleton _ _, by simp⟩
theorem tw2 : seeR [⟨⟨5, 0⟩, ⟨0, 0⟩, ⟨#[120]⟩, false⟩] 9 0 = (5, 0, 0, 0, ⟨#[120]⟩, false, true) := by
  unfold seeR
  rw [rightB_yes tw0, if_pos rfl]
  simp [see, pl_above, pl_less, vw]
theorem tw3 : seeR [⟨⟨5, 0⟩, ⟨0, 0⟩, ⟨#[120]⟩, false⟩] 4 0 = (0, 0, 0, 0, ⟨#[]⟩, false, false) := by
  unfold seeR
  rw [rightB_yes tw0, if_pos rfl]
  simp [see, pl_above, pl_less, vw]
theorem C_none (W : World) : Kd.C k31 W none ([] : List S31).length [] := C_nil W
set_option maxRecDepth 100000 in
set_option maxHeartbeats 4000000 in
theorem awake7_calls {W : World} : Calls Try.prog 13 #[] W (BoolP W true) := by
  go_enter Try.func13, Try.ntmps13
  go_wp2_with fail
  refine (cput_calls 5 0 0 0 ⟨#[120]⟩ false (C_none W) (Nat.le_refl 0) (by simp) tw1).mono ?_
  rintro e W1 ⟨A1, c1, rfl, h1, h2, m1⟩
  have H1 := Lib.hid (And.intro h1 (And.intro h2 m1))
  clear h1 h2 m1
  go_wp2_with fail
  refine (cat_calls 9 0 H1.out.2.1 H1.out.1 (by simp) tw2).mono ?_
  rintro e W2 ⟨rfl, m2⟩
  have m2' := m2.alloc (.cells #[.int .u64 5, .int .u32 0, .int .u32 0, .int .u32 0, .string ⟨#[120]⟩, .bool false] 31)
  have hb := blk_new W2 (.cells #[.int .u64 5, .int .u32 0, .int .u32 0, .int .u32 0, .string ⟨#[120]⟩, .bool false] 31)
  have H2 := Lib.hid (And.intro m2' (And.intro hb (Kd.C_below H1.out.2.1 (Mod.bel m2'))))
  clear m2 m2' hb
  go_wp2_with fail
  generalize W2.alloc (.cells #[.int .u64 5, .int .u32 0, .int .u32 0, .int .u32 0, .string ⟨#[120]⟩, .bool false] 31) = W3 at H2 ⊢
  generalize W2.heap.size = b at H2 ⊢
  refine (cat_calls 4 0 H2.out.2.2 H1.out.1 (by simp) tw3).mono ?_
  rintro e W4 ⟨rfl, m4⟩
  have hb4 := m4.at_ H2.out.2.1 (by simp)
  have m4' := m4.alloc (.cells #[.int .u64 0, .int .u32 0, .int .u32 0, .int .u32 0, .string ⟨#[]⟩, .bool false] 31)
  have g2 : (W4.alloc (.cells #[.int .u64 0, .int .u32 0, .int .u32 0, .int .u32 0, .string ⟨#[]⟩, .bool false] 31)).cell? ⟨b, 4, none⟩ = some (.string ⟨#[120]⟩) := (blk_cell (blk_alloc hb4 _) 4).trans rfl
  have H4 := Lib.hid ((H1.out.2.2.trans H2.out.1 (by simp)).trans m4' (by simp))
  clear m4 m4' hb4
  go_wp2
  go_ret
  exact ⟨rfl, H4.out⟩
theorem rputC_calls {W : World} {A : Option Addr} {c : Nat} {l : List S31} (v0 v1 v2 v3 : Int) (v4 : ByteArray) (v5 : Bool) {r : List S31 × Int} (hr : Kd.C k31 W A l.length l) (hc : l.length ≤ c) (hl : l.length ≤ 1000000) (hs : putR l ⟨⟨v0, v1⟩, ⟨v2, v3⟩, v4, v5⟩ = r) :
    Calls Try.prog 20 #[.slice A l.length c, .agg #[.int .u64 v0, .int .u32 v1, .int .u32 v2, .int .u32 v3, .string v4, .bool v5]] W (CPutP W r) := by
  refine (rput_calls v0 v1 v2 v3 v4 v5 hr hc hl hs).mono ?_
  rintro e W' ⟨A', c', rfl, m, h | ⟨rfl, rfl, h⟩⟩
  · obtain ⟨A2, c2, e2, h1, h2⟩ := Kd.R_reads h
    injection e2 with e1 _ e3
    subst e1
    subst e3
    exact ⟨_, _, rfl, h1, h2, m⟩
  · refine ⟨_, _, rfl, ?_, ?_, m⟩
    · rw [h]; exact hc
    · rw [h]; exact Kd.C_below hr (Mod.bel m)
theorem rpruneC_calls {W : World} {A : Option Addr} {c : Nat} {l : List S31} (t0 t1 : Int) {r : List S31} (hr : Kd.C k31 W A l.length l) (hc : l.length ≤ c) (hl : l.length ≤ 1000000) (hs : prR l t0 t1 = r) :
    Calls Try.prog 25 #[.slice A l.length c, .agg #[.int .u64 t0, .int .u32 t1]] W (CRowP W r) := by
  refine (rprune_calls t0 t1 hr hc hl hs).mono ?_
  rintro e W' ⟨A', c', rfl, h, m⟩
  obtain ⟨A2, c2, e2, h1, h2⟩ := Kd.R_reads h
  injection e2 with e1 _ e3
  subst e1
  subst e3
  exact ⟨_, _, rfl, h1, h2, m⟩
theorem prR_len {l : List S31} (hl : l.length ≤ 1000000) (t0 t1 : Int) : (prR l t0 t1).length ≤ 1000000 := by
  unfold prR
  split
  · obtain ⟨m, e, _, h, _⟩ := prune_take l t0 t1
    rw [e, List.length_take]; omega
  · simp
theorem putR_len {l : List S31} (hl : l.length ≤ 900000) (v : S31) : (putR l v).1.length ≤ 1000000 := by
  unfold putR
  split
  · rename_i h
    have hr : RightP l := Classical.byContradiction fun z => by rw [rightB_no z] at h; cases h
    have hs := put_is (v := v) hr
    generalize putC l v = q at hs
    cases hs with
    | unfit _ => simp
    | same _ _ => dsimp only; omega
    | busy _ _ _ _ _ => simp
    | more _ _ _ => simp
    | new _ _ _ => dsimp only; rw [putL_length]; omega
  · simp
attribute [local go_sem high] eqA27 eqA31
set_option maxRecDepth 100000 in
set_option maxHeartbeats 16000000 in
theorem tells_calls {W : World} {A : Option Addr} {c : Nat} {l : List S31} (v0 v1 v2 v3 : Int) (v4 : ByteArray) (v5 : Bool) (t0 t1 : Int) (hr : Kd.C k31 W A l.length l) (hc : l.length ≤ c) :
    Calls Try.prog 5 #[.slice A l.length c, .agg #[.int .u64 v0, .int .u32 v1, .int .u32 v2, .int .u32 v3, .string v4, .bool v5], .agg #[.int .u64 t0, .int .u32 t1]] W (BoolP W true) := by
  have hm := ((Mod.refl W []).alloc (.cells #[.int .u64 v0, .int .u32 v1, .int .u32 v2, .int .u32 v3, .string v4, .bool v5] 31)).alloc (.cells #[.int .u64 t0, .int .u32 t1] 27)
  have hb := blk_alloc (blk_new W (.cells #[.int .u64 v0, .int .u32 v1, .int .u32 v2, .int .u32 v3, .string v4, .bool v5] 31)) (.cells #[.int .u64 t0, .int .u32 t1] 27)
  have hb2 := blk_new (W.alloc (.cells #[.int .u64 v0, .int .u32 v1, .int .u32 v2, .int .u32 v3, .string v4, .bool v5] 31)) (.cells #[.int .u64 t0, .int .u32 t1] 27)
  rw [show (W.alloc (.cells #[.int .u64 v0, .int .u32 v1, .int .u32 v2, .int .u32 v3, .string v4, .bool v5] 31)).heap.size = W.heap.size + 1 by simp] at hb2
  have H := Lib.hid (And.intro hm (And.intro hb (And.intro hb2 (Kd.C_below hr (Mod.bel hm)))))
  have HC := Lib.hid hc
  clear hm hb hb2 hr hc
  go_enter Try.func5, Try.ntmps5
  go_wp2_with fail
  generalize (W.alloc (.cells #[.int .u64 v0, .int .u32 v1, .int .u32 v2, .int .u32 v3, .string v4, .bool v5] 31)).alloc (.cells #[.int .u64 t0, .int .u32 t1] 27) = W1 at H ⊢
  generalize W.heap.size = b at H ⊢
  refine awake7_calls.mono ?_
  rintro e W2 ⟨rfl, m2⟩
  have H2 := Lib.hid (And.intro (H.out.1.trans m2 (by simp)) (And.intro (m2.at_ H.out.2.1 (by simp)) (And.intro (m2.at_ H.out.2.2.1 (by simp)) (Kd.C_below H.out.2.2.2 (Mod.bel m2)))))
  clear m2
  by_cases h11 : 1100 < l.length
  · have h11z : (1100 : Int) < (l.length : Int) := by omega
    go_wp2
    go_ret
    exact ⟨rfl, H2.out.1⟩
  have h11z : ¬ (1100 : Int) < (l.length : Int) := by omega
  have hl : l.length ≤ 1000000 := by omega
  have hrow : Kd.R k31 31 (W2.alloc (.cells #[] 31)) W2.heap.size (fun _ => True) (.slice (some ⟨W2.heap.size, 0, none⟩) 0 0) ([] : List S31) :=
    ⟨fun _ _ => trivial, [], World.ownsRow_made W2 #[] 0 (Nat.le_refl _) (Nat.zero_le _) rfl, rfl, fun j p hj => by simp at hj⟩
  have HN := Lib.hid hrow
  clear hrow
  go_wp2_with (first | (at_builtin; refine Kd.R_append_rows k31 (w0 := W2) (W := W2.alloc (.cells #[] 31)) W2.heap.size rfl _ _ 22 31 _ 48 rfl Try.underlying22 info31 rfl (by decide) (by decide) (.slice (some ⟨W2.heap.size, 0, none⟩) 0 0) [] l A l.length c (fun _ => True) (fun _ => False) rfl rfl HN.out ?b0 (fun x cs h => h) (fun k h => h.elim) (fun _ _ => trivial) ?b1 ?b3 ?b2 ?_) | fail)
  case b0 => exact v_reads H2.out.2.2.2 (below_alloc (Below.refl _ _) _) _ _ _
  case b1 => exact below_alloc (Below.refl _ _) _
  case b2 => simp; omega
  case b3 => simp
  intro v3' W3 o3 b3 _ _
  obtain ⟨A1, c1, rfl, hc1, C1⟩ := Kd.R_reads o3
  have m3 := Mod.of_below b3
  have hv3 := m3.at_ H2.out.2.1 (by simp)
  have p0 : W3.cell? ⟨b, 0, none⟩ = some (.int .u64 v0) := (blk_cell (hv3) 0).trans rfl
  have p1 : W3.cell? ⟨b, 1, none⟩ = some (.int .u32 v1) := (blk_cell (hv3) 1).trans rfl
  have p2 : W3.cell? ⟨b, 2, none⟩ = some (.int .u32 v2) := (blk_cell (hv3) 2).trans rfl
  have p3 : W3.cell? ⟨b, 3, none⟩ = some (.int .u32 v3) := (blk_cell (hv3) 3).trans rfl
  have p4 : W3.cell? ⟨b, 4, none⟩ = some (.string v4) := (blk_cell (hv3) 4).trans rfl
  have p5 : W3.cell? ⟨b, 5, none⟩ = some (.bool v5) := (blk_cell (hv3) 5).trans rfl
  have H3 := Lib.hid (And.intro (H2.out.1.trans m3 (by simp)) (And.intro (hv3) (And.intro (m3.at_ H2.out.2.2.1 (by simp)) (And.intro (Kd.C_below H2.out.2.2.2 (Mod.bel m3)) C1))))
  have HL1 := Lib.hid hc1
  have hc1z : (l.length : Int) ≤ (c1 : Int) := by omega
  clear o3 b3 m3 hv3 C1
  obtain ⟨⟨r1, r2⟩, hq⟩ : ∃ r, putR l ⟨⟨v0, v1⟩, ⟨v2, v3⟩, v4, v5⟩ = r := ⟨_, rfl⟩
  have hr1 := putR_len (l := l) (by omega) ⟨⟨v0, v1⟩, ⟨v2, v3⟩, v4, v5⟩
  rw [hq] at hr1
  have HR1 := Lib.hid hr1
  have HPU := Lib.hid hq
  clear hq hr1
  go_upto_region 6 with fail
  go_region_held3 (fun w' => w'.cell? ⟨b, 0, none⟩ = some (.int .u64 v0) ∧ w'.cell? ⟨b, 1, none⟩ = some (.int .u32 v1) ∧ w'.cell? ⟨b, 2, none⟩ = some (.int .u32 v2) ∧ w'.cell? ⟨b, 3, none⟩ = some (.int .u32 v3) ∧ w'.cell? ⟨b, 4, none⟩ = some (.string v4) ∧ w'.cell? ⟨b, 5, none⟩ = some (.bool v5)) (go_keep) (first
    | (go_at_call 17
       with_reducible refine (cput_calls v0 v1 v2 v3 v4 v5 (Kd.C_below H3.out.2.2.2.2 (Mod.bel (by (with_reducible repeat (first | exact Mod.refl _ _ | refine Mod.drewN ?_ _ | refine Mod.drew ?_))))) (Nat.le_refl _) hl HPU.out).mono ?_
       rintro e W4 ⟨A2, c2, rfl, k4, C4, m4⟩
       have n4 : Mod W3 W4 [] := by
         refine Mod.trans ?_ m4 (by simp)
         (with_reducible repeat (first | exact Mod.refl _ _ | refine Mod.drewN ?_ _ | refine Mod.drew ?_))
       have hv4 := n4.at_ H3.out.2.1 (by simp)
       have q0 : W4.cell? ⟨b, 0, none⟩ = some (.int .u64 v0) := (blk_cell (hv4) 0).trans rfl
       have q1 : W4.cell? ⟨b, 1, none⟩ = some (.int .u32 v1) := (blk_cell (hv4) 1).trans rfl
       have q2 : W4.cell? ⟨b, 2, none⟩ = some (.int .u32 v2) := (blk_cell (hv4) 2).trans rfl
       have q3 : W4.cell? ⟨b, 3, none⟩ = some (.int .u32 v3) := (blk_cell (hv4) 3).trans rfl
       have q4 : W4.cell? ⟨b, 4, none⟩ = some (.string v4) := (blk_cell (hv4) 4).trans rfl
       have q5 : W4.cell? ⟨b, 5, none⟩ = some (.bool v5) := (blk_cell (hv4) 5).trans rfl
       have H4 := Lib.hid (And.intro n4 (And.intro hv4 (And.intro k4 C4)))
       clear m4 n4 hv4 k4 C4))
  clear p0 p1 p2 p3 p4 p5
  go_wp2_with fail
  refine (rputC_calls v0 v1 v2 v3 v4 v5 (Kd.C_below H3.out.2.2.2.1 (Mod.bel H4.out.1)) HC.out hl HPU.out).mono ?_
  rintro e W5 ⟨A5, c5, rfl, k5, C5, m5⟩
  have hm5 := H4.out.1.trans m5 (by simp)
  have ht5 := hm5.at_ H3.out.2.2.1 (by simp)
  have s0 : W5.cell? ⟨b + 1, 0, none⟩ = some (.int .u64 t0) := (blk_cell (ht5) 0).trans rfl
  have s1 : W5.cell? ⟨b + 1, 1, none⟩ = some (.int .u32 t1) := (blk_cell (ht5) 1).trans rfl
  have H5 := Lib.hid (And.intro (H3.out.1.trans hm5 (by simp)) (And.intro ht5 (And.intro (Kd.C_below H3.out.2.2.2.1 (Mod.bel hm5)) (And.intro (Kd.C_below H3.out.2.2.2.2 (Mod.bel hm5)) (And.intro (Kd.C_below H4.out.2.2.2 (Mod.bel m5)) C5)))))
  clear m5 hm5 ht5 C5 k5 q0 q1 q2 q3 q4 q5
  obtain ⟨⟨y0, y1, y2, y3, y4, y5, y6⟩, hse⟩ : ∃ r, seeR l t0 t1 = r := ⟨_, rfl⟩
  have HSE := Lib.hid hse
  obtain ⟨bb, hbb⟩ : ∃ bb, rightB l = bb := ⟨_, rfl⟩
  have HBB := Lib.hid hbb
  obtain ⟨⟨n0, n1⟩, hnw⟩ : ∃ r, nwR l = r := ⟨_, rfl⟩
  obtain ⟨pr, hpr⟩ : ∃ r, prR l t0 t1 = r := ⟨_, rfl⟩
  have hpl := prR_len hl t0 t1
  rw [hpr] at hpl
  have HQ := Lib.hid (And.intro hnw hpr)
  have HPR := Lib.hid hpl
  clear hse hbb hnw hpr hpl
  go_wp2_with fail
  refine (cat_calls t0 t1 H5.out.2.2.2.1 HL1.out hl HSE.out).mono ?_
  rintro e W6 ⟨rfl, m6⟩
  have h6 := H5.out.2.1
  have m6' := m6.alloc (.cells #[.int .u64 y0, .int .u32 y1, .int .u32 y2, .int .u32 y3, .string y4, .bool y5] 31)
  have hy6 := blk_new W6 (.cells #[.int .u64 y0, .int .u32 y1, .int .u32 y2, .int .u32 y3, .string y4, .bool y5] 31)
  have ht6 := m6'.at_ H5.out.2.1 (by simp)
  have u0 : (W6.alloc (.cells #[.int .u64 y0, .int .u32 y1, .int .u32 y2, .int .u32 y3, .string y4, .bool y5] 31)).cell? ⟨b + 1, 0, none⟩ = some (.int .u64 t0) := (blk_cell (ht6) 0).trans rfl
  have u1 : (W6.alloc (.cells #[.int .u64 y0, .int .u32 y1, .int .u32 y2, .int .u32 y3, .string y4, .bool y5] 31)).cell? ⟨b + 1, 1, none⟩ = some (.int .u32 t1) := (blk_cell (ht6) 1).trans rfl
  have H6 := Lib.hid (And.intro m6' hy6)
  clear m6 m6' hy6 ht6 h6 s0 s1
  go_wp2_with fail
  generalize W6.alloc (.cells #[.int .u64 y0, .int .u32 y1, .int .u32 y2, .int .u32 y3, .string y4, .bool y5] 31) = W7 at *
  generalize W6.heap.size = qa at *
  refine (rat_calls t0 t1 (Kd.C_below H5.out.2.2.1 (Mod.bel H6.out.1)) HC.out hl HSE.out).mono ?_
  rintro e W8 ⟨rfl, m8⟩
  have m8' := m8.alloc (.cells #[.int .u64 y0, .int .u32 y1, .int .u32 y2, .int .u32 y3, .string y4, .bool y5] 31)
  have hy8 := blk_new W8 (.cells #[.int .u64 y0, .int .u32 y1, .int .u32 y2, .int .u32 y3, .string y4, .bool y5] 31)
  have hyA := m8'.at_ H6.out.2 (by simp)
  have H8 := Lib.hid (And.intro (H6.out.1.trans m8' (by simp)) (And.intro hyA hy8))
  clear m8 m8' hy8 hyA u0 u1
  go_wp2_with fail
  generalize W8.alloc (.cells #[.int .u64 y0, .int .u32 y1, .int .u32 y2, .int .u32 y3, .string y4, .bool y5] 31) = W9 at *
  generalize W8.heap.size = qb at *
  refine (cright_calls (Kd.C_below H5.out.2.2.2.1 (Mod.bel H8.out.1)) HL1.out hl HBB.out).mono ?_
  rintro e W10 ⟨rfl, m10⟩
  have H10 := Lib.hid (H8.out.1.trans m10 (by simp))
  have H10a := Lib.hid m10
  clear m10
  go_wp2_with fail
  refine (rright_calls (Kd.C_below H5.out.2.2.1 (Mod.bel H10.out)) HC.out hl HBB.out).mono ?_
  rintro e W11 ⟨rfl, m11⟩
  have H11 := Lib.hid (H10.out.trans m11 (by simp))
  have H11a := Lib.hid (H10a.out.trans m11 (by simp))
  clear m11
  go_wp2_with fail
  refine (rsame_calls (l := r1) rfl rfl (Kd.C_below H5.out.2.2.2.2.1 (Mod.bel H11.out)) (Kd.C_below H5.out.2.2.2.2.2 (Mod.bel H11.out)) HR1.out).mono ?_
  rintro e W12 ⟨rfl, m12⟩
  have n12 := H11a.out.trans m12 (by simp)
  have ha12 := n12.at_ H8.out.2.1 (by simp)
  have hb12 := n12.at_ H8.out.2.2 (by simp)
  have ga0 : W12.cell? ⟨qa, 0, none⟩ = some (.int .u64 y0) := (blk_cell (ha12) 0).trans rfl
  have ga1 : W12.cell? ⟨qa, 1, none⟩ = some (.int .u32 y1) := (blk_cell (ha12) 1).trans rfl
  have ga2 : W12.cell? ⟨qa, 2, none⟩ = some (.int .u32 y2) := (blk_cell (ha12) 2).trans rfl
  have ga3 : W12.cell? ⟨qa, 3, none⟩ = some (.int .u32 y3) := (blk_cell (ha12) 3).trans rfl
  have ga4 : W12.cell? ⟨qa, 4, none⟩ = some (.string y4) := (blk_cell (ha12) 4).trans rfl
  have ga5 : W12.cell? ⟨qa, 5, none⟩ = some (.bool y5) := (blk_cell (ha12) 5).trans rfl
  have gb0 : W12.cell? ⟨qb, 0, none⟩ = some (.int .u64 y0) := (blk_cell (hb12) 0).trans rfl
  have gb1 : W12.cell? ⟨qb, 1, none⟩ = some (.int .u32 y1) := (blk_cell (hb12) 1).trans rfl
  have gb2 : W12.cell? ⟨qb, 2, none⟩ = some (.int .u32 y2) := (blk_cell (hb12) 2).trans rfl
  have gb3 : W12.cell? ⟨qb, 3, none⟩ = some (.int .u32 y3) := (blk_cell (hb12) 3).trans rfl
  have gb4 : W12.cell? ⟨qb, 4, none⟩ = some (.string y4) := (blk_cell (hb12) 4).trans rfl
  have gb5 : W12.cell? ⟨qb, 5, none⟩ = some (.bool y5) := (blk_cell (hb12) 5).trans rfl
  have n5 := H11.out.trans m12 (by simp)
  have ht12 := n5.at_ H5.out.2.1 (by simp)
  have k0 : W12.cell? ⟨b + 1, 0, none⟩ = some (.int .u64 t0) := (blk_cell (ht12) 0).trans rfl
  have k1 : W12.cell? ⟨b + 1, 1, none⟩ = some (.int .u32 t1) := (blk_cell (ht12) 1).trans rfl
  have HV := Lib.hid (And.intro (Kd.C_below H5.out.2.2.1 (Mod.bel n5)) (And.intro (Kd.C_below H5.out.2.2.2.1 (Mod.bel n5)) (H5.out.1.trans n5 (by simp))))
  clear m12 n12 ha12 hb12 n5 ht12
  go_upto_region 12 with fail
  generalize W12 = V at *
  go_region_held3 (fun w' => w'.cell? ⟨b + 1, 0, none⟩ = some (.int .u64 t0) ∧ w'.cell? ⟨b + 1, 1, none⟩ = some (.int .u32 t1)) (go_keep) (first
     | (go_at_call 23
        with_reducible refine (cnew_calls (Kd.C_below HV.out.2.1 (Mod.bel (by (with_reducible repeat (first | exact Mod.refl _ _ | exact N6.out | exact N5.out | exact N4.out | exact N3.out | exact N2.out | exact N1.out | refine Mod.drewN ?_ _ | refine Mod.drew ?_))))) HL1.out hl HQ.out.1).mono ?_
        rintro e Z1 ⟨rfl, z1⟩
        have n1 : Mod V Z1 [] := by
          refine Mod.trans ?_ z1 (by simp)
          (with_reducible repeat (first | exact Mod.refl _ _ | exact N6.out | exact N5.out | exact N4.out | exact N3.out | exact N2.out | exact N1.out | refine Mod.drewN ?_ _ | refine Mod.drew ?_))
        have x1 := Mod.cellN n1 k0 (by simp)
        have w1 := Mod.cellN n1 k1 (by simp)
        have N1 := Lib.hid n1
        clear z1 n1) 
     | (go_at_call 24
        with_reducible refine (rnew_calls (Kd.C_below HV.out.1 (Mod.bel (by (with_reducible repeat (first | exact Mod.refl _ _ | exact N6.out | exact N5.out | exact N4.out | exact N3.out | exact N2.out | exact N1.out | refine Mod.drewN ?_ _ | refine Mod.drew ?_))))) HC.out hl HQ.out.1).mono ?_
        rintro e Z2 ⟨rfl, z2⟩
        have n2 : Mod V Z2 [] := by
          refine Mod.trans ?_ z2 (by simp)
          (with_reducible repeat (first | exact Mod.refl _ _ | exact N6.out | exact N5.out | exact N4.out | exact N3.out | exact N2.out | exact N1.out | refine Mod.drewN ?_ _ | refine Mod.drew ?_))
        have x2 := Mod.cellN n2 k0 (by simp)
        have w2 := Mod.cellN n2 k1 (by simp)
        have N2 := Lib.hid n2
        clear z2 n2) 
     | (go_at_call 18
        with_reducible refine (cprune_calls t0 t1 (Kd.C_below HV.out.2.1 (Mod.bel (by (with_reducible repeat (first | exact Mod.refl _ _ | exact N6.out | exact N5.out | exact N4.out | exact N3.out | exact N2.out | exact N1.out | refine Mod.drewN ?_ _ | refine Mod.drew ?_))))) HL1.out hl HQ.out.2).mono ?_
        rintro e Z3 ⟨A3, c3, rfl, k3, C3, z3⟩
        have n3 : Mod V Z3 [] := by
          refine Mod.trans ?_ z3 (by simp)
          (with_reducible repeat (first | exact Mod.refl _ _ | exact N6.out | exact N5.out | exact N4.out | exact N3.out | exact N2.out | exact N1.out | refine Mod.drewN ?_ _ | refine Mod.drew ?_))
        have x3 := Mod.cellN n3 k0 (by simp)
        have w3 := Mod.cellN n3 k1 (by simp)
        have N3 := Lib.hid n3
        have HP3 := Lib.hid (And.intro k3 C3)
        clear z3 n3) 
     | (go_at_call 25
        with_reducible refine (rpruneC_calls t0 t1 (Kd.C_below HV.out.1 (Mod.bel (by (with_reducible repeat (first | exact Mod.refl _ _ | exact N6.out | exact N5.out | exact N4.out | exact N3.out | exact N2.out | exact N1.out | refine Mod.drewN ?_ _ | refine Mod.drew ?_))))) HC.out hl HQ.out.2).mono ?_
        rintro e Z4 ⟨A4, c4, rfl, k4, C4, z4⟩
        have n4 : Mod V Z4 [] := by
          refine Mod.trans ?_ z4 (by simp)
          (with_reducible repeat (first | exact Mod.refl _ _ | exact N6.out | exact N5.out | exact N4.out | exact N3.out | exact N2.out | exact N1.out | refine Mod.drewN ?_ _ | refine Mod.drew ?_))
        have x4 := Mod.cellN n4 k0 (by simp)
        have w4 := Mod.cellN n4 k1 (by simp)
        have N4 := Lib.hid n4
        have n34 : Mod Z3 Z4 [] := by
          refine Mod.trans ?_ z4 (by simp)
          (with_reducible repeat (first | exact Mod.refl _ _ | refine Mod.drewN ?_ _ | refine Mod.drew ?_))
        have HP4 := Lib.hid (And.intro (Kd.C_below HP3.out.2 (Mod.bel n34)) C4)
        clear z4 n4) 
     | (go_at_call 14
        with_reducible refine (rsame_calls (l := pr) rfl rfl (by first | exact HP4.out.1 | exact Kd.C_drewN HP4.out.1 _ | exact Kd.C_drew HP4.out.1) (by first | exact HP4.out.2 | exact Kd.C_drewN HP4.out.2 _ | exact Kd.C_drew HP4.out.2) HPR.out).mono ?_
        rintro e Z5 ⟨rfl, z5⟩
        have n5 : Mod V Z5 [] := by
          refine Mod.trans ?_ z5 (by simp)
          (with_reducible repeat (first | exact Mod.refl _ _ | exact N6.out | exact N5.out | exact N4.out | exact N3.out | exact N2.out | exact N1.out | refine Mod.drewN ?_ _ | refine Mod.drew ?_))
        have x5 := Mod.cellN n5 k0 (by simp)
        have w5 := Mod.cellN n5 k1 (by simp)
        have N5 := Lib.hid n5
        clear z5 n5) 
     | (go_at_call 14
        with_reducible refine (rsame_calls (l := l) rfl rfl (Kd.C_below HV.out.2.1 (Mod.bel (by (with_reducible repeat (first | exact Mod.refl _ _ | exact N6.out | exact N5.out | exact N4.out | exact N3.out | exact N2.out | exact N1.out | refine Mod.drewN ?_ _ | refine Mod.drew ?_))))) (Kd.C_below HV.out.1 (Mod.bel (by (with_reducible repeat (first | exact Mod.refl _ _ | exact N6.out | exact N5.out | exact N4.out | exact N3.out | exact N2.out | exact N1.out | refine Mod.drewN ?_ _ | refine Mod.drew ?_))))) hl).mono ?_
        rintro e Z6 ⟨rfl, z6⟩
        have n6 : Mod V Z6 [] := by
          refine Mod.trans ?_ z6 (by simp)
          (with_reducible repeat (first | exact Mod.refl _ _ | exact N6.out | exact N5.out | exact N4.out | exact N3.out | exact N2.out | exact N1.out | refine Mod.drewN ?_ _ | refine Mod.drew ?_))
        have x6 := Mod.cellN n6 k0 (by simp)
        have w6 := Mod.cellN n6 k1 (by simp)
        have N6 := Lib.hid n6
        clear z6 n6))
  all_goals
    go_wp2
    go_ret
    exact ⟨rfl, HV.out.2.2.trans N6.out (by simp)⟩
def dovecotelaw07_ChainTells.f (k : Nat) (l0 : List S31) (a1_0 a1_1 a1_2 a1_3 : Int) (a1_4 : ByteArray) (a1_5 : Bool) (a2_0 a2_1 : Int) : Option Bool := some true
theorem dovecotelaw07_ChainTells.calls (k : Nat) (A0 : Option Addr) (c0 : Nat) (l0 : List S31) (a1_0 : Int) (a1_1 : Int) (a1_2 : Int) (a1_3 : Int) (a1_4 : ByteArray) (a1_5 : Bool) (a2_0 : Int) (a2_1 : Int) (r : Bool) (w : World) (hr0 : Kd.C k31 w A0 l0.length l0) (hc0 : l0.length ≤ c0) (h : dovecotelaw07_ChainTells.f k l0 a1_0 a1_1 a1_2 a1_3 a1_4 a1_5 a2_0 a2_1 = some r) :
    Calls Try.prog 5 #[.slice A0 l0.length c0, .agg #[.int .u64 a1_0, .int .u32 a1_1, .int .u32 a1_2, .int .u32 a1_3, .string a1_4, .bool a1_5], .agg #[.int .u64 a2_0, .int .u32 a2_1]] w fun e w' => e = .returned (.bool r) ∧ Below w.heap.size w w' := by
  obtain rfl : true = r := Option.some.inj h
  exact (tells_calls a1_0 a1_1 a1_2 a1_3 a1_4 a1_5 a2_0 a2_1 hr0 hc0).mono fun e w' ⟨h1, h2⟩ => ⟨h1, Mod.bel h2⟩
end Go.Proofs.Ytomcjcoehahikaa.Sto
